/-
  Made short by a program of mine (wip/tools/mini.py).
-/
import Derived.Test.YtipnkibclflleaaGreatS34x1
import Derived.Lib.Builder
import Derived.Lib.UnsafeStr
import Derived.Lib.AppendZeros
import Derived.Maps.RangeRun
set_option linter.unusedVariables false
set_option linter.unusedSimpArgs false
set_option maxRecDepth 100000
set_option synthInstance.maxSize 5000
open Go renaming IntKind->ki,FuncId->fw,Operand->bI,Program->aL,World->bV,MapEntry->fO
open List renaming replicate->ai,length->ae
open UInt8 renaming ofNat->fm
open Nat renaming beq->ia
open Go.World renaming cell?->eI
open Go.Sem renaming run_bind->cg,run_pure->dK
open Go.Result renaming andThen_ok->bE
open Go.Addr renaming add_lit->fv
open Go.Op renaming equalIn->c7,operands->bX
open Int renaming toNat_natCast->aa
open Go.Call renaming operands->dR
open Option renaming some->au,none->aH
open Bool renaming true->aO,false->aV
noncomputable section
namespace Go.Ab
section
variable {P:aL} {C:Ctx} {g:Nat->lA} {β:Id->Option Pl} {s:AS} {a:Act} {w:bV} {o:Oper}
theorem As{b:Builtin}{args:Array bI}{ts:Array TypeId}{f:Sem Value}{x:Value}{w':bV}(ho:o.op= .call {callee:= .builtin b,args,argTypes:=ts})
  (hb:∀ty cs xs,xs=args.map a.eval->builtin b ts ty cs xs=(do pure (.value (<-f)))) (hf:f.run P w= .ok x w'):(execOp a.eval o).run P w= .ok (.value x) w':=by
 simp only[execOp,ho,resolve,cg,dK,bE,invoke];rw[hb _ _ _ rfl,cg,hf];rfl
theorem atF(h:Inv C g β s a w){c:Call}{x:bI}{T:TypeId}(ho:o.op= .call c)(hc:c.callee= .builtin .len)(ha:c.args.toList=[x])(ht:c.argTypes.toList=[T]){v:aF}(he:(ayB P T (s.ev x)).eval=au v):
  fG P o a w (gW C (s.put o.dst v)):=by
 obtain⟨cal,args,tys⟩:=c;simp only at hc ha ht;have ha':args= #[x]:=by apply gv;simpa using ha
 have ht':tys= #[T]:=by apply gv;simpa using ht
 subst hc ha' ht';have hx:=h.ev x;have fin:∀z,(Builtin.len_ #[T] 0 #[a.eval x]).run P w= .ok z w->VS (s.env w g β) v z->fG P o a w (gW C (s.put o.dst v)):=by intro z h1 h2;refine h.value h2 (As ho (f:=Builtin.len_ #[T] 0 #[a.eval x]) (λty cs xs agx=> ?_) h1);subst agx;have e1:Builtin.len_ #[T] 0 #[a.eval x]=Builtin.len_ #[T] ty #[a.eval x]:=rfl;rw[e1];simp[builtin]
 unfold ayB at he;split at he
 ·rename_i st hT hl;rw[hl]at hx;obtain rfl:=ay.1 he;refine fin (.int .i64 (st.size:Int)) ?_ (kS _ _)
  rw[Fu hx];simp[Builtin.len_,run_underlying hT,goInt]
 ·rename_i e t l hT hl;rw[hl]at hx;obtain rfl:=ay.1 he;obtain⟨ad,cap,vs,hy,_⟩:=sK hx;refine fin (.int .i64 (l.length:Int)) ?_ (kS _ _)
  rw[hy];simp[Builtin.len_,run_underlying hT,goInt]
 ·rename_i e hT hl;rw[hl]at hx;obtain rfl:=ay.1 he;refine fin (.int .i64 0) ?_ (kS _ _)
  rw[kH hx];simp[Builtin.len_,run_underlying hT,goInt]
 ·rename_i e id ver p c i len hT hl;rw[hl]at hx;obtain rfl:=ay.1 he;obtain⟨ad,cap,hy,_⟩:=qn hx;refine fin (.int .i64 (len:Int)) ?_ (kS _ _)
  rw[hy];simp[Builtin.len_,run_underlying hT,goInt]
 ·rename_i n e hT;obtain rfl:=ay.1 he;refine fin (.int .i64 (n:Int)) ?_ (kS _ _)
  simp[Builtin.len_,run_underlying hT,goInt]
 ·simp only[av]at he
def Env.open(E:Env):Env:= {E with g:=λ_=> .free}
theorem ayY(E:Env):cP E E.open:=⟨⟨λ_ _ _ h=>⟨h.1,trivial⟩,λ_ _ _ h=>⟨rfl,h⟩⟩,λ_ _ h=>h,λ_ _ _ h=>⟨h,rfl⟩⟩
theorem aiR(h:Inv C g β s a w){v:aF}{y:Value}(hv:VS (s.env w g β) v y){t:Ty}{x:t.den}(ht:(s.aiQ t v).eval=au x):
  ∃cs,cG (s.env w g β).open t cs x/\fT t.agg cs y:=by
 obtain⟨cs,hV,hO⟩:=hv.eJ (Ai ht);exact⟨cs,sO rfl h.bM (ayY _) v t x cs hV ht (λid _ v fr c _ pl _ j x hx _=>⟨hx,trivial⟩),by rw[<-UW ht];exact hO⟩
theorem vj{E:Env}{k:ki}:∀ {vs:List Value} {l:List Int},bq (cG E (.int k)) vs l->vs=l.map (Value.int k)
 |vs,[],h=>h
 |_,x::xs,⟨c,cs',e,hx,hr⟩=>by
  have hx':c=[Value.int k x]:=by simpa only[cG]using hx
  rw[e,hx',vj hr];rfl
theorem vp{E:Env}{k:ki}:∀(l:List Int),bq (cG E (.int k)) (l.map (Value.int k)) l
 |[]=>rfl
 |x::xs=>⟨[.int k x],xs.map (Value.int k),rfl,by simp[cG],vp xs⟩
theorem foldl_push(l:List Int):∀b:ByteArray,l.foldl (λr n=>r.push (fm n.toNat)) b=⟨b.data++(l.map λn=>fm n.toNat).toArray⟩:=by
 induction l with
 |nil=>intro b;simp
 |cons n l ih=>
  intro b;rw[bJ,ih];simp[ByteArray.push]
theorem afm{α:Type}(xs:Array α)(x:α)(f:α->α):(xs.push x).modify xs.size f=xs.push (f x):=by
 apply qp;intro i;rw[gD,Array.getElem?_push,Array.getElem?_push];by_cases h:i=xs.size
 ·subst h;simp
 ·have h':¬xs.size=i:=λe=>h e.symm
  simp[h,h']
theorem ZX(w:bV)(c:Array Value)(e:TypeId)(n:Nat):(w.alloc (.cells c e)).freeze ⟨w.heap.size,n,aH⟩ 1=w.alloc (.cells c e (n,n+1)):=by show({w with heap:=(w.heap.push (.cells c e)).modify w.heap.size _}:bV)= {w with heap:=w.heap.push (.cells c e (n,n+1))};rw[afm];rfl
theorem adC{w:bV}{b:Nat}{c:Array Value}{e:TypeId}{n:Nat}(h:w.heap[b]? =au (.cells c e (n,n+1))):w.freeze ⟨b,n,aH⟩ 1=w:=by
 unfold World.freeze;rw[if_neg aq];have:∀f:Obj->Obj,f (.cells c e (n,n+1))= .cells c e (n,n+1)->w.heap.modify b f=w.heap:=λf hf=>by
  apply qp;intro i;rw[gD];split
  ·rename_i hi;subst hi;rw[h];simp[hf]
  ·rfl
 rw[this];simp
theorem Lv(e:TypeId)(st:ByteArray)(w:bV):∃cap:Nat,st.size<=cap/\∃arr:Array Value,(∀(j:Nat) (v:Value),((cH st).map (Value.int .u8))[j]? =au v->arr[j]? =au v)/\
  (Conv.stringToBytes e st).run P w= .ok (.slice (au ⟨w.heap.size,0,aH⟩) st.size cap) (w.drew.alloc (.cells arr e (arr.size,arr.size+1))):=by
 refine⟨(Question.appendCap st.size 0 e).cut (w.tape w.drawn (.appendCap st.size 0 e)),by simp[Question.cut],
  (st.data.map λb=>Value.int .u8 b.toNat)++Array.replicate ((Question.appendCap st.size 0 e).cut (w.tape w.drawn (.appendCap st.size 0 e)) - st.size) (.int .u8 0),?_,?_⟩
 ·intro j v hj;have hl:j < st.data.size:=by have:=(dF.1 hj).1;simpa[cH]using this
  rw[jZ,if_pos (by simpa using hl)];simpa[cH,hl]using hj
 ·have hs:∀(arr:Array Value),(markStringish ⟨w.heap.size,0,aH⟩).run P (w.drew.alloc (.cells arr e))= .ok () (w.drew.alloc (.cells arr e (arr.size,arr.size+1))):=by
   intro arr;have h1:(w.drew.alloc (.cells arr e)).shape? w.heap.size=au (e,arr.size):=by
    have h2:(w.drew.alloc (.cells arr e)).heap[w.heap.size]? =au (.cells arr e):=rV w.drew _
    simp only[World.shape?,h2]
   have h3:=ZX w.drew arr e arr.size;have h4:w.drew.heap.size=w.heap.size:=rfl;rw[h4]at h3;simp only[markStringish,cg,run_shape,h1,bE,run_freeze,h3]
  simp[Conv.stringToBytes,Question.forced,newRow,hs]
theorem Inv.kill(h:Inv C g β s a w){id:Id}{v:Nat}{fr:Bool}{c:aF}(hs:s.bS id=au (.obj v fr c)){b:Nat}(hg:g b= .own (.id id) 0){w':bV}(aAE:w'.os=w.os)(aHs:w'.tape=w.tape)(Z5:w'.output=w.output/\w.drawn<=w'.drawn)(re:w'.heap.size=w.heap.size)
  (Gv:∀b',b'≠b->w'.heap[b']? =w.heap[b']?):Inv C (mM g b .free) β (s.aY id .dead) a w':=by
 have ht:Trans w w' g (mM g b .free):=by
  refine⟨aAE,aHs,Z5,aq,λb' hb'=> ?_⟩;by_cases he:b'=b
  ·subst he;rw[hg,fI];exact⟨.inl rfl,λ_ _ hh=>aq⟩
  ·rw[fD _ _ _ he,Gv b' he];cases P4:g b' with
   |free=>exact⟨rfl,rfl⟩
   |own o k=>cases o with
    |ez=>exact⟨rfl,rfl⟩
    |id i=>exact⟨.inr ⟨i,k,rfl,aC _⟩,λoff v _ hv=>by simp only[eI,Gv b' he]at hv ⊢;exact hv⟩
 have kC:=eu s id .dead (by rw[hs];simp);have hle:cP (s.env w g β) ((s.aY id .dead).env w' (mM g b .free) β):=by
  refine⟨Trans.mem ht,λi ver hb=> ?_,λi ver hb hc=> ?_⟩
  ·by_cases hi:i=id
   ·subst hi;exact⟨by show(s.aY i .dead).bS i≠aH;rw[kC];simp,λv fr c hh=>by
     have hh:(s.aY i .dead).bS i=au (.obj v fr c):=hh;rw[kC]at hh;cases hh⟩
   ·have:=cX s id i .dead hi;obtain⟨h1,h2⟩:=hb;exact⟨by show(s.aY id .dead).bS i≠aH;rw[this];exact h1,λv fr c hh=>h2 v fr c (this.symm.trans hh)⟩
  ·obtain⟨fr,c,hc⟩:=hc;have hc:(s.aY id .dead).bS i=au (.obj ver fr c):=hc;by_cases hi:i=id
   ·subst hi;rw[kC]at hc;cases hc
   ·rw[cX s id i .dead hi]at hc;exact⟨⟨fr,c,hc⟩,rfl⟩
 refine h.step (dh _ _ _) ht hle λi ver fr c hi=> ?_
 have hi:(s.aY id .dead).bS i=au (.obj ver fr c):=hi;by_cases c8:i=id
 ·subst c8;rw[kC]at hi;cases hi
 ·rw[cX s id i .dead c8]at hi;refine(h.bM i ver fr c hi).mono hle rfl (λpl hp=> ?_) λq2 vq k2 v2 l2 MP aI0=> ?_
  ·have gV:=h.apart hg c8 hi (pl:=pl) hp;exact⟨Gv pl.b gV,fD _ _ _ gV⟩
  ·have MP:s.bS q2=au (.obj vq aO (.mp k2 v2 l2)):=MP;have hd:q2≠id:=λe=>by obtain⟨fr3,c3,aAt⟩:=aI0;have aAt:(s.aY id .dead).bS q2=au (.obj vq fr3 c3):=aAt;rw[e,kC]at aAt;cases aAt
   refine⟨⟨k2,v2,l2,by show(s.aY id .dead).bS q2=_;rw[cX s id q2 .dead hd];exact MP⟩,λpl hp=> ?_⟩;have gV:=h.apart hg hd MP (pl:=pl) hp;exact⟨Gv pl.b gV,fD _ _ _ gV⟩
theorem ahn(h:Inv C g β s a w){src dst:TypeId}{x:bI}(ho:o.op= .convert src dst x){id:Id}{ver len:Nat}(hx:s.ev x= .cM id ver [] 0 0 len){s':AS}(he:(acY P s o.dst src dst id ver len).eval=au s'):fG P o a w (gW C s'):=by
 unfold acY at he;split at he
 ·rename_i v e0 l e j6 hD;split at he
  ·rename_i hE;obtain⟨h1,h2⟩:=aI.1 he;obtain⟨h3,h4⟩:=bQ.1 h2;obtain rfl:=ay.1 h4;simp only[al,dw]at h1;obtain⟨rfl,rfl⟩:=h1;simp only[aR]at h3;obtain⟨h5,h6⟩:=h3;have cI:=dO j6;have hv:=h.ev x;rw[hx]at hv;obtain⟨ad,cap,hy,J2,_,_,fE⟩:=qn hv;have fE:=fE ⟨aV,_,cI⟩;have hO:u6 (s.env w g β) id aV (.vec e0 (.int .u8) l):=h.bM id v aV _ cI;obtain⟨hz,hO⟩:=hO;have hO:(match β id with
    |none=>l=[]
    |some pl=>∃cur k,w.heap[pl.b]? =au (.cells cur e0 (0,0))/\cur.size=pl.cap*(Ty.int .u8).size/\l.length<=pl.cap/\pl.cap<=maxLen/\g pl.b= .own (.id id) k/\
      k<=l.length*(Ty.int .u8).size/\(aV=aV->k=0)/\bq (cG (s.env w g β) (.int .u8)) (cur.toList.take (l.length*(Ty.int .u8).size)) l):=hO
   have fE:(match β id with
    |some pl=>(0 < len\/0=0->ad=au ⟨pl.b,0,aH⟩)/\(([]:List Gs)=[]->0=0->cap=pl.cap)
    |none=>ad=aH/\len=0/\cap=0):=fE
   cases hp:β id with
   |none=>rw[hp]at hO;simp only at hO;subst hO;simp at h6;omega
   |some pl=>
    rw[hp]at hO fE;obtain⟨cur,k,q1,q2,q3,q4,q5,q6,q7,q8⟩:=hO;have hk:=q7 rfl;subst hk;have ahS:=fE.1 (.inr rfl);subst ahS;have hb:pl.b < w.heap.size:=(bN.1 q1).1;have aEJ:∃w',w.freeze ⟨pl.b,cur.size,aH⟩ 1=w'/\w'.heap[pl.b]? =au (.cells cur e0 (cur.size,cur.size+1))/\w'.os=w.os/\w'.tape=w.tape/\(w'.output=w.output/\w.drawn<=w'.drawn)/\w'.heap.size=w.heap.size/\∀b',b'≠pl.b->w'.heap[b']? =w.heap[b']? :=by
     refine⟨_,rfl,?_⟩;unfold World.freeze;rw[if_neg aq];refine⟨?_,rfl,rfl,⟨rfl,aC _⟩,by simp,λb' hb'=> ?_⟩
     ·simp only[gD,cZ,q1,dT];rfl
     ·simp only[gD];rw[if_neg (λe=>hb' e.symm)]
    obtain⟨w',hw',f1,f2,f3,f4,f5,f6⟩:=aEJ;have ahY:w.shape? pl.b=au (e0,cur.size):=by simp only[World.shape?,q1]
    have hm:(markStringish ⟨pl.b,0,aH⟩).run P w= .ok () w':=by simp only[markStringish,cg,run_shape,ahY,bE,run_freeze,hw']
    have i1:=h.kill cI q5 f2 f3 f4 f5 f6;refine .inl ⟨.slice (au ⟨pl.b,0,aH⟩) len cap,w',dU (f:=convert src src (a.eval x)) (by simp only[execOp,ho]) ?_,_,β,i1.put o.dst ⟨_,?_,rfl⟩⟩
    ·rw[hy];simp[convert,run_underlying hD,run_underlying hE,hm]
    ·have J9:=vj q8;have Z4:(Ty.int .u8).size=1:=rfl;rw[Z4,jy]at J9;simp only[V,cG];refine⟨_,cap,l.map (Value.int .u8),by rw[h6],by rw[<-h6];exact J2,λ_=>rfl,λj vv hj=>⟨_,_,rfl,?_,?_⟩,vp (E:=(s.aY id .dead).env w' (mM g pl.b .free) β) _⟩
     ·rw[aU];show w'.cell? ⟨pl.b,j,aH⟩=au vv;simp only[eI,f1];rw[<-J9,cU]at hj;split at hj
      ·simpa using hj
      ·cases hj
     ·show rH (mM g pl.b .free) pl.b (0+j);unfold rH;rw[fI];trivial
  ·simp only[av]at he
 ·simp only[av]at he
theorem axB(h:Inv C g β s a w){src dst:TypeId}{x:bI}(ho:o.op= .convert src dst x){l:List Int}(hl:s.ev x= .sb l){v:aF}(he:(ar8 P src dst l).eval=au v):fG P o a w (gW C (s.put o.dst v)):=by
 have hx:=h.ev x;have fin:∀z,(convert src dst (a.eval x)).run P w= .ok z w->VS (s.env w g β) v z->fG P o a w (gW C (s.put o.dst v)):=by intro z h1 h2;exact h.value h2 (dU (f:=convert src dst (a.eval x)) (by simp only[execOp,ho]) h1)
 unfold ar8 at he;split at he
 ·rename_i e e' hD hS;rw[hl]at hx;split at he
  ·rename_i hE;obtain⟨h1,h2⟩:=aI.1 he;obtain rfl:=ay.1 h2;have h1:src=dst:=by simpa using h1
   subst h1;obtain⟨cs,hv,hO⟩:=hx;simp only[V]at hv;obtain⟨b,cap,arr,e2,anS,J2,aBX,hb,ahT⟩:=hv;have hO':cs=[a.eval x]:=hO;rw[anS]at hO';have hy:a.eval x= .slice (au ⟨b,0,aH⟩) l.length cap:=by simpa using hO'.symm
   rw[hD]at hS;obtain rfl:e=e':=by simpa using hS
   refine fin (.slice (au ⟨b,0,aH⟩) l.length cap) ?_ ⟨_,?_,rfl⟩
   ·rw[hy];have hb:w.heap[b]? =au (.cells arr e2 (arr.size,arr.size+1)):=hb
    have aEJ:=adC hb;have ahY:w.shape? b=au (e2,arr.size):=by simp only[World.shape?,hb]
    have hm:(markStringish ⟨b,0,aH⟩).run P w= .ok () w:=by simp only[markStringish,cg,run_shape,ahY,bE,run_freeze,aEJ]
    simp[convert,run_underlying hD,run_underlying hE,hm]
   ·simp only[V,cG];refine⟨_,cap,l.map (Value.int .u8),rfl,J2,λ_=>rfl,λj v hj=>⟨_,_,rfl,?_,?_⟩,vp (E:=s.env w g β) _⟩
    ·rw[aU];show w.cell? ⟨b,j,aH⟩=au v;have hb:w.heap[b]? =au (.cells arr e2 (arr.size,arr.size+1)):=hb
     simp only[eI,hb];simpa using ahT j v hj
    ·show rH g b (0+j);unfold rH;have aBX:g b= .free:=aBX;rw[aBX];trivial
  ·simp only[av]at he
 ·simp only[av]at he
theorem Zs(h:Inv C g β s a w){obj:Bool}{src dst:TypeId}{x:bI}(ho:o.op= .convert src dst x){v:aF}(he:(Xg P s obj src dst (s.ev x)).eval=au v):fG P o a w (gW C (s.put o.dst v)):=by
 have hx:=h.ev x;have fin:∀z,(convert src dst (a.eval x)).run P w= .ok z w->VS (s.env w g β) v z->fG P o a w (gW C (s.put o.dst v)):=by intro z h1 h2;exact h.value h2 (dU (f:=convert src dst (a.eval x)) (by simp only[execOp,ho]) h1)
 unfold Xg at he;split at he
 ·rename_i l hl;exact axB h ho hl he
 rename_i aAA;unfold ar7 at he;split at he
 ·rename_i k n k' d hl hD hS;rw[hl]at hx;obtain rfl:=ay.1 he;refine fin (.int k' (k'.wrap n)) ?_ (kS _ _)
  rw[tz hx];simp[convert,run_underlying hD,run_underlying hS,Conv.intToInt]
 ·rename_i st d hl hD hS;rw[hl]at hx;obtain rfl:=ay.1 he;refine fin (.string st) ?_ (Y2 _)
  rw[Fu hx];simp[convert,run_underlying hD,run_underlying hS]
 ·rename_i st e d hl hD hS;rw[hl]at hx;split at he
  ·rename_i hE;obtain⟨cap,J2,arr,ahT,pb⟩:=Lv (P:=P) e st w;have i1:=(h.drew).FT (.cells arr e (arr.size,arr.size+1));have hlen:(cH st).length=st.size:=by simp only[cH,bg,cO];rfl
   have h2:=rV w.drew (.cells arr e (arr.size,arr.size+1));have hex:(execOp a.eval o).run P w= .ok (.value (.slice (au ⟨w.heap.size,0,aH⟩) st.size cap)) (w.drew.alloc (.cells arr e (arr.size,arr.size+1))):=by
    refine dU (f:=convert src dst (a.eval x)) (by simp only[execOp,ho]) ?_
    rw[Fu hx];simp[convert,run_underlying hD,run_underlying hS,run_underlying hE,pb]
   have ak1:mM g w.drew.heap.size .free w.heap.size= .free:=by rw[show w.drew.heap.size=w.heap.size from rfl,fI]
   cases obj with
   |false=>
    obtain rfl:=ay.1 he;refine .inl ⟨_,_,hex,_,β,i1.put o.dst ⟨_,?_,rfl⟩⟩;simp only[V,cG];refine⟨_,cap,(cH st).map (Value.int .u8),by rw[hlen],aq,λ_=>rfl,λj v hj=>⟨_,_,rfl,?_,?_⟩,vp (E:=s.env (w.drew.alloc (.cells arr e (arr.size,arr.size+1))) (mM g w.drew.heap.size .free) β) _⟩
    ·have:=ahT j v hj;rw[aU];show(w.drew.alloc (.cells arr e (arr.size,arr.size+1))).cell? ⟨w.drew.heap.size,j,aH⟩=au v;simp only[eI,h2];simpa using this
    ·show rH (mM g w.drew.heap.size .free) w.heap.size (0+j);unfold rH;rw[ak1];trivial
   |true=>
    obtain rfl:=ay.1 he;refine .inl ⟨_,_,hex,_,β,i1.put o.dst ⟨_,?_,rfl⟩⟩;simp only[V];exact⟨w.heap.size,cap,arr,e,by rw[hlen],aq,ak1,h2,ahT⟩
  ·simp only[av]at he
 ·rename_i e hD hS gV;clear gV;split at he
  ·rename_i hE;obtain⟨l,h1,h2⟩:=aw.1 he;obtain rfl:=ay.1 h2;obtain⟨cs,hR,hO⟩:=aiR h hx h1;simp only[cG]at hR;obtain⟨ad,cap,vs,rfl,aqV,pK,pP,uq⟩:=hR;have hO': [Value.slice ad (ae l) cap]=[a.eval x]:=hO;have hy:a.eval x= .slice ad (ae l) cap:=by simpa using hO'.symm
   refine fin (.string (fC l)) ?_ (Y2 _)
   rw[hy,run_convert_bytes_string w src dst e ad _ _ hS hE hD];have J9:=vj (E:=(s.env w g β).open) (k:= .u8) (vs:=vs) (l:=l) uq;cases ad with
   |none=>
    have aAA:l=[]:=by
     cases l with
     |nil=>rfl
     |cons _ _=>simp at pK
    subst aAA;rfl
   |some ad=>
    have as9:(loadCells ad (ae l)).run P w= .ok (l.map (Value.int .u8)).toArray w:=by
     have:=run_loadCells_list (P:=P) w ad (l.map (Value.int .u8)) (λj v hj=>by
      rw[<-J9]at hj;obtain⟨bb,off,e1,hh⟩:=pP j v hj;simp only[az]at e1;subst e1;rw[fv];exact hh.1)
     simpa using this
    rw[run_bytesToString w ad _ _ l as9,foldl_push];simp[fC]
  ·simp only[av]at he
 ·simp only[av]at he
end
end Go.Ab
namespace Go.Ab
section
variable {P:aL} {C:Ctx} {g:Nat->lA} {β:Id->Option Pl} {s:AS} {a:Act} {w:bV} {o:Oper}
theorem Xx(off:Nat):∀(vs:List Value) (k:Nat) (cells:Array Value),off+k+vs.length<=cells.size->
  ((vs.zipIdx k).foldl (λcs (c,j)=>cs.setIfInBounds (off+j) c) cells).toList=dx cells.toList (off+k) vs
 |[],k,cells,_=>by simp[dx]
 |v::vs,k,cells,h=>by simp only[aB]at h;rw[List.zipIdx_cons,bJ,Xx off vs (k+1) _ (by simpa using(by omega:off+(k+1)+vs.length<=cells.size))];rw[Array.toList_setIfInBounds];have:=list_seg_step cells.toList (off+k) v vs (by simp;omega);unfold dx;simpa[dZ]using this
theorem Xv{place:Nat->Option (Nat×Nat)}{cells:Array Value}{i off:Nat}{v:Value}{vs:List Value}{rest:List (Nat×Value)}(hp:place i=au (off,vs.length))(hv:v.cells=vs.toArray)(hl:off+vs.length<=cells.size):
  Instr.fill place cells ((i,v)::rest)=Instr.fill place (dx cells.toList off vs).toArray rest:=by
 have h1:v.cells.size=vs.length:=by rw[hv];simp
 have h2:¬(v.cells.size≠vs.length || off+v.cells.size > cells.size)=aO:=by simp[h1];omega
 simp only[Instr.fill,hp];rw[if_neg h2];congr 1;apply gv;have:=Xx off vs 0 cells aq;simp only[ct]at this;rw[<-this,hv];rw[<-Array.foldl_toList];simp
theorem AY{E E':Env}(hs:E.s=s.bS)(ho:iR E)(he:cP E E'){t:Ty}(adR:∀x,VS E (s.ev x) (a.eval x)):
  ∀(ps:List (Nat×bI)) (l:List t.den) (r:List t.den×List Id) (cells:Array Value),(jm t s ps l).eval=au r->aD3 E E' r.2->bq (cG E' t) cells.toList l->
   ∃cells',Instr.fill (λi=>au (i*t.size,t.size)) cells (ps.map λ(i,x)=>(i,a.eval x))=au cells'/\bq (cG E' t) cells'.toList r.1
 |[],l,r,cells,h,_,hc=>by obtain rfl:=ay.1 h;exact⟨cells,rfl,hc⟩
 | (i,x)::ps,l,r,cells,h,hf,hc=>by
  simp only[jm]at h;obtain⟨h1,h2⟩:=aI.1 h;obtain⟨y,h3,h4⟩:=aw.1 h2;obtain⟨r',h5,h6⟩:=aw.1 h4;obtain rfl:=ay.1 h6;have hi:i < l.length:=by simpa using h1
  obtain⟨cs,hV,hO⟩:=(adR x).eJ (Ai h3);have hR:=sO hs ho he _ t y cs hV h3 (λid c8=>hf id (by simp[c8]));have Bt:=hO.cells hV.one;have hlen:=hc.length (λ_ _ hx=>cG.size hx);have re:=hR.size;have hle:i*t.size+cs.length<=cells.size:=by have:=cT t.size (show i+1<=l.length by omega);rw[eH,iv]at this;simp at hlen;omega
  have Z8:=bq.set (λ_ _ hx=>cG.size hx) hc i hi hR;obtain⟨cells',q1,q2⟩:=AY hs ho he adR ps (l.set i y) r' (dx cells.toList (i*t.size) cs).toArray h5 (λid c8=>hf id (by simp[c8])) Z8;refine⟨cells',?_,q2⟩;rw[bn,Xv (by rw[re]) Bt hle];exact q1
theorem sH{E:Env}{t:Ty}{zc:Array Value}(hz:cG E t zc.toList t.zero):∀n:Nat,bq (cG E t) (madeCells zc (n*t.size)).toList (ai n t.zero):=by
 have re:zc.size=t.size:=by have:=hz.size;simpa using this
 intro n
 induction n with
 |zero=>simp[madeCells,bq]
 |succ n ih=>
  have e:(madeCells zc ((n+1)*t.size)).toList=(madeCells zc (n*t.size)).toList++zc.toList:=by
   apply kj;intro j;rw[eH,iv];simp only[madeCells,Array.toList_map,Array.toList_range,ei,List.getElem?_append,bg,List.length_range];by_cases hj:j < n*t.size
   ·have hj':j < n*t.size+t.size:=aq;simp[hj,hj',re]
   ·by_cases hj':j < n*t.size+t.size
    ·have iJ:j - n*t.size < zc.size:=aq;have hm:j%t.size=j - n*t.size:=by
      have:j=(j - n*t.size)+t.size*n:=by rw[oW t.size n];omega
      rw[this,Nat.add_mul_mod_self_left,jN aq];rw[oW t.size n];omega
     simp[hj,hj',re,hm];rw[getElem?_pos zc _ iJ,kB zc _ iJ]
    ·have h1:¬j - n*t.size < zc.size:=aq;simp[hj,hj',h1]
  rw[e,List.replicate_succ'];exact bq.append ih (bq.one hz)
theorem pY{nl:Bool}{T:TypeId}{e:TypeId}{t:Ty}{b:Nat}(h:Ch P nl T=au (e,t,b)):
  P.underlying T=au (.slice e)/\0 < t.size/\∃i zv,P.info? e=au i/\i.size=t.size/\i.bytes=b/\i.zero=au zv/\∀E,cG E t zv.cells.toList t.zero:=by
 unfold Ch at h;split at h
 ·rename_i e' hT;split at h
  ·rename_i t' ht;split at h
   ·rename_i hg;simp only[az,cF]at h;obtain⟨rfl,rfl,rfl⟩:=h;simp only[al,bP,dw,gz]at hg;obtain⟨⟨h1,h2⟩,h3⟩:=hg;obtain⟨i,zv,hi,hz,_,_⟩:=tY h3 {w:=default,g:=λ_=> .free,β:=λ_=>aH,s:=λ_=>aH};refine⟨hT,aq,i,zv,hi,by rw[<-mr hi];exact h1,by simp[Program.bytesOf,hi],hz,λE=> ?_⟩;obtain⟨i',zv',hi',hz',hV,_⟩:=tY h3 E;rw[hi]at hi';obtain rfl:i=i':=by simpa using hi'
    rw[hz]at hz';obtain rfl:zv=zv':=by simpa using hz'
    simpa only[V]using hV
   ·cases h
  ·cases h
 ·cases h
theorem Ay{T:TypeId}{e:TypeId}{t:Ty}{b:Nat}(h:Qr P T=au (e,t,b)):P.underlying T=au (.slice e)/\0 < t.size/\∃i zv,P.info? e=au i/\i.size=t.size/\i.bytes=b/\i.zero=au zv/\∀E,cG E t zv.cells.toList t.zero:=pY h
theorem VH{T:TypeId}{e:TypeId}{t:Ty}{b:Nat}(h:ZM P T=au (e,t,b)):0 < t.size:=by
 unfold ZM at h;split at h
 ·exact(pY h).2.1
 ·exact(pY h).2.1
theorem Inv.aaI(h:Inv C g β s a w){q:Nat}(hq:s.dW q=aO){e:TypeId}{t:Ty}{l:List t.den}{cur:Array Value}{cap:Nat}(hz:0 < t.size)(hc:bq (cG (s.env w g β) t) (cur.toList.take (l.length*t.size)) l)
  (hs:cur.size=cap*t.size) (hl:l.length<=cap) (hm:cap<=maxLen):
  ∃g' β',Inv C g' β' (s.born q [.obj 0 aV (.vec e t l)]) a (w.alloc (.cells cur e))/\
   VS ((s.born q [.obj 0 aV (.vec e t l)]).env (w.alloc (.cells cur e)) g' β') (.cM (.new q 0) 0 [] 0 0 l.length) (.slice (au ⟨w.heap.size,0,aH⟩) l.length cap):=by
 have ht:=Trans.alloc w g (.cells cur e) (.own (.id (.new q 0)) 0);obtain⟨h1,h2⟩:=h.Mo hq (c:= .vec e t l) (p:=au ⟨w.heap.size,cap⟩) ht (λb hb=>⟨pW w _ hb,fD _ _ _ aq⟩) (λhe=>by
  refine⟨hz,?_⟩;show(match FP β (.new q 0) (au ⟨w.heap.size,cap⟩) (.new q 0) with
   |none=>l=[]
   |some pl=>_)
  rw[jP];exact⟨cur,0,rV w _,hs,hl,hm,fI _ _ _,aS _,λ_=>rfl,hc.mono λ_ _ hx=>hx.mono he.mem⟩)
 refine⟨_,_,h1,_,?_,rfl⟩;simp only[V];refine⟨_,_,rfl,hl,λ_=>rfl,pa hq _ _ _ _,λ_=> ?_⟩;show(match FP β (.new q 0) (au ⟨w.heap.size,cap⟩) (.new q 0) with
   |some pl=>_
   |none=>_)
 rw[jP];exact⟨λ_=>rfl,λ_ _=>rfl⟩
theorem Inv.auc(h:Inv C g β s a w){q:Nat}(hq:s.dW q=aO){e:TypeId}{t:Ty}(hz:0 < t.size):
  ∃β',Inv C g β' (s.born q [.obj 0 aV (.vec e t [])]) a w/\cP (s.env w g β) ((s.born q [.obj 0 aV (.vec e t [])]).env w g β')/\
   VS ((s.born q [.obj 0 aV (.vec e t [])]).env w g β') (.cM (.new q 0) 0 [] 0 0 0) (.slice aH 0 0):=by
 have ht:=Trans.refl w g;obtain⟨h1,h2⟩:=h.Mo hq (c:= .vec e t []) (p:=aH) ht (λb hb=>⟨rfl,rfl⟩) (λhe=>by
  refine⟨hz,?_⟩;show(match FP β (.new q 0) aH (.new q 0) with
   |none=>([]:List t.den)=[]
   |some pl=>_)
  rw[jP])
 refine⟨_,h1,h2,_,?_,rfl⟩;simp only[V];refine⟨_,_,rfl,aC _,λhh=>aq,pa hq _ _ _ _,λ_=> ?_⟩;simp[AS.env]
theorem M7(parts:Array (Nat×bI)):(parts.map λ(i,x)=>(i,a.eval x)).toList=parts.toList.map λ(i,x)=>(i,a.eval x):=by simp
theorem PZ(h:Inv C g β s a w){T:TypeId}{n:Nat}{parts:Array (Nat×bI)}{nl obj:Bool}(ho:o.op= .buildSlice T n parts){s':AS}(he:(lV P s nl obj o.dst T n parts.toList).eval=au s'):fG P o a w (gW C s'):=by
 unfold lV at he;split at he
 ·rename_i e t b q Gu hd;obtain⟨hT,hz,i,zv,hi,anU,aB1,agy,anY⟩:=pY Gu;obtain⟨h1,h2⟩:=aI.1 he;obtain⟨r,h3,h4⟩:=aw.1 h2;simp only[aR]at h1;obtain⟨g1,i1,e1,t1,f1⟩:=eZ r.2 h;have aDP:zv.cells.size=t.size:=by have:=(anY (s.env w g β)).size;simpa using this
  obtain⟨cells',aEH,uq⟩:=AY (a:=a) rfl h.bM e1 h.ev parts.toList _ r (madeCells zv.cells (n*t.size)) h3 f1 (sH (anY _) n);have aER:r.1.length=n:=by
   have:∀(ps:List (Nat×bI)) (l:List t.den) (r:List t.den×List Id),(jm t s ps l).eval=au r->r.1.length=l.length:=by
    intro ps
    induction ps with
    |nil=>intro l r hh;obtain rfl:=ay.1 hh;rfl
    |cons p ps ih=>
     intro l r hh;obtain⟨i,x⟩:=p;simp only[jm]at hh;obtain⟨_,h2⟩:=aI.1 hh;obtain⟨y,h3,h4⟩:=aw.1 h2;obtain⟨r',h5,h6⟩:=aw.1 h4;obtain rfl:=ay.1 h6;have:=ih _ _ h5;simpa using this
   rw[this _ _ _ h3];simp
  have ahV:=uq.length (λ_ _ hx=>cG.size hx);have pb:(execOp a.eval o).run P w= .ok (.value (.slice (au ⟨w.heap.size,0,aH⟩) n n)) (w.alloc (.cells cells' e)):=by
   refine dU (f:=Instr.buildSlice T n (parts.map λ(i,x)=>(i,a.eval x))) (by simp only[execOp,ho]) ?_
   have aEs:¬n*t.size > 2^24:=aq;have hfill':Instr.fill (λi=>au (i*t.size,t.size)) ((Array.range (n*t.size)).map (λx=>(zv.cells)[x%zv.cells.size]!)) (parts.map λ(i,x)=>(i,a.eval x)).toList=au cells':=by rw[M7];exact aEH
   by_cases hn:n*t.size=0
   ·have aB9:n=0:=by
     rcases Nat.mul_eq_zero.1 hn with h' | h'
     ·exact h'
     ·omega
    subst aB9;simp only[mj]at hfill' aEs;have h0:Array.range 0= #[]:=rfl;rw[h0,Array.map_empty]at hfill';simp at hfill';simp[Instr.buildSlice,run_underlying hT,run_sizeOf hi,anU,newRow,h0,hfill']
   ·simp[Instr.buildSlice,run_underlying hT,run_sizeOf hi,anU,newRow,hn,aEs,zeroValue,typeInfo,hi,agy];simp at hfill';simp[hfill']
  cases obj with
  |true=>
   simp only at h4;obtain⟨hq,h5⟩:=aI.1 h4;obtain rfl:=ay.1 h5;rw[<-tW r.2]at hq;have aEI:cells'.toList.take (r.1.length*t.size)=cells'.toList:=bH aq;obtain⟨g2,β2,i2,OK⟩:=i1.aaI hq (e:=e) (l:=r.1) (cur:=cells') (cap:=n) hz (by rw[aEI];exact uq) (by simp at ahV;rw[ahV,aER]) aq (by
    have:n<=n*t.size:=Nat.le_mul_of_pos_right n hz;unfold maxLen;omega)
   refine .inl ⟨_,_,pb,g2,β2,?_⟩;rw[hd];rw[aER]at OK ⊢;exact i2.put (au q) OK
  |false=>
   simp only at h4;obtain rfl:=ay.1 h4;have i2:=i1.FT (.cells cells' e);refine .inl ⟨_,_,pb,mM g1 w.heap.size .free,β,?_⟩;rw[hd];refine i2.put (au q) ⟨[.slice (au ⟨w.heap.size,0,aH⟩) n n],?_,rfl⟩;simp only[V,cG];refine⟨_,n,cells'.toList,by rw[aER],aq,λ_=>rfl,λj v hj=>⟨_,_,rfl,?_,?_⟩,uq.mono λ_ _ hx=>hx.mono (Trans.mem (E:=(s.bt r.2).env w g1 β) (E':=(s.bt r.2).env (w.alloc (.cells cells' e)) (mM g1 w.heap.size .free) β) (Trans.alloc w g1 (.cells cells' e) .free))⟩
   ·show(w.alloc (.cells cells' e)).cell? ⟨w.heap.size,0+j,aH⟩=au v;rw[World.cell?_alloc_new,aU];simpa using hj
   ·show rH (mM g1 w.heap.size .free) w.heap.size (0+j);unfold rH;rw[fI];trivial
 ·simp only[av]at he
theorem SH(h:Inv C g β s a w){T:TypeId}{x y:bI}(ho:o.op= .makeSlice T x y){len cap:Int}(hx:(asInt (s.ev x)).eval=au len)(hy:(asInt (s.ev y)).eval=au cap){s':AS}
  (he:(qL P s o.dst T len cap).eval=au s'):fG P o a w (gW C s'):=by
 obtain⟨k,hx⟩:=yg (h.ev x) hx;obtain⟨k',hy⟩:=yg (h.ev y) hy;unfold qL at he;split at he
 ·rename_i e t b q Gu hd;obtain⟨hT,hz,i,zv,hi,anU,aB1,agy,anY⟩:=Ay Gu;obtain⟨hq,h2⟩:=aI.1 he;obtain⟨h3,h4⟩:=bQ.1 h2;obtain rfl:=ay.1 h4;simp only[al,aR,dI]at h3;obtain⟨⟨h5,h6⟩,h7,h8⟩:=h3;have hbytes:(i.bytes:Int)*cap<=281474976710656:=by rw[aB1];have:((cap.toNat*b:Nat):Int)<=140737488355328:=aq;rw[j8,show((cap.toNat:Nat):Int)=cap by omega,rP]at this;omega
  have hr:=run_make (P:=P) w T e i zv hT hi agy k k' len cap h5 h6 hbytes aq;rw[anU]at hr;have aDP:zv.cells.size=t.size:=by have:=(anY (s.env w g β)).size;simpa using this
  have wc:=sH (anY (s.env w g β)) cap.toNat;have aCi:=bq.take (λ_ _ hx=>cG.size hx) len.toNat wc;rw[List.take_replicate,fF aq]at aCi;obtain⟨g2,β2,i2,OK⟩:=h.aaI hq (e:=e) (l:=ai len.toNat t.zero) (cur:=madeCells zv.cells (cap.toNat*t.size)) (cap:=cap.toNat) hz (by rw[cq];exact aCi) (size_madeCells _ _) (by rw[cq];omega) (by unfold maxLen;omega);rw[cq]at OK;refine .inl ⟨_,_,dU (f:=Instr.makeSlice T (a.eval x) (a.eval y)) (by simp only[execOp,ho]) (by rw[hx,hy];exact hr),g2,β2,?_⟩;rw[hd];exact i2.put (au q) OK
 ·simp only[av]at he
end
end Go.Ab
namespace Go.Ab
section
variable {P:aL} {C:Ctx} {g:Nat->lA} {β:Id->Option Pl} {s:AS} {a:Act} {w:bV} {o:Oper}
theorem aiK:∀(c:aF) (f off:Nat) (v:aF),partOf c f=au (off,v)->(loc c (nf f)).eval=au (off,v):=by
 intro c f
 induction f generalizing c with
 |zero=>
  intro off v h;cases c with
  |d t y=>
   cases t <;> simp only[partOf,reduceCtorEq]at h;simp only[az,cF]at h;obtain⟨rfl,rfl⟩:=h;rfl
  |pr b c=>
   simp only[partOf,az,cF]at h;obtain⟨rfl,rfl⟩:=h;simp only[nf,loc];cases b <;> rfl
  |_=>simp only[partOf,reduceCtorEq]at h
 |succ f ih=>
  intro off v h;cases c with
  |d t y=>
   cases t with
   |pair ta tb=>
    simp only[partOf]at h;cases hp:partOf (.d tb y.2) f with
    |none=>rw[hp]at h;cases h
    |some r=>
     rw[hp]at h;simp only[az,cF]at h;obtain⟨rfl,rfl⟩:=h;simp only[nf,loc,aw];exact⟨_,ih _ _ _ hp,rfl⟩
   |_=>simp only[partOf,reduceCtorEq]at h
  |pr b c=>
   simp only[partOf]at h;cases hp:partOf c f with
   |none=>rw[hp]at h;cases h
   |some r=>
    rw[hp]at h;simp only[az,cF]at h;obtain⟨rfl,rfl⟩:=h;simp only[nf,loc,aw];exact⟨_,ih _ _ _ hp,rfl⟩
  |_=>simp only[partOf,reduceCtorEq]at h
theorem aez(a b:aF):(Ku a b).agg=aO:=by unfold Ku;split <;> rfl
theorem WN{v x v':aF}{i:Nat}(h:(wF v (nf i) x).eval=au v'):v'.agg=aO:=by
 have fin:∀ {o:Out aF} {f:aF->aF},(∀a,(f a).agg=aO)->(o.bind λa=>Out.ok (f a)).eval=au v'->v'.agg=aO:=by intro o f hf hh;obtain⟨_,_,h2⟩:=aw.1 hh;obtain rfl:=ay.1 h2;exact hf _
 cases i <;> simp only[nf]at h
 all_goals
  cases v with
  |d t y=>cases t <;> first | (simp only[wF,av]at h;done) | (simp only[wF]at h;exact fin (λ_=>aez _ _) h)
  |pr b c=>simp only[wF]at h;exact fin (λ_=>aez _ _) h
  |_=>simp only[wF,av]at h
theorem Fi{E:Env}(adR:∀x,VS E (s.ev x) (a.eval x)){fs:Array Field}{places:Array (Nat×Nat)}(P6:∀(i:Nat) (f:Field),fs[i]? =au f->places[i]? =au (f.offset,P.cellsOf f.type)):
  ∀(ps:List (Nat×bI)) (v v':aF) (cells:Array Value),(py P fs s ps v).eval=au v'->V E v cells.toList->v.agg=aO->
   ∃cells',Instr.fill (places[·]?) cells (ps.map λ(i,x)=>(i,a.eval x))=au cells'/\V E v' cells'.toList/\v'.agg=aO
 |[],v,v',cells,h,hV,I7=>by obtain rfl:=ay.1 h;exact⟨cells,rfl,hV,I7⟩
 | (i,x)::ps,v,v',cells,h,hV,I7=>by
  simp only[py]at h;split at h
  ·rename_i f off bF hf hp;obtain⟨h1,h2⟩:=aI.1 h;obtain⟨v1,h3,h4⟩:=aw.1 h2;simp only[al,dw]at h1;obtain⟨⟨rfl,aFY⟩,aIo⟩:=h1;obtain⟨ahU,_⟩:=qH aIo;obtain⟨cs,hVx,hO⟩:=(adR x).eJ ahU;have hcells:=hO.cells hVx.one;have aG3:=aiK _ _ _ _ hp;obtain⟨u1,u2,u3⟩:=pI (nf i) v cells.toList f.offset bF (s.ev x) v1 cs (VO.of hV) aG3 hVx h3;have aEV:v1.ix=aV:=u3.sE hV.sE;have re:P.cellsOf f.type=cs.length:=by rw[(Ej aIo).2.1];exact hVx.size.symm
   obtain⟨cells',q1,q2,q3⟩:=Fi adR P6 ps v1 v' (dx cells.toList f.offset cs).toArray h4 (by simpa using u2.to aEV) (WN h3);refine⟨cells',?_,q2,q3⟩;rw[bn,Xv (by rw[P6 i f hf,re]) hcells (by simpa using u1)];exact q1
  ·simp only[av]at h
theorem afA{α γ:Type}(f:α->Sem γ)(r:α->γ):∀(l:List α),(∀x∈l,(f x).run P w= .ok (r x) w)->(l.mapM f).run P w= .ok (l.map r) w
 |[],_=>by simp
 |x::xs,h=>by rw[List.mapM_cons];simp only[cg,h x (by simp),bE,afA f r xs (λy hy=>h y (by simp[hy])),dK,bn]
theorem aha(h:Inv C g β s a w){T:TypeId}{parts:Array (Nat×bI)}(ho:o.op= .build T parts){s':AS}(he:(D4 P s o.dst T parts.toList).eval=au s'):fG P o a w (gW C s'):=by
 unfold D4 at he;split at he
 ·rename_i fs hT;split at he
  ·rename_i z aKn;obtain⟨h1,h2⟩:=aI.1 he;obtain⟨v,h3,h4⟩:=aw.1 h2;obtain rfl:=ay.1 h4;simp only[al,dj]at h1;obtain⟨⟨hz,I7⟩,aGZ⟩:=h1;obtain⟨i,zv,hi,agy,hV,hO⟩:=tY hz (s.env w g β)
   let places:Array (Nat×Nat):=fs.map λf=>(f.offset,P.cellsOf f.type)
   have P6:∀(i:Nat) (f:Field),fs[i]? =au f->places[i]? =au (f.offset,P.cellsOf f.type):=by intro i f hf;simp[places,hf]
   obtain⟨cells',q1,q2,q3⟩:=Fi (a:=a) h.ev P6 parts.toList z v zv.cells h3 hV I7;have hm:(fs.mapM λf=>(do pure (f.offset,<-sizeOf f.type):Sem (Nat×Nat))).run P w= .ok places w:=by
    rw[Array.mapM_eq_mapM_toList];have:=afA (P:=P) (w:=w) (λf=>(do pure (f.offset,<-sizeOf f.type):Sem (Nat×Nat))) (λf=>(f.offset,P.cellsOf f.type)) fs.toList (by
     intro f hf;obtain⟨j,hj⟩:=bD.1 (aGZ f hf);rw[cg,run_sizeOf hj,mr hj];rfl)
    rw[Sem.run_map,this];show Result.ok _ w=Result.ok _ w;congr 1;apply gv;simp[places]
   refine h.value (x:= .agg cells') (VS.of q2 (by rw[q3];simp[fT])) (dU (f:=Instr.build T (parts.map λ(i,x)=>(i,a.eval x))) (by simp only[execOp,ho]) ?_);have q1':Instr.fill (places[·]?) zv.cells (parts.map λ(i,x)=>(i,a.eval x)).toList=au cells':=by rw[M7];exact q1
   simp only[Instr.build,cg,zeroValue,typeInfo,run_program,hi,bE,dK,agy,run_underlying hT,hm,q1']
  ·simp only[av]at he
 ·rename_i n e hT;split at he
  ·rename_i t ht;obtain⟨h1,h2⟩:=aI.1 he;obtain⟨r,h3,h4⟩:=aw.1 h2;obtain rfl:=ay.1 h4;simp only[al,dw]at h1;obtain⟨re,hz⟩:=h1;obtain⟨g1,i1,e1,t1,f1⟩:=eZ r.2 h;obtain⟨i,zv,hi,agy,hV,hO⟩:=tY hz ((s.bt r.2).env w g1 β);simp only[V,cG]at hV;obtain⟨cells',q1,q2⟩:=AY (a:=a) rfl h.bM e1 h.ev parts.toList _ r zv.cells h3 f1 hV.2;have aER:r.1.length=n:=by
    have:∀(ps:List (Nat×bI)) (l:List t.den) (r:List t.den×List Id),(jm t s ps l).eval=au r->r.1.length=l.length:=by
     intro ps
     induction ps with
     |nil=>intro l r hh;obtain rfl:=ay.1 hh;rfl
     |cons p ps ih=>
      intro l r hh;obtain⟨i,x⟩:=p;simp only[jm]at hh;obtain⟨_,h2⟩:=aI.1 hh;obtain⟨y,h3,h4⟩:=aw.1 h2;obtain⟨r',h5,h6⟩:=aw.1 h4;obtain rfl:=ay.1 h6;have:=ih _ _ h5;simpa using this
    rw[this _ _ _ h3];simp
   refine .inl ⟨.agg cells',w,dU (f:=Instr.build T (parts.map λ(i,x)=>(i,a.eval x))) (by simp only[execOp,ho]) ?_,g1,β,i1.put o.dst ⟨cells'.toList,?_,by simp[fT,aF.agg,Ty.agg]⟩⟩
   ·have q1':Instr.fill (λi=>au (i*t.size,t.size)) zv.cells (parts.map λ(i,x)=>(i,a.eval x)).toList=au cells':=by rw[M7];exact q1
    cases aGX:P.info? e with
    |none=>
     exfalso;unfold agl Vb at ht;simp only[depth]at ht;have:P.underlying e=aH:=by simp[Program.underlying,aGX]
     rw[this]at ht;cases ht
    |some ie=>
     have aIB:=run_sizeOf aGX w;rw[<-mr aGX,re]at aIB;simp only[Instr.build,cg,zeroValue,typeInfo,run_program,hi,bE,dK,agy,run_underlying hT,aIB,q1']
   ·simp only[V,cG];exact⟨aER,q2⟩
  ·simp only[av]at he
 ·simp only[av]at he
theorem NI{T X ty e:TypeId}{i:TypeInfo}(hT:P.underlying T=au (.slice e))(hX:P.underlying X=au .string\/∃e',P.underlying X=au (.slice e'))(hi:P.info? e=au i)
  {b sLen sCap:Nat} {cur:Array Value} (hg:w.heap[b]? =au (.cells cur e (0,0))) {x:Value} {n:Nat} {news:List Value} (h1:∀u∈news,u.oneCell'=aO)
  (hlen:(Builtin.lenOf x).run P w= .ok n w) (hf:(Builtin.firstCells i.size n x).run P w= .ok news.toArray w) (GZ:sLen+n<=sCap) (Z3:sLen*i.size+news.length<=cur.size):
  (Builtin.append_ #[T,X] ty #[.slice (au ⟨b,0,aH⟩) sLen sCap,x]).run P w= .ok (.slice (au ⟨b,0,aH⟩) (sLen+n) sCap) (w.setRow b (dx cur.toList (sLen*i.size) news).toArray):=by
 have nw:=run_storeCells_at P b (sLen*i.size) e news 0 cur w hg (by simpa using Z3) h1;simp only[ct]at nw;rcases hX with hX | ⟨e',hX⟩ <;> simp[Builtin.append_,run_underlying hT,run_underlying hX,sizeOf,typeInfo,hi,hlen,GZ,hf,fv,nw,dx]
theorem Di{T X ty e:TypeId}{i:TypeInfo}(hT:P.underlying T=au (.slice e))(hX:P.underlying X=au .string\/∃e',P.underlying X=au (.slice e'))(hi:P.info? e=au i)
  {x:Value} (hlen:(Builtin.lenOf x).run P w= .ok 0 w) (hf:(Builtin.firstCells i.size 0 x).run P w= .ok #[] w):
  (Builtin.append_ #[T,X] ty #[.slice aH 0 0,x]).run P w= .ok (.slice aH 0 0) w:=by
 rcases hX with hX | ⟨e',hX⟩ <;> simp[Builtin.append_,run_underlying hT,run_underlying hX,sizeOf,typeInfo,hi,hlen,hf]
theorem NH{T X ty e:TypeId}{i:TypeInfo}{zv:Value}(hT:P.underlying T=au (.slice e))(hX:P.underlying X=au .string\/∃e',P.underlying X=au (.slice e'))(hi:P.info? e=au i)(agy:i.zero=au zv)
  {ad:Option Addr} {sLen sCap:Nat} {b8:List Value} (ho:(Builtin.firstCells i.size sLen (.slice ad sLen sCap)).run P w.drew= .ok b8.toArray w.drew) {x:Value} {n:Nat} {news:List Value}
  (hlen:(Builtin.lenOf x).run P w= .ok n w) (hf:(Builtin.firstCells i.size n x).run P w.drew= .ok news.toArray w.drew) (GZ:sCap < sLen+n)
  (aIg:((sLen+n:Nat):Int)<=9223372036854775807) (Z3:(sLen+n)*i.bytes<=140737488355328):
  (Builtin.append_ #[T,X] ty #[.slice ad sLen sCap,x]).run P w= .ok (.slice (au ⟨w.heap.size,0,aH⟩) (sLen+n) (grownCap w (sLen+n) sCap e))
   (w.drew.alloc (.cells (b8.toArray++news.toArray++Builtin.zeroCells zv.cells (grownCap w (sLen+n) sCap e - (sLen+n))) e)):=by
 have hn:¬(sLen+n<=sCap):=aq;have h63':¬(9223372036854775807 < ((sLen:Int)+(n:Int))):=aq;have hfit':=growslice_fits (bytes:=i.bytes) GZ Z3;have h48':¬(281474976710656 < Builtin.nextslicecap (sLen+n) sCap*i.bytes):=aq;rcases hX with hX | ⟨e',hX⟩
 all_goals
  simp[Builtin.append_,run_underlying hT,run_underlying hX,sizeOf,typeInfo,zeroValue,hi,agy,hlen,hn,h63',h48',Question.forced,hf,ho,newRow,grownCap];congr 2;apply gv;simp[aK]
end
end Go.Ab
namespace Go.Ab
section
variable {P:aL} {C:Ctx} {g:Nat->lA} {β:Id->Option Pl} {s:AS} {a:Act} {w:bV} {o:Oper}
theorem auM(h:Inv C g β s a w){v:aF}{y:Value}(hv:VS (s.env w g β) v y){t:Ty}{m:List t.den}(he:(s.aiQ (.slice t) v).eval=au m):
  ∃ad cap vs,y= .slice ad m.length cap/\(0 < m.length->ad.isSome=aO)/\(∀j u,vs[j]? =au u->∃bb off,ad=au ⟨bb,off,aH⟩/\w.cell? ⟨bb,off+j,aH⟩=au u)/\bq (cG (s.env w g β) t) vs m:=by
 have hp:(s.iN (.slice t) v).eval=au m:=he;cases v <;> first | (simp only[AS.iN,av]at hp;done) | skip
 case dd=>
  simp only[AS.iN,ay]at hp;subst hp;exact⟨aH,0,[],kH hv,by simp,λj u hj=>by simp at hj,rfl⟩
 case d t' x=>
  simp only[AS.iN]at hp;have hp:=jd.1 hp;have ha:(aF.d t' x).agg=aV:=Xf hp;have hV:=hv.single rfl ha;simp only[V]at hV;have hv:VS (s.env w g β) (.d (.slice t) m) y:=VS.of (cs:=[y]) (by simp only[V];exact B4 hp hV) rfl;obtain⟨ad,cap,vs,hy,_,hs,hr,hc⟩:=sK hv;exact⟨ad,cap,vs,hy,hs,λj u hj=>let⟨bb,off,e,hh⟩:=hr j u hj;⟨bb,off,e,hh.1⟩,hc⟩
 case cM id ver p c i len=>
  simp only[AS.iN]at hp;obtain⟨⟨n,t',l⟩,h1,h2⟩:=aw.1 hp;obtain⟨h3,h4⟩:=bQ.1 h2;obtain⟨aDF,aJo⟩:=ane (E:=s.env w g β) (jd.1 h4);rw[aDF];simp only[aR]at h3;obtain⟨hc,hlen⟩:=h3
  suffices hg:∃ad cap vs,y= .slice ad (cut l i len).length cap/\(0 < (cut l i len).length->ad.isSome=aO)/\(∀j u,vs[j]? =au u->∃bb off,ad=au ⟨bb,off,aH⟩/\w.cell? ⟨bb,off+j,aH⟩=au u)/\bq (cG (s.env w g β) t') vs (cut l i len) by obtain⟨ad,cap,vs,e1,e2,e3,e4⟩:=hg;exact⟨ad,cap,vs,e1,e2,e3,aJo _ e4⟩
  obtain⟨fr,c0,cI,pP⟩:=NC rfl h.bM h1;obtain⟨ad,cap,hy,hle,pK,hb,fE⟩:=qn hv;have fE:=fE ⟨fr,c0,cI⟩;have awV:(cut l i len).length=len:=yx hlen;rcases pP with⟨hp,hl,_⟩ | ⟨pl,cur,e,hp,hh,re,uq,hbound⟩
  ·rw[hp]at fE;simp only at fE;obtain⟨rfl,rfl,rfl⟩:=fE;have:cut l i 0=[]:=by simp[cut]
   refine⟨aH,0,[],by rw[awV];exact hy,by rw[awV];omega,λ_ _ hh=>by simp at hh,?_⟩;rw[this];rfl
  ·rw[hp]at fE;simp only at fE;have hmul:(i+len)*t'.size<=l.length*t'.size:=cT _ hlen;rw[eH]at hmul;refine⟨ad,cap,_,by rw[awV];exact hy,by rw[awV];exact pK,?_,HF uq i len⟩;rw[Tz _ _ _ _ _ hmul];intro j v hj;rw[cU]at hj;split at hj
   ·rename_i aB3;rw[fx,hc]at hj;have aG4:0 < len:=by
     rcases iQ len with h0 | h0
     ·subst h0;simp at aB3
     ·exact h0
    refine⟨pl.b,c,fE.1 (.inl aG4),?_⟩;have hh':w.heap[pl.b]? =au (.cells cur e (0,0)):=hh
    rw[cell_of_row w pl.b (c+j) cur e (0,0) hh'];simpa using hj
   ·cases hj
theorem O3(h:Inv C g β s a w){t:Ty}{X:TypeId}{x:aF}{y:Value}(hx:VS (s.env w g β) x y){m:List t.den}(he:(EH P s t X x).eval=au m):
  (P.underlying X=au .string\/∃e',P.underlying X=au (.slice e'))/\∃news:List Value,bq (cG (s.env w g β) t) news m/\(Builtin.lenOf y).run P w= .ok m.length w/\
   ∀w',w'.heap=w.heap->(Builtin.firstCells t.size m.length y).run P w'= .ok news.toArray w':=by
 have sl:∀(x:aF),VS (s.env w g β) x y->(match P.underlying X with
   |some (.slice _)=>s.aiQ (.slice t) x
   |_=> .fail).eval=au m->(P.underlying X=au .string\/∃e',P.underlying X=au (.slice e'))/\∃news:List Value,bq (cG (s.env w g β) t) news m/\(Builtin.lenOf y).run P w= .ok m.length w/\
   ∀w',w'.heap=w.heap->(Builtin.firstCells t.size m.length y).run P w'= .ok news.toArray w':=by
  intro x hx he;split at he
  ·rename_i e' hX;refine⟨.inr ⟨e',hX⟩,?_⟩;obtain⟨ad,cap,vs,rfl,pK,pP,uq⟩:=auM h hx he;have hlen:=bq.length (λ_ _ hx=>cG.size hx) uq;refine⟨vs,uq,rfl,λw' hw'=> ?_⟩;cases ad with
   |none=>
    have aDE:m.length=0:=by
     rcases iQ m.length with h0 | h0
     ·exact h0
     ·have:=pK h0;simp at this
    have:vs=[]:=bm (by rw[hlen,aDE,mj]);subst this;rfl
   |some ad=>
    refine run_firstCells_some (P:=P) w' t.size _ ad _ _ vs hlen (λj v hj=> ?_);obtain⟨bb,off,e1,hh⟩:=pP j v hj;simp only[az]at e1;subst e1;rw[fv];simpa[eI,hw']using hh
  ·simp only[av]at he
 unfold EH at he;split at he
 ·rename_i st;split at he
  ·rename_i hX;refine⟨.inl hX,?_⟩;obtain⟨e,hm⟩:=jb (jd.1 he);have e':Ty.int .u8=t:=by simpa using e
   subst e';simp only at hm;subst hm;have hy:=Fu hx;subst hy;have hlen:(cH st).length=st.size:=by simp only[cH,bg,cO];rfl
   refine⟨(cH st).map (Value.int .u8),vp _,by rw[hlen];rfl,λw' _=> ?_⟩;rw[hlen];simp only[Builtin.firstCells,dK];congr 1;apply gv;rw[ByteArray.extract_zero_size];simp[cH]
  ·simp only[av]at he
 ·exact sl _ hx he
theorem zo(z:Array Value)(n:Nat):(Builtin.zeroCells z n).size=n*z.size:=by simp[Builtin.zeroCells]
theorem anf(h:Inv C g β s a w){c:Call}{x y:bI}{T X:TypeId}(ho:o.op= .call c)(hc:c.callee= .builtin .copy)(ha:c.args.toList=[x,y])(ht:c.argTypes.toList=[T,X]){s':AS}
  (he:(Rp P s o.dst T X (s.ev x) (s.ev y)).eval=au s'):fG P o a w (gW C s'):=by
 obtain⟨cal,args,tys⟩:=c;simp only at hc ha ht;have ha':args= #[x,y]:=by apply gv;simpa using ha
 have ht':tys= #[T,X]:=by apply gv;simpa using ht
 subst hc ha' ht';have hx:=h.ev x;have hy:=h.ev y;have fin:∀z w',(Builtin.copy_ #[T,X] 0 #[a.eval x,a.eval y]).run P w= .ok z w'->(∃g' β',Inv C g' β' s' (a.put o.dst z) w')->fG P o a w (gW C s'):=by intro z w' h1 h2;refine .inl ⟨z,w',As ho (f:=Builtin.copy_ #[T,X] 0 #[a.eval x,a.eval y]) (λty cs xs agx=> ?_) h1,h2⟩;subst agx;have e1:Builtin.copy_ #[T,X] 0 #[a.eval x,a.eval y]=Builtin.copy_ #[T,X] ty #[a.eval x,a.eval y]:=rfl;rw[e1];simp[builtin]
 unfold Rp at he;split at he
 ·rename_i e t b id ver len Gu agx;obtain⟨hT,hz,i,zv,hi,anU,aB1,agy,anY⟩:=Ay Gu;obtain⟨m,hm,he⟩:=aw.1 he;obtain⟨hX,news,uq,hlen,aAx⟩:=O3 h hy hm;have atc:=uq.length (λ_ _ hx=>cG.size hx);have h1news:∀u∈news,u.oneCell'=aO:=bq.all (λ_ _ hx=>hx.one) uq;rw[<-anU]at aAx;split at he
  ·rename_i ve n t' l j6;obtain⟨h1,DE⟩:=aI.1 he;simp only[al,dw]at h1;obtain⟨atk,aJm⟩:=h1;subst atk aJm;obtain⟨l',hl',Vj⟩:=aw.1 DE;obtain⟨et,hl'⟩:=jb (jd.1 hl');have et':t'=t:=by simpa using et
   subst et';simp only at hl';subst hl';obtain⟨aDF,aDz⟩:=bQ.1 Vj;have aDF:m.length<=len:=by simpa using aDF
   obtain rfl:=ay.1 aDz;have cI:=dO j6;rw[agx]at hx;obtain⟨ad,cap,aqX,aqV,pK,R0,fE⟩:=qn hx;have fE:=fE ⟨aV,_,cI⟩;obtain⟨pl,cur,e0,hp,hh,hg,hk,hV⟩:=(h.bM id ve aV _ cI).box rfl;have hp:β id=au pl:=hp;have hh:w.heap[pl.b]? =au (.cells cur e0 (0,0)):=hh
   have hg:g pl.b= .own (.id id) 0:=hg;have hcur':(match β id with
    |some pl=>(0 < len\/0=0->ad=au ⟨pl.b,0,aH⟩)/\(([.arr]:List Gs)=[]->0=0->cap=pl.cap)
    |none=>ad=aH/\len=0/\cap=0):=fE
   rw[hp]at hcur';simp only at hcur';have ahS:=hcur'.1 (.inr trivial);subst ahS;have hV:V (s.env w g β) (.d (.arr len t') l) (cur.toList.take cur.size):=hV;rw[<-cO,bU]at hV;simp only[V,cG]at hV;obtain⟨aAB,hVc⟩:=hV;have ahV:=hVc.length (λ_ _ hx=>cG.size hx);have Z3:news.length<=cur.size:=by
    rw[atc];have:cur.size=l.length*t'.size:=by simpa using ahV
    rw[this,aAB];exact cT _ aDF
   have nw:=run_storeCells_at P pl.b 0 e0 news 0 cur w hh (by simpa using Z3) h1news;have pb:(Builtin.copy_ #[T,X] 0 #[a.eval x,a.eval y]).run P w= .ok (goInt m.length) (w.setRow pl.b (dx cur.toList 0 news).toArray):=by have aG7:Nat.min m.length len=m.length:=fF aDF;rw[aqX];simp only[ct,aU]at nw;simp[Builtin.copy_,run_underlying hT,hlen,sizeOf,typeInfo,hi,aG7,aAx w rfl,nw,dx]
   have ah5:=Trans.setRow w hg (dx cur.toList 0 news).toArray;have hle:cP (s.env w g β) ((s.aY id (.obj ve aV (.d (.arr len t') (m++l.drop m.length)))).env (w.setRow pl.b (dx cur.toList 0 news).toArray) g β):=cP.aY cI (aC _) ah5 (λ_ _=>rfl) (λ_=>rfl);have i1:=h.step (dh _ _ _) ah5 hle (iR.aY (ab3:=pg cI λk v1 l e=>by cases e) h.bM (by rw[cI];simp) hle (λ_ _=>rfl) (λi ver fr c pl2 hi R3 P5=>⟨setRow_other w pl.b pl2.b _ (h.apart hg hi R3 P5),rfl⟩) (Mb.obj ⟨pl,_,e0,hp,setRow_heap w pl.b cur _ e0 (0,0) hh,hg,trivial,by
    show V _ (.d (.arr len t') (m++l.drop m.length)) ((dx cur.toList 0 news).toArray.toList.take (dx cur.toList 0 news).toArray.size);rw[<-cO,bU];simp only[V,cG];refine⟨by rw[ak,cv];omega,?_⟩;have e2:dx cur.toList 0 news=news++cur.toList.drop (m.length*t'.size):=by simp[dx,atc]
    have q:bq (cG (s.env w g β) t') (dx cur.toList 0 news) (m++l.drop m.length):=by rw[e2];exact bq.append uq (bq.drop (λ_ _ hx=>cG.size hx) m.length hVc)
    exact q.mono λ_ _ hx=>hx.mono hle.mem⟩))
   exact fin _ _ pb ⟨g,β,i1.put o.dst ⟨[.int .i64 (m.length:Int)],by simp only[V,cG],rfl⟩⟩
  ·exact(av.1 he).elim
 ·exact(av.1 he).elim
theorem acp(h:Inv C g β s a w){c:Call}{x y:bI}{T X:TypeId}(ho:o.op= .call c)(hc:c.callee= .builtin .append)(ha:c.args.toList=[x,y])(ht:c.argTypes.toList=[T,X]){s':AS}
  {nl dt:Bool} (he:(wJ P s nl dt o.dst T X (s.ev x) (s.ev y)).eval=au s'):fG P o a w (gW C s'):=by
 obtain⟨cal,args,tys⟩:=c;simp only at hc ha ht;have ha':args= #[x,y]:=by apply gv;simpa using ha
 have ht':tys= #[T,X]:=by apply gv;simpa using ht
 subst hc ha' ht';have hx:=h.ev x;have hy:=h.ev y;have fin:∀z w',(Builtin.append_ #[T,X] 0 #[a.eval x,a.eval y]).run P w= .ok z w'->(∃g' β',Inv C g' β' s' (a.put o.dst z) w')->fG P o a w (gW C s'):=by intro z w' h1 h2;refine .inl ⟨z,w',As ho (f:=Builtin.append_ #[T,X] 0 #[a.eval x,a.eval y]) (λty cs xs agx=> ?_) h1,h2⟩;subst agx;have e1:Builtin.append_ #[T,X] 0 #[a.eval x,a.eval y]=Builtin.append_ #[T,X] ty #[a.eval x,a.eval y]:=rfl;rw[e1];simp[builtin]
 unfold wJ at he;split at he
 ·rename_i e t b q Gu hd;obtain⟨hT,hz,i,zv,hi,anU,aB1,agy,anY⟩:=pY Gu;obtain⟨m,hm,he⟩:=aw.1 he;obtain⟨hX,news,uq,hlen,aAx⟩:=O3 h hy hm;have atc:=uq.length (λ_ _ hx=>cG.size hx);have h1news:∀u∈news,u.oneCell'=aO:=bq.all (λ_ _ hx=>hx.one) uq;rw[<-anU]at aAx;have aDP:zv.cells.size=t.size:=by have:=(anY (s.env w g β)).size;simpa using this
  have aHx:∀n,(Builtin.zeroCells zv.cells n).size=n*t.size:=λn=>by rw[zo,aDP]
  have grow:∀(ad:Option Addr) (sLen sCap:Nat) (b8:List Value) (l0:List t.den),a.eval x= .slice ad sLen sCap->b8.length=sLen*t.size->l0.length=sLen->bq (cG (s.env w g β) t) b8 l0->
    (Builtin.firstCells i.size sLen (.slice ad sLen sCap)).run P w.drew= .ok b8.toArray w.drew->sCap < sLen+m.length->dI (sLen+m.length) b=aO->
    ∃(cur:Array Value) (cap:Nat),(Builtin.append_ #[T,X] 0 #[a.eval x,a.eval y]).run P w= .ok (.slice (au ⟨w.heap.size,0,aH⟩) (sLen+m.length) cap) (w.drew.alloc (.cells cur e))/\
     cur.size=cap*t.size/\sLen+m.length<=cap/\cap<=maxLen/\cur.toList.take ((sLen+m.length)*t.size)=b8++news:=by
   intro ad sLen sCap b8 l0 aqX Qv aAA aEz aFY GZ agv;simp only[dI,aR]at agv;have hr:=NH (P:=P) (w:=w) (ty:=0) hT hX hi agy aFY hlen (aAx w.drew rfl) GZ aq (by rw[aB1];exact agv.1);rw[aqX];refine⟨_,_,hr,?_,grownCap_ge _ _ _ _,grownCap_le_maxLen _ _ _ _ (by unfold maxLen;omega),?_⟩
   ·have aKd:=grownCap_ge w (sLen+m.length) sCap e;simp only[Array.size_append,hZ,aHx,Qv,atc,<-eH];congr 1;omega
   ·have XM:(b8++news).length=(sLen+m.length)*t.size:=by rw[ak,Qv,atc,eH]
    simp only[bY];rw[<-XM];exact List.take_left
  split at he
  ·rename_i aJL;rw[aJL]at hx;have aqX:=kH hx;cases dt with
   |true=>
    simp only at he;obtain⟨agv,he⟩:=bQ.1 he;obtain rfl:=ay.1 he;simp only[al,aR]at agv;obtain⟨agv,aDE⟩:=agv;obtain⟨cur,cap,hr,q1,q2,q3,q4⟩:=grow aH 0 0 [] [] aqX (by simp) rfl rfl rfl aq (by simpa using agv);simp only[aU,aT]at hr q2 q4;have aGO:bq (cG (s.env w.drew g β) t) news m:=uq.mono λ_ _ hx=>hx.mono (cP.same (s:=s) (β:=β) (Trans.drew w g)).mem
    refine fin _ _ hr ⟨mM g w.heap.size .free,β,(h.drew.FT (.cells cur e)).put o.dst ⟨[.slice (au ⟨w.heap.size,0,aH⟩) m.length cap],?_,rfl⟩⟩;simp only[V,cG];refine⟨λh0=>(by cases h0),λm' hm'=> ?_⟩;obtain rfl:m=m':=aQ hm';refine⟨_,cap,cur.toList.take (m.length*t.size),rfl,q2,λ_=>rfl,λj v hj=>⟨_,_,rfl,?_,?_⟩,?_⟩
    ·show(w.drew.alloc (.cells cur e)).cell? ⟨w.drew.heap.size,0+j,aH⟩=au v;rw[World.cell?_alloc_new,aU];rw[cU]at hj;split at hj
     ·simpa using hj
     ·cases hj
    ·show rH (mM g w.heap.size .free) w.heap.size (0+j);unfold rH;rw[fI];trivial
    ·rw[q4];exact aGO.mono λ_ _ hx=>hx.mono (Trans.mem (E:=s.env w.drew g β) (E':=s.env (w.drew.alloc (.cells cur e)) (mM g w.drew.heap.size .free) β) (Trans.alloc w.drew g (.cells cur e) .free))
   |false=>
   simp only at he;obtain⟨hq,he⟩:=aI.1 he;obtain⟨agv,he⟩:=bQ.1 he;obtain rfl:=ay.1 he;by_cases aDE:m.length=0
   ·have aG8:m=[]:=bm aDE;subst aG8;have aHc:news=[]:=bm (by rw[atc];simp);subst aHc;obtain⟨β',i1,e1,v1⟩:=h.auc hq (e:=e) hz;refine fin (.slice aH 0 0) w ?_ ⟨g,β',?_⟩
    ·rw[aqX];exact Di (P:=P) hT hX hi hlen (aAx w rfl)
    ·exact i1.put o.dst v1
   ·obtain⟨cur,cap,hr,q1,q2,q3,q4⟩:=grow aH 0 0 [] [] aqX (by simp) rfl rfl rfl aq (by simpa using agv);simp only[aU,aT]at hr q2 q4;obtain⟨g2,β2,i2,v2⟩:=(h.drew).aaI hq (e:=e) (l:=m) (cur:=cur) (cap:=cap) hz (by rw[q4];exact uq.mono λ_ _ hx=>hx.mono (cP.same (s:=s) (β:=β) (Trans.drew w g)).mem) q1 q2 q3;refine fin _ _ hr ⟨g2,β2,?_⟩;exact i2.put o.dst v2
  ·rename_i id ver len agx;rw[agx]at hx;obtain⟨ad,cap,aqX,aqV,pK,R0,fE⟩:=qn hx;split at he
   ·rename_i v fr e' t' l j6;obtain⟨h1,DE⟩:=aI.1 he;clear he;simp only[al,dw]at h1;obtain⟨atk,aI6⟩:=h1;subst atk aI6;obtain⟨l',hl',Vj⟩:=aw.1 DE;obtain⟨et,hl'⟩:=jb (jd.1 hl');have et':t'=t:=by simpa using et
    subst et';simp only at hl';subst hl';obtain⟨ax8,aED⟩:=bQ.1 Vj;have ax8:len<=l.length:=by simpa using ax8
    obtain⟨aFX,aDz⟩:=bQ.1 aED;obtain⟨agv,aIn⟩:=bQ.1 aDz;obtain rfl:=ay.1 aIn;clear DE Vj aED aDz aIn;have cI:=dO j6;have fE:=fE ⟨fr,_,cI⟩;obtain⟨_,hO⟩:=h.bM id v fr _ cI;have hO':(match β id with
     |none=>l=[]
     |some pl=>∃cur k,w.heap[pl.b]? =au (.cells cur e (0,0))/\cur.size=pl.cap*t'.size/\l.length<=pl.cap/\pl.cap<=maxLen/\g pl.b= .own (.id id) k/\
       k<=l.length*t'.size/\(fr=aV->k=0)/\bq (cG (s.env w g β) t') (cur.toList.take (l.length*t'.size)) l):=hO
    have hcur':(match β id with
     |some pl=>(0 < len\/0=0->ad=au ⟨pl.b,0,aH⟩)/\(([]:List Gs)=[]->0=0->cap=pl.cap)
     |none=>ad=aH/\len=0/\cap=0):=fE
    have aBX:fr=aV\/len=l.length:=by simp only[iu,bP,aR]at aFX;exact aFX
    have gV:s.bS id≠aH:=by rw[cI];simp
    have fresh:∀(cur:Array Value) (cp:Nat) (g0:Nat->lA),Trans w (w.drew.alloc (.cells cur e)) g (mM g0 w.heap.size (.own (.id (id)) 0))->
      (∀i ver fr c pl,i≠id->s.bS i=au (.obj ver fr c)->β i=au pl->g0 pl.b=g pl.b)->cur.size=cp*t'.size->len+m.length<=cp->cp<=maxLen->
      bq (cG (s.env w g β) t') (cur.toList.take ((len+m.length)*t'.size)) (l.take len++m)->len<=l.length->
      ∃g' β',Inv C g' β' ((s.aY id (.obj (v+1) fr (.vec e t' (l.take len++m)))).put o.dst (.cM id (v+1) [] 0 0 (len+m.length))) (a.put o.dst (.slice (au ⟨w.heap.size,0,aH⟩) (len+m.length) cp)) (w.drew.alloc (.cells cur e)):=by
     intro cur cp g0 ht aBZ q1 q2 q3 q4 q5;have aAB:(l.take len++m).length=len+m.length:=by simp;omega
     have hle:cP (s.env w g β) ((s.aY id (.obj (v+1) fr (.vec e t' (l.take len++m)))).env (w.drew.alloc (.cells cur e)) (mM g0 w.heap.size (.own (.id id) 0)) (FP β id (au ⟨w.heap.size,cp⟩))):=
      cP.aY cI aq ht (λi hi=>zl _ _ _ hi) (λhh=>aq)
     have i1:=h.step (dh _ _ _) ht hle (iR.aY (ab3:=pg cI λk v1 l e=>by cases e) h.bM gV hle (λi hi=>zl _ _ _ hi) (λi ver fr' c' pl hi R3 P5=>by
       have iJ:pl.b < w.heap.size:=((h.bM i ver fr' c' R3).label (pl:=pl) P5).1;exact⟨pW w.drew _ iJ,by rw[fD _ _ _ aq];exact aBZ i ver fr' c' pl hi R3 P5⟩) (by
      refine⟨hz,?_⟩;show(match FP β id (au ⟨w.heap.size,cp⟩) id with
       |none=>(l.take len++m)=[]
       |some pl=>_)
      rw[jP];refine⟨cur,0,rV w.drew _,q1,by rw[aAB];exact q2,q3,fI _ _ _,aS _,λ_=>rfl,?_⟩;rw[aAB];exact q4.mono λ_ _ hx=>hx.mono hle.mem))
     refine⟨_,_,i1.put o.dst ⟨_,?_,rfl⟩⟩;simp only[V];have kC:=eu s id (.obj (v+1) fr (.vec e t' (l.take len++m))) gV;refine⟨_,_,rfl,q2,λ_=>rfl,⟨by show(s.aY id _).bS id≠aH;rw[kC];simp,λv' fr' c' hh=> ?_⟩,λ_=> ?_⟩
     ·have hh':(s.aY id (.obj (v+1) fr (.vec e t' (l.take len++m)))).bS id=au (.obj v' fr' c'):=hh;rw[kC]at hh';simp only[az,dE.obj.injEq]at hh';omega
     ·show(match FP β id (au ⟨w.heap.size,cp⟩) id with
       |some pl=>_
       |none=>_)
      rw[jP];exact⟨λ_=>rfl,λ_ _=>rfl⟩
    cases hp:β id with
    |none=>
     rw[hp]at hO' hcur';simp only at hO' hcur';obtain⟨rfl,rfl,rfl⟩:=hcur';subst hO';by_cases aDE:m.length=0
     ·have aG8:m=[]:=bm aDE;subst aG8;have aHc:news=[]:=bm (by rw[atc];simp);subst aHc;have ht:=Trans.refl w g;have hle:cP (s.env w g β) ((s.aY id (.obj (v+1) fr (.vec e t' []))).env w g β):=cP.aY cI aq ht (λ_ _=>rfl) (λ_=>rfl);have i1:=h.step (dh _ _ _) ht hle (iR.aY (ab3:=pg cI λk v1 l e=>by cases e) h.bM gV hle (λ_ _=>rfl) (λ_ _ _ _ _ _ _ _=>⟨rfl,rfl⟩) (by
       refine⟨hz,?_⟩;show(match β id with
        |none=>([]:List t'.den)=[]
        |some pl=>_)
       rw[hp]))
      refine fin (.slice aH 0 0) w ?_ ⟨g,β,i1.put o.dst ⟨_,?_,rfl⟩⟩
      ·rw[aqX];exact Di (P:=P) hT hX hi hlen (aAx w rfl)
      ·simp only[V];have kC:=eu s id (.obj (v+1) fr (.vec e t' [])) gV;refine⟨_,_,rfl,aC _,λhh=>by simp at hh,⟨by show(s.aY id _).bS id≠aH;rw[kC];simp,λv' fr' c' hh=> ?_⟩,λ_=> ?_⟩
       ·have hh':(s.aY id (.obj (v+1) fr (.vec e t' []))).bS id=au (.obj v' fr' c'):=hh;rw[kC]at hh';simp only[az,dE.obj.injEq]at hh';omega
       ·show(match β id with
         |some pl=>_
         |none=>_)
        rw[hp];exact⟨rfl,by simp,rfl⟩
     ·obtain⟨cur,cp,hr,q1,q2,q3,q4⟩:=grow aH 0 0 [] [] aqX (by simp) rfl rfl rfl aq agv;refine fin _ _ hr (fresh cur cp g (Trans.trans (Trans.drew w g) (Trans.alloc w.drew g _ _)) (λ_ _ _ _ _ _ _ _=>rfl) q1 q2 q3 ?_ (by simp));rw[q4];simpa using uq
    |some pl=>
     rw[hp]at hO' hcur';simp only at hO' hcur';obtain⟨ahS,J2⟩:=hcur';have ahS:=ahS (.inr trivial);have J2:=J2 trivial trivial;subst ahS J2;obtain⟨cur,k,p1,p2,p3,p4,p5,p6,p7,p8⟩:=hO';have hk:k<=len*t'.size:=by
      rcases aBX with hf | hf
      ·rw[p7 hf];exact aS _
      ·rw[hf];exact p6
     have hmul:len*t'.size<=l.length*t'.size:=cT _ ax8;have aIw:l.length*t'.size<=cur.size:=by rw[p2];exact cT _ p3
     have aCi:=bq.take (λ_ _ hx=>cG.size hx) len p8;rw[jU,fF hmul]at aCi;have Qv:(cur.toList.take (len*t'.size)).length=len*t'.size:=by simp;omega
     by_cases GZ:len+m.length<=pl.cap
     ·have aJx:(len+m.length)*t'.size<=cur.size:=by rw[p2];exact cT _ GZ
      have Z3:len*i.size+news.length<=cur.size:=by rw[anU,atc,<-eH];exact aJx
      have hr:=NI (P:=P) (w:=w) (ty:=0) hT hX hi p1 h1news hlen (aAx w rfl) GZ Z3;rw[anU]at hr Z3;have ht:Trans w (w.setRow pl.b (dx cur.toList (len*t'.size) news).toArray) g g:=by
       refine⟨by simp,by simp,by simp,by simp,λb' hb=> ?_⟩;by_cases Z1:b'=pl.b
       ·subst Z1;rw[p5];refine⟨.inr ⟨id,k,rfl,aC _⟩,λoff u ayb hu=> ?_⟩;rw[cell_of_row w pl.b off cur e (0,0) p1]at hu;rw[cell_setRow_same w pl.b off cur _ e (0,0) p1];simp only[dx,aK,List.getElem?_toArray];rw[fu (by rw[Qv];omega),cU,if_pos aq];simpa using hu
       ·rw[setRow_other w pl.b b' _ Z1];cases P4:g b' with
        |free=>exact⟨rfl,rfl⟩
        |own o' k=>cases o' with
         |ez=>exact⟨rfl,rfl⟩
         |id i'=>exact⟨.inr ⟨i',k,rfl,aC _⟩,λoff v _ hv=>by rw[cell_setRow_other w pl.b _ _ Z1];exact hv⟩
      have hle:cP (s.env w g β) ((s.aY id (.obj (v+1) fr (.vec e t' (l.take len++m)))).env (w.setRow pl.b (dx cur.toList (len*t'.size) news).toArray) g β):=
       cP.aY cI aq ht (λ_ _=>rfl) (λ_=>rfl)
      have aAB:(l.take len++m).length=len+m.length:=by simp;omega
      have aHn:(dx cur.toList (len*t'.size) news).length=cur.toList.length:=jH (by simpa using Z3);have i1:=h.step (dh _ _ _) ht hle (iR.aY (ab3:=pg cI λk v1 l e=>by cases e) h.bM gV hle (λ_ _=>rfl) (λi ver fr c pl2 hi R3 P5=>⟨setRow_other w pl.b pl2.b _ (h.apart p5 hi R3 P5),rfl⟩) (by
       refine⟨hz,?_⟩;show(match β id with
        |none=>(l.take len++m)=[]
        |some pl=>_)
       rw[hp];refine⟨_,k,setRow_heap w pl.b cur _ e (0,0) p1,by rw[hZ,aHn];simpa using p2,by rw[aAB];exact GZ,p4,p5,?_,p7,?_⟩
       ·rw[aAB,eH];omega
       ·rw[aAB,show(dx cur.toList (len*t'.size) news).toArray.toList=dx cur.toList (len*t'.size) news from rfl];have e1:(dx cur.toList (len*t'.size) news).take ((len+m.length)*t'.size)=cur.toList.take (len*t'.size)++news:=by
         unfold dx;have XM:(cur.toList.take (len*t'.size)++news).length=(len+m.length)*t'.size:=by rw[ak,Qv,atc,eH]
         rw[<-XM];exact List.take_left
        rw[e1];exact(bq.append aCi uq).mono λ_ _ hx=>hx.mono hle.mem))
      rw[<-aqX]at hr;refine fin _ _ hr ⟨g,β,i1.put o.dst ⟨_,?_,rfl⟩⟩;simp only[V];have kC:=eu s id (.obj (v+1) fr (.vec e t' (l.take len++m))) gV;refine⟨_,_,rfl,GZ,λ_=>rfl,⟨by show(s.aY id _).bS id≠aH;rw[kC];simp,λv' fr' c' hh=> ?_⟩,λ_=> ?_⟩
      ·have hh':(s.aY id (.obj (v+1) fr (.vec e t' (l.take len++m)))).bS id=au (.obj v' fr' c'):=hh;rw[kC]at hh';simp only[az,dE.obj.injEq]at hh';omega
      ·show(match β id with
        |some pl=>_
        |none=>_)
       rw[hp];exact⟨λ_=>rfl,λ_ _=>rfl⟩
     ·have aFY:(Builtin.firstCells i.size len (.slice (au ⟨pl.b,0,aH⟩) len pl.cap)).run P w.drew= .ok (cur.toList.take (len*t'.size)).toArray w.drew:=by
       refine run_firstCells_some (P:=P) w.drew i.size _ _ _ _ _ (by rw[Qv,anU]) (λj u hj=> ?_);rw[fv,aU];show w.cell? ⟨pl.b,j,aH⟩=au u;rw[cell_of_row w pl.b j cur e (0,0) p1];rw[cU]at hj;split at hj
       ·simpa using hj
       ·cases hj
      obtain⟨cur2,cp,hr,q1,q2,q3,q4⟩:=grow (au ⟨pl.b,0,aH⟩) len pl.cap (cur.toList.take (len*t'.size)) (l.take len) aqX Qv (by simp;omega) aCi aFY aq agv;have iJ:pl.b < w.heap.size:=(bN.1 p1).1;have ak1:Trans w w.drew g (mM g pl.b .free):=by
       refine⟨rfl,rfl,⟨rfl,Nat.le_succ _⟩,aC _,λb' hb=> ?_⟩;by_cases Z1:b'=pl.b
       ·subst Z1;rw[p5,fI];exact⟨.inl rfl,λ_ _ _ hh=>hh⟩
       ·rw[fD _ _ _ Z1];exact(Trans.drew w g).Mn b' hb
      refine fin _ _ hr (fresh cur2 cp (mM g pl.b .free) (Trans.trans ak1 (Trans.alloc w.drew _ _ _)) (λi ver fr c pl2 hi R3 P5=>fD _ _ _ (h.apart p5 hi R3 P5)) q1 q2 q3 ?_ ax8);rw[q4];exact bq.append aCi uq
   ·simp only[av]at he
  ·simp only[av]at he
 ·simp only[av]at he
end
end Go.Ab
namespace Go.Ab
abbrev Ren:=Id->Nat->Option (Id×Nat)
structure ye(ρ:Ren)(E E':Env):Prop where
 mem:rS E E'
 ref:∀id ver r,ρ id ver=au r->E.C8 id ver->E'.C8 r.1 r.2/\(E'.cur r.1 r.2->E.cur id ver/\E'.β r.1=E.β id)
theorem al0(ρ:Ren)(a:aF):(a.iL ρ).agg=a.agg:=by
 cases a with
 |ptr id v p n=>simp only[aF.iL];cases ρ id v <;> rfl
 |cM id v p c i l=>simp only[aF.iL];cases ρ id v <;> rfl
 |dM id v=>simp only[aF.iL];cases ρ id v <;> rfl
 |yl id v=>simp only[aF.iL];cases ρ id v <;> rfl
 |_=>rfl
mutual
theorem acb{ρ:Ren}{E E':Env}(h:ye ρ E E'):∀ {a:aF} {cs:List Value},V E a cs->V E' (a.iL ρ) cs
 | .undef,_,hv=>by simp only[V]at hv
 | .gone,_,hv=>by simpa only[aF.iL,V]using hv
 | .dd,_,hv=>by simpa only[aF.iL,V]using hv
 | .jW,_,hv=>by simpa only[aF.iL,V]using hv
 | .vB,_,hv=>by simpa only[aF.iL,V]using hv
 | .AL,_,hv=>by simpa only[aF.iL,V]using hv
 | .sb l,_,hv=>by simp only[aF.iL,V]at hv ⊢;obtain⟨b,cap,arr,e,h1,h2,h3,h4,h5⟩:=hv;obtain⟨h6,h7⟩:=h.mem.fz b _ h3 h4;exact⟨b,cap,arr,e,h1,h2,h6,h7,h5⟩
 | .d t x,_,hv=>by simp only[aF.iL,V]at hv ⊢;exact hv.mono h.mem
 | .pr a b,_,hv=>by simp only[aF.iL,V]at hv ⊢;obtain⟨ca,cb,e,ha,hb⟩:=hv;exact⟨ca,cb,e,acb h ha,acb h hb⟩
 | .ptr id ver p n,_,hv=>by
  have h1:=hv.one;simp only[aF.iL];cases hr:ρ id ver with
  |none=>
   simp only[V]at hv ⊢;obtain⟨a,e,_⟩:=hv;exact⟨_,e,h1 _ (by simp[e])⟩
  |some r=>
   simp only[V]at hv ⊢;obtain⟨a,e,hb,hc⟩:=hv;obtain⟨b1,b2⟩:=h.ref id ver r hr hb;refine⟨a,e,b1,λc=> ?_⟩;obtain⟨c1,e1⟩:=b2 c;rw[e1];exact hc c1
 | .eG t x,_,hv=>by simp only[aF.iL,V]at hv ⊢;obtain⟨b,off,vs,e,hr,hx⟩:=hv;exact⟨b,off,vs,e,hr.mono h.mem,hx.mono h.mem⟩
 | .cM id ver p c i len,_,hv=>by
  have h1:=hv.one;simp only[aF.iL];cases hr:ρ id ver with
  |none=>
   simp only[V]at hv ⊢;obtain⟨a,cap,e,_⟩:=hv;exact⟨_,e,h1 _ (by simp[e])⟩
  |some r=>
   simp only[V]at hv ⊢;obtain⟨a,cap,e,hl,hs,hb,hc⟩:=hv;obtain⟨b1,b2⟩:=h.ref id ver r hr hb;refine⟨a,cap,e,hl,hs,b1,λc=> ?_⟩;obtain⟨c1,e1⟩:=b2 c;rw[e1];exact hc c1
 | .fn f c,_,hv=>by simp only[aF.iL,V]at hv ⊢;obtain⟨vs,e,hc⟩:=hv;exact⟨vs,e,agH h hc⟩
 | .cons _ _,_,hv=>by simp only[V]at hv
 | .nil,_,hv=>by simp only[V]at hv
 | .vec ..,_,hv=>by simp only[V]at hv
 | .bx ..,_,hv=>by simp only[V]at hv
 | .yl id ver,_,hv=>by
  have h1:=hv.one;simp only[aF.iL];cases hr:ρ id ver with
  |none=>
   simp only[V]at hv ⊢;obtain⟨b,e,_⟩:=hv;exact⟨_,e,h1 _ (by simp[e])⟩
  |some r=>
   simp only[V]at hv ⊢;obtain⟨b,e,hb,hc⟩:=hv;obtain⟨b1,b2⟩:=h.ref id ver r hr hb;refine⟨b,e,b1,λc=> ?_⟩;obtain⟨c1,e1⟩:=b2 c;rw[e1];exact hc c1
 | .dM id ver,_,hv=>by
  have h1:=hv.one;simp only[aF.iL];cases hr:ρ id ver with
  |none=>
   simp only[V]at hv ⊢;obtain⟨b,e,_⟩:=hv;exact⟨_,e,h1 _ (by simp[e])⟩
  |some r=>
   simp only[V]at hv ⊢;obtain⟨b,e,hb,hc⟩:=hv;obtain⟨b1,b2⟩:=h.ref id ver r hr hb;refine⟨b,e,b1,λc=> ?_⟩;obtain⟨c1,e1⟩:=b2 c;rw[e1];exact hc c1
 | .mp ..,_,hv | .qa ..,_,hv | .uN ..,_,hv=>by simp only[V]at hv
theorem agH{ρ:Ren}{E E':Env}(h:ye ρ E E'):∀ {a:aF} {vs:List Value},VC E a vs->VC E' (a.iL ρ) vs
 | .nil,_,hv=>by simpa only[aF.iL,VC]using hv
 | .cons a b,_,hv=>by simp only[aF.iL,VC]at hv ⊢;obtain⟨v,vs',cs,e,ha,ho,hb⟩:=hv;exact⟨v,vs',cs,e,acb h ha,by rw[al0];exact ho,agH h hb⟩
 | .undef,_,hv=>by simp only[VC]at hv
 | .gone,_,hv=>by simp only[VC]at hv
 | .dd,_,hv=>by simp only[VC]at hv
 | .jW,_,hv=>by simp only[VC]at hv
 | .vB,_,hv=>by simp only[VC]at hv
 | .yl ..,_,hv | .uN ..,_,hv=>by simp only[VC]at hv
 | .AL,_,hv=>by simp only[VC]at hv
 | .sb _,_,hv=>by simp only[VC]at hv
 | .d t x,_,hv=>by simp only[VC]at hv
 | .pr a b,_,hv=>by simp only[VC]at hv
 | .ptr ..,_,hv=>by simp only[VC]at hv
 | .eG ..,_,hv=>by simp only[VC]at hv
 | .cM ..,_,hv=>by simp only[VC]at hv
 | .fn ..,_,hv=>by simp only[VC]at hv
 | .vec ..,_,hv=>by simp only[VC]at hv
 | .bx ..,_,hv=>by simp only[VC]at hv
 | .dM ..,_,hv=>by simp only[VC]at hv
 | .mp ..,_,hv | .qa ..,_,hv=>by simp only[VC]at hv
end
theorem DI{ρ:Ren}{E E':Env}(h:ye ρ E E'){a:aF}{v:Value}(hv:VS E a v):VS E' (a.iL ρ) v:=by
 by_cases hc:a.eJ=aO
 ·obtain⟨cs,h1,h2⟩:=hv.eJ hc;exact VS.of (acb h h1) (by rw[al0];exact h2)
 ·cases a <;> first | (exact absurd rfl hc) | skip
  ·trivial
  ·obtain⟨vs,e,aDM⟩:=hv;have:=agH h aDM;simp only[aF.iL]at this ⊢;exact⟨vs,e,this⟩
  ·exact hv
  ·obtain⟨cs,h1,_⟩:=hv;simp only[V]at h1
  ·obtain⟨cs,h1,_⟩:=hv;simp only[V]at h1
  ·obtain⟨cs,h1,_⟩:=hv;simp only[V]at h1
  ·obtain⟨cs,h1,_⟩:=hv;simp only[V]at h1
  ·obtain⟨cs,h1,_⟩:=hv;simp only[V]at h1
theorem T8(ρ:Ren):∀f:aF,(f.iL ρ).list=f.list.map (aF.iL ρ)
 | .cons a b=>by simp only[aF.iL,aF.list,bn,T8 ρ b]
 | .undef | .gone | .dd | .jW | .vB | .AL | .d _ _ | .eG _ _ | .fn _ _ | .pr _ _ | .nil | .vec .. | .sb _ | .bx .. | .mp .. | .qa .. | .uN .. =>rfl
 | .ptr id ver p n=>by simp only[aF.iL];cases ρ id ver <;> rfl
 | .cM id ver p c i len=>by simp only[aF.iL];cases ρ id ver <;> rfl
 | .dM id ver=>by simp only[aF.iL];cases ρ id ver <;> rfl
 | .yl id ver=>by simp only[aF.iL];cases ρ id ver <;> rfl
theorem agF{ρ:Ren}{E E':Env}(h:ye ρ E E'){f:aF}{tmps:Array Value}(hs:BU E f tmps):BU E' (f.iL ρ) tmps:=by
 refine⟨by rw[T8,bg];exact hs.1,λi=> ?_⟩;have:=DI h (hs.2 i);rw[T8,aJ,ei];rw[aJ]at this;cases hi:f.list[i]? with
 |none=>exact VS.undef
 |some x=>rw[hi]at this;exact this
theorem apG(ρ:Ren)(c:aF):(c.iL ρ).strip=c.strip.iL ρ:=by
 cases c <;> first
  |rfl
  | (rename_i id ver p n;simp only[aF.strip,aF.iL];cases ρ id ver <;> rfl)
  | (rename_i id ver p c i len;simp only[aF.strip,aF.iL];cases ρ id ver <;> rfl)
  | (rename_i i v;simp only[aF.strip,aF.iL];cases ρ i v <;> rfl)
theorem LC(ρ:Ren):∀c:aF,(c.iL ρ).size=c.size
 | .pr a b=>by simp only[aF.iL,aF.size,LC ρ a,LC ρ b]
 | .ptr id ver p n=>by simp only[aF.iL];cases ρ id ver <;> rfl
 | .cM id ver p c i len=>by simp only[aF.iL];cases ρ id ver <;> rfl
 | .dM id ver=>by simp only[aF.iL];cases ρ id ver <;> rfl
 | .undef | .gone | .dd | .jW | .vB | .AL | .d _ _ | .eG _ _ | .fn _ _ | .cons _ _ | .nil | .vec .. | .sb _ | .bx .. | .mp .. | .qa .. | .uN .. =>rfl
 | .yl id ver=>by simp only[aF.iL];cases ρ id ver <;> rfl
theorem ary(ρ:Ren){c:aF}(n:Nat):(c.iL ρ).vc n=c.vc n:=by
 cases c with
 |bx e z c=>cases z with
  |zero=>rfl
  |succ z=>exact LC ρ c
 |_=>first | rfl | (simp only[aF.iL];split <;> rfl)
theorem amI(ρ:Ren){c:aF}{pl:Pl}{n:Nat}{e:TypeId}(h:c.DQ pl n e):(c.iL ρ).DQ pl n e:=by
  cases c <;> first
    | (rename_i e' z c;cases z with
       |zero=>exact h
       |succ z=>exact⟨h.1,h.2.1,h.2.2.1,by rw[LC];exact h.2.2.2⟩)
    |exact h
    |trivial
    | (rename_i id ver p n;simp only[aF.iL];cases ρ id ver <;> trivial)
    | (rename_i id ver p c i len;simp only[aF.iL];cases ρ id ver <;> trivial)
    | (rename_i i v;simp only[aF.iL];cases ρ i v <;> trivial)
theorem u7{ρ:Ren}{E E':Env}(h:ye ρ E E'){id id':Id}{fr:Bool}{c:aF}(ho:u6 E id fr c)(hβ:E'.β id'=E.β id)
  (hb:∀pl,E.β id=au pl->E'.w.heap[pl.b]? =E.w.heap[pl.b]? /\(∀k,E.g pl.b= .own (.id id) k->E'.g pl.b= .own (.id id') k)/\(E.g pl.b= .free->E'.g pl.b= .free)):u6 E' id' fr (c.iL ρ):=by
 by_cases hn:c.ix=aV
 ·obtain⟨pl,cur,e,h1,h2,h3,h5,h4⟩:=ho.box hn;obtain⟨b1,b2,b3⟩:=hb pl h1;have h6:=acb h h4;refine Mb.obj ⟨pl,cur,e,by rw[hβ,h1],by rw[b1,h2],?_,amI ρ h5,by rw[apG,ary];exact h6⟩;cases fr with
  |true=>exact b3 h3
  |false=>exact b2 0 h3
 ·cases c <;> first
   | (exact absurd rfl hn)
   |skip
  rotate_left;rotate_left
  ·obtain⟨pl,mb,since,seen,c0,h1,h2,h3,_⟩:=ho;obtain⟨b1,b2,_⟩:=hb pl h1;exact⟨pl,mb,since,seen,c0,by rw[hβ,h1],by rw[b1,h2],b2 0 h3,λvr agw=>by cases agw⟩
  ·obtain⟨pl,r,h1,h2,h3,h4,h5,h6⟩:=ho;obtain⟨b1,b2,_⟩:=hb pl h1;exact⟨pl,r,by rw[hβ,h1],by rw[b1,h2],b2 0 h3,h4,agF h h5,h6⟩
  rotate_left
  ·obtain⟨pl,es,clock,h1,h2,h3,h4⟩:=ho;obtain⟨b1,b2,_⟩:=hb pl h1;exact⟨pl,es,clock,by rw[hβ,h1],by rw[b1,h2],b2 0 h3,⟨h4.1.1.mono h.mem,h4.1.2⟩,h4.2⟩
  rename_i e t l;obtain⟨hz,ho⟩:=ho;refine⟨hz,?_⟩;rw[hβ];cases hp:E.β id with
  |none=>rw[hp]at ho;exact ho
  |some pl=>
   rw[hp]at ho;simp only at ho ⊢;obtain⟨b1,b2,_⟩:=hb pl hp;obtain⟨cur,k,h1,h2,h3,h4,h5,h6,h7,h8⟩:=ho;exact⟨cur,k,by rw[b1,h1],h2,h3,h4,b2 k h5,h6,h7,h8.mono λc x hx=>hx.mono h.mem⟩
def wG(E:Env):List aF->List Value->Prop
 |[],[]=>True
 |a::as,v::vs=>VS E a v/\wG E as vs
 |_,_=>False
def iq.st(G:iq):AS:= {cn:=[],b8:=G.b8,news:=[G.news]}
def fL(b8:List dE):AS:= {cn:=[],b8,news:=[]}
def rK(E:Env)(G:iq)(v:Value)(w':bV):Prop:=∃g' β',VS (G.st.env w' g' β') G.val v/\iR (G.st.env w' g' β')/\Trans E.w w' E.g g'/\cP E (G.st.env w' g' β')
def nI(P:aL)(f:fw)(en:Entry):Prop:=∀w g β args b8 iY x,wG ((fL b8).env w g β) args iY->iR ((fL b8).env w g β)->en.run args b8=au x->((callFunc f iY.toArray).run P w= .ok (.enter f iY.toArray) w/\Calls P f iY.toArray w λe w'=>∃v,e= .returned v/\rK ((fL b8).env w g β) (en.out args b8 x) v w')\/(∃v w',(callFunc f iY.toArray).run P w= .ok (.value v) w'/\rK ((fL b8).env w g β) (en.out args b8 x) v w')
def DG(P:aL)(y:Nat)(en:Entry):Prop:=∀w g β args b8 iY x,wG ((fL b8).env w g β) args iY->iR ((fL b8).env w g β)->en.run args b8=au x->∀l us ts f rd n,iY= .func (.yield l) #[] #[]::(us++ts)->us.length=(CN P y).ps.size->RoundIn (Fr rd) n P l f (((CN P y).ps.zip us.toArray).foldl (λtmps (t,a)=>tmps.setIfInBounds t a) ts.toArray) (CN P y).as (CN P y).b w λe w'=>∃v,e= .returned v/\rK ((fL b8).env w g β) (en.out args b8 x) v w'
def Ja(P:aL)(f:fw)(en:Entry):Prop:=∀w g β args b8 iY,wG ((fL b8).env w g β) args iY->iR ((fL b8).env w g β)->(∃x,en.set args b8 x)->(callFunc f iY.toArray).run P w= .ok (.enter f iY.toArray) w/\Calls P f iY.toArray w λe w'=>∃v x,e= .returned v/\en.set args b8 x/\rK ((fL b8).env w g β) (en.out args b8 x) v w'
def nO(P:aL)(f:Nat)(en:Entry):Prop:=(Nat.blt f yB=aO->nI P f en)/\(Nat.ble yB f=aO->DG P f en)/\(Nat.blt f yB=aO->Ja P f en)
theorem nO.no{f:Nat}(h1:Nat.blt f yB=aO)(h2:Nat.ble yB f=aO):False:=gX _ (Nat.lt_of_lt_of_le (gE h1) (gE h2))
theorem nO.of{P:aL}{f:fw}{en:Entry}(h:nI P f en)(hf:Nat.blt f yB=aO)(hs:∀a o x,¬en.set a o x:=by exact λ_ _ _ h=>h):nO P f en:=
 ⟨λ_=>h,λh2=>(nO.no hf h2).elim,λ_ _ _ _ _ _ _ _ _ ⟨x,hx⟩=>(hs _ _ x hx).elim⟩
theorem nO.aJQ{P:aL}{f:fw}{en:Entry}(h:DG P f en)(hf:Nat.ble yB f=aO):nO P f en:=⟨λh2=>(nO.no h2 hf).elim,λ_=>h,λh2=>(nO.no h2 hf).elim⟩
theorem nO.aJP{P:aL}{f:fw}{en:Entry}(h:Ja P f en)(hf:Nat.blt f yB=aO)(hs:∀a o,en.run a o=aH:=by exact λ_ _=>rfl):nO P f en:=
 ⟨λ_ _ _ _ _ _ _ _ _ _ hx=>(by rw[hs]at hx;cases hx),λh2=>(nO.no hf h2).elim,λ_=>h⟩
def Sound(P:aL)(Γ:qh):Prop:=∀f vs en,Γ f vs=au en->nO P f en
theorem wG.mono{E E':Env}(h:cP E E'):∀ {as:List aF} {vs:List Value},wG E as vs->wG E' as vs
 |[],[],_=>trivial
 |_::_,_::_,⟨h1,h2⟩=>⟨h1.mono h,wG.mono h h2⟩
theorem wG.iL{ρ:Ren}{E E':Env}(h:ye ρ E E'):∀ {as:List aF} {vs:List Value},wG E as vs->wG E' (as.map (aF.iL ρ)) vs
 |[],[],_=>trivial
 |_::_,_::_,⟨h1,h2⟩=>⟨DI h h1,wG.iL h h2⟩
theorem wG.append{E:Env}:∀ {as:List aF} {vs:List Value} {bs:List aF} {us:List Value},wG E as vs->wG E bs us->wG E (as++bs) (vs++us)
 |[],[],_,_,_,h=>h
 |_::_,_::_,_,_,⟨h1,h2⟩,h=>⟨h1,wG.append h2 h⟩
theorem Y1{E:Env}:∀ {c:aF} {vs:List Value},VC E c vs->wG E c.list vs
 | .cons a b,vs,h=>by simp only[VC]at h;obtain⟨v,vs',cs,rfl,ha,ho,hb⟩:=h;exact⟨VS.of ha ho,Y1 hb⟩
 | .nil,vs,h=>by simp only[VC]at h;subst h;trivial
 | .undef,_,hv=>by simp only[VC]at hv
 | .gone,_,hv=>by simp only[VC]at hv
 | .dd,_,hv=>by simp only[VC]at hv
 | .jW,_,hv=>by simp only[VC]at hv
 | .vB,_,hv=>by simp only[VC]at hv
 | .yl ..,_,hv | .uN ..,_,hv=>by simp only[VC]at hv
 | .AL,_,hv=>by simp only[VC]at hv
 | .sb _,_,hv=>by simp only[VC]at hv
 | .d t x,_,hv=>by simp only[VC]at hv
 | .pr a b,_,hv=>by simp only[VC]at hv
 | .ptr ..,_,hv=>by simp only[VC]at hv
 | .eG ..,_,hv=>by simp only[VC]at hv
 | .cM ..,_,hv=>by simp only[VC]at hv
 | .fn ..,_,hv=>by simp only[VC]at hv
 | .vec ..,_,hv=>by simp only[VC]at hv
 | .bx ..,_,hv=>by simp only[VC]at hv
 | .dM ..,_,hv=>by simp only[VC]at hv
 | .mp ..,_,hv | .qa ..,_,hv=>by simp only[VC]at hv
theorem Inv.aFS{C:Ctx}{g:Nat->lA}{β:Id->Option Pl}{s:AS}{a:Act}{w:bV}(h:Inv C g β s a w):∀l:List bI,wG (s.env w g β) (l.map s.ev) (l.map a.eval)
 |[]=>trivial
 |x::l=>⟨h.ev x,h.aFS l⟩
theorem Bj{E E':Env}{s:AS}(hs:E.s=s.bS)(ho:iR E)(he:cP E E'):∀(ps:List (Option Ty)) (vs:List aF) (ys:List Value) (r:List aF×List Id),wG E vs ys->(s.conv ps vs).eval=au r->aD3 E E' r.2->wG E' r.1 ys
 |[],[],ys,r,hv,h,_=>by
  simp only[AS.conv,ay]at h;subst h;cases ys with
  |nil=>trivial
  |cons _ _=>exact hv.elim
 |some t::ps,v::vs,y::ys,r,⟨hv,J9⟩,h,hf=>by
  simp only[AS.conv]at h;obtain⟨x,h1,h2⟩:=aw.1 h;obtain⟨r',h3,h4⟩:=aw.1 h2;obtain rfl:=ay.1 h4;obtain⟨cs,hV,hO⟩:=hv.eJ (Ai h1);refine⟨VS.of (cs:=cs) ?_ ?_,Bj hs ho he ps vs ys r' J9 h3 λid c8=>hf id (bp.2 (.inr c8))⟩
  ·simp only[V];exact sO hs ho he v t x cs hV h1 λid c8=>hf id (bp.2 (.inl c8))
  ·show fT t.agg cs y;rw[<-UW h1];exact hO
 |none::ps,v::vs,y::ys,r,⟨hv,J9⟩,h,hf=>by simp only[AS.conv]at h;obtain⟨r',h3,h4⟩:=aw.1 h;obtain rfl:=ay.1 h4;exact⟨hv.mono he,Bj hs ho he ps vs ys r' J9 h3 hf⟩
 |[],_::_,_,_,_,h,_=>by simp only[AS.conv,av]at h
 |some _::_,[],_,_,_,h,_=>by simp only[AS.conv,av]at h
 |none::_,[],_,_,_,h,_=>by simp only[AS.conv,av]at h
end Go.Ab
namespace Go.Ab
theorem oh{id:Id}:∀ {ids:List Id} {k:Nat},idxOf id ids=au k->ids[k]? =au id
 |[],_,h=>by simp[idxOf]at h
 |x::xs,k,h=>by
  simp only[idxOf]at h;split at h
  ·rename_i e;simp only[az]at h;subst h e;rfl
  ·simp only[dq]at h;obtain⟨j,hj,rfl⟩:=h;simpa using oh hj
theorem vn{id:Id}:∀ {ids:List Id} {k:Nat},ids.Nodup->ids[k]? =au id->idxOf id ids=au k
 |[],_,_,h=>by simp at h
 |x::xs,0,hn,h=>by simp only[fR,az]at h;simp[idxOf,h]
 |x::xs,k+1,hn,h=>by
  simp only[lE]at h;obtain⟨h1,h2⟩:=df.1 hn;have gV:x≠id:=λe=>h1 (e▸cS h)
  simp[idxOf,gV,vn h2 h]
theorem A0(s0:AS)(all:List Id)(t:Nat):∀(ids:List Id) (es:List dE) (s:AS),(AS.jw s0 all t s ids es).cn=s.cn
 |[],_,_=>by simp[AS.jw]
 |_::_,[],_=>by simp[AS.jw]
 |id::ids,e::es,s=>by rw[AS.jw,A0 s0 all t ids es,dh]
theorem Uz(s:AS)(ids:List Id)(t:Nat)(es:List dE):(s.made ids t es).cn=s.cn:=by cases es <;> rfl
theorem Eh(s0:AS)(all:List Id)(t:Nat):∀(ids:List Id) (es:List dE) (s:AS),ids.Nodup->es.length=ids.length->(∀id∈ids,s.bS id≠aH)->
  (∀id,id ∉ ids->(AS.jw s0 all t s ids es).bS id=s.bS id)/\
  ∀(k:Nat) (id:Id) (e:dE),ids[k]? =au id->es[k]? =au e->(AS.jw s0 all t s ids es).bS id=au (s0.qG all t (s0.Al id) e)
 |[],es,s,_,_,_=>⟨λ_ _=>by simp[AS.jw],λk id e h=>by simp at h⟩
 |_::_,[],s,_,hl,_=>by simp at hl
 |i::ids,e::es,s,hn,hl,hp=>by
  obtain⟨h1,h2⟩:=df.1 hn;have hp':∀id∈ids,(s.aY i (s0.qG all t (s0.Al i) e)).bS id≠aH:=λid c8=>by rw[cX s i id _ (λe=>h1 (e▸c8))];exact hp id (aD _ c8)
  obtain⟨r1,r2⟩:=Eh s0 all t ids es (s.aY i (s0.qG all t (s0.Al i) e)) h2 (by simpa using hl) hp';rw[AS.jw];refine⟨λid c8=> ?_,λk id e' hk he=> ?_⟩
  ·simp only[bA,not_or]at c8;rw[r1 id c8.2,cX s i id _ c8.1]
  ·cases k with
   |zero=>
    simp only[fR,az]at hk he;subst hk he;rw[r1 i h1,eu s i _ (hp i (aG ..))]
   |succ k=>
    simp only[lE]at hk he;exact r2 k id e' hk he
theorem adt(s:AS)(ids:List Id)(t:Nat)(es:List dE)(hv:es=[]\/s.dW t=aO):
  (∀id,(es=[]\/∀j,id≠ .new t j)->(s.made ids t es).bS id=s.bS id)/\(es≠ []->∀j,(s.made ids t es).bS (.new t j)=(es[j]?).map (s.qG ids t 0)):=by
 cases es with
 |nil=>exact⟨λ_ _=>rfl,λh=>absurd rfl h⟩
 |cons e es=>
  have hv:s.dW t=aO:=by
   rcases hv with h | h
   ·cases h
   ·exact h
  refine⟨λid h=> ?_,λ_ j=> ?_⟩
  ·rcases h with h | h
   ·cases h
   ·exact jc _ h
  ·rw[AS.made,w8 (jX hv).2,ei]
def mS(ids:List Id):lA->lA
 | .free=> .free
 | .own .ez n=> .own .ez n
 | .own (.id i) n=>match idxOf i ids with | some k=> .own (.id (.bF k)) n | none=> .own .ez n
def zZ(β:Id->Option Pl)(ids:List Id):Id->Option Pl
 | .bF k=>(ids[k]?).bind β
 | .new _ _=>aH
def nA(g:Nat->lA)(size:Nat)(ids:List Id)(t:Nat)(b:Nat):lA->lA
 | .free=> .free
 | .own .ez n=>if b < size then g b else .own .ez n
 | .own (.id i) n=> .own (.id (aAI ids t i)) n
def vJ(β β':Id->Option Pl)(ids:List Id)(t:Nat)(some?:Bool)(id:Id):Option Pl:=
 match idxOf id ids with
 |some k=>β' (.bF k)
 |none=>match id with
  | .new i j=>if i=t/\some?=aO then β' (.new 0 j) else β (.new i j)
  |id=>β id
theorem atx{ids:List Id}{l:lA}{off:Nat}(h:rH (λ_=>l) 0 off):rH (λ_=>mS ids l) 0 off:=by
 cases l with
 |free=>trivial
 |own o k=>cases o with
  |ez=>exact h
  |id i=>simp only[mS];cases idxOf i ids <;> exact h
section
variable {P:aL} {C:Ctx} {g:Nat->lA} {β:Id->Option Pl} {s:AS} {a:Act} {w:bV} {o:Oper}
theorem ato(ids:List Id):
  ye (s.vN ids) (s.env w g β) ((fL (ids.map (s.lZ ids))).env w (λb=>mS ids (g b)) (zZ β ids)):=by
 refine⟨⟨λb off v ⟨h1,h2⟩=>⟨h1,?_⟩,λb ob h1 h2=>⟨by show mS ids (g b)= .free;have h1:g b= .free:=h1;rw[h1];rfl,h2⟩⟩,λid ver r hr _=> ?_⟩
 ·exact atx (l:=g b) h2
 ·unfold AS.vN at hr;split at hr
  ·rename_i k v fr c hk ho;split at hr
   ·rename_i aE9;simp only[az]at hr;subst hr aE9;have c8:=oh hk;have cI:=dO ho;refine⟨⟨?_,λ_ _ _ _=>aS _⟩,λ_=>⟨⟨fr,c,cI⟩,?_⟩⟩
    ·show(ids.map (s.lZ ids))[k]? ≠aH
     simp[c8]
    ·show(ids[k]?).bind β=β id;rw[c8];rfl
   ·cases hr
  ·cases hr
theorem ald(ids:List Id)(hn:ids.Nodup)(h:iR (s.env w g β)):iR ((fL (ids.map (s.lZ ids))).env w (λb=>mS ids (g b)) (zZ β ids)):=by
 intro id ver fr c c8;have c8:(fL (ids.map (s.lZ ids))).bS id=au (.obj ver fr c):=c8;cases id with
 |new i j=>simp[fL,AS.bS]at c8
 |bF k=>
  simp only[fL,AS.bS,ei,dq]at c8;obtain⟨id1,hk,he⟩:=c8;unfold AS.lZ at he;split at he
  ·rename_i v fr1 c1 cI;simp only[dE.obj.injEq]at he;obtain⟨rfl,rfl,rfl⟩:=he;refine u7 (ato ids) (h id1 v fr1 c1 cI) (by show(ids[k]?).bind β=β id1;rw[hk];rfl) λpl hp=>⟨rfl,λn hg=> ?_,λhg=> ?_⟩
   ·have hg:g pl.b= .own (.id id1) n:=hg;show mS ids (g pl.b)=_;rw[hg];simp[mS,vn hn hk]
   ·have hg:g pl.b= .free:=hg;show mS ids (g pl.b)=_;rw[hg];rfl
  ·cases he
theorem QT(h:Inv C g β s a w){ids:List Id}(hn:ids.Nodup)(hp:∀id∈ids,∃r,s.obj id=au r)(Qv:∀id∈ids,s.M0 id=aO){G:iq}{t:Nat}(hl:G.b8.length=ids.length)(hv:G.news=[]\/s.dW t=aO){v:Value}{w':bV}
  (ha:rK ((fL (ids.map (s.lZ ids))).env w (λb=>mS ids (g b)) (zZ β ids)) G v w'):
  ∃g' β',Inv C g' β' (AS.jw s ids t (s.made ids t G.news) ids G.b8) a w'/\VS ((AS.jw s ids t (s.made ids t G.news) ids G.b8).env w' g' β') (G.val.iL (s.tP ids t)) v:=by
 obtain⟨g1,β1,yH,aAD,ah5,hle⟩:=ha;have ah5:Trans w w' (λb=>mS ids (g b)) g1:=ah5;obtain⟨m1,m2⟩:=adt s ids t G.news hv;have aHf:∀id∈ids,s.bS id≠aH:=λid c8=>by obtain⟨⟨v,fr,c⟩,hr⟩:=hp id c8;rw[dO hr];simp
 have Bw:∀id,s.bS id≠aH->G.news=[]\/∀j,id≠ .new t j:=λid c8=>by
  rcases hv with hv | hv
  ·exact .inl hv
  ·exact .inr λj e=>c8 (by rw[e];exact(jX hv).1 j)
 obtain⟨n1,n2⟩:=Eh s ids t ids G.b8 (s.made ids t G.news) hn hl (λid c8=>by rw[m1 id (Bw id (aHf id c8))];exact aHf id c8);have aCm:∀j,G.news≠ []->Id.new t j ∉ ids:=λj gV c8=>by
  rcases hv with hv | hv
  ·exact gV hv
  ·exact aHf _ c8 ((jX hv).1 j)
 generalize R3:AS.jw s ids t (s.made ids t G.news) ids G.b8=s2 at*;have hgO:∀(k:Nat) (id:Id),ids[k]? =au id->∃e,G.b8[k]? =au e/\s2.bS id=au (s.qG ids t (s.Al id) e):=λk id hk=>by
  have iJ:k < G.b8.length:=by rw[hl];exact(dF.1 hk).1
  exact⟨_,bW iJ,n2 k id _ hk (bW iJ)⟩
 have hgN:G.news≠ []->∀j,s2.bS (.new t j)=(G.news[j]?).map (s.qG ids t 0):=λgV j=>by rw[n1 _ (aCm j gV),m2 gV j]
 have hgS:∀id,id ∉ ids->(G.news=[]\/∀j,id≠ .new t j)->s2.bS id=s.bS id:=λid h1 h2=>by rw[n1 id h1,m1 id h2]
 have hverOf:∀id∈ids,∃fr c,s.bS id=au (.obj (s.Al id) fr c):=λid c8=>by obtain⟨⟨v,fr,c⟩,hr⟩:=hp id c8;refine⟨fr,c,?_⟩;rw[dO hr];simp[AS.Al,hr]
 have aGS:∀b n,b < w.heap.size->g1 b= .own .ez n->(g b= .own .ez n\/∃i,g b= .own (.id i) n/\idxOf i ids=aH):=λb n hb hg=>by
  have h1:=ah5.Mn b hb;cases P4:g b with
  |free=>simp only[P4,mS]at h1;rw[h1.1]at hg;cases hg
  |own o k=>cases o with
   |ez=>simp only[P4,mS]at h1;rw[h1.1]at hg;left;exact hg
   |id i=>
    cases hi:idxOf i ids with
    |none=>
     simp only[P4,mS,hi]at h1;rw[h1.1]at hg;simp only[lA.own.injEq,true_and]at hg;subst hg;exact .inr ⟨i,rfl,hi⟩
    |some k'=>
     simp only[P4,mS,hi]at h1;rcases h1.1 with h2 | ⟨_,_,h2,_⟩ <;> (rw[h2]at hg;cases hg)
 let g2:Nat->lA:=λb=>nA g w.heap.size ids t b (g1 b)
 let β2:Id->Option Pl:=vJ β β1 ids t (!G.news.isEmpty)
 have hβO:∀k id,ids[k]? =au id->β2 id=β1 (.bF k):=λk id hk=>by show vJ _ _ _ _ _ id=_;simp[vJ,vn hn hk]
 have hβN:G.news≠ []->∀j,β2 (.new t j)=β1 (.new 0 j):=λgV j=>by
  show vJ _ _ _ _ _ _=_;have:idxOf (.new t j) ids=aH:=by
   cases hi:idxOf (.new t j) ids with
   |none=>rfl
   |some k=>exact absurd (cS (oh hi)) (aCm j gV)
  have hne':G.news.isEmpty=aV:=by cases hh:G.news with
   |nil=>exact absurd hh gV
   |cons _ _=>rfl
  simp[vJ,this,hne']
 have hβS:∀id,id ∉ ids->(G.news=[]\/∀j,id≠ .new t j)->β2 id=β id:=λid h1 h2=>by
  show vJ _ _ _ _ _ _=_;have:idxOf id ids=aH:=by
   cases hi:idxOf id ids with
   |none=>rfl
   |some k=>exact absurd (cS (oh hi)) h1
  cases id with
  |bF k=>simp[vJ,this]
  |new i j=>
   have:¬(i=t/\(!G.news.isEmpty)=aO):=by
    rintro⟨rfl,h3⟩;rcases h2 with h2 | h2
    ·rw[h2]at h3;cases h3
    ·exact h2 j rfl
   simp only[vJ, *,cK]
 have aE5:Trans w w' g g2:=by
  refine⟨ah5.os,ah5.tape,ah5.output,ah5.size,λb hb=> ?_⟩;have h1:=ah5.Mn b hb;show match g b with | .free=>nA g w.heap.size ids t b (g1 b)= .free/\_ | .own .ez k=>nA g w.heap.size ids t b (g1 b)= .own .ez k/\_ | .own (.id _) k=>(nA g w.heap.size ids t b (g1 b)= .free\/∃i k',nA g w.heap.size ids t b (g1 b)= .own (.id i) k'/\k<=k')/\_
  cases P4:g b with
  |free=>simp only[P4,mS]at h1 ⊢;rw[h1.1];exact⟨rfl,h1.2⟩
  |own o k=>cases o with
   |ez=>simp only[P4,mS]at h1 ⊢;rw[h1.1];simp only[nA,hb,cZ,P4];exact⟨trivial,h1.2⟩
   |id i=>
    cases hi:idxOf i ids with
    |none=>
     simp only[P4,mS,hi]at h1 ⊢;rw[h1.1];simp only[nA,hb,cZ,P4];exact⟨.inr ⟨i,k,rfl,aC _⟩,λoff v _ hv=>by simpa only[eI,h1.2]using hv⟩
    |some k'=>
     simp only[P4,mS,hi]at h1 ⊢;refine⟨?_,h1.2⟩;rcases h1.1 with h2 | ⟨i',k'',h2,h3⟩
     ·rw[h2];exact .inl rfl
     ·rw[h2];exact .inr ⟨_,k'',rfl,h3⟩
 have rD:rS (G.st.env w' g1 β1) (s2.env w' g2 β2):=by
  refine⟨λb off v ⟨h1,h2⟩=> ?_,λb ob h1 h2=>⟨by show nA g w.heap.size ids t b (g1 b)= .free;have h1:g1 b= .free:=h1;rw[h1];rfl,h2⟩⟩;refine⟨h1,?_⟩;have h2:rH g1 b off:=h2;show rH g2 b off;unfold rH at h2 ⊢;show match nA g w.heap.size ids t b (g1 b) with | .free=>True | .own _ k=>off < k
  cases P4:g1 b with
  |free=>simp[nA]
  |own o k=>
   rw[P4]at h2;cases o with
   |ez=>
    simp only[nA];by_cases hb:b < w.heap.size
    ·rw[if_pos hb];rcases aGS b k hb P4 with h3 | ⟨i,h3,_⟩ <;> (rw[h3];exact h2)
    ·rw[if_neg hb];exact h2
   |id i=>exact h2
 have hentOut:∀(base:Nat) (e:dE) (ver:Nat) (fr:Bool) (c:aF),s.qG ids t base e= .obj ver fr c->∃v0 c0,e= .obj v0 fr c0/\ver=base+v0/\c=c0.iL (s.tP ids t):=λbase e ver fr c he=>by
  cases e with
  |dead=>cases he
  |obj v0 fr0 c0=>
   simp only[AS.qG,dE.obj.injEq]at he;obtain⟨rfl,rfl,rfl⟩:=he;exact⟨v0,c0,rfl,rfl,rfl⟩
 have Z5:ye (s.tP ids t) (G.st.env w' g1 β1) (s2.env w' g2 β2):=by
  refine⟨rD,λid ver r hr hb=> ?_⟩;cases id with
  |bF k=>
   obtain⟨L8,Qt⟩:=hb;have L8:G.b8[k]? ≠aH:=L8
   have hk:k < ids.length:=by
    rcases oV k ids.length with h' | h'
    ·exact h'
    ·exact absurd (dG aq) L8
   have c8:ids[k]? =au ids[k]:=bW hk
   simp only[AS.tP,c8,az]at hr;subst hr;obtain⟨e,DE,Vj⟩:=hgO k _ c8;refine⟨⟨by show s2.bS _≠aH;rw[Vj];simp,λv fr c hh=> ?_⟩,λ⟨fr,c,hh⟩=>⟨?_,hβO k _ c8⟩⟩
   ·have hh:s2.bS ids[k]=au (.obj v fr c):=hh;rw[Vj,az]at hh;obtain⟨v0,c0,rfl,rfl,_⟩:=hentOut _ _ _ _ _ hh;have:=Qt v0 fr c0 DE;omega
   ·have hh:s2.bS ids[k]=au (.obj (s.Al ids[k]+ver) fr c):=hh;rw[Vj,az]at hh;obtain⟨v0,c0,rfl,aDL,_⟩:=hentOut _ _ _ _ _ hh;obtain rfl:ver=v0:=aq;exact⟨fr,c0,DE⟩
  |new i j=>
   simp only[AS.tP,az]at hr;subst hr;obtain⟨L8,Qt⟩:=hb;have L8:([G.news].getD i [])[j]? ≠aH:=L8
   have Qt:∀v fr c,([G.news].getD i [])[j]? =au (.obj v fr c)->ver<=v:=Qt
   cases i with
   |succ i=>simp at L8
   |zero=>
    simp only[lu]at L8 Qt;have gV:G.news≠ []:=λe=>by rw[e]at L8;simp at L8
    obtain⟨e,he⟩:=Option.ne_none_iff_exists'.1 L8;have Vj:=hgN gV j;rw[he,dT]at Vj;refine⟨⟨by show s2.bS (.new t j)≠aH;rw[Vj];simp,λv fr c hh=> ?_⟩,λ⟨fr,c,hh⟩=>⟨?_,hβN gV j⟩⟩
    ·have hh:s2.bS (.new t j)=au (.obj v fr c):=hh;rw[Vj,az]at hh;obtain⟨v0,c0,rfl,rfl,_⟩:=hentOut _ _ _ _ _ hh;have:=Qt v0 fr c0 he;simp only;omega
    ·have hh:s2.bS (.new t j)=au (.obj ver fr c):=hh;rw[Vj,az]at hh;obtain⟨v0,c0,rfl,aDL,_⟩:=hentOut _ _ _ _ _ hh;obtain rfl:ver=v0:=aq;exact⟨fr,c0,he⟩
 have aEP:cP (s.env w g β) (s2.env w' g2 β2):=by
  refine⟨Trans.mem aE5,λid ver hb=> ?_,λid ver hb hc=> ?_⟩
  ·obtain⟨L8,Qt⟩:=hb;have L8:s.bS id≠aH:=L8;have Qt:∀v fr c,s.bS id=au (.obj v fr c)->ver<=v:=Qt;by_cases c8:id∈ids
   ·obtain⟨k,hk⟩:=j4.1 c8;obtain⟨e,DE,Vj⟩:=hgO k id hk;obtain⟨fr1,c1,L9⟩:=hverOf id c8;refine⟨by show s2.bS _≠aH;rw[Vj];simp,λv fr c hh=> ?_⟩;have hh:s2.bS id=au (.obj v fr c):=hh;rw[Vj,az]at hh;obtain⟨v0,c0,rfl,rfl,_⟩:=hentOut _ _ _ _ _ hh;have:=Qt _ _ _ L9;omega
   ·have:=hgS id c8 (Bw id L8);exact⟨by show s2.bS _≠aH;rw[this];exact L8,λv fr c hh=>Qt v fr c (this.symm.trans hh)⟩
  ·obtain⟨L8,Qt⟩:=hb;have L8:s.bS id≠aH:=L8;have Qt:∀v fr c,s.bS id=au (.obj v fr c)->ver<=v:=Qt;obtain⟨fr,c,hh⟩:=hc;have hh:s2.bS id=au (.obj ver fr c):=hh;by_cases c8:id∈ids
   ·obtain⟨k,hk⟩:=j4.1 c8;obtain⟨e,DE,Vj⟩:=hgO k id hk;obtain⟨fr1,c1,L9⟩:=hverOf id c8;rw[Vj,az]at hh;obtain⟨v0,c0,rfl,aDL,_⟩:=hentOut _ _ _ _ _ hh;have aE9:=Qt _ _ _ L9;obtain rfl:v0=0:=aq;have hver':ver=s.Al id:=aq;refine⟨⟨fr1,c1,by rw[hver'];exact L9⟩,?_⟩;show β2 id=β id;rw[hβO k id hk];have ak3:s.lZ ids id= .obj 0 fr1 (c1.iL (s.vN ids)):=by simp[AS.lZ,L9]
    have h0:((fL (ids.map (s.lZ ids))).env w (λb=>mS ids (g b)) (zZ β ids)).C8 (.bF k) 0:=by
     refine⟨?_,λ_ _ _ _=>aS _⟩;show(ids.map (s.lZ ids))[k]? ≠aH
     simp[hk]
    have:=(hle.cur (.bF k) 0 h0 ⟨fr,c0,DE⟩).2;have this:β1 (.bF k)=(ids[k]?).bind β:=this;rw[this,hk];rfl
   ·have:=hgS id c8 (Bw id L8);exact⟨⟨fr,c,this.symm.trans hh⟩,hβS id c8 (Bw id L8)⟩
 have aEX:iR (s2.env w' g2 β2):=by
  intro id ver fr c hh;have hh:s2.bS id=au (.obj ver fr c):=hh;by_cases c8:id∈ids
  ·obtain⟨k,hk⟩:=j4.1 c8;obtain⟨e,DE,Vj⟩:=hgO k id hk;rw[Vj,az]at hh;obtain⟨v0,c0,rfl,_,rfl⟩:=hentOut _ _ _ _ _ hh;refine u7 Z5 (aAD (.bF k) v0 fr c0 DE) (hβO k id hk) λpl _=>⟨rfl,λn hg=> ?_,λhg=> ?_⟩
   ·have hg:g1 pl.b= .own (.id (.bF k)) n:=hg;show nA g w.heap.size ids t pl.b (g1 pl.b)=_;rw[hg];simp[nA,aAI,aJ,hk]
   ·have hg:g1 pl.b= .free:=hg;show nA g w.heap.size ids t pl.b (g1 pl.b)=_;rw[hg];rfl
  ·by_cases gV:G.news≠ []/\∃j,id= .new t j
   ·obtain⟨gV,j,rfl⟩:=gV;rw[hgN gV j,dq]at hh;obtain⟨e,he,hh⟩:=hh;obtain⟨v0,c0,rfl,_,rfl⟩:=hentOut _ _ _ _ _ hh;refine u7 Z5 (aAD (.new 0 j) v0 fr c0 (by show([G.news].getD 0 [])[j]? =_;simpa using he)) (hβN gV j) λpl _=>⟨rfl,λn hg=> ?_,λhg=> ?_⟩
    ·have hg:g1 pl.b= .own (.id (.new 0 j)) n:=hg;show nA g w.heap.size ids t pl.b (g1 pl.b)=_;rw[hg];rfl
    ·have hg:g1 pl.b= .free:=hg;show nA g w.heap.size ids t pl.b (g1 pl.b)=_;rw[hg];rfl
   ·have aIz:G.news=[]\/∀j,id≠ .new t j:=by
     by_cases hh:G.news=[]
     ·exact .inl hh
     ·exact .inr λj e=>gV ⟨hh,j,e⟩
    rw[hgS id c8 aIz]at hh;have same:∀id,id ∉ ids->∀ver fr c,s.bS id=au (.obj ver fr c)->∀pl,β id=au pl->w'.heap[pl.b]? =w.heap[pl.b]? /\nA g w.heap.size ids t pl.b (g1 pl.b)=g pl.b:=by
     intro id c8 ver fr c hh pl P6;obtain⟨hb,anV⟩:=(h.bM id ver fr c hh).label (pl:=pl) P6;have hb:pl.b < w.heap.size:=hb;have h1:=ah5.Mn pl.b hb;have aGW:idxOf id ids=aH:=by
      cases hi:idxOf id ids with
      |none=>rfl
      |some k=>exact absurd (cS (oh hi)) c8
     rcases anV with⟨k,hk⟩ | ⟨_,hk⟩
     ·have hk:g pl.b= .own (.id id) k:=hk;simp only[hk,mS,aGW]at h1;rw[h1.1];simp only[nA,hb,cZ];exact⟨h1.2,trivial⟩
     ·have hk:g pl.b= .free:=hk;simp only[hk,mS]at h1;rw[h1.1,hk];exact⟨h1.2,rfl⟩
    have ho:=h.bM id ver fr c hh;refine ho.mono aEP (hβS id c8 aIz) (λpl P6=>same id c8 ver fr c hh pl P6) λq2 vq k2 v2 l2 MP _=> ?_
    have MP:s.bS q2=au (.obj vq aO (.mp k2 v2 l2)):=MP;have ak6:q2 ∉ ids:=λhm=>by
     have:=Qv q2 hm;have e:s.obj q2=au (vq,aO,.mp k2 v2 l2):=by simp[AS.obj,MP]
     unfold AS.M0 at this;rw[e]at this;cases this
    refine⟨⟨k2,v2,l2,?_⟩,λpl P6=>same q2 ak6 vq aO _ MP pl P6⟩;show s2.bS q2=_;rw[hgS q2 ak6 (Bw q2 (by rw[MP];simp))];exact MP
 have aqW:s2.cn=s.cn:=by rw[<-R3,A0,Uz]
 exact⟨g2,β2,h.step aqW aE5 aEP aEX,DI Z5 yH⟩
end
end Go.Ab
namespace Go.Ab
theorem ru(s:AS):∀(n:Nat) (todo acc:List Id),acc.Nodup->(s.reach n todo acc).Nodup
 | 0,_,acc,h=>by simpa[AS.reach]using h
 |_+1,[],acc,h=>by simpa[AS.reach]using h
 |n+1,id::todo,acc,h=>by
  rw[AS.reach];split
  ·exact ru s n todo acc h
  ·rename_i hc;refine ru s n _ _ ?_
   rw[km];refine⟨h,by simp,λx hx y hy e=> ?_⟩;simp only[bf]at hy;subst hy e;exact hc (by simpa using hx)
theorem zS(s:AS)(vs:List aF):(s.XV vs).Nodup:=ru s _ _ _ (by simp)
section
variable {P:aL} {C:Ctx} {g:Nat->lA} {β:Id->Option Pl} {s:AS} {a:Act} {w:bV} {o:Oper}
theorem acr(h:Inv C g β s a w){ids:List Id}(hn:ids.Nodup)(wc:s.alj ids=aO){G:iq}{s':AS}(he:(s.back ids o.dst G).eval=au s'){v:Value}{w':bV}
  (ha:rK ((fL (ids.map (s.lZ ids))).env w (λb=>mS ids (g b)) (zZ β ids)) G v w'):gW C s' (a.put o.dst v) w':=by
 have hp:∀id∈ids,∃r,s.obj id=au r:=λid c8=>by have:=dj.1 wc id c8;rw[al]at this;exact bD.1 this.1
 have Qv:∀id∈ids,s.M0 id=aO:=λid c8=>by have:=dj.1 wc id c8;rw[al]at this;exact this.2
 unfold AS.back at he;cases aEC:o.dst with
 |some t=>
  rw[aEC]at he;obtain⟨hg,he⟩:=aI.1 he;obtain rfl:=ay.1 he;simp only[al,dw,iu]at hg;obtain⟨hl,hg⟩:=hg;have atm:G.news=[]\/s.dW t=aO:=by
   rcases hg with hg | hg
   ·exact .inl (by simpa using hg)
   ·exact .inr hg
  obtain⟨g2,β2,h1,h2⟩:=QT h hn hp Qv hl atm ha;exact⟨g2,β2,h1.put (au t) h2⟩
 |none=>
  rw[aEC]at he;obtain⟨hg,he⟩:=aI.1 he;obtain rfl:=ay.1 he;simp only[al,dw]at hg;obtain⟨hl,hg⟩:=hg;have Bw:G.news=[]:=by simpa using hg
  obtain⟨g2,β2,h1,_⟩:=QT (t:=0) h hn hp Qv hl (.inl Bw) ha;rw[Bw]at h1;exact⟨g2,β2,h1⟩
theorem MH(h:Inv C g β s a w){en:Entry}{ids:List Id}(hn:ids.Nodup){vs:List aF}{ys:List Value}(hv:wG (s.env w g β) vs ys)
  {s':AS} (he:(s.enter en o.dst ids vs).eval=au s'):∃x,en.run (vs.map (aF.iL (s.vN ids))) (ids.map (s.lZ ids))=au x/\
   wG ((fL (ids.map (s.lZ ids))).env w (λb=>mS ids (g b)) (zZ β ids)) (vs.map (aF.iL (s.vN ids))) ys/\
   iR ((fL (ids.map (s.lZ ids))).env w (λb=>mS ids (g b)) (zZ β ids))/\
   ∀v w',rK ((fL (ids.map (s.lZ ids))).env w (λb=>mS ids (g b)) (zZ β ids)) (en.out (vs.map (aF.iL (s.vN ids))) (ids.map (s.lZ ids)) x) v w'->gW C s' (a.put o.dst v) w':=by
 unfold AS.enter at he;obtain⟨wc,he⟩:=aI.1 he;obtain⟨x,hx,he⟩:=lI.1 he;obtain⟨x0,aCn,he⟩:=aw.1 he;rw[en.al7 _ _ aCn]at he;exact⟨x,hx,wG.iL (ato ids) hv,ald ids hn h.bM,λv w' ha=>acr h hn wc he ha⟩
theorem ahA(h:Inv C g β s a w){f:fw}{en:Entry}(hd:nI P f en){ids:List Id}(hn:ids.Nodup){vs:List aF}{ys:List Value}(hv:wG (s.env w g β) vs ys)
  (hr:(execOp a.eval o).run P w=(callFunc f ys.toArray).run P w) {s':AS} (he:(s.enter en o.dst ids vs).eval=au s'):fG P o a w (gW C s'):=by
 obtain⟨x,hx,h1,h2,key⟩:=MH h hn hv he;rcases hd _ _ _ _ _ _ _ h1 h2 hx with⟨adQ,hc⟩ | ⟨v,w',aF8,ha⟩
 ·exact .inr (.inr (.inl ⟨f,ys.toArray,w,hr.trans adQ,hc.mono λe w' ⟨v,he,ha⟩=>⟨v,he,key v w' ha⟩⟩))
 ·exact .inl ⟨v,w',hr.trans aF8,key v w' ha⟩
theorem amZ(h:Inv C g β s a w){c:Call}{F:bI}{f:fw}{caps:aF}{en:Entry}(ho:o.op= .call c)(hc:c.callee= .value F)(hF:s.ev F= .fn f caps)(hd:nI P f en){s':AS}
  (he:(s.call en o.dst (c.args.toList.map s.ev++caps.list)).eval=au s'):fG P o a w (gW C s'):=by
 obtain⟨cal,args,tys⟩:=c;simp only at hc he;subst hc;obtain⟨vs,hy,aDM⟩:=RN (hF▸h.ev F);have GX:=(h.aFS args.toList).append (Y1 aDM);have hr:(execOp a.eval o).run P w=(callFunc f (args.toList.map a.eval++vs).toArray).run P w:=by
  have e1:execOp a.eval o=(do let d <-resolve a.eval {callee:= .value F,args,argTypes:=tys} o.type;invoke d.target d.args):=by simp only[execOp,ho]
  rw[e1];simp only[resolve,hy,Deferred.ofValue,cg,dK,bE,invoke];congr 2;simp
 unfold AS.call at he;obtain⟨r,h1,h2⟩:=aw.1 he;obtain⟨g',i1,e1,_,f1⟩:=eZ r.2 h;exact ahA i1 hd (zS _ _) (Bj rfl h.bM e1 _ _ _ r GX h1 f1) hr h2
theorem MF{X R:Type}{S:X->Prop}{k:X->Option R}{r:R}(h:P2 S k=au r):(∃x,S x)/\∀x,S x->k x=au r:=by
 unfold P2 at h;split at h
 ·rename_i hx;obtain rfl:=aQ h;exact hx.choose_spec
 ·cases h
theorem Od(h:Inv C g β s a w){f:fw}{en:Entry}(hd:Ja P f en){vs:List aF}{ys:List Value}(GX:wG (s.env w g β) vs ys){R:Type}{k:AS->Option R}{r:R}
  (he:s.Oc en o.dst vs k=au r):(callFunc f ys.toArray).run P w= .ok (.enter f ys.toArray) w/\Calls P f ys.toArray w λe w'=>∃v,e= .returned v/\∃s',gW C s' (a.put o.dst v) w'/\k s'=au r:=by
 unfold AS.Oc at he;obtain⟨r2,h0,he⟩:=gT.1 he;obtain⟨r3,h1,h3⟩:=aw.1 h0;obtain⟨wc,h3⟩:=aI.1 h3;obtain rfl:=ay.1 h3;obtain⟨g',i1,e1,_,f1⟩:=eZ r3.2 h;have hn:=zS (s.bt r3.2) r3.1;have hv:=Bj rfl h.bM e1 _ _ _ r3 GX h1 f1;unfold AS.asF at he;obtain⟨hx,hk⟩:=MF he;obtain⟨c1,c2⟩:=hd _ _ _ _ _ _ (wG.iL (ato _) hv) (ald _ hn i1.bM) hx;refine⟨c1,c2.mono λe w' ⟨v,x,adR,hs,ha⟩=>⟨v,adR,?_⟩⟩;obtain⟨s',h4,h5⟩:=gT.1 (hk x hs);obtain⟨x0,aCn,h4⟩:=aw.1 h4;rw[en.al7 _ _ aCn]at h4;exact⟨s',acr i1 hn wc h4 ha,h5⟩
theorem Ra(h:Inv C g β s a w){c:Call}{F:bI}{f:fw}{caps:aF}{en:Entry}(ho:o.op= .call c)(hc:c.callee= .value F)(hF:s.ev F= .fn f caps)(hd:Ja P f en){R:Type}{k:AS->Option R}{r:R}
  (he:s.Oc en o.dst (c.args.toList.map s.ev++caps.list) k=au r):fG P o a w λa' w'=>∃s',gW C s' a' w'/\k s'=au r:=by
 obtain⟨cal,args,tys⟩:=c;simp only at hc he;subst hc;obtain⟨vs,hy,aDM⟩:=RN (hF▸h.ev F);obtain⟨c1,c2⟩:=Od h hd ((h.aFS args.toList).append (Y1 aDM)) he;refine .inr (.inr (.inl ⟨f,(args.toList.map a.eval++vs).toArray,w,Eq.trans ?_ c1,c2⟩));have e1:execOp a.eval o=(do let d <-resolve a.eval {callee:= .value F,args,argTypes:=tys} o.type;invoke d.target d.args):=by simp only[execOp,ho]
 rw[e1];simp only[resolve,hy,Deferred.ofValue,cg,dK,bE,invoke];congr 2;simp
theorem BU.aJZ{E:Env}{f:aF}{tmps:Array Value}(h:BU E f tmps):wG E f.list tmps.toList:=by
 obtain⟨h1,h2⟩:=h;have gen:∀(l:List aF) (ys:List Value),l.length=ys.length->(∀i,VS E (l.getD i .undef) (ys.getD i undef))->wG E l ys:=by
  intro l
  induction l with
  |nil=>intro ys hl _;cases ys with
   |nil=>trivial
   |cons _ _=>simp at hl
  |cons x l ih=>intro ys hl hi;cases ys with
   |nil=>simp at hl
   |cons y ys=>exact⟨by simpa using hi 0,ih ys (by simpa using hl) λi=>by simpa using hi (i+1)⟩
 exact gen _ _ (by simpa using h1) λi=>by simpa[cJ,aJ]using h2 i
theorem akh(h:Inv C g β s a w){c:Call}{F:bI}{id:Id}{ver:Nat}{rc:tm}{f:aF}{en:Entry}(ho:o.op= .call c)(hc:c.callee= .value F)
  (hF:s.yielded (s.ev F) c.args.size=au (id,ver,rc,f)) (aF6:rc=CN P rc.y) (hd:nO P rc.y en) {s':AS}
  (he:(s.call en o.dst (.yl id ver::(c.args.toList.map s.ev++f.list))).eval=au s'):fG P o a w (gW C s'):=by
 obtain⟨cal,args,tys⟩:=c;simp only at hc he hF;subst hc;unfold AS.yielded at hF;split at hF;rotate_left
 ·cases hF
 rename_i id' ver' adR;split at hF;rotate_left
 ·cases hF
 rename_i v c0 f0 j6;split at hF;rotate_left
 ·cases hF
 rename_i adP;simp only[az,cF]at hF;obtain⟨rfl,rfl,rfl,rfl⟩:=hF;simp only[al,dw]at adP;obtain⟨⟨rfl,re⟩,hy⟩:=adP;have cI:=dO j6;have hv:=h.ev F;rw[adR]at hv;obtain⟨cs,hV,hO⟩:=hv;simp only[V]at hV;obtain⟨l,rfl,hb,fE⟩:=hV;have aFd:a.eval F= .func (.yield l) #[] #[]:=by simpa[fT,aF.agg]using hO.symm
 obtain⟨pl,hp,rfl⟩:=fE ⟨aV,_,cI⟩;obtain⟨pl',r,hp',hh,hg,⟨q1,q2,q3⟩,aqW,nw⟩:=h.bM id' v aV _ cI;have hp':β id'=au pl':=hp';have hp:β id'=au pl:=hp;rw[hp']at hp;obtain rfl:pl'=pl:=by simpa using hp
 have hh:w.heap[pl'.b]? =au (.loop r):=hh
 have GX:wG (s.env w g β) (.yl id' v::(args.toList.map s.ev++f0.list)) (.func (.yield pl'.b) #[] #[]::(args.toList.map a.eval++r.tmps.toList)):=
  ⟨by rw[<-aFd,<-adR];exact h.ev F,(h.aFS args.toList).append aqW.aJZ⟩
 have hr:(execOp a.eval o).run P w= .ok (.round pl'.b r.fn ((c0.ps.zip (args.toList.map a.eval).toArray).foldl (λtmps (t,a)=>tmps.setIfInBounds t a) r.tmps.toList.toArray) c0.as c0.b) w:=by
  have e1:execOp a.eval o=(do let d <-resolve a.eval {callee:= .value F,args,argTypes:=tys} o.type;invoke d.target d.args):=by simp only[execOp,ho]
  have e2:=run_yield (P:=P) (args:=args.map a.eval) hh (by simpa[q1]using re);rw[q1,q2,q3]at e2;rw[e1];simp only[resolve,aFd,Deferred.ofValue,cg,dK,bE,invoke];have e3:(args.toList.map a.eval).toArray=args.map a.eval:=by apply gv;simp
  rw[e3];simpa using e2
 unfold AS.call at he;obtain⟨r2,h1,h2⟩:=aw.1 he;obtain⟨g',i1,e1,_,f1⟩:=eZ r2.2 h;obtain⟨x,hx,k1,k2,key⟩:=MH i1 (zS _ _) (Bj rfl h.bM e1 _ _ _ r2 GX h1 f1) h2;refine .inr (.inr (.inr ⟨pl'.b,r.fn,_,c0.as,c0.b,w,hr,λrd n=> ?_⟩));have:=hd.2.1 hy _ _ _ _ _ _ x k1 k2 hx pl'.b (args.toList.map a.eval) r.tmps.toList r.fn rd n rfl (by rw[<-aF6];simpa using re);rw[<-aF6]at this;exact this.mono λe w' ⟨v,he,ha⟩=>⟨v,he,key v w' ha⟩
end
end Go.Ab
namespace Go.Ab
section
variable {P:aL} {C:Ctx} {g:Nat->lA} {β:Id->Option Pl} {s:AS} {a:Act} {w:bV} {o:Oper}
theorem jr{b:Builtin}{args:Array bI}{ts:Array TypeId}{F:TypeId->Array Value->Sem Value}{x:Value}{w':bV}{s':AS}(ho:o.op= .call {callee:= .builtin b,args,argTypes:=ts})
  (hb:∀ty cs xs,builtin b ts ty cs xs=(do pure (.value (<-F ty xs)))) (hf:∀ty,(F ty (args.map a.eval)).run P w= .ok x w') (h2:∃g' β',Inv C g' β' s' (a.put o.dst x) w'):fG P o a w (gW C s'):=by
 refine .inl ⟨x,w',?_,h2⟩;simp only[execOp,ho,resolve,cg,dK,bE,invoke];rw[hb,cg,hf];rfl
theorem aho(h:Inv C g β s a w){src dst:TypeId}{x:bI}(ho:o.op= .convert src dst x){id:Id}{ver:Nat}(hx:s.ev x= .ptr id ver [] 0){v:aF}(he:(Xh P s src dst id ver).eval=au v):fG P o a w (gW C (s.put o.dst v)):=by
 have hv:=h.ev x;rw[hx]at hv;obtain⟨ad,hy,hb,hc⟩:=sG hv;have fin:v= .ptr id ver [] 0->(convert src dst (a.eval x)).run P w= .ok (a.eval x) w->fG P o a w (gW C (s.put o.dst v)):=by intro h1 h2;subst h1;exact h.value hv (dU (f:=convert src dst (a.eval x)) (by simp only[execOp,ho]) h2)
 unfold Xh at he;split at he
 ·rename_i v0 fr e c j6;have cI:=dO j6;obtain⟨pl',cur,e',hp',hh,hg,hk,hV⟩:=(h.bM id v0 fr _ cI).box rfl;have hk:e'=e:=hk;subst hk;have hV:V (s.env w g β) c (cur.toList.take cur.size):=hV;rw[<-cO,bU]at hV;have hh:w.heap[pl'.b]? =au (.cells cur e' (0,0)):=hh
  have re:=hV.size;have re:cur.toList.length=c.size:=re;have ahY:w.shape? pl'.b=au (e',c.size):=by simp only[World.shape?,hh];rw[<-re];simp
  have hp':β id=au pl':=hp';split at he
  ·rename_i t hS hD;obtain⟨h1,h2⟩:=aI.1 he;have h2:=ay.1 h2;simp only[al,dw,bP,gz]at h1;obtain⟨⟨rfl,h3⟩,h4⟩:=h1;obtain⟨pl,hp,rfl⟩:=hc ⟨fr,_,cI⟩;have hp:β id=au pl:=hp;rw[hp']at hp;obtain rfl:pl'=pl:=by simpa using hp
   refine fin h2.symm ?_
   rw[hy];cases hi:P.info? t with
   |none=>exact absurd (by simp[Program.cellsOf,hi]) h3
   |some j=>
    have hj:j.size≠0:=by rw[<-mr hi]at*;exact h3
    exact Go.Lib.run_to_unsafe w _ hS hD hi hj ahY (by show 0 < c.size;omega)
  ·rename_i u hS hD;obtain⟨h1,h2⟩:=aI.1 he;have h2:=ay.1 h2;simp only[al,dw,bP,gz]at h1;obtain⟨⟨rfl,h3⟩,h4⟩:=h1;obtain⟨pl,hp,rfl⟩:=hc ⟨fr,_,cI⟩;have hp:β id=au pl:=hp;rw[hp']at hp;obtain rfl:pl'=pl:=by simpa using hp
   refine fin h2.symm ?_
   rw[hy];cases hi:P.info? u with
   |none=>exact absurd (by simp[Program.cellsOf,hi]) h3
   |some j=>exact Go.Lib.run_from_unsafe w _ hS hD hi ahY h4
  ·simp only[av]at he
 ·simp only[av]at he
theorem asH(h:Inv C g β s a w){T U:TypeId}{op:BinOp}{x y:bI}(ho:o.op= .binOp op T x y U){i j:Id}{v1 v2:Nat}(hx:s.ev x= .ptr i v1 [] 0)(hy:s.ev y= .ptr j v2 [] 0){v:aF}(he:(aDu P s T op i v1 j v2).eval=au v):
  fG P o a w (gW C (s.put o.dst v)):=by
 unfold aDu at he;split at he
 ·rename_i v' fr c j6;obtain⟨h1,h2⟩:=aI.1 he;simp only[al,dw,aR]at h1;obtain⟨⟨⟨rfl,rfl⟩,rfl⟩,aDI⟩:=h1;have cI:=dO j6;have R6:=h.ev x;have aAH:=h.ev y;rw[hx]at R6;rw[hy]at aAH;obtain⟨ad,aEq,_,hc⟩:=sG R6;obtain⟨ad',aEr,_,hc'⟩:=sG aAH;obtain⟨pl,hp,rfl⟩:=hc ⟨fr,c,cI⟩;obtain⟨pl',hp',rfl⟩:=hc' ⟨fr,c,cI⟩;rw[hp]at hp';obtain rfl:pl=pl':=by simpa using hp'
  have hT:∃t j,P.underlying T=au (.pointer t)/\P.info? t=au j:=by
   unfold aFs at aDI;split at aDI
   ·rename_i t ht;obtain⟨j,hj⟩:=bD.1 aDI;exact⟨t,j,ht,hj⟩
   ·cases aDI
  obtain⟨t,j,hT,hj⟩:=hT
  have hq:(Op.equal T (.pointer (au ⟨pl.b,0,aH⟩)) (.pointer (au ⟨pl.b,0,aH⟩))).run P w= .ok aO w:=
   ee λd=>by simp[c7,run_underlying hT,sizeOf,typeInfo,hj,run_sameAddr_same]
  have aI9:(eqGuard op T x y (a.eval x) (a.eval y)).run P w= .ok () w:=by rw[aEq,aEr];exact nc (by simp) rfl
  have fin:∀z,(binOp op T (a.eval x) (a.eval y)).run P w= .ok z w->VS (s.env w g β) v z->fG P o a w (gW C (s.put o.dst v)):=by
   intro z h1 h3;refine h.value h3 ?_
   simp[execOp,ho,h1,aI9]
  split at h2
  ·obtain rfl:=ay.1 h2;refine fin (.bool aO) ?_ (ua aO)
   rw[aEq,aEr];simp[binOp,hq]
  ·obtain rfl:=ay.1 h2;refine fin (.bool aV) ?_ (ua aV)
   rw[aEq,aEr];simp[binOp,hq]
  ·simp only[av]at h2
 ·simp only[av]at he
theorem aAl{c:Call}{b:Builtin}{x:bI}(hc:c.callee= .builtin b)(ha:c.args.toList=[x]):c= {callee:= .builtin b,args:= #[x],argTypes:=c.argTypes}:=by
 obtain⟨cal,args,tys⟩:=c;simp only at hc ha;have ha':args= #[x]:=by apply gv;simpa using ha
 subst hc ha';rfl
theorem akp{c:Call}{b:Builtin}{x y:bI}(hc:c.callee= .builtin b)(ha:c.args.toList=[x,y]):c= {callee:= .builtin b,args:= #[x,y],argTypes:=c.argTypes}:=by
 obtain⟨cal,args,tys⟩:=c;simp only at hc ha;have ha':args= #[x,y]:=by apply gv;simpa using ha
 subst hc ha';rfl
theorem aHU{ts:Array TypeId}{T:TypeId}(h:ts.toList=[T]):ts= #[T]:=by apply gv;simpa using h
theorem aDd{ts:Array TypeId}{T U:TypeId}(h:ts.toList=[T,U]):ts= #[T,U]:=by apply gv;simpa using h
theorem arH(h:Inv C g β s a w){c:Call}{x:bI}{T e:TypeId}(ho:o.op= .call c)(hc:c.callee= .builtin .cap)(ha:c.args.toList=[x])(ht:c.argTypes.toList=[T])(hx:s.ev x= .dd)(hT:P.underlying T=au (.slice e)):
  fG P o a w (gW C (s.put o.dst (.d (.int .i64) (0:Int)))):=by
 rw[aAl hc ha,aHU ht]at ho;have hv:=h.ev x;rw[hx]at hv;have hy:=kH hv;refine jr ho (F:=λty xs=>Builtin.cap_ #[T] ty xs) (λty cs xs=>rfl) (x:= .int .i64 0) (w':=w) (λty=> ?_) ⟨g,β,h.put o.dst (kS _ _)⟩;simp[Builtin.cap_,run_underlying hT,hy,goInt]
theorem afR(h:Inv C g β s a w){c:Call}{x:bI}{id:Id}{ver len:Nat}(ho:o.op= .call c)(hc:c.callee= .builtin .unsafeSliceData)(ha:c.args.toList=[x])(hx:s.ev x= .cM id ver [] 0 0 len)(hl:0 < len):
  fG P o a w (gW C (s.put o.dst (.ptr id ver [.idx 0] 0))):=by
 rw[aAl hc ha]at ho;have hv:=h.ev x;rw[hx]at hv;obtain⟨ad,cap,hy,J2,hs,hb,fE⟩:=qn hv;obtain⟨ad,rfl⟩:=bD.1 (hs hl);refine jr ho (F:=λty xs=>Builtin.unsafeSliceData_ c.argTypes ty xs) (λty cs xs=>rfl) (x:= .pointer (au ad)) (w':=w) (λty=> ?_) ⟨g,β,h.put o.dst ?_⟩
 ·rw[show(#[x].map a.eval)= #[a.eval x] by simp,hy];exact Go.Lib.run_unsafeSliceData_row w _ _ _ _ _ aq
 ·refine⟨[.pointer (au ad)],?_,rfl⟩;simp only[V];refine⟨ad,rfl,hb,λhc=> ?_⟩;have h1:=fE hc;cases hp:(s.env w g β).β id with
  |none=>rw[hp]at h1;simp only at h1;cases h1.1
  |some pl=>
   rw[hp]at h1;simp only at h1;exact⟨pl,rfl,by simpa using h1.1 (.inl hl)⟩
theorem aex(h:Inv C g β s a w){c:Call}{mx:Bool}(ho:o.op= .call c)(hc:c.callee= .builtin (if mx then .max else .min)){v:aF}(he:(aov mx (c.args.toList.map s.ev)).eval=au v):fG P o a w (gW C (s.put o.dst v)):=by
 unfold aov at he;split at he
 ·rename_i k x k' y OL;obtain⟨h1,h2⟩:=aI.1 he;obtain rfl:=ay.1 h2;have h1:k=k':=by simpa using h1
  subst h1;have as5:∃p q,c.args.toList=[p,q]/\s.ev p= .d (.int k) x/\s.ev q= .d (.int k) y:=by
   match hh:c.args.toList,OL with
   |[p,q],OL=>simp only[bn,eF,cD]at OL;exact⟨p,q,rfl,OL.1,OL.2.1⟩
   |[],OL=>simp at OL
   |[_],OL=>simp at OL
   |_::_::_::_,OL=>simp at OL
  obtain⟨p,q,ha,hp,hq⟩:=as5;rw[akp hc ha]at ho;have aCl:=h.ev p;have aAG:=h.ev q;rw[hp]at aCl;rw[hq]at aAG;have ep:=tz aCl;have eq:=tz aAG;cases mx with
  |true=>
   refine jr ho (F:=λty xs=>Builtin.max_ c.argTypes ty xs) (λty cs xs=>rfl) (x:= .int k (if x < y then y else x)) (w':=w) (λty=> ?_) ⟨g,β,h.put o.dst (kS _ _)⟩;rw[show(#[p,q].map a.eval)= #[a.eval p,a.eval q] by simp,ep,eq];simp[Builtin.max_,Builtin.max2]
  |false=>
   refine jr ho (F:=λty xs=>Builtin.min_ c.argTypes ty xs) (λty cs xs=>rfl) (x:= .int k (if y < x then y else x)) (w':=w) (λty=> ?_) ⟨g,β,h.put o.dst (kS _ _)⟩;rw[show(#[p,q].map a.eval)= #[a.eval p,a.eval q] by simp,ep,eq];simp[Builtin.min_,Builtin.min2]
 ·rename_i k x k' y k2 z OL;obtain⟨h1,h2⟩:=aI.1 he;obtain rfl:=ay.1 h2;simp only[al,aR]at h1;obtain⟨rfl,rfl⟩:=h1;have as5:∃p q r,c.args.toList=[p,q,r]/\s.ev p= .d (.int k) x/\s.ev q= .d (.int k) y/\s.ev r= .d (.int k) z:=by
   match hh:c.args.toList,OL with
   |[p,q,r],OL=>simp only[bn,eF,cD]at OL;exact⟨p,q,r,rfl,OL.1,OL.2.1,OL.2.2.1⟩
   |[],OL=>simp at OL
   |[_],OL=>simp at OL
   |[_,_],OL=>simp at OL
   |_::_::_::_::_,OL=>simp at OL
  obtain⟨p,q,r,ha,hp,hq,hr⟩:=as5;have aAt:c= {callee:= .builtin (if mx then .max else .min),args:= #[p,q,r],argTypes:=c.argTypes}:=by
   obtain⟨cal,args,tys⟩:=c;simp only at hc ha;have ha':args= #[p,q,r]:=by apply gv;simpa using ha
   subst hc ha';rfl
  rw[aAt]at ho;have aCl:=h.ev p;have aAG:=h.ev q;have agw:=h.ev r;rw[hp]at aCl;rw[hq]at aAG;rw[hr]at agw;have ep:=tz aCl;have eq:=tz aAG;have er:=tz agw;cases mx with
  |true=>
   refine jr ho (F:=λty xs=>Builtin.max_ c.argTypes ty xs) (λty cs xs=>rfl) (x:= .int k (if(if x < y then y else x) < z then z else(if x < y then y else x))) (w':=w) (λty=> ?_) ⟨g,β,h.put o.dst (kS _ _)⟩;rw[show(#[p,q,r].map a.eval)= #[a.eval p,a.eval q,a.eval r] by simp,ep,eq,er];simp[Builtin.max_,Builtin.max2]
  |false=>
   refine jr ho (F:=λty xs=>Builtin.min_ c.argTypes ty xs) (λty cs xs=>rfl) (x:= .int k (if z < (if y < x then y else x) then z else(if y < x then y else x))) (w':=w) (λty=> ?_) ⟨g,β,h.put o.dst (kS _ _)⟩;rw[show(#[p,q,r].map a.eval)= #[a.eval p,a.eval q,a.eval r] by simp,ep,eq,er];simp[Builtin.min_,Builtin.min2]
 ·simp only[av]at he
theorem Vi(z:Array Value)(n:Nat):Builtin.zeroCells z n=madeCells z (n*z.size):=rfl
theorem anO(h:Inv C g β s a w){c:Call}{x y:bI}{T X:TypeId}{k:ki}{n:Int}(ho:o.op= .call c)(hc:c.callee= .builtin .append)(ha:c.args.toList=[x,y])(ht:c.argTypes.toList=[T,X])(hx:s.ev x= .dd)(hy:s.ev y= .d (.int k) n){s':AS}
  (he:(adI P s o.dst T X n).eval=au s'):fG P o a w (gW C s'):=by
 rw[akp hc ha,aDd ht]at ho;have R6:=h.ev x;have aAH:=h.ev y;rw[hx]at R6;rw[hy]at aAH;have ex:=kH R6;have ey:=tz aAH;unfold adI at he;split at he
 ·rename_i e t b q kn Gu hd hX;obtain⟨hT,hz,i,zv,hi,anU,aB1,agy,anY⟩:=Ay Gu;obtain⟨hq,h2⟩:=aI.1 he;obtain⟨h3,h4⟩:=bQ.1 h2;obtain rfl:=ay.1 h4;simp only[al,aR,dI]at h3;obtain⟨h5,h7,h8⟩:=h3;obtain⟨m,rfl⟩:=Int.eq_ofNat_of_zero_le (rO h5);simp only[aa]at h7 h8 ⊢;have aDP:zv.cells.size=t.size:=by have:=(anY (s.env w g β)).size;simpa using this
  have hr:=λty=>Go.Lib.run_append_nil_zeros (P:=P) w T X ty e i zv k kn hT hX hi agy m aq (by rw[anU];exact hz) aq (by rw[aB1];omega)
  obtain⟨cap,J2⟩:∃cap,grownCap w m 0 e=cap:=⟨_,rfl⟩;have c1:m<=cap:=by rw[<-J2];exact grownCap_ge _ _ _ _
  have c2:cap<=maxLen:=by rw[<-J2];exact grownCap_le_maxLen _ _ _ _ (by unfold maxLen;omega)
  rw[J2]at hr;obtain⟨cur,fE⟩:∃cur,Builtin.zeroCells zv.cells m++Builtin.zeroCells zv.cells (cap - m)=cur:=⟨_,rfl⟩;rw[fE]at hr;have s1:cur.size=cap*t.size:=by rw[<-fE,Array.size_append,zo,zo,aDP,<-eH];congr 1;omega
  have wc:=sH (anY (s.env w.drew g β)) m;have s2:cur.toList.take (m*t.size)=(madeCells zv.cells (m*t.size)).toList:=by
   rw[<-fE,bY,Vi,aDP];have hl:(madeCells zv.cells (m*t.size)).toList.length=m*t.size:=by simp[size_madeCells]
   rw[gC aq,bH aq]
  obtain⟨g2,β2,i2,OK⟩:=(h.drew).aaI hq (e:=e) (l:=ai m t.zero) (cur:=cur) (cap:=cap) hz (by rw[cq,s2];exact wc) s1 (by rw[cq];exact c1) c2;rw[cq]at OK;refine jr ho (F:=λty xs=>Builtin.append_ #[T,X] ty xs) (λty cs xs=>rfl) (λty=> ?_) ⟨g2,β2,i2.put o.dst OK⟩;rw[show(#[x,y].map a.eval)= #[a.eval x,a.eval y] by simp,ex,ey];exact hr ty
 ·simp only[av]at he
theorem Yz:∀(xs:List Int) (a:Addr) (acc:ByteArray),(∀j x,xs[j]? =au x->w.cell? (a.add j)=au (.int .u8 x))->
  (loadBytes a acc xs.length).run P w= .ok ⟨acc.data++(xs.map λn=>fm n.toNat).toArray⟩ w
 |[],a,acc,_=>by simp[loadBytes]
 |x::l,a,acc,h=>by
  have h0:w.cell? a=au (.int .u8 x):=by have:=h 0 x rfl;simpa[Addr.add]using this
  have ih:=Yz l (a.add 1) (acc.push x.toNat.toUInt8) (λj y hy=>by
   have:=h (j+1) y (by simpa using hy);have e:(a.add 1).add j=a.add (j+1):=by
    unfold Addr.add;by_cases hj:j=0
    ·subst hj;simp
    ·simp[hj];omega
   rw[e];exact this)
  simp only[aB,loadBytes,cg,run_load,h0,Result.andThen];rw[ih];congr 1;apply ByteArray.ext;simp[ByteArray.push]
theorem aqn(h:Inv C g β s a w){c:Call}{x y:bI}{T U:TypeId}{id:Id}{ver:Nat}{n:Int}(ho:o.op= .call c)(hc:c.callee= .builtin .unsafeString)(ha:c.args.toList=[x,y])(ht:c.argTypes.toList=[T,U])
  (hx:s.ev x= .ptr id ver [.idx 0] 0) (hy:s.ev y= .d (.int .i64) n) {s':AS} (he:(af4 P s o.dst T id ver n).eval=au s'):fG P o a w (gW C s'):=by
 rw[akp hc ha,aDd ht]at ho;have R6:=h.ev x;rw[hx]at R6;obtain⟨ad,aEq,_,aI1⟩:=sG R6;have aAH:=h.ev y;rw[hy]at aAH;have aEr:=tz aAH;unfold af4 at he;split at he
 ·rename_i v e l u j6 hT;obtain⟨h1,h2⟩:=aI.1 he;obtain⟨h3,h4⟩:=bQ.1 h2;obtain rfl:=ay.1 h4;simp only[al,dw]at h1;obtain⟨⟨rfl,rfl⟩,aBT⟩:=h1;simp only[aR]at h3;obtain⟨h5,h6⟩:=h3;obtain⟨n,rfl⟩:=Int.eq_ofNat_of_zero_le (rO h5);have h6:n<=(l:List Int).length:=aq;have cI:=dO j6;obtain⟨pl,hp,rfl⟩:=aI1 ⟨aV,_,cI⟩;have hp:β id=au pl:=hp;have hO:u6 (s.env w g β) id aV (.vec u (.int .u8) l):=h.bM id v aV _ cI;obtain⟨hz,hO⟩:=hO;have hO:(match β id with
   |none=>l=[]
   |some pl=>∃cur k,w.heap[pl.b]? =au (.cells cur u (0,0))/\cur.size=pl.cap*(Ty.int .u8).size/\(l:List Int).length<=pl.cap/\pl.cap<=maxLen/\g pl.b= .own (.id id) k/\
     k<=(l:List Int).length*(Ty.int .u8).size/\(aV=aV->k=0)/\bq (cG (s.env w g β) (.int .u8)) (cur.toList.take ((l:List Int).length*(Ty.int .u8).size)) l):=hO
  rw[hp]at hO;obtain⟨cur,k,q1,q2,q3,q4,q5,q6,q7,q8⟩:=hO;have hk:=q7 rfl;subst hk;have Z4:(Ty.int .u8).size=1:=rfl;rw[Z4,jy]at q2 q8;have J9:=vj q8;have ahY:w.shape? pl.b=au (u,cur.size):=by simp only[World.shape?,q1]
  have Bt:∀j z,((l:List Int).take n)[j]? =au z->w.cell? ((⟨pl.b,0,aH⟩:Addr).add j)=au (.int .u8 z):=λj z hj=>by
   rw[cU]at hj;split at hj
   ·rename_i aIu;have aB3:j < (l:List Int).length:=aq;rw[fv,aU];simp only[eI,q1];have:(cur.toList.take (l:List Int).length)[j]? =au (.int .u8 z):=by rw[J9,ei,hj];rfl
    rw[cU,if_pos aB3]at this;simpa using this
   ·cases hj
  have hlen:((l:List Int).take n).length=n:=by rw[bZ];omega
  have aB7:=Yz (P:=P) (w:=w) ((l:List Int).take n) ⟨pl.b,0,aH⟩ .empty Bt;rw[hlen]at aB7;have aEQ:=Go.Lib.liesAt_bytes (P:=P) (e:=u) (by simpa using aBT) (cur.size / P.cellsOf u) n (by
   rw[show P.cellsOf u=1 by simpa using aBT,Nat.div_one];omega)
  have aEJ:∃w',w.freeze ⟨pl.b,0,aH⟩ n=w'/\w'.os=w.os/\w'.tape=w.tape/\(w'.output=w.output/\w.drawn<=w'.drawn)/\w'.heap.size=w.heap.size/\∀b',b'≠pl.b->w'.heap[b']? =w.heap[b']? :=by refine⟨_,rfl,?_⟩;unfold World.freeze;rw[if_neg aq];refine⟨rfl,rfl,⟨rfl,aC _⟩,by simp,λb' hb'=> ?_⟩;simp only[gD];rw[if_neg (λe=>hb' e.symm)]
  obtain⟨w',hw',f1,f2,f3,f4,f5⟩:=aEJ;have i1:=h.kill cI q5 f1 f2 f3 f4 f5;have aIg:¬(9223372036854775807:Int) < (n:Int):=by unfold maxLen at q4;omega
  have aHa:¬(n:Int) < 0:=aq;have aB9:n≠0:=aq;have aG6:IntKind.i64.max=9223372036854775807:=rfl;refine jr ho (F:=λty xs=>Builtin.unsafeString_ #[T,U] ty xs) (λty cs xs=>rfl) (x:= .string (fC ((l:List Int).take n))) (w':=w') (λty=> ?_) ⟨_,β,i1.put o.dst ⟨[.string (fC ((l:List Int).take n))],by simp only[V,cG];rfl,rfl⟩⟩;rw[show(#[x,y].map a.eval)= #[a.eval x,a.eval y] by simp,aEq,aEr]
  have aBU:Builtin.unsafeString_ #[T,U] ty #[.pointer (au ⟨pl.b,0,aH⟩),.int .i64 n]=
    (do
     let n <-Go.asInt (.int .i64 n)
     if n < 0 then runtimePanic (.error "unsafe.String: len out of range")
     if n > IntKind.i64.max then unsupported (.unsafePointer "String: a length above the largest int")
     if n=0 then pure (.string .empty)
     else if <-variablesAt ⟨pl.b,0,aH⟩ (<-elemOf T) n.toNat then do
      let s <-loadBytes ⟨pl.b,0,aH⟩ .empty n.toNat
      freeze ⟨pl.b,0,aH⟩ n.toNat
      pure (.string s)
     else unsupported (.unsafePointer "String: not so many bytes at ptr")):=rfl
  rw[aBU];simp[Go.asInt,asIntOf,aG6,aIg,aHa,aB9,variablesAt,ahY,elemOf,run_underlying hT,aEQ,aB7,hw',fC]
 ·simp only[av]at he
end
end Go.Ab
namespace Go.Ab
section
variable {P:aL} {C:Ctx} {g:Nat->lA} {β:Id->Option Pl} {s:AS} {a:Act} {w:bV} {o:Oper}
theorem aeu(h:Inv C g β s a w){c:Call}{T T2:TypeId}{m k:bI}(de:o.op= .call c)(hc:c.callee= .builtin .delete)(ha:c.args.toList=[m,k])(ht:c.argTypes.toList=[T,T2]){s':AS}(he:(Cu P s T (s.ev m) (s.ev k)).eval=au s'):fG P o a w (gW C (s'.put o.dst .nil)):=by
 have de:o.op= .call {callee:= .builtin .delete,args:= #[m,k],argTypes:= #[T,T2]}:=by rw[de,akp hc ha,aDd ht]
 unfold Cu at he;split at he
 ·rename_i K V' kt vt id ver hm hx;obtain⟨l,h1,he⟩:=aw.1 he;obtain⟨kx,h2,he⟩:=aw.1 he;obtain⟨aCj,he⟩:=aI.1 he;obtain rfl:=ay.1 he;obtain⟨hT,hK,_⟩:=zT hm;have R6:=h.ev m;rw[hx]at R6;obtain⟨fr,pl,es,clock,g1,g2,g3,g4,g5,g6,g7,gn⟩:=xo h h1 R6;obtain⟨l0,g6,gp⟩:=g6;have GY:=yA depth K kt hK;have hk:=CK (h.ev k) h2;have agu:=nU (P:=P) (w:=w) es.isEmpty depth K kt hK 10000 eR _ _ hk;obtain⟨r,hf,hr⟩:=H3 (P:=P) (w:=w) hK hk rfl g6
  have fin:∀(es':Array fO) (clock':Nat),(∀ty,(Builtin.delete_ #[T,T2] ty (#[m,k].map a.eval)).run P w= .ok (.tuple #[]) {w with heap:=w.heap.setIfInBounds pl.b (.map es' clock')})->Alike (BT (s.env w g β) kt vt) es'.toList (lK kt kx l0)->nN es'.toList clock'->
    fG P o a w (gW C ((s.aY id (.obj ver aV (.mp kt vt (lK kt kx l)))).put o.dst .nil)):=λes' clock' pb as5 aEu=>
   jr (F:=λty xs=>Builtin.delete_ #[T,T2] ty xs) de (λ_ _ _=>rfl) pb ⟨g,β,(h.avU g1 g2 g4 g5 ⟨_,as5,SO GY gn gp⟩ (EI GY gn) aEu aCj).put o.dst rfl⟩
  cases r with
  |none=>
   simp only at hr;refine fin es clock (λty=> ?_) (by simp only[lK,hr];exact g6) g7;simp[Builtin.delete_,run_underlying hT,g3,Go.MapKept.run_getObj_map g4,agu,hf,Go.MapKept.run_setObj_map _ g4]
  |some u=>
   obtain⟨j,u⟩:=u;obtain⟨e,m1,m2,rfl⟩:=hr;refine fin (es.eraseIdxIfInBounds j) clock (λty=> ?_) ?_ (by rw[Array.toList_eraseIdxIfInBounds];exact g7.erase j)
   ·simp[Builtin.delete_,run_underlying hT,g3,Go.MapKept.run_getObj_map g4,agu,hf,Go.MapKept.run_setObj_map _ g4]
   ·simp only[lK,m1,Array.toList_eraseIdxIfInBounds];exact g6.erase j
 ·simp only[av]at he
theorem WO{s:AS}{id:Id}{e:dE}{q:Nat}(hq:s.dW q=aO)(gV:s.bS id≠aH):(s.aY id e).dW q=aO:=by
 cases id with
 |bF k=>exact hq
 |new i j=>
  by_cases hi:i=q
  ·subst hi;exact absurd ((jX hq).1 j) gV
  ·unfold AS.dW AS.aY;simp only[dY hi];exact hq
theorem T4(h:Inv C g β s a w){T:TypeId}{m:bI}(de:o.op= .range T m){s':AS}(he:(Nq P s o.dst T (s.ev m)).eval=au s'):fG P o a w (gW C s'):=by
 unfold Nq at he;split at he
 ·rename_i K V' kt vt id ver q hm hx hd;obtain⟨l,h1,he⟩:=aw.1 he;obtain⟨hq,he⟩:=aI.1 he;obtain rfl:=ay.1 he;rw[al]at hq;obtain⟨hT,_,_⟩:=zT hm;have R6:=h.ev m;rw[hx]at R6;obtain⟨fr,pl,es,clock,g1,g2,g3,g4,g5,g6,g7,gn⟩:=xo h h1 R6;obtain rfl:=zj g1 hq.1;have gV:s.bS id≠aH:=by rw[g1];simp
  have aF7:=Trans.refl w g;have ahX:cP (s.env w g β) ((s.aY id (.obj ver aO (.mp kt vt l))).env w g β):=cP.aY g1 (aC _) aF7 (λ_ _=>rfl) (λ_=>rfl)
  have i0:Inv C g β (s.aY id (.obj ver aO (.mp kt vt l))) a w:=
   h.step (dh _ _ _) aF7 ahX (iR.aY h.bM gV ahX (λ_ _=>rfl) (λ_ _ _ _ _ _ _ _=>⟨rfl,rfl⟩) ⟨pl,es,clock,g2,g4,g5,⟨g6.mono ahX.mem,gn⟩,g7⟩ (Ko g1))
  have cI:=eu s id (.obj ver aO (.mp kt vt l)) gV;have hq':=WO (e:= .obj ver aO (.mp kt vt l)) hq.2 gV;generalize aKk:s.aY id (.obj ver aO (.mp kt vt l))=s0 at i0 cI hq' ahX;have Bw:∀j,id≠ .new q j:=λj e=>by rw[e,(jX hq').1 j]at cI;cases cI
  have iJ:pl.b < w.heap.size:=(bN.1 g4).1;have ht:=Trans.alloc w g (.mapIter (au pl.b) clock #[] clock) (.own (.id (.new q 0)) 0);obtain⟨h3,h4⟩:=i0.Mo hq' (c:= .qa id (ver+1) kt vt l aH) (p:=au ⟨w.heap.size,0⟩) ht (λb hb=>⟨pW w _ hb,fD _ _ _ aq⟩) (λhE=>
   ⟨⟨w.heap.size,0⟩,pl.b,clock,#[],clock,jP _ _ _,rV w _,fI _ _ _,λvr agw=>by
    obtain rfl:ver=vr:=aq;have hb:(s0.env w g β).C8 id ver:=⟨by show s0.bS id≠aH;rw[cI];simp,λv2 fr2 c2 h2=>by
     have h2:s0.bS id=au (.obj v2 fr2 c2):=h2;rw[cI]at h2;simp only[az,dE.obj.injEq]at h2;omega⟩
    refine⟨hE.C8 _ _ hb,λ_=>⟨⟨kt,vt,l,?_⟩,pl,es,clock,?_,rfl,?_,?_,λx hx=>g7.2 x hx,⟨aC _,aC _⟩,g7.1,?_,λx hx=>by cases hx⟩⟩
    ·show(s0.born q _).bS id=_;rw[jc _ Bw];exact cI
    ·show FP β (.new q 0) _ id=_;rw[zl _ _ _ (Bw 0)];exact g2
    ·exact(pW w _ iJ).trans g4
    ·show mM g w.heap.size _ pl.b=_;rw[fD _ _ _ aq];exact g5
    ·have:es.toList.filter (λe=> !(#[]:Array Nat).contains e.born)=es.toList:=jl.2 λx _=>by simp
     rw[this];exact(g6.mono ahX.mem).mono hE.mem⟩)
  refine .inl ⟨.pointer (au ⟨w.heap.size,0,aH⟩),w.alloc (.mapIter (au pl.b) clock #[] clock),?_,_,_,h3.put o.dst (v:= .ptr (.new q 0) 0 [] 0) ⟨[.pointer (au ⟨w.heap.size,0,aH⟩)],?_,rfl⟩⟩
  ·refine dU (f:=Instr.range T (a.eval m)) (by simp only[execOp,de]) ?_
   rw[g3];exact run_range_map w T K V' pl.b es clock hT g4
  ·simp only[V];exact⟨_,rfl,pa hq' _ _ _ _,λ_=>⟨_,jP _ _ _,rfl⟩⟩
 ·simp only[av]at he
theorem aco{Γ:qh}(hΓ:Sound P Γ){bM:List Nat}(h:Inv C g β s a w){s':AS}(he:(oZ P Γ bM o s).eval=au s'):fG P o a w (gW C s'):=by
 unfold oZ at he;split at he
 ·rename_i x de;obtain rfl:=ay.1 he;exact X1 h (.inl de)
 ·rename_i x de;obtain rfl:=ay.1 he;exact X1 h (.inr de)
 ·rename_i c x y de;obtain⟨v,h1,h2⟩:=aw.1 he;obtain rfl:=ay.1 h2;exact ao4 h de h1
 ·rename_i T de;split at he
  ·rename_i z q hz hq;obtain⟨h1,h2⟩:=aI.1 he;obtain rfl:=ay.1 h2;simp only[al]at h1;exact agL h de h1.1 h1.2
  ·exact(av.1 he).elim
 ·rename_i T x de;exact arz h de he
 ·rename_i T parts de;exact aha h de he
 ·rename_i T n parts de;exact PZ h de he
 ·rename_i T x de;obtain⟨v,h1,h2⟩:=aw.1 he;obtain rfl:=ay.1 h2;exact aoj h de h1
 ·rename_i T x v de;obtain⟨v,h1,h2⟩:=aw.1 he;obtain rfl:=ay.1 h2;exact ajO h de h1
 ·rename_i x de;exact VZ h de he
 ·rename_i op T x y U de;split at he
  ·rename_i i v1 j v2 hx hy;obtain⟨v,h1,h2⟩:=aw.1 he;obtain rfl:=ay.1 h2;exact asH h de hx hy h1
  ·obtain⟨v,h1,h2⟩:=aw.1 he;obtain rfl:=ay.1 h2;exact agZ h de h1
 ·rename_i op T x de;obtain⟨v,h1,h2⟩:=aw.1 he;obtain rfl:=ay.1 h2;exact aqE h de h1
 ·rename_i T U x de;split at he
  ·rename_i id ver len hTU hx;exact ahn h de hx he
  ·rename_i id ver hx;obtain⟨v,h1,h2⟩:=aw.1 he;obtain rfl:=ay.1 h2;exact aho h de hx h1
  ·obtain⟨v,h1,h2⟩:=aw.1 he;obtain rfl:=ay.1 h2;exact Zs h de h1
 ·rename_i T x de;exact aj0 h de he
 ·rename_i f first caps de
  obtain⟨h1,h2⟩:=aI.1 he;obtain rfl:=ay.1 h2;simp only[al]at h1;exact VU h de h1.1 h1.2
 ·rename_i T l c de;obtain⟨n,h1,h2⟩:=aw.1 he;obtain⟨m,h3,h4⟩:=aw.1 h2;exact SH h de h1 h3 h4
 ·rename_i T x lo hi de;obtain⟨v,h1,h2⟩:=aw.1 he;obtain rfl:=ay.1 h2;exact Uw h de (.inl rfl) h1
 ·rename_i T x lo y m de;obtain⟨v',h0,h8⟩:=aw.1 he;obtain rfl:=ay.1 h8;obtain⟨hv,h1,h2⟩:=aw.1 h0;obtain⟨mv,h3,h4⟩:=aw.1 h2;obtain⟨h5,h6⟩:=bQ.1 h4;obtain⟨v,h7,h9⟩:=aw.1 h6;obtain rfl:=ay.1 h9;simp only[aR]at h5;exact Uw h de (.inr ⟨m,y,hv,mv,rfl,rfl,h1,h3,h5.1,h5.2.1,h5.2.2⟩) h7
 ·rename_i T x f de;obtain⟨v,h1,h2⟩:=aw.1 he;obtain rfl:=ay.1 h2;exact RM h de h1
 ·rename_i T x f de;obtain⟨v,h1,h2⟩:=aw.1 he;obtain rfl:=ay.1 h2;exact ahH h de h1
 ·rename_i T x i de;obtain⟨n,h0,he⟩:=aw.1 he;obtain⟨v,h1,h2⟩:=aw.1 he;obtain rfl:=ay.1 h2;exact Sa h de h0 h1
 ·rename_i T x i de;obtain⟨n,h0,he⟩:=aw.1 he;obtain⟨v,h1,h2⟩:=aw.1 he;obtain rfl:=ay.1 h2;exact ah9 h de h0 h1
 ·rename_i x i de;obtain⟨v,h1,h2⟩:=aw.1 he;obtain rfl:=ay.1 h2;exact ZP h de h1
 ·rename_i T de;exact aaz h de he
 ·rename_i T x i ok de;obtain⟨v,h1,h2⟩:=aw.1 he;obtain rfl:=ay.1 h2;exact aeo h de h1
 ·rename_i T m k x de;obtain⟨s1,h1,h2⟩:=aw.1 he;obtain rfl:=ay.1 h2;exact aew h de h1
 ·rename_i T m de;exact T4 h de he
 ·rename_i c de;split at he
  ·rename_i hc;split at he
   ·rename_i m k T T2 ha ht;obtain⟨s1,h1,h2⟩:=aw.1 he;obtain rfl:=ay.1 h2;exact aeu h de hc ha ht h1
   ·exact(av.1 he).elim
  ·rename_i hc;split at he
   ·rename_i x y T X ha ht;exact anf h de hc ha ht he
   ·exact(av.1 he).elim
  ·rename_i hc;split at he
   ·rename_i x T ha ht;obtain⟨v,h1,h2⟩:=aw.1 he;obtain rfl:=ay.1 h2;exact atF h de hc ha ht h1
   ·exact(av.1 he).elim
  ·rename_i hc;split at he
   ·rename_i x y T X ha ht;split at he
    ·rename_i k n hx hy;exact anO h de hc ha ht hx hy he
    ·exact acp h de hc ha ht he
   ·exact(av.1 he).elim
  ·rename_i hc;split at he
   ·rename_i x T ha ht;split at he
    ·rename_i e hx hT;obtain rfl:=ay.1 he;exact arH h de hc ha ht hx hT
    ·exact(av.1 he).elim
   ·exact(av.1 he).elim
  ·rename_i hc;obtain⟨v,h1,h2⟩:=aw.1 he;obtain rfl:=ay.1 h2;exact aex (mx:=aO) h de hc h1
  ·rename_i hc;obtain⟨v,h1,h2⟩:=aw.1 he;obtain rfl:=ay.1 h2;exact aex (mx:=aV) h de hc h1
  ·rename_i hc;split at he
   ·rename_i x ha;split at he
    ·rename_i id ver len hx;obtain⟨h1,h2⟩:=bQ.1 he;obtain rfl:=ay.1 h2;exact afR h de hc ha hx (by simpa using h1)
    ·exact(av.1 he).elim
   ·exact(av.1 he).elim
  ·rename_i hc;split at he
   ·rename_i x y T U ha ht;split at he
    ·rename_i id ver n hx hy;exact aqn h de hc ha ht hx hy he
    ·exact(av.1 he).elim
   ·exact(av.1 he).elim
  ·rename_i F hc;split at he
   ·rename_i f caps hF;split at he
    ·rename_i en adQ;obtain⟨iJ,he⟩:=aI.1 he;exact amZ h de hc hF ((hΓ f _ en adQ).1 iJ) he
    ·exact(av.1 he).elim
   ·exact(av.1 he).elim
  ·exact(av.1 he).elim
 ·exact(av.1 he).elim
end
end Go.Ab
namespace Go.Ab
def pJ(P:aL)(ops:Array Oper)(o:Oper)(a:Act)(w:bV)(K:Act->bV->Prop):Prop:=if Region.wanted o (yielded ops a.tmps) then fG P o a w K else K (a.put o.dst undef) w
theorem pJ.mono{P:aL}{ops:Array Oper}{o:Oper}{a:Act}{w:bV}{K K':Act->bV->Prop}(h:pJ P ops o a w K)(hk:∀a w,K a w->K' a w):pJ P ops o a w K':=by
 unfold pJ at*;split
 ·rename_i hw;rw[if_pos hw]at h;exact h.mono hk
 ·rename_i hw;rw[if_neg hw]at h;exact hk _ _ h
theorem fG.some{P:aL}{o:Oper}{a:Act}{w:bV}{K:Act->bV->Prop}(h:fG P o a w K):∃a' w',K a' w':=by
 rcases h with⟨x,w',_,h⟩ | ⟨w',_,h⟩ | ⟨f,args,w',_,h⟩ | ⟨l,f,tmps,as,b,w',_,h⟩
 ·exact⟨_,_,h⟩
 ·exact⟨_,_,h⟩
 ·obtain⟨e,w'',_,⟨x,_,hx⟩,_⟩:=h [];exact⟨_,_,hx⟩
 ·obtain⟨e,w'',⟨x,_,hx⟩,_⟩:=(h aH 0).2 default [] (room_wide _);exact⟨_,_,hx⟩
theorem pJ.some{P:aL}{ops:Array Oper}{o:Oper}{a:Act}{w:bV}{K:Act->bV->Prop}(h:pJ P ops o a w K):∃a' w',K a' w':=by
 unfold pJ at h;split at h
 ·exact h.some
 ·exact⟨_,_,h⟩
theorem pJ.wpListIn{r:Option Nat}{n:Nat}{P:aL}{ops:Array Oper}{o:Oper}{a:Act}{w:bV}{Q:Exit->Act->bV->Prop}{l:List Oper}(h:pJ P ops o a w (wpListIn (Fr r) n P ops Q l)):Go.wpListIn (Fr r) n P ops Q (o::l) a w:=by
 unfold pJ at h;unfold Go.wpListIn;split
 ·rename_i hw;rw[if_pos hw]at h;exact h.wpIn
 ·rename_i hw;rw[if_neg hw]at h;exact⟨λ_ _=>trivial,h⟩
theorem pJ.wpOpIn{r:Option Nat}{n:Nat}{P:aL}{ops:Array Oper}{o:Oper}{i:Nat}{a:Act}{w:bV}{Q:Exit->Act->bV->Prop}{K:Act->bV->Prop}(ho:ops[i]? =Option.some o)(h:pJ P ops o a w K):Go.wpOpIn (Fr r) n P ops Q i K a w:=by
 unfold pJ at h;unfold Go.wpOpIn;simp only[ho];split
 ·rename_i hw;rw[if_pos hw]at h;exact h.wpIn
 ·rename_i hw;rw[if_neg hw]at h;exact⟨λ_ _=>trivial,h⟩
theorem afn{s:AS}{q:Nat}{v:aF}(h:s.slot q=v)(hq:q < s.cn.length):s.put (au q) v=s:=by
 have hv:s.cn[q]=v:=by simpa[AS.slot,aJ,hq]using h
 simp only[AS.put];rw[<-hv,fJ]
theorem abr{s:AS}{q:Nat}{t:Ty}{x:t.den}(h:s.slot q= .d t x):q < s.cn.length:=by
 rcases oV q s.cn.length with h' | h'
 ·exact h'
 ·simp[AS.slot,aJ,dG h']at h
def Gt(P:aL)(Γ:qh)(bM:List Nat)(ops:Array Oper)(o:Oper)(s:AS):Option AS:=
 match o.guard with
 |none=>(oZ P Γ bM o s).eval
 |some (j,want)=>match(ops[j]?).bind (·.dst) with
  |some q=>match s.slot q with
   | .d .bool b=>if b=want then(oZ P Γ bM o s).eval else au (s.put o.dst .nil)
   | .nil=>au (s.put o.dst .nil)
   |_=>aH
  |none=>aH
theorem adH{R:Type}{P:aL}{Γ:qh}{bM:List Nat}{ops:Array Oper}{o:Oper}{s:AS}{k:AS->Option R}{r:R}(h:as3 P Γ bM ops o s k=au r):∃s',Gt P Γ bM ops o s=au s'/\k s'=au r:=by
 unfold as3 at h;unfold Gt;split at h
 ·rename_i hg;simp only[hg];exact gT.1 h
 ·rename_i j want hg;simp only[hg];split at h
  ·rename_i q hq;simp only[hq];split at h
   ·rename_i b hb;have e:=afn hb (abr hb);simp only[hb];cases want <;> cases b <;> simp only[aP]at h <;> rw[e]at h
    ·obtain⟨s',h1,h2⟩:=gT.1 h;exact⟨s',by simpa using h1,h2⟩
    ·exact⟨_,by simp,h⟩
    ·exact⟨_,by simp,h⟩
    ·obtain⟨s',h1,h2⟩:=gT.1 h;exact⟨s',by simpa using h1,h2⟩
   ·rename_i hb;simp only[hb];exact⟨_,rfl,h⟩
   ·cases h
  ·cases h
section
variable {P:aL} {C:Ctx} {g:Nat->lA} {β:Id->Option Pl} {s:AS} {a:Act} {w:bV} {o:Oper}
theorem Vg(h:Inv C g β s a w){ops:Array Oper}{j q:Nat}{b:Bool}(hq:(ops[j]?).bind (·.dst)=au q)(hb:s.slot q= .d .bool b):yielded ops a.tmps j=au b:=by
 have hv:=h.cn q;rw[hb]at hv;have hv:=Qm hv;have hl:=abr hb;rw[<-h.size]at hl;unfold yielded;rw[hq,Option.bind_some];have:a.tmps[q]? =au (.bool b):=by rw[fq hl];simpa[Array.getD,hl]using hv
 rw[this]
theorem PV(h:Inv C g β s a w){ops:Array Oper}{j q:Nat}(hq:(ops[j]?).bind (·.dst)=au q)(hb:s.slot q= .nil):yielded ops a.tmps j=aH:=by
 have hv:=h.cn q;rw[hb]at hv;have hv:a.tmps.getD q undef= .tuple #[]:=hv;unfold yielded;rw[hq,Option.bind_some];split
 ·rename_i b hb;rw[cJ,hb]at hv;cases hv
 ·rfl
theorem XE{Γ:qh}(hΓ:Sound P Γ){bM:List Nat}{ops:Array Oper}(h:gW C s a w){s':AS}(he:Gt P Γ bM ops o s=au s'):pJ P ops o a w (gW C s'):=by
 obtain⟨g,β,h⟩:=h;unfold Gt at he;unfold pJ;split at he
 ·rename_i hg;have:Region.wanted o (yielded ops a.tmps)=aO:=by simp[Region.wanted,hg]
  rw[if_pos this];exact aco hΓ h he
 ·rename_i j want hg;split at he
  ·rename_i q hq;split at he
   ·rename_i b hb;have hy:=Vg h hq hb;have hw:Region.wanted o (yielded ops a.tmps)=(b==want):=by simp[Region.wanted,hg,hy]
    rw[hw];by_cases e:b=want
    ·rw[if_pos e]at he;rw[if_pos (by simp[e])];exact aco hΓ h he
    ·rw[if_neg e]at he;rw[if_neg (by simp[e])];simp only[az]at he;subst he;exact⟨g,β,h.put o.dst rfl⟩
   ·rename_i hb;have hy:=PV h hq hb;have hw:Region.wanted o (yielded ops a.tmps)=aV:=by simp[Region.wanted,hg,hy]
    rw[hw,if_neg (by simp)];simp only[az]at he;subst he;exact⟨g,β,h.put o.dst rfl⟩
   ·cases he
  ·cases he
theorem apZ{R:Type}{c c':tm}{x:Option R}{r:R}(h:same c c' x=au r):c=c'/\x=au r:=by
 unfold same at h;split at h
 ·exact⟨‹_›,h⟩
 ·cases h
theorem alu{R:Type}{x y:Option R}{r:R}(h:nd x y=au r):x=au r/\y=au r:=by
 unfold nd at h;split at h
 ·rename_i e;exact⟨h,e▸h⟩
 ·cases h
theorem aiE(h:Inv C g β s a w){x y:bI}{n:Nat}(hn:Tj s x y=au n){T:TypeId}(hT:w9.isSl P T=aO):∃b,(0 < n->b=aV)/\(Op.equal T (a.eval x) (a.eval y)).run P w= .ok b w/\
  qJ (a.eval x)=aV/\a.eval x≠ .nilIface/\∀op,binOp op T (a.eval x) (a.eval y)=(match op with | .eql=>do pure (.bool (<-Op.equal T (a.eval x) (a.eval y))) | .neq=>do pure (.bool (!(<-Op.equal T (a.eval x) (a.eval y)))) | _=>binOp op T (a.eval x) (a.eval y)):=by
 have hx:=h.ev x;have hy:=h.ev y;unfold w9.isSl at hT;split at hT <;> try (cases hT;done)
 rename_i e hU;unfold Tj at hn;split at hn
 ·rename_i t l h1 h2;rw[h1]at hx;rw[h2]at hy;obtain⟨ad,cap,vs,hv,_,hs,_⟩:=sK hx;have OK:=kH hy;rw[hv,OK];refine⟨ad.isNone,λhp=> ?_,?_,rfl,by simp,λop=>by cases op <;> rfl⟩
  ·obtain rfl:=aQ hn;obtain⟨ad',rfl⟩:=bD.1 (hs hp);rfl
  ·cases ad with
   |none=>exact ee λd=>by simp[c7,run_underlying hU]
   |some ad=>exact ee λd=>by simp[c7,run_underlying hU]
 ·rename_i t l h1 h2;rw[h1]at hx;rw[h2]at hy;obtain⟨ad,cap,vs,hv,_,hs,_⟩:=sK hy;have OK:=kH hx;rw[hv,OK];refine⟨ad.isNone,λhp=> ?_,?_,rfl,by simp,λop=>by cases op <;> rfl⟩
  ·obtain rfl:=aQ hn;obtain⟨ad',rfl⟩:=bD.1 (hs hp);rfl
  ·exact ee λd=>by simp[c7,run_underlying hU]
 ·rename_i id ver pp c i len h1 h2;rw[h1]at hx;rw[h2]at hy;obtain⟨ad,cap,hv,_,hs,_⟩:=qn hx;have OK:=kH hy;rw[hv,OK];refine⟨ad.isNone,λhp=> ?_,?_,rfl,by simp,λop=>by cases op <;> rfl⟩
  ·obtain rfl:=aQ hn;obtain⟨ad',rfl⟩:=bD.1 (hs hp);rfl
  ·cases ad with
   |none=>exact ee λd=>by simp[c7,run_underlying hU]
   |some ad=>exact ee λd=>by simp[c7,run_underlying hU]
 ·rename_i id ver pp c i len h1 h2;rw[h1]at hx;rw[h2]at hy;obtain⟨ad,cap,hv,_,hs,_⟩:=qn hy;have OK:=kH hx;rw[hv,OK];refine⟨ad.isNone,λhp=> ?_,?_,rfl,by simp,λop=>by cases op <;> rfl⟩
  ·obtain rfl:=aQ hn;obtain⟨ad',rfl⟩:=bD.1 (hs hp);rfl
  ·exact ee λd=>by simp[c7,run_underlying hU]
 ·cases hn
theorem KG(h:Inv C g β s a w){x y:bI}{n:Nat}{T U:TypeId}(hn:Tj s x y=au n)(hT:w9.isSl P T=aO):
  (o.op= .binOp .eql T x y U->∃b,(0 < n->b=aV)/\fG P o a w (gW C (s.put o.dst (.d .bool b))))/\(o.op= .binOp .neq T x y U->∃b,(0 < n->b=aO)/\fG P o a w (gW C (s.put o.dst (.d .bool b)))):=by
 obtain⟨b,h1,h2,h3,h4,h5⟩:=aiE (w:=w) h hn hT;have hg:∀op,(eqGuard op T x y (a.eval x) (a.eval y)).run P w= .ok () w:=λop=>nc h4 h3
 refine⟨λho=>⟨b,h1,h.value (ua b) ?_⟩,λho=>⟨!b,λhp=>by rw[h1 hp];rfl,h.value (ua (!b)) ?_⟩⟩
 ·have h6:(binOp .eql T (a.eval x) (a.eval y)).run P w= .ok (.bool b) w:=by rw[h5 .eql];simp[h2]
  simp[execOp,ho,hg,h6]
 ·have h6:(binOp .neq T (a.eval x) (a.eval y)).run P w= .ok (.bool (!b)) w:=by rw[h5 .neq];simp[h2]
  simp[execOp,ho,hg,h6]
theorem Lz{R:Type}{c:Bool}{x y:Option R}{r:R}(h:aP c x y=au r):(c=aO/\x=au r)\/(c=aV/\y=au r):=by
 cases c
 ·exact .inr ⟨rfl,h⟩
 ·exact .inl ⟨rfl,h⟩
theorem asy{R:Type}{n:Nat}{k:Nat->Option R}{r:R}(h:asw n k=au r):0 < n/\∀j,j < n->k j=au r:=by
 unfold asw at h;split at h
 ·rename_i hx;obtain rfl:=aQ h;exact hx.choose_spec
 ·cases h
theorem asx{R:Type}{n:Nat}{k:Nat->Option R}{x:Option R}(hn:0 < n)(h:∀j,j < n->k j=x):asw n k=x:=by
 unfold asw;cases x with
 |none=>exact zI λ⟨r,_,hr⟩=>by have:=h 0 hn;rw[hr 0 hn]at this;cases this
 |some r=>
  have hx:∃r,0 < n/\∀j,j < n->k j=au r:=⟨r,hn,h⟩;rw[zJ hx];have:=hx.choose_spec.2 0 hn;rw[h 0 hn]at this;exact this.symm
theorem Alike.len{α β:Type}{R:α->β->Prop}:∀ {xs:List α} {ys:List β},Alike R xs ys->xs.length=ys.length
 |[],[],_=>rfl
 |_::_,_::_,⟨_,h⟩=>by simp[h.len]
 |[],_::_,h=>h.elim
 |_::_,[],h=>h.elim
theorem aiS{α:Type}:∀ {xs ys:List α} {i j:Nat} {x:α},xs.Perm ys->xs[i]? =au x->ys[j]? =au x->(xs.eraseIdx i).Perm (ys.eraseIdx j):=by
 have key:∀ {xs:List α} {i:Nat} {x:α},xs[i]? =au x->xs.Perm (x::xs.eraseIdx i):=by
  intro xs
  induction xs with
  |nil=>intro i x h;simp at h
  |cons y xs ih=>
   intro i x h;cases i with
   |zero=>simp at h;subst h;exact lB _
   |succ i=>
    have h:xs[i]? =au x:=by simpa using h
    exact((ih h).cons y).trans (List.Perm.swap x y _)
 intro xs ys i j x hp hi hj;exact((key hi).symm.trans (hp.trans (key hj))).cons_inv
theorem Sk(h:Inv C g β s a w){x:bI}{t:amk}(ht:s.atr (s.ev x)=au t):
  s.bS t.i=au (.obj t.v t.fr (.qa t.q (t.vr+1) t.kt t.vt t.rest t.cur))/\(∃k v l,s.bS t.q=au (.obj t.vr aO (.mp k v l)))/\
  ∃pl plq since seen c0 es clock,a.eval x= .pointer (au ⟨pl.b,0,aH⟩)/\β t.i=au pl/\w.heap[pl.b]? =au (.mapIter (au plq.b) since seen c0)/\g pl.b= .own (.id t.i) 0/\
   β t.q=au plq/\w.heap[plq.b]? =au (.map es clock)/\g plq.b= .own (.id t.q) 0/\(∀x∈es.toList,x.born < since)/\(since<=c0/\since<=clock)/\(es.toList.map (·.born)).Nodup/\
   YY (s.env w g β) t.kt t.vt (es.toList.filter λe=> !seen.contains e.born) t.rest/\
   ∀x,t.cur=au x->∃(e:fO) (seen':Array Nat),e∈es.toList/\seen=seen'.push e.born/\c0=clock/\BT (s.env w g β) t.kt t.vt e x:=by
 have R6:=h.ev x;generalize s.ev x=y at ht R6;unfold AS.atr at ht;split at ht
 ·rename_i i ver;split at ht
  ·rename_i v fr q vr kt vt rest cur j6;split at ht
   ·rename_i hv hl;obtain rfl:=aQ ht;have hv:v=ver:=by simpa using hv
    subst hv;have cI:=dO j6;unfold AS.aem at hl;split at hl
    ·rename_i v2 k2 t2 l2 aHe;have hl:v2=vr:=by simpa using hl
     subst hl;have hq:=dO aHe;refine⟨cI,⟨_,_,_,hq⟩,?_⟩;obtain⟨pl,mb,since,seen,c0,h1,h2,h3,h4⟩:=h.bM i v fr _ cI;obtain⟨h5,h6⟩:=h4 v2 rfl;obtain⟨_,plq,es,clock,k1,k2,k3,k4,k5,k6,k7,k8,k9⟩:=h6 ⟨_,_,hq⟩;subst k2;obtain⟨ad,m1,m2,m3⟩:=sG R6;obtain⟨pl',m4,rfl⟩:=m3 ⟨_,_,cI⟩;have h1:β i=au pl:=h1;have m4:β i=au pl':=m4;rw[h1]at m4;obtain rfl:pl=pl':=by simpa using m4
     exact⟨pl,plq,since,seen,c0,es,clock,m1,h1,h2,h3,k1,k3,k4,k5,k6,k7,k8,k9⟩
    ·cases hl
   ·cases ht
  ·cases ht
 ·cases ht
theorem BT.aJX{E:Env}{kt vt:Ty}{e:fO}{x:kt.den×vt.den}(h:BT E kt vt e x):VS E (.cons (.d kt x.1) (.cons (.d vt x.2) .nil)) (.tuple #[e.key,e.val]):=by obtain⟨⟨c1,a1,b1⟩,c2,a2,b2⟩:=h;refine⟨[e.key,e.val],rfl,?_⟩;simp only[VC];exact⟨_,_,c1,rfl,by simpa only[V]using a1,b1,_,_,c2,rfl,by simpa only[V]using a2,b2,rfl⟩
theorem BT.aJY{E:Env}{kt vt:Ty}{e:fO}{x:kt.den×vt.den}(h:BT E kt vt e x):VS E (.cons (.d .bool aO) (.cons (.d kt x.1) (.cons (.d vt x.2) .nil))) (.tuple #[.bool aO,e.key,e.val]):=by obtain⟨⟨c1,a1,b1⟩,c2,a2,b2⟩:=h;refine⟨[.bool aO,e.key,e.val],rfl,?_⟩;simp only[VC];exact⟨_,_,[.bool aO],rfl,by simp only[V,cG],rfl,_,_,c1,rfl,by simpa only[V]using a1,b1,_,_,c2,rfl,by simpa only[V]using a2,b2,rfl⟩
theorem ahC(h:Inv C g β s a w){x:bI}(de:o.op= .entry x){v:aF}(he:(ahB s (s.ev x)).eval=au v):fG P o a w (gW C (s.put o.dst v)):=by
 unfold ahB at he;split at he
 ·rename_i i v0 fr q vr kt vt rest c ht;obtain rfl:=ay.1 he;obtain⟨_,_,pl,plq,since,seen,c0,es,clock,m1,m2,m3,_,m5,m6,m7,_,_,m10,_,m12⟩:=Sk h ht;obtain⟨e,seen',n1,rfl,rfl,n4⟩:=m12 c rfl;refine h.value n4.aJX (dU (f:=Instr.entry (a.eval x)) (by simp only[execOp,de]) ?_);rw[m1];exact run_entry_at w pl.b plq.b since seen' es _ e m3 m6 n1 m10
 ·simp only[av]at he
theorem heap_drew{w w1:bV}(hw:w1=w\/w1=w.drew):w1.heap=w.heap/\w1.os=w.os/\w1.tape=w.tape/\(w1.output=w.output/\w.drawn<=w1.drawn):=by
 rcases hw with rfl | rfl
 ·exact⟨rfl,rfl,rfl,rfl,aC _⟩
 ·exact⟨rfl,rfl,rfl,rfl,Nat.le_succ _⟩
theorem Inv.aFz(h:Inv C g β s a w){i q:Id}{v vr:Nat}{fr:Bool}{kt vt:Ty}{rest:List (kt.den×vt.den)}{cur:Option (kt.den×vt.den)}(cI:s.bS i=au (.obj v fr (.qa q (vr+1) kt vt rest cur)))
  {k2 v2:Ty} {l2:List (k2.den×v2.den)} (hq:s.bS q=au (.obj vr aO (.mp k2 v2 l2))) {pl plq:Pl} {m0:Option Nat} {since0 c00:Nat} {seen0:Array Nat} (hp:β i=au pl) (hb:w.heap[pl.b]? =au (.mapIter m0 since0 seen0 c00)) (hg:g pl.b= .own (.id i) 0)
  {w1:bV} (hw:w1=w\/w1=w.drew) {es:Array fO} {clock since c0:Nat} {seen:Array Nat} (aJv:β q=au plq) (aBR:w.heap[plq.b]? =au (.map es clock)) (aJa:g plq.b= .own (.id q) 0)
  (h1:∀x∈es.toList,x.born < since) (h2:since<=c0/\since<=clock) (h3:(es.toList.map (·.born)).Nodup) {rest':List (kt.den×vt.den)} {cur':Option (kt.den×vt.den)} (h4:YY (s.env w g β) kt vt (es.toList.filter λe=> !seen.contains e.born) rest')
  (h5:∀x,cur'=au x->∃(e:fO) (seen':Array Nat),e∈es.toList/\seen=seen'.push e.born/\c0=clock/\BT (s.env w g β) kt vt e x):
  Inv C g β (s.aY i (.obj v fr (.qa q (vr+1) kt vt rest' cur'))) a (Go.ChangeMaps.setBlock w1 pl.b (.mapIter (au plq.b) since seen c0))/\
   rS (s.env w g β) ((s.aY i (.obj v fr (.qa q (vr+1) kt vt rest' cur'))).env (Go.ChangeMaps.setBlock w1 pl.b (.mapIter (au plq.b) since seen c0)) g β):=by
 obtain⟨d1,d2,d3,d4⟩:=heap_drew hw;have iJ:pl.b < w.heap.size:=(bN.1 hb).1;have ak2:(Go.ChangeMaps.setBlock w1 pl.b (.mapIter (au plq.b) since seen c0)).heap=w.heap.setIfInBounds pl.b (.mapIter (au plq.b) since seen c0):=by show w1.heap.setIfInBounds _ _=_;rw[d1]
 have aAE:(Go.ChangeMaps.setBlock w1 pl.b (.mapIter (au plq.b) since seen c0)).os=w.os/\(Go.ChangeMaps.setBlock w1 pl.b (.mapIter (au plq.b) since seen c0)).tape=w.tape/\((Go.ChangeMaps.setBlock w1 pl.b (.mapIter (au plq.b) since seen c0)).output=w.output/\w.drawn<=(Go.ChangeMaps.setBlock w1 pl.b (.mapIter (au plq.b) since seen c0)).drawn):=⟨d2,d3,d4⟩;generalize Go.ChangeMaps.setBlock w1 pl.b (.mapIter (au plq.b) since seen c0)=w' at ak2 aAE;have hother:∀b',b'≠pl.b->w'.heap[b']? =w.heap[b']? :=λb' gV=>by rw[ak2,dS,if_neg (λe=>gV e.symm)]
 have kC:w'.heap[pl.b]? =au (.mapIter (au plq.b) since seen c0):=by rw[ak2,dS,if_pos rfl,if_pos iJ]
 have ht:Trans w w' g g:=by
  refine⟨aAE.1,aAE.2.1,aAE.2.2,by rw[ak2];simp,λb' _=> ?_⟩;by_cases he:b'=pl.b
  ·subst he;rw[hg];exact⟨.inr ⟨i,0,rfl,aC _⟩,λ_ _ hh=>aq⟩
  ·rw[hother b' he];cases P4:g b' with
   |free=>exact⟨rfl,rfl⟩
   |own o' k=>cases o' with
    |ez=>exact⟨rfl,rfl⟩
    |id i'=>exact⟨.inr ⟨i',k,rfl,aC _⟩,λoff v _ hv=>by simpa only[eI,hother b' he]using hv⟩
 have hle:cP (s.env w g β) ((s.aY i (.obj v fr (.qa q (vr+1) kt vt rest' cur'))).env w' g β):=cP.aY cI (aC _) ht (λ_ _=>rfl) (λ_=>rfl);have aE1:q≠i:=λe=>by rw[e,cI]at hq;cases hq
 have aJu:plq.b≠pl.b:=λe=>by rw[e,hb]at aBR;cases aBR
 refine⟨h.step (dh _ _ _) ht hle (iR.aY h.bM (by rw[cI];simp) hle (λ_ _=>rfl) (λi' ver' fr' c' pl2 hi R3 P5=>⟨hother _ (h.apart hg hi R3 P5),rfl⟩) ?_ (pg cI λ_ _ _ e=>by cases e)),hle.mem⟩;refine⟨pl,plq.b,since,seen,c0,hp,kC,hg,λvr' agw=> ?_⟩;obtain rfl:vr=vr':=aq;have adO:(s.env w g β).C8 q vr:=⟨by show s.bS q≠aH;rw[hq];simp,λv3 fr3 c3 h3=>by
  have h3:s.bS q=au (.obj v3 fr3 c3):=h3;rw[hq]at h3;simp only[az,dE.obj.injEq]at h3;omega⟩
 refine⟨hle.C8 _ _ adO,λ_=>⟨⟨k2,v2,l2,?_⟩,plq,es,clock,aJv,rfl,(hother _ aJu).trans aBR,aJa,h1,h2,h3,h4.mono hle.mem,λx hx=> ?_⟩⟩
 ·show(s.aY i _).bS q=_;rw[cX s i q _ aE1];exact hq
 ·obtain⟨e,se,a1,a2,a3,a4⟩:=h5 x hx;exact⟨e,se,a1,a2,a3,a4.mono hle.mem⟩
theorem Inv.aAJ(h:Inv C g β s a w){i q:Id}{v ver ver':Nat}{fr:Bool}{kt vt:Ty}{rest rest':List (kt.den×vt.den)}{cur cur':Option (kt.den×vt.den)}(cI:s.bS i=au (.obj v fr (.qa q ver kt vt rest cur)))
  (hk:ver'=0\/(ver'=ver/\rest'=rest/\cur'=aH)):Inv C g β (s.aY i (.obj v fr (.qa q ver' kt vt rest' cur'))) a w:=by
 have ht:=Trans.refl w g;have hle:cP (s.env w g β) ((s.aY i (.obj v fr (.qa q ver' kt vt rest' cur'))).env w g β):=cP.aY cI (aC _) ht (λ_ _=>rfl) (λ_=>rfl);refine h.step (dh _ _ _) ht hle (iR.aY h.bM (by rw[cI];simp) hle (λ_ _=>rfl) (λ_ _ _ _ _ _ _ _=>⟨rfl,rfl⟩) ?_ (pg cI λ_ _ _ e=>by cases e));obtain⟨pl,mb,since,seen,c0,h1,h2,h3,h4⟩:=h.bM i v fr _ cI;refine⟨pl,mb,since,seen,c0,h1,h2,h3,λvr agw=> ?_⟩;rcases hk with hk | ⟨rfl,rfl,rfl⟩
 ·omega
 ·obtain⟨h5,h6⟩:=h4 vr agw;refine⟨hle.C8 _ _ h5,λhc=> ?_⟩;obtain⟨c1,_⟩:=hle.cur _ _ h5 hc;obtain⟨⟨k,v1,l,hq⟩,plq,es,clock,k1,k2,k3,k4,k5,k6,k7,k8,_⟩:=h6 c1;have aE1:q≠i:=λe=>by have hq:s.bS q=_:=hq;rw[e,cI]at hq;cases hq
  exact⟨⟨k,v1,l,by show(s.aY i _).bS q=_;rw[cX s i q _ aE1];exact hq⟩,plq,es,clock,k1,k2,k3,k4,k5,k6,k7,k8.mono hle.mem,λx hx=>by cases hx⟩
theorem ajg{s:AS}{q i:Id}{e:dE}(h:s.T5 q=aV)(hi:s.bS i=au e):e.ats q=aV:=by
 unfold AS.T5 at h;rw[Bool.or_eq_false_iff]at h;cases i with
 |bF k=>simpa using fg.1 h.1 _ (cS hi)
 |new a b=>
  have hi:(s.news.getD a [])[b]? =au e:=hi
  by_cases ha:a < s.news.length
  ·have h2:(s.news.getD a []).any (dE.ats q)=aV:=by simpa using fg.1 h.2 (s.news.getD a []) (by simp[aJ,bW ha])
   simpa using fg.1 h2 _ (cS hi)
  ·simp[aJ,dG (Nat.le_of_not_lt ha)]at hi
theorem Inv.unlock(h:Inv C g β s a w){q:Id}{vr:Nat}{k v:Ty}{l:List (k.den×v.den)}(cI:s.bS q=au (.obj vr aO (.mp k v l)))(hr:s.T5 q=aV):Inv C g β (s.aY q (.obj vr aV (.mp k v l))) a w:=by
 have ht:=Trans.refl w g;have hle:cP (s.env w g β) ((s.aY q (.obj vr aV (.mp k v l))).env w g β):=cP.aY cI (aC _) ht (λ_ _=>rfl) (λ_=>rfl);refine h.step (dh _ _ _) ht hle λi ver fr c hi=> ?_
 have hi:(s.aY q (.obj vr aV (.mp k v l))).bS i=au (.obj ver fr c):=hi;by_cases aIs:i=q
 ·subst aIs;rw[eu s i _ (by rw[cI];simp)]at hi;simp only[az,dE.obj.injEq]at hi;obtain⟨rfl,rfl,rfl⟩:=hi;obtain⟨pl,es,clock,h1,h2,h3,h4,h5⟩:=h.bM i vr aO _ cI;exact⟨pl,es,clock,h1,h2,h3,⟨h4.1.mono hle.mem,h4.2⟩,h5⟩
 ·rw[cX s q i _ aIs]at hi;refine(h.bM i ver fr c hi).aAM hle rfl (λ_ _=>⟨rfl,rfl⟩) λq2 v2 k2 v3 l2 hc MP _=>⟨⟨k2,v3,l2,?_⟩,λ_ _=>⟨rfl,rfl⟩⟩
  obtain⟨kt,vt,rest,cu,rfl⟩:=hc;have hn:=ajg hr hi;have gV:q2≠q:=λe=>by simp[dE.ats,e]at hn
  show(s.aY q _).bS q2=_;rw[cX s q q2 _ gV];exact MP
theorem ail{es:List fO}{seen:Array Nat}(hn:(es.map (·.born)).Nodup){j:Nat}{e:fO}(hj:(es.filter λe=> !seen.contains e.born)[j]? =au e):
  es.filter (λx=> !(seen.push e.born).contains x.born)=(es.filter λe=> !seen.contains e.born).eraseIdx j:=by
 have h1:es.filter (λx=> !(seen.push e.born).contains x.born)=(es.filter λe=> !seen.contains e.born).filter λx=>x.born !=e.born:=by
  rw[qs];refine List.filter_congr λx _=> ?_
  rw[contains_push];cases seen.contains x.born <;> cases hb:x.born==e.born <;> simp[bne,hb]
 rw[h1];have ak6:((es.filter λe=> !seen.contains e.born).map (·.born)).Nodup:=hn.sublist (List.filter_sublist.map _);generalize es.filter (λe=> !seen.contains e.born)=L at hj ak6
 induction L generalizing j with
 |nil=>simp at hj
 |cons x L ih=>
  rw[bn,df]at ak6;cases j with
  |zero=>
   simp only[fR,az]at hj;subst hj;have:L.filter (λy=>y.born !=x.born)=L:=jl.2 λy hy=>by
    have:y.born≠x.born:=λe=>ak6.1 (e▸cr.2 ⟨y,hy,rfl⟩)
    simpa using this
   simp[this]
  |succ j=>
   have hj:L[j]? =au e:=by simpa using hj
   have hx:(x.born !=e.born)=aO:=by
    have:x.born≠e.born:=λh=>ak6.1 (h▸cr.2 ⟨e,cS hj,rfl⟩)
    simpa using this
   rw[lC,hx,List.eraseIdx_cons_succ];simp only[cZ];rw[ih hj ak6.2]
theorem aoE(h:Inv C g β s a w){x:bI}(de:o.op= .next x aV){t:amk}(ht:s.atr (s.ev x)=au t){R:Type}{k:AS->Option R}{r:R}(he:aua s o.dst t k=au r):
  fG P o a w λa' w'=>∃s',gW C s' a' w'/\k s'=au r:=by
 obtain⟨hi,⟨k2,v2,l2,hq⟩,pl,plq,since,seen,c0,es,clock,m1,m2,m3,m4,m5,m6,m7,m8,m9,m10,m11,_⟩:=Sk h ht;have hex:∀ {y:Value} {w':bV},(Instr.next (a.eval x) aV o.type).run P w= .ok y w'->(execOp a.eval o).run P w= .ok (.value y) w':=λhr=>
  dU (f:=Instr.next (a.eval x) aV o.type) (by simp only[execOp,de]) hr
 have Qv:(leftOf es seen).toList=es.toList.filter λe=> !seen.contains e.born:=by unfold leftOf;rw[Array.toList_filter]
 obtain⟨l',m11,adS⟩:=m11;have hlen:=m11.len;rw[adS.length_eq]at hlen;rw[<-Qv,cO]at hlen;unfold aua at he;rcases run_next_at (P:=P) w o.type pl.b plq.b since c0 seen es clock m3 m6 m8 m9.1 with⟨h0,pb⟩ | ⟨e,aDA,w1,hw,pb⟩
 ·rcases Lz he with⟨hc,_⟩ | ⟨_,he⟩
  ·have:0 < t.rest.length:=by simpa using hc
   omega
  ·unfold AS.ay3 at he;have i1:=h.aAJ (rest':=[]) (cur':=aH) hi (.inl rfl);have aE1:t.q≠t.i:=λe=>by rw[e,hi]at hq;simp at hq
   have aDJ:(s.aY t.i (.obj t.v t.fr (.qa t.q 0 t.kt t.vt [] aH))).bS t.q=au (.obj t.vr aO (.mp k2 v2 l2)):=by rw[cX s t.i t.q _ aE1];exact hq
   generalize s.aY t.i (.obj t.v t.fr (.qa t.q 0 t.kt t.vt [] aH))=s1 at he i1 aDJ;cases hr:s1.T5 t.q with
   |true=>rw[hr]at he;cases he
   |false=>
    rw[hr]at he;simp only at he;have aJG:s1.unlock t.q=s1.aY t.q (.obj t.vr aV (.mp k2 v2 l2)):=by simp only[AS.unlock,AS.obj,aDJ]
    rw[aJG]at he;rw[<-m1]at pb;refine .inl ⟨_,w,hex pb,_,⟨g,β,(i1.unlock aDJ hr).put o.dst (v:= .cons (.d .bool aV) .nil) ⟨[.bool aV],rfl,?_⟩⟩,he⟩;simp only[VC];exact⟨_,_,[.bool aV],rfl,by simp only[V,cG],rfl,rfl⟩
 ·rcases Lz he with⟨hc,he⟩ | ⟨hc,_⟩
  ·obtain⟨_,hd⟩:=asy he;rw[Qv]at aDA;obtain⟨i,ax6⟩:=List.getElem?_of_mem aDA;obtain⟨y,aFd,aDO⟩:=m11.get ax6;obtain⟨j,hj⟩:=List.getElem?_of_mem (adS.mem_iff.1 (cS aFd));have aB3:j < t.rest.length:=(dF.1 hj).1;have hy:tJ t.kt t.vt t.rest j=y:=by simp[tJ,aJ,hj]
   have wc:e∈es.toList:=(eo.1 aDA).1;have i1:=h.aFz (rest':=t.rest.eraseIdx j) (cur':=au (tJ t.kt t.vt t.rest j)) (since:=since) (c0:=clock) (seen:=seen.push e.born) hi hq m2 m3 m4 hw m5 m6 m7 m8 ⟨m9.2,m9.2⟩ m10 ?_ ?_
   rotate_left
   ·rw[ail m10 ax6];exact⟨_,m11.erase i,aiS adS aFd hj⟩
   ·intro z hz;obtain rfl:=aQ hz;exact⟨e,seen,wc,rfl,rfl,by rw[hy];exact aDO⟩
   rw[<-m1]at pb;have hVS:=(hy▸aDO:BT (s.env w g β) t.kt t.vt e (tJ t.kt t.vt t.rest j));refine .inl ⟨_,_,hex pb,_,⟨g,β,i1.1.put o.dst (v:= .cons (.d .bool aO) (.cons (.d t.kt (tJ t.kt t.vt t.rest j).1) (.cons (.d t.vt (tJ t.kt t.vt t.rest j).2) .nil))) ?_⟩,hd j aB3⟩;exact BT.aJY (hVS.mono i1.2)
  ·have hc:¬0 < t.rest.length:=by simpa using hc
   have:0 < (leftOf es seen).toList.length:=List.length_pos_of_mem aDA;rw[cO]at this;omega
theorem anN{Γ:qh}(hΓ:Sound P Γ){bM:List Nat}{ops:Array Oper}{R:Type}{k:AS->Option R}{r:R}(h:gW C s a w)(he:ax0 P Γ bM ops o s k=au r):
  pJ P ops o a w λa' w'=>∃s',gW C s' a' w'/\k s'=au r:=by
 have plain:as3 P Γ bM ops o s k=au r->pJ P ops o a w λa' w'=>∃s',gW C s' a' w'/\k s'=au r:=λhe=>by obtain⟨s1,h1,h2⟩:=adH he;exact(XE hΓ h h1).mono λa' w' hs=>⟨s1,hs,h2⟩
 have stepK:∀(hg:o.guard=aH),(fG P o a w λa' w'=>∃s',gW C s' a' w'/\k s'=au r)->pJ P ops o a w λa' w'=>∃s',gW C s' a' w'/\k s'=au r:=λhg hr=>by
  unfold pJ;have:Region.wanted o (yielded ops a.tmps)=aO:=by simp[Region.wanted,hg]
  rw[if_pos this];exact hr
 have step:∀(hg:o.guard=aH) (b:Bool),fG P o a w (gW C (s.put o.dst (.d .bool b)))->k (s.put o.dst (.d .bool b))=au r->pJ P ops o a w λa' w'=>∃s',gW C s' a' w'/\k s'=au r:=λhg b hr hk=>by
  unfold pJ;have:Region.wanted o (yielded ops a.tmps)=aO:=by simp[Region.wanted,hg]
  rw[if_pos this];exact hr.mono λa' w' hs=>⟨_,hs,hk⟩
 unfold ax0 at he;split at he
 ·rename_i T x y U hg ho;split at he
  ·rename_i n hn hT;obtain⟨g,β,hi⟩:=h;obtain⟨b,hb,hr⟩:=(KG (o:=o) (U:=U) hi hn hT).1 ho;refine step hg b hr ?_
   rcases Lz he with⟨hc,hk⟩ | ⟨_,hk⟩
   ·rw[hb (by simpa using hc)];exact hk
   ·obtain⟨k1,k2⟩:=alu hk;cases b
    ·exact k2
    ·exact k1
  ·exact plain he
 ·rename_i T x y U hg ho;split at he
  ·rename_i n hn hT;obtain⟨g,β,hi⟩:=h;obtain⟨b,hb,hr⟩:=(KG (o:=o) (U:=U) hi hn hT).2 ho;refine step hg b hr ?_
   rcases Lz he with⟨hc,hk⟩ | ⟨_,hk⟩
   ·rw[hb (by simpa using hc)];exact hk
   ·obtain⟨k1,k2⟩:=alu hk;cases b
    ·exact k2
    ·exact k1
  ·exact plain he
 ·rename_i T m hg ho;obtain⟨s1,h1,h2⟩:=gT.1 he;obtain⟨g,β,hi⟩:=h;exact stepK hg ((T4 hi ho h1).mono λ_ _ hs=>⟨_,hs,h2⟩)
 ·rename_i x hg ho;obtain⟨s1,h1,h2⟩:=gT.1 he;obtain⟨v,h3,h4⟩:=aw.1 h1;obtain rfl:=ay.1 h4;obtain⟨g,β,hi⟩:=h;exact stepK hg ((ahC hi ho h3).mono λ_ _ hs=>⟨_,hs,h2⟩)
 ·rename_i x hg ho;split at he
  ·rename_i t ht;obtain⟨g,β,hi⟩:=h;exact stepK hg (aoE hi ho ht he)
  ·cases he
 ·rename_i c hg ho;split at he
  ·rename_i F hc;split at he
   ·rename_i id ver rc f hF;split at he
    ·rename_i en adQ;obtain⟨aF6,he⟩:=apZ he;obtain⟨s1,h1,h2⟩:=gT.1 he;obtain⟨g,β,hi⟩:=h;exact stepK hg ((akh hi ho hc hF aF6 (hΓ _ _ en adQ) h1).mono λ_ _ hs=>⟨_,hs,h2⟩)
    ·cases he
   ·split at he
    ·rename_i en vs hr;unfold alZ at hr;split at hr;rotate_left
     ·cases hr
     rename_i f caps hF;split at hr;rotate_left
     ·cases hr
     rename_i en' adQ;split at hr;rotate_left
     ·cases hr
     rename_i adP;rw[al]at adP;simp only[az,cF]at hr;obtain⟨rfl,rfl⟩:=hr;obtain⟨g,β,hi⟩:=h;exact stepK hg (Ra hi ho hc hF ((hΓ _ _ _ adQ).2.2 adP.2) he)
    ·exact plain he
  ·exact plain he
 ·rename_i j want c hg ho;split at he;rotate_left
  ·exact plain he
  rename_i F hc;split at he;rotate_left
  ·exact plain he
  rename_i en vs q hr hq;unfold alZ at hr;split at hr;rotate_left
  ·cases hr
  rename_i f caps hF;split at hr;rotate_left
  ·cases hr
  rename_i en' adQ;split at hr;rotate_left
  ·cases hr
  rename_i adP;rw[al]at adP;simp only[az,cF]at hr;obtain⟨rfl,rfl⟩:=hr;obtain⟨g,β,hi⟩:=h;have call:s.Oc en' o.dst (c.args.toList.map s.ev++caps.list) k=au r->fG P o a w λa' w'=>∃s',gW C s' a' w'/\k s'=au r:=λhe=>Ra hi ho hc hF ((hΓ _ _ _ adQ).2.2 adP.2) he
  unfold pJ;split at he
  ·rename_i b hb;have hy:=Vg hi hq hb;have hw:Region.wanted o (yielded ops a.tmps)=(b==want):=by simp[Region.wanted,hg,hy]
   have e:=afn hb (abr hb);rw[hw];cases want <;> cases b <;> simp only[aP]at he <;> rw[e]at he
   ·rw[if_pos (by rfl)];exact call he
   ·rw[if_neg eR];exact⟨_,⟨g,β,hi.put o.dst (v:= .nil) rfl⟩,he⟩
   ·rw[if_neg eR];exact⟨_,⟨g,β,hi.put o.dst (v:= .nil) rfl⟩,he⟩
   ·rw[if_pos (by rfl)];exact call he
  ·rename_i hb;have hy:=PV hi hq hb;have hw:Region.wanted o (yielded ops a.tmps)=aV:=by simp[Region.wanted,hg,hy]
   rw[hw,if_neg (by simp)];exact⟨_,⟨g,β,hi.put o.dst (v:= .nil) rfl⟩,he⟩
  ·cases he
 ·exact plain he
theorem OD{rd:Option Nat}{n:Nat}{Γ:qh}(hΓ:Sound P Γ){bM:List Nat}{ops:Array Oper}{R:Type}{Q:Exit->Act->bV->Prop}:∀(l:List Oper) {s:AS} {a:Act} {w:bV} {k:AS->Option R} {r:R},gW C s a w->ax1 P Γ bM ops l s k=au r->
  (∀s' a' w',gW C s' a' w'->k s'=au r->Q .normal a' w')->wpListIn (Fr rd) n P ops Q l a w
 |[],s,a,w,k,r,h,he,hk=>hk s a w h he
 |o::l,s,a,w,k,r,h,he,hk=>by have he:ax0 P Γ bM ops o s (λs'=>s'.seen λs'=>ax1 P Γ bM ops l s' k)=au r:=he;simp only[AS.Ly]at he;exact((anN hΓ h he).mono λa' w' ⟨s',hs,h2⟩=>OD hΓ l hs h2 hk).wpListIn
end
end Go.Ab
namespace Go.Ab
theorem AS.asI{s t:AS}(h1:s.cn=t.cn)(h2:s.news.length=t.news.length)(h3:∀id,s.bS id=t.bS id):s=t:=by
 obtain⟨a,b,c⟩:=s;obtain⟨a',b',c'⟩:=t;simp only at h1 h2;subst h1;have hb:b=b':=kj λk=>h3 (.bF k)
 subst hb;have hc:c=c':=by apply oR h2;intro i h h';apply kj;intro j;have:=h3 (.new i j);simpa[AS.bS,aJ,h,h']using this
 rw[hc]
def dE.ab7:dE->dE->Prop
 | .obj v _ c,.obj v' _ c'=>v=v'/\c=c'
 | .dead,.dead=>True
 |_,_=>False
def xG:Option dE->Option dE->Prop
 |some a,au b=>a.ab7 b
 |none,aH=>True
 |_,_=>False
def dE.agt:dE->dE
 | .obj v _ c=> .obj v aO c
 | .dead=> .dead
theorem dE.avX(a:dE):a.ab7 a:=by cases a <;> simp[dE.ab7]
theorem ap3(a:Option dE):xG a a:=by cases a <;> simp[xG,dE.avX]
theorem ap2(a:Option dE):xG (a.map dE.agt) a:=by
 cases a with
 |none=>trivial
 |some x=>cases x <;> simp[xG,dE.ab7,dE.agt]
theorem dE.axX(a:dE):a.agt.agt=a.agt:=by cases a <;> rfl
structure lT(f:DH)(s t:AS):Prop where
 cn:∀i∈f.cn,t.slot i=s.slot i
 ws:∀id∈f.ws,t.bS id=s.bS id
 rs:∀id∈f.rs,xG (t.bS id) (s.bS id)
 dW:∀q,f.dst=au q->t.dW q=s.dW q
structure aDq where
 v:aF
 up:Id->Option dE
 fz:List Id
structure App(d:Option Tmp)(E:aDq)(s s':AS):Prop where
 cn:s'.cn=(s.put d E.v).cn
 len:s'.news.length=s.news.length
 bS:∀id,s'.bS id=match E.up id with | some e=>au e | none=>if id∈E.fz then(s.bS id).map dE.agt else s.bS id
theorem App.aBw{d:Option Tmp}{E:aDq}{s s1 s2:AS}(h1:App d E s s1)(h2:App d E s s2):s1=s2:=
 AS.asI (by rw[h1.cn,h2.cn]) (by rw[h1.len,h2.len]) λid=>by rw[h1.bS,h2.bS]
structure Y3(f:DH)(s:AS)(E:aDq):Prop where
 up:∀id e,E.up id=au e->(id∈f.ws/\s.bS id≠aH)\/∃q j,f.dst=au q/\id= .new q j
 fz:∀id∈E.fz,id∈f.rs
theorem Ig(s:AS)(id:Id)(e:dE):(s.aY id e).news.length=s.news.length:=by cases id <;> simp[AS.aY]
theorem VI(s:AS)(id i:Id):(s.freeze id).bS i=if i=id then(s.bS i).map dE.agt else s.bS i:=by
 unfold AS.freeze;cases hs:s.bS id with
 |none=>
  by_cases hi:i=id
  ·subst hi;simp[hs]
  ·simp[hi]
 |some e=>
  cases e with
  |dead=>
   by_cases hi:i=id
   ·subst hi;simp[hs,dE.agt]
   ·simp[hi]
  |obj v fr c=>
   simp only;by_cases hi:i=id
   ·subst hi;rw[eu s i _ (by rw[hs];simp)];simp[hs,dE.agt]
   ·rw[cX s id i _ hi];simp[hi]
theorem fH(i:Id):∀(ids:List Id) (s:AS),(s.bt ids).bS i=if i∈ids then(s.bS i).map dE.agt else s.bS i
 |[],s=>by simp[AS.bt]
 |id::ids,s=>by
  rw[AS.bt,fH i ids,VI];by_cases h1:i=id
  ·subst h1;by_cases h2:i∈ids
   ·simp[h2,Option.map_map,Function.comp_def,dE.axX]
   ·simp[h2]
  ·simp[h1]
theorem aim(s:AS)(id:Id):(s.freeze id).news.length=s.news.length:=by
 unfold AS.freeze;split
 ·exact Ig _ _ _
 ·rfl
theorem qb:∀(ids:List Id) (s:AS),(s.bt ids).news.length=s.news.length
 |[],_=>rfl
 |id::ids,s=>by rw[AS.bt,qb ids,aim]
theorem zm{s:AS}{q:Nat}:s.dW q=aO↔q < s.news.length/\∀j,s.bS (.new q j)=aH:=by
 refine⟨λh=>⟨(jX h).2,(jX h).1⟩,λ⟨h1,h2⟩=> ?_⟩;unfold AS.dW;rw[bW h1];have h0:=h2 0;simp only[AS.bS,aJ,bW h1,dQ]at h0;cases hh:s.news[q]with
 |nil=>rfl
 |cons x xs=>rw[hh]at h0;simp at h0
theorem App.MK(d:Option Tmp)(v:aF)(ids:List Id)(s:AS):App d ⟨v,λ_=>aH,ids⟩ s ((s.bt ids).put d v):=by
 refine⟨?_,?_,λid=> ?_⟩
 ·cases d <;> simp[AS.put,mW]
 ·cases d <;> simp[AS.put,qb]
 ·rw[F1,fH]
theorem App.Gb(d:Option Tmp)(v:aF)(s:AS):App d ⟨v,λ_=>aH,[]⟩ s (s.put d v):=App.MK d v [] s
def Mp(q:Nat)(es:List dE):Id->Option dE
 | .new i j=>if i=q then es[j]? else aH
 | .bF _=>aH
theorem asE(s:AS){q:Nat}(hq:q < s.news.length)(es:List dE)(id:Id):(s.born q es).bS id=match id with | .new i j=>if i=q then es[j]? else s.bS (.new i j) | .bF k=>s.bS (.bF k):=by
 cases id with
 |bF k=>rfl
 |new i j=>
  simp only;by_cases h:i=q
  ·subst h;rw[if_pos rfl];exact w8 hq _ j
  ·rw[if_neg h];exact jc _ λj' e=>by simp only[Id.new.injEq]at e;exact h e.1
theorem App.aky{s:AS}{q:Nat}(hv:s.dW q=aO)(v:aF)(ids:List Id)(es:List dE):App (au q) ⟨v,Mp q es,ids⟩ s (((s.bt ids).born q es).put (au q) v):=by
 obtain⟨h1,h2⟩:=zm.1 hv;refine⟨?_,?_,λid=> ?_⟩
 ·simp[AS.put,mW]
 ·simp[AS.put,AS.born,qb]
 ·rw[F1,asE _ (by rw[qb];exact h1)];cases id with
  |bF k=>simp only[Mp];exact fH _ _ _
  |new i j=>
   simp only[Mp];by_cases h:i=q
   ·subst h;rw[if_pos rfl];cases he:es[j]? with
    |none=>simp[h2]
    |some e=>simp
   ·rw[if_neg h];simp only[if_neg h];exact fH _ _ _
theorem App.avV{s:AS}{id:Id}{e0:dE}(hs:s.bS id=au e0)(d:Option Tmp)(v:aF)(e:dE):App d ⟨v,λi=>if i=id then au e else aH,[]⟩ s ((s.aY id e).put d v):=by
 refine⟨?_,?_,λi=> ?_⟩
 ·cases d <;> simp[AS.put]
 ·cases d <;> simp[AS.put,Ig]
 ·rw[F1];by_cases hi:i=id
  ·subst hi;rw[eu s i _ (by rw[hs];simp)];simp
  ·rw[cX s id i _ hi];simp[hi]
section
variable {P:aL} {Γ:qh} {bM:List Nat} {ops:Array Oper} {o:Oper} {s t:AS}
def Jb(P:aL)(Γ:qh)(bM:List Nat)(ops:Array Oper)(o:Oper)(s s':AS):Prop:=∃E,App o.dst E s s'/\Y3 (gO Γ ops s o) s E/\∀t,lT (gO Γ ops s o) s t->∃t',(oZ P Γ bM o t).eval=au t'/\App o.dst E t t'
theorem OY{xs:Array bI}{i:Nat}(h:Operand.tmp i∈xs.toList):i∈QG xs:=by unfold QG;exact List.mem_filterMap.2 ⟨_,h,rfl⟩
theorem lT.ev(h:lT (gO Γ ops s o) s t){x:bI}(hx:x∈o.op.operands.toList):t.ev x=s.ev x:=by
 cases x with
 |tmp i=>exact h.cn i (bp.2 (.inl (OY hx)))
 |_=>rfl
theorem aeP(v:Value):(ofConst v).ids=[]:=by unfold ofConst;split <;> rfl
theorem Yc{o:Oper}{x:Op}(h:o.op=x)(hx:X0 x=aV):X0 o.op=aV:=by rw[h];exact hx
theorem H9(hn:X0 o.op=aV){x:bI}(hx:x∈o.op.operands.toList){id:Id}(c8:id∈(s.ev x).ids):id∈(gO Γ ops s o).rs:=by
 refine bp.2 (.inl ?_);unfold aeT;rw[hn];cases x with
 |tmp i=>exact iP.2 ⟨i,OY hx,c8⟩
 |const v=>simp[AS.ev,aeP]at c8
 |global _=>simp[AS.ev,aF.ids]at c8
 |func f=>simp[AS.ev,aF.ids]at c8
theorem lT.ab7(h:lT (gO Γ ops s o) s t)(hn:X0 o.op=aV){x:bI}(hx:x∈o.op.operands.toList){id:Id}(c8:id∈(s.ev x).ids):xG (t.bS id) (s.bS id):=h.rs id (H9 hn hx c8)
theorem LA{id:Id}(h:xG (t.bS id) (s.bS id)):(t.obj id=aH/\s.obj id=aH)\/∃v f f' c,t.obj id=au (v,f,c)/\s.obj id=au (v,f',c):=by
 unfold AS.obj
 revert h
 cases t.bS id with
 |none=>cases s.bS id with
  |none=>intro _;simp
  |some b=>intro h;exact h.elim
 |some a=>cases s.bS id with
  |none=>intro h;exact h.elim
  |some b=>cases a <;> cases b <;> intro h <;> first
    |exact h.elim
    | (left;exact⟨rfl,rfl⟩)
    | (obtain⟨rfl,rfl⟩:=h;right;exact⟨_,_,_,_,rfl,rfl⟩)
theorem NB{id:Id}(h:xG (t.bS id) (s.bS id))(ver:Nat)(p:List Gs):t.row id ver p=s.row id ver p:=by unfold AS.row;rcases LA h with⟨h1,h2⟩ | ⟨v,f,f',c,h1,h2⟩ <;> rw[h1,h2]
theorem oH:∀(v:aF) (ty:Ty),(∀id∈v.ids,xG (t.bS id) (s.bS id))->t.iN ty v=s.iN ty v
 | .cM id ver p c i len,ty,h=>by
  cases ty <;> first
   |rfl
   | (simp only[AS.iN];rw[NB (h id (by simp[aF.ids]))])
 | .pr a b,ty,h=>by
  cases ty <;> first
   |rfl
   | (simp only[AS.iN];rw[oH a _ λid c8=>h id (by simp[aF.ids,c8]),oH b _ λid c8=>h id (by simp[aF.ids,c8])])
 | .undef,ty,_ | .gone,ty,_ | .dd,ty,_ | .jW,ty,_ | .vB,ty,_ | .AL,ty,_ | .d _ _,ty,_ | .ptr ..,ty,_ | .eG ..,ty,_ | .fn ..,ty,_ | .cons ..,ty,_ | .nil,ty,_ | .vec ..,ty,_ | .bx ..,ty,_ | .dM ..,ty,_ | .mp ..,ty,_ | .qa ..,ty,_ | .yl ..,ty,_ | .uN ..,ty,_ | .sb _,ty,_=>by cases ty <;> simp only[AS.iN]
theorem tT:∀(v:aF),∀id∈v.shared,id∈v.ids
 | .cM ..,id,h=>by simpa[aF.shared,aF.ids]using h
 | .pr a b,id,h=>by
  simp only[aF.shared,bp,aF.ids]at h ⊢;rcases h with h | h
  ·exact .inl (tT a id h)
  ·exact .inr (tT b id h)
 | .undef,_,h | .gone,_,h | .dd,_,h | .jW,_,h | .vB,_,h | .AL,_,h | .d _ _,_,h | .ptr ..,_,h | .eG ..,_,h | .fn ..,_,h | .cons ..,_,h | .nil,_,h | .vec ..,_,h | .bx ..,_,h | .dM ..,_,h | .mp ..,_,h | .qa ..,_,h | .yl ..,_,h | .uN ..,_,h | .sb _,_,h=>by simp[aF.shared]at h
theorem ael{T:TypeId}{x:aF}(h:∀id∈x.ids,xG (t.bS id) (s.bS id)):Kp P t T x=Kp P s T x:=by
 unfold Kp;split
 ·rename_i id ver p n;rcases LA (h id (by simp[aF.ids])) with⟨h1,h2⟩ | ⟨v,f,f',c,h1,h2⟩ <;> rw[h1,h2]
 ·rfl
 ·rfl
 ·rfl
 ·rfl
theorem Zb{n:Nat}{lo hi:Option bI}(hl:∀x,lo=au x->t.ev x=s.ev x)(hh:∀x,hi=au x->t.ev x=s.ev x):bounds t n lo hi=bounds s n lo hi:=by
 unfold bounds
 cases lo <;> cases hi <;> simp only[] <;> first
  |rfl
  | (rw[hl _ rfl,hh _ rfl])
  |rw[hl _ rfl]
  |rw[hh _ rfl]
theorem LF{T:TypeId}{x:aF}{lo hi:Option bI}(h:∀id∈x.ids,xG (t.bS id) (s.bS id))(hl:∀x,lo=au x->t.ev x=s.ev x)(hh:∀x,hi=au x->t.ev x=s.ev x):
  Fq P t T x lo hi=Fq P s T x lo hi:=by
 have hb:∀n,bounds t n lo hi=bounds s n lo hi:=λn=>Zb hl hh
 unfold Fq
 split <;> first
  |rfl
  | (rw[NB (h _ (by simp[aF.ids]))];simp only[hb];done)
  | (simp only[hb];done)
theorem Wt{T:TypeId}{x:aF}{lo:Option bI}{y m:bI}(h:∀id∈x.ids,xG (t.bS id) (s.bS id))(hl:∀x,lo=au x->t.ev x=s.ev x)(hh:t.ev y=s.ev y)(hm:t.ev m=s.ev m):
  LD P t T x lo y m=LD P s T x lo y m:=by
 unfold LD;rw[hh,hm,LF h hl λz hz=>by obtain rfl:=aQ hz;exact hh]
theorem MX{T:TypeId}{x:aF}{i:Int}(h:∀id∈x.ids,xG (t.bS id) (s.bS id)):qI P t T x i=qI P s T x i:=by
 unfold qI
 split <;> first
  |rfl
  |rw[NB (h _ (by simp[aF.ids]))]
theorem acX{obj:Bool}{src dst:TypeId}{x:aF}(h:∀id∈x.ids,xG (t.bS id) (s.bS id)):Xg P t obj src dst x=Xg P s obj src dst x:=by
 unfold Xg;split
 ·rfl
 ·unfold ar7
  split <;> first
   |rfl
   | (simp only[AS.aiQ,oH _ _ h])
theorem anv{T:TypeId}{op:BinOp}{i:Id}{v:Nat}{j:Id}{w:Nat}(h:xG (t.bS i) (s.bS i)):aDu P t T op i v j w=aDu P s T op i v j w:=by unfold aDu;rcases LA h with⟨h1,h2⟩ | ⟨v,f,f',c,h1,h2⟩ <;> rw[h1,h2]
theorem acZ{src dst:TypeId}{id:Id}{ver:Nat}(h:xG (t.bS id) (s.bS id)):Xh P t src dst id ver=Xh P s src dst id ver:=by
 unfold Xh;rcases LA h with⟨h1,h2⟩ | ⟨v,f,f',c,h1,h2⟩
 ·rw[h1,h2]
 ·rw[h1,h2]
  cases c <;> first
   |rfl
   | (rename_i e z c;cases z <;> rfl)
theorem y9{ty:Ty}:∀(ps:List (Nat×bI)) (l:List ty.den),(∀x∈ps,t.ev x.2=s.ev x.2/\∀id∈(s.ev x.2).ids,xG (t.bS id) (s.bS id))->jm ty t ps l=jm ty s ps l
 |[],_,_=>rfl
 | (i,x)::ps,l,h=>by obtain⟨h1,h2⟩:=h (i,x) (aG ..);simp only[jm];simp only at h1 h2;rw[h1,oH _ _ h2];congr 2;funext y;rw[y9 ps _ λz hz=>h z (aD _ hz)]
theorem wq{ty:Ty}:∀(ps:List (Nat×bI)) (l:List ty.den) (r:List ty.den×List Id),(jm ty s ps l).eval=au r->∀id∈r.2,∃x∈ps,id∈(s.ev x.2).ids
 |[],l,r,h,id,c8=>by obtain rfl:=ay.1 h;cases c8
 | (i,x)::ps,l,r,h,id,c8=>by
  simp only[jm]at h;obtain⟨h1,h2⟩:=aI.1 h;obtain⟨y,h3,h4⟩:=aw.1 h2;obtain⟨r',h5,h6⟩:=aw.1 h4;obtain rfl:=ay.1 h6;rcases bp.1 c8 with c8 | c8
  ·exact⟨(i,x),aG ..,tT _ _ c8⟩
  ·obtain⟨z,hz,Ka⟩:=wq ps _ r' h5 id c8;exact⟨z,aD _ hz,Ka⟩
theorem Dl{fs:Array Field}:∀(ps:List (Nat×bI)) (v:aF),(∀x∈ps,t.ev x.2=s.ev x.2)->py P fs t ps v=py P fs s ps v
 |[],_,_=>rfl
 | (i,x)::ps,v,h=>by
  have h1:=h (i,x) (aG ..);simp only at h1;simp only[py,h1];have ih:∀v,py P fs t ps v=py P fs s ps v:=λv=>Dl ps v λz hz=>h z (aD _ hz)
  simp only[ih]
theorem Jt:∀(l:List bI),(∀x∈l,t.ev x=s.ev x)->qC t l=qC s l
 |[],_=>rfl
 |x::l,h=>by simp only[qC];rw[h x (aG ..),Jt l λy hy=>h y (aD _ hy)]
theorem O2{ty:Ty}{X:TypeId}{x:aF}(h:∀id∈x.ids,xG (t.bS id) (s.bS id)):EH P t ty X x=EH P s ty X x:=by
 unfold EH;split
 ·rfl
 ·simp only[AS.aiQ,oH _ _ h]
theorem kD{v:aF}(h:∀t,lT (gO Γ ops s o) s t->(oZ P Γ bM o t).eval=au (t.put o.dst v)):Jb P Γ bM ops o s (s.put o.dst v):=
 ⟨⟨v,λ_=>aH,[]⟩,App.Gb _ _ _,⟨λ_ _ h=>by simp at h,λ_ h=>by simp at h⟩,λt ht=>⟨_,h t ht,App.Gb _ _ _⟩⟩
theorem nF{F:AS->Out aF}(ho:∀t,oZ P Γ bM o t=(F t).bind λv=> .ok (t.put o.dst v))(hF:∀t,lT (gO Γ ops s o) s t->F t=F s){s':AS}(he:(oZ P Γ bM o s).eval=au s'):Jb P Γ bM ops o s s':=by
 rw[ho]at he;obtain⟨v,h1,h2⟩:=aw.1 he;obtain rfl:=ay.1 h2;refine kD λt ht=> ?_
 rw[ho,hF t ht,aw];exact⟨v,h1,rfl⟩
theorem QA{v:aF}{ids:List Id}(hi:∀id∈ids,id∈(gO Γ ops s o).rs)(h:∀t,lT (gO Γ ops s o) s t->(oZ P Γ bM o t).eval=au ((t.bt ids).put o.dst v)):Jb P Γ bM ops o s ((s.bt ids).put o.dst v):=
 ⟨⟨v,λ_=>aH,ids⟩,App.MK _ _ _ _,⟨λ_ _ h=>by simp at h,hi⟩,λt ht=>⟨_,h t ht,App.MK _ _ _ _⟩⟩
theorem vu{v:aF}{ids:List Id}{q:Nat}{es:List dE}(hd:o.dst=au q)(hv:s.dW q=aO)(hi:∀id∈ids,id∈(gO Γ ops s o).rs)
  (h:∀t,lT (gO Γ ops s o) s t->t.dW q=aO->(oZ P Γ bM o t).eval=au (((t.bt ids).born q es).put o.dst v)):Jb P Γ bM ops o s (((s.bt ids).born q es).put o.dst v):=by
 refine⟨⟨v,Mp q es,ids⟩,by rw[hd];exact App.aky hv _ _ _,⟨λid e h=> .inr ?_,hi⟩,λt ht=> ?_⟩
 ·cases id with
  |bF _=>simp[Mp]at h
  |new i j=>
   simp only[Mp]at h;split at h
   ·rename_i hq;exact⟨q,j,hd,by rw[hq]⟩
   ·cases h
 ·have hv':t.dW q=aO:=by rw[ht.dW q hd];exact hv
  exact⟨_,h t ht hv',by rw[hd];exact App.aky hv' _ _ _⟩
theorem Co{v:aF}{id:Id}{e0 e:dE}(hs:s.bS id=au e0)(hw:id∈(gO Γ ops s o).ws)(h:∀t,lT (gO Γ ops s o) s t->t.bS id=s.bS id->(oZ P Γ bM o t).eval=au ((t.aY id e).put o.dst v)):
  Jb P Γ bM ops o s ((s.aY id e).put o.dst v):=by
 refine⟨⟨v,λi=>if i=id then au e else aH,[]⟩,App.avV hs _ _ _,⟨λi e' h=> .inl ?_,λ_ h=>by simp at h⟩,λt ht=> ?_⟩
 ·simp only at h;split at h
  ·rename_i hi;subst hi;exact⟨hw,by rw[hs];simp⟩
  ·cases h
 ·have:=ht.ws id hw;exact⟨_,h t ht this,App.avV (this.trans hs) _ _ _⟩
end
end Go.Ab
namespace Go.Ab
section
variable {P:aL} {Γ:qh} {bM:List Nat} {ops:Array Oper} {o:Oper} {s t:AS}
theorem abz{T:TypeId}{x v:aF}{s':AS}(h:(Ft P s T x v).eval=au s'):
  ∃id e0 e,x.ids=[id]/\s.bS id=au e0/\s'=s.aY id e/\∀t:AS,t.bS id=s.bS id->(Ft P t T x v).eval=au (t.aY id e):=by
 unfold Ft at h;split at h
 ·rename_i id ver p n;cases j6:s.obj id with
  |none=>rw[j6]at h;simp only[av]at h
  |some r=>
   obtain⟨ve,fr,c⟩:=r;rw[j6]at h;obtain⟨h1,h2⟩:=aI.1 h;obtain⟨r,h3,h4⟩:=aw.1 h2;obtain⟨h5,h6⟩:=aI.1 h4;obtain⟨h7,h8⟩:=bQ.1 h6;obtain⟨c',h9,aEm⟩:=aw.1 h8;obtain rfl:=ay.1 aEm;refine⟨id,_,_,rfl,dO j6,rfl,λt ht=> ?_⟩;have hob':t.obj id=au (ve,fr,c):=by simp only[AS.obj,ht];exact j6
   unfold Ft;simp only[hob'];exact aI.2 ⟨h1,aw.2 ⟨r,h3,aI.2 ⟨h5,bQ.2 ⟨h7,aw.2 ⟨c',h9,ay.2 rfl⟩⟩⟩⟩⟩
 ·simp only[av]at h
theorem ahp{c:Call}{x y:bI}{T X:TypeId}(de:o.op= .call c)(hc:c.callee= .builtin .copy)(ha:c.args.toList=[x,y])(ht:c.argTypes.toList=[T,X]){s':AS}
  (he:(Rp P s o.dst T X (s.ev x) (s.ev y)).eval=au s'):Jb P Γ bM ops o s s':=by
 have XL:∀t:AS,oZ P Γ bM o t=Rp P t o.dst T X (t.ev x) (t.ev y):=λt=>by unfold oZ;rw[de];simp only[hc,ha,ht]
 have rD:∀z,z=x\/z=y->z∈o.op.operands.toList:=λz hz=>by rw[de];simp only[bX,dR,hc,aT,bY,ha];simpa using hz
 have hx:∀t,lT (gO Γ ops s o) s t->t.ev x=s.ev x:=λt h=>h.ev (rD x (.inl rfl))
 have hy:∀t,lT (gO Γ ops s o) s t->t.ev y=s.ev y:=λt h=>h.ev (rD y (.inr rfl))
 have hm:∀t,lT (gO Γ ops s o) s t->∀ty,EH P t ty X (s.ev y)=EH P s ty X (s.ev y):=λt h ty=>O2 λid c8=>h.ab7 (Yc de rfl) (rD y (.inr rfl)) c8
 unfold Rp at he;split at he
 ·rename_i e t b id ver len Gu agx;obtain⟨m,h1,he⟩:=aw.1 he;split at he
  ·rename_i ve n t' l j6;obtain⟨h2,DE⟩:=aI.1 he;obtain⟨l',h3,Vj⟩:=aw.1 DE;obtain⟨h4,aDz⟩:=bQ.1 Vj;obtain rfl:=ay.1 aDz;have hw:id∈(gO Γ ops s o).ws:=by show id∈writes Γ s o;unfold writes;rw[de];simp only[hc,ha,agx];simp[aF.ids]
   refine Co (dO j6) hw λt ht ad2=> ?_
   rw[XL t,hx t ht,hy t ht];have hob':t.obj id=au (ve,aV,.d (.arr n t') l):=by simp only[AS.obj,ad2];exact j6
   unfold Rp;simp only[Gu,agx];refine aw.2 ⟨m,by rw[hm t ht];exact h1,?_⟩;simp only[hob'];exact aI.2 ⟨h2,aw.2 ⟨l',h3,bQ.2 ⟨h4,ay.2 rfl⟩⟩⟩
  ·exact(av.1 he).elim
 ·exact(av.1 he).elim
theorem Y6{c:Call}{x y:bI}{T X:TypeId}(de:o.op= .call c)(hc:c.callee= .builtin .append)(ha:c.args.toList=[x,y])(ht:c.argTypes.toList=[T,X])(gV:∀k n,s.ev x= .dd->s.ev y= .d (.int k) n->False){s':AS}
  (he:(wJ P s (an8 bM o.dst) (aic bM o.dst) o.dst T X (s.ev x) (s.ev y)).eval=au s'):Jb P Γ bM ops o s s':=by
 have XL:∀t:AS,t.ev x=s.ev x->t.ev y=s.ev y->oZ P Γ bM o t=wJ P t (an8 bM o.dst) (aic bM o.dst) o.dst T X (t.ev x) (t.ev y):=λt e1 e2=>by
  unfold oZ;rw[de];simp only[hc,ha,ht];split
  ·rename_i k n hx hy;rw[e1]at hx;rw[e2]at hy;exact(gV k n hx hy).elim
  ·rfl
 have rD:∀z,z=x\/z=y->z∈o.op.operands.toList:=λz hz=>by rw[de];simp only[bX,dR,hc,aT,bY,ha];simpa using hz
 have hx:∀t,lT (gO Γ ops s o) s t->t.ev x=s.ev x:=λt h=>h.ev (rD x (.inl rfl))
 have hy:∀t,lT (gO Γ ops s o) s t->t.ev y=s.ev y:=λt h=>h.ev (rD y (.inr rfl))
 have hm:∀t,lT (gO Γ ops s o) s t->∀ty,EH P t ty X (s.ev y)=EH P s ty X (s.ev y):=λt h ty=>O2 λid c8=>h.ab7 (Yc de rfl) (rD y (.inr rfl)) c8
 unfold wJ at he;split at he
 ·rename_i e ty b q Gu hd;obtain⟨m,h1,h2⟩:=aw.1 he;split at h2
  ·rename_i aEW;cases aDy:aic bM o.dst with
   |true=>
    rw[aDy]at h2;simp only at h2;obtain⟨h5,h6⟩:=bQ.1 h2;obtain rfl:=ay.1 h6;refine kD λt ht=> ?_
    rw[XL t (hx t ht) (hy t ht),hx t ht,hy t ht];unfold wJ;simp only[hd]at aDy Gu ⊢;simp only[Gu,aEW,aDy];refine aw.2 ⟨m,by rw[hm t ht];exact h1,?_⟩;exact bQ.2 ⟨h5,ay.2 rfl⟩
   |false=>
   rw[aDy]at h2;simp only at h2;obtain⟨h3,h4⟩:=aI.1 h2;obtain⟨h5,h6⟩:=bQ.1 h4;obtain rfl:=ay.1 h6;refine vu (ids:=[]) hd h3 (λ_ h=>by cases h) λt ht hv=> ?_
   rw[XL t (hx t ht) (hy t ht),hx t ht,hy t ht];unfold wJ;simp only[hd]at aDy Gu ⊢;simp only[Gu,aEW,aDy];refine aw.2 ⟨m,by rw[hm t ht];exact h1,?_⟩;exact aI.2 ⟨hv,bQ.2 ⟨h5,ay.2 rfl⟩⟩
  ·rename_i id ver len aEW;split at h2
   ·rename_i v fr e' t' l j6;obtain⟨h3,h4⟩:=aI.1 h2;obtain⟨l',h5,h6⟩:=aw.1 h4;obtain⟨h7,h8⟩:=bQ.1 h6;obtain⟨h9,aEm⟩:=bQ.1 h8;obtain⟨aIV,aqT⟩:=bQ.1 aEm;obtain rfl:=ay.1 aqT;have hw:id∈(gO Γ ops s o).ws:=by show id∈writes Γ s o;unfold writes;rw[de];simp only[hc,ha,aEW];simp[aF.ids]
    refine Co (dO j6) hw λt ht ad2=> ?_
    rw[XL t (hx t ht) (hy t ht),hx t ht,hy t ht];have hob':t.obj id=au (v,fr,.vec e' t' l):=by simp only[AS.obj,ad2];exact j6
    unfold wJ;simp only[hd]at Gu ⊢;simp only[Gu,aEW];refine aw.2 ⟨m,by rw[hm t ht];exact h1,?_⟩;simp only[hob'];exact aI.2 ⟨h3,aw.2 ⟨l',h5,bQ.2 ⟨h7,bQ.2 ⟨h9,bQ.2 ⟨aIV,ay.2 rfl⟩⟩⟩⟩⟩
   ·simp only[av]at h2
  ·simp only[av]at h2
 ·simp only[av]at he
theorem Nr:∀(n:Nat) (todo acc:List Id),∀id∈acc,id∈s.reach n todo acc
 | 0,_,_,id,h=>h
 |_+1,[],_,id,h=>h
 |n+1,x::todo,acc,id,h=>by
  rw[AS.reach];split
  ·exact Nr n todo acc id h
  ·exact Nr n _ _ id (bp.2 (.inl h))
theorem vL:∀(n:Nat) (todo acc:List Id),(∀id∈s.reach n todo acc,((t.bS id).getD .dead).ids=((s.bS id).getD .dead).ids)->t.reach n todo acc=s.reach n todo acc
 | 0,_,_,_=>rfl
 |_+1,[],_,_=>rfl
 |n+1,x::todo,acc,h=>by
  rw[AS.reach]at h;rw[AS.reach,AS.reach];split
  ·rename_i hc;rw[if_pos hc]at h;exact vL n todo acc h
  ·rename_i hc;rw[if_neg hc]at h;have hx:=h x (Nr n _ _ x (bp.2 (.inr (bf.2 rfl))));rw[hx];exact vL n _ _ h
theorem ayn(e:Option dE):((e.map dE.agt).getD .dead).ids=(e.getD .dead).ids:=by
 cases e with
 |none=>rfl
 |some x=>cases x <;> rfl
theorem Qh(ids:List Id)(n:Nat)(todo acc:List Id):(s.bt ids).reach n todo acc=s.reach n todo acc:=by
 refine vL n todo acc λid _=> ?_
 rw[fH];split
 ·exact ayn _
 ·rfl
theorem HJ:∀(ps:List (Option Ty)) (vs:List aF),(∀v∈vs,∀id∈v.ids,xG (t.bS id) (s.bS id))->t.conv ps vs=s.conv ps vs
 |[],[],_=>rfl
 |[],_::_,_=>rfl
 |some _::_,[],_=>rfl
 |none::_,[],_=>rfl
 |some ty::ps,v::vs,h=>by simp only[AS.conv];rw[oH v ty (h v (aG ..)),HJ ps vs λx hx=>h x (aD _ hx)]
 |none::ps,v::vs,h=>by simp only[AS.conv];rw[HJ ps vs λx hx=>h x (aD _ hx)]
theorem HK:∀(ps:List (Option Ty)) (vs:List aF) (r:List aF×List Id),(s.conv ps vs).eval=au r->r.1.flatMap aF.ids=uz ps vs/\∀id∈r.2,∃v∈vs,id∈v.ids
 |[],[],r,h=>by simp only[AS.conv,ay]at h;subst h;exact⟨rfl,λ_ h=>by cases h⟩
 |some ty::ps,v::vs,r,h=>by
  simp only[AS.conv]at h;obtain⟨x,h1,h2⟩:=aw.1 h;obtain⟨r',h3,h4⟩:=aw.1 h2;obtain rfl:=ay.1 h4;obtain⟨i1,i2⟩:=HK ps vs r' h3;refine⟨by simp[uz,i1,aF.ids],λid c8=> ?_⟩;rcases bp.1 c8 with c8 | c8
  ·exact⟨v,aG ..,tT v id c8⟩
  ·obtain⟨u,hu,ab4⟩:=i2 id c8;exact⟨u,aD _ hu,ab4⟩
 |none::ps,v::vs,r,h=>by simp only[AS.conv]at h;obtain⟨r',h3,h4⟩:=aw.1 h;obtain rfl:=ay.1 h4;obtain⟨i1,i2⟩:=HK ps vs r' h3;refine⟨by simp[uz,i1],λid c8=> ?_⟩;obtain⟨u,hu,ab4⟩:=i2 id c8;exact⟨u,aD _ hu,ab4⟩
 |[],_::_,_,h=>by simp only[AS.conv,av]at h
 |some _::_,[],_,h=>by simp only[AS.conv,av]at h
 |none::_,[],_,h=>by simp only[AS.conv,av]at h
theorem aek:∀(c:aF),∀v∈c.list,∀id∈v.ids,id∈c.ids
 | .cons a b,v,hv,id,c8=>by
  simp only[aF.list,bA]at hv;simp only[aF.ids,bp];rcases hv with rfl | hv
  ·exact .inl c8
  ·exact .inr (aek b v hv id c8)
 | .sb _,_,h,_,_ | .undef,_,h,_,_ | .gone,_,h,_,_ | .dd,_,h,_,_ | .jW,_,h,_,_ | .vB,_,h,_,_ | .AL,_,h,_,_ | .d _ _,_,h,_,_ | .ptr ..,_,h,_,_ | .eG ..,_,h,_,_
 | .fn ..,_,h,_,_ | .pr ..,_,h,_,_ | .nil,_,h,_,_ | .vec ..,_,h,_,_ | .bx ..,_,h,_,_ | .dM ..,_,h,_,_ | .mp ..,_,h,_,_ | .qa ..,_,h,_,_ | .yl ..,_,h,_,_ | .uN ..,_,h,_,_ | .cM ..,_,h,_,_=>by simp[aF.list]at h
theorem PA{ids:List Id}(h:∀id∈ids,t.bS id=s.bS id):t.vN ids=s.vN ids:=by
 funext id ver;unfold AS.vN;cases hi:idxOf id ids with
 |none=>rfl
 |some k=>
  have:t.obj id=s.obj id:=by simp only[AS.obj,h id (cS (oh hi))]
  rw[this]
theorem PU{id:Id}(h:t.bS id=s.bS id):t.Al id=s.Al id:=by simp only[AS.Al,AS.obj,h]
theorem Le{ids:List Id}(h:∀id∈ids,t.bS id=s.bS id)(q:Nat):t.tP ids q=s.tP ids q:=by
 funext id ver;cases id with
 |new i j=>rfl
 |bF k=>
  simp only[AS.tP];cases hk:ids[k]? with
  |none=>rfl
  |some id=>simp only[PU (h id (cS hk))]
theorem JV{ids:List Id}(h:∀id∈ids,t.bS id=s.bS id)(q b:Nat):t.qG ids q b=s.qG ids q b:=by funext e;cases e <;> simp only[AS.qG,Le h]
theorem ads{ids:List Id}(h:∀id∈ids,t.bS id=s.bS id){id:Id}(c8:id∈ids):t.lZ ids id=s.lZ ids id:=by unfold AS.lZ;rw[h id c8,PA h]
def nv(s:AS)(ids:List Id)(d:Option Tmp)(G:iq):AS:=(AS.jw s ids (d.getD 0) (s.made ids (d.getD 0) G.news) ids G.b8).put d (G.val.iL (s.tP ids (d.getD 0)))
theorem W0{ids:List Id}{d:Option Tmp}{G:iq}{s':AS}:(s.back ids d G).eval=au s'↔(G.b8.length=ids.length/\(G.news=[]\/∃q,d=au q/\s.dW q=aO))/\s'=nv s ids d G:=by
 unfold AS.back;cases d with
 |none=>
  rw[aI,ay];simp only[al,dw,List.isEmpty_iff,nv,AS.put,Option.getD_none];constructor
  ·rintro⟨⟨h1,h2⟩,rfl⟩;rw[h2];exact⟨⟨h1,.inl rfl⟩,rfl⟩
  ·rintro⟨⟨h1,h2⟩,rfl⟩;rcases h2 with h2 | ⟨q,hq,_⟩
   ·rw[h2];exact⟨⟨h1,rfl⟩,rfl⟩
   ·cases hq
 |some q=>
  rw[aI,ay];simp only[al,dw,iu,List.isEmpty_iff,nv,dQ];constructor
  ·rintro⟨⟨h1,h2⟩,rfl⟩;exact⟨⟨h1,h2.imp id λh=>⟨q,rfl,h⟩⟩,rfl⟩
  ·rintro⟨⟨h1,h2⟩,rfl⟩;refine⟨⟨h1,h2.imp id λ⟨q',hq,h⟩=> ?_⟩,rfl⟩;obtain rfl:q=q':=by simpa using hq
   exact h
theorem OP(s0:AS)(all:List Id)(q:Nat):∀(ids:List Id) (es:List dE) (s:AS),(AS.jw s0 all q s ids es).news.length=s.news.length
 |[],_,_=>by simp[AS.jw]
 |_::_,[],_=>by simp[AS.jw]
 |id::ids,e::es,s=>by rw[AS.jw,OP s0 all q ids es,Ig]
theorem atE(s:AS)(ids:List Id)(q:Nat)(es:List dE):(s.made ids q es).news.length=s.news.length:=by cases es <;> simp[AS.made,AS.born]
def Gn(ids:List Id)(d:Option Tmp)(G:iq)(id:Id):Prop:=id∈ids\/(G.news≠ []/\∃q j,d=au q/\id= .new q j)
theorem QS{ids:List Id}{d:Option Tmp}{G:iq}(hn:ids.Nodup)(hp:∀id∈ids,s.bS id≠aH)(hl:G.b8.length=ids.length)(hv:G.news=[]\/∃q,d=au q/\s.dW q=aO):
  (∀id,¬Gn ids d G id->(nv s ids d G).bS id=s.bS id)/\
  (∀(k:Nat) (id:Id) (e:dE),ids[k]? =au id->G.b8[k]? =au e->(nv s ids d G).bS id=au (s.qG ids (d.getD 0) (s.Al id) e))/\
  (∀q j,G.news≠ []->d=au q->(nv s ids d G).bS (.new q j)=(G.news[j]?).map (s.qG ids q 0))/\
  (∀q j,G.news≠ []->d=au q->s.bS (.new q j)=aH):=by
 have hv':G.news=[]\/s.dW (d.getD 0)=aO:=by
  rcases hv with h | ⟨q,rfl,h⟩
  ·exact .inl h
  ·exact .inr h
 obtain⟨m1,m2⟩:=adt s ids (d.getD 0) G.news hv';have aAC:∀q j,G.news≠ []->d=au q->s.bS (.new q j)=aH:=λq j h1 h2=>by
  rcases hv' with h | h
  ·exact absurd h h1
  ·subst h2;exact(zm.1 h).2 j
 have Bw:∀id,s.bS id≠aH->G.news=[]\/∀j,id≠ .new (d.getD 0) j:=λid c8=>by
  rcases hv with h | ⟨q,rfl,h⟩
  ·exact .inl h
  ·exact .inr λj e=>c8 (by rw[e];exact(zm.1 h).2 j)
 obtain⟨n1,n2⟩:=Eh s ids (d.getD 0) ids G.b8 (s.made ids (d.getD 0) G.news) hn hl (λid c8=>by rw[m1 id (Bw id (hp id c8))];exact hp id c8);refine⟨λid c8=> ?_,λk id e h1 h2=> ?_,λq j h1 h2=> ?_,aAC⟩
 ·unfold Gn at c8;simp only[not_or]at c8;rw[nv,F1,n1 id c8.1];refine m1 id ?_
  by_cases gV:G.news=[]
  ·exact .inl gV
  ·right;intro j e;rcases hv with h | ⟨q,hq,_⟩
   ·exact gV h
   ·exact c8.2 ⟨gV,q,j,hq,by rw[e,hq];rfl⟩
 ·rw[nv,F1,n2 k id e h1 h2]
 ·subst h2;have aHd:Id.new q j ∉ ids:=λc8=>hp _ c8 (aAC q j h1 rfl)
  rw[nv,F1,n1 _ aHd];exact m2 h1 j
open Classical in
theorem ahe{c:Call}{F:bI}{f:fw}{caps:aF}{en:Entry}(de:o.op= .call c)(hc:c.callee= .value F)(hF:s.ev F= .fn f caps)(hΓ:Γ f (c.args.toList.map s.ev++caps.list)=au en)(iJ:Nat.blt f yB=aO){s':AS}
  (he:(s.call en o.dst (c.args.toList.map s.ev++caps.list)).eval=au s'):Jb P Γ bM ops o s s':=by
 have rD:∀z,z=F\/z∈c.args.toList->z∈o.op.operands.toList:=λz hz=>by
  rw[de];simp only[bX,dR,hc,bY,bp];rcases hz with rfl | hz
  ·exact .inl (by simp)
  ·exact .inr hz
 have atl:∀v∈c.args.toList.map s.ev++caps.list,∀id∈v.ids,id∈(gO Γ ops s o).rs:=λv hv id c8=>by
  rcases bp.1 hv with hv | hv
  ·obtain⟨x,hx,rfl⟩:=cr.1 hv;exact H9 (Yc de rfl) (rD x (.inr hx)) c8
  ·refine H9 (Yc de rfl) (rD F (.inl rfl)) ?_
   rw[hF];exact aek caps v hv id c8
 generalize J9:c.args.toList.map s.ev++caps.list=vs at he atl hΓ;have awU:(gO Γ ops s o).ws=s.reach 64 (uz en.params vs) []:=by show writes Γ s o=_;unfold writes;rw[de];simp only[hc,hF,J9,hΓ]
 have XL:∀t,lT (gO Γ ops s o) s t->oZ P Γ bM o t=t.call en o.dst vs:=λt ht=>by
  unfold oZ;rw[de];have h1:t.ev F= .fn f caps:=by rw[ht.ev (rD F (.inl rfl)),hF]
  have h2:c.args.toList.map t.ev=c.args.toList.map s.ev:=im λx hx=>ht.ev (rD x (.inr hx))
  obtain⟨cal,args,tys⟩:=c;simp only at hc J9 h2;subst hc;simp only[h1,h2,J9,hΓ,iJ,Out.guard]
 unfold AS.call at he;obtain⟨r,h1,h2⟩:=aw.1 he;obtain⟨aCd,adT⟩:=HK _ _ r h1;have hlends:∀t:AS,(t.bt r.2).XV r.1=t.reach 64 (uz en.params vs) []:=λt=>by unfold AS.XV;rw[Qh,aCd]
 rw[hlends]at h2;generalize hW:s.reach 64 (uz en.params vs) []=W at h2 awU;have hWn:W.Nodup:=by rw[<-hW];exact ru s _ _ _ (by simp)
 unfold AS.enter at h2;obtain⟨wc,h3⟩:=aI.1 h2;obtain⟨x,hx,h4⟩:=lI.1 h3;obtain⟨x0,aCn,h4⟩:=aw.1 h4;have anX:=en.al7 _ _ aCn;rw[anX]at h4 aCn;obtain⟨⟨hl,hv⟩,rfl⟩:=W0.1 h4;generalize hG:en.out (r.1.map (aF.iL ((s.bt r.2).vN W))) (W.map ((s.bt r.2).lZ W)) x=G at hl hv h4 ⊢;have hp:∀id∈W,(s.bt r.2).bS id≠aH:=λid c8=>by have:=(al _ _▸dj.1 wc id c8).1;obtain⟨⟨v,fr,c⟩,hr⟩:=bD.1 this;rw[dO hr];simp
 obtain⟨b1,b2,b3,b4⟩:=QS (s:=s.bt r.2) (d:=o.dst) hWn hp hl hv;have hfzent:∀(u:AS) id,u.bS id=aH↔(u.bt r.2).bS id=aH:=λu id=>by rw[fH];split <;> simp
 let E:aDq:=⟨G.val.iL ((s.bt r.2).tP W (o.dst.getD 0)),λid=>if Gn W o.dst G id then(nv (s.bt r.2) W o.dst G).bS id else aH,r.2⟩
 have hslots:∀u:AS,(nv (u.bt r.2) W o.dst G).cn=(u.put o.dst (G.val.iL ((u.bt r.2).tP W (o.dst.getD 0)))).cn:=λu=>by unfold nv;cases o.dst <;> simp[AS.put,A0,Uz,mW]
 have hlen:∀u:AS,(nv (u.bt r.2) W o.dst G).news.length=u.news.length:=λu=>by unfold nv;cases o.dst <;> simp[AS.put,OP,atE,qb]
 refine⟨E,⟨hslots s,hlen s,λid=> ?_⟩,⟨λid e P8=> ?_,λid c8=> ?_⟩,λt ht=> ?_⟩
 ·by_cases I8:Gn W o.dst G id
  ·have P8:E.up id=(nv (s.bt r.2) W o.dst G).bS id:=if_pos I8;rw[P8];cases hb:(nv (s.bt r.2) W o.dst G).bS id with
   |some e=>rfl
   |none=>
    rcases I8 with c8 | ⟨gV,q,j,hq,rfl⟩
    ·obtain⟨k,hk⟩:=j4.1 c8;have iJ:k < G.b8.length:=by rw[hl];exact(dF.1 hk).1
     rw[b2 k id _ hk (bW iJ)]at hb;cases hb
    ·have:=(hfzent s _).2 (b4 q j gV hq);simp[this]
  ·have P8:E.up id=aH:=if_neg I8;rw[P8,b1 id I8,fH]
 ·by_cases I8:Gn W o.dst G id
  ·rcases I8 with c8 | ⟨_,q,j,hq,rfl⟩
   ·left;refine⟨by rw[awU];exact c8,λh=>hp id c8 ((hfzent s id).1 h)⟩
   ·exact .inr ⟨q,j,hq,rfl⟩
  ·have:E.up id=aH:=if_neg I8;rw[this]at P8;cases P8
 ·obtain⟨v,hv,c8⟩:=adT id c8;exact atl v hv id c8
 ·have aEz:t.conv en.params vs=s.conv en.params vs:=HJ _ _ λv hv id c8=>ht.rs id (atl v hv id c8)
  have I7:∀id∈W,t.bS id=s.bS id:=λid c8=>ht.ws id (by rw[awU];exact c8)
  have adL:∀id∈W,(t.bt r.2).bS id=(s.bt r.2).bS id:=λid c8=>by rw[fH,fH,I7 id c8]
  have hWt:t.reach 64 (uz en.params vs) []=W:=by
   rw[<-hW];refine vL _ _ _ λid c8=> ?_
   rw[I7 id (by rw[<-hW];exact c8)]
  have aCm:G.news=[]\/∃q,o.dst=au q/\(t.bt r.2).dW q=aO:=hv.imp id λ⟨q,hq,h⟩=>⟨q,hq,by
   rw[tW]at h ⊢;rw[ht.dW q hq];exact h⟩
  have aDI:∀id∈W,(t.bt r.2).bS id≠aH:=λid c8=>by rw[adL id c8];exact hp id c8
  obtain⟨d1,d2,d3,d4⟩:=QS (s:=t.bt r.2) (d:=o.dst) hWn aDI hl aCm;refine⟨nv (t.bt r.2) W o.dst G,?_,⟨?_,hlen t,λid=> ?_⟩⟩
  ·rw[XL t ht];unfold AS.call;rw[aEz];refine aw.2 ⟨r,h1,?_⟩;rw[hlends,hWt];unfold AS.enter;have hA:(t.bt r.2).vN W=(s.bt r.2).vN W:=PA adL;have hO:W.map ((t.bt r.2).lZ W)=W.map ((s.bt r.2).lZ W):=im λid c8=>ads adL c8
   refine aI.2 ⟨?_,lI.2 ⟨x,?_,aw.2 ⟨x,aCn,?_⟩⟩⟩
   ·refine dj.2 λid c8=> ?_
    have:=dj.1 wc id c8;simp only[AS.obj,AS.M0]at this ⊢;rw[adL id c8];exact this
   ·rw[hA,hO,<-hx]
   ·rw[hA,hO,hG];exact W0.2 ⟨⟨hl,aCm⟩,rfl⟩
  ·rw[hslots t,Le adL]
  ·by_cases I8:Gn W o.dst G id
   ·have P8:E.up id=(nv (s.bt r.2) W o.dst G).bS id:=if_pos I8;rw[P8];rcases I8 with c8 | ⟨gV,q,j,hq,rfl⟩
    ·obtain⟨k,hk⟩:=j4.1 c8;have iJ:k < G.b8.length:=by rw[hl];exact(dF.1 hk).1
     rw[b2 k id _ hk (bW iJ),d2 k id _ hk (bW iJ),JV adL,PU (adL id c8)]
    ·rw[b3 q j gV hq,d3 q j gV hq,JV adL];cases hn:G.news[j]? with
     |some e=>rfl
     |none=>
      have:=(hfzent t _).2 (d4 q j gV hq);simp[this]
   ·have P8:E.up id=aH:=if_neg I8;rw[P8,d1 id I8,fH]
end
end Go.Ab
namespace Go.Ab
section
variable {P:aL} {Γ:qh} {bM:List Nat} {ops:Array Oper} {o:Oper} {s t:AS}
theorem Out.bind_assoc{α β γ:Type}(o:Out α)(f:α->Out β)(g:β->Out γ):(o.bind f).bind g=o.bind λa=>(f a).bind g:=by
 induction o with
 |ok a=>rfl
 |fail=>rfl
 |si c r ih=>simp only[Out.bind,ih]
 |get x h ih=>simp only[Out.bind,ih]
 |br c x y ih1 ih2=>simp only[Out.bind,ih1,ih2]
theorem ae2{parts:Array (Nat×bI)}{x:Nat×bI}(h:x∈parts.toList):x.2∈(parts.toList.map (·.2)).toArray.toList:=cr.2 ⟨x,h,rfl⟩
theorem amK{T:TypeId}{x:bI}(de:o.op= .box T x){s':AS}(he:(acF P s (isObj bM o.dst) (aic bM o.dst) o.dst T (s.ev x)).eval=au s'):Jb P Γ bM ops o s s':=by
 have XL:∀t,oZ P Γ bM o t=acF P t (isObj bM o.dst) (aic bM o.dst) o.dst T (t.ev x):=λt=>by unfold oZ;rw[de]
 have hm:x∈o.op.operands.toList:=by rw[de];simp[bX]
 unfold acF at he;split at he
 ·rename_i q hd;split at he
  ·rename_i ho;obtain⟨h1,h2⟩:=aI.1 he;obtain rfl:=ay.1 h2;simp only[al]at h1;refine vu (ids:=[]) hd h1.1 (λ_ h=>by cases h) λt ht hv=> ?_
   rw[XL,ht.ev hm];unfold acF;simp only[hd]at ho ⊢;simp only[ho];exact aI.2 ⟨by simp[hv,h1.2],ay.2 rfl⟩
  ·rename_i ho;split at he
   ·rename_i ty aE6;obtain⟨h1,h2⟩:=aI.1 he;obtain⟨y,h3,h4⟩:=aw.1 h2;obtain rfl:=ay.1 h4;refine QA (λid c8=>H9 (Yc de rfl) hm (tT _ _ c8)) λt ht=> ?_
    rw[XL,ht.ev hm];unfold acF;simp only[hd]at ho ⊢;simp only[ho,aE6];refine aI.2 ⟨h1,aw.2 ⟨y,?_,ay.2 rfl⟩⟩;rw[oH _ _ λid c8=>ht.ab7 (Yc de rfl) hm c8];exact h3
   ·simp only[av]at he
 ·simp only[av]at he
theorem af8{T:TypeId}{x:bI}(de:o.op= .sliceToArrayPointer T x){s':AS}(he:(IS P s o.dst T (s.ev x)).eval=au s'):Jb P Γ bM ops o s s':=by
 have XL:∀t,oZ P Γ bM o t=IS P t o.dst T (t.ev x):=λt=>by unfold oZ;rw[de]
 have hm:x∈o.op.operands.toList:=by rw[de];simp[bX]
 unfold IS at he;split at he
 ·rename_i n e hT;split at he
  ·rename_i ty aE6;obtain⟨h1,h2⟩:=aI.1 he;obtain⟨l,h3,h4⟩:=aw.1 h2;obtain⟨h5,h6⟩:=bQ.1 h4;obtain rfl:=ay.1 h6;refine QA (λid c8=>H9 (Yc de rfl) hm (tT _ _ c8)) λt ht=> ?_
   rw[XL,ht.ev hm];unfold IS;simp only[hT,aE6];refine aI.2 ⟨h1,aw.2 ⟨l,?_,bQ.2 ⟨h5,ay.2 rfl⟩⟩⟩;rw[oH _ _ λid c8=>ht.ab7 (Yc de rfl) hm c8];exact h3
  ·simp only[av]at he
 ·simp only[av]at he
theorem acM{T:TypeId}{parts:Array (Nat×bI)}(de:o.op= .build T parts){s':AS}(he:(D4 P s o.dst T parts.toList).eval=au s'):Jb P Γ bM ops o s s':=by
 have XL:∀t,oZ P Γ bM o t=D4 P t o.dst T parts.toList:=λt=>by unfold oZ;rw[de]
 have hm:∀x∈parts.toList,x.2∈o.op.operands.toList:=λx hx=>by rw[de];exact ae2 hx
 unfold D4 at he;split at he
 ·rename_i fs hT;split at he
  ·rename_i z hz;obtain⟨h1,h2⟩:=aI.1 he;obtain⟨v,h3,h4⟩:=aw.1 h2;obtain rfl:=ay.1 h4;refine kD λt ht=> ?_
   rw[XL];unfold D4;simp only[hT,hz];refine aI.2 ⟨h1,aw.2 ⟨v,?_,ay.2 rfl⟩⟩;rw[Dl _ _ λx hx=>ht.ev (hm x hx)];exact h3
  ·simp only[av]at he
 ·rename_i n e hT;split at he
  ·rename_i ty aE6;obtain⟨h1,h2⟩:=aI.1 he;obtain⟨r,h3,h4⟩:=aw.1 h2;obtain rfl:=ay.1 h4;refine QA (λid c8=> ?_) λt ht=> ?_
   ·obtain⟨x,hx,hi⟩:=wq _ _ _ h3 id c8;exact H9 (Yc de rfl) (hm x hx) hi
   ·rw[XL];unfold D4;simp only[hT,aE6];refine aI.2 ⟨h1,aw.2 ⟨r,?_,ay.2 rfl⟩⟩;rw[y9 _ _ λx hx=>⟨ht.ev (hm x hx),λid c8=>ht.ab7 (Yc de rfl) (hm x hx) c8⟩];exact h3
  ·simp only[av]at he
 ·simp only[av]at he
theorem Ms{T:TypeId}{n:Nat}{parts:Array (Nat×bI)}(de:o.op= .buildSlice T n parts){s':AS}(he:(lV P s (an8 bM o.dst) (isObj bM o.dst) o.dst T n parts.toList).eval=au s'):Jb P Γ bM ops o s s':=by
 have XL:∀t,oZ P Γ bM o t=lV P t (an8 bM o.dst) (isObj bM o.dst) o.dst T n parts.toList:=λt=>by unfold oZ;rw[de]
 have hm:∀x∈parts.toList,x.2∈o.op.operands.toList:=λx hx=>by rw[de];exact ae2 hx
 unfold lV at he;split at he
 ·rename_i e ty b q Gu hd;obtain⟨h1,h2⟩:=aI.1 he;obtain⟨r,h3,h4⟩:=aw.1 h2;have ahY:∀id∈r.2,id∈(gO Γ ops s o).rs:=λid c8=>by obtain⟨x,hx,hi⟩:=wq _ _ _ h3 id c8;exact H9 (Yc de rfl) (hm x hx) hi
  have aEz:∀t,lT (gO Γ ops s o) s t->∀l,jm ty t parts.toList l=jm ty s parts.toList l:=λt ht l=>y9 _ _ λx hx=>⟨ht.ev (hm x hx),λid c8=>ht.ab7 (Yc de rfl) (hm x hx) c8⟩
  split at h4
  ·rename_i ho;obtain⟨h5,h6⟩:=aI.1 h4;obtain rfl:=ay.1 h6;refine vu hd h5 ahY λt ht hv=> ?_
   rw[XL];unfold lV;simp only[hd]at ho Gu ⊢;simp only[Gu,ho];refine aI.2 ⟨h1,aw.2 ⟨r,by rw[aEz t ht];exact h3,aI.2 ⟨hv,ay.2 rfl⟩⟩⟩
  ·rename_i ho;obtain rfl:=ay.1 h4;refine QA ahY λt ht=> ?_
   rw[XL];unfold lV;simp only[hd]at ho Gu ⊢;simp only[Gu,ho];exact aI.2 ⟨h1,aw.2 ⟨r,by rw[aEz t ht];exact h3,ay.2 rfl⟩⟩
 ·simp only[av]at he
theorem Qb{T:TypeId}{x y:bI}(de:o.op= .makeSlice T x y){len cap:Int}(hx:(asInt (s.ev x)).eval=au len)(hy:(asInt (s.ev y)).eval=au cap){s':AS}(he:(qL P s o.dst T len cap).eval=au s'):Jb P Γ bM ops o s s':=by
 have XL:∀t,oZ P Γ bM o t=(asInt (t.ev x)).bind λl=>(asInt (t.ev y)).bind λc=>qL P t o.dst T l c:=λt=>by unfold oZ;rw[de]
 have hm:∀z,z=x\/z=y->z∈o.op.operands.toList:=λz hz=>by rw[de];simpa[bX]using hz
 unfold qL at he;split at he
 ·rename_i e ty b q Gu hd;obtain⟨h1,h2⟩:=aI.1 he;obtain⟨h3,h4⟩:=bQ.1 h2;obtain rfl:=ay.1 h4;refine vu (ids:=[]) hd h1 (λ_ h=>by cases h) λt ht hv=> ?_
  rw[XL,ht.ev (hm x (.inl rfl)),ht.ev (hm y (.inr rfl))];refine aw.2 ⟨len,hx,aw.2 ⟨cap,hy,?_⟩⟩;unfold qL;simp only[Gu,hd];exact aI.2 ⟨hv,bQ.2 ⟨h3,ay.2 rfl⟩⟩
 ·simp only[av]at he
theorem aaA{id:Id}{ver:Nat}{kt vt:Ty}(h:xG (t.bS id) (s.bS id)):t.pQ id ver kt vt=s.pQ id ver kt vt:=by
 unfold AS.pQ;rcases LA h with⟨h1,h2⟩ | ⟨v,f,f',c,h1,h2⟩
 ·rw[h1,h2]
 ·rw[h1,h2];cases c <;> rfl
theorem VR{T:TypeId}{m k:aF}{ok:Bool}(h:∀id∈m.ids,xG (t.bS id) (s.bS id)):Cp P t T m k ok=Cp P s T m k ok:=by
 unfold Cp;split
 ·rename_i id ver hm;rw[aaA (h id (by simp[aF.ids]))]
 ·rfl
theorem XX{id:Id}{ver:Nat}{kt vt:Ty}{l:List (kt.den×vt.den)}(h:(s.pQ id ver kt vt).eval=au l):∃e,s.bS id=au e:=by
 unfold AS.pQ at h;split at h
 ·rename_i v fr k' v' l' j6;exact⟨_,dO j6⟩
 ·simp only[av]at h
theorem aiu{id:Id}{ver:Nat}{kt vt:Ty}{l:List (kt.den×vt.den)}(h:(s.pQ id ver kt vt).eval=au l):∃fr,s.bS id=au (.obj ver fr (.mp kt vt l)):=by
 unfold AS.pQ at h;split at h
 ·rename_i v fr k' v' l' j6;obtain⟨atk,aCa⟩:=aI.1 h;have atk:v=ver:=by simpa using atk
  obtain⟨rfl,rfl,rfl⟩:=Oe (jd.1 aCa);subst atk;exact⟨fr,dO j6⟩
 ·simp only[av]at h
theorem EG{id:Id}{ver:Nat}{kt vt:Ty}(h:t.bS id=s.bS id):t.pQ id ver kt vt=s.pQ id ver kt vt:=by unfold AS.pQ AS.obj;rw[h]
theorem A5{id:Id}(h:t.bS id=s.bS id):t.sU id=s.sU id:=by unfold AS.sU AS.obj;rw[h]
theorem VW{T:TypeId}{m k v:aF}{s':AS}(h:(Cv P s T m k v).eval=au s'):
  ∃id e0 e,m.ids=[id]/\s.bS id=au e0/\s'=s.aY id e/\∀t:AS,t.bS id=s.bS id->(Cv P t T m k v).eval=au (t.aY id e):=by
 unfold Cv at h;split at h
 ·rename_i K V kt vt id ver hm;obtain⟨l,h1,h⟩:=aw.1 h;obtain⟨kx,h2,h⟩:=aw.1 h;obtain⟨vx,h3,h⟩:=aw.1 h;obtain⟨hu,h⟩:=aI.1 h;obtain rfl:=ay.1 h;obtain⟨e0,Z2⟩:=XX h1;refine⟨id,e0,_,rfl,Z2,rfl,λt ht=> ?_⟩;unfold Cv;simp only[hm];exact aw.2 ⟨l,by rw[EG ht];exact h1,aw.2 ⟨kx,h2,aw.2 ⟨vx,h3,aI.2 ⟨by rw[A5 ht];exact hu,ay.2 rfl⟩⟩⟩⟩
 ·simp only[av]at h
theorem VV{T:TypeId}{m k:aF}{s':AS}(h:(Cu P s T m k).eval=au s'):
  ∃id e0 e,m.ids=[id]/\s.bS id=au e0/\s'=s.aY id e/\∀t:AS,t.bS id=s.bS id->(Cu P t T m k).eval=au (t.aY id e):=by
 unfold Cu at h;split at h
 ·rename_i K V kt vt id ver hm;obtain⟨l,h1,h⟩:=aw.1 h;obtain⟨kx,h2,h⟩:=aw.1 h;obtain⟨hu,h⟩:=aI.1 h;obtain rfl:=ay.1 h;obtain⟨e0,Z2⟩:=XX h1;refine⟨id,e0,_,rfl,Z2,rfl,λt ht=> ?_⟩;unfold Cu;simp only[hm];exact aw.2 ⟨l,by rw[EG ht];exact h1,aw.2 ⟨kx,h2,aI.2 ⟨by rw[A5 ht];exact hu,ay.2 rfl⟩⟩⟩
 ·simp only[av]at h
theorem WY{s':AS}(he:(oZ P Γ bM o s).eval=au s'):Jb P Γ bM ops o s s':=by
 have Z2:=he;have one:∀x,o.op.operands= #[x]->∀t,lT (gO Γ ops s o) s t->t.ev x=s.ev x/\(X0 o.op=aV->∀id∈(s.ev x).ids,xG (t.bS id) (s.bS id)):=λx hx t ht=>
  have hm:x∈o.op.operands.toList:=by rw[hx];simp
  ⟨ht.ev hm,λhn _ c8=>ht.ab7 hn hm c8⟩
 unfold oZ at he;split at he
 ·rename_i x de;obtain rfl:=ay.1 he;refine kD λt ht=> ?_
  unfold oZ;rw[de];simp only;rw[(one x (by rw[de];rfl) t ht).1];rfl
 ·rename_i x de;obtain rfl:=ay.1 he;refine kD λt ht=> ?_
  unfold oZ;rw[de];simp only;rw[(one x (by rw[de];rfl) t ht).1];rfl
 ·rename_i c x y de;refine nF (F:=λt=>alN (t.ev c) (t.ev x) (t.ev y)) (λt=>by unfold oZ;rw[de]) (λt ht=> ?_) Z2;rw[ht.ev (by rw[de];simp[bX]),ht.ev (by rw[de];simp[bX]),ht.ev (by rw[de];simp[bX])]
 ·rename_i T de;split at he
  ·rename_i z q hz hq;obtain⟨h1,h2⟩:=aI.1 he;obtain rfl:=ay.1 h2;simp only[al]at h1;refine vu (ids:=[]) hq h1.1 (λ_ h=>by cases h) λt ht hv=> ?_
   unfold oZ;rw[de];simp only[hz,hq];exact aI.2 ⟨by simp[hv,h1.2],ay.2 rfl⟩
  ·exact(av.1 he).elim
 ·rename_i T x de;exact amK de he
 ·rename_i T parts de;exact acM de he
 ·rename_i T n parts de;exact Ms de he
 ·rename_i T x de;refine nF (F:=λt=>Kp P t T (t.ev x)) (λt=>by unfold oZ;rw[de]) (λt ht=> ?_) Z2;obtain⟨h1,h2⟩:=one x (by rw[de];rfl) t ht;rw[h1,ael (h2 (Yc de rfl))]
 ·rename_i T x v de;obtain⟨s1,h1,h2⟩:=aw.1 he;obtain rfl:=ay.1 h2;obtain⟨id,e0,e,c8,hs,rfl,hl⟩:=abz h1;refine Co hs ?_ λt ht ad2=> ?_
  ·show id∈writes Γ s o;unfold writes;rw[de];simp only[c8,bf]
  ·unfold oZ;rw[de];simp only;rw[ht.ev (x:=x) (by rw[de];simp[bX]),ht.ev (x:=v) (by rw[de];simp[bX])];exact aw.2 ⟨_,hl t ad2,ay.2 rfl⟩
 ·rename_i x de;split at he
  ·rename_i id v p n hx;obtain rfl:=ay.1 he;refine kD λt ht=> ?_
   unfold oZ;rw[de];simp only[(one x (by rw[de];rfl) t ht).1,hx];rfl
  ·rename_i ty y hx;obtain rfl:=ay.1 he;refine kD λt ht=> ?_
   unfold oZ;rw[de];simp only[(one x (by rw[de];rfl) t ht).1,hx];rfl
  ·rename_i ty y hx;obtain⟨z,e,he⟩:=lI.1 he;obtain rfl:=ay.1 he;refine kD λt ht=> ?_
   unfold oZ;rw[de];simp only[(one x (by rw[de];rfl) t ht).1,hx];exact lI.2 ⟨z,e,ay.2 rfl⟩
  ·rename_i ty y hx;obtain⟨z,e,he⟩:=lI.1 he;obtain rfl:=ay.1 he;refine kD λt ht=> ?_
   unfold oZ;rw[de];simp only[(one x (by rw[de];rfl) t ht).1,hx];exact lI.2 ⟨z,e,ay.2 rfl⟩
  ·rename_i f c hx;obtain rfl:=ay.1 he;refine kD λt ht=> ?_
   unfold oZ;rw[de];simp only[(one x (by rw[de];rfl) t ht).1,hx];rfl
  ·exact(av.1 he).elim
 ·rename_i op T x y U de;have atb:x∈o.op.operands.toList:=by rw[de];simp[bX]
  have aDH:y∈o.op.operands.toList:=by rw[de];simp[bX]
  split at he
  ·rename_i i v1 j v2 hx hy;obtain⟨v,h1,h2⟩:=aw.1 he;obtain rfl:=ay.1 h2;refine kD λt ht=> ?_
   unfold oZ;rw[de];simp only[ht.ev atb,ht.ev aDH,hx,hy];exact aw.2 ⟨v,by rw[anv (ht.ab7 (Yc de rfl) atb (by rw[hx];simp[aF.ids]))];exact h1,rfl⟩
  ·rename_i gV;obtain⟨v,h1,h2⟩:=aw.1 he;obtain rfl:=ay.1 h2;refine kD λt ht=> ?_
   unfold oZ;rw[de];simp only[ht.ev atb,ht.ev aDH];exact aw.2 ⟨v,h1,rfl⟩
 ·rename_i op T x de;refine nF (F:=λt=>aGk op (t.ev x)) (λt=>by unfold oZ;rw[de]) (λt ht=> ?_) Z2;rw[(one x (by rw[de];rfl) t ht).1]
 ·rename_i T U x de;split at he
  ·rename_i id ver len hTU hx;unfold acY at he;split at he
   ·rename_i v e0 l e j6 hD;split at he
    ·rename_i hE;obtain⟨h1,h2⟩:=aI.1 he;obtain⟨h3,h4⟩:=bQ.1 h2;obtain rfl:=ay.1 h4;refine Co (dO j6) ?_ λt ht ad2=> ?_
     ·show id∈writes Γ s o;unfold writes;rw[de];simp only[hTU,hx];simp[aF.ids]
     ·have hob':t.obj id=au (v,aV,.vec e0 (.int .u8) l):=by simp only[AS.obj,ad2];exact j6
      unfold oZ;rw[de];simp only[hTU,(one x (by rw[de];rfl) t ht).1,hx];unfold acY;simp only[hob',hD,hE];exact aI.2 ⟨h1,bQ.2 ⟨h3,ay.2 rfl⟩⟩
    ·exact(av.1 he).elim
   ·exact(av.1 he).elim
  ·rename_i id ver hx;obtain⟨v,h1,h2⟩:=aw.1 he;obtain rfl:=ay.1 h2;refine kD λt ht=> ?_
   obtain⟨h3,h4⟩:=one x (by rw[de];rfl) t ht;unfold oZ;rw[de];simp only[h3,hx];exact aw.2 ⟨v,by rw[acZ (h4 (Yc de rfl) _ (by rw[hx];simp[aF.ids]))];exact h1,rfl⟩
  ·rename_i gV;obtain⟨v,h1,h2⟩:=aw.1 he;obtain rfl:=ay.1 h2;refine kD λt ht=> ?_
   obtain⟨h3,h4⟩:=one x (by rw[de];rfl) t ht;unfold oZ;rw[de];simp only[h3];exact aw.2 ⟨v,by rw[acX (h4 (Yc de rfl))];exact h1,rfl⟩
 ·rename_i T x de;exact af8 de he
 ·rename_i f first caps de
  obtain⟨h1,h2⟩:=aI.1 he;obtain rfl:=ay.1 h2;refine kD λt ht=> ?_
  have hc:qC t caps.toList=qC s caps.toList:=Jt _ λx hx=>ht.ev (by rw[de];simp only[bX,bY];exact bp.2 (.inr hx))
  unfold oZ;rw[de];simp only[hc];exact aI.2 ⟨h1,ay.2 rfl⟩
 ·rename_i T l c de;obtain⟨n,h1,h2⟩:=aw.1 he;obtain⟨m,h3,h4⟩:=aw.1 h2;exact Qb de h1 h3 h4
 ·rename_i T x lo hi de;refine nF (F:=λt=>Fq P t T (t.ev x) lo hi) (λt=>by unfold oZ;rw[de]) (λt ht=> ?_) Z2;have hm:∀z,(z=x\/lo=au z\/hi=au z)->z∈o.op.operands.toList:=λz hz=>by
   rw[de];simp only[bX,bY,bp];rcases hz with rfl | rfl | rfl
   ·left;left;left;simp
   ·left;left;right;simp
   ·left;right;simp
  have hx:=hm x (.inl rfl);rw[ht.ev hx];exact LF (λid c8=>ht.ab7 (Yc de rfl) hx c8) (λy hy=>ht.ev (hm y (.inr (.inl hy)))) (λy hy=>ht.ev (hm y (.inr (.inr hy))))
 ·rename_i T x lo y m de;refine nF (F:=λt=>LD P t T (t.ev x) lo y m) (λt=>by unfold oZ;rw[de]) (λt ht=> ?_) Z2;have hm:∀z,(z=x\/lo=au z\/y=z\/m=z)->z∈o.op.operands.toList:=λz hz=>by
   rw[de];simp only[bX,bY,bp];rcases hz with rfl | rfl | rfl | rfl
   ·left;left;left;simp
   ·left;left;right;simp
   ·left;right;simp
   ·right;simp
  have hx:=hm x (.inl rfl);rw[ht.ev hx];exact Wt (λid c8=>ht.ab7 (Yc de rfl) hx c8) (λz hz=>ht.ev (hm z (.inr (.inl hz)))) (ht.ev (hm y (.inr (.inr (.inl rfl))))) (ht.ev (hm m (.inr (.inr (.inr rfl)))))
 ·rename_i T x f de;refine nF (F:=λt=>Cj P T (t.ev x) f) (λt=>by unfold oZ;rw[de]) (λt ht=> ?_) Z2;rw[(one x (by rw[de];rfl) t ht).1]
 ·rename_i T x f de;refine nF (F:=λt=>ZU P T (t.ev x) f) (λt=>by unfold oZ;rw[de]) (λt ht=> ?_) Z2;rw[(one x (by rw[de];rfl) t ht).1]
 ·rename_i T x i de;refine nF (F:=λt=>(asInt (t.ev i)).bind λi=>qI P t T (t.ev x) i) (λt=>by unfold oZ;rw[de,Out.bind_assoc]) (λt ht=> ?_) Z2;have hx:x∈o.op.operands.toList:=by rw[de];simp[bX]
  rw[ht.ev (x:=i) (by rw[de];simp[bX]),ht.ev hx];congr 1;funext i;exact MX λid c8=>ht.ab7 (Yc de rfl) hx c8
 ·rename_i T x i de;refine nF (F:=λt=>(asInt (t.ev i)).bind λi=>aaf P T (t.ev x) i) (λt=>by unfold oZ;rw[de,Out.bind_assoc]) (λt ht=> ?_) Z2;rw[ht.ev (x:=i) (by rw[de];simp[bX]),ht.ev (x:=x) (by rw[de];simp[bX])]
 ·rename_i x i de;refine nF (F:=λt=>Out.opt ((t.ev x).list[i]?)) (λt=>by unfold oZ;rw[de]) (λt ht=> ?_) Z2;rw[(one x (by rw[de];rfl) t ht).1]
 ·rename_i T de;have DE:=he;unfold EF at DE;split at DE
  ·rename_i K V kt vt q hm hd;obtain⟨h1,h2⟩:=aI.1 DE;obtain rfl:=ay.1 h2;refine vu (ids:=[]) hd h1 (λ_ h=>by cases h) λt ht hv=> ?_
   unfold oZ;rw[de];simp only;unfold EF;simp only[hm,hd];exact aI.2 ⟨hv,ay.2 rfl⟩
  ·exact(av.1 DE).elim
 ·rename_i T x i ok de;refine nF (F:=λt=>Cp P t T (t.ev x) (t.ev i) ok) (λt=>by unfold oZ;rw[de]) (λt ht=> ?_) Z2;have hx:x∈o.op.operands.toList:=by rw[de];simp[bX]
  rw[ht.ev (x:=i) (by rw[de];simp[bX]),ht.ev hx];exact VR λid c8=>ht.ab7 (Yc de rfl) hx c8
 ·rename_i T m k x de;obtain⟨s1,h1,h2⟩:=aw.1 he;obtain rfl:=ay.1 h2;obtain⟨id,e0,e,c8,hs,rfl,hl⟩:=VW h1;refine Co hs ?_ λt ht ad2=> ?_
  ·show id∈writes Γ s o;unfold writes;rw[de];simp only[c8,bf]
  ·unfold oZ;rw[de];simp only;rw[ht.ev (x:=m) (by rw[de];simp[bX]),ht.ev (x:=k) (by rw[de];simp[bX]),ht.ev (x:=x) (by rw[de];simp[bX])];exact aw.2 ⟨_,hl t ad2,ay.2 rfl⟩
 ·rename_i T m de;have DE:=he;unfold Nq at DE;split at DE
  ·rename_i K V kt vt id ver q hm hv hd;obtain⟨l,h1,h2⟩:=aw.1 DE;obtain⟨h3,h4⟩:=aI.1 h2;obtain rfl:=ay.1 h4;simp only[al]at h3;obtain⟨hu,hq⟩:=h3;have cI:=aiu h1;obtain⟨fr,cI⟩:=cI;obtain rfl:=zj cI hu;have hf:∀t:AS,t.bS id=s.bS id->t.bt [id]=t.aY id (.obj ver aO (.mp kt vt l)):=λt ht=>by show t.freeze id=_;unfold AS.freeze;rw[ht,cI]
   have aDG:m∈o.op.operands.toList:=by rw[de];simp[bX]
   have hw:id∈writes Γ s o:=by unfold writes;rw[de];simp only[hv,aF.ids,bf]
   rw[<-hf s rfl];refine vu (ids:=[id]) hd hq (λi hi=> ?_) λt ht aCm=> ?_
   ·rw[bf.1 hi];exact bp.2 (.inr hw)
   ·have ad2:t.bS id=s.bS id:=ht.ws id hw;unfold oZ;rw[de];simp only;unfold Nq;rw[ht.ev aDG];simp only[hm,hv,hd];rw[hf t ad2];exact aw.2 ⟨l,by rw[EG ad2];exact h1,aI.2 ⟨by rw[A5 ad2,hu,aCm];rfl,ay.2 rfl⟩⟩
  ·simp only[av]at DE
 ·rename_i c de;obtain⟨cal,args,tys⟩:=c;simp only at he;split at he
  ·split at he
   ·rename_i m k T T2 ha ht';have aDG:m∈o.op.operands.toList:=by rw[de];simp only[bX,dR,aT,bY,ha];simp
    have ata:k∈o.op.operands.toList:=by rw[de];simp only[bX,dR,aT,bY,ha];simp
    obtain⟨s1,h1,h2⟩:=aw.1 he;obtain rfl:=ay.1 h2;obtain⟨id,e0,e,c8,hs,rfl,hl⟩:=VV h1;refine Co hs ?_ λt ht ad2=> ?_
    ·show id∈writes Γ s o;unfold writes;rw[de];simp only[ha,c8,bf]
    ·unfold oZ;rw[de];simp only[ha,ht'];rw[ht.ev aDG,ht.ev ata];exact aw.2 ⟨_,hl t ad2,ay.2 rfl⟩
   ·exact(av.1 he).elim
  ·split at he
   ·rename_i x y T X ha ht';exact ahp de rfl ha ht' he
   ·exact(av.1 he).elim
  ·split at he
   ·rename_i x T ha ht';refine nF (F:=λt=>ayB P T (t.ev x)) (λt=>by unfold oZ;rw[de];simp only[ha,ht']) (λt ht=> ?_) Z2;rw[ht.ev (by rw[de];simp only[bX,dR,aT,bY,ha];simp)]
   ·exact(av.1 he).elim
  ·split at he
   ·rename_i x y T X ha ht';have atb:x∈o.op.operands.toList:=by rw[de];simp only[bX,dR,aT,bY,ha];simp
    have aDH:y∈o.op.operands.toList:=by rw[de];simp only[bX,dR,aT,bY,ha];simp
    split at he
    ·rename_i k n hx hy;have DE:=he;unfold adI at DE;split at DE
     ·rename_i e t0 b q kn Gu hd hX;obtain⟨h1,h2⟩:=aI.1 DE;obtain⟨h3,h4⟩:=bQ.1 h2;obtain rfl:=ay.1 h4;refine vu (ids:=[]) hd h1 (λ_ h=>by cases h) λt ht hv=> ?_
      unfold oZ;rw[de];simp only[ha,ht',ht.ev atb,ht.ev aDH,hx,hy];unfold adI;simp only[Gu,hd,hX];exact aI.2 ⟨hv,bQ.2 ⟨h3,ay.2 rfl⟩⟩
     ·exact(av.1 DE).elim
    ·rename_i gV;exact Y6 de rfl ha ht' gV he
   ·exact(av.1 he).elim
  ·split at he
   ·rename_i x T ha ht';have atb:x∈o.op.operands.toList:=by rw[de];simp only[bX,dR,aT,bY,ha];simp
    split at he
    ·rename_i e hx hT;obtain rfl:=ay.1 he;refine kD λt ht=> ?_
     unfold oZ;rw[de];simp only[ha,ht',ht.ev atb,hx,hT];rfl
    ·exact(av.1 he).elim
   ·exact(av.1 he).elim
  ·refine nF (F:=λt=>aov aO (args.toList.map t.ev)) (λt=>by unfold oZ;rw[de]) (λt ht=> ?_) Z2;congr 1;exact im λx hx=>ht.ev (by rw[de];simp only[bX,dR,aT,bY];exact hx)
  ·refine nF (F:=λt=>aov aV (args.toList.map t.ev)) (λt=>by unfold oZ;rw[de]) (λt ht=> ?_) Z2;congr 1;exact im λx hx=>ht.ev (by rw[de];simp only[bX,dR,aT,bY];exact hx)
  ·split at he
   ·rename_i x ha;have atb:x∈o.op.operands.toList:=by rw[de];simp only[bX,dR,aT,bY,ha];simp
    split at he
    ·rename_i id ver len hx;obtain⟨h1,h2⟩:=bQ.1 he;obtain rfl:=ay.1 h2;refine kD λt ht=> ?_
     unfold oZ;rw[de];simp only[ha,ht.ev atb,hx];exact bQ.2 ⟨h1,rfl⟩
    ·exact(av.1 he).elim
   ·exact(av.1 he).elim
  ·split at he
   ·rename_i x y T U ha ht';have atb:x∈o.op.operands.toList:=by rw[de];simp only[bX,dR,aT,bY,ha];simp
    have aDH:y∈o.op.operands.toList:=by rw[de];simp only[bX,dR,aT,bY,ha];simp
    split at he
    ·rename_i id ver n hx hy;have DE:=he;unfold af4 at DE;split at DE
     ·rename_i v e l u j6 hT;obtain⟨h1,h2⟩:=aI.1 DE;obtain⟨h3,h4⟩:=bQ.1 h2;obtain rfl:=ay.1 h4;refine Co (dO j6) ?_ λt ht ad2=> ?_
      ·show id∈writes Γ s o;unfold writes;rw[de];simp only[ha,hx];simp[aF.ids]
      ·have hob':t.obj id=au (v,aV,.vec e (.int .u8) l):=by simp only[AS.obj,ad2];exact j6
       unfold oZ;rw[de];simp only[ha,ht',ht.ev atb,ht.ev aDH,hx,hy];unfold af4;simp only[hob',hT];exact aI.2 ⟨h1,bQ.2 ⟨h3,ay.2 rfl⟩⟩
     ·exact(av.1 DE).elim
    ·exact(av.1 he).elim
   ·exact(av.1 he).elim
  ·rename_i F _;split at he
   ·rename_i f caps hF;split at he
    ·rename_i en adQ;obtain⟨iJ,he⟩:=aI.1 he;exact ahe de rfl hF adQ iJ he
    ·exact(av.1 he).elim
   ·exact(av.1 he).elim
  ·exact(av.1 he).elim
 ·exact(av.1 he).elim
end
end Go.Ab
namespace Go.Ab
section
variable {P:aL} {Γ:qh} {bM:List Nat} {ops:Array Oper} {o:Oper} {s t:AS}
def Loc(P:aL)(Γ:qh)(bM:List Nat)(ops:Array Oper)(o:Oper)(s s':AS):Prop:=∃E,App o.dst E s s'/\Y3 (gO Γ ops s o) s E/\∀t,lT (gO Γ ops s o) s t->∃t',Gt P Γ bM ops o t=au t'/\App o.dst E t t'
theorem RX{s':AS}(he:Gt P Γ bM ops o s=au s'):Loc P Γ bM ops o s s':=by
 unfold Gt at he;split at he
 ·rename_i hg;obtain⟨E,h1,h2,h3⟩:=WY (ops:=ops) he;refine⟨E,h1,h2,λt ht=> ?_⟩;obtain⟨t',h4,h5⟩:=h3 t ht;exact⟨t',by unfold Gt;simp only[hg];exact h4,h5⟩
 ·rename_i j want hg;split at he
  ·rename_i q hq;split at he
   ·rename_i b hb;have aqW:∀t,lT (gO Γ ops s o) s t->t.slot q= .d .bool b:=λt ht=>by rw[ht.cn q (bp.2 (.inr (by unfold MN;simp only[hg,hq];simp)))];exact hb
    by_cases e:b=want
    ·rw[if_pos e]at he;obtain⟨E,h1,h2,h3⟩:=WY (ops:=ops) he;refine⟨E,h1,h2,λt ht=> ?_⟩;obtain⟨t',h4,h5⟩:=h3 t ht;exact⟨t',by unfold Gt;simp only[hg,hq,aqW t ht,if_pos e];exact h4,h5⟩
    ·rw[if_neg e]at he;simp only[az]at he;subst he;exact⟨⟨.nil,λ_=>aH,[]⟩,App.Gb _ _ _,⟨λ_ _ h=>by simp at h,λ_ h=>by simp at h⟩,λt ht=>⟨_,by unfold Gt;simp only[hg,hq,aqW t ht,if_neg e],App.Gb _ _ _⟩⟩
   ·rename_i hb;have aqW:∀t,lT (gO Γ ops s o) s t->t.slot q= .nil:=λt ht=>by rw[ht.cn q (bp.2 (.inr (by unfold MN;simp only[hg,hq];simp)))];exact hb
    simp only[az]at he;subst he;exact⟨⟨.nil,λ_=>aH,[]⟩,App.Gb _ _ _,⟨λ_ _ h=>by simp at h,λ_ h=>by simp at h⟩,λt ht=>⟨_,by unfold Gt;simp only[hg,hq,aqW t ht],App.Gb _ _ _⟩⟩
   ·cases he
  ·cases he
theorem ab1(h:lT (gO Γ ops s o) s t):writes Γ t o=writes Γ s o:=by
 have awU:∀id∈writes Γ s o,t.bS id=s.bS id:=h.ws;unfold writes at awU ⊢;split
 ·rename_i x v de;rw[h.ev (by rw[de];simp[bX])]
 ·rename_i m k v de;rw[h.ev (by rw[de];simp[bX])]
 ·rename_i m de;rw[h.ev (by rw[de];simp[bX])]
 ·rename_i T U x de;rw[h.ev (by rw[de];simp[bX])]
 ·rename_i c de;obtain⟨cal,args,tys⟩:=c;simp only[de]at awU;simp only;split
  ·split
   ·rename_i x l ha;rw[h.ev (by rw[de];simp only[bX,dR,aT,bY,ha];simp)]
   ·rfl
  ·split
   ·rename_i x l ha;rw[h.ev (by rw[de];simp only[bX,dR,aT,bY,ha];simp)]
   ·rfl
  ·split
   ·rename_i x l ha;rw[h.ev (by rw[de];simp only[bX,dR,aT,bY,ha];simp)]
   ·rfl
  ·split
   ·rename_i x l ha;rw[h.ev (by rw[de];simp only[bX,dR,aT,bY,ha];simp)]
   ·rfl
  ·rename_i F;simp only at awU;have hm:∀z,z=F\/z∈args.toList->z∈o.op.operands.toList:=λz hz=>by
    rw[de];simp only[bX,dR,bY,bp];rcases hz with rfl | hz
    ·exact .inl (by simp)
    ·exact .inr hz
   have h1:t.ev F=s.ev F:=h.ev (hm F (.inl rfl));have h2:args.toList.map t.ev=args.toList.map s.ev:=im λx hx=>h.ev (hm x (.inr hx))
   rw[h1];split
   ·rename_i f caps hF;simp only[hF]at awU;rw[h2];split
    ·rename_i en adQ;simp only[adQ]at awU;exact vL _ _ _ λid c8=>by rw[awU id c8]
    ·rfl
   ·rfl
  ·rfl
 ·rfl
theorem RO(h:lT (gO Γ ops s o) s t):gO Γ ops t o=gO Γ ops s o:=by
 have h1:=ab1 h;have h2:aeT t o=aeT s o:=by
  unfold aeT;split
  ·rfl
  unfold List.flatMap;congr 1;exact im λi hi=>by rw[h.cn i (bp.2 (.inl hi))]
 unfold gO;rw[h1,h2]
theorem vz{xs ys:List Id}(h:meets xs ys=aV){id:Id}(hx:id∈xs):id ∉ ys:=by
 intro hy;have:meets xs ys=aO:=by unfold meets;exact jL.2 ⟨id,hx,jL.2 ⟨id,hy,by simp⟩⟩
 rw[h]at this;cases this
theorem sJ{d:Option Tmp}{ids:List Id}(h:Uv d ids=aV){q:Nat}(hd:d=au q)(j:Nat):Id.new q j ∉ ids:=by
 intro hy;have:Uv d ids=aO:=by subst hd;exact jL.2 ⟨_,hy,by simp⟩
 rw[h]at this;cases this
theorem F3{f g:DH}(h:f.aEL g=aV){q:Nat}(hd:f.dst=au q):q ∉ g.cn/\g.dst≠au q:=by unfold DH.aEL at h;rw[hd]at h;simp only[Bool.or_eq_false_iff,fg,aR,gN]at h;exact⟨λhx=>h.1 q hx rfl,h.2⟩
theorem afS(s:AS)(d:Option Tmp)(v:aF)(i:Nat)(h:d≠au i):(s.put d v).slot i=s.slot i:=by
 cases d with
 |none=>rfl
 |some q=>rw[Uy,if_neg];rintro⟨rfl,_⟩;exact h rfl
theorem App.slot{d:Option Tmp}{E:aDq}{s s':AS}(h:App d E s s')(i:Nat)(hi:d≠au i):s'.slot i=s.slot i:=by rw[<-afS s d E.v i hi];simp only[AS.slot,h.cn]
theorem ace{f f':DH}{E:aDq}{s s1:AS}(ha:App f.dst E s s1)(hw:Y3 f s E)(ath:∀id∈f'.ws,id∈f'.rs)(h1:f.aEL f'=aV)(h2:meets f.ws f'.rs=aV)(h3:meets f'.ws f.rs=aV)
  (h4:Uv f.dst f'.rs=aV):(∀i∈f'.cn,s1.slot i=s.slot i)/\(∀id∈f'.ws,s1.bS id=s.bS id)/\(∀id∈f'.rs,xG (s1.bS id) (s.bS id))/\∀q,f'.dst=au q->s1.dW q=s.dW q:=by
 have P8:∀id∈f'.rs,E.up id=aH:=λid c8=>by
  cases hu:E.up id with
  |none=>rfl
  |some e=>
   rcases hw.up id e hu with⟨h,_⟩ | ⟨q,j,hd,rfl⟩
   ·exact absurd c8 (vz h2 h)
   ·exact absurd c8 (sJ h4 hd j)
 refine⟨λi hi=>ha.slot i λhd=>(F3 h1 hd).1 hi,λid c8=> ?_,λid c8=> ?_,λq hq=> ?_⟩
 ·rw[ha.bS,P8 id (ath id c8)];have:id ∉ E.fz:=λhz=>vz h3 c8 (hw.fz id hz)
  simp only[if_neg this]
 ·rw[ha.bS,P8 id c8];simp only;split
  ·exact ap2 _
  ·exact ap3 _
 ·have gV:∀j,(s1.bS (.new q j)=aH↔s.bS (.new q j)=aH):=λj=>by
   rw[ha.bS];cases hu:E.up (.new q j) with
   |none=>
    simp only;split <;> simp
   |some e=>
    rcases hw.up _ e hu with⟨_,h⟩ | ⟨q',j',hd,he⟩
    ·simp[h]
    ·simp only[Id.new.injEq]at he;obtain⟨rfl,_⟩:=he;exact absurd hq (F3 h1 hd).2
  rw[Bool.eq_iff_iff,zm,zm,ha.len];exact and_congr Iff.rfl (forall_congr' gV)
theorem Ek(s:AS)(o:Oper):∀id∈(gO Γ ops s o).ws,id∈(gO Γ ops s o).rs:=λ_ c8=>bp.2 (.inr c8)
theorem swap{o':Oper}{s1 s2:AS}(h1:Gt P Γ bM ops o s=au s1)(h2:Gt P Γ bM ops o' s1=au s2)(hi:(gO Γ ops s o).indep (gO Γ ops s1 o')=aO):
  ∃t1,Gt P Γ bM ops o' s=au t1/\Gt P Γ bM ops o t1=au s2/\gO Γ ops s o'=gO Γ ops s1 o'/\gO Γ ops t1 o=gO Γ ops s o:=by
 unfold DH.indep at hi;simp only[al,bP]at hi;obtain⟨⟨⟨⟨⟨i1,i2⟩,i3⟩,i4⟩,i5⟩,i6⟩:=hi;obtain⟨E,a1,w1,l1⟩:=RX h1;obtain⟨E',a2,w2,l2⟩:=RX h2;obtain⟨g1,g2,g3,g4⟩:=ace (f:=gO Γ ops s o) (f':=gO Γ ops s1 o') a1 w1 (Ek _ _) i1 i3 i4 i5;have I7:lT (gO Γ ops s1 o') s1 s:=⟨λi hi=>(g1 i hi).symm,λid c8=>(g2 id c8).symm,λid c8=>by
  have:=g3 id c8
  revert this
  cases s1.bS id <;> cases s.bS id <;> simp only[xG] <;> intro h <;> first | trivial | exact h | skip
  rename_i a b;cases a <;> cases b <;> simp_all [dE.ab7],λq hq=>(g4 q hq).symm⟩
 obtain⟨t1,k1,k2⟩:=l2 s I7;have hf':=RO I7;have w2':Y3 (gO Γ ops s1 o') s E':=⟨λid e hu=>by
  rcases w2.up id e hu with⟨h,hn⟩ | h
  ·exact .inl ⟨h,by rw[<-g2 id h];exact hn⟩
  ·exact .inr h,w2.fz⟩
 obtain⟨m1,m2,m3,m4⟩:=ace (f:=gO Γ ops s1 o') (f':=gO Γ ops s o) k2 w2' (Ek _ _) i2 i4 i3 i6;have aEo:lT (gO Γ ops s o) s t1:=⟨m1,m2,m3,m4⟩;obtain⟨t2,k3,k4⟩:=l1 t1 aEo;refine⟨t1,k1,?_,hf',RO aEo⟩;rw[k3];congr 1;have aE7:∀id e,E.up id=au e->E'.up id=aH/\id ∉ E'.fz:=λid e hu=>by
  rcases w1.up id e hu with⟨h,hn⟩ | ⟨q,j,hd,rfl⟩
  ·refine⟨?_,λhz=>vz i3 h (w2.fz id hz)⟩;cases hu':E'.up id with
   |none=>rfl
   |some e'=>
    rcases w2.up id e' hu' with⟨h',_⟩ | ⟨q,j,hd,rfl⟩
    ·exact absurd (Ek _ _ id h') (vz i3 h)
    ·exact absurd (Ek _ _ _ h) (sJ i6 hd j)
  ·refine⟨?_,λhz=>sJ i5 hd j (w2.fz _ hz)⟩;cases hu':E'.up (.new q j) with
   |none=>rfl
   |some e'=>
    rcases w2.up _ e' hu' with⟨h',_⟩ | ⟨q',j',hd',he⟩
    ·exact absurd (Ek _ _ _ h') (sJ i5 hd j)
    ·simp only[Id.new.injEq]at he;obtain⟨rfl,_⟩:=he;exact absurd hd' (F3 i1 hd).2
 have aHu:∀id e,E'.up id=au e->E.up id=aH/\id ∉ E.fz:=λid e hu=>by
  have hn:E.up id=aH:=by
   cases aJF:E.up id with
   |none=>rfl
   |some e1=>rw[(aE7 id e1 aJF).1]at hu;cases hu
  refine⟨hn,λhz=> ?_⟩;rcases w2.up id e hu with⟨h,_⟩ | ⟨q,j,hd,rfl⟩
  ·exact vz i4 h (w1.fz id hz)
  ·exact sJ i6 hd j (w1.fz _ hz)
 refine AS.asI ?_ (by rw[k4.len,k2.len,a2.len,a1.len]) λid=> ?_
 ·have e1:∀(u u':AS) (d:Option Tmp) (v:aF),u.cn=u'.cn->(u.put d v).cn=(u'.put d v).cn:=λu u' d v h=>by cases d <;> simp[AS.put,h]
  rw[k4.cn,a2.cn,e1 t1 (s.put o'.dst E'.v) _ _ k2.cn,e1 s1 (s.put o.dst E.v) _ _ a1.cn];cases hd:o.dst with
  |none=>cases o'.dst <;> rfl
  |some q=>
   cases hd':o'.dst with
   |none=>rfl
   |some q'=>
    have gV:q'≠q:=λe=>(F3 (f:=gO Γ ops s o) i1 hd).2 (by show o'.dst=au q;rw[hd',e])
    simp only[AS.put];exact List.set_comm _ _ gV
 ·rw[k4.bS,k2.bS,a2.bS,a1.bS];cases hu:E.up id with
  |some e=>
   obtain⟨h3,h4⟩:=aE7 id e hu;simp only[h3,if_neg h4]
  |none=>
   simp only;cases hu':E'.up id with
   |some e=>
    obtain⟨_,h4⟩:=aHu id e hu';simp only[if_neg h4]
   |none=>
    simp only;by_cases z1:id∈E.fz <;> by_cases z2:id∈E'.fz <;> simp only[if_pos,if_neg,z1,z2,not_false_eq_true]
end
end Go.Ab
namespace Go.Ab
section
variable {P:aL} {Γ:qh} {bM:List Nat} {ops:Array Oper}
def aca(P:aL)(Γ:qh)(bM:List Nat)(ops:Array Oper)(fs:Nat->DH):List Nat->AS->AS->Prop
 |[],s,sn=>s=sn
 |i::l,s,sn=>∃o,ops[i]? =au o/\gO Γ ops s o=fs i/\∃s',Gt P Γ bM ops o s=au s'/\aca P Γ bM ops fs l s' sn
theorem aca.arE{fs:Nat->DH}{i:Nat}{l2:List Nat}{sn:AS}:∀(l1:List Nat) {s:AS},aca P Γ bM ops fs (l1++i::l2) s sn->(∀j∈l1,(fs j).indep (fs i)=aO)->aca P Γ bM ops fs (i::(l1++l2)) s sn
 |[],_,h,_=>h
 |j::l1,s,h,hi=>by
  obtain⟨oj,h1,h2,s1,h3,h4⟩:=h;obtain⟨oi,h5,h6,s2,h7,h8⟩:=aca.arE l1 h4 λj hj=>hi j (aD _ hj)
  have hd:=hi j (aG ..);rw[<-h2,<-h6]at hd;obtain⟨t1,k1,k2,k3,k4⟩:=swap h3 h7 hd;exact⟨oi,h5,by rw[k3,h6],t1,k1,oj,h1,by rw[k4,h2],s2,k2,h8⟩
theorem XG{R:Type}{anc:List Nat}{k:AS->Option R}{r:R}:∀(l:List Oper) (i:Nat) (acc:List (Nat×DH)) (s:AS) (f0:Nat->DH),(∀n o,l[n]? =au o->ops[i+n]? =au o)->(∀x∈acc,f0 x.1=x.2/\x.1 < i)->
  XF P Γ bM ops anc i l acc s k=au r->∃fs sn,(∀j,j < i->fs j=f0 j)/\aca P Γ bM ops fs (List.range' i l.length) s sn/\k sn=au r/\
   (∀x∈acc,∀m,i<=m->m < i+l.length->(anc.getD m 0).testBit x.1=aO\/x.2.indep (fs m)=aO)/\(∀m1 m2,i<=m1->m1 < m2->m2 < i+l.length->(anc.getD m2 0).testBit m1=aO\/(fs m1).indep (fs m2)=aO)
 |[],i,acc,s,f0,_,_,h=>⟨f0,s,λ_ _=>rfl,rfl,h,λ_ _ m h1 h2=>by simp at h2;omega,λ_ _ h1 h2 h3=>by simp at h3;omega⟩
 |o::l,i,acc,s,f0,ho,hf,h=>by
  unfold XF at h;split at h
  ·rename_i wc;simp only[AS.Ly]at h;obtain⟨s',h1,h2⟩:=adH (k:=λs'=>XF P Γ bM ops anc (i+1) l ((i,gO Γ ops s o)::acc) s' k) h;have aGG:∀x∈(i,gO Γ ops s o)::acc,(if x.1=i then gO Γ ops s o else f0 x.1)=x.2/\x.1 < i+1:=λx hx=>by
    rcases bA.1 hx with rfl | hx
    ·simp
    ·obtain⟨q1,q2⟩:=hf x hx;rw[if_neg aq];exact⟨q1,aq⟩
   obtain⟨fs,sn,g1,g2,g3,g4,g5⟩:=XG l (i+1) ((i,gO Γ ops s o)::acc) s' (λn=>if n=i then gO Γ ops s o else f0 n)
    (λn o' hn=>by have:=ho (n+1) o' (by simpa using hn);rw[<-this];congr 1;omega) aGG h2
   have gi:fs i=gO Γ ops s o:=by rw[g1 i aq,if_pos rfl]
   refine⟨fs,sn,λj hj=>by rw[g1 j aq,if_neg aq],?_,g3,λx hx m h3 h4=> ?_,λm1 m2 h3 h4 h5=> ?_⟩
   ·rw[aB,List.range'_succ];exact⟨o,ho 0 o rfl,gi.symm,s',h1,g2⟩
   ·rcases Nat.eq_or_lt_of_le h3 with rfl | h3
    ·have:=dj.1 wc x hx;simp only[iu]at this;rcases this with h | h
     ·exact .inl h
     ·right;rw[gi];exact h
    ·exact g4 x (aD _ hx) m aq (by simp only[aB]at h4;omega)
   ·rcases Nat.eq_or_lt_of_le h3 with rfl | h3
    ·rw[gi];exact g4 (i,gO Γ ops s o) (aG ..) m2 aq (by simp only[aB]at h5;omega)
    ·exact g5 m1 m2 aq h4 (by simp only[aB]at h5;omega)
  ·cases h
theorem ack{acc:List Nat}{j:Nat}:∀ {l:List Edge},(l.foldr (λe m=>Nat.lor (Nat.lor (Nat.pow 2 e.on) (acc.getD e.on 0)) m) 0).testBit j=aO->∃e∈l,j=e.on\/(acc.getD e.on 0).testBit j=aO
 |[],h=>by simp at h
 |e::l,h=>by
  rw[List.foldr_cons,show ∀x y,Nat.lor x y=x ||| y from λ_ _=>rfl,show ∀x y,Nat.lor x y=x ||| y from λ_ _=>rfl,Nat.testBit_or,Nat.testBit_or,show Nat.pow 2 e.on=2^e.on from rfl,Nat.testBit_two_pow]at h;simp only[iu,aR]at h;rcases h with(h | h) | h
  ·exact⟨e,aG ..,.inl h.symm⟩
  ·exact⟨e,aG ..,.inr h⟩
  ·obtain⟨e',h1,h2⟩:=ack h;exact⟨e',aD _ h1,h2⟩
theorem WX:∀(l:List Oper) (acc:List Nat),(∀i,i < acc.length->(l.foldl (λacc o=>acc++ [Y4 acc o]) acc)[i]? =acc[i]?)/\
  ∀i o,l[i]? =au o->(l.foldl (λacc o=>acc++ [Y4 acc o]) acc)[acc.length+i]? =au (Y4 ((l.foldl (λacc o=>acc++ [Y4 acc o]) acc).take (acc.length+i)) o)
 |[],acc=>⟨λ_ _=>rfl,λi o h=>by simp at h⟩
 |x::l,acc=>by
  obtain⟨h1,h2⟩:=WX l (acc++ [Y4 acc x]);simp only[bJ];refine⟨λi hi=> ?_,λi o hi=> ?_⟩
  ·rw[h1 i (by simp;omega),fu hi]
  ·cases i with
   |zero=>
    simp only[fR,az]at hi;subst hi;rw[ct,h1 _ (by simp)];have:(l.foldl (λacc o=>acc++ [Y4 acc o]) (acc++ [Y4 acc x])).take acc.length=acc:=by
     apply kj;intro j;rw[cU];split
     ·rename_i hj;rw[h1 j (by simp;omega),fu hj]
     ·rename_i hj;rw[dG aq]
    rw[this];simp
   |succ i=>
    have:=h2 i o (by simpa using hi);simp only[ak,aB,bw,aU]at this;rw[show acc.length+(i+1)=acc.length+1+i by omega];exact this
theorem ari{l:List Oper}{i:Nat}{o:Oper}(hi:l[i]? =au o){j:Nat}(hj:((acm l).getD i 0).testBit j=aO):∃e∈o.after.toList,Region.binds .any e=aO/\(j=e.on\/((acm l).getD e.on 0).testBit j=aO):=by
 have h:=(WX l []).2 i o hi;have e:acm l=l.foldl (λacc o=>acc++ [Y4 acc o]) []:=rfl;rw[<-e]at h;simp only[bw,aU]at h;rw[aJ,h]at hj;obtain⟨e,h1,h3⟩:=ack hj;obtain⟨h1,h2⟩:=eo.1 h1;refine⟨e,h1,h2,h3.imp id λh4=> ?_⟩;rw[aJ,cU]at h4;split at h4
 ·rw[aJ];exact h4
 ·simp at h4
def YT(n:Nat)(listed:Array Bool):List Nat:=(List.range n).filter λi=> !listed.getD i aO
theorem Ks{n:Nat}{listed:Array Bool}{i:Nat}:i∈YT n listed↔i < n/\listed.getD i aO=aV:=by simp[YT]
theorem I4(n:Nat)(listed:Array Bool):(YT n listed).Pairwise (· < ·):=(List.pairwise_lt_range).filter _
theorem RV{listed:Array Bool}{i j:Nat}(d:Bool)(hi:i < listed.size):(listed.setIfInBounds i aO).getD j d=if j=i then aO else listed.getD j d:=by
 simp only[cJ,dS];by_cases h:i=j
 ·subst h;simp[hi]
 ·simp[h,Ne.symm h]
theorem az9{listed:Array Bool}{i:Nat}(hi:i < listed.size){l1 l2:List Nat}(h:YT listed.size listed=l1++i::l2):YT listed.size (listed.setIfInBounds i aO)=l1++l2:=by
 have hs:=I4 listed.size listed;rw[h]at hs;obtain⟨p1,p2,p3⟩:=List.pairwise_append.1 hs;obtain⟨p4,_⟩:=qt.1 p2;have e:YT listed.size (listed.setIfInBounds i aO)=(YT listed.size listed).filter λj=>decide (j≠i):=by
  unfold YT;rw[qs];refine List.filter_congr λj _=> ?_
  rw[RV aO hi];by_cases hj:j=i
  ·simp[hj]
  ·simp[hj]
 rw[e,h,List.filter_append,lC];have f1:l1.filter (λj=>decide (j≠i))=l1:=jl.2 λj hj=>by have:=p3 j hj i (aG ..);simp;omega
 have f2:l2.filter (λj=>decide (j≠i))=l2:=jl.2 λj hj=>by have:=p4 j hj;simp;omega
 rw[f1,f2];simp
theorem amu{rd:Option Nat}{n:Nat}{C:Ctx}(hΓ:Sound P Γ){fs:Nat->DH}{sn:AS}{Q:Exit->Act->bV->Prop}(hE:ZL ops.toList=aO)
  (aGY:∀m1 m2,m1 < m2->m2 < ops.size->((acm ops.toList).getD m2 0).testBit m1=aO\/(fs m1).indep (fs m2)=aO) (hQ:∀a w,gW C sn a w->Q .normal a w):
  ∀(fuel:Nat) (listed:Array Bool) (s:AS) (a:Act) (w:bV),listed.size=ops.size->(YT ops.size listed).length=fuel->
   (∀i,i < ops.size->listed.getD i aO=aO->∀j,((acm ops.toList).getD i 0).testBit j=aO->listed.getD j aV=aO)->aca P Γ bM ops fs (YT ops.size listed) s sn->gW C s a w->wpAnyIn (Fr rd) n P .any ops Q fuel listed a w:=by
 have aAv:∀i o,ops[i]? =au o->∀e∈o.after.toList,Region.binds .any e=aO->e.on < i:=λi o hi e he hb=>by have:=dj.1 hE (o,i) (List.mem_zipIdx_iff_getElem?.2 (by simpa using hi));have:=dj.1 this e he;simpa[hb]using this
 have aCe:∀(listed:Array Bool),listed.size=ops.size->∀i,i∈Region.ready .any ops listed↔i∈YT ops.size listed/\∀o,ops[i]? =au o->∀e∈o.after.toList,Region.binds .any e=aO->listed.getD e.on aV=aO:=λlisted _ i=>by
  rw[Ks];unfold Region.ready;simp only[eo,List.mem_range,al,bP];constructor
  ·rintro⟨h1,h2,h3⟩;refine⟨⟨h1,h2⟩,λo ho e he hb=> ?_⟩;rw[ho]at h3;simp only[dT,dQ,Array.all_eq_true',iu,bP]at h3;rcases h3 e (by simpa using he) with h | h
   ·rw[hb]at h;cases h
   ·exact h
  ·rintro⟨⟨h1,h2⟩,h3⟩;refine⟨h1,h2,?_⟩;obtain⟨o,ho⟩:∃o,ops[i]? =au o:=⟨ops[i],by simp[h1]⟩
   rw[ho];simp only[dT,dQ,Array.all_eq_true',iu,bP];intro e he;cases hb:Region.binds .any e with
   |false=>exact .inl rfl
   |true=>exact .inr (h3 o ho e (by simpa using he) hb)
 have pK:∀(listed:Array Bool),listed.size=ops.size->Region.ready .any ops listed=[]->YT ops.size listed=[]:=λlisted hs hr=>by
  cases hu:YT ops.size listed with
  |nil=>rfl
  |cons i l=>
   exfalso;have hi:i∈YT ops.size listed:=by rw[hu];exact aG ..
   have aE4:=I4 ops.size listed;rw[hu]at aE4;have:i∈Region.ready .any ops listed:=(aCe listed hs i).2 ⟨hi,λo ho e he hb=>by
    have iJ:=aAv i o ho e he hb;have ak3:=(Ks.1 hi).1;cases hl:listed.getD e.on aO with
    |false=>
     have hm:e.on∈YT ops.size listed:=Ks.2 ⟨aq,hl⟩;rw[hu]at hm;rcases bA.1 hm with h | h
     ·omega
     ·have:=(qt.1 aE4).1 _ h;omega
    |true=>
     have:e.on < listed.size:=aq;simp only[cJ,fq this,dQ]at hl ⊢;exact hl⟩
   rw[hr]at this;cases this
 intro fuel
 induction fuel with
 |zero=>
  intro listed s a w hs hl _ hr nw;have hn:YT ops.size listed=[]:=bm hl;refine⟨?_,?_⟩
  ·cases aDK:Region.ready .any ops listed with
   |nil=>rfl
   |cons i l=>
    have:i∈Region.ready .any ops listed:=by rw[aDK];exact aG ..
    have:=((aCe listed hs i).1 this).1;rw[hn]at this;cases this
  ·rw[hn]at hr;have:s=sn:=hr;subst this;exact hQ a w nw
 |succ fuel ih=>
  intro listed s a w hs hl ahV hr nw;refine⟨λaDK=> ?_,λi hi=> ?_⟩
  ·have:=pK listed hs aDK;rw[this]at hl;simp at hl
  ·obtain⟨hu,aEB⟩:=(aCe listed hs i).1 hi;obtain⟨ak3,aKh⟩:=Ks.1 hu;obtain⟨o,ho⟩:∃o,ops[i]? =au o:=⟨ops[i],by simp[ak3]⟩
   obtain⟨l1,l2,adU⟩:=List.append_of_mem hu;have aE4:=I4 ops.size listed;rw[adU]at aE4;have aEp:∀j,((acm ops.toList).getD i 0).testBit j=aO->listed.getD j aV=aO:=λj hj=>by
    obtain⟨e,he,hb,h | h⟩:=ari (by simpa using ho) hj
    ·rw[h];exact aEB o ho e he hb
    ·have h1:=aEB o ho e he hb;have h2:=aAv i o ho e he hb;refine ahV e.on aq ?_ j h
     have:e.on < listed.size:=aq;simp only[cJ,fq this,dQ]at h1 ⊢;exact h1
   rw[adU]at hr;have hb:=aca.arE l1 hr λj hj=>by
    have iJ:j < i:=(List.pairwise_append.1 aE4).2.2 j hj i (aG ..);rcases aGY j i iJ ak3 with h | h
    ·have h1:=aEp j h;have aJg:j∈YT ops.size listed:=by rw[adU];exact bp.2 (.inl hj)
     have h2:=(Ks.1 aJg).2;have:j < listed.size:=aq;simp only[cJ,fq this,dQ]at h1 h2;rw[h1]at h2;cases h2
    ·exact h
   obtain⟨o',ho',hf,s',hg,pb⟩:=hb;obtain rfl:o=o':=by rw[ho]at ho';simpa using ho'
   have Z8:YT ops.size (listed.setIfInBounds i aO)=l1++l2:=by rw[<-hs]at adU ⊢;exact az9 aq adU
   refine((XE hΓ nw hg).mono λa' w' hst'=>ih (listed.setIfInBounds i aO) s' a' w' (by simpa using hs) ?_ ?_ (by rw[Z8];exact pb) hst').wpOpIn ho
   ·rw[Z8];rw[adU]at hl;simp only[ak,aB]at hl ⊢;omega
   ·intro m hm aF4 j hj;rw[RV aV aq];split
    ·rfl
    ·rw[RV aO aq]at aF4;split at aF4
     ·rename_i aJp;subst aJp;exact aEp j hj
     ·exact ahV m hm aF4 j hj
theorem afr{rd:Option Nat}{n:Nat}{C:Ctx}(hm:P.follows .mixedOrders=aO)(hΓ:Sound P Γ){id:Nat}{R:Type}{Q:Exit->Act->bV->Prop}{s:AS}{a:Act}{w:bV}{k:AS->Option R}{r:R}(h:gW C s a w)(hE:ZL ops.toList=aO)
  (he:XF P Γ bM ops (acm ops.toList) 0 ops.toList [] s k=au r) (hk:∀s' a' w',gW C s' a' w'->k s'=au r->Q .normal a' w'):(Code.region id ops aO).wpIn (Fr rd) n P Q a w:=by
 obtain⟨fs,sn,_,g2,g3,_,g5⟩:=XG ops.toList 0 [] s (λ_=>⟨aH,[],[],[]⟩) (λn o hn=>by simpa using hn) (λ_ hx=>by cases hx) he;refine wpIn_region_any hm ?_
 obtain⟨g,β,h⟩:=h;have hu:YT ops.size (Array.replicate ops.size aV)=List.range' 0 ops.toList.length:=by
  unfold YT;rw[jl.2]
  ·simp[List.range_eq_range']
  ·intro i hi;have hi:i < ops.size:=by simpa using hi
   simp[cJ,hi]
 refine amu (bM:=bM) hΓ hE (fs:=fs) (sn:=sn) (λm1 m2 h1 h2=>g5 m1 m2 (aS _) h1 (by simpa using h2)) (λa' w' hs=>hk sn a' w' hs g3) ops.size _ s a _ (by simp) (by rw[hu];simp) (λi hi hl=> ?_) (by rw[hu];exact g2) ⟨g,β,h.drew⟩;simp[cJ,hi]at hl
end
end Go.Ab
namespace Go.Ab
theorem vO{ρ:Ren}{s:AS}(h:∀id,(s.obj id).isSome=aO->∀ver,ρ id ver=au (id,ver)):∀(v:aF),v.there s=aO->v.iL ρ=v
 | .ptr id ver p n,ht=>by simp only[aF.iL];rw[h id ht]
 | .cM id ver p c i len,ht=>by simp only[aF.iL];rw[h id ht]
 | .pr a b,ht=>by simp only[aF.there,al]at ht;simp only[aF.iL];rw[vO h a ht.1,vO h b ht.2]
 | .cons a b,ht=>by simp only[aF.there,al]at ht;simp only[aF.iL];rw[vO h a ht.1,vO h b ht.2]
 | .fn f c,ht=>by simp only[aF.iL];rw[vO h c ht]
 | .bx e z c,ht=>by simp only[aF.iL];rw[vO h c ht]
 | .dM id ver,ht=>by simp only[aF.iL];rw[h id ht]
 | .yl id ver,ht=>by simp only[aF.iL];rw[h id ht]
 | .uN k f p,ht=>by simp only[aF.iL];rw[vO h f ht]
 | .qa ..,ht=>by cases ht
 | .undef,_ | .gone,_ | .dd,_ | .jW,_ | .vB,_ | .AL,_ | .d _ _,_ | .eG _ _,_ | .nil,_ | .vec ..,_ | .mp ..,_ | .sb _,_=>rfl
theorem aBb.bz{E E':Env}(hm:rS E E')(hh:∀b:Nat,E'.w.heap[b]? =E.w.heap[b]?){i q:Id}{ver:Nat}{kt vt:Ty}{rest:List (kt.den×vt.den)}{cur:Option (kt.den×vt.den)}(h:aBb E i q ver kt vt rest cur)(hβ:E'.β i=E.β i)
  (hg:∀pl,E.β i=au pl->E.g pl.b= .own (.id i) 0->E'.g pl.b= .own (.id i) 0)
  (hq:∀vr,ver=vr+1->(E.C8 q vr->E'.C8 q vr/\(E'.cur q vr->E.cur q vr/\E'.β q=E.β q))/\(∀k v l,E.s q=au (.obj vr aO (.mp k v l))->E'.s q=au (.obj vr aO (.mp k v l)))/\
   ∀pl,E.β q=au pl->E.g pl.b= .own (.id q) 0->E'.g pl.b= .own (.id q) 0):aBb E' i q ver kt vt rest cur:=by
 obtain⟨pl,mb,since,seen,c0,h1,h2,h3,h4⟩:=h;refine⟨pl,mb,since,seen,c0,by rw[hβ,h1],by rw[hh,h2],hg pl h1 h3,λvr agw=> ?_⟩;obtain⟨h5,h6⟩:=h4 vr agw;obtain⟨q1,q2,q3⟩:=hq vr agw;obtain⟨b1,b2⟩:=q1 h5;refine⟨b1,λhc=> ?_⟩;obtain⟨c1,c2⟩:=b2 hc;obtain⟨⟨k,v,l,k0⟩,plq,es,clock,k1,k2,k3,k4,k5,k6,k7,k8,k9⟩:=h6 c1;exact⟨⟨k,v,l,q2 _ _ _ k0⟩,plq,es,clock,by rw[c2,k1],k2,by rw[hh,k3],q3 _ k1 k4,k5,k6,k7,k8.mono hm,λx hx=>
  let⟨e,se,a1,a2,a3,a4⟩:=k9 x hx
  ⟨e,se,a1,a2,a3,a4.mono hm⟩⟩
theorem aie(c:aF):(∃q ver k v l cu,c= .qa q ver k v l cu)\/(∀ρ kp,c.apF ρ kp=c.iL ρ)/\∀s v fr,dE.there s (.obj v fr c)=c.there s:=by cases c <;> first | exact .inl ⟨_,_,_,_,_,_,rfl⟩ | exact .inr ⟨λ_ _=>rfl,λ_ _ _=>rfl⟩
section
variable {P:aL} {C:Ctx} {g:Nat->lA} {β:Id->Option Pl} {s:AS} {a:Act} {w:bV}
theorem Inv.Nv(h:Inv C g β s a w)(hC:C.ok){s1:AS}{g1:Nat->lA}{β1:Id->Option Pl}(ρ:Ren)(hlen:s1.cn.length=s.cn.length)(ht:Trans w w g g1)(hle:ye ρ (s.env w g β) (s1.env w g1 β1))
  (R4:∀i,VS (s1.env w g1 β1) (s1.slot i) (a.tmps.getD i undef))
  (cI:∀id ver fr c,s1.bS id=au (.obj ver fr c)->u6 (s1.env w g1 β1) id fr c\/∃id0 v0 c0,s.bS id0=au (.obj v0 fr c0)/\c0.iL ρ=c/\β1 id=β id0/\∀pl,β id0=au pl->(∀k,g pl.b= .own (.id id0) k->g1 pl.b= .own (.id id) k)/\(g pl.b= .free->g1 pl.b= .free))
  (hold:∀k,(s.bS (.bF k)≠aH->s1.bS (.bF k)≠aH)/\(∀v fr c,s1.bS (.bF k)=au (.obj v fr c)->∃c0,s.bS (.bF k)=au (.obj v fr c0))/\β1 (.bF k)=β (.bF k)):Inv C g1 β1 s1 a w:=by
 refine⟨h.defers.mono ht,by rw[hlen];exact h.size,R4,λid ver fr c c8=> ?_,h.trans.trans ht,?_⟩
 ·rcases cI id ver fr c c8 with ho | ⟨id0,v0,c0,h1,h2,h3,h4⟩
  ·exact ho
  have:=u7 hle (h.bM id0 v0 fr c0 h1) (id':=id) h3 λpl hp=>⟨rfl,(h4 pl hp).1,(h4 pl hp).2⟩
  rw[h2]at this;exact this
 ·have hl:=h.le;have ho:∀id ver,C.E.C8 id ver->∃k,id= .bF k:=λid ver hb=>by
   cases id with
   |bF k=>exact⟨k,rfl⟩
   |new i j=>exact absurd (hC.1 i j) hb.1
  refine⟨hl.mem.trans (Trans.mem (E:=s.env w g β) (E':=s1.env w g1 β1) ht),λid ver hb=> ?_,λid ver hb hc=> ?_⟩
  ·obtain⟨k,rfl⟩:=ho id ver hb;obtain⟨h1,h2⟩:=hl.C8 _ ver hb;obtain⟨e1,e2,_⟩:=hold k;exact⟨e1 h1,λv fr c hh=>let⟨c0,Qu⟩:=e2 v fr c hh;h2 v fr c0 Qu⟩
  ·obtain⟨k,rfl⟩:=ho id ver hb;obtain⟨fr,c,hc⟩:=hc;obtain⟨_,e2,e3⟩:=hold k;obtain⟨c0,Qu⟩:=e2 _ _ _ hc;obtain⟨h1,h2⟩:=hl.cur _ ver hb ⟨fr,c0,Qu⟩;exact⟨h1,e3.trans h2⟩
theorem Inv.renamed(h:Inv C g β s a w)(hC:C.ok){s1:AS}{β1:Id->Option Pl}(ρ:Ren)(hlen:s1.cn.length=s.cn.length)(hle:ye ρ (s.env w g β) (s1.env w g β1))
  (R4:∀i,VS (s1.env w g β1) (s1.slot i) (a.tmps.getD i undef)) (cI:∀id ver fr c,s1.bS id=au (.obj ver fr c)->u6 (s1.env w g β1) id fr c\/∃v0,s.bS id=au (.obj v0 fr c)/\c.iL ρ=c/\β1 id=β id)
  (hold:∀k,s1.bS (.bF k)=s.bS (.bF k)/\β1 (.bF k)=β (.bF k)):Inv C g β1 s1 a w:=
 h.Nv hC ρ hlen (Trans.refl w g) hle R4 (λid ver fr c c8=>(cI id ver fr c c8).imp (λh=>h) λ⟨v0,h1,h2,h3⟩=>⟨id,v0,c,h1,h2,h3,λ_ _=>⟨λ_ h=>h,λh=>h⟩⟩)
  λk=>⟨λhh=>by rw[(hold k).1];exact hh,λv fr c hh=>⟨c,(hold k).1.symm.trans hh⟩,(hold k).2⟩
theorem Inv.aDX(h:Inv C g β s a w)(j:Nat){v:aF}(hv:VS (s.env w g β) v (a.tmps.getD j undef)):Inv C g β (s.put (au j) v) a w:=by
 refine⟨h.defers,by simpa[AS.put]using h.size,λi=> ?_,by simpa using h.bM,h.trans,by simpa using h.le⟩;rw[ZN,Uy];split
 ·rename_i aF2;rw[aF2.1];exact hv
 ·exact h.cn i
theorem NJ(bz:List Nat):∀(l:List aF) (n i:Nat),(eO bz n l).getD i .undef= .undef\/(eO bz n l).getD i .undef=l.getD i .undef
 |[],n,i=>by simp[eO]
 |v::l,n,0=>by
  simp only[eO,lu];split
  ·exact .inr rfl
  ·exact .inl rfl
 |v::l,n,i+1=>by simp only[eO,List.getD_cons_succ];exact NJ bz l (n+1) i
theorem AF(bz:List Nat):∀(l:List aF) (n:Nat),(eO bz n l).length=l.length
 |[],n=>rfl
 |v::l,n=>by simp[eO,AF bz l]
theorem YF(bz:List Nat):∀(l:List (List dE)) (n i:Nat),(nh bz n l).getD i []=[]\/(nh bz n l).getD i []=l.getD i []
 |[],n,i=>by simp[nh]
 |v::l,n,0=>by
  simp only[nh,lu];split
  ·exact .inr rfl
  ·exact .inl rfl
 |v::l,n,i+1=>by simp only[nh,List.getD_cons_succ];exact YF bz l (n+1) i
theorem aou{s:AS}(i:Nat):s.slot i= .undef\/s.slot i∈s.cn:=by
 unfold AS.slot;rw[aJ];cases h:s.cn[i]? with
 |none=>exact .inl rfl
 |some v=>exact .inr (cS h)
theorem axL{s:AS}{id:Id}{e:dE}(h:s.bS id=au e):e∈s.b8\/∃es∈s.news,e∈es:=by
 cases id with
 |bF k=>exact .inl (cS h)
 |new i j=>
  simp only[AS.bS,aJ]at h;cases hi:s.news[i]? with
  |none=>rw[hi]at h;simp at h
  |some es=>rw[hi]at h;exact .inr ⟨es,cS hi,cS h⟩
theorem Inv.bz(h:Inv C g β s a w)(hC:C.ok){an:oU}(ht:(Kj an s).aci=aO):Inv C g β (Kj an s) a w:=by
 obtain⟨ks,kt,_,_,_⟩:=an;obtain⟨s1,L9⟩:∃s1:AS,s1= {cn:=eO ks 0 s.cn,b8:=s.b8,news:=nh kt 0 s.news}:=⟨_,rfl⟩;have e1:s1.cn=eO ks 0 s.cn:=by rw[L9]
 have e2:s1.b8=s.b8:=by rw[L9]
 have e3:s1.news=nh kt 0 s.news:=by rw[L9]
 have ht:(s1.cn.all (aF.there s1) && s1.b8.all (dE.there s1) && s1.news.all λes=>es.all (dE.there s1))=aO:=by rw[L9];exact ht
 show Inv C g β {cn:=eO ks 0 s.cn,b8:=s.b8,news:=nh kt 0 s.news} a w;rw[<-L9];rw[al,al]at ht;obtain⟨⟨t1,t2⟩,t3⟩:=ht;have cI:∀id,s1.bS id=aH\/s1.bS id=s.bS id:=λid=>by
  cases id with
  |bF k=>right;simp only[AS.bS,e2]
  |new i j=>
   simp only[AS.bS,e3];rcases YF kt s.news 0 i with h | h
   ·rw[h];exact .inl rfl
   ·rw[h];exact .inr rfl
 have aya:∀id,(s1.obj id).isSome=aO->s1.bS id=s.bS id:=λid hi=>by
  rcases cI id with h | h
  ·simp[AS.obj,h]at hi
  ·exact h
 let ρ:Ren:=λid ver=>if(s1.obj id).isSome=aO then au (id,ver) else aH
 have hρ:∀v:aF,v.there s1=aO->v.iL ρ=v:=vO λid c8 ver=>if_pos c8
 have hle:ye ρ (s.env w g β) (s1.env w g β):=by
  refine⟨⟨λ_ _ _ h=>h,λ_ _ h h'=>⟨h,h'⟩⟩,λid ver r hr hb=> ?_⟩;by_cases hi:(s1.obj id).isSome=aO
  ·have:ρ id ver=au (id,ver):=if_pos hi;rw[this,az]at hr;subst hr;have e:=aya id hi;obtain⟨b1,b2⟩:=hb;exact⟨⟨by show s1.bS id≠aH;rw[e];exact b1,λv fr c hh=>b2 v fr c (e.symm.trans hh)⟩,λ⟨fr,c,hc⟩=>⟨⟨fr,c,e.symm.trans hc⟩,rfl⟩⟩
  ·have:ρ id ver=aH:=if_neg hi;rw[this]at hr;cases hr
 refine h.renamed hC ρ (by rw[e1,AF]) hle (λi=> ?_) (λid ver fr c c8=> ?_) λk=>⟨by simp only[AS.bS,e2],rfl⟩
 ·rcases aou (s:=s1) i with hi | hi
  ·rw[hi];exact VS.undef
  ·have aHr:=dj.1 t1 _ hi;rcases NJ ks s.cn 0 i with h1 | h1
   ·have:s1.slot i= .undef:=by simp only[AS.slot,e1,h1]
    rw[this];exact VS.undef
   ·have:s1.slot i=s.slot i:=by simp only[AS.slot,e1,h1]
    have hv:=DI hle (h.cn i);rw[<-this,hρ _ aHr]at hv;exact hv
 ·have:s1.bS id=s.bS id:=by
   rcases cI id with h | h
   ·rw[h]at c8;cases c8
   ·exact h
  have hc:dE.there s1 (.obj ver fr c)=aO:=by
   rcases axL c8 with h | ⟨es,h1,h2⟩
   ·exact dj.1 t2 _ h
   ·exact dj.1 (dj.1 t3 _ h1) _ h2
  rcases aie c with⟨q,vq,k,v,l,cu,rfl⟩ | ⟨_,aHr⟩
  ·have e:=aya q hc;refine .inl (aBb.bz hle.mem (λ_=>rfl) (h.bM id ver fr _ (this.symm.trans c8)) rfl (λ_ _ h=>h) λvr _=>⟨λhb=>hle.ref q vr (q,vr) (if_pos hc) hb,λk v l hk=>e.trans hk,λ_ _ h=>h⟩)
  ·rw[aHr]at hc;exact .inr ⟨ver,this.symm.trans c8,hρ c hc,rfl⟩
theorem Inv.drop(h:Inv C g β s a w)(ks:List Nat):Inv C g β (s.drop ks) a w:=by
 refine⟨h.defers,by simpa[AS.drop,AF]using h.size,λi=> ?_,h.bM,h.trans,h.le⟩;rcases NJ ks s.cn 0 i with h1 | h1
 ·have:(s.drop ks).slot i= .undef:=h1;rw[this];exact VS.undef
 ·have:(s.drop ks).slot i=s.slot i:=h1;rw[this];exact h.cn i
def CM(b q:Nat):lA->lA
 | .own (.id (.new x j)) k=>if x=b then .own (.id (.new q j)) k else .own (.id (.new x j)) k
 |l=>l
theorem Trans.aFt(w:bV)(g:Nat->lA)(b q:Nat):Trans w w g λx=>CM b q (g x):=by
 refine⟨rfl,rfl,⟨rfl,aC _⟩,aC _,λy _=> ?_⟩;cases hg:g y with
 |free=>exact⟨by simp[CM],rfl⟩
 |own o k=>cases o with
  |ez=>exact⟨by simp[CM],rfl⟩
  |id x=>
   refine⟨.inr ?_,λ_ _ _ h=>h⟩;cases x with
   |bF m=>exact⟨_,_,rfl,aC _⟩
   |new x j=>
    simp only[CM];split
    ·exact⟨_,_,rfl,aC _⟩
    ·exact⟨_,_,rfl,aC _⟩
theorem Ux(f:aF->aF)(hf:f .undef= .undef)(l:List aF)(i:Nat):(l.map f).getD i .undef=f (l.getD i .undef):=by simp only[aJ,ei];cases l[i]? <;> simp[hf]
theorem Inv.Fe(h:Inv C g β s a w)(hC:C.ok){b q:Nat}(aDx:b < s.news.length)(aHj:q < s.news.length):
  ∃g1 β1,Inv C g1 β1 (s.Fe b q (s.news.getD b [])) a w:=by
 generalize aI7:s.news.getD b []=es;have aEF:∀j,s.bS (.new b j)=es[j]? :=λj=>by rw[<-aI7];rfl
 let ρ:Ren:=Li es b q
 let s1:=s.Fe b q es
 have kC:∀j',s1.bS (.new q j')=(es[j']?).map (dE.ajm ρ):=λj'=>by simp[s1,AS.Fe,AS.bS,aJ,aHj,ρ]
 have as8:b≠q->∀j',s1.bS (.new b j')=aH:=λaBR j'=>by
  have hbq':¬q=b:=λe=>aBR e.symm
  simp only[s1,AS.Fe,AS.bS,aJ];rw[dY hbq',List.getElem?_set,if_pos rfl];split <;> simp
 have Gv:∀i,(∀j',i≠ .new q j')->(∀j',i≠ .new b j')->s1.bS i=(s.bS i).map (dE.Wo ρ (Gc b q)):=λi hi hi'=>by
  cases i with
  |bF k=>simp[s1,AS.Fe,AS.bS,ρ]
  |new x y=>
   have h1:¬q=x:=λe=>hi y (by rw[e])
   have h2:¬b=x:=λe=>hi' y (by rw[e])
   simp only[s1,AS.Fe,AS.bS,aJ];rw[dY h1,dY h2,ei];cases s.news[x]? <;> simp[ρ]
 let g1:Nat->lA:=λx=>CM b q (g x)
 let β1:Id->Option Pl:=λi=>match i with | .new x j=>if x=q then β (.new b j) else β (.new x j) | .bF k=>β (.bF k)
 have hβ1:∀i,(∀j',i≠ .new q j')->β1 i=β i:=λi hi=>by
  cases i with
  |bF k=>rfl
  |new x y=>exact if_neg λe=>hi y (by rw[e])
 have ht:Trans w w g g1:=Trans.aFt w g _ _;have hρ:∀i ver r,ρ i ver=au r->(∃j fr c,i= .new b j/\es[j]? =au (.obj ver fr c)/\r=(.new q j,0))\/((∀j',i≠ .new q j')/\(∀j',i≠ .new b j')/\r=(i,ver)):=λi ver r hr=>by
  replace hr:Li es b q i ver=au r:=hr
  cases i with
  |bF k=>exact .inr ⟨λ_=>by simp,λ_=>by simp,(aQ hr).symm⟩
  |new x j=>
   unfold Li at hr;simp only at hr;split at hr
   ·rename_i hx;have hx:x=b:=by simpa using hx
    subst hx;split at hr
    ·rename_i v fr c he;split at hr
     ·rename_i hv;have hv:ver=v:=by simpa using hv
      subst hv;exact .inl ⟨j,fr,c,rfl,he,(aQ hr).symm⟩
     ·cases hr
    ·cases hr
   ·rename_i hx;have hx:¬x=b:=by simpa using hx
    split at hr
    ·cases hr
    ·rename_i hx';have hx':¬x=q:=by simpa using hx'
     exact .inr ⟨λ_ e=>hx' (by injection e),λ_ e=>hx (by injection e),(aQ hr).symm⟩
 have hle:ye ρ (s.env w g β) (s1.env w g1 β1):=by
  refine⟨Trans.mem (E:=s.env w g β) (E':=s1.env w g1 β1) ht,λi ver r hr adO=> ?_⟩;rcases hρ i ver r hr with⟨j,fr,c,rfl,he,rfl⟩ | ⟨hi,hi',rfl⟩
  ·refine⟨⟨by show s1.bS (.new q j)≠aH;rw[kC,he];simp,λ_ _ _ _=>aS _⟩,λ_=>⟨⟨fr,c,(aEF j).trans he⟩,if_pos rfl⟩⟩
  ·obtain⟨k1,k2⟩:=adO;have k1:s.bS i≠aH:=k1;have e:s1.bS i=(s.bS i).map (dE.Wo ρ (Gc b q)):=Gv i hi hi';have back:∀v' fr' c',s1.bS i=au (.obj v' fr' c')->∃c0,s.bS i=au (.obj v' fr' c0):=λv' fr' c' hh=>by
    rw[e]at hh;cases hs:s.bS i with
    |none=>exact absurd hs k1
    |some en=>
     rw[hs]at hh;cases en with
     |dead=>simp[dE.Wo]at hh
     |obj v0 fr0 c0=>
      simp only[dT,dE.Wo,az,dE.obj.injEq]at hh;obtain⟨rfl,rfl,_⟩:=hh;exact⟨c0,rfl⟩
   refine⟨⟨by
    show s1.bS i≠aH;rw[e];cases hs:s.bS i with
    |none=>exact absurd hs k1
    |some en=>simp,λv' fr' c' hh=> ?_⟩,λ⟨fr',c',hh⟩=> ?_⟩
   ·obtain⟨c0,Qu⟩:=back v' fr' c' hh;exact k2 v' fr' c0 Qu
   ·obtain⟨c0,Qu⟩:=back ver fr' c' hh;exact⟨⟨fr',c0,Qu⟩,hβ1 i hi⟩
 have aFZ:∀(i:Id),(∀j',i≠ .new b j')->∀(x:Nat) (k:Nat),g x= .own (.id i) k->g1 x= .own (.id i) k:=λi hi x k hk=>by
  show CM b q (g x)=_;rw[hk];cases i with
  |bF m=>rfl
  |new y j=>exact if_neg λe=>hi j (by rw[e])
 refine⟨g1,β1,h.Nv hC ρ (by simp[AS.Fe]) ht hle (λi=> ?_) (λid ver fr' c' c8=> ?_) λk=>⟨λhk=> ?_,λv' fr' c' hh=> ?_,rfl⟩⟩
 ·have:(s.Fe b q es).slot i=(s.slot i).iL ρ:=Ux _ rfl _ _;rw[this];exact DI hle (h.cn i)
 ·have c8:s1.bS id=au (.obj ver fr' c'):=c8;by_cases hi:∃j',id= .new q j'
  ·obtain⟨j',rfl⟩:=hi;rw[kC]at c8;cases he:es[j']? with
   |none=>rw[he]at c8;cases c8
   |some en=>
    rw[he]at c8;cases en with
    |dead=>simp[dE.ajm]at c8
    |obj v0 fr0 c0=>
     simp only[dT,dE.ajm,az,dE.obj.injEq]at c8;obtain⟨_,rfl,rfl⟩:=c8;exact .inr ⟨.new b j',v0,c0,(aEF j').trans he,rfl,if_pos rfl,λpl hp=>⟨λk hk=>by
      show CM b q (g pl.b)=_;rw[hk];exact if_pos rfl,λhk=>by
      show CM b q (g pl.b)=_;rw[hk];rfl⟩⟩
  ·by_cases hi':∃j',id= .new b j'
   ·obtain⟨j',rfl⟩:=hi';have aBR:b≠q:=λe=>hi ⟨j',by rw[e]⟩
    rw[as8 aBR]at c8;cases c8
   ·have ax9:∀j',id≠ .new q j':=λj' e=>hi ⟨j',e⟩
    have hni':∀j',id≠ .new b j':=λj' e=>hi' ⟨j',e⟩
    have e:=Gv id ax9 hni';rw[e]at c8;cases hs:s.bS id with
    |none=>rw[hs]at c8;cases c8
    |some en=>
     rw[hs]at c8;cases en with
     |dead=>simp[dE.Wo]at c8
     |obj v0 fr0 c0=>
      simp only[dT,dE.Wo,az,dE.obj.injEq]at c8;obtain⟨rfl,rfl,rfl⟩:=c8;rcases aie c0 with⟨q2,vq,k,v2,l,cu,rfl⟩ | ⟨aCf,_⟩
      ·have h0:=h.bM id v0 fr0 _ hs;left;simp only[aF.apF];cases aF3:Gc b q q2 with
       |true=>
        have ak4:(∀j',q2≠ .new b j')/\(∀j',q2≠ .new q j')/\∀vr,ρ q2 vr=au (q2,vr):=by
         cases q2 with
         |bF k=>exact⟨λ_=>by simp,λ_=>by simp,λ_=>rfl⟩
         |new x y=>
          simp only[Gc,al,bP,gN]at aF3;obtain⟨k1,k2⟩:=aF3;refine⟨λ_ e=>k1 (by injection e),λ_ e=>k2 (by injection e),λvr=> ?_⟩;show Li es b q (.new x y) vr=_;unfold Li;simp only[eY k1,eY k2]
        obtain⟨ak4,Vk,hρq⟩:=ak4;refine aBb.bz hle.mem (λ_=>rfl) h0 (hβ1 id ax9) (λpl _ hk=>aFZ id hni' _ _ hk) λvr _=>⟨λhb=>hle.ref q2 vr (q2,vr) (hρq vr) hb,λk v l hk=> ?_,λpl _ hk=>aFZ q2 ak4 _ _ hk⟩
        have hk:s.bS q2=au (.obj vr aO (.mp k v l)):=hk;show s1.bS q2=_;rw[Gv q2 Vk ak4,hk];rfl
       |false=>
        obtain⟨pl,mb,since,seen,c0,h1,h2,h3,h4⟩:=h0;exact⟨pl,mb,since,seen,c0,(hβ1 id ax9).trans h1,h2,aFZ id hni' _ _ h3,λvr agw=>aq⟩
      rw[aCf];exact .inr ⟨id,v0,c0,hs,rfl,hβ1 id ax9,λpl hp=>⟨λk hk=>aFZ id hni' _ _ hk,λhk=>by
       show CM b q (g pl.b)=_;rw[hk];rfl⟩⟩
 ·have e:=Gv (.bF k) (λ_=>by simp) (λ_=>by simp);show s1.bS (.bF k)≠aH;rw[e];cases hs:s.bS (.bF k) with
  |none=>exact absurd hs hk
  |some en=>simp
 ·have e:=Gv (.bF k) (λ_=>by simp) (λ_=>by simp);have hh:s1.bS (.bF k)=au (.obj v' fr' c'):=hh;rw[e]at hh;cases hs:s.bS (.bF k) with
  |none=>rw[hs]at hh;cases hh
  |some en=>
   rw[hs]at hh;cases en with
   |dead=>simp[dE.Wo]at hh
   |obj v0 fr0 c0=>
    simp only[dT,dE.Wo,az,dE.obj.injEq]at hh;obtain⟨rfl,rfl,_⟩:=hh;exact⟨c0,rfl⟩
theorem Vc{k t:Ty}{l:List (k.den×t.den)}:∀ {p:List Gs} {x c':aF},¬(wF (.mp k t l) p x).eval=au c'
 |[],x,c',h=>by simp only[wF,av]at h
 | .arr::p,x,c',h=>by simp only[wF]at h;exact Vc h
 | .idx i::p,x,c',h=>by simp only[wF,av]at h
 | .fst::p,x,c',h=>by simp only[wF,av]at h
 | .snd::p,x,c',h=>by simp only[wF,av]at h
theorem abX{q:Id}{vq:Nat}{k t:Ty}{l:List (k.den×t.den)}{cu:Option (k.den×t.den)}:∀ {p:List Gs} {x c':aF},¬(wF (.qa q vq k t l cu) p x).eval=au c'
 |[],x,c',h=>by simp only[wF,av]at h
 | .arr::p,x,c',h=>by simp only[wF]at h;exact abX h
 | .idx i::p,x,c',h=>by simp only[wF,av]at h
 | .fst::p,x,c',h=>by simp only[wF,av]at h
 | .snd::p,x,c',h=>by simp only[wF,av]at h
theorem abY{k:tm}{f:aF}{m:Nat}:∀ {p:List Gs} {x c':aF},¬(wF (.uN k f m) p x).eval=au c'
 |[],x,c',h=>by simp only[wF,av]at h
 | .arr::p,x,c',h=>by simp only[wF]at h;exact abY h
 | .idx i::p,x,c',h=>by simp only[wF,av]at h
 | .fst::p,x,c',h=>by simp only[wF,av]at h
 | .snd::p,x,c',h=>by simp only[wF,av]at h
theorem PG{l:List Value}{n:Nat}{vs:List Value}(h:(l.drop n).take vs.length=vs):dx l n vs=l:=by
 unfold dx;have h2:l.drop n=vs++l.drop (n+vs.length):=by
  conv=>lhs;rw[<-da vs.length (l.drop n)]
  rw[h,fU]
 have h3:=da n l;rw[h2]at h3;simpa[aK]using h3
theorem Inv.aFn(h:Inv C g β s a w){j:Nat}{p:List Gs}(L7:(s.at j p).eval=au .dd){q:Nat}(hq:s.dW q=aO){e:TypeId}{t:Ty}(hz:0 < t.size){s':AS}
  (he:((s.born q [.obj 0 aV (.vec e t [])]).putAt j (.cM (.new q 0) 0 [] 0 0 0) p).eval=au s'):gW C s' a w:=by
 obtain⟨β',h1,h2,h3⟩:=h.auc hq (e:=e) hz;cases p with
 |nil=>
  simp only[AS.at]at L7;have hj:=ay.1 L7;simp only[AS.putAt]at he;obtain rfl:=ay.1 he;refine⟨g,β',h1.aDX j ?_⟩;have:=h.cn j;rw[hj]at this;rw[kH this];exact h3
 |cons st p=>
  simp only[AS.at]at L7;simp only[AS.putAt]at he;have R4:(s.born q [.obj 0 aV (.vec e t [])]).slot j=s.slot j:=rfl;rw[R4]at he;split at L7
  ·rename_i id ver p0 nn hj;split at L7
   ·rename_i v fr c j6;obtain⟨hv,L7⟩:=aI.1 L7;obtain⟨⟨n,u⟩,hl,L7⟩:=aw.1 L7;have hu:=ay.1 L7;simp only at hu;subst hu;have cI:=dO j6;have gV:id≠ .new q 0:=λe=>by rw[e,(jX hq).1 0]at cI;cases cI
    have hne':∀j',id≠ .new q j':=λj' e=>by rw[e,(jX hq).1 j']at cI;cases cI
    have sx:(s.born q [.obj 0 aV (.vec e t [])]).bS id=au (.obj v fr c):=(jc _ hne').trans cI;have aCb:(s.born q [.obj 0 aV (.vec e t [])]).obj id=au (v,fr,c):=by simp only[AS.obj,sx]
    simp only[hj,aCb]at he;split at he
    ·simp only[av]at he
    ·rename_i c1 aGM;obtain⟨c',P8,he⟩:=aw.1 he;obtain rfl:=ay.1 he;have hn:c.ix=aV:=by cases c <;> first | rfl | (exact(aGM _ _ _ rfl).elim) | (exact absurd P8 Vc) | (exact absurd P8 abX) | (exact absurd P8 abY)
     have hO:=h1.bM id v fr c sx;obtain⟨pl,cur,e0,hp,hh,hg,hk,hV⟩:=hO.box hn;have ht:=Trans.refl w g;have hN:=Qo hk;have hle:=cP.aY (s:=s.born q [.obj 0 aV (.vec e t [])]) (β:=β') (v':=v) (fr':=fr) (c':=c.wrap c') sx (aC _) ht (λ_ _=>rfl) (λ_=>rfl);refine⟨g,β',h1.step (dh _ _ _) ht hle (iR.aY h1.bM (by rw[sx];simp) hle (λ_ _=>rfl) (λ_ _ _ _ _ _ _ _=>⟨rfl,rfl⟩) ?_ (pg sx λk v1 l e=>by subst e;exact absurd P8 Vc))⟩;obtain⟨cs,k1,k2⟩:=h3;have k2:cs=[.slice aH 0 0]:=k2;subst k2;obtain⟨u1,u2,u3⟩:=pI (p0++st::p) c.strip (cur.toList.take (c.vc cur.size)) n .dd _ c' [.slice aH 0 0] (VO.of hV) hl k1 P8;have u4:=u2.to (u3.sE hV.sE);have Bt:((cur.toList.take (c.vc cur.size)).drop n).take 1=[.slice aH 0 0]:=by
      rcases ri (p0++st::p) c.strip (cur.toList.take (c.vc cur.size)) n .dd (VO.of hV) hl with⟨aB9,Qu⟩ | ⟨q1,q2⟩
      ·rw[<-Qu]at hV;simp only[V]at hV;rw[hV,aB9];rfl
      ·simpa only[V,aF.size]using q1
     rw[PG (vs:=[.slice aH 0 0]) Bt]at u4;have re:c'.size=c.strip.size:=by have e1:=u4.size;have e2:=hV.size;omega
     exact Mb.obj ⟨pl,cur,e0,hp,hh,hg,HA hk u4.yR re,by rw[IQ c u4.yR,Mq u4.yR re];exact V.mono hle u4⟩
   ·simp only[av]at L7
  ·simp only[av]at L7
theorem GS:∀(ids:List Id) {s:AS} {i:Id} {v:Nat} {fr:Bool} {c:aF},s.bS i=au (.obj v fr c)->∃fr',(s.bt ids).bS i=au (.obj v fr' c)
 |[],s,i,v,fr,c,h=>⟨fr,h⟩
 |id::ids,s,i,v,fr,c,h=>by obtain⟨fr',h'⟩:=RK (id:=id) h;exact GS ids h'
theorem Inv.aEb(h:Inv C g β s a w){j:Nat}{p:List Gs}{u:aF}(L7:(s.at j p).eval=au u){t:Ty}{x:t.den}(ht:(s.iN t u).eval=au x){s':AS}
  (he:((s.bt u.shared).putAt j (.d t x) p).eval=au s'):gW C s' a w:=by
 cases p with
 |nil=>
  simp only[AS.at]at L7;have hj:=ay.1 L7;simp only[AS.putAt]at he;obtain rfl:=ay.1 he;have hs:=h.cn j;rw[hj]at hs;obtain⟨g',i1,_,_,cs,hR,hO⟩:=ze h hs ht;exact⟨g',β,i1.aDX j (VS.of (a:= .d t x) (cs:=cs) (by simpa only[V]using hR) hO)⟩
 |cons st p=>
  simp only[AS.at]at L7;simp only[AS.putAt]at he;have R4:(s.bt u.shared).slot j=s.slot j:=by simp only[AS.slot,mW]
  rw[R4]at he;split at L7
  ·rename_i id ver p0 nn hj;split at L7
   ·rename_i v fr c j6;obtain⟨hv,L7⟩:=aI.1 L7;obtain⟨⟨n,u'⟩,hl,L7⟩:=aw.1 L7;have hu:=ay.1 L7;simp only at hu;subst hu;have cI:=dO j6;obtain⟨g',h1,h2,h3,h4⟩:=eZ u'.shared h;obtain⟨fr',sx⟩:=GS u'.shared cI;have aCb:(s.bt u'.shared).obj id=au (v,fr',c):=by simp only[AS.obj,sx]
    simp only[hj,aCb]at he;split at he
    ·simp only[av]at he
    ·rename_i c1 aGM;obtain⟨c',P8,he⟩:=aw.1 he;obtain rfl:=ay.1 he;have hn:c.ix=aV:=by cases c <;> first | rfl | (exact(aGM _ _ _ rfl).elim) | (exact absurd P8 Vc) | (exact absurd P8 abX) | (exact absurd P8 abY)
     obtain⟨pl0,cur0,e00,aCc,aB0,aBZ,aAz,hV0⟩:=(h.bM id v fr c cI).box hn;obtain⟨pl,cur,e0,hp,hh,hg,hk,hV⟩:=(h1.bM id v fr' c sx).box hn;have P6:pl0=pl:=by have aCc:β id=au pl0:=aCc;have hp:β id=au pl:=hp;rw[aCc]at hp;exact aQ hp
     subst P6;have fE:cur0=cur:=by
      have aB0:w.heap[pl0.b]? =_:=aB0
      have hh:w.heap[pl0.b]? =_:=hh
      rw[aB0]at hh;simpa using(bK (λo=>match o with | some (.cells x _ _)=>x | _=>cur0) hh)
     subst fE;obtain⟨cs,hVu,Bt⟩:∃cs,V (s.env w g β) u' cs/\((cur0.toList.take (c.vc cur0.size)).drop n).take cs.length=cs:=by
      rcases ri (p0++st::p) c.strip (cur0.toList.take (c.vc cur0.size)) n u' (VO.of hV0) hl with⟨aB9,Qu⟩ | ⟨q1,q2⟩
      ·refine⟨cur0.toList.take (c.vc cur0.size),by rw[Qu];exact hV0,?_⟩;rw[aB9,aN,bU]
      ·refine⟨_,q1,?_⟩;rw[bZ,cv];congr 1;omega
     have hR:=sO rfl h.bM h2 u' t x cs hVu ht h4;have hVx:V ((s.bt u'.shared).env w g' β) (.d t x) cs:=by simpa only[V]using hR
     have ht':=Trans.refl w g';have hle:=cP.aY (s:=s.bt u'.shared) (β:=β) (v':=v) (fr':=fr') (c':=c.wrap c') sx (aC _) ht' (λ_ _=>rfl) (λ_=>rfl);refine⟨g',β,h1.step (dh _ _ _) ht' hle (iR.aY h1.bM (by rw[sx];simp) hle (λ_ _=>rfl) (λ_ _ _ _ _ _ _ _=>⟨rfl,rfl⟩) ?_ (pg sx λk v1 l e=>by subst e;exact absurd P8 Vc))⟩;obtain⟨u1,u2,u3⟩:=pI (p0++st::p) c.strip (cur0.toList.take (c.vc cur0.size)) n u' _ c' cs (VO.of hV) hl hVx P8;have u4:=u2.to (u3.sE hV.sE);rw[PG (vs:=cs) Bt]at u4;have re:c'.size=c.strip.size:=by have e1:=u4.size;have e2:=hV.size;omega
     exact Mb.obj ⟨pl0,cur0,e0,hp,hh,hg,HA hk u4.yR re,by rw[IQ c u4.yR,Mq u4.yR re];exact V.mono hle u4⟩
   ·simp only[av]at L7
  ·simp only[av]at L7
theorem H0{E:Env}:∀(t:Ty) (x:t.den) (u:aF),(HZ t x).eval=au u->∀cs,cG E t cs x->V E u cs
 | .fX t,x,u,h,cs,hr=>by simp only[HZ]at h;obtain⟨h1,h2⟩:=bQ.1 h;obtain rfl:=ay.1 h2;simp only[cG]at hr;simp only[V];exact hr.1 (Option.isNone_iff_eq_none.1 h1)
 | .pair a b,x,u,h,cs,hr=>by simp only[HZ]at h;obtain⟨u1,h1,h2⟩:=aw.1 h;obtain⟨u2,h3,h4⟩:=aw.1 h2;obtain rfl:=ay.1 h4;simp only[cG]at hr;obtain⟨ca,cb,rfl,ha,hb⟩:=hr;exact agI (H0 a x.1 u1 h1 ca ha) (H0 b x.2 u2 h3 cb hb)
 | .int k,x,u,h,cs,hr=>by simp only[HZ]at h;obtain rfl:=ay.1 h;simpa only[V]using hr
 | .bool,x,u,h,cs,hr=>by simp only[HZ]at h;obtain rfl:=ay.1 h;simpa only[V]using hr
 | .str,x,u,h,cs,hr=>by simp only[HZ]at h;obtain rfl:=ay.1 h;simpa only[V]using hr
 | .slice t,x,u,h,cs,hr=>by simp only[HZ]at h;obtain rfl:=ay.1 h;simpa only[V]using hr
 | .unit,x,u,h,cs,hr=>by simp only[HZ]at h;obtain rfl:=ay.1 h;simpa only[V]using hr
 | .arr n t,x,u,h,cs,hr=>by simp only[HZ]at h;obtain rfl:=ay.1 h;simpa only[V]using hr
 | .nL t,x,u,h,cs,hr=>by simp only[HZ]at h;obtain rfl:=ay.1 h;simpa only[V]using hr
 | .gR t,x,u,h,cs,hr=>by simp only[HZ]at h;obtain rfl:=ay.1 h;simpa only[V]using hr
theorem amJ{e:TypeId}{z:Nat}{c:aF}{pl:Pl}{n:Nat}(hz:0 < z)(h1:n=pl.cap*z)(h2:pl.cap<=maxLen)(h3:c.size<=n):(aF.bx e z c).DQ pl n e:=by
 cases z with
 |zero=>omega
 |succ z=>exact⟨rfl,h1,h2,h3⟩
theorem acG{e:TypeId}{z:Nat}{c:aF}{n:Nat}(hz:0 < z):(aF.bx e z c).vc n=c.size:=by
 cases z with
 |zero=>omega
 |succ z=>rfl
theorem aaM{e e':TypeId}{z:Nat}{c:aF}{pl:Pl}{n:Nat}(hz:0 < z)(h:(aF.bx e z c).DQ pl n e'):e'=e/\n=pl.cap*z/\pl.cap<=maxLen/\c.size<=n:=by
 cases z with
 |zero=>omega
 |succ z=>exact h
theorem afl{E:Env}{id:Id}{ver n:Nat}{p p':List Gs}{y:Value}(h:VS E (.ptr id ver p n) y):VS E (.ptr id ver p' n) y:=by obtain⟨cs,h1,h2⟩:=h;exact⟨cs,by simpa only[V]using h1,h2⟩
theorem Inv.aEf(h:Inv C g β s a w){j:Nat}{id:Id}{ver n k v:Nat}{p p':List Gs}(hj:s.slot j= .ptr id ver p n){e:TypeId}{t:Ty}{r:List t.den}(j6:s.obj id=au (v,aV,.vec e t r))
  (hk:k < r.length) {u:aF} (hu:(HZ t (nth t r k)).eval=au u):
  gW C ((s.aY id (.obj v aV (.bx e t.size (.pr (.d (.arr k t) (r.take k)) (.pr u (.d (.arr (r.drop (k+1)).length t) (r.drop (k+1)))))))).put (au j) (.ptr id ver p' n)) a w:=by
 have cI:=dO j6;obtain⟨hz,hO⟩:u6 (s.env w g β) id aV (.vec e t r):=h.bM id v aV _ cI;have hO:(match β id with
  |none=>r=[]
  |some pl=>∃cur k,w.heap[pl.b]? =au (.cells cur e (0,0))/\cur.size=pl.cap*t.size/\r.length<=pl.cap/\pl.cap<=maxLen/\g pl.b= .own (.id id) k/\
    k<=r.length*t.size/\(aV=aV->k=0)/\bq (cG (s.env w g β) t) (cur.toList.take (r.length*t.size)) r):=hO
 have ht:=Trans.refl w g
 have hle:cP (s.env w g β) ((s.aY id (.obj v aV (.bx e t.size (.pr (.d (.arr k t) (r.take k)) (.pr u (.d (.arr (r.drop (k+1)).length t) (r.drop (k+1)))))))).env w g β):=
  cP.aY cI (aC _) ht (λ_ _=>rfl) (λ_=>rfl)
 have hI:=h.step (dh _ _ _) ht hle (iR.aY h.bM (by rw[cI];simp) hle (λ_ _=>rfl) (λ_ _ _ _ _ _ _ _=>⟨rfl,rfl⟩) (ab3:=Ko cI) (by
  cases hp:β id with
  |none=>rw[hp]at hO;simp only at hO;subst hO;simp at hk
  |some pl=>
   rw[hp]at hO;obtain⟨cur,k0,q1,q2,q3,q4,q5,q6,q7,q8⟩:=hO;have aAz:=q7 rfl;subst aAz;have agz:∀c x,cG (s.env w g β) t c x->c.length=t.size:=λc x hx=>hx.size
   have c1:=bq.take agz k q8;have c2:=(q8.get agz k hk);have c3:=bq.drop agz (k+1) q8;have ab4:V (s.env w g β) u (((cur.toList.take (r.length*t.size)).drop (k*t.size)).take t.size):=H0 t _ u (by rw[Tk hk]at hu;exact hu) _ c2;have aJH:=ab4.size;have hlen:(cur.toList.take (r.length*t.size)).length=r.length*t.size:=bq.length agz q8;have re:r.length*t.size<=cur.size:=by rw[q2];exact cT _ q3
   have aKg:(k+1)*t.size<=r.length*t.size:=cT _ hk;have ak4:(k+1)*t.size=k*t.size+t.size:=Nat.succ_mul k t.size;have aCj:u.size=t.size:=by rw[<-aJH,bZ,cv,hlen];omega
   have hm:(r.drop (k+1)).length*t.size=r.length*t.size - (k+1)*t.size:=by rw[cv,Nat.sub_mul]
   have anS:(aF.pr (.d (.arr k t) (r.take k)) (.pr u (.d (.arr (r.drop (k+1)).length t) (r.drop (k+1))))).size=r.length*t.size:=by simp only[aF.size,Ty.size,aCj,hm];omega
   refine Mb.obj ⟨pl,cur,e,hp,q1,q5,amJ hz q2 q4 (by rw[anS];exact re),?_⟩;rw[acG hz,anS];refine V.mono hle ?_
   show V _ (.pr (.d (.arr k t) (r.take k)) (.pr u (.d (.arr (r.drop (k+1)).length t) (r.drop (k+1))))) _;simp only[V];generalize cur.toList.take (r.length*t.size)=R at*;refine⟨R.take (k*t.size),R.drop (k*t.size),(da _ _).symm,?_,(R.drop (k*t.size)).take t.size,R.drop ((k+1)*t.size),?_,ab4,?_⟩
   ·simp only[cG];exact⟨by rw[bZ];omega,c1⟩
   ·rw[ak4,<-fU,da]
   ·simp only[cG];exact⟨trivial,c3⟩))
 refine⟨g,β,hI.aDX j ?_⟩;have:=h.cn j;rw[hj]at this;exact afl (VS.mono hle this)
theorem MJ:∀(l:List Nat) {s s1:AS},gW C s a w->(anE s l).eval=au s1->gW C s1 a w
 |[],s,s1,h,he=>by simp only[anE]at he;obtain rfl:=ay.1 he;exact h
 |j::l,s,s1,h,he=>by
  obtain⟨g,β,h⟩:=h;simp only[anE]at he;split at he
  ·rename_i id ver k p n hj;split at he
   ·rename_i v e t r j6;obtain⟨h1,he⟩:=aI.1 he;obtain⟨h2,he⟩:=bQ.1 he;obtain⟨u,h3,he⟩:=aw.1 he;exact MJ l (h.aEf hj j6 (of_decide_eq_true h2) h3) he
   ·simp only[av]at he
  ·exact MJ l ⟨g,β,h⟩ he
  ·simp only[av]at he
theorem MG{s:AS}{id i:Id}(h:i≠id):(s.freeze id).bS i=s.bS i:=by
 unfold AS.freeze;split
 ·exact cX s id i _ h
 ·rfl
theorem pO:∀(ids:List Id) {s:AS} {i:Id},i ∉ ids->(s.bt ids).bS i=s.bS i
 |[],_,_,_=>rfl
 |id::ids,s,i,h=>by
  have h1:i≠id:=λe=>h (by rw[e];exact aG)
  exact(pO ids λhi=>h (aD _ hi)).trans (MG h1)
theorem bq.mem{α:Type}{R:List Value->α->Prop}:∀ {cs:List Value} {l:List α},bq R cs l->∀x∈l,∃c,R c x
 |_,[],_,x,hx=>by cases hx
 |_,_::_,⟨c,cs',_,hc,hr⟩,x,hx=>by
  rcases bA.1 hx with rfl | hx
  ·exact⟨c,hc⟩
  ·exact bq.mem hr x hx
theorem cG.Qe{E:Env}:∀ {t:Ty} {cs:List Value} {x:t.den},cG E t cs x->∀n∈je t x,E.g n= .free
 | .int _,_,_,_,n,hn=>by simp[je]at hn
 | .bool,_,_,_,n,hn=>by simp[je]at hn
 | .str,_,_,_,n,hn=>by simp[je]at hn
 | .unit,_,_,_,n,hn=>by simp[je]at hn
 | .slice t,_,x,h,n,hn=>by simp only[cG]at h;obtain⟨_,_,_,_,_,_,_,hc⟩:=h;obtain⟨y,hy,hn⟩:=iP.1 (show n∈(x:List t.den).flatMap (je t) from hn);obtain⟨c,hc⟩:=hc.mem y hy;exact cG.Qe hc n hn
 | .arr _ t,_,x,h,n,hn=>by simp only[cG]at h;obtain⟨y,hy,hn⟩:=iP.1 (show n∈(x:List t.den).flatMap (je t) from hn);obtain⟨c,hc⟩:=h.2.mem y hy;exact cG.Qe hc n hn
 | .pair a b,_,x,h,n,hn=>by
  simp only[cG]at h;obtain⟨_,_,_,ha,hb⟩:=h;rcases bp.1 (show n∈je a x.1++je b x.2 from hn) with hn | hn
  ·exact cG.Qe ha n hn
  ·exact cG.Qe hb n hn
 | .fX t,_,x,h,n,hn=>by
  simp only[cG]at h;obtain⟨y,hy,hn⟩:=iP.1 (show n∈((x:Option (List t.den)).getD []).flatMap (je t) from hn);cases hx:(x:Option (List t.den)) with
  |none=>rw[hx]at hy;cases hy
  |some l=>
   rw[hx]at hy;obtain⟨_,_,_,_,_,_,_,hc⟩:=h.2 l hx;obtain⟨c,hc⟩:=hc.mem y hy;exact cG.Qe hc n hn
 | .nL t,_,x,h,n,hn=>by
  simp only[cG]at h;cases hx:(x:Option t.den) with
  |none=>rw[hx]at hn;simp[je]at hn
  |some y=>
   rw[hx]at hn;obtain⟨_,_,_,_,_,hc⟩:=h.2 y hx;exact cG.Qe hc n (by simpa only[je]using hn)
 | .gR t,_,x,h,n,hn=>by
  simp only[cG]at h;cases hx:(x:Option (Nat×t.den)) with
  |none=>rw[hx]at hn;simp[je]at hn
  |some y=>
   rw[hx]at hn;obtain⟨_,_,_,_,hf,_,hc⟩:=h.2 y hx;rcases bA.1 (show n∈y.1::je t y.2 by simpa only[je]using hn) with rfl | hn
   ·exact hf.1
   ·exact cG.Qe hc n hn
theorem Inv.Nd(h:Inv C g β s a w){v:aF}{y:Value}(hv:VS (s.env w g β) v y):∀n∈s.Nd v,g n= .free:=by
 intro n hn;unfold AS.Nd at hn;split at hn
 ·rename_i t x;obtain⟨cs,hV,_⟩:=hv.eJ rfl;simp only[V]at hV;exact cG.Qe hV n hn
 ·rename_i id _ _ _ _ _;split at hn
  ·rename_i ve fr e t l j6;have hO:=h.bM id ve fr _ (dO j6);obtain⟨_,hO⟩:=(hO:aBf (s.env w g β) id fr e t l);split at hO
   ·subst hO;simp at hn
   ·obtain⟨_,_,_,_,_,_,_,_,_,hc⟩:=hO;obtain⟨y,hy,hn⟩:=iP.1 hn;obtain⟨c,hc⟩:=hc.mem y hy;exact cG.Qe hc n hn
  ·cases hn
 ·cases hn
theorem aeO{x:aD6}{R:Type}{r:R}{k:AS->Option R}(h:gW C s a w)(he:auj s x k=au r):∃s',gW C s' a w/\k s'=au r:=by
 obtain⟨g,β,h⟩:=h;unfold auj at he;split at he <;> try (cases he;done)
 rename_i id ver hj;split at he <;> try (cases he;done)
 rename_i v c j6;obtain⟨y,h1,DE⟩:=gT.1 he;obtain⟨y',h2,h3⟩:=aw.1 h1;obtain⟨h4,h5⟩:=aI.1 h3;obtain rfl:=ay.1 h5;simp only[al,dw,bP]at h4;obtain⟨⟨rfl,aGL⟩,ahY⟩:=h4;have ayi:c.ix=aV:=by cases c <;> first | rfl | (simp[aF.aD9]at aGL)
 have ahY:id ∉ c.strip.shared:=by simpa using ahY
 obtain⟨_,wc⟩:=MF DE;have cI:=dO j6;obtain⟨pl,cur,e,hp,hh,anV,iS,hV⟩:=(h.bM id v aV c cI).box ayi;have hp:β id=au pl:=hp;have hh:w.heap[pl.b]? =au (.cells cur e (0,0)):=hh
 have anV:g pl.b= .own (.id id) 0:=anV;obtain⟨g1,i1,e1,t1,f1⟩:=eZ c.strip.shared h;have hR1:=sO rfl h.bM e1 c.strip x.t y' _ hV h2 f1;have sx:(s.bt c.strip.shared).bS id=au (.obj v aV c):=(pO _ ahY).trans cI;obtain⟨g2,i2,e2,t2,f2⟩:=JX i1 id;have aEE:((s.bt c.strip.shared).freeze id).bS id=au (.obj v aO c):=by unfold AS.freeze;rw[sx];exact eu _ id _ (by rw[sx];simp)
 obtain⟨pl2,cur2,e2',P5,aF0,ak5,_,_⟩:=(i2.bM id v aO c aEE).box ayi;have P5:β id=au pl2:=P5;rw[hp]at P5;obtain rfl:=aQ P5;have ak5:g2 pl.b= .free:=ak5;have hfresh:pl.b ∉ s.Nd (s.slot x.r):=λhn=>by have:=h.Nd (h.cn x.r) _ hn;rw[anV]at this;cases this
 refine⟨_,⟨g2,β,i2.aDX x.j ?_⟩,wc pl.b hfresh⟩;have hs:=h.cn x.j;rw[hj]at hs;obtain⟨ad,hy,_,hc⟩:=sG hs;obtain⟨pl',hp',ahS⟩:=hc ⟨aV,c,cI⟩;have hp':β id=au pl':=hp';rw[hp]at hp';obtain rfl:=aQ hp';rw[hy,ahS];refine⟨[.pointer (au ⟨pl.b,0,aH⟩)],?_,rfl⟩;simp only[V,cG];refine⟨λhn=>by simp at hn,λz hz=> ?_⟩;have hz:(pl.b,y')=z:=aQ hz;subst hz;refine⟨cur,e,cur.toList.take (c.vc cur.size),rfl,⟨ak5,hh⟩,λi u hu=>⟨pl.b,0,rfl,?_,?_⟩,cG.mono e2.mem hR1⟩
 ·rw[cU]at hu;split at hu
  ·show w.cell? ⟨pl.b,0+i,aH⟩=au u;rw[aU];simp[eI,hh];simpa using hu
  ·cases hu
 ·show rH g2 pl.b _;unfold rH;rw[ak5];trivial
theorem Pb:∀(l:List aD6) {s:AS} {R:Type} {r:R} {k:AS->Option R},gW C s a w->auk l s k=au r->∃s',gW C s' a w/\k s'=au r
 |[],s,_,_,_,h,he=>⟨s,h,he⟩
 |x::l,s,_,_,_,h,he=>by obtain⟨s',h',he'⟩:=aeO h he;exact Pb l h' he'
theorem Inv.aFD(h:Inv C g β s a w){j:Nat}{id:Id}{ver n k m v z:Nat}{p p':List Gs}(hj:s.slot j= .ptr id ver p n){e:TypeId}{t:Ty}{l1 l2:List t.den}{u:aF}
  (j6:s.obj id=au (v,aV,.bx e z (.pr (.d (.arr k t) l1) (.pr u (.d (.arr m t) l2))))) (hz:z=t.size) (aCo:0 < z) (c8:id ∉ u.shared) {x:t.den} (hx:(s.iN t u).eval=au x):
  gW C (((s.bt u.shared).aY id (.obj v aV (.vec e t (l1++x::l2)))).put (au j) (.ptr id ver p' n)) a w:=by
 have cI:=dO j6;obtain⟨pl0,cur0,e0,aCc,aB0,aBZ,aAz,hV0⟩:=(h.bM id v aV _ cI).box rfl;obtain⟨g',h1,h2,h3,h4⟩:=eZ u.shared h;have sx:(s.bt u.shared).bS id=au (.obj v aV (.bx e z (.pr (.d (.arr k t) l1) (.pr u (.d (.arr m t) l2))))):=(pO _ c8).trans cI;obtain⟨pl,cur,e1,hp,hh,hg,hk,hV⟩:=(h1.bM id v aV _ sx).box rfl;have hp:β id=au pl:=hp;have P6:pl0=pl:=by have aCc:β id=au pl0:=aCc;rw[aCc]at hp;exact aQ hp
 subst P6;have fE:cur0=cur:=by
  have aB0:w.heap[pl0.b]? =_:=aB0
  have hh:w.heap[pl0.b]? =_:=hh
  rw[aB0]at hh;simpa using(bK (λo=>match o with | some (.cells x _ _)=>x | _=>cur0) hh)
 subst fE;obtain⟨rfl,q2,q4,q3⟩:=aaM aCo hk;rw[acG aCo]at hV0;have hV0:V (s.env w g β) (.pr (.d (.arr k t) l1) (.pr u (.d (.arr m t) l2))) _:=hV0;have aJC:=hV0.size;simp only[V]at hV0;obtain⟨ca,cb,hR,hA,cu,cc,aBS,hU,hB⟩:=hV0;subst aBS;simp only[cG]at hA hB;have hX:=sO rfl h.bM h2 u t x cu hU hx h4;have agz:∀c x,cG ((s.bt u.shared).env w g' β) t c x->c.length=t.size:=λc x hx=>hx.size
 have cA:=hA.2.mono λ_ _ hx=>hx.mono h2.mem
 have cB:=hB.2.mono λ_ _ hx=>hx.mono h2.mem
 have uq:bq (cG ((s.bt u.shared).env w g' β) t) (ca++(cu++cc)) (l1++x::l2):=bq.append cA ⟨cu,cc,rfl,hX,cB⟩;have hlen:=bq.length agz uq;have anS:(aF.pr (.d (.arr k t) l1) (.pr u (.d (.arr m t) l2))).size=(l1++x::l2).length*t.size:=by rw[<-hlen,<-hR];exact aJC.symm
 rw[anS]at hR q3;rw[hz]at q2;have ahX:(l1++x::l2).length<=pl0.cap:=by rw[q2]at q3;exact Nat.le_of_mul_le_mul_right q3 aq
 have ht:=Trans.refl w g';have hle:cP ((s.bt u.shared).env w g' β) (((s.bt u.shared).aY id (.obj v aV (.vec e1 t (l1++x::l2)))).env w g' β):=cP.aY sx (aC _) ht (λ_ _=>rfl) (λ_=>rfl);have hI:=h1.step (dh _ _ _) ht hle (iR.aY h1.bM (by rw[sx];simp) hle (λ_ _=>rfl) (λ_ _ _ _ _ _ _ _=>⟨rfl,rfl⟩) (ab3:=pg sx λ_ _ _ e=>by cases e) (by
  refine⟨aq,?_⟩;show(match β id with
   |none=>l1++x::l2=[]
   |some pl=>_)
  rw[hp];exact⟨cur0,0,hh,q2,ahX,q4,hg,aS _,λ_=>rfl,by rw[hR];exact uq.mono λ_ _ hx=>hx.mono hle.mem⟩))
 refine⟨g',β,hI.aDX j ?_⟩;have:=h.cn j;rw[hj]at this;exact afl (VS.mono (h2.trans hle) this)
theorem YS:∀(l:List Nat) {s s1:AS},gW C s a w->(awC s l).eval=au s1->gW C s1 a w
 |[],s,s1,h,he=>by simp only[awC]at he;obtain rfl:=ay.1 he;exact h
 |j::l,s,s1,h,he=>by
  obtain⟨g,β,h⟩:=h;simp only[awC]at he;split at he
  ·rename_i id ver p n hj;split at he
   ·rename_i v e z k t l1 u m t' l2 j6;obtain⟨h1,he⟩:=aI.1 he;obtain⟨l2',h2,he⟩:=aw.1 he;obtain⟨x,h3,he⟩:=aw.1 he;simp only[al,dw,bP,gz]at h1;obtain⟨⟨⟨h5,h6⟩,h7⟩,h8⟩:=h1;obtain⟨et,hl⟩:=jb (jd.1 h2);have et':t'=t:=by simpa using et
    subst et';simp only at hl;subst hl;refine YS l (h.aFD hj j6 h6 aq (λhi=> ?_) h3) he;have:(u.shared.any λi=>decide (i=id))=aO:=jL.2 ⟨id,hi,by simp⟩;rw[this]at h8;cases h8
   ·simp only[av]at he
  ·simp only[av]at he
theorem yy:∀(l:List aFM) {s s1:AS},gW C s a w->(OA s l).eval=au s1->gW C s1 a w
 |[],s,s1,h,he=>by simp only[OA]at he;obtain rfl:=ay.1 he;exact h
 |o::l,s,s1,h,he=>by
  obtain⟨g,β,h⟩:=h;unfold OA at he;split at he
  ·exact yy l ⟨g,β,h⟩ he
  obtain⟨u,hu,he⟩:=aw.1 he;obtain⟨x,hx,he⟩:=aw.1 he;obtain⟨s',hs,he⟩:=aw.1 he;exact yy l (h.aEb hu hx hs) he
theorem kW(hC:C.ok):∀(l:List aq4) {s s1:AS},gW C s a w->(uM P s l).eval=au s1->gW C s1 a w
 |[],s,s1,h,he=>by simp only[uM]at he;obtain rfl:=ay.1 he;exact h
 |o::l,s,s1,h,he=>by
  obtain⟨g,β,h⟩:=h;unfold uM at he;split at he
  ·exact kW hC l ⟨g,β,h⟩ he
  obtain⟨u,hu,he⟩:=aw.1 he;split at he
  ·split at he
   ·rename_i e t b Gu hv;obtain⟨s',h1,h2⟩:=aw.1 he;exact kW hC l (h.aFn hu hv (VH Gu) h1) h2
   ·simp only[av]at he
  ·split at he
   ·rename_i b j ver aIq;split at he
    ·rename_i v fr c j6 hm;split at he
     ·have aDx:b < s.news.length:=by
       have:=dO j6;simp only[AS.bS,aJ]at this;cases hn:s.news[b]? with
       |none=>rw[hn]at this;simp at this
       |some es=>exact(dF.1 hn).1
      obtain⟨g1,β1,h1⟩:=h.Fe hC aDx (by simpa using hm);exact kW hC l ⟨g1,β1,h1⟩ he
     ·simp only[av]at he
    ·simp only[av]at he
   ·simp only[av]at he
theorem I1:∀(l:List Nat) {s s1:AS},gW C s a w->(YR s l).eval=au s1->gW C s1 a w
 |[],s,s1,h,he=>by simp only[YR]at he;obtain rfl:=ay.1 he;exact h
 |j::l,s,s1,h,he=>by
  obtain⟨g,β,h⟩:=h;simp only[YR]at he;split at he
  ·rename_i id ver len hj;split at he
   ·rename_i v e t r j6;split at he
    ·obtain⟨h1,h2⟩:=bQ.1 he;have h1:len<=r.length:=by simpa using h1
     refine I1 l ?_ h2
     have cI:=dO j6;have hO:u6 (s.env w g β) id aV (.vec e t r):=h.bM id v aV _ cI;have ht:=Trans.refl w g;have hle:cP (s.env w g β) ((s.aY id (.obj v aV (.vec e t (r.take len)))).env w g β):=cP.aY cI (aC _) ht (λ_ _=>rfl) (λ_=>rfl);refine⟨g,β,h.step (dh _ _ _) ht hle (iR.aY h.bM (by rw[cI];simp) hle (λ_ _=>rfl) (λ_ _ _ _ _ _ _ _=>⟨rfl,rfl⟩) ?_ (Ko cI))⟩;obtain⟨hz,hO⟩:=hO;refine⟨hz,?_⟩;have hO:(match β id with
      |none=>r=[]
      |some pl=>∃cur k,w.heap[pl.b]? =au (.cells cur e (0,0))/\cur.size=pl.cap*t.size/\r.length<=pl.cap/\pl.cap<=maxLen/\g pl.b= .own (.id id) k/\
        k<=r.length*t.size/\(aV=aV->k=0)/\bq (cG (s.env w g β) t) (cur.toList.take (r.length*t.size)) r):=hO
     show(match β id with
      |none=>r.take len=[]
      |some pl=>_)
     cases hp:β id with
     |none=>rw[hp]at hO;simp only at hO;subst hO;simp
     |some pl=>
      rw[hp]at hO;obtain⟨cur,k,q1,q2,q3,q4,q5,q6,q7,q8⟩:=hO;have hk:=q7 rfl;subst hk;have hlen:(r.take len).length=len:=by simp;omega
      refine⟨cur,0,q1,q2,aq,q4,q5,aS _,λ_=>rfl,?_⟩;have:=bq.take (λ_ _ hx=>cG.size hx) len q8;rw[jU,fF (cT _ h1)]at this;rw[hlen];exact this.mono λ_ _ hx=>hx.mono hle.mem
    ·simp only[av]at he
   ·simp only[av]at he
  ·simp only[av]at he
theorem Jf:∀(l:List (Nat×Ty)) {s s1:AS},gW C s a w->(asData s l).eval=au s1->gW C s1 a w
 |[],s,s1,h,he=>by simp only[asData]at he;obtain rfl:=ay.1 he;exact h
 | (j,t)::l,s,s1,h,he=>by obtain⟨g,β,h⟩:=h;simp only[asData]at he;obtain⟨x,h1,h2⟩:=aw.1 he;obtain⟨g',i1,_,_,cs,hR,hO⟩:=ze h (h.cn j) h1;exact Jf l ⟨g',β,i1.aDX j (VS.of (a:= .d t x) (cs:=cs) (by simpa only[V]using hR) hO)⟩ h2
theorem Inv.still:∀(l:List Nat) {s:AS},Inv C g β s a w->Inv C g β (s.still l) a w
 |[],s,h=>h
 |q::l,s,h=>by
  simp only[AS.still];split
  ·rename_i v fr i ver k t r cu j6;exact Inv.still l (h.aAJ (dO j6) (.inr ⟨rfl,rfl,rfl⟩))
  ·exact Inv.still l h
theorem vi{α:Type}(l:List α):(fK l).Perm l:=Quotient.exact (s:=Yh α) (pM (Quotient.mk (Yh α) l)).choose_spec
theorem am0{α:Type}{l l':List α}(h:l.Perm l'):fK l=fK l':=by
 have e:Quotient.mk (Yh α) l=Quotient.mk (Yh α) l':=Quotient.sound h;unfold fK;have:∀q q':Quotient (Yh α),q=q'->(pM q).choose=(pM q').choose:=λq q' h=>by subst h;rfl
 exact this _ _ e
theorem Inv.canon:∀(l:List Id) {s:AS},Inv C g β s a w->Inv C g β (s.canon l) a w
 |[],s,h=>h
 |id::l,s,h=>by
  simp only[AS.canon];split
  ·rename_i v fr k t r j6;have cI:=dO j6;have ht:=Trans.refl w g;have hle:cP (s.env w g β) ((s.aY id (.obj v fr (.mp k t (fK r)))).env w g β):=cP.aY cI (aC _) ht (λ_ _=>rfl) (λ_=>rfl);obtain⟨pl,es,clock,h1,h2,h3,⟨⟨l',h4,h5⟩,h6⟩,h7⟩:=h.bM id v fr _ cI
   refine Inv.canon l (h.step (dh _ _ _) ht hle (iR.aY h.bM (by rw[cI];simp) hle (λ_ _=>rfl) (λ_ _ _ _ _ _ _ _=>⟨rfl,rfl⟩)
    ⟨pl,es,clock,h1,h2,h3,⟨⟨l',h4.mono λ_ _ he=>he.mono hle.mem,h5.trans (vi r).symm⟩,(((vi r).map _).nodup_iff).2 h6⟩,h7⟩ ?_))
   intro ver k' v' l2 hl;rw[cI]at hl;simp only[az,dE.obj.injEq]at hl;obtain⟨rfl,rfl,_⟩:=hl;exact⟨rfl,rfl,⟨_,_,_,rfl⟩,λ_ _=>⟨rfl,rfl⟩⟩
  ·exact Inv.canon l h
theorem Ob(k v n:Nat)(i:Id)(ver:Nat):(i= .bF k/\ver=v/\s9 k v n i ver=au (.bF k,n))\/(i= .bF k/\s9 k v n i ver=aH)\/(i≠ .bF k/\s9 k v n i ver=au (i,ver)):=by
 cases i with
 |new x j=>exact .inr (.inr ⟨by simp,rfl⟩)
 |bF j=>
  simp only[s9];cases h1:ia j k with
  |false=>exact .inr (.inr ⟨λe=>by injection e with e;subst e;simp at h1,rfl⟩)
  |true=>
   obtain rfl:=eW h1;cases h2:ia ver v with
   |false=>exact .inr (.inl ⟨rfl,rfl⟩)
   |true=>exact .inl ⟨rfl,eW h2,rfl⟩
theorem acN(hC:C.ok){s s1:AS}(h:Inv C g β s a w){k n:Nat}(he:(s.arF k n).eval=au s1):Inv C g β s1 a w:=by
 unfold AS.arF at he;split at he;rotate_left
 ·exact(av.1 he).elim
 rename_i v fr c hk;obtain⟨aIE,he⟩:=aI.1 he;have aIE:v<=n\/1<=n:=(Bool.or_eq_true_iff.1 aIE).imp gE gE;have hz:∀ver,C.E.C8 (.bF k) ver->ver=0:=λver hb=>by
  obtain⟨h1,h2⟩:=hb;cases hs:C.E.s (.bF k) with
  |none=>exact absurd hs h1
  |some en=>
   cases en with
   |dead=>
    have:=(h.le.C8 (.bF k) (v+1) ⟨h1,λv' fr' c' hh=>by rw[hs]at hh;cases hh⟩).2 _ _ _ hk;omega
   |obj v0 fr0 c0=>
    have:=hC.2 _ _ _ _ hs;have:=h2 _ _ _ hs;omega
 obtain rfl:=ay.1 he;have aEN:k < s.b8.length:=by
  rcases oV k s.b8.length with h | h
  ·exact h
  ·simp[AS.bS,dG h]at hk
 generalize L9:({cn:=s.cn.map (aF.iL (s9 k v n)),b8:=(s.b8.map (dE.ajn (s9 k v n) (Et k))).set k (.obj n fr (c.iL (s9 k v n))),news:=s.news.map λes=>es.map (dE.ajn (s9 k v n) (Et k))}:AS)=s1;have e0:s1.bS (.bF k)=au (.obj n fr (c.iL (s9 k v n))):=by rw[<-L9];simp[AS.bS,aEN]
 have e1:∀i,i≠ .bF k->s1.bS i=(s.bS i).map (dE.ajn (s9 k v n) (Et k)):=λi hi=>by
  rw[<-L9];cases i with
  |bF j=>
   have:¬k=j:=λe=>hi (by rw[e])
   simp only[AS.bS];rw[dY this,ei]
  |new x j=>
   simp only[AS.bS,aJ,ei];cases s.news[x]? <;> simp
 have e2:∀i v' fr' c',i≠ .bF k->s1.bS i=au (.obj v' fr' c')->∃c0,s.bS i=au (.obj v' fr' c0)/\c'=c0.apF (s9 k v n) (Et k):=λi v' fr' c' hi hh=>by
  rw[e1 i hi]at hh;cases hs:s.bS i with
  |none=>rw[hs]at hh;cases hh
  |some en=>
   rw[hs]at hh;cases en with
   |dead=>simp[dE.ajn]at hh
   |obj v0 fr0 c0=>
    simp only[dT,dE.ajn,az,dE.obj.injEq]at hh;obtain⟨rfl,rfl,rfl⟩:=hh;exact⟨c0,rfl,rfl⟩
 have e3:∀i,i≠ .bF k->s.bS i≠aH->s1.bS i≠aH:=λi hi hh=>by
  rw[e1 i hi];cases hs:s.bS i with
  |none=>exact absurd hs hh
  |some en=>simp
 have hle:ye (s9 k v n) (s.env w g β) (s1.env w g β):=by
  refine⟨Trans.mem (E:=s.env w g β) (E':=s1.env w g β) (Trans.refl w g),λi ver r hr adO=> ?_⟩;rcases Ob k v n i ver with⟨rfl,rfl,e⟩ | ⟨rfl,e⟩ | ⟨hi,e⟩
  ·rw[e]at hr;obtain rfl:=aQ hr;refine⟨⟨by show s1.bS (.bF k)≠aH;rw[e0];simp,λv' fr' c' hh=> ?_⟩,λ_=>⟨⟨fr,c,hk⟩,rfl⟩⟩;have hh:s1.bS (.bF k)=au (.obj v' fr' c'):=hh;rw[e0]at hh;simp only[az,dE.obj.injEq]at hh;exact Nat.le_of_eq hh.1
  ·rw[e]at hr;cases hr
  ·rw[e]at hr;obtain rfl:=aQ hr;obtain⟨k1,k2⟩:=adO;have k1:s.bS i≠aH:=k1;have k2:∀v' fr' c',s.bS i=au (.obj v' fr' c')->ver<=v':=k2;refine⟨⟨e3 i hi k1,λv' fr' c' hh=> ?_⟩,λ⟨fr',c',hh⟩=> ?_⟩
   ·obtain⟨c0,Qu,_⟩:=e2 i v' fr' c' hi hh;exact k2 _ _ _ Qu
   ·obtain⟨c0,Qu,_⟩:=e2 i ver fr' c' hi hh;exact⟨⟨fr',c0,Qu⟩,rfl⟩
 refine⟨h.defers,by rw[<-L9];simpa using h.size,λi=> ?_,λid ver fr' c' c8=> ?_,h.trans,?_⟩
 ·have:s1.slot i=(s.slot i).iL (s9 k v n):=by rw[<-L9];exact Ux _ rfl _ _
  rw[this];exact DI hle (h.cn i)
 ·have c8:s1.bS id=au (.obj ver fr' c'):=c8;by_cases hi:id= .bF k
  ·subst hi;rw[e0]at c8;simp only[az,dE.obj.injEq]at c8;obtain⟨rfl,rfl,rfl⟩:=c8;exact u7 hle (h.bM (.bF k) v fr c hk) (id':= .bF k) rfl λpl _=>⟨rfl,λ_ h=>h,λh=>h⟩
  ·obtain⟨c0,Qu,rfl⟩:=e2 id ver fr' c' hi c8;have h0:=h.bM id ver fr' c0 Qu;rcases aie c0 with⟨q2,vq,kt,vt,l,cu,rfl⟩ | ⟨aCf,_⟩
   ·simp only[aF.apF];cases aF3:Et k q2 with
    |true=>
     have gV:q2≠ .bF k:=λe=>by subst e;simp[Et]at aF3
     have hρq:∀vr,s9 k v n q2 vr=au (q2,vr):=λvr=>by
      rcases Ob k v n q2 vr with⟨e,_⟩ | ⟨e,_⟩ | ⟨_,e⟩
      ·exact absurd e gV
      ·exact absurd e gV
      ·exact e
     refine aBb.bz hle.mem (λ_=>rfl) h0 rfl (λ_ _ h=>h) λvr _=>⟨λhb=>hle.ref q2 vr (q2,vr) (hρq vr) hb,λkt vt l Vk=> ?_,λ_ _ h=>h⟩
     have Vk:s.bS q2=au (.obj vr aO (.mp kt vt l)):=Vk;show s1.bS q2=_;rw[e1 q2 gV,Vk];rfl
    |false=>
     obtain⟨pl,mb,since,seen,c0,h1,h2,h3,h4⟩:=h0;exact⟨pl,mb,since,seen,c0,h1,h2,h3,λvr agw=>aq⟩
   ·rw[aCf];exact u7 hle h0 (id':=id) rfl λpl _=>⟨rfl,λ_ h=>h,λh=>h⟩
 ·have hl:=h.le;refine⟨hl.mem.trans (Trans.mem (E:=s.env w g β) (E':=s1.env w g β) (Trans.refl w g)),λid ver hb=> ?_,λid ver hb hc=> ?_⟩
  ·obtain⟨h1,h2⟩:=hl.C8 _ ver hb;have h1:s.bS id≠aH:=h1;have h2:∀v' fr' c',s.bS id=au (.obj v' fr' c')->ver<=v':=h2;by_cases hi:id= .bF k
   ·subst hi;obtain rfl:=hz ver hb;exact⟨by show s1.bS (.bF k)≠aH;rw[e0];simp,λv' fr' c' hh=>aS _⟩
   ·exact⟨e3 id hi h1,λv' fr' c' hh=>let⟨c0,Qu,_⟩:=e2 id v' fr' c' hi hh;h2 _ _ _ Qu⟩
  ·obtain⟨fr',c',hc⟩:=hc;have hc:s1.bS id=au (.obj ver fr' c'):=hc;by_cases hi:id= .bF k
   ·subst hi;obtain rfl:=hz ver hb;rw[e0]at hc;simp only[az,dE.obj.injEq]at hc;have e4:=hc.1;obtain rfl:v=0:=aq;exact hl.cur _ _ hb ⟨fr,c,hk⟩
   ·obtain⟨c0,Qu,_⟩:=e2 id ver fr' c' hi hc;exact hl.cur _ _ hb ⟨fr',c0,Qu⟩
theorem BX(hC:C.ok):∀(l:List (Nat×Nat)) {s s1:AS},Inv C g β s a w->(acO s l).eval=au s1->Inv C g β s1 a w
 |[],s,s1,h,he=>by obtain rfl:=ay.1 he;exact h
 |x::l,s,s1,h,he=>by obtain⟨s2,h1,h2⟩:=aw.1 he;exact BX hC l (acN hC h h1) h2
def Qa(ids:List Id)(q:Nat):lA->lA
 | .own (.id (.new x y)) k=>match idxOf (.new x y) ids with | some m=> .own (.id (.new q m)) k | none=> .free
 |l=>l
def aCQ(β:Id->Option Pl)(ids:List Id)(q:Nat):Id->Option Pl
 | .bF k=>β (.bF k)
 | .new x y=>if x=q then(ids[y]?).bind β else aH
theorem Trans.Qa(w:bV)(g:Nat->lA)(ids:List Id)(q:Nat):Trans w w g λx=>Qa ids q (g x):=by
 refine⟨rfl,rfl,⟨rfl,aC _⟩,aC _,λy _=> ?_⟩;cases hg:g y with
 |free=>exact⟨by simp[Ab.Qa],rfl⟩
 |own o k=>cases o with
  |ez=>exact⟨by simp[Ab.Qa],rfl⟩
  |id x=>
   refine⟨?_,λ_ _ _ h=>h⟩;cases x with
   |bF m=>exact .inr ⟨_,_,rfl,aC _⟩
   |new x j=>
    simp only[Ab.Qa];split
    ·exact .inr ⟨_,_,rfl,aC _⟩
    ·exact .inl rfl
theorem Inv.ZZ(h:Inv C g β s a w)(hC:C.ok){ids:List Id}{q:Nat}(hn:ids.Nodup)(Bw:∀id∈ids,∃i j,id= .new i j)(aHj:q < s.news.length):
  ∃g1 β1,Inv C g1 β1 (s.El ids q) a w:=by
 let ρ:Ren:=anM s ids q
 obtain⟨s1,L9⟩:∃s1,s1=s.El ids q:=⟨_,rfl⟩;have hold:∀k,s1.bS (.bF k)=(s.bS (.bF k)).map (dE.avw ρ):=λk=>by
  rw[L9];show(s.b8.map (dE.avw ρ))[k]? =_
  rw[ei];rfl
 have kC:∀j,s1.bS (.new q j)=(ids[j]?).map λid=>((s.bS id).getD .dead).ajm ρ:=λj=>by rw[L9];simp[AS.El,AS.bS,aJ,aHj,ρ]
 have Gv:∀x j,x≠q->s1.bS (.new x j)=aH:=λx j hx=>by
  have hx':¬q=x:=λe=>hx e.symm
  rw[L9];simp only[AS.El,AS.bS,aJ];rw[dY hx',ei];cases s.news[x]? <;> simp
 let g1:Nat->lA:=λx=>Qa ids q (g x)
 let β1:=aCQ β ids q
 have ht:Trans w w g g1:=Trans.Qa w g ids q;have hβ:∀j,β1 (.new q j)=(ids[j]?).bind β:=λj=>if_pos rfl
 have hρ:∀i ver r,ρ i ver=au r->(∃k,i= .bF k/\r=(i,ver))\/∃j fr c,ids[j]? =au i/\s.bS i=au (.obj ver fr c)/\r=(.new q j,0):=λi ver r hr=>by
  replace hr:anM s ids q i ver=au r:=hr
  cases i with
  |bF k=>exact .inl ⟨k,rfl,(aQ hr).symm⟩
  |new x y=>
   unfold anM at hr;simp only at hr;split at hr
   ·rename_i j v fr c hj ho;split at hr
    ·rename_i hv;have hv:ver=v:=by simpa using hv
     subst hv;exact .inr ⟨j,fr,c,oh hj,dO ho,(aQ hr).symm⟩
    ·cases hr
   ·cases hr
 have hrenA:∀e v fr c,dE.avw ρ e= .obj v fr c->∃c0,e= .obj v fr c0/\c0.iL ρ=c:=λe v fr c he=>by
  cases e with
  |dead=>cases he
  |obj v0 fr0 c0=>
   simp only[dE.avw,dE.obj.injEq]at he;obtain⟨rfl,rfl,rfl⟩:=he;exact⟨c0,rfl,rfl⟩
 have hle:ye ρ (s.env w g β) (s1.env w g1 β1):=by
  refine⟨Trans.mem (E:=s.env w g β) (E':=s1.env w g1 β1) ht,λi ver r hr adO=> ?_⟩;rcases hρ i ver r hr with⟨k,rfl,rfl⟩ | ⟨j,fr,c,hj,he,rfl⟩
  ·obtain⟨k1,k2⟩:=adO;have k1:s.bS (.bF k)≠aH:=k1;refine⟨⟨?_,λv' fr' c' hh=> ?_⟩,λ⟨fr',c',hh⟩=>⟨?_,rfl⟩⟩
   ·show s1.bS (.bF k)≠aH;rw[hold];cases hs:s.bS (.bF k) with
    |none=>exact absurd hs k1
    |some en=>simp
   ·have hh:s1.bS (.bF k)=au (.obj v' fr' c'):=hh;rw[hold,dq]at hh;obtain⟨e,he,hh⟩:=hh;obtain⟨c0,rfl,_⟩:=hrenA _ _ _ _ hh;exact k2 v' fr' c0 he
   ·have hh:s1.bS (.bF k)=au (.obj ver fr' c'):=hh;rw[hold,dq]at hh;obtain⟨e,he,hh⟩:=hh;obtain⟨c0,rfl,_⟩:=hrenA _ _ _ _ hh;exact⟨fr',c0,he⟩
  ·refine⟨⟨by show s1.bS (.new q j)≠aH;rw[kC,hj];simp,λ_ _ _ _=>aS _⟩,λ_=>⟨⟨fr,c,he⟩,?_⟩⟩;show β1 (.new q j)=β i;rw[hβ,hj];rfl
 have e1:s1.cn=s.cn.map (aF.iL ρ):=by rw[L9];rfl
 rw[<-L9];refine⟨g1,β1,h.Nv hC ρ (by rw[e1];simp) ht hle (λi=> ?_) (λid ver fr c c8=> .inr ?_) λk=>⟨λhk=> ?_,λv' fr' c' hh=> ?_,rfl⟩⟩
 ·have:s1.slot i=(s.slot i).iL ρ:=by unfold AS.slot;rw[e1];exact Ux _ rfl _ _
  rw[this];exact DI hle (h.cn i)
 ·cases id with
  |bF k=>
   rw[hold,dq]at c8;obtain⟨e,he,c8⟩:=c8;obtain⟨c0,rfl,hc⟩:=hrenA _ _ _ _ c8;exact⟨.bF k,ver,c0,he,hc,rfl,λpl _=>⟨λn hg=>by show Qa ids q (g pl.b)=_;rw[hg];rfl,λhg=>by show Qa ids q (g pl.b)=_;rw[hg];rfl⟩⟩
  |new x y=>
   by_cases hx:x=q
   ·subst hx;rw[kC,dq]at c8;obtain⟨i,hi,c8⟩:=c8;obtain⟨i0,j0,rfl⟩:=Bw i (cS hi);cases hs:s.bS (.new i0 j0) with
    |none=>rw[hs]at c8;cases c8
    |some e=>
     rw[hs]at c8;cases e with
     |dead=>cases c8
     |obj v0 fr0 c0=>
      simp only[dQ,dE.ajm,dE.obj.injEq]at c8;obtain⟨_,rfl,hc⟩:=c8;refine⟨.new i0 j0,v0,c0,hs,hc,by rw[hβ,hi];rfl,λpl _=>⟨λn hg=> ?_,λhg=>by show Qa ids _ (g pl.b)=_;rw[hg];rfl⟩⟩;show Qa ids _ (g pl.b)=_;rw[hg];simp only[Qa,vn hn hi]
   ·rw[Gv x y hx]at c8;cases c8
 ·show s1.bS (.bF k)≠aH;rw[hold];cases hs:s.bS (.bF k) with
  |none=>exact absurd hs hk
  |some en=>simp
 ·have hh:s1.bS (.bF k)=au (.obj v' fr' c'):=hh;rw[hold,dq]at hh;obtain⟨e,he,hh⟩:=hh;obtain⟨c0,rfl,_⟩:=hrenA _ _ _ _ hh;exact⟨c0,he⟩
theorem Z0(hC:C.ok){s s1:AS}{o:Option Nat}(h:gW C s a w)(he:(s.ZZ o).eval=au s1):gW C s1 a w:=by
 cases o with
 |none=>
  obtain rfl:=ay.1 he;exact h
 |some q=>
  obtain⟨h1,h2⟩:=aI.1 he;obtain rfl:=ay.1 h2;obtain⟨g,β,h⟩:=h;obtain⟨g1,β1,h3⟩:=h.ZZ hC (ids:=s.aEg) ((ru s _ _ _ (by simp)).filter _) (λid c8=>by
   have:=(eo.1 c8).2;cases id with
   |bF k=>cases this
   |new i j=>exact⟨i,j,rfl⟩) (gE h1)
  exact⟨g1,β1,h3⟩
theorem ou(hC:C.ok){an:oU}{s1:AS}(h:gW C s a w)(he:(norm P an s).eval=au s1):gW C s1 a w:=by unfold norm at he;obtain⟨sb,aIT,he⟩:=aw.1 he;obtain⟨su,aIU,he⟩:=aw.1 he;obtain⟨sd,aGE,he⟩:=aw.1 he;obtain⟨s0,h1,h2⟩:=aw.1 he;obtain⟨h3,h4⟩:=aI.1 h2;obtain⟨sf,h5,h6⟩:=aw.1 h4;obtain⟨sg,h6,h7⟩:=aw.1 h6;obtain⟨g0,β0,h0⟩:=h;obtain⟨g1,i1,_⟩:=eZ an.agt (BX hC _ h0 aIT);obtain⟨g,β,h⟩:=Jf _ (yy _ (YS _ ⟨g1,β0,(i1.still an.aDR).canon an.aBs⟩ aIU) aGE) h1;exact Z0 hC (kW hC _ (MJ _ ⟨g,β,h.bz hC h3⟩ h5) h6) h7
end
end Go.Ab
end
