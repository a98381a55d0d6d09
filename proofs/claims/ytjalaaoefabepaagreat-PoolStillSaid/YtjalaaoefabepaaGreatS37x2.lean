/-
  Made short by a program of mine (wip/tools/mini.py).
-/
import Derived.Test.YtjalaaoefabepaaGreatS37x1
import Derived.Lib.Builder
import Derived.Lib.UnsafeStr
import Derived.Lib.AppendZeros
import Derived.Maps.RangeRun
set_option linter.unusedVariables false
set_option linter.unusedSimpArgs false
set_option maxRecDepth 100000
set_option synthInstance.maxSize 5000
open Go renaming IntKind->kY,Operand->bB,MapEntry->fq
open List renaming replicate->ae
open Nat renaming blt->lM
open Go.World renaming cell?->eL
open Go.Sem renaming run_bind->dM
open Go.Addr renaming add_lit->eI
open Go.Result renaming andThen_ok->cU
open Go.Op renaming equalIn->dg,operands->bU
open Go.Region renaming wanted->dW
open Go.Call renaming operands->dU
open Option renaming some->aj,none->aF
open Bool renaming true->aL,false->aS
noncomputable section
namespace Go.Ab
section
variable {P:Program} {C:Ctx} {g:Nat->iU} {β:Id->Option Pl} {s:AS} {a:Act} {w:World} {o:Oper}
theorem E9{b:Builtin}{args:Array bB}{ts:Array TypeId}{f:Sem Value}{x:Value}{w':World}(ho:o.op= .call {callee:= .builtin b,args,argTypes:=ts})
  (hb:∀ty cs xs,xs=args.map a.eval->builtin b ts ty cs xs=(do pure (.value (<-f)))) (hf:f.run P w= .ok x w'):(execOp a.eval o).run P w= .ok (.value x) w':=by
 simp_all [execOp,resolve,invoke]
theorem aG2(h:Inv C g β s a w){c:Call}{x:bB}{T:TypeId}(ho:o.op= .call c)(hc:c.callee= .builtin .len)(ha:c.args.toList=[x])(ht:c.argTypes.toList=[T]){v:aA}(he:(aMy P T (s.ev x)).eval=aj v):
  fp P o a w (gh C (s.put o.dst v)):=by
 obtain⟨cal,args,tys⟩:=c;simp only at hc ha ht;have ha':args= #[x]:=by apply uz;simpa using ha
 have ht':tys= #[T]:=by apply uz;simpa using ht
 subst hc ha' ht';have hx:=h.ev x;have fin:∀z,(Builtin.len_ #[T] 0 #[a.eval x]).run P w= .ok z w->VS (s.env w g β) v z->fp P o a w (gh C (s.put o.dst v)):=by intro z h1 h2;refine h.value h2 (E9 ho (f:=Builtin.len_ #[T] 0 #[a.eval x]) (λty cs xs aGE=> ?_) h1);subst aGE;have e1:Builtin.len_ #[T] 0 #[a.eval x]=Builtin.len_ #[T] ty #[a.eval x]:=rfl;rw[e1];simp[builtin]
 unfold aMy at he;split at he
 ·rename_i st hT hl;rw[hl]at hx;obtain rfl:=aw.1 he;refine fin (.int .i64 (st.size:Int)) ?_ (kH _ _)
  rw[L0 hx];simp[Builtin.len_,run_underlying hT,goInt]
 ·rename_i e t l hT hl;rw[hl]at hx;obtain rfl:=aw.1 he;obtain⟨ad,cap,vs,hy,_⟩:=xd hx;refine fin (.int .i64 (l.length:Int)) ?_ (kH _ _)
  rw[hy];simp[Builtin.len_,run_underlying hT,goInt]
 ·rename_i e hT hl;rw[hl]at hx;obtain rfl:=aw.1 he;refine fin (.int .i64 0) ?_ (kH _ _)
  rw[lZ hx];simp[Builtin.len_,run_underlying hT,goInt]
 ·rename_i e id ver p c i len hT hl;rw[hl]at hx;obtain rfl:=aw.1 he;obtain⟨ad,cap,hy,_⟩:=uu hx;refine fin (.int .i64 (len:Int)) ?_ (kH _ _)
  rw[hy];simp[Builtin.len_,run_underlying hT,goInt]
 ·rename_i e z n hT hl;rw[hl]at hx;obtain rfl:=aw.1 he;obtain⟨cap,⟨ad,hy⟩,_⟩:=aOX hx;refine fin (.int .i64 ((n:Nat):Int)) ?_ (kH _ _)
  rw[hy];simp[Builtin.len_,run_underlying hT,goInt]
 ·rename_i n e hT;obtain rfl:=aw.1 he;refine fin (.int .i64 (n:Int)) ?_ (kH _ _)
  simp[Builtin.len_,run_underlying hT,goInt]
 ·simp only[av]at he
def iU.open:iU->iU
 | .fresh=> .fresh
 | .gD=> .gD
 |_=> .free
def Env.open(E:Env):Env:= {E with g:=λb=>(E.g b).open}
theorem alr{g:Nat->iU}{b:Nat}(h1:g b≠ .fresh)(h2:g b≠ .gD)(j:Nat):ku (λb=>(g b).open) b j:=by
 unfold ku;cases hg:g b with
 |fresh=>exact(h1 hg).elim
 |gD=>exact(h2 hg).elim
 |_=>simp only[hg,iU.open]
theorem als(E:Env):cM E E.open:=
 ⟨⟨⟨λb off _ h=>⟨h.1,alr (λe=>by have:=h.2;unfold ku at this;rw[e]at this;exact this) (λe=>by have:=h.2;unfold ku at this;rw[e]at this;exact this) off⟩,
  λb _ hg h=>⟨by simp only[Env.open,hg,iU.open],h⟩,λb cur e hg h=>⟨by simp only[Env.open,hg,iU.open],cur,h,rfl⟩⟩,λb _ hg h=>⟨by simp only[Env.open,hg,iU.open],h⟩⟩,λ_ _ h=>h,λ_ _ _ h=>⟨h,rfl⟩⟩
theorem ap5{E:Env}{id:Id}{fr:Bool}{c:aA}(h:xo E id fr c){pl:Pl}(hp:E.β id=aj pl)(j:Nat):ku E.open.g pl.b j:=by
 rcases(h.label (pl:=pl) hp).2 with⟨k,hk⟩ | ⟨_,hk⟩
 ·exact alr (by rw[hk];simp) (by rw[hk];simp) j
 ·exact alr (by rw[hk];simp) (by rw[hk];simp) j
theorem auW(h:Inv C g β s a w){v:aA}{y:Value}(hv:VS (s.env w g β) v y){t:Ty}{x:t.den}(ht:(s.KG t v).eval=aj x):
  ∃cs,cn (s.env w g β).open t cs x/\fW t.agg cs y:=by
 obtain⟨cs,hV,hO⟩:=hv.eg (EY ht);exact⟨cs,xh rfl h.bu (als _) v t x cs hV ht (λid _ v fr c hs pl hp j x hx _=>⟨hx,ap5 (h.bu id v fr c hs) hp j⟩),by rw[<-ae9 ht];exact hO⟩
theorem zC{E:Env}{k:kY}:∀ {vs:List Value} {l:List Int},bo (cn E (.int k)) vs l->vs=l.map (Value.int k)
 |vs,[],h=>h
 |_,x::xs,⟨c,cs',e,hx,hr⟩=>by
  have hx':c=[Value.int k x]:=by grind [cn]
  rw[e,hx',zC hr];rfl
theorem zG{E:Env}{k:kY}:∀(l:List Int),bo (cn E (.int k)) (l.map (Value.int k)) l
 |[]=>rfl
 |x::xs=>⟨[.int k x],xs.map (Value.int k),rfl,by simp[cn],zG xs⟩
theorem foldl_push(l:List Int):∀b:ByteArray,l.foldl (λr n=>r.push (UInt8.ofNat n.toNat)) b=⟨b.data++(l.map λn=>UInt8.ofNat n.toNat).toArray⟩:=by
 induction l with
 |nil=>intro b;simp
 |cons n l ih=>
  intro b;rw[aX,ih];simp[ByteArray.push]
theorem aqS{α:Type}(xs:Array α)(x:α)(f:α->α):(xs.push x).modify xs.size f=xs.push (f x):=by grind
theorem akD(w:World)(c:Array Value)(e:TypeId)(n:Nat):(w.alloc (.cells c e)).freeze ⟨w.heap.size,n,aF⟩ 1=w.alloc (.cells c e (n,n+1)):=by show({w with heap:=(w.heap.push (.cells c e)).modify w.heap.size _}:World)= {w with heap:=w.heap.push (.cells c e (n,n+1))};simp[aqS]
theorem aoK{w:World}{b:Nat}{c:Array Value}{e:TypeId}{n:Nat}(h:w.heap[b]? =aj (.cells c e (n,n+1))):w.freeze ⟨b,n,aF⟩ 1=w:=by
 unfold World.freeze;have:∀f,f (.cells c e (n,n+1))= .cells c e (n,n+1)->w.heap.modify b f=w.heap:=λf hf=>by grind
 simp_all
theorem Uh(e:TypeId)(st:ByteArray)(w:World):∃cap:Nat,st.size<=cap/\∃arr:Array Value,(∀(j:Nat) (v:Value),((bH st).map (Value.int .u8))[j]? =aj v->arr[j]? =aj v)/\
  (Conv.stringToBytes e st).run P w= .ok (.slice (aj ⟨w.heap.size,0,aF⟩) st.size cap) (w.drew.alloc (.cells arr e (arr.size,arr.size+1))):=by
 refine⟨(Question.appendCap st.size 0 e).cut (w.tape w.drawn (.appendCap st.size 0 e)),by simp[Question.cut],
  (st.data.map λb=>Value.int .u8 b.toNat)++Array.replicate ((Question.appendCap st.size 0 e).cut (w.tape w.drawn (.appendCap st.size 0 e)) - st.size) (.int .u8 0),?_,?_⟩
 ·grind [bH]
 ·have hs:∀(arr:Array Value),(markStringish ⟨w.heap.size,0,aF⟩).run P (w.drew.alloc (.cells arr e))= .ok () (w.drew.alloc (.cells arr e (arr.size,arr.size+1))):=by
   intro arr;have h1:(w.drew.alloc (.cells arr e)).shape? w.heap.size=aj (e,arr.size):=by
    have h2:(w.drew.alloc (.cells arr e)).heap[w.heap.size]? =aj (.cells arr e):=vZ w.drew _
    grind [World.shape?]
   have h3:=akD w.drew arr e arr.size;simp_all [markStringish]
  simp[Conv.stringToBytes,Question.forced,newRow,hs]
theorem Inv.aOY(h:Inv C g β s a w){id:Id}{v:Nat}{fr:Bool}{c:aA}(hs:s.bT id=aj (.obj v fr c)){w':World}{g1:Nat->iU}(ht:Trans w w' g g1)
  (P1:∀i ver fr c pl,i≠id->s.bT i=aj (.obj ver fr c)->β i=aj pl->w'.heap[pl.b]? =w.heap[pl.b]? /\g1 pl.b=g pl.b):Inv C g1 β (s.ba id .dead) a w'/\cM (s.env w g β) ((s.ba id .dead).env w' g1 β):=by
 have qK:=eh s id .dead (by rw[hs];simp);have hle:cM (s.env w g β) ((s.ba id .dead).env w' g1 β):=by
  refine⟨Trans.mem ht,λi ver hb=> ?_,λi ver hb hc=> ?_⟩
  ·by_cases hi:i=id
   ·subst hi;exact⟨by show(s.ba i .dead).bT i≠aF;rw[qK];simp,λv fr c hh=>by
     have hh:(s.ba i .dead).bT i=aj (.obj v fr c):=hh;rw[qK]at hh;cases hh⟩
   ·have:=cQ s id i .dead hi;obtain⟨h1,h2⟩:=hb;exact⟨by show(s.ba id .dead).bT i≠aF;rw[this];exact h1,λv fr c hh=>h2 v fr c (this.symm.trans hh)⟩
  ·obtain⟨fr,c,hc⟩:=hc;have hc:(s.ba id .dead).bT i=aj (.obj ver fr c):=hc;by_cases hi:i=id
   ·subst hi;rw[qK]at hc;cases hc
   ·rw[cQ s id i .dead hi]at hc;exact⟨⟨fr,c,hc⟩,rfl⟩
 refine⟨h.step (cZ _ _ _) ht hle λi ver fr c hi=> ?_,hle⟩;have hi:(s.ba id .dead).bT i=aj (.obj ver fr c):=hi;by_cases dy:i=id
 ·subst dy;rw[qK]at hi;cases hi
 ·rw[cQ s id i .dead dy]at hi;refine(h.bu i ver fr c hi).mono hle rfl (λpl hp=>P1 i ver fr c pl dy hi hp) λq2 vq k2 v2 l2 Vp aXB=> ?_
  have Vp:s.bT q2=aj (.obj vq aL (.mp k2 v2 l2)):=Vp;have hd:q2≠id:=λe=>by obtain⟨fr3,c3,aRI⟩:=aXB;have aRI:(s.ba id .dead).bT q2=aj (.obj vq fr3 c3):=aRI;rw[e,qK]at aRI;cases aRI
  exact⟨⟨k2,v2,l2,by show(s.ba id .dead).bT q2=_;rw[cQ s id q2 .dead hd];exact Vp⟩,λpl hp=>P1 q2 vq aL _ pl hd Vp hp⟩
theorem Inv.kill(h:Inv C g β s a w){id:Id}{v:Nat}{fr:Bool}{c:aA}(hs:s.bT id=aj (.obj v fr c)){b:Nat}(hg:g b= .own (.id id) 0){w':World}(aRM:w'.os=w.os)(aYb:w'.tape=w.tape)(aoU:w'.output=w.output/\w.drawn<=w'.drawn)(xr:w'.heap.size=w.heap.size)
  (P1:∀b',b'≠b->w'.heap[b']? =w.heap[b']?) {lb:iU} (aEb:lb= .free\/lb= .fresh):Inv C (mQ g b lb) β (s.ba id .dead) a w'/\cM (s.env w g β) ((s.ba id .dead).env w' (mQ g b lb) β):=by
 have ht:Trans w w' g (mQ g b lb):=by
  refine⟨aRM,aYb,aoU,au,λb' hb'=> ?_⟩;by_cases he:b'=b
  ·subst he;rw[hg,fV];exact⟨aEb.imp (λe=>e) λe=> .inl ⟨rfl,.inl e⟩,λ_ _ hh=>au⟩
  ·rw[gZ _ _ _ he,P1 b' he];cases NA:g b' with
   |free=>exact⟨rfl,rfl⟩
   |own o k=>cases o with
    |dX=>exact⟨rfl,rfl⟩
    |id i=>exact⟨.inr (.inr ⟨i,k,rfl,aB _⟩),λoff v _ hv=>by simp only[eL,P1 b' he]at hv ⊢;exact hv⟩
   |fresh=>exact .inl ⟨rfl,rfl⟩
   |gD=>exact⟨rfl,λcur e h=>⟨cur,h,rfl⟩⟩
 exact h.aOY hs ht λi ver fr c pl dy hi hp=>by have kJ:=h.apart hg dy hi (pl:=pl) hp;exact⟨P1 pl.b kJ,gZ _ _ _ kJ⟩
theorem atd(h:Inv C g β s a w){src dst:TypeId}{x:bB}(ho:o.op= .convert src dst x){id:Id}{ver len:Nat}(hx:s.ev x= .cg id ver [] 0 0 len){s':AS}(he:(an8 P s o.dst src dst id ver len).eval=aj s'):fp P o a w (gh C s'):=by
 unfold an8 at he;split at he
 ·rename_i v e0 l e mw hD;split at he
  ·rename_i hE;obtain⟨h1,h2⟩:=aD.1 he;obtain⟨h3,h4⟩:=bP.1 h2;obtain rfl:=aw.1 h4;simp only[ax,gE]at h1;obtain⟨rfl,rfl⟩:=h1;simp only[bO]at h3;obtain⟨h5,h6⟩:=h3;have di:=dI mw;have hv:=h.ev x;rw[hx]at hv;obtain⟨ad,cap,hy,abx,_,_,iA⟩:=uu hv;have iA:=iA ⟨aS,_,di⟩;have hO:xo (s.env w g β) id aS (.vec e0 (.int .u8) l):=h.bu id v aS _ di;obtain⟨hz,hO⟩:=hO;have hO:(match β id with
    |none=>l=[]
    |some pl=>∃cur k,w.heap[pl.b]? =aj (.cells cur e0 (0,0))/\cur.size=pl.cap*(Ty.int .u8).size/\l.length<=pl.cap/\pl.cap<=maxLen/\g pl.b= .own (.id id) k/\
      k<=l.length*(Ty.int .u8).size/\(aS=aS->k=0)/\bo (cn (s.env w g β) (.int .u8)) (cur.toList.take (l.length*(Ty.int .u8).size)) l):=hO
   have iA:(match β id with
    |some pl=>(0 < len\/0=0->ad=aj ⟨pl.b,0,aF⟩)/\(([]:List Hk)=[]->0=0->cap=pl.cap)
    |none=>ad=aF/\len=0/\cap=0):=iA
   cases hp:β id with
   |none=>rw[hp]at hO;simp only at hO;subst hO;simp at h6;omega
   |some pl=>
    rw[hp]at hO iA;obtain⟨cur,k,q1,q2,q3,q4,q5,q6,q7,q8⟩:=hO;have hk:=q7 rfl;subst hk;have atF:=iA.1 (.inr rfl);subst atF;have hb:pl.b < w.heap.size:=(cE.1 q1).1;have aGq:∃w',w.freeze ⟨pl.b,cur.size,aF⟩ 1=w'/\w'.heap[pl.b]? =aj (.cells cur e0 (cur.size,cur.size+1))/\w'.os=w.os/\w'.tape=w.tape/\(w'.output=w.output/\w.drawn<=w'.drawn)/\w'.heap.size=w.heap.size/\∀b',b'≠pl.b->w'.heap[b']? =w.heap[b']? :=by
     refine⟨_,rfl,?_⟩;unfold World.freeze;rw[if_neg au];refine⟨?_,rfl,rfl,⟨rfl,aB _⟩,by simp,λb' hb'=> ?_⟩
     ·simp only[Array.getElem?_modify,bE,q1,iC];rfl
     ·simp only[Array.getElem?_modify];rw[if_neg (λe=>hb' e.symm)]
    obtain⟨w',hw',f1,f2,f3,f4,f5,f6⟩:=aGq;have aGy:w.shape? pl.b=aj (e0,cur.size):=by simp only[World.shape?,q1]
    have hm:(markStringish ⟨pl.b,0,aF⟩).run P w= .ok () w':=by simp only[markStringish,dM,run_shape,aGy,cU,run_freeze,hw']
    have i1:=(h.kill di q5 f2 f3 f4 f5 f6 (lb:= .free) (.inl rfl)).1;refine .inl ⟨.slice (aj ⟨pl.b,0,aF⟩) len cap,w',eH (f:=convert src src (a.eval x)) (by simp only[execOp,ho]) ?_,_,β,i1.put o.dst ⟨_,?_,rfl⟩⟩
    ·rw[hy];simp[convert,run_underlying hD,run_underlying hE,hm]
    ·have ao3:=zC q8;have abC:(Ty.int .u8).size=1:=rfl;rw[abC,hZ]at ao3;simp only[V,cn];refine⟨_,cap,l.map (Value.int .u8),by rw[h6],by rw[<-h6];exact abx,λ_=>rfl,λj vv hj=>⟨_,_,rfl,?_,?_⟩,zG (E:=(s.ba id .dead).env w' (mQ g pl.b .free) β) _⟩
     ·rw[aU];show w'.cell? ⟨pl.b,j,aF⟩=aj vv;simp only[eL,f1];rw[<-ao3,dA]at hj;split at hj
      ·simpa using hj
      ·cases hj
     ·show ku (mQ g pl.b .free) pl.b (0+j);unfold ku;rw[fV];trivial
  ·simp only[av]at he
 ·simp only[av]at he
theorem aLC(h:Inv C g β s a w){src dst:TypeId}{x:bB}(ho:o.op= .convert src dst x){l:List Int}(hl:s.ev x= .sb l){v:aA}(he:(aFp P src dst l).eval=aj v):fp P o a w (gh C (s.put o.dst v)):=by
 have hx:=h.ev x;have fin:∀z,(convert src dst (a.eval x)).run P w= .ok z w->VS (s.env w g β) v z->fp P o a w (gh C (s.put o.dst v)):=by intro z h1 h2;exact h.value h2 (eH (f:=convert src dst (a.eval x)) (by simp only[execOp,ho]) h1)
 unfold aFp at he;split at he
 ·rename_i e e' hD hS;rw[hl]at hx;split at he
  ·rename_i hE;obtain⟨h1,h2⟩:=aD.1 he;obtain rfl:=aw.1 h2;have h1:src=dst:=by simpa using h1
   subst h1;obtain⟨cs,hv,hO⟩:=hx;simp only[V]at hv;obtain⟨b,cap,arr,e2,aL5,abx,aL7,hb,aL4⟩:=hv;have hO':cs=[a.eval x]:=hO;rw[aL5]at hO';have hy:a.eval x= .slice (aj ⟨b,0,aF⟩) l.length cap:=by simpa using hO'.symm
   rw[hD]at hS;obtain rfl:e=e':=by simpa using hS
   refine fin (.slice (aj ⟨b,0,aF⟩) l.length cap) ?_ ⟨_,?_,rfl⟩
   ·rw[hy];have hb:w.heap[b]? =aj (.cells arr e2 (arr.size,arr.size+1)):=hb
    have aGq:=aoK hb;have aGy:w.shape? b=aj (e2,arr.size):=by simp only[World.shape?,hb]
    have hm:(markStringish ⟨b,0,aF⟩).run P w= .ok () w:=by simp only[markStringish,dM,run_shape,aGy,cU,run_freeze,aGq]
    simp[convert,run_underlying hD,run_underlying hE,hm]
   ·simp only[V,cn];refine⟨_,cap,l.map (Value.int .u8),rfl,abx,λ_=>rfl,λj v hj=>⟨_,_,rfl,?_,?_⟩,zG (E:=s.env w g β) _⟩
    ·rw[aU];show w.cell? ⟨b,j,aF⟩=aj v;have hb:w.heap[b]? =aj (.cells arr e2 (arr.size,arr.size+1)):=hb
     simp only[eL,hb];simpa using aL4 j v hj
    ·show ku g b (0+j);unfold ku;have aL7:g b= .free:=aL7;rw[aL7];trivial
  ·simp only[av]at he
 ·simp only[av]at he
theorem aj6(h:Inv C g β s a w){obj:Bool}{src dst:TypeId}{x:bB}(ho:o.op= .convert src dst x){v:aA}(he:(ahU P s obj src dst (s.ev x)).eval=aj v):fp P o a w (gh C (s.put o.dst v)):=by
 have hx:=h.ev x;have fin:∀z,(convert src dst (a.eval x)).run P w= .ok z w->VS (s.env w g β) v z->fp P o a w (gh C (s.put o.dst v)):=by intro z h1 h2;exact h.value h2 (eH (f:=convert src dst (a.eval x)) (by grind [execOp]) h1)
 unfold ahU at he;split at he
 ·grind [aLC]
 rename_i aSW;unfold aFo at he;split at he
 ·rename_i k n k' d hl hD hS;rw[hl]at hx;obtain rfl:=aw.1 he;refine fin (.int k' (k'.wrap n)) ?_ (kH _ _)
  rw[wo hx];simp[convert,run_underlying hD,run_underlying hS,Conv.intToInt]
 ·rename_i st d hl hD hS;rw[hl]at hx;obtain rfl:=aw.1 he;refine fin (.string st) ?_ (ajM _)
  rw[L0 hx];simp[convert,run_underlying hD,run_underlying hS]
 ·rename_i st e d hl hD hS;rw[hl]at hx;split at he
  ·rename_i hE;obtain⟨cap,abx,arr,aL4,pV⟩:=Uh (P:=P) e st w;have i1:=(h.drew).MK (.cells arr e (arr.size,arr.size+1));have hlen:(bH st).length=st.size:=by simp[bH]
   have h2:=vZ w.drew (.cells arr e (arr.size,arr.size+1));have hex:(execOp a.eval o).run P w= .ok (.value (.slice (aj ⟨w.heap.size,0,aF⟩) st.size cap)) (w.drew.alloc (.cells arr e (arr.size,arr.size+1))):=by
    refine eH (f:=convert src dst (a.eval x)) (by grind [execOp]) ?_
    rw[L0 hx];simp[convert,run_underlying hD,run_underlying hS,run_underlying hE,pV]
   have aGp:mQ g w.drew.heap.size .free w.heap.size= .free:=by simp
   cases obj with
   |false=>
    obtain rfl:=aw.1 he;refine .inl ⟨_,_,hex,_,β,i1.put o.dst ⟨_,?_,rfl⟩⟩;refine⟨_,cap,(bH st).map (Value.int .u8),by rw[hlen],au,λ_=>rfl,λj v hj=>⟨_,_,rfl,?_,?_⟩,zG (E:=s.env (w.drew.alloc (.cells arr e (arr.size,arr.size+1))) (mQ g w.drew.heap.size .free) β) _⟩
    ·rw[aU];show(w.drew.alloc (.cells arr e (arr.size,arr.size+1))).cell? ⟨w.drew.heap.size,j,aF⟩=aj v;grind [eL]
    ·show ku (mQ g w.drew.heap.size .free) w.heap.size (0+j);simp[ku]
   |true=>
    obtain rfl:=aw.1 he;refine .inl ⟨_,_,hex,_,β,i1.put o.dst ⟨_,?_,rfl⟩⟩;exact⟨w.heap.size,cap,arr,e,by rw[hlen],au,aGp,h2,aL4⟩
  grind [av]
 ·rename_i e hD hS kJ;clear kJ;split at he
  ·rename_i hE;obtain⟨l,h1,h2⟩:=ay.1 he;obtain rfl:=aw.1 h2;obtain⟨cs,hR,hO⟩:=auW h hx h1;obtain⟨ad,cap,vs,rfl,aEc,AO,nL,zE⟩:=hR;have hO': [Value.slice ad (List.length l) cap]=[a.eval x]:=hO;have hy:a.eval x= .slice ad (List.length l) cap:=by grind
   refine fin (.string (iY l)) ?_ (ajM _)
   rw[hy,run_convert_bytes_string w src dst e ad _ _ hS hE hD];have ao3:=zC (E:=(s.env w g β).open) (k:= .u8) (vs:=vs) (l:=l) zE;cases ad with
   |none=>
    have aSW:l=[]:=by
     cases l with
     |nil=>rfl
     |cons _ _=>grind
    subst aSW;rfl
   |some ad=>
    have aOH:(loadCells ad (List.length l)).run P w= .ok (l.map (Value.int .u8)).toArray w:=by
     have:=run_loadCells_list (P:=P) w ad (l.map (Value.int .u8)) (λj v hj=>by
      rw[<-ao3]at hj;obtain⟨bb,off,e1,hh⟩:=nL j v hj;simp at e1;subst e1;rw[eI];exact hh.1)
     grind
    rw[run_bytesToString w ad _ _ l aOH,foldl_push];simp[iY]
  grind [av]
 grind [av]
end
end Go.Ab
namespace Go.Ab
section
variable {P:Program} {C:Ctx} {g:Nat->iU} {β:Id->Option Pl} {s:AS} {a:Act} {w:World} {o:Oper}
theorem ah8(off:Nat):∀(vs:List Value) (k:Nat) (cells:Array Value),off+k+vs.length<=cells.size->
  ((vs.zipIdx k).foldl (λcs (c,j)=>cs.setIfInBounds (off+j) c) cells).toList=dB cells.toList (off+k) vs
 |[],k,cells,_=>by simp[dB]
 |v::vs,k,cells,h=>by rw[List.zipIdx_cons,aX,ah8 off vs (k+1) _ (by grind)];have:=list_seg_step cells.toList (off+k) v vs (by grind);simp_all [dB,fk]
theorem ah7{place:Nat->Option (Nat×Nat)}{cells:Array Value}{i off:Nat}{v:Value}{vs:List Value}{rest:List (Nat×Value)}(hp:place i=aj (off,vs.length))(hv:v.cells=vs.toArray)(hl:off+vs.length<=cells.size):
  Instr.fill place cells ((i,v)::rest)=Instr.fill place (dB cells.toList off vs).toArray rest:=by
 have h2:¬(v.cells.size≠vs.length || off+v.cells.size > cells.size)=aL:=by grind
 simp only[Instr.fill,hp];rw[if_neg h2];congr 1;apply uz;simp_all [ah8]
theorem F2{E E':Env}(hs:E.s=s.bT)(ho:iL E)(he:cM E E'){t:Ty}(aii:∀x,VS E (s.ev x) (a.eval x)):
  ∀(ps:List (Nat×bB)) (l:List t.den) (r:List t.den×List Id) (cells:Array Value),(jz t s ps l).eval=aj r->aRE E E' r.2->bo (cn E' t) cells.toList l->
   ∃cells',Instr.fill (λi=>aj (i*t.size,t.size)) cells (ps.map λ(i,x)=>(i,a.eval x))=aj cells'/\bo (cn E' t) cells'.toList r.1
 |[],l,r,cells,h,_,hc=>by grind [aw,jz,Instr.fill]
 | (i,x)::ps,l,r,cells,h,hf,hc=>by
  obtain⟨h1,h2⟩:=aD.1 h;obtain⟨y,h3,h4⟩:=ay.1 h2;obtain⟨r',h5,h6⟩:=ay.1 h4;obtain rfl:=aw.1 h6;have hi:i < l.length:=by grind
  obtain⟨cs,hV,hO⟩:=(aii x).eg (EY h3);have hR:=xh hs ho he _ t y cs hV h3 (λid dy=>hf id (by grind));have tp:=hO.cells hV.one;have hlen:=hc.length (λ_ _ hx=>cn.size hx);have xr:=hR.size;have hle:i*t.size+cs.length<=cells.size:=by have:=Nat.mul_le_mul_right t.size (show i+1<=l.length by omega);grind
  have akM:=bo.set (λ_ _ hx=>cn.size hx) hc i hi hR;obtain⟨cells',q1,q2⟩:=F2 hs ho he aii ps (l.set i y) r' (dB cells.toList (i*t.size) cs).toArray h5 (λid dy=>hf id (by grind)) akM;grind [ah7]
theorem w8{E:Env}{t:Ty}{zc:Array Value}(hz:cn E t zc.toList t.zero):∀n:Nat,bo (cn E t) (madeCells zc (n*t.size)).toList (ae n t.zero):=by
 have xr:zc.size=t.size:=by have:=hz.size;grind
 intro n
 induction n with
 |zero=>simp[madeCells,bo]
 |succ n ih=>
  have e:(madeCells zc ((n+1)*t.size)).toList=(madeCells zc (n*t.size)).toList++zc.toList:=by
   apply List.ext_getElem?;intro j;simp[madeCells];by_cases hj:j < n*t.size
   ·grind
   ·by_cases hj':j < n*t.size+t.size
    ·have hm:j%t.size=j - n*t.size:=by
      have:j=(j - n*t.size)+t.size*n:=by grind
      rw[this,Nat.add_mul_mod_self_left,nc au];grind
     grind
    grind
  grind [List.replicate_succ',bo.append,bo.one]
theorem yD{nl:Bool}{T:TypeId}{e:TypeId}{t:Ty}{b:Nat}(h:MS P nl T=aj (e,t,b)):
  P.underlying T=aj (.slice e)/\0 < t.size/\∃i zv,P.info? e=aj i/\i.size=t.size/\i.bytes=b/\i.zero=aj zv/\∀E,cn E t zv.cells.toList t.zero:=by
 unfold MS at h;split at h
 ·rename_i e' hT;split at h
  ·split at h
   ·rename_i hg;obtain⟨rfl,rfl,rfl⟩:=h;simp at hg;obtain⟨⟨h1,h2⟩,h3⟩:=hg;obtain⟨i,zv,hi,hz,_,_⟩:=ru h3 {w:=default,g:=λ_=> .free,β:=λ_=>aF,s:=λ_=>aF};refine⟨hT,au,i,zv,hi,by grind [oB],by grind [Program.bytesOf],hz,λE=> ?_⟩;obtain⟨i',zv',hi',hz',hV,_⟩:=ru h3 E;grind [V]
   grind
  grind
 grind
theorem N4{nl:Bool}{T:TypeId}{v:Option aA}{e:TypeId}{t:Ty}{b:Nat}(h:ZW P nl T v=aj (e,t,b)):
  P.underlying T=aj (.slice e)/\0 < t.size/\∃i zv,P.info? e=aj i/\i.size=t.size/\i.bytes=b/\i.zero=aj zv/\∀E,cn E t zv.cells.toList t.zero:=by
 unfold ZW at h;split at h
 ·rename_i e' t' b' Rk;have h0:=yD Rk;split at h
  ·rename_i u x;split at h
   ·rename_i hg;simp only[bf,jU]at h;obtain⟨rfl,rfl,rfl⟩:=h;simp only[ax,dv,gE,mS]at hg;obtain⟨_,⟨h1,h2⟩,h3⟩:=hg;obtain⟨i,zv,hi,hz,_,_⟩:=ru h3 {w:=default,g:=λ_=> .free,β:=λ_=>aF,s:=λ_=>aF};obtain⟨hT,_,j,_,hj,_,aWH,_,_⟩:=h0;rw[bh (hj.symm.trans hi)]at aWH;refine⟨hT,au,i,zv,hi,by rw[<-oB hi];exact h1,aWH,hz,λE=> ?_⟩;obtain⟨i',zv',hi',hz',hV,_⟩:=ru h3 E;rw[hi]at hi';obtain rfl:i=i':=by simpa using hi'
    rw[hz]at hz';obtain rfl:zv=zv':=by simpa using hz'
    simpa only[V]using hV
   ·obtain⟨rfl,rfl,rfl⟩:e'=e/\t'=t/\b'=b:=by simpa using h
    exact h0
  ·obtain⟨rfl,rfl,rfl⟩:e'=e/\t'=t/\b'=b:=by simpa using h
   exact h0
 ·cases h
theorem Fi{T:TypeId}{e:TypeId}{t:Ty}{b:Nat}(h:ZV P T=aj (e,t,b)):P.underlying T=aj (.slice e)/\0 < t.size/\∃i zv,P.info? e=aj i/\i.size=t.size/\i.bytes=b/\i.zero=aj zv/\∀E,cn E t zv.cells.toList t.zero:=yD h
theorem afU{T:TypeId}{e:TypeId}{t:Ty}{b:Nat}(h:akr P T=aj (e,t,b)):0 < t.size:=by
 unfold akr at h;split at h
 ·exact(yD h).2.1
 ·exact(yD h).2.1
theorem Inv.ali(h:Inv C g β s a w){q:Nat}(hq:s.dY q=aL){e:TypeId}{t:Ty}{l:List t.den}{cur:Array Value}{cap:Nat}(hz:0 < t.size)(hc:bo (cn (s.env w g β) t) (cur.toList.take (l.length*t.size)) l)
  (hs:cur.size=cap*t.size) (hl:l.length<=cap) (hm:cap<=maxLen):
  ∃g' β',Inv C g' β' (s.born q [.obj 0 aS (.vec e t l)]) a (w.alloc (.cells cur e))/\
   VS ((s.born q [.obj 0 aS (.vec e t l)]).env (w.alloc (.cells cur e)) g' β') (.cg (.new q 0) 0 [] 0 0 l.length) (.slice (aj ⟨w.heap.size,0,aF⟩) l.length cap):=by
 have ht:=Trans.alloc w g (.cells cur e) (.own (.id (.new q 0)) 0);obtain⟨h1,h2⟩:=h.U4 hq (c:= .vec e t l) (p:=aj ⟨w.heap.size,cap⟩) ht (λb hb=>⟨tl w _ hb,gZ _ _ _ au⟩) (λhe=>by
  refine⟨hz,?_⟩;show(match MG β (.new q 0) (aj ⟨w.heap.size,cap⟩) (.new q 0) with
   |none=>l=[]
   |some pl=>_)
  rw[nH];exact⟨cur,0,vZ w _,hs,hl,hm,fV _ _ _,aK _,λ_=>rfl,hc.mono λ_ _ hx=>hx.mono he.mem⟩)
 refine⟨_,_,h1,_,?_,rfl⟩;refine⟨_,_,rfl,hl,λ_=>rfl,rS hq _ _ _ _,λ_=> ?_⟩;show(match MG β (.new q 0) (aj ⟨w.heap.size,cap⟩) (.new q 0) with
   |some pl=>_
   |none=>_)
 simp
theorem Inv.aHB(h:Inv C g β s a w){q:Nat}(hq:s.dY q=aL){e:TypeId}{t:Ty}(hz:0 < t.size):
  ∃β',Inv C g β' (s.born q [.obj 0 aS (.vec e t [])]) a w/\cM (s.env w g β) ((s.born q [.obj 0 aS (.vec e t [])]).env w g β')/\
   VS ((s.born q [.obj 0 aS (.vec e t [])]).env w g β') (.cg (.new q 0) 0 [] 0 0 0) (.slice aF 0 0):=by
 have ht:=Trans.refl w g;obtain⟨h1,h2⟩:=h.U4 hq (c:= .vec e t []) (p:=aF) ht (λb hb=>⟨rfl,rfl⟩) (λhe=>by
  refine⟨hz,?_⟩;simp[AS.env])
 refine⟨_,h1,h2,_,?_,rfl⟩;refine⟨_,_,rfl,aB _,λhh=>au,rS hq _ _ _ _,λ_=> ?_⟩;simp[AS.env]
theorem VI(parts:Array (Nat×bB)):(parts.map λ(i,x)=>(i,a.eval x)).toList=parts.toList.map λ(i,x)=>(i,a.eval x):=by simp
theorem Zh(h:Inv C g β s a w){T:TypeId}{n:Nat}{parts:Array (Nat×bB)}{nl obj:Bool}(ho:o.op= .buildSlice T n parts){s':AS}(he:(nP P s nl obj o.dst T n parts.toList).eval=aj s'):fp P o a w (gh C s'):=by
 unfold nP at he;split at he
 ·rename_i e t b q Rk hd;obtain⟨hT,hz,i,zv,hi,aEa,aSS,atV,aEj⟩:=N4 Rk;obtain⟨h1,h2⟩:=aD.1 he;obtain⟨r,h3,h4⟩:=ay.1 h2;simp only[bO]at h1;obtain⟨g1,i1,e1,t1,f1⟩:=fa r.2 h;have aVl:zv.cells.size=t.size:=by have:=(aEj (s.env w g β)).size;simpa using this
  obtain⟨cells',aSO,zE⟩:=F2 (a:=a) rfl h.bu e1 h.ev parts.toList _ r (madeCells zv.cells (n*t.size)) h3 f1 (w8 (aEj _) n);have aT2:r.1.length=n:=by
   have:∀(ps:List (Nat×bB)) (l:List t.den) (r:List t.den×List Id),(jz t s ps l).eval=aj r->r.1.length=l.length:=by
    intro ps
    induction ps with
    |nil=>intro l r hh;obtain rfl:=aw.1 hh;rfl
    |cons p ps ih=>
     intro l r hh;obtain⟨i,x⟩:=p;simp only[jz]at hh;obtain⟨_,h2⟩:=aD.1 hh;obtain⟨y,h3,h4⟩:=ay.1 h2;obtain⟨r',h5,h6⟩:=ay.1 h4;obtain rfl:=aw.1 h6;have:=ih _ _ h5;simpa using this
   rw[this _ _ _ h3];simp
  have aKW:=zE.length (λ_ _ hx=>cn.size hx);have pV:(execOp a.eval o).run P w= .ok (.value (.slice (aj ⟨w.heap.size,0,aF⟩) n n)) (w.alloc (.cells cells' e)):=by
   refine eH (f:=Instr.buildSlice T n (parts.map λ(i,x)=>(i,a.eval x))) (by simp only[execOp,ho]) ?_
   have aSA:¬n*t.size > 2^24:=au;have hfill':Instr.fill (λi=>aj (i*t.size,t.size)) ((Array.range (n*t.size)).map (λx=>(zv.cells)[x%zv.cells.size]!)) (parts.map λ(i,x)=>(i,a.eval x)).toList=aj cells':=by rw[VI];exact aSO
   by_cases hn:n*t.size=0
   ·have aQl:n=0:=by
     rcases Nat.mul_eq_zero.1 hn with h' | h'
     ·exact h'
     ·omega
    subst aQl;simp only[Nat.zero_mul]at hfill' aSA;have h0:Array.range 0= #[]:=rfl;rw[h0,Array.map_empty]at hfill';simp at hfill';simp[Instr.buildSlice,run_underlying hT,run_sizeOf hi,aEa,newRow,h0,hfill']
   ·simp[Instr.buildSlice,run_underlying hT,run_sizeOf hi,aEa,newRow,hn,aSA,zeroValue,typeInfo,hi,atV];simp at hfill';simp[hfill']
  cases obj with
  |true=>
   simp only at h4;obtain⟨hq,h5⟩:=aD.1 h4;obtain rfl:=aw.1 h5;rw[<-yt r.2]at hq;have aSQ:cells'.toList.take (r.1.length*t.size)=cells'.toList:=bG au;obtain⟨g2,β2,i2,aim⟩:=i1.ali hq (e:=e) (l:=r.1) (cur:=cells') (cap:=n) hz (by rw[aSQ];exact zE) (by simp at aKW;rw[aKW,aT2]) au (by
    have:n<=n*t.size:=Nat.le_mul_of_pos_right n hz;unfold maxLen;omega)
   refine .inl ⟨_,_,pV,g2,β2,?_⟩;rw[hd];rw[aT2]at aim ⊢;exact i2.put (aj q) aim
  |false=>
   simp only at h4;obtain rfl:=aw.1 h4;have i2:=i1.MK (.cells cells' e);refine .inl ⟨_,_,pV,mQ g1 w.heap.size .free,β,?_⟩;rw[hd];refine i2.put (aj q) ⟨[.slice (aj ⟨w.heap.size,0,aF⟩) n n],?_,rfl⟩;simp only[V,cn];refine⟨_,n,cells'.toList,by rw[aT2],au,λ_=>rfl,λj v hj=>⟨_,_,rfl,?_,?_⟩,zE.mono λ_ _ hx=>hx.mono (Trans.mem (E:=(s.bj r.2).env w g1 β) (E':=(s.bj r.2).env (w.alloc (.cells cells' e)) (mQ g1 w.heap.size .free) β) (Trans.alloc w g1 (.cells cells' e) .free))⟩
   ·show(w.alloc (.cells cells' e)).cell? ⟨w.heap.size,0+j,aF⟩=aj v;rw[World.cell?_alloc_new,aU];simpa using hj
   ·show ku (mQ g1 w.heap.size .free) w.heap.size (0+j);unfold ku;rw[fV];trivial
 ·simp only[av]at he
theorem ab8(h:Inv C g β s a w){T:TypeId}{x y:bB}(ho:o.op= .makeSlice T x y){len cap:Int}(hx:(asInt (s.ev x)).eval=aj len)(hy:(asInt (s.ev y)).eval=aj cap){s':AS}
  (he:(uU P s o.dst T len cap).eval=aj s'):fp P o a w (gh C s'):=by
 obtain⟨k,hx⟩:=CL (h.ev x) hx;obtain⟨k',hy⟩:=CL (h.ev y) hy;unfold uU at he;split at he
 ·rename_i e t b q Rk hd;obtain⟨hT,hz,i,zv,hi,aEa,aSS,atV,aEj⟩:=Fi Rk;obtain⟨hq,h2⟩:=aD.1 he;obtain⟨h3,h4⟩:=bP.1 h2;obtain rfl:=aw.1 h4;simp[dd]at h3;obtain⟨⟨h5,h6⟩,h7,h8⟩:=h3;have hbytes:(i.bytes:Int)*cap<=281474976710656:=by grind
  have hr:=run_make (P:=P) w T e i zv hT hi atV k k' len cap h5 h6 hbytes au;rw[aEa]at hr;have rV:=w8 (aEj (s.env w g β)) cap.toNat;have aTb:=bo.take (λ_ _ hx=>cn.size hx) len.toNat rV;obtain⟨g2,β2,i2,aim⟩:=h.ali hq (e:=e) (l:=ae len.toNat t.zero) (cur:=madeCells zv.cells (cap.toNat*t.size)) (cap:=cap.toNat) hz (by grind) (size_madeCells _ _) (by grind) (by grind [maxLen]);rw[dR]at aim;refine .inl ⟨_,_,eH (f:=Instr.makeSlice T (a.eval x) (a.eval y)) (by grind [execOp]) (by rw[hx,hy];exact hr),g2,β2,?_⟩;rw[hd];exact i2.put (aj q) aim
 grind [av]
end
end Go.Ab
namespace Go.Ab
section
variable {P:Program} {C:Ctx} {g:Nat->iU} {β:Id->Option Pl} {s:AS} {a:Act} {w:World} {o:Oper}
theorem auN:∀(c:aA) (f off:Nat) (v:aA),partOf c f=aj (off,v)->(loc c (rU f)).eval=aj (off,v):=by
 intro c f
 induction f generalizing c with
 |zero=>
  intro off v h;cases c with
  |d t y=>
   cases t <;> simp[partOf]at h;obtain⟨rfl,rfl⟩:=h;rfl
  |pr b c=>
   simp[partOf]at h;obtain⟨rfl,rfl⟩:=h;cases b <;> rfl
  |_=>simp[partOf]at h
 |succ f ih=>
  intro off v h;cases c with
  |d t y=>
   cases t with
   |pair ta tb=>
    simp[partOf]at h;cases hp:partOf (.d tb y.2) f with
    |none=>grind
    |some r=>
     rw[hp]at h;obtain⟨rfl,rfl⟩:=h;simp only[rU,loc,ay];exact⟨_,ih _ _ _ hp,rfl⟩
   |_=>simp[partOf]at h
  |pr b c=>
   simp[partOf]at h;cases hp:partOf c f with
   |none=>grind
   |some r=>
    rw[hp]at h;obtain⟨rfl,rfl⟩:=h;simp only[rU,loc,ay];exact⟨_,ih _ _ _ hp,rfl⟩
  |_=>simp[partOf]at h
theorem apB(a b:aA):(SO a b).agg=aL:=by unfold SO;split <;> rfl
theorem ahu{v x v':aA}{i:Nat}(h:(AH v (rU i) x).eval=aj v'):v'.agg=aL:=by
 have fin:∀ {o:Out aA} {f:aA->aA},(∀a,(f a).agg=aL)->(o.bind λa=>Out.ok (f a)).eval=aj v'->v'.agg=aL:=by grind [ay,aw]
 cases i <;> simp[rU]at h
 all_goals
  cases v with
  |d t y=>cases t <;> first | (simp[AH,av]at h;done) | (exact fin (λ_=>apB _ _) h)
  |pr b c=>exact fin (λ_=>apB _ _) h
  |_=>simp[AH,av]at h
theorem LM{E:Env}(aii:∀x,VS E (s.ev x) (a.eval x)){fs:Array Field}{places:Array (Nat×Nat)}(P2:∀(i:Nat) (f:Field),fs[i]? =aj f->places[i]? =aj (f.offset,P.cellsOf f.type)):
  ∀(ps:List (Nat×bB)) (v v':aA) (cells:Array Value),(pM P fs s ps v).eval=aj v'->V E v cells.toList->v.agg=aL->
   ∃cells',Instr.fill (places[·]?) cells (ps.map λ(i,x)=>(i,a.eval x))=aj cells'/\V E v' cells'.toList/\v'.agg=aL
 |[],v,v',cells,h,hV,Oe=>by grind [aw,pM,Instr.fill]
 | (i,x)::ps,v,v',cells,h,hV,Oe=>by
  simp[pM]at h;split at h
  ·rename_i f off bW hf hp;obtain⟨h1,h2⟩:=aD.1 h;obtain⟨v1,h3,h4⟩:=ay.1 h2;simp at h1;obtain⟨⟨rfl,aTX⟩,aWz⟩:=h1;obtain⟨akK,_⟩:=qI aWz;obtain⟨cs,hVx,hO⟩:=(aii x).eg akK;have hcells:=hO.cells hVx.one;have aUU:=auN _ _ _ _ hp;obtain⟨u1,u2,u3⟩:=pR (rU i) v cells.toList f.offset bW (s.ev x) v1 cs (VO.of hV) aUU hVx h3;have aS2:=u3.s9 hV.s9;have xr:P.cellsOf f.type=cs.length:=by rw[(J6 aWz).2.1];exact hVx.size.symm
   obtain⟨cells',q1,q2,q3⟩:=LM aii P2 ps v1 v' (dB cells.toList f.offset cs).toArray h4 (by simpa using u2.to aS2) (ahu h3);grind [ah7]
  grind [av]
theorem arJ{α γ:Type}(f:α->Sem γ)(r:α->γ):∀(l:List α),(∀x∈l,(f x).run P w= .ok (r x) w)->(l.mapM f).run P w= .ok (l.map r) w
 |[],_=>by simp
 |x::xs,h=>by simp[h x (by simp),arJ f r xs (λy hy=>h y (by simp[hy]))]
theorem as6(h:Inv C g β s a w){T:TypeId}{parts:Array (Nat×bB)}(ho:o.op= .build T parts){s':AS}(he:(JV P s o.dst T parts.toList).eval=aj s'):fp P o a w (gh C s'):=by
 unfold JV at he;split at he
 ·rename_i fs hT;split at he
  ·rename_i z aY6;obtain⟨h1,h2⟩:=aD.1 he;obtain⟨v,h3,h4⟩:=ay.1 h2;obtain rfl:=aw.1 h4;simp only[ax,bQ]at h1;obtain⟨⟨hz,Oe⟩,aUP⟩:=h1;obtain⟨i,zv,hi,atV,hV,hO⟩:=ru hz (s.env w g β)
   let places:=fs.map λf=>(f.offset,P.cellsOf f.type)
   have P2:∀(i:Nat) (f:Field),fs[i]? =aj f->places[i]? =aj (f.offset,P.cellsOf f.type):=by grind
   obtain⟨cells',q1,q2,q3⟩:=LM (a:=a) h.ev P2 parts.toList z v zv.cells h3 hV Oe;have hm:(fs.mapM λf=>(do pure (f.offset,<-sizeOf f.type):Sem (Nat×Nat))).run P w= .ok places w:=by
    rw[Array.mapM_eq_mapM_toList];have:=arJ (P:=P) (w:=w) (λf=>(do pure (f.offset,<-sizeOf f.type):Sem (Nat×Nat))) (λf=>(f.offset,P.cellsOf f.type)) fs.toList (by
     intro f hf;obtain⟨j,hj⟩:=Option.isSome_iff_exists.1 (aUP f hf);rw[dM,run_sizeOf hj,oB hj];rfl)
    rw[Sem.run_map,this];show Result.ok _ w=Result.ok _ w;congr 1;apply uz;simp[places]
   refine h.value (x:= .agg cells') (VS.of q2 (by grind [fW])) (eH (f:=Instr.build T (parts.map λ(i,x)=>(i,a.eval x))) (by grind [execOp]) ?_);have q1':Instr.fill (places[·]?) zv.cells (parts.map λ(i,x)=>(i,a.eval x)).toList=aj cells':=by rw[VI];exact q1
   simp only[Instr.build,dM,zeroValue,typeInfo,run_program,hi,cU,Sem.run_pure,atV,run_underlying hT,hm,q1']
  grind [av]
 ·rename_i n e hT;split at he
  ·rename_i t ht;obtain⟨h1,h2⟩:=aD.1 he;obtain⟨r,h3,h4⟩:=ay.1 h2;obtain rfl:=aw.1 h4;simp at h1;obtain⟨xr,hz⟩:=h1;obtain⟨g1,i1,e1,t1,f1⟩:=fa r.2 h;obtain⟨i,zv,hi,atV,hV,hO⟩:=ru hz ((s.bj r.2).env w g1 β);obtain⟨cells',q1,q2⟩:=F2 (a:=a) rfl h.bu e1 h.ev parts.toList _ r zv.cells h3 f1 hV.2;have aT2:r.1.length=n:=by
    have:∀(ps:List (Nat×bB)) (l:List t.den) (r:List t.den×List Id),(jz t s ps l).eval=aj r->r.1.length=l.length:=by
     intro ps
     induction ps with
     |nil=>simp[aw,jz]
     |cons p ps ih=>
      grind [jz,aD,ay,aw]
    grind
   refine .inl ⟨.agg cells',w,eH (f:=Instr.build T (parts.map λ(i,x)=>(i,a.eval x))) (by grind [execOp]) ?_,g1,β,i1.put o.dst ⟨cells'.toList,?_,by simp[fW,aA.agg,Ty.agg]⟩⟩
   ·have q1':Instr.fill (λi=>aj (i*t.size,t.size)) zv.cells (parts.map λ(i,x)=>(i,a.eval x)).toList=aj cells':=by rw[VI];exact q1
    cases aWF:P.info? e with
    |none=>
     simp_all [asu,afw,depth,Program.underlying]
    |some ie=>
     have aWV:=run_sizeOf aWF w;rw[<-oB aWF,xr]at aWV;simp only[Instr.build,dM,zeroValue,typeInfo,run_program,hi,cU,Sem.run_pure,atV,run_underlying hT,aWV,q1']
   grind [V,cn]
  grind [av]
 grind [av]
theorem Wv{T X ty e:TypeId}{i:TypeInfo}(hT:P.underlying T=aj (.slice e))(hX:P.underlying X=aj .string\/∃e',P.underlying X=aj (.slice e'))(hi:P.info? e=aj i)
  {b sLen sCap:Nat} {cur:Array Value} (hg:w.heap[b]? =aj (.cells cur e (0,0))) {x:Value} {n:Nat} {news:List Value} (h1:∀u∈news,u.oneCell'=aL)
  (hlen:(Builtin.lenOf x).run P w= .ok n w) (hf:(Builtin.firstCells i.size n x).run P w= .ok news.toArray w) (Og:sLen+n<=sCap) (aoT:sLen*i.size+news.length<=cur.size):
  (Builtin.append_ #[T,X] ty #[.slice (aj ⟨b,0,aF⟩) sLen sCap,x]).run P w= .ok (.slice (aj ⟨b,0,aF⟩) (sLen+n) sCap) (w.setRow b (dB cur.toList (sLen*i.size) news).toArray):=by
 have vR:=run_storeCells_at P b (sLen*i.size) e news 0 cur w hg (by simpa using aoT) h1;simp only[de]at vR;rcases hX with hX | ⟨e',hX⟩ <;> simp[Builtin.append_,run_underlying hT,run_underlying hX,sizeOf,typeInfo,hi,hlen,Og,hf,eI,vR,dB]
theorem Jp{T X ty e:TypeId}{i:TypeInfo}(hT:P.underlying T=aj (.slice e))(hX:P.underlying X=aj .string\/∃e',P.underlying X=aj (.slice e'))(hi:P.info? e=aj i)
  {x:Value} (hlen:(Builtin.lenOf x).run P w= .ok 0 w) (hf:(Builtin.firstCells i.size 0 x).run P w= .ok #[] w):
  (Builtin.append_ #[T,X] ty #[.slice aF 0 0,x]).run P w= .ok (.slice aF 0 0) w:=by
 rcases hX with hX | ⟨e',hX⟩ <;> simp[Builtin.append_,run_underlying hT,run_underlying hX,sizeOf,typeInfo,hi,hlen,hf]
theorem Wu{T X ty e:TypeId}{i:TypeInfo}{zv:Value}(hT:P.underlying T=aj (.slice e))(hX:P.underlying X=aj .string\/∃e',P.underlying X=aj (.slice e'))(hi:P.info? e=aj i)(atV:i.zero=aj zv)
  {ad:Option Addr} {sLen sCap:Nat} {cH:List Value} (ho:(Builtin.firstCells i.size sLen (.slice ad sLen sCap)).run P w.drew= .ok cH.toArray w.drew) {x:Value} {n:Nat} {news:List Value}
  (hlen:(Builtin.lenOf x).run P w= .ok n w) (hf:(Builtin.firstCells i.size n x).run P w.drew= .ok news.toArray w.drew) (Og:sCap < sLen+n)
  (aWk:((sLen+n:Nat):Int)<=9223372036854775807) (aoT:(sLen+n)*i.bytes<=140737488355328):
  (Builtin.append_ #[T,X] ty #[.slice ad sLen sCap,x]).run P w= .ok (.slice (aj ⟨w.heap.size,0,aF⟩) (sLen+n) (grownCap w (sLen+n) sCap e))
   (w.drew.alloc (.cells (cH.toArray++news.toArray++Builtin.zeroCells zv.cells (grownCap w (sLen+n) sCap e - (sLen+n))) e)):=by
 have hn:=au;have h63':=au;have hfit':=growslice_fits (bytes:=i.bytes) Og aoT;have h48':=au;rcases hX with hX | ⟨e',hX⟩
 all_goals
  simp[Builtin.append_,run_underlying hT,run_underlying hX,sizeOf,typeInfo,zeroValue,hi,atV,hlen,hn,h63',h48',Question.forced,hf,ho,newRow,grownCap];grind
end
end Go.Ab
namespace Go.Ab
section
variable {P:Program} {C:Ctx} {g:Nat->iU} {β:Id->Option Pl} {s:AS} {a:Act} {w:World} {o:Oper}
theorem aIb(h:Inv C g β s a w){v:aA}{y:Value}(hv:VS (s.env w g β) v y){t:Ty}{m:List t.den}(he:(s.KG (.slice t) v).eval=aj m):
  ∃ad cap vs,y= .slice ad m.length cap/\(0 < m.length->ad.isSome=aL)/\(∀j u,vs[j]? =aj u->∃bb off,ad=aj ⟨bb,off,aF⟩/\w.cell? ⟨bb,off+j,aF⟩=aj u)/\bo (cn (s.env w g β) t) vs m:=by
 have hp:(s.jd (.slice t) v).eval=aj m:=he;cases v <;> first | (simp[AS.jd,av]at hp) | skip
 case cT=>
  simp[aw]at hp;subst hp;exact⟨aF,0,[],lZ hv,by simp,λj u hj=>by grind,rfl⟩
 case d t' x=>
  have hp:=gS.1 hp;have ha:=Va hp;have hV:=hv.single rfl ha;have hv:VS (s.env w g β) (.d (.slice t) m) y:=VS.of (cs:=[y]) (by grind [V,xP]) rfl;obtain⟨ad,cap,vs,hy,_,hs,hr,hc⟩:=xd hv;exact⟨ad,cap,vs,hy,hs,λj u hj=>let⟨bb,off,e,hh⟩:=hr j u hj;⟨bb,off,e,hh.1⟩,hc⟩
 case cg id ver p c i len=>
  obtain⟨⟨n,t',l⟩,h1,h2⟩:=ay.1 hp;obtain⟨h3,h4⟩:=bP.1 h2;obtain⟨aUY,aY0⟩:=ahT (E:=s.env w g β) (gS.1 h4);simp at h3;obtain⟨hc,hlen⟩:=h3
  suffices hg:∃ad cap vs,y= .slice ad (cut l i len).length cap/\(0 < (cut l i len).length->ad.isSome=aL)/\(∀j u,vs[j]? =aj u->∃bb off,ad=aj ⟨bb,off,aF⟩/\w.cell? ⟨bb,off+j,aF⟩=aj u)/\bo (cn (s.env w g β) t') vs (cut l i len) by grind
  obtain⟨fr,c0,di,nL⟩:=Wm rfl h.bu h1;obtain⟨ad,cap,hy,hle,AO,hb,iA⟩:=uu hv;have iA:=iA ⟨fr,c0,di⟩;have aVj:=HA hlen;rcases nL with⟨hp,hl,_⟩ | ⟨pl,cur,e,hp,hh,xr,zE,hbound⟩
  ·simp_all [bo]
  ·have hmul:(i+len)*t'.size<=l.length*t'.size:=Nat.mul_le_mul_right _ hlen;rw[hP]at hmul;refine⟨ad,cap,_,by grind,by grind,?_,Px zE i len⟩;rw[ac1 _ _ _ _ _ hmul];intro j v hj;rw[dA]at hj;split at hj
   ·rw[hc]at hj;have hh':w.heap[pl.b]? =aj (.cells cur e (0,0)):=hh
    grind [cell_of_row]
   grind
theorem XI(h:Inv C g β s a w){t:Ty}{X:TypeId}{x:aA}{y:Value}(hx:VS (s.env w g β) x y){m:List t.den}(he:(Kt P s t X x).eval=aj m):
  (P.underlying X=aj .string\/∃e',P.underlying X=aj (.slice e'))/\∃news:List Value,bo (cn (s.env w g β) t) news m/\(Builtin.lenOf y).run P w= .ok m.length w/\
   ∀w',w'.heap=w.heap->(Builtin.firstCells t.size m.length y).run P w'= .ok news.toArray w':=by
 have sl:∀(x:aA),VS (s.env w g β) x y->(match P.underlying X with
   |some (.slice _)=>s.KG (.slice t) x
   |_=> .fail).eval=aj m->(P.underlying X=aj .string\/∃e',P.underlying X=aj (.slice e'))/\∃news:List Value,bo (cn (s.env w g β) t) news m/\(Builtin.lenOf y).run P w= .ok m.length w/\
   ∀w',w'.heap=w.heap->(Builtin.firstCells t.size m.length y).run P w'= .ok news.toArray w':=by
  intro x hx he;split at he
  ·rename_i e' hX;refine⟨.inr ⟨e',hX⟩,?_⟩;obtain⟨ad,cap,vs,rfl,AO,nL,zE⟩:=aIb h hx he;have hlen:=bo.length (λ_ _ hx=>cn.size hx) zE;refine⟨vs,zE,rfl,λw' hw'=> ?_⟩;cases ad with
   |none=>
    simp_all [Builtin.firstCells]
   |some ad=>
    grind [run_firstCells_some,eI,eL]
  grind [av]
 unfold Kt at he;split at he
 ·rename_i st;split at he
  ·rename_i hX;refine⟨.inl hX,?_⟩;obtain⟨e,hm⟩:=jj (gS.1 he);have e':Ty.int .u8=t:=by grind
   subst e';subst hm;have hy:=L0 hx;subst hy;have hlen:(bH st).length=st.size:=by simp[bH]
   refine⟨(bH st).map (Value.int .u8),zG _,by rw[hlen];rfl,λw' _=> ?_⟩;simp[Builtin.firstCells];grind [bH]
  grind [av]
 grind
theorem DZ(z:Array Value)(n:Nat):(Builtin.zeroCells z n).size=n*z.size:=by simp[Builtin.zeroCells]
theorem azS(h:Inv C g β s a w){c:Call}{x y:bB}{T X:TypeId}(ho:o.op= .call c)(hc:c.callee= .builtin .copy)(ha:c.args.toList=[x,y])(ht:c.argTypes.toList=[T,X]){s':AS}
  (he:(ahW P s o.dst T X (s.ev x) (s.ev y)).eval=aj s'):fp P o a w (gh C s'):=by
 obtain⟨cal,args,tys⟩:=c;have ha':args= #[x,y]:=by grind
 have ht':tys= #[T,X]:=by grind
 subst hc ha' ht';have hx:=h.ev x;have hy:=h.ev y;have fin:∀z w',(Builtin.copy_ #[T,X] 0 #[a.eval x,a.eval y]).run P w= .ok z w'->(∃g' β',Inv C g' β' s' (a.put o.dst z) w')->fp P o a w (gh C s'):=by intro z w' h1 h2;refine .inl ⟨z,w',E9 ho (f:=Builtin.copy_ #[T,X] 0 #[a.eval x,a.eval y]) (λty cs xs aGE=> ?_) h1,h2⟩;grind [Builtin.copy_,builtin]
 unfold ahW at he;split at he
 ·rename_i e t b id ver len Rk aGE;obtain⟨hT,hz,i,zv,hi,aEa,aSS,atV,aEj⟩:=Fi Rk;obtain⟨m,hm,he⟩:=ay.1 he;obtain⟨hX,news,zE,hlen,aOD⟩:=XI h hy hm;have aQm:=zE.length (λ_ _ hx=>cn.size hx);have h1news:=bo.all (λ_ _ hx=>hx.one) zE;rw[<-aEa]at aOD;split at he
  ·rename_i ve n t' l mw;obtain⟨h1,Hh⟩:=aD.1 he;simp at h1;obtain⟨aMi,aXT⟩:=h1;subst aMi aXT;obtain⟨l',hl',afH⟩:=ay.1 Hh;obtain⟨et,hl'⟩:=jj (gS.1 hl');have et':t'=t:=by grind
   subst et';subst hl';obtain⟨aUY,aRJ⟩:=bP.1 afH;have aUY:m.length<=len:=by grind
   obtain rfl:=aw.1 aRJ;have di:=dI mw;rw[aGE]at hx;obtain⟨ad,cap,aEh,aEc,AO,abw,iA⟩:=uu hx;have iA:=iA ⟨aS,_,di⟩;obtain⟨pl,cur,e0,hp,hh,hg,hk,hV⟩:=(h.bu id ve aS _ di).box rfl;have hp:β id=aj pl:=hp;have hcur':(match β id with
    |some pl=>(0 < len\/0=0->ad=aj ⟨pl.b,0,aF⟩)/\(([.arr]:List Hk)=[]->0=0->cap=pl.cap)
    |none=>ad=aF/\len=0/\cap=0):=iA
   rw[hp]at hcur';simp only at hcur';have atF:=hcur'.1 (.inr trivial);subst atF;have hV:V (s.env w g β) (.d (.arr len t') l) (cur.toList.take cur.size):=hV;obtain⟨aOG,hVc⟩:=hV;have aKW:=hVc.length (λ_ _ hx=>cn.size hx);have aoT:news.length<=cur.size:=by simp_all [Nat.mul_le_mul_right]
   have vR:=run_storeCells_at P pl.b 0 e0 news 0 cur w hh (by grind) h1news;have pV:(Builtin.copy_ #[T,X] 0 #[a.eval x,a.eval y]).run P w= .ok (goInt m.length) (w.setRow pl.b (dB cur.toList 0 news).toArray):=by have aUX:=Nat.min_eq_left aUY;rw[aEh];simp[Builtin.copy_,run_underlying hT,hlen,sizeOf,typeInfo,hi,aUX,aOD w rfl,vR,dB]
   have atT:=Trans.setRow w hg (dB cur.toList 0 news).toArray;have hle:cM (s.env w g β) ((s.ba id (.obj ve aS (.d (.arr len t') (m++l.drop m.length)))).env (w.setRow pl.b (dB cur.toList 0 news).toArray) g β):=cM.ba di (aB _) atT (λ_ _=>rfl) (λ_=>rfl);have i1:=h.step (cZ _ _ _) atT hle (iL.ba (Zn:=oG di λk v1 l e=>by cases e) h.bu (by grind) hle (λ_ _=>rfl) (λi ver fr c pl2 hi ZZ abD=>⟨setRow_other w pl.b pl2.b _ (h.apart hg hi ZZ abD),rfl⟩) (Nw.obj ⟨pl,_,e0,hp,setRow_heap w pl.b cur _ e0 (0,0) hh,hg,trivial,by
    show V _ (.d (.arr len t') (m++l.drop m.length)) ((dB cur.toList 0 news).toArray.toList.take (dB cur.toList 0 news).toArray.size);rw[<-eX,bK];refine⟨by grind,?_⟩;have e2:dB cur.toList 0 news=news++cur.toList.drop (m.length*t'.size):=by grind [dB]
    have q:bo (cn (s.env w g β) t') (dB cur.toList 0 news) (m++l.drop m.length):=by grind [bo.append,bo.drop,cn.size]
    exact q.mono λ_ _ hx=>hx.mono hle.mem⟩))
   exact fin _ _ pV ⟨g,β,i1.put o.dst ⟨[.int .i64 (m.length:Int)],by simp[V,cn],rfl⟩⟩
  grind [av]
 grind [av]
theorem anP(h:Inv C g β s a w){c:Call}{x y:bB}{T X:TypeId}(ho:o.op= .call c)(hc:c.callee= .builtin .append)(ha:c.args.toList=[x,y])(ht:c.argTypes.toList=[T,X]){s':AS}
  {nl dt:Bool} (he:(AX P s nl dt o.dst T X (s.ev x) (s.ev y)).eval=aj s'):fp P o a w (gh C s'):=by
 obtain⟨cal,args,tys⟩:=c;simp only at hc ha ht;have ha':args= #[x,y]:=by apply uz;simpa using ha
 have ht':tys= #[T,X]:=by apply uz;simpa using ht
 subst hc ha' ht';have hx:=h.ev x;have hy:=h.ev y;have fin:∀z w',(Builtin.append_ #[T,X] 0 #[a.eval x,a.eval y]).run P w= .ok z w'->(∃g' β',Inv C g' β' s' (a.put o.dst z) w')->fp P o a w (gh C s'):=by intro z w' h1 h2;refine .inl ⟨z,w',E9 ho (f:=Builtin.append_ #[T,X] 0 #[a.eval x,a.eval y]) (λty cs xs aGE=> ?_) h1,h2⟩;subst aGE;have e1:Builtin.append_ #[T,X] 0 #[a.eval x,a.eval y]=Builtin.append_ #[T,X] ty #[a.eval x,a.eval y]:=rfl;rw[e1];simp[builtin]
 unfold AX at he;split at he
 ·rename_i e t b q Rk hd;obtain⟨hT,hz,i,zv,hi,aEa,aSS,atV,aEj⟩:=N4 Rk;obtain⟨m,hm,he⟩:=ay.1 he;obtain⟨hX,news,zE,hlen,aOD⟩:=XI h hy hm;have aQm:=zE.length (λ_ _ hx=>cn.size hx);have h1news:∀u∈news,u.oneCell'=aL:=bo.all (λ_ _ hx=>hx.one) zE;rw[<-aEa]at aOD;have aVl:zv.cells.size=t.size:=by have:=(aEj (s.env w g β)).size;simpa using this
  have aVm:∀n,(Builtin.zeroCells zv.cells n).size=n*t.size:=λn=>by rw[DZ,aVl]
  have grow:∀(ad:Option Addr) (sLen sCap:Nat) (cH:List Value) (l0:List t.den),a.eval x= .slice ad sLen sCap->cH.length=sLen*t.size->l0.length=sLen->bo (cn (s.env w g β) t) cH l0->
    (Builtin.firstCells i.size sLen (.slice ad sLen sCap)).run P w.drew= .ok cH.toArray w.drew->sCap < sLen+m.length->dd (sLen+m.length) b=aL->
    ∃(cur:Array Value) (cap:Nat),(Builtin.append_ #[T,X] 0 #[a.eval x,a.eval y]).run P w= .ok (.slice (aj ⟨w.heap.size,0,aF⟩) (sLen+m.length) cap) (w.drew.alloc (.cells cur e))/\
     cur.size=cap*t.size/\sLen+m.length<=cap/\cap<=maxLen/\cur.toList.take ((sLen+m.length)*t.size)=cH++news:=by
   intro ad sLen sCap cH l0 aEh anC aSW aQd aTX Og atK;simp only[dd,bO]at atK;have hr:=Wu (P:=P) (w:=w) (ty:=0) hT hX hi atV aTX hlen (aOD w.drew rfl) Og au (by rw[aSS];exact atK.1);rw[aEh];refine⟨_,_,hr,?_,grownCap_ge _ _ _ _,grownCap_le_maxLen _ _ _ _ (by unfold maxLen;omega),?_⟩
   ·have aWA:=grownCap_ge w (sLen+m.length) sCap e;simp only[Array.size_append,iq,aVm,anC,aQm,<-hP];congr 1;omega
   ·have afZ:(cH++news).length=(sLen+m.length)*t.size:=by rw[ai,anC,aQm,hP]
    simp only[df];rw[<-afZ];exact List.take_left
  split at he
  ·rename_i aYg;rw[aYg]at hx;have aEh:=lZ hx;cases dt with
   |true=>
    simp only at he;obtain⟨atK,he⟩:=bP.1 he;obtain rfl:=aw.1 he;simp only[ax,bO]at atK;obtain⟨atK,aT3⟩:=atK;obtain⟨cur,cap,hr,q1,q2,q3,q4⟩:=grow aF 0 0 [] [] aEh (by simp) rfl rfl rfl au (by simpa using atK);simp only[aU,bm]at hr q2 q4;have aUG:bo (cn (s.env w.drew g β) t) news m:=zE.mono λ_ _ hx=>hx.mono (cM.same (s:=s) (β:=β) (Trans.drew w g)).mem
    refine fin _ _ hr ⟨mQ g w.heap.size .free,β,(h.drew.MK (.cells cur e)).put o.dst ⟨[.slice (aj ⟨w.heap.size,0,aF⟩) m.length cap],?_,rfl⟩⟩;simp only[V,cn];refine⟨λh0=>(by cases h0),λm' hm'=> ?_⟩;obtain rfl:m=m':=bh hm';refine⟨_,cap,cur.toList.take (m.length*t.size),rfl,q2,λ_=>rfl,λj v hj=>⟨_,_,rfl,?_,?_⟩,?_⟩
    ·show(w.drew.alloc (.cells cur e)).cell? ⟨w.drew.heap.size,0+j,aF⟩=aj v;rw[World.cell?_alloc_new,aU];rw[dA]at hj;split at hj
     ·simpa using hj
     ·cases hj
    ·show ku (mQ g w.heap.size .free) w.heap.size (0+j);unfold ku;rw[fV];trivial
    ·rw[q4];exact aUG.mono λ_ _ hx=>hx.mono (Trans.mem (E:=s.env w.drew g β) (E':=s.env (w.drew.alloc (.cells cur e)) (mQ g w.drew.heap.size .free) β) (Trans.alloc w.drew g (.cells cur e) .free))
   |false=>
   simp only at he;obtain⟨hq,he⟩:=aD.1 he;obtain⟨atK,he⟩:=bP.1 he;obtain rfl:=aw.1 he;by_cases aT3:m.length=0
   ·have aUZ:m=[]:=bD aT3;subst aUZ;have aAw:news=[]:=bD (by rw[aQm];simp);subst aAw;obtain⟨β',i1,e1,v1⟩:=h.aHB hq (e:=e) hz;refine fin (.slice aF 0 0) w ?_ ⟨g,β',?_⟩
    ·rw[aEh];exact Jp (P:=P) hT hX hi hlen (aOD w rfl)
    ·exact i1.put o.dst v1
   ·obtain⟨cur,cap,hr,q1,q2,q3,q4⟩:=grow aF 0 0 [] [] aEh (by simp) rfl rfl rfl au (by simpa using atK);simp only[aU,bm]at hr q2 q4;obtain⟨g2,β2,i2,v2⟩:=(h.drew).ali hq (e:=e) (l:=m) (cur:=cur) (cap:=cap) hz (by rw[q4];exact zE.mono λ_ _ hx=>hx.mono (cM.same (s:=s) (β:=β) (Trans.drew w g)).mem) q1 q2 q3;refine fin _ _ hr ⟨g2,β2,?_⟩;exact i2.put o.dst v2
  ·rename_i id ver len aGE;rw[aGE]at hx;obtain⟨ad,cap,aEh,aEc,AO,abw,iA⟩:=uu hx;split at he
   ·rename_i v fr e' t' l mw;obtain⟨h1,Hh⟩:=aD.1 he;clear he;simp only[ax,gE]at h1;obtain⟨aMi,aXI⟩:=h1;subst aMi aXI;obtain⟨l',hl',afH⟩:=ay.1 Hh;obtain⟨et,hl'⟩:=jj (gS.1 hl');have et':t'=t:=by simpa using et
    subst et';simp only at hl';subst hl';obtain⟨aL8,aSK⟩:=bP.1 afH;have aL8:len<=l.length:=by simpa using aL8
    obtain⟨aWx,aRJ⟩:=bP.1 aSK;obtain⟨atK,aWw⟩:=bP.1 aRJ;obtain rfl:=aw.1 aWw;clear Hh afH aSK aRJ aWw;have di:=dI mw;have iA:=iA ⟨fr,_,di⟩;obtain⟨_,hO⟩:=h.bu id v fr _ di;have hO':(match β id with
     |none=>l=[]
     |some pl=>∃cur k,w.heap[pl.b]? =aj (.cells cur e (0,0))/\cur.size=pl.cap*t'.size/\l.length<=pl.cap/\pl.cap<=maxLen/\g pl.b= .own (.id id) k/\
       k<=l.length*t'.size/\(fr=aS->k=0)/\bo (cn (s.env w g β) t') (cur.toList.take (l.length*t'.size)) l):=hO
    have hcur':(match β id with
     |some pl=>(0 < len\/0=0->ad=aj ⟨pl.b,0,aF⟩)/\(([]:List Hk)=[]->0=0->cap=pl.cap)
     |none=>ad=aF/\len=0/\cap=0):=iA
    have aL7:fr=aS\/len=l.length:=by simp only[tN,dv,bO]at aWx;exact aWx
    have kJ:s.bT id≠aF:=by rw[di];simp
    have fresh:∀(cur:Array Value) (cp:Nat) (g0:Nat->iU),Trans w (w.drew.alloc (.cells cur e)) g (mQ g0 w.heap.size (.own (.id (id)) 0))->
      (∀i ver fr c pl,i≠id->s.bT i=aj (.obj ver fr c)->β i=aj pl->g0 pl.b=g pl.b)->cur.size=cp*t'.size->len+m.length<=cp->cp<=maxLen->
      bo (cn (s.env w g β) t') (cur.toList.take ((len+m.length)*t'.size)) (l.take len++m)->len<=l.length->
      ∃g' β',Inv C g' β' ((s.ba id (.obj (v+1) fr (.vec e t' (l.take len++m)))).put o.dst (.cg id (v+1) [] 0 0 (len+m.length))) (a.put o.dst (.slice (aj ⟨w.heap.size,0,aF⟩) (len+m.length) cp)) (w.drew.alloc (.cells cur e)):=by
     intro cur cp g0 ht aSR q1 q2 q3 q4 q5;have aOG:(l.take len++m).length=len+m.length:=by simp;omega
     have hle:cM (s.env w g β) ((s.ba id (.obj (v+1) fr (.vec e t' (l.take len++m)))).env (w.drew.alloc (.cells cur e)) (mQ g0 w.heap.size (.own (.id id) 0)) (MG β id (aj ⟨w.heap.size,cp⟩))):=
      cM.ba di au ht (λi hi=>IW _ _ _ hi) (λhh=>au)
     have i1:=h.step (cZ _ _ _) ht hle (iL.ba (Zn:=oG di λk v1 l e=>by cases e) h.bu kJ hle (λi hi=>IW _ _ _ hi) (λi ver fr' c' pl hi ZZ abD=>by
       have iB:pl.b < w.heap.size:=((h.bu i ver fr' c' ZZ).label (pl:=pl) abD).1;exact⟨tl w.drew _ iB,by rw[gZ _ _ _ au];exact aSR i ver fr' c' pl hi ZZ abD⟩) (by
      refine⟨hz,?_⟩;show(match MG β id (aj ⟨w.heap.size,cp⟩) id with
       |none=>(l.take len++m)=[]
       |some pl=>_)
      rw[nH];refine⟨cur,0,vZ w.drew _,q1,by rw[aOG];exact q2,q3,fV _ _ _,aK _,λ_=>rfl,?_⟩;rw[aOG];exact q4.mono λ_ _ hx=>hx.mono hle.mem))
     refine⟨_,_,i1.put o.dst ⟨_,?_,rfl⟩⟩;simp only[V];have qK:=eh s id (.obj (v+1) fr (.vec e t' (l.take len++m))) kJ;refine⟨_,_,rfl,q2,λ_=>rfl,⟨by show(s.ba id _).bT id≠aF;rw[qK];simp,λv' fr' c' hh=> ?_⟩,λ_=> ?_⟩
     ·have hh':(s.ba id (.obj (v+1) fr (.vec e t' (l.take len++m)))).bT id=aj (.obj v' fr' c'):=hh;rw[qK]at hh';simp only[bf,dT.obj.injEq]at hh';omega
     ·show(match MG β id (aj ⟨w.heap.size,cp⟩) id with
       |some pl=>_
       |none=>_)
      rw[nH];exact⟨λ_=>rfl,λ_ _=>rfl⟩
    cases hp:β id with
    |none=>
     rw[hp]at hO' hcur';simp only at hO' hcur';obtain⟨rfl,rfl,rfl⟩:=hcur';subst hO';by_cases aT3:m.length=0
     ·have aUZ:m=[]:=bD aT3;subst aUZ;have aAw:news=[]:=bD (by rw[aQm];simp);subst aAw;have ht:=Trans.refl w g;have hle:cM (s.env w g β) ((s.ba id (.obj (v+1) fr (.vec e t' []))).env w g β):=cM.ba di au ht (λ_ _=>rfl) (λ_=>rfl);have i1:=h.step (cZ _ _ _) ht hle (iL.ba (Zn:=oG di λk v1 l e=>by cases e) h.bu kJ hle (λ_ _=>rfl) (λ_ _ _ _ _ _ _ _=>⟨rfl,rfl⟩) (by
       refine⟨hz,?_⟩;show(match β id with
        |none=>([]:List t'.den)=[]
        |some pl=>_)
       rw[hp]))
      refine fin (.slice aF 0 0) w ?_ ⟨g,β,i1.put o.dst ⟨_,?_,rfl⟩⟩
      ·rw[aEh];exact Jp (P:=P) hT hX hi hlen (aOD w rfl)
      ·simp only[V];have qK:=eh s id (.obj (v+1) fr (.vec e t' [])) kJ;refine⟨_,_,rfl,aB _,λhh=>by simp at hh,⟨by show(s.ba id _).bT id≠aF;rw[qK];simp,λv' fr' c' hh=> ?_⟩,λ_=> ?_⟩
       ·have hh':(s.ba id (.obj (v+1) fr (.vec e t' []))).bT id=aj (.obj v' fr' c'):=hh;rw[qK]at hh';simp only[bf,dT.obj.injEq]at hh';omega
       ·show(match β id with
         |some pl=>_
         |none=>_)
        rw[hp];exact⟨rfl,by simp,rfl⟩
     ·obtain⟨cur,cp,hr,q1,q2,q3,q4⟩:=grow aF 0 0 [] [] aEh (by simp) rfl rfl rfl au atK;refine fin _ _ hr (fresh cur cp g (Trans.trans (Trans.drew w g) (Trans.alloc w.drew g _ _)) (λ_ _ _ _ _ _ _ _=>rfl) q1 q2 q3 ?_ (by simp));rw[q4];simpa using zE
    |some pl=>
     rw[hp]at hO' hcur';simp only at hO' hcur';obtain⟨atF,abx⟩:=hcur';have atF:=atF (.inr trivial);have abx:=abx trivial trivial;subst atF abx;obtain⟨cur,k,p1,p2,p3,p4,p5,p6,p7,p8⟩:=hO';have hk:k<=len*t'.size:=by
      rcases aL7 with hf | hf
      ·rw[p7 hf];exact aK _
      ·rw[hf];exact p6
     have hmul:len*t'.size<=l.length*t'.size:=Nat.mul_le_mul_right _ aL8;have aWM:l.length*t'.size<=cur.size:=by rw[p2];exact Nat.mul_le_mul_right _ p3
     have aTb:=bo.take (λ_ _ hx=>cn.size hx) len p8;rw[List.take_take,Nat.min_eq_left hmul]at aTb;have anC:(cur.toList.take (len*t'.size)).length=len*t'.size:=by simp;omega
     by_cases Og:len+m.length<=pl.cap
     ·have aX6:(len+m.length)*t'.size<=cur.size:=by rw[p2];exact Nat.mul_le_mul_right _ Og
      have aoT:len*i.size+news.length<=cur.size:=by rw[aEa,aQm,<-hP];exact aX6
      have hr:=Wv (P:=P) (w:=w) (ty:=0) hT hX hi p1 h1news hlen (aOD w rfl) Og aoT;rw[aEa]at hr aoT;have ht:Trans w (w.setRow pl.b (dB cur.toList (len*t'.size) news).toArray) g g:=by
       refine⟨by simp,by simp,by simp,by simp,λb' hb=> ?_⟩;by_cases afX:b'=pl.b
       ·subst afX;rw[p5];refine⟨.inr (.inr ⟨id,k,rfl,aB _⟩),λoff u aQn hu=> ?_⟩;rw[cell_of_row w pl.b off cur e (0,0) p1]at hu;rw[cell_setRow_same w pl.b off cur _ e (0,0) p1];simp only[dB,aM,List.getElem?_toArray];rw[List.getElem?_append_left (by rw[anC];omega),dA,if_pos au];simpa using hu
       ·rw[setRow_other w pl.b b' _ afX];cases NA:g b' with
        |free=>exact⟨rfl,rfl⟩
        |own o' k=>cases o' with
         |dX=>exact⟨rfl,rfl⟩
         |id i'=>exact⟨.inr (.inr ⟨i',k,rfl,aB _⟩),λoff v _ hv=>by rw[cell_setRow_other w pl.b _ _ afX];exact hv⟩
        |fresh=>exact .inl ⟨rfl,rfl⟩
        |gD=>exact⟨rfl,λcur e h=>⟨cur,h,rfl⟩⟩
      have hle:cM (s.env w g β) ((s.ba id (.obj (v+1) fr (.vec e t' (l.take len++m)))).env (w.setRow pl.b (dB cur.toList (len*t'.size) news).toArray) g β):=
       cM.ba di au ht (λ_ _=>rfl) (λ_=>rfl)
      have aOG:(l.take len++m).length=len+m.length:=by simp;omega
      have aVa:(dB cur.toList (len*t'.size) news).length=cur.toList.length:=jc (by simpa using aoT);have i1:=h.step (cZ _ _ _) ht hle (iL.ba (Zn:=oG di λk v1 l e=>by cases e) h.bu kJ hle (λ_ _=>rfl) (λi ver fr c pl2 hi ZZ abD=>⟨setRow_other w pl.b pl2.b _ (h.apart p5 hi ZZ abD),rfl⟩) (by
       refine⟨hz,?_⟩;show(match β id with
        |none=>(l.take len++m)=[]
        |some pl=>_)
       rw[hp];refine⟨_,k,setRow_heap w pl.b cur _ e (0,0) p1,by rw[iq,aVa];simpa using p2,by rw[aOG];exact Og,p4,p5,?_,p7,?_⟩
       ·rw[aOG,hP];omega
       ·rw[aOG,show(dB cur.toList (len*t'.size) news).toArray.toList=dB cur.toList (len*t'.size) news from rfl];have e1:(dB cur.toList (len*t'.size) news).take ((len+m.length)*t'.size)=cur.toList.take (len*t'.size)++news:=by
         unfold dB;have afZ:(cur.toList.take (len*t'.size)++news).length=(len+m.length)*t'.size:=by rw[ai,anC,aQm,hP]
         rw[<-afZ];exact List.take_left
        rw[e1];exact(bo.append aTb zE).mono λ_ _ hx=>hx.mono hle.mem))
      rw[<-aEh]at hr;refine fin _ _ hr ⟨g,β,i1.put o.dst ⟨_,?_,rfl⟩⟩;simp only[V];have qK:=eh s id (.obj (v+1) fr (.vec e t' (l.take len++m))) kJ;refine⟨_,_,rfl,Og,λ_=>rfl,⟨by show(s.ba id _).bT id≠aF;rw[qK];simp,λv' fr' c' hh=> ?_⟩,λ_=> ?_⟩
      ·have hh':(s.ba id (.obj (v+1) fr (.vec e t' (l.take len++m)))).bT id=aj (.obj v' fr' c'):=hh;rw[qK]at hh';simp only[bf,dT.obj.injEq]at hh';omega
      ·show(match β id with
        |some pl=>_
        |none=>_)
       rw[hp];exact⟨λ_=>rfl,λ_ _=>rfl⟩
     ·have aTX:(Builtin.firstCells i.size len (.slice (aj ⟨pl.b,0,aF⟩) len pl.cap)).run P w.drew= .ok (cur.toList.take (len*t'.size)).toArray w.drew:=by
       refine run_firstCells_some (P:=P) w.drew i.size _ _ _ _ _ (by rw[anC,aEa]) (λj u hj=> ?_);rw[eI,aU];show w.cell? ⟨pl.b,j,aF⟩=aj u;rw[cell_of_row w pl.b j cur e (0,0) p1];rw[dA]at hj;split at hj
       ·simpa using hj
       ·cases hj
      obtain⟨cur2,cp,hr,q1,q2,q3,q4⟩:=grow (aj ⟨pl.b,0,aF⟩) len pl.cap (cur.toList.take (len*t'.size)) (l.take len) aEh anC (by simp;omega) aTb aTX au atK;have iB:pl.b < w.heap.size:=(cE.1 p1).1;have aGp:Trans w w.drew g (mQ g pl.b .free):=by
       refine⟨rfl,rfl,⟨rfl,Nat.le_succ _⟩,aB _,λb' hb=> ?_⟩;by_cases afX:b'=pl.b
       ·subst afX;rw[p5,fV];exact⟨.inl rfl,λ_ _ _ hh=>hh⟩
       ·rw[gZ _ _ _ afX];exact(Trans.drew w g).afP b' hb
      refine fin _ _ hr (fresh cur2 cp (mQ g pl.b .free) (Trans.trans aGp (Trans.alloc w.drew _ _ _)) (λi ver fr c pl2 hi ZZ abD=>gZ _ _ _ (h.apart p5 hi ZZ abD)) q1 q2 q3 ?_ aL8);rw[q4];exact bo.append aTb zE
   ·simp only[av]at he
  ·simp only[av]at he
 ·simp only[av]at he
end
end Go.Ab
namespace Go.Ab
abbrev aat:=Id->Nat->Option (Id×Nat)
structure WN(ρ:aat)(E E':Env):Prop where
 mem:vd E E'
 ref:∀id ver r,ρ id ver=aj r->E.Ct id ver->E'.Ct r.1 r.2/\(E'.cur r.1 r.2->E.cur id ver/\E'.β r.1=E.β id)
structure I0(ρ:aat)(E E':Env):Prop where
 mem:zB E E'
 ref:∀id ver r,ρ id ver=aj r->E.Ct id ver->E'.Ct r.1 r.2/\(E'.cur r.1 r.2->E.cur id ver/\E'.β r.1=E.β id)
theorem I0.l0{ρ:aat}{E E':Env}(h:I0 ρ E E'):WN ρ E E':=⟨h.mem.tovd,h.ref⟩
theorem ayW(ρ:aat)(a:aA):(a.iT ρ).agg=a.agg:=by
 cases a with
 |ptr id v p n=>simp[aA.iT];cases ρ id v <;> rfl
 |cg id v p c i l=>simp[aA.iT];cases ρ id v <;> rfl
 |cK id v=>simp[aA.iT];cases ρ id v <;> rfl
 |yl id v=>simp[aA.iT];cases ρ id v <;> rfl
 |_=>rfl
mutual
theorem aav{ρ:aat}{E E':Env}(h:WN ρ E E'):∀ {a:aA} (_:a.qh=aL\/Pp E E') {cs:List Value},V E a cs->V E' (a.iT ρ) cs
 | .undef,hn,_,hv=>by simp only[V]at hv
 | .gone,hn,_,hv=>by simpa only[aA.iT,V]using hv
 | .cT,hn,_,hv=>by simpa only[aA.iT,V]using hv
 | .iQ,hn,_,hv=>by simpa only[aA.iT,V]using hv
 | .xu,hn,_,hv=>by simpa only[aA.iT,V]using hv
 | .Dh,hn,_,hv=>by simpa only[aA.iT,V]using hv
 | .sb l,hn,_,hv=>by simp only[aA.iT,V]at hv ⊢;obtain⟨b,cap,arr,e,h1,h2,h3,h4,h5⟩:=hv;obtain⟨h6,h7⟩:=h.mem.fz b _ h3 h4;exact⟨b,cap,arr,e,h1,h2,h6,h7,h5⟩
 | .d t x,hn,_,hv=>by simp only[aA.iT,V]at hv ⊢;exact hv.ik h.mem (by simpa only[aA.qh]using hn)
 | .pr a b,hn,_,hv=>by simp only[aA.iT,V]at hv ⊢;obtain⟨ca,cb,e,ha,hb⟩:=hv;simp only[aA.qh,ax]at hn;exact⟨ca,cb,e,aav h (hn.imp And.left id) ha,aav h (hn.imp And.right id) hb⟩
 | .ptr id ver p n,hn,_,hv=>by
  have h1:=hv.one;simp only[aA.iT];cases hr:ρ id ver with
  |none=>
   simp only[V]at hv ⊢;obtain⟨a,e,_⟩:=hv;exact⟨_,e,h1 _ (by simp[e])⟩
  |some r=>
   simp only[V]at hv ⊢;obtain⟨a,e,hb,hc⟩:=hv;obtain⟨b1,b2⟩:=h.ref id ver r hr hb;refine⟨a,e,b1,λc=> ?_⟩;obtain⟨c1,e1⟩:=b2 c;rw[e1];exact hc c1
 | .dx t x,hn,_,hv=>by simp only[aA.iT,V]at hv ⊢;obtain⟨b,off,vs,e,hr,hx⟩:=hv;exact⟨b,off,vs,e,hr.mono h.mem,hx.ik h.mem (by simpa only[aA.qh]using hn)⟩
 | .cg id ver p c i len,hn,_,hv=>by
  have h1:=hv.one;simp only[aA.iT];cases hr:ρ id ver with
  |none=>
   simp only[V]at hv ⊢;obtain⟨a,cap,e,_⟩:=hv;exact⟨_,e,h1 _ (by simp[e])⟩
  |some r=>
   simp only[V]at hv ⊢;obtain⟨a,cap,e,hl,hs,hb,hc⟩:=hv;obtain⟨b1,b2⟩:=h.ref id ver r hr hb;refine⟨a,cap,e,hl,hs,b1,λc=> ?_⟩;obtain⟨c1,e1⟩:=b2 c;rw[e1];exact hc c1
 | .fn f c,hn,_,hv=>by simp only[aA.iT,V]at hv ⊢;obtain⟨vs,e,hc⟩:=hv;exact⟨vs,e,ajK h (by simpa only[aA.qh]using hn) hc⟩
 | .cons _ _,hn,_,hv=>by simp only[V]at hv
 | .nil,hn,_,hv=>by simp only[V]at hv
 | .vec ..,hn,_,hv=>by simp only[V]at hv
 | .bx ..,hn,_,hv=>by simp only[V]at hv
 | .yl id ver,hn,_,hv=>by
  have h1:=hv.one;simp only[aA.iT];cases hr:ρ id ver with
  |none=>
   simp only[V]at hv ⊢;obtain⟨b,e,_⟩:=hv;exact⟨_,e,h1 _ (by simp[e])⟩
  |some r=>
   simp only[V]at hv ⊢;obtain⟨b,e,hb,hc⟩:=hv;obtain⟨b1,b2⟩:=h.ref id ver r hr hb;refine⟨b,e,b1,λc=> ?_⟩;obtain⟨c1,e1⟩:=b2 c;rw[e1];exact hc c1
 | .cK id ver,hn,_,hv=>by
  have h1:=hv.one;simp only[aA.iT];cases hr:ρ id ver with
  |none=>
   simp only[V]at hv ⊢;obtain⟨b,e,_⟩:=hv;exact⟨_,e,h1 _ (by simp[e])⟩
  |some r=>
   simp only[V]at hv ⊢;obtain⟨b,e,hb,hc⟩:=hv;obtain⟨b1,b2⟩:=h.ref id ver r hr hb;refine⟨b,e,b1,λc=> ?_⟩;obtain⟨c1,e1⟩:=b2 c;rw[e1];exact hc c1
 | .mp ..,hn,_,hv | .rW ..,hn,_,hv | .Ay ..,hn,_,hv=>by simp only[V]at hv
theorem ajK{ρ:aat}{E E':Env}(h:WN ρ E E'):∀ {a:aA} (_:a.qh=aL\/Pp E E') {vs:List Value},VC E a vs->VC E' (a.iT ρ) vs
 | .nil,hn,_,hv=>by simpa only[aA.iT,VC]using hv
 | .cons a b,hn,_,hv=>by simp only[aA.iT,VC]at hv ⊢;obtain⟨v,vs',cs,e,ha,ho,hb⟩:=hv;simp only[aA.qh,ax]at hn;exact⟨v,vs',cs,e,aav h (hn.imp And.left id) ha,by rw[ayW];exact ho,ajK h (hn.imp And.right id) hb⟩
 | .undef,hn,_,hv=>by simp only[VC]at hv
 | .gone,hn,_,hv=>by simp only[VC]at hv
 | .cT,hn,_,hv=>by simp only[VC]at hv
 | .iQ,hn,_,hv=>by simp only[VC]at hv
 | .xu,hn,_,hv=>by simp only[VC]at hv
 | .yl ..,hn,_,hv | .Ay ..,hn,_,hv=>by simp only[VC]at hv
 | .Dh,hn,_,hv=>by simp only[VC]at hv
 | .sb _,hn,_,hv=>by simp only[VC]at hv
 | .d t x,hn,_,hv=>by simp only[VC]at hv
 | .pr a b,hn,_,hv=>by simp only[VC]at hv
 | .ptr ..,hn,_,hv=>by simp only[VC]at hv
 | .dx ..,hn,_,hv=>by simp only[VC]at hv
 | .cg ..,hn,_,hv=>by simp only[VC]at hv
 | .fn ..,hn,_,hv=>by simp only[VC]at hv
 | .vec ..,hn,_,hv=>by simp only[VC]at hv
 | .bx ..,hn,_,hv=>by simp only[VC]at hv
 | .cK ..,hn,_,hv=>by simp only[VC]at hv
 | .mp ..,hn,_,hv | .rW ..,hn,_,hv=>by simp only[VC]at hv
end
theorem ajL{ρ:aat}{E E':Env}(h:WN ρ E E'){a:aA}(hn:a.qh=aL\/Pp E E'){v:Value}(hv:VS E a v):VS E' (a.iT ρ) v:=by
 by_cases hc:a.eg=aL
 ·obtain⟨cs,h1,h2⟩:=hv.eg hc;exact VS.of (aav h hn h1) (by rw[ayW];exact h2)
 ·cases a <;> first | (exact absurd rfl hc) | skip
  ·trivial
  ·obtain⟨vs,e,aON⟩:=hv;have:=ajK h hn aON;simp only[aA.iT]at this ⊢;exact⟨vs,e,this⟩
  ·exact hv
  ·obtain⟨cs,h1,_⟩:=hv;simp only[V]at h1
  ·obtain⟨cs,h1,_⟩:=hv;simp only[V]at h1
  ·obtain⟨cs,h1,_⟩:=hv;simp only[V]at h1
  ·obtain⟨cs,h1,_⟩:=hv;simp only[V]at h1
  ·obtain⟨cs,h1,_⟩:=hv;simp only[V]at h1
theorem UU{ρ:aat}{E E':Env}(h:I0 ρ E E'){a:aA}{v:Value}(hv:VS E a v):VS E' (a.iT ρ) v:=ajL h.l0 (.inr h.mem.fr) hv
theorem aek(ρ:aat):∀f:aA,(f.iT ρ).list=f.list.map (aA.iT ρ)
 | .cons a b=>by simp[aA.iT,aA.list,aek ρ b]
 | .undef | .gone | .cT | .iQ | .xu | .Dh | .d _ _ | .dx _ _ | .fn _ _ | .pr _ _ | .nil | .vec .. | .sb _ | .bx .. | .mp .. | .rW .. | .Ay .. =>rfl
 | .ptr id ver p n=>by grind [aA.iT,aA.list]
 | .cg id ver p c i len=>by grind [aA.iT,aA.list]
 | .cK id ver=>by grind [aA.iT,aA.list]
 | .yl id ver=>by grind [aA.iT,aA.list]
theorem apW:∀ {f:aA},f.qh=aL->∀x∈f.list,x.qh=aL
 | .cons a b,h,x,hx=>by
  simp only[aA.qh,ax]at h;simp only[aA.list,bI]at hx;rcases hx with rfl | hx
  ·exact h.1
  ·exact apW h.2 x hx
 | .undef,_,_,hx | .gone,_,_,hx | .cT,_,_,hx | .iQ,_,_,hx | .xu,_,_,hx | .Dh,_,_,hx | .d _ _,_,_,hx | .dx _ _,_,_,hx | .fn _ _,_,_,hx | .pr _ _,_,_,hx | .nil,_,_,hx | .vec ..,_,_,hx
 | .sb _,_,_,hx | .bx ..,_,_,hx | .mp ..,_,_,hx | .rW ..,_,_,hx | .Ay ..,_,_,hx | .ptr ..,_,_,hx | .cg ..,_,_,hx | .cK ..,_,_,hx | .yl ..,_,_,hx=>by simp[aA.list]at hx
theorem aQO{f:aA}(h:f.qh=aL)(i:Nat):(f.list.getD i .undef).qh=aL:=by
 rw[bS];cases hi:f.list[i]? with
 |none=>rfl
 |some x=>exact apW h x (dD hi)
theorem asQ{ρ:aat}{E E':Env}(h:WN ρ E E'){f:aA}(hn:f.qh=aL\/Pp E E'){tmps:Array Value}(hs:Hj E f tmps):Hj E' (f.iT ρ) tmps:=by
 refine⟨by rw[aek,List.length_map];exact hs.1,λi=> ?_⟩;have:=ajL h (hn.imp (λx=>aQO x i) id) (hs.2 i);rw[aek,bS,gI];rw[bS]at this;cases hi:f.list[i]? with
 |none=>exact VS.undef
 |some x=>rw[hi]at this;exact this
theorem aCQ(ρ:aat)(c:aA):(c.iT ρ).strip=c.strip.iT ρ:=by
 cases c <;> first
  |rfl
  |grind [aA.strip,aA.iT]
  |grind [aA.iT]
  |grind [aA.iT]
theorem Ur(ρ:aat):∀c:aA,(c.iT ρ).size=c.size
 | .pr a b=>by simp[aA.iT,aA.size,Ur ρ a,Ur ρ b]
 | .ptr id ver p n=>by grind [aA.iT,aA.size]
 | .cg id ver p c i len=>by grind [aA.iT,aA.size]
 | .cK id ver=>by grind [aA.iT,aA.size]
 | .undef | .gone | .cT | .iQ | .xu | .Dh | .d _ _ | .dx _ _ | .fn _ _ | .cons _ _ | .nil | .vec .. | .sb _ | .bx .. | .mp .. | .rW .. | .Ay .. =>rfl
 | .yl id ver=>by grind [aA.iT,aA.size]
theorem aET(ρ:aat){c:aA}(n:Nat):(c.iT ρ).v7 n=c.v7 n:=by
 cases c with
 |bx e z c=>cases z with
  |zero=>rfl
  |succ z=>exact Ur ρ c
 |_=>first | rfl | (simp only[aA.iT];split <;> rfl)
theorem azx(ρ:aat){c:aA}{pl:Pl}{n:Nat}{e:TypeId}(h:c.JU pl n e):(c.iT ρ).JU pl n e:=by
  cases c <;> first
    | (rename_i e' z c;cases z with
       |zero=>exact h
       |succ z=>exact⟨h.1,h.2.1,h.2.2.1,by rw[Ur];exact h.2.2.2⟩)
    |exact h
    |trivial
    | (rename_i id ver p n;simp[aA.iT];cases ρ id ver <;> trivial)
    | (rename_i id ver p c i len;simp[aA.iT];cases ρ id ver <;> trivial)
    | (rename_i i v;simp[aA.iT];cases ρ i v <;> trivial)
theorem ahA{ρ:aat}{E E':Env}(h:WN ρ E E'){id id':Id}{fr:Bool}{c:aA}(aAw:c.qh=aL\/Pp E E')(ho:xo E id fr c)(hβ:E'.β id'=E.β id)
  (hb:∀pl,E.β id=aj pl->E'.w.heap[pl.b]? =E.w.heap[pl.b]? /\(∀k,E.g pl.b= .own (.id id) k->E'.g pl.b= .own (.id id') k)/\(E.g pl.b= .free->E'.g pl.b= .free)):xo E' id' fr (c.iT ρ):=by
 by_cases hn:c.iD=aS
 ·obtain⟨pl,cur,e,h1,h2,h3,h5,h4⟩:=ho.box hn;obtain⟨b1,b2,b3⟩:=hb pl h1;have h6:=aav h (aAw.imp (λx=>by cases c <;> exact x) λx=>x) h4;refine Nw.obj ⟨pl,cur,e,by rw[hβ,h1],by rw[b1,h2],?_,azx ρ h5,by rw[aCQ,aET];exact h6⟩;cases fr with
  |true=>exact b3 h3
  |false=>exact b2 0 h3
 ·cases c <;> first
   | (exact absurd rfl hn)
   |skip
  rotate_left;rotate_left
  ·obtain⟨pl,mb,since,seen,c0,h1,h2,h3,_⟩:=ho;obtain⟨b1,b2,_⟩:=hb pl h1;exact⟨pl,mb,since,seen,c0,by rw[hβ,h1],by rw[b1,h2],b2 0 h3,λvr ain=>by cases ain⟩
  ·obtain⟨pl,r,h1,h2,h3,h4,h5,h6⟩:=ho;obtain⟨b1,b2,_⟩:=hb pl h1;exact⟨pl,r,by rw[hβ,h1],by rw[b1,h2],b2 0 h3,h4,asQ h (by simpa only[aA.qh]using aAw) h5,h6⟩
  rotate_left
  ·obtain⟨pl,es,clock,h1,h2,h3,h4⟩:=ho;obtain⟨b1,b2,_⟩:=hb pl h1;exact⟨pl,es,clock,by rw[hβ,h1],by rw[b1,h2],b2 0 h3,⟨h4.1.1.ik h.mem (aAw.imp (λx=>(by simp only[aA.qh,ax]at x;exact x.1)) λx=>x) (aAw.imp (λx=>(by simp only[aA.qh,ax]at x;exact x.2)) λx=>x),h4.1.2⟩,h4.2⟩
  rename_i e t l;obtain⟨hz,ho⟩:=ho;refine⟨hz,?_⟩;rw[hβ];cases hp:E.β id with
  |none=>rw[hp]at ho;exact ho
  |some pl=>
   rw[hp]at ho;simp only at ho ⊢;obtain⟨b1,b2,_⟩:=hb pl hp;obtain⟨cur,k,h1,h2,h3,h4,h5,h6,h7,h8⟩:=ho;exact⟨cur,k,by rw[b1,h1],h2,h3,h4,b2 k h5,h6,h7,h8.mono λc x hx=>hx.ik h.mem aAw⟩
theorem CJ{ρ:aat}{E E':Env}(h:I0 ρ E E'){id id':Id}{fr:Bool}{c:aA}(ho:xo E id fr c)(hβ:E'.β id'=E.β id)(hb:∀pl,E.β id=aj pl->E'.w.heap[pl.b]? =E.w.heap[pl.b]? /\(∀k,E.g pl.b= .own (.id id) k->E'.g pl.b= .own (.id id') k)/\(E.g pl.b= .free->E'.g pl.b= .free)):xo E' id' fr (c.iT ρ):=ahA h.l0 (.inr h.mem.fr) ho hβ hb
def D7(E:Env):List aA->List Value->Prop
 |[],[]=>True
 |a::as,v::vs=>VS E a v/\D7 E as vs
 |_,_=>False
def ja.st(G:ja):AS:= {bZ:=[],cH:=G.cH,news:=[G.news]}
def jM(cH:List dT):AS:= {bZ:=[],cH,news:=[]}
def CF(E:Env)(G:ja)(v:Value)(w':World):Prop:=∃g' β',VS (G.st.env w' g' β') G.val v/\iL (G.st.env w' g' β')/\kG aS E.w w' E.g g'/\CI E (G.st.env w' g' β')
def tg(P:Program)(f:FuncId)(en:Entry):Prop:=∀w g β args cH jT x,D7 ((jM cH).env w g β) args jT->iL ((jM cH).env w g β)->en.run args cH=aj x->((callFunc f jT.toArray).run P w= .ok (.enter f jT.toArray) w/\Calls P f jT.toArray w λe w'=>∃v,e= .returned v/\CF ((jM cH).env w g β) (en.out args cH x) v w')\/(∃v w',(callFunc f jT.toArray).run P w= .ok (.value v) w'/\CF ((jM cH).env w g β) (en.out args cH x) v w')
def aR8(P:Program)(y:Nat)(en:Entry):Prop:=∀w g β args cH jT x,D7 ((jM cH).env w g β) args jT->iL ((jM cH).env w g β)->en.run args cH=aj x->∀l us ts f rd n,jT= .func (.yield l) #[] #[]::(us++ts)->us.length=(avT P y).ps.size->RoundIn (Fr rd) n P l f (((avT P y).ps.zip us.toArray).foldl (λtmps (t,a)=>tmps.setIfInBounds t a) ts.toArray) (avT P y).as (avT P y).b w λe w'=>∃v,e= .returned v/\CF ((jM cH).env w g β) (en.out args cH x) v w'
def Rm(P:Program)(f:FuncId)(en:Entry):Prop:=∀w g β args cH jT,D7 ((jM cH).env w g β) args jT->iL ((jM cH).env w g β)->(∃x,en.set args cH x)->(callFunc f jT.toArray).run P w= .ok (.enter f jT.toArray) w/\Calls P f jT.toArray w λe w'=>∃v x,e= .returned v/\en.set args cH x/\CF ((jM cH).env w g β) (en.out args cH x) v w'
def D6(P:Program)(f:Nat)(en:Entry):Prop:=(lM f yB=aL->tg P f en)/\(Nat.ble yB f=aL->aR8 P f en)/\(lM f yB=aL->Rm P f en)
theorem D6.no{f:Nat}(h1:lM f yB=aL)(h2:Nat.ble yB f=aL):False:=gQ _ (Nat.lt_of_lt_of_le (dH h1) (dH h2))
theorem D6.of{P:Program}{f:FuncId}{en:Entry}(h:tg P f en)(hf:lM f yB=aL)(hs:∀a o x,¬en.set a o x:=by exact λ_ _ _ h=>h):D6 P f en:=
 ⟨λ_=>h,λh2=>(D6.no hf h2).elim,λ_ _ _ _ _ _ _ _ _ ⟨x,hx⟩=>(hs _ _ x hx).elim⟩
theorem D6.aW7{P:Program}{f:FuncId}{en:Entry}(h:Rm P f en)(hf:lM f yB=aL)(hs:∀a o,en.run a o=aF:=by exact λ_ _=>rfl):D6 P f en:=
 ⟨λ_ _ _ _ _ _ _ _ _ _ hx=>(by rw[hs]at hx;cases hx),λh2=>(D6.no hf h2).elim,λ_=>h⟩
def Sound(P:Program)(Γ:pb):Prop:=∀f vs en,Γ f vs=aj en->D6 P f en
theorem D7.ZK{ρ:aat}{E E':Env}(h:WN ρ E E'):∀ {as:List aA} (_:as.all aA.qh=aL) {vs:List Value},D7 E as vs->D7 E' (as.map (aA.iT ρ)) vs
 |[],_,[],_=>trivial
 |_::_,hn,_::_,⟨h1,h2⟩=>by rw[eR,ax]at hn;exact⟨ajL h (.inl hn.1) h1,D7.ZK h hn.2 h2⟩
 |[],_,_::_,h=>h.elim
 |_::_,_,[],h=>h.elim
theorem D7.append{E:Env}:∀ {as:List aA} {vs:List Value} {bs:List aA} {us:List Value},D7 E as vs->D7 E bs us->D7 E (as++bs) (vs++us)
 |[],[],_,_,_,h=>h
 |_::_,_::_,_,_,⟨h1,h2⟩,h=>⟨h1,D7.append h2 h⟩
theorem aau{E:Env}:∀ {c:aA} {vs:List Value},VC E c vs->D7 E c.list vs
 | .cons a b,vs,h=>by obtain⟨v,vs',cs,rfl,ha,ho,hb⟩:=h;exact⟨VS.of ha ho,aau hb⟩
 | .nil,vs,h=>by subst h;trivial
 | .undef,_,hv=>by grind [VC]
 | .gone,_,hv=>by grind [VC]
 | .cT,_,hv=>by grind [VC]
 | .iQ,_,hv=>by grind [VC]
 | .xu,_,hv=>by grind [VC]
 | .yl ..,_,hv | .Ay ..,_,hv=>by grind [VC]
 | .Dh,_,hv=>by grind [VC]
 | .sb _,_,hv=>by grind [VC]
 | .d t x,_,hv=>by grind [VC]
 | .pr a b,_,hv=>by grind [VC]
 | .ptr ..,_,hv=>by grind [VC]
 | .dx ..,_,hv=>by grind [VC]
 | .cg ..,_,hv=>by grind [VC]
 | .fn ..,_,hv=>by grind [VC]
 | .vec ..,_,hv=>by grind [VC]
 | .bx ..,_,hv=>by grind [VC]
 | .cK ..,_,hv=>by grind [VC]
 | .mp ..,_,hv | .rW ..,_,hv=>by grind [VC]
theorem Inv.aSk{C:Ctx}{g:Nat->iU}{β:Id->Option Pl}{s:AS}{a:Act}{w:World}(h:Inv C g β s a w):∀l:List bB,D7 (s.env w g β) (l.map s.ev) (l.map a.eval)
 |[]=>trivial
 |x::l=>⟨h.ev x,h.aSk l⟩
theorem Gl{E E':Env}{s:AS}(hs:E.s=s.bT)(ho:iL E)(he:cM E E'):∀(ps:List (Option Ty)) (vs:List aA) (ys:List Value) (r:List aA×List Id),D7 E vs ys->(s.conv ps vs).eval=aj r->aRE E E' r.2->D7 E' r.1 ys
 |[],[],ys,r,hv,h,_=>by grind [AS.conv,aw,D7]
 |some t::ps,v::vs,y::ys,r,⟨hv,ao3⟩,h,hf=>by
  obtain⟨x,h1,h2⟩:=ay.1 h;obtain⟨r',h3,h4⟩:=ay.1 h2;obtain rfl:=aw.1 h4;obtain⟨cs,hV,hO⟩:=hv.eg (EY h1);refine⟨VS.of (cs:=cs) ?_ ?_,Gl hs ho he ps vs ys r' ao3 h3 λid dy=>hf id (bg.2 (.inr dy))⟩
  ·grind [V,xh,aRE]
  ·show fW t.agg cs y;grind [ae9]
 |none::ps,v::vs,y::ys,r,⟨hv,ao3⟩,h,hf=>by obtain⟨r',h3,h4⟩:=ay.1 h;obtain rfl:=aw.1 h4;exact⟨hv.mono he,Gl hs ho he ps vs ys r' ao3 h3 hf⟩
 |[],_::_,_,_,_,h,_=>by grind [AS.conv,av]
 |some _::_,[],_,_,_,h,_=>by grind [AS.conv,av]
 |none::_,[],_,_,_,h,_=>by grind [AS.conv,av]
end Go.Ab
namespace Go.Ab
theorem qL{id:Id}:∀ {ids:List Id} {k:Nat},idxOf id ids=aj k->ids[k]? =aj id
 |[],_,h=>by simp[idxOf]at h
 |x::xs,k,h=>by
  simp only[idxOf]at h;split at h
  ·rename_i e;simp only[bf]at h;subst h e;rfl
  ·simp only[dL]at h;obtain⟨j,hj,rfl⟩:=h;simpa using qL hj
theorem zF{id:Id}:∀ {ids:List Id} {k:Nat},ids.Nodup->ids[k]? =aj id->idxOf id ids=aj k
 |[],_,_,h=>by grind
 |x::xs,0,hn,h=>by grind [idxOf]
 |x::xs,k+1,hn,h=>by
  obtain⟨h1,h2⟩:=ee.1 hn;have kJ:x≠id:=λe=>h1 (e▸dD h)
  simp[idxOf,kJ,zF h2 h]
theorem F4(s0:AS)(all:List Id)(t:Nat):∀(ids:List Id) (es:List dT) (s:AS),(AS.jS s0 all t s ids es).bZ=s.bZ
 |[],_,_=>by simp[AS.jS]
 |_::_,[],_=>by simp[AS.jS]
 |id::ids,e::es,s=>by rw[AS.jS,F4 s0 all t ids es,cZ]
theorem aeM(s:AS)(ids:List Id)(t:Nat)(es:List dT):(s.made ids t es).bZ=s.bZ:=by cases es <;> rfl
theorem J4(s0:AS)(all:List Id)(t:Nat):∀(ids:List Id) (es:List dT) (s:AS),ids.Nodup->es.length=ids.length->(∀id∈ids,s.bT id≠aF)->
  (∀id,id ∉ ids->(AS.jS s0 all t s ids es).bT id=s.bT id)/\
  ∀(k:Nat) (id:Id) (e:dT),ids[k]? =aj id->es[k]? =aj e->(AS.jS s0 all t s ids es).bT id=aj (s0.uO all t (s0.E7 id) e)
 |[],es,s,_,_,_=>⟨λ_ _=>by simp[AS.jS],λk id e h=>by grind⟩
 |_::_,[],s,_,hl,_=>by grind
 |i::ids,e::es,s,hn,hl,hp=>by
  obtain⟨h1,h2⟩:=ee.1 hn;have hp':∀id∈ids,(s.ba i (s0.uO all t (s0.E7 i) e)).bT id≠aF:=λid dy=>by grind [cQ]
  obtain⟨r1,r2⟩:=J4 s0 all t ids es (s.ba i (s0.uO all t (s0.E7 i) e)) h2 (by grind) hp';grind [AS.jS,cQ,eh]
theorem aoC(s:AS)(ids:List Id)(t:Nat)(es:List dT)(hv:es=[]\/s.dY t=aL):
  (∀id,(es=[]\/∀j,id≠ .new t j)->(s.made ids t es).bT id=s.bT id)/\(es≠ []->∀j,(s.made ids t es).bT (.new t j)=(es[j]?).map (s.uO ids t 0)):=by
 cases es with
 |nil=>simp[AS.made]
 |cons e es=>
  grind [jl,AS.made,Bj,o9]
def lp(ids:List Id):iU->iU
 | .free=> .free
 | .own .dX n=> .own .dX n
 | .own (.id i) n=>match idxOf i ids with | some k=> .own (.id (.bW k)) n | none=> .own .dX n
 | .fresh=> .own .dX 0
 | .gD=> .gD
def Ez(β:Id->Option Pl)(ids:List Id):Id->Option Pl
 | .bW k=>(ids[k]?).bind β
 | .new _ _=>aF
def jo(g:Nat->iU)(size:Nat)(ids:List Id)(t:Nat)(b:Nat):iU->iU
 | .free=> .free
 | .own .dX n=>if b < size then g b else .own .dX n
 | .own (.id i) n=> .own (.id (aOS ids t i)) n
 | .fresh=> .fresh
 | .gD=> .gD
def zQ(β β':Id->Option Pl)(ids:List Id)(t:Nat)(some?:Bool)(id:Id):Option Pl:=
 match idxOf id ids with
 |some k=>β' (.bW k)
 |none=>match id with
  | .new i j=>if i=t/\some?=aL then β' (.new 0 j) else β (.new i j)
  |id=>β id
theorem aGS{ids:List Id}{l:iU}{off:Nat}(h:ku (λ_=>l) 0 off):ku (λ_=>lp ids l) 0 off:=by
 cases l with
 |free=>trivial
 |own o k=>cases o with
  |dX=>exact h
  |id i=>simp only[lp];cases idxOf i ids <;> exact h
 |fresh=>exact h.elim
 |gD=>exact h.elim
section
variable {P:Program} {C:Ctx} {g:Nat->iU} {β:Id->Option Pl} {s:AS} {a:Act} {w:World} {o:Oper}
theorem aGI(ids:List Id):
  WN (s.zX ids) (s.env w g β) ((jM (ids.map (s.nR ids))).env w (λb=>lp ids (g b)) (Ez β ids)):=by
 refine⟨⟨λb off v ⟨h1,h2⟩=>⟨h1,?_⟩,λb ob h1 h2=>⟨by show lp ids (g b)= .free;have h1:g b= .free:=h1;rw[h1];rfl,h2⟩,λb cur e h1 h2=>⟨by show lp ids (g b)= .gD;have h1:g b= .gD:=h1;rw[h1];rfl,cur,h2,rfl⟩⟩,λid ver r hr _=> ?_⟩
 ·exact aGS (l:=g b) h2
 ·unfold AS.zX at hr;split at hr
  ·rename_i k v fr c hk ho;split at hr
   ·rename_i aAA;simp only[bf]at hr;subst hr aAA;have dy:=qL hk;have di:=dI ho;refine⟨⟨?_,λ_ _ _ _=>aK _⟩,λ_=>⟨⟨fr,c,di⟩,?_⟩⟩
    ·show(ids.map (s.nR ids))[k]? ≠aF
     simp[dy]
    ·show(ids[k]?).bind β=β id;rw[dy];rfl
   ·cases hr
  ·cases hr
theorem axZ(ids:List Id)(hn:ids.Nodup)(anC:∀id∈ids,s.Fl id=aL)(h:iL (s.env w g β)):iL ((jM (ids.map (s.nR ids))).env w (λb=>lp ids (g b)) (Ez β ids)):=by
 intro id ver fr c dy;have dy:(jM (ids.map (s.nR ids))).bT id=aj (.obj ver fr c):=dy;cases id with
 |new i j=>simp[jM,AS.bT]at dy
 |bW k=>
  simp only[jM,AS.bT,gI,dL]at dy;obtain⟨id1,hk,he⟩:=dy;unfold AS.nR at he;split at he
  ·rename_i v fr1 c1 di;simp only[dT.obj.injEq]at he;obtain⟨rfl,rfl,rfl⟩:=he;have aAw:c1.qh=aL:=by
    have h1:=anC id1 (dD hk);have e:s.obj id1=aj (v,fr1,c1):=by simp[AS.obj,di]
    unfold AS.Fl at h1;rw[e]at h1;cases fr1 <;> cases c1 <;> first | exact h1 | cases h1
   refine ahA (aGI ids) (.inl aAw) (h id1 v fr1 c1 di) (by show(ids[k]?).bind β=β id1;rw[hk];rfl) λpl hp=>⟨rfl,λn hg=> ?_,λhg=> ?_⟩
   ·have hg:g pl.b= .own (.id id1) n:=hg;show lp ids (g pl.b)=_;rw[hg];simp[lp,zF hn hk]
   ·have hg:g pl.b= .free:=hg;show lp ids (g pl.b)=_;rw[hg];rfl
  ·cases he
theorem aaB(h:Inv C g β s a w){ids:List Id}(hn:ids.Nodup)(hp:∀id∈ids,∃r,s.obj id=aj r)(anC:∀id∈ids,s.Fl id=aL){G:ja}{t:Nat}(hl:G.cH.length=ids.length)(hv:G.news=[]\/s.dY t=aL){v:Value}{w':World}
  (ha:CF ((jM (ids.map (s.nR ids))).env w (λb=>lp ids (g b)) (Ez β ids)) G v w'):
  ∃g' β',Inv C g' β' (AS.jS s ids t (s.made ids t G.news) ids G.cH) a w'/\VS ((AS.jS s ids t (s.made ids t G.news) ids G.cH).env w' g' β') (G.val.iT (s.yn ids t)) v:=by
 obtain⟨g1,β1,xV,aOJ,atT,hle⟩:=ha;have atT:kG aS w w' (λb=>lp ids (g b)) g1:=atT;obtain⟨m1,m2⟩:=aoC s ids t G.news hv;have aU5:∀id∈ids,s.bT id≠aF:=λid dy=>by obtain⟨⟨v,fr,c⟩,hr⟩:=hp id dy;rw[dI hr];simp
 have J9:∀id,s.bT id≠aF->G.news=[]\/∀j,id≠ .new t j:=λid dy=>by
  rcases hv with hv | hv
  ·exact .inl hv
  ·exact .inr λj e=>dy (by rw[e];exact(o9 hv).1 j)
 obtain⟨n1,n2⟩:=J4 s ids t ids G.cH (s.made ids t G.news) hn hl (λid dy=>by rw[m1 id (J9 id (aU5 id dy))];exact aU5 id dy);have aEe:∀j,G.news≠ []->Id.new t j ∉ ids:=λj kJ dy=>by
  rcases hv with hv | hv
  ·exact kJ hv
  ·exact aU5 _ dy ((o9 hv).1 j)
 generalize ZZ:AS.jS s ids t (s.made ids t G.news) ids G.cH=s2 at*;have hgO:∀(k:Nat) (id:Id),ids[k]? =aj id->∃e,G.cH[k]? =aj e/\s2.bT id=aj (s.uO ids t (s.E7 id) e):=λk id hk=>by
  have iB:k < G.cH.length:=by rw[hl];exact(gw.1 hk).1
  exact⟨_,cm iB,n2 k id _ hk (cm iB)⟩
 have hgN:G.news≠ []->∀j,s2.bT (.new t j)=(G.news[j]?).map (s.uO ids t 0):=λkJ j=>by rw[n1 _ (aEe j kJ),m2 kJ j]
 have hgS:∀id,id ∉ ids->(G.news=[]\/∀j,id≠ .new t j)->s2.bT id=s.bT id:=λid h1 h2=>by rw[n1 id h1,m1 id h2]
 have hverOf:∀id∈ids,∃fr c,s.bT id=aj (.obj (s.E7 id) fr c):=λid dy=>by obtain⟨⟨v,fr,c⟩,hr⟩:=hp id dy;refine⟨fr,c,?_⟩;rw[dI hr];simp[AS.E7,hr]
 have aUJ:∀b n,b < w.heap.size->g1 b= .own .dX n->(g b= .own .dX n\/(g b= .fresh/\n=0)\/∃i,g b= .own (.id i) n/\idxOf i ids=aF):=λb n hb hg=>by
  have h1:=atT.afP b hb;cases NA:g b with
  |free=>simp only[NA,lp]at h1;rw[h1.1]at hg;cases hg
  |own o k=>cases o with
   |dX=>simp only[NA,lp]at h1;rw[h1.1]at hg;left;exact hg
   |id i=>
    cases hi:idxOf i ids with
    |none=>
     simp only[NA,lp,hi]at h1;rw[h1.1]at hg;simp only[iU.own.injEq,iw]at hg;subst hg;exact .inr (.inr ⟨i,rfl,hi⟩)
    |some k'=>
     simp only[NA,lp,hi]at h1;rcases h1.1 with h2 | ⟨_,h2 | h2⟩ | ⟨_,_,h2,_⟩ <;> (rw[h2]at hg;cases hg)
  |fresh=>
   simp only[NA,lp]at h1;rw[h1.1]at hg;simp only[iU.own.injEq,iw]at hg;exact .inr (.inl ⟨rfl,hg.symm⟩)
  |gD=>simp only[NA,lp]at h1;rw[h1.1]at hg;cases hg
 let g2:Nat->iU:=λb=>jo g w.heap.size ids t b (g1 b)
 let β2:Id->Option Pl:=zQ β β1 ids t (!G.news.isEmpty)
 have hβO:∀k id,ids[k]? =aj id->β2 id=β1 (.bW k):=λk id hk=>by show zQ _ _ _ _ _ id=_;simp[zQ,zF hn hk]
 have hβN:G.news≠ []->∀j,β2 (.new t j)=β1 (.new 0 j):=λkJ j=>by
  show zQ _ _ _ _ _ _=_;have:idxOf (.new t j) ids=aF:=by
   cases hi:idxOf (.new t j) ids with
   |none=>rfl
   |some k=>exact absurd (dD (qL hi)) (aEe j kJ)
  have hne':G.news.isEmpty=aS:=by cases hh:G.news with
   |nil=>exact absurd hh kJ
   |cons _ _=>rfl
  simp[zQ,this,hne']
 have hβS:∀id,id ∉ ids->(G.news=[]\/∀j,id≠ .new t j)->β2 id=β id:=λid h1 h2=>by
  show zQ _ _ _ _ _ _=_;have:idxOf id ids=aF:=by
   cases hi:idxOf id ids with
   |none=>rfl
   |some k=>exact absurd (dD (qL hi)) h1
  cases id with
  |bW k=>simp[zQ,this]
  |new i j=>
   have:¬(i=t/\(!G.news.isEmpty)=aL):=by
    rintro⟨rfl,h3⟩;rcases h2 with h2 | h2
    ·rw[h2]at h3;cases h3
    ·exact h2 j rfl
   simp only[zQ, *,bp]
 have aTc:Trans w w' g g2:=by
  refine⟨atT.os,atT.tape,atT.output,atT.size,λb hb=> ?_⟩;have h1:=atT.afP b hb;show match g b with | .free=>jo g w.heap.size ids t b (g1 b)= .free/\_ | .own .dX k=>jo g w.heap.size ids t b (g1 b)= .own .dX k/\_ | .own (.id _) k=>(jo g w.heap.size ids t b (g1 b)= .free\/(k=0/\(jo g w.heap.size ids t b (g1 b)= .fresh\/jo g w.heap.size ids t b (g1 b)= .gD))\/∃i k',jo g w.heap.size ids t b (g1 b)= .own (.id i) k'/\k<=k')/\_ | .fresh=>(jo g w.heap.size ids t b (g1 b)= .fresh/\_)\/(_/\jo g w.heap.size ids t b (g1 b)= .gD) | .gD=>jo g w.heap.size ids t b (g1 b)= .gD/\_
  cases NA:g b with
  |free=>simp only[NA,lp]at h1 ⊢;rw[h1.1];exact⟨rfl,h1.2⟩
  |own o k=>cases o with
   |dX=>simp only[NA,lp]at h1 ⊢;rw[h1.1];simp only[jo,hb,bE,NA];exact⟨trivial,h1.2⟩
   |id i=>
    cases hi:idxOf i ids with
    |none=>
     simp only[NA,lp,hi]at h1 ⊢;rw[h1.1];simp only[jo,hb,bE,NA];exact⟨.inr (.inr ⟨i,k,rfl,aB _⟩),λoff v _ hv=>by simpa only[eL,h1.2]using hv⟩
    |some k'=>
     simp only[NA,lp,hi]at h1 ⊢;refine⟨?_,h1.2⟩;rcases h1.1 with h2 | ⟨h0,h2⟩ | ⟨i',k'',h2,h3⟩
     ·rw[h2];exact .inl rfl
     ·exact .inr (.inl ⟨h0,h2.imp (λe=>by rw[e];rfl) λe=>by rw[e];rfl⟩)
     ·rw[h2];exact .inr (.inr ⟨_,k'',rfl,h3⟩)
  |fresh=>simp only[NA,lp]at h1 ⊢;rw[h1.1];simp only[jo,hb,bE,NA];exact .inl ⟨trivial,h1.2⟩
  |gD=>simp only[NA,lp]at h1 ⊢;rw[h1.1];exact⟨rfl,h1.2⟩
 have xU:zB (G.st.env w' g1 β1) (s2.env w' g2 β2):=by
  refine⟨⟨λb off v ⟨h1,h2⟩=> ?_,λb ob h1 h2=>⟨by show jo g w.heap.size ids t b (g1 b)= .free;have h1:g1 b= .free:=h1;rw[h1];rfl,h2⟩,
   λb cur e h1 h2=>⟨by show jo g w.heap.size ids t b (g1 b)= .gD;have h1:g1 b= .gD:=h1;rw[h1];rfl,cur,h2,rfl⟩⟩,
   λb ob h1 h2=>⟨by show jo g w.heap.size ids t b (g1 b)= .fresh;have h1:g1 b= .fresh:=h1;rw[h1];rfl,h2⟩⟩
  refine⟨h1,?_⟩;have h2:ku g1 b off:=h2;show ku g2 b off;unfold ku at h2 ⊢;show match jo g w.heap.size ids t b (g1 b) with | .free=>True | .own _ k=>off < k | .fresh | .gD=>False
  cases NA:g1 b with
  |free=>simp[jo]
  |own o k=>
   rw[NA]at h2;cases o with
   |dX=>
    simp only[jo];by_cases hb:b < w.heap.size
    ·rw[if_pos hb];rcases aUJ b k hb NA with h3 | ⟨_,rfl⟩ | ⟨i,h3,_⟩
     ·rw[h3];exact h2
     ·exact absurd h2 (jG _)
     ·rw[h3];exact h2
    ·rw[if_neg hb];exact h2
   |id i=>exact h2
  |fresh=>rw[NA]at h2;exact h2.elim
  |gD=>rw[NA]at h2;exact h2.elim
 have hentOut:∀(base:Nat) (e:dT) (ver:Nat) (fr:Bool) (c:aA),s.uO ids t base e= .obj ver fr c->∃v0 c0,e= .obj v0 fr c0/\ver=base+v0/\c=c0.iT (s.yn ids t):=λbase e ver fr c he=>by
  cases e with
  |dead=>cases he
  |obj v0 fr0 c0=>
   simp only[AS.uO,dT.obj.injEq]at he;obtain⟨rfl,rfl,rfl⟩:=he;exact⟨v0,c0,rfl,rfl,rfl⟩
 have aoU:I0 (s.yn ids t) (G.st.env w' g1 β1) (s2.env w' g2 β2):=by
  refine⟨xU,λid ver r hr hb=> ?_⟩;cases id with
  |bW k=>
   obtain⟨Sn,ZY⟩:=hb;have Sn:G.cH[k]? ≠aF:=Sn
   have hk:k < ids.length:=by
    rcases Nat.lt_or_ge k ids.length with h' | h'
    ·exact h'
    ·exact absurd (kZ au) Sn
   have dy:ids[k]? =aj ids[k]:=cm hk
   simp only[AS.yn,dy,bf]at hr;subst hr;obtain⟨e,Hh,afH⟩:=hgO k _ dy;refine⟨⟨by show s2.bT _≠aF;rw[afH];simp,λv fr c hh=> ?_⟩,λ⟨fr,c,hh⟩=>⟨?_,hβO k _ dy⟩⟩
   ·have hh:s2.bT ids[k]=aj (.obj v fr c):=hh;rw[afH,bf]at hh;obtain⟨v0,c0,rfl,rfl,_⟩:=hentOut _ _ _ _ _ hh;have:=ZY v0 fr c0 Hh;omega
   ·have hh:s2.bT ids[k]=aj (.obj (s.E7 ids[k]+ver) fr c):=hh;rw[afH,bf]at hh;obtain⟨v0,c0,rfl,aRQ,_⟩:=hentOut _ _ _ _ _ hh;obtain rfl:ver=v0:=au;exact⟨fr,c0,Hh⟩
  |new i j=>
   simp only[AS.yn,bf]at hr;subst hr;obtain⟨Sn,ZY⟩:=hb;have Sn:([G.news].getD i [])[j]? ≠aF:=Sn
   have ZY:∀v fr c,([G.news].getD i [])[j]? =aj (.obj v fr c)->ver<=v:=ZY
   cases i with
   |succ i=>simp at Sn
   |zero=>
    simp only[List.getD_cons_zero]at Sn ZY;have kJ:G.news≠ []:=λe=>by rw[e]at Sn;simp at Sn
    obtain⟨e,he⟩:=Option.ne_none_iff_exists'.1 Sn;have afH:=hgN kJ j;rw[he,iC]at afH;refine⟨⟨by show s2.bT (.new t j)≠aF;rw[afH];simp,λv fr c hh=> ?_⟩,λ⟨fr,c,hh⟩=>⟨?_,hβN kJ j⟩⟩
    ·have hh:s2.bT (.new t j)=aj (.obj v fr c):=hh;rw[afH,bf]at hh;obtain⟨v0,c0,rfl,rfl,_⟩:=hentOut _ _ _ _ _ hh;have:=ZY v0 fr c0 he;simp only;omega
    ·have hh:s2.bT (.new t j)=aj (.obj ver fr c):=hh;rw[afH,bf]at hh;obtain⟨v0,c0,rfl,aRQ,_⟩:=hentOut _ _ _ _ _ hh;obtain rfl:ver=v0:=au;exact⟨fr,c0,he⟩
 have aSX:cM (s.env w g β) (s2.env w' g2 β2):=by
  refine⟨Trans.mem aTc,λid ver hb=> ?_,λid ver hb hc=> ?_⟩
  ·obtain⟨Sn,ZY⟩:=hb;have Sn:s.bT id≠aF:=Sn;have ZY:∀v fr c,s.bT id=aj (.obj v fr c)->ver<=v:=ZY;by_cases dy:id∈ids
   ·obtain⟨k,hk⟩:=lf.1 dy;obtain⟨e,Hh,afH⟩:=hgO k id hk;obtain⟨fr1,c1,Vq⟩:=hverOf id dy;refine⟨by show s2.bT _≠aF;rw[afH];simp,λv fr c hh=> ?_⟩;have hh:s2.bT id=aj (.obj v fr c):=hh;rw[afH,bf]at hh;obtain⟨v0,c0,rfl,rfl,_⟩:=hentOut _ _ _ _ _ hh;have:=ZY _ _ _ Vq;omega
   ·have:=hgS id dy (J9 id Sn);exact⟨by show s2.bT _≠aF;rw[this];exact Sn,λv fr c hh=>ZY v fr c (this.symm.trans hh)⟩
  ·obtain⟨Sn,ZY⟩:=hb;have Sn:s.bT id≠aF:=Sn;have ZY:∀v fr c,s.bT id=aj (.obj v fr c)->ver<=v:=ZY;obtain⟨fr,c,hh⟩:=hc;have hh:s2.bT id=aj (.obj ver fr c):=hh;by_cases dy:id∈ids
   ·obtain⟨k,hk⟩:=lf.1 dy;obtain⟨e,Hh,afH⟩:=hgO k id hk;obtain⟨fr1,c1,Vq⟩:=hverOf id dy;rw[afH,bf]at hh;obtain⟨v0,c0,rfl,aRQ,_⟩:=hentOut _ _ _ _ _ hh;have aAA:=ZY _ _ _ Vq;obtain rfl:v0=0:=au;have hver':ver=s.E7 id:=au;refine⟨⟨fr1,c1,by rw[hver'];exact Vq⟩,?_⟩;show β2 id=β id;rw[hβO k id hk];have abB:s.nR ids id= .obj 0 fr1 (c1.iT (s.zX ids)):=by simp[AS.nR,Vq]
    have h0:((jM (ids.map (s.nR ids))).env w (λb=>lp ids (g b)) (Ez β ids)).Ct (.bW k) 0:=by
     refine⟨?_,λ_ _ _ _=>aK _⟩;show(ids.map (s.nR ids))[k]? ≠aF
     simp[hk]
    have:=(hle.cur (.bW k) 0 h0 ⟨fr,c0,Hh⟩).2;have this:β1 (.bW k)=(ids[k]?).bind β:=this;rw[this,hk];rfl
   ·have:=hgS id dy (J9 id Sn);exact⟨⟨fr,c,this.symm.trans hh⟩,hβS id dy (J9 id Sn)⟩
 have aS3:iL (s2.env w' g2 β2):=by
  intro id ver fr c hh;have hh:s2.bT id=aj (.obj ver fr c):=hh;by_cases dy:id∈ids
  ·obtain⟨k,hk⟩:=lf.1 dy;obtain⟨e,Hh,afH⟩:=hgO k id hk;rw[afH,bf]at hh;obtain⟨v0,c0,rfl,_,rfl⟩:=hentOut _ _ _ _ _ hh;refine CJ aoU (aOJ (.bW k) v0 fr c0 Hh) (hβO k id hk) λpl _=>⟨rfl,λn hg=> ?_,λhg=> ?_⟩
   ·have hg:g1 pl.b= .own (.id (.bW k)) n:=hg;show jo g w.heap.size ids t pl.b (g1 pl.b)=_;rw[hg];simp[jo,aOS,bS,hk]
   ·have hg:g1 pl.b= .free:=hg;show jo g w.heap.size ids t pl.b (g1 pl.b)=_;rw[hg];rfl
  ·by_cases kJ:G.news≠ []/\∃j,id= .new t j
   ·obtain⟨kJ,j,rfl⟩:=kJ;rw[hgN kJ j,dL]at hh;obtain⟨e,he,hh⟩:=hh;obtain⟨v0,c0,rfl,_,rfl⟩:=hentOut _ _ _ _ _ hh;refine CJ aoU (aOJ (.new 0 j) v0 fr c0 (by show([G.news].getD 0 [])[j]? =_;simpa using he)) (hβN kJ j) λpl _=>⟨rfl,λn hg=> ?_,λhg=> ?_⟩
    ·have hg:g1 pl.b= .own (.id (.new 0 j)) n:=hg;show jo g w.heap.size ids t pl.b (g1 pl.b)=_;rw[hg];rfl
    ·have hg:g1 pl.b= .free:=hg;show jo g w.heap.size ids t pl.b (g1 pl.b)=_;rw[hg];rfl
   ·have aWR:G.news=[]\/∀j,id≠ .new t j:=by
     by_cases hh:G.news=[]
     ·exact .inl hh
     ·exact .inr λj e=>kJ ⟨hh,j,e⟩
    rw[hgS id dy aWR]at hh;have same:∀id,id ∉ ids->∀ver fr c,s.bT id=aj (.obj ver fr c)->∀pl,β id=aj pl->w'.heap[pl.b]? =w.heap[pl.b]? /\jo g w.heap.size ids t pl.b (g1 pl.b)=g pl.b:=by
     intro id dy ver fr c hh pl P2;obtain⟨hb,Vo⟩:=(h.bu id ver fr c hh).label (pl:=pl) P2;have hb:pl.b < w.heap.size:=hb;have h1:=atT.afP pl.b hb;have aUO:idxOf id ids=aF:=by
      cases hi:idxOf id ids with
      |none=>rfl
      |some k=>exact absurd (dD (qL hi)) dy
     rcases Vo with⟨k,hk⟩ | ⟨_,hk⟩
     ·have hk:g pl.b= .own (.id id) k:=hk;simp only[hk,lp,aUO]at h1;rw[h1.1];simp only[jo,hb,bE];exact⟨h1.2,trivial⟩
     ·have hk:g pl.b= .free:=hk;simp only[hk,lp]at h1;rw[h1.1,hk];exact⟨h1.2,rfl⟩
    have ho:=h.bu id ver fr c hh;refine ho.mono aSX (hβS id dy aWR) (λpl P2=>same id dy ver fr c hh pl P2) λq2 vq k2 v2 l2 Vp _=> ?_
    have Vp:s.bT q2=aj (.obj vq aL (.mp k2 v2 l2)):=Vp;have aT5:q2 ∉ ids:=λhm=>by
     have:=anC q2 hm;have e:s.obj q2=aj (vq,aL,.mp k2 v2 l2):=by simp[AS.obj,Vp]
     unfold AS.Fl at this;rw[e]at this;cases this
    refine⟨⟨k2,v2,l2,?_⟩,λpl P2=>same q2 aT5 vq aL _ Vp pl P2⟩;show s2.bT q2=_;rw[hgS q2 aT5 (J9 q2 (by rw[Vp];simp))];exact Vp
 have af0:s2.bZ=s.bZ:=by rw[<-ZZ,F4,aeM]
 exact⟨g2,β2,h.step af0 aTc aSX aS3,UU aoU xV⟩
end
end Go.Ab
namespace Go.Ab
theorem vH(s:AS):∀(n:Nat) (todo acc:List Id),acc.Nodup->(s.reach n todo acc).Nodup
 | 0,_,acc,h=>by grind [AS.reach]
 |_+1,[],acc,h=>by grind [AS.reach]
 |n+1,id::todo,acc,h=>by
  rw[AS.reach];split
  ·exact vH s n todo acc h
  ·refine vH s n _ _ ?_
   grind
theorem Es(s:AS)(vs:List aA):(s.Xw vs).Nodup:=vH s _ _ _ (by simp)
section
variable {P:Program} {C:Ctx} {g:Nat->iU} {β:Id->Option Pl} {s:AS} {a:Act} {w:World} {o:Oper}
theorem abV{ids:List Id}(rV:s.Z4 ids=aL):∀id∈ids,s.Fl id=aL:=λid dy=>by have:=bQ.1 rV id dy;rw[ax]at this;exact this.2
theorem anR(h:Inv C g β s a w){ids:List Id}(hn:ids.Nodup)(rV:s.Z4 ids=aL){G:ja}{s':AS}(he:(s.back ids o.dst G).eval=aj s'){v:Value}{w':World}
  (ha:CF ((jM (ids.map (s.nR ids))).env w (λb=>lp ids (g b)) (Ez β ids)) G v w'):gh C s' (a.put o.dst v) w':=by
 have hp:∀id∈ids,∃r,s.obj id=aj r:=λid dy=>by have:=bQ.1 rV id dy;grind [Option.isSome_iff_exists]
 have anC:∀id∈ids,s.Fl id=aL:=λid dy=>by have:=bQ.1 rV id dy;grind
 cases aSJ:o.dst with
 |some t=>
  rw[aSJ]at he;obtain⟨hg,he⟩:=aD.1 he;obtain rfl:=aw.1 he;simp at hg;obtain⟨hl,hg⟩:=hg;have aGD:G.news=[]\/s.dY t=aL:=by grind
  obtain⟨g2,β2,h1,h2⟩:=aaB h hn hp anC hl aGD ha;exact⟨g2,β2,h1.put (aj t) h2⟩
 |none=>
  rw[aSJ]at he;obtain⟨hg,he⟩:=aD.1 he;obtain rfl:=aw.1 he;simp at hg;obtain⟨hl,hg⟩:=hg;have J9:G.news=[]:=by grind
  obtain⟨g2,β2,h1,_⟩:=aaB (t:=0) h hn hp anC hl (.inl J9) ha;rw[J9]at h1;exact⟨g2,β2,h1⟩
theorem Vg(h:Inv C g β s a w){en:Entry}{ids:List Id}(hn:ids.Nodup){vs:List aA}{ys:List Value}(hv:D7 (s.env w g β) vs ys)
  {s':AS} (he:(s.enter en o.dst ids vs).eval=aj s'):∃x,en.run (vs.map (aA.iT (s.zX ids))) (ids.map (s.nR ids))=aj x/\
   D7 ((jM (ids.map (s.nR ids))).env w (λb=>lp ids (g b)) (Ez β ids)) (vs.map (aA.iT (s.zX ids))) ys/\
   iL ((jM (ids.map (s.nR ids))).env w (λb=>lp ids (g b)) (Ez β ids))/\
   ∀v w',CF ((jM (ids.map (s.nR ids))).env w (λb=>lp ids (g b)) (Ez β ids)) (en.out (vs.map (aA.iT (s.zX ids))) (ids.map (s.nR ids)) x) v w'->gh C s' (a.put o.dst v) w':=by
 unfold AS.enter at he;obtain⟨rV,he⟩:=aD.1 he;obtain⟨x,hx,he⟩:=jm.1 he;obtain⟨x0,atU,he⟩:=ay.1 he;rw[en.aeN _ _ atU]at he;rw[ax]at rV;exact⟨x,hx,D7.ZK (aGI ids) rV.2 hv,axZ ids hn (abV rV.1) h.bu,λv w' ha=>anR h hn rV.1 he ha⟩
theorem atr(h:Inv C g β s a w){f:FuncId}{en:Entry}(hd:tg P f en){ids:List Id}(hn:ids.Nodup){vs:List aA}{ys:List Value}(hv:D7 (s.env w g β) vs ys)
  (hr:(execOp a.eval o).run P w=(callFunc f ys.toArray).run P w) {s':AS} (he:(s.enter en o.dst ids vs).eval=aj s'):fp P o a w (gh C s'):=by
 obtain⟨x,hx,h1,h2,key⟩:=Vg h hn hv he;rcases hd _ _ _ _ _ _ _ h1 h2 hx with⟨D3,hc⟩ | ⟨v,w',aGC,ha⟩
 ·exact .inr (.inr (.inl ⟨f,ys.toArray,w,hr.trans D3,hc.mono λe w' ⟨v,he,ha⟩=>⟨v,he,key v w' ha⟩⟩))
 grind [fp]
theorem azE(h:Inv C g β s a w){c:Call}{F:bB}{f:FuncId}{caps:aA}{en:Entry}(ho:o.op= .call c)(hc:c.callee= .value F)(hF:s.ev F= .fn f caps)(hd:tg P f en){s':AS}
  (he:(s.call en o.dst (c.args.toList.map s.ev++caps.list)).eval=aj s'):fp P o a w (gh C s'):=by
 obtain⟨cal,args,tys⟩:=c;obtain⟨vs,hy,aON⟩:=abl (hF▸h.ev F);have I6:=(h.aSk args.toList).append (aau aON);have hr:(execOp a.eval o).run P w=(callFunc f (args.toList.map a.eval++vs).toArray).run P w:=by
  have e1:execOp a.eval o=(do let d <-resolve a.eval {callee:= .value F,args,argTypes:=tys} o.type;invoke d.target d.args):=by grind [execOp]
  rw[e1];simp[resolve,hy,Deferred.ofValue,invoke];congr 2;simp
 obtain⟨r,h1,h2⟩:=ay.1 he;obtain⟨g',i1,e1,_,f1⟩:=fa r.2 h;exact atr i1 hd (Es _ _) (Gl rfl h.bu e1 _ _ _ r I6 h1 f1) hr h2
theorem Gq{X R:Type}{S:X->Prop}{k:X->Option R}{r:R}(h:xS S k=aj r):(∃x,S x)/\∀x,S x->k x=aj r:=by
 unfold xS at h;split at h
 all_goals grind
theorem WW(h:Inv C g β s a w){f:FuncId}{en:Entry}(hd:Rm P f en){vs:List aA}{ys:List Value}(I6:D7 (s.env w g β) vs ys){R:Type}{k:AS->Option R}{r:R}
  (he:s.xy en o.dst vs k=aj r):(callFunc f ys.toArray).run P w= .ok (.enter f ys.toArray) w/\Calls P f ys.toArray w λe w'=>∃v,e= .returned v/\∃s',gh C s' (a.put o.dst v) w'/\k s'=aj r:=by
 unfold AS.xy at he;obtain⟨r2,h0,he⟩:=ea.1 he;obtain⟨r3,h1,h3⟩:=ay.1 h0;obtain⟨rV,h3⟩:=aD.1 h3;obtain rfl:=aw.1 h3;obtain⟨g',i1,e1,_,f1⟩:=fa r3.2 h;have hn:=Es (s.bj r3.2) r3.1;have hv:=Gl rfl h.bu e1 _ _ _ r3 I6 h1 f1;unfold AS.aks at he;obtain⟨hx,hk⟩:=Gq he;rw[ax]at rV;obtain⟨c1,c2⟩:=hd _ _ _ _ _ _ (D7.ZK (aGI _) rV.2 hv) (axZ _ hn (abV rV.1) i1.bu) hx;refine⟨c1,c2.mono λe w' ⟨v,x,aii,hs,ha⟩=>⟨v,aii,?_⟩⟩;obtain⟨s',h4,h5⟩:=ea.1 (hk x hs);obtain⟨x0,atU,h4⟩:=ay.1 h4;rw[en.aeN _ _ atU]at h4;exact⟨s',anR i1 hn rV.1 h4 ha,h5⟩
theorem Hs(h:Inv C g β s a w){c:Call}{F:bB}{f:FuncId}{caps:aA}{en:Entry}(ho:o.op= .call c)(hc:c.callee= .value F)(hF:s.ev F= .fn f caps)(hd:Rm P f en){R:Type}{k:AS->Option R}{r:R}
  (he:s.xy en o.dst (c.args.toList.map s.ev++caps.list) k=aj r):fp P o a w λa' w'=>∃s',gh C s' a' w'/\k s'=aj r:=by
 obtain⟨cal,args,tys⟩:=c;obtain⟨vs,hy,aON⟩:=abl (hF▸h.ev F);obtain⟨c1,c2⟩:=WW h hd ((h.aSk args.toList).append (aau aON)) he;refine .inr (.inr (.inl ⟨f,(args.toList.map a.eval++vs).toArray,w,Eq.trans ?_ c1,c2⟩));have e1:execOp a.eval o=(do let d <-resolve a.eval {callee:= .value F,args,argTypes:=tys} o.type;invoke d.target d.args):=by grind [execOp]
 rw[e1];simp[resolve,hy,Deferred.ofValue,invoke];congr 2;simp
theorem Hj.aYC{E:Env}{f:aA}{tmps:Array Value}(h:Hj E f tmps):D7 E f.list tmps.toList:=by
 obtain⟨h1,h2⟩:=h;have gen:∀(l:List aA) (ys:List Value),l.length=ys.length->(∀i,VS E (l.getD i .undef) (ys.getD i undef))->D7 E l ys:=by
  intro l
  induction l with
  |nil=>grind [D7]
  |cons x l ih=>intro ys hl hi;cases ys with
   |nil=>grind
   |cons y ys=>exact⟨by simpa using hi 0,ih ys (by grind) λi=>by simpa using hi (i+1)⟩
 simp_all
theorem aw5(h:Inv C g β s a w){c:Call}{F:bB}{id:Id}{ver:Nat}{rc:xO}{f:aA}{en:Entry}(ho:o.op= .call c)(hc:c.callee= .value F)
  (hF:s.yielded (s.ev F) c.args.size=aj (id,ver,rc,f)) (aT7:rc=avT P rc.y) (hd:D6 P rc.y en) {s':AS}
  (he:(s.call en o.dst (.yl id ver::(c.args.toList.map s.ev++f.list))).eval=aj s'):fp P o a w (gh C s'):=by
 obtain⟨cal,args,tys⟩:=c;simp only at hc he hF;subst hc;unfold AS.yielded at hF;split at hF;rotate_left
 ·cases hF
 rename_i id' ver' aii;split at hF;rotate_left
 ·cases hF
 rename_i v c0 f0 mw;split at hF;rotate_left
 ·cases hF
 rename_i aby;simp only[bf,jU]at hF;obtain⟨rfl,rfl,rfl,rfl⟩:=hF;simp only[ax,gE]at aby;obtain⟨⟨rfl,xr⟩,hy⟩:=aby;have di:=dI mw;have hv:=h.ev F;rw[aii]at hv;obtain⟨cs,hV,hO⟩:=hv;simp only[V]at hV;obtain⟨l,rfl,hb,iA⟩:=hV;have aQt:a.eval F= .func (.yield l) #[] #[]:=by simpa[fW,aA.agg]using hO.symm
 obtain⟨pl,hp,rfl⟩:=iA ⟨aS,_,di⟩;obtain⟨pl',r,hp',hh,hg,⟨q1,q2,q3⟩,af0,vR⟩:=h.bu id' v aS _ di;have hp':β id'=aj pl':=hp';have hp:β id'=aj pl:=hp;rw[hp']at hp;obtain rfl:pl'=pl:=by simpa using hp
 have hh:w.heap[pl'.b]? =aj (.loop r):=hh
 have I6:D7 (s.env w g β) (.yl id' v::(args.toList.map s.ev++f0.list)) (.func (.yield pl'.b) #[] #[]::(args.toList.map a.eval++r.tmps.toList)):=
  ⟨by rw[<-aQt,<-aii];exact h.ev F,(h.aSk args.toList).append af0.aYC⟩
 have hr:(execOp a.eval o).run P w= .ok (.round pl'.b r.fn ((c0.ps.zip (args.toList.map a.eval).toArray).foldl (λtmps (t,a)=>tmps.setIfInBounds t a) r.tmps.toList.toArray) c0.as c0.b) w:=by
  have e1:execOp a.eval o=(do let d <-resolve a.eval {callee:= .value F,args,argTypes:=tys} o.type;invoke d.target d.args):=by simp only[execOp,ho]
  have e2:=run_yield (P:=P) (args:=args.map a.eval) hh (by simpa[q1]using xr);rw[q1,q2,q3]at e2;rw[e1];simp only[resolve,aQt,Deferred.ofValue,dM,Sem.run_pure,cU,invoke];have e3:(args.toList.map a.eval).toArray=args.map a.eval:=by apply uz;simp
  rw[e3];simpa using e2
 unfold AS.call at he;obtain⟨r2,h1,h2⟩:=ay.1 he;obtain⟨g',i1,e1,_,f1⟩:=fa r2.2 h;obtain⟨x,hx,k1,k2,key⟩:=Vg i1 (Es _ _) (Gl rfl h.bu e1 _ _ _ r2 I6 h1 f1) h2;refine .inr (.inr (.inr ⟨pl'.b,r.fn,_,c0.as,c0.b,w,hr,λrd n=> ?_⟩));have:=hd.2.1 hy _ _ _ _ _ _ x k1 k2 hx pl'.b (args.toList.map a.eval) r.tmps.toList r.fn rd n rfl (by rw[<-aT7];simpa using xr);rw[<-aT7]at this;exact this.mono λe w' ⟨v,he,ha⟩=>⟨v,he,key v w' ha⟩
def iU.KG:iU->iU
 | .gD=> .gD
 |_=> .free
theorem iU.Te(l:iU)(h:l≠ .gD):l.KG= .free:=by cases l <;> first | rfl | exact absurd rfl h
def XZ(w:World)(g:Nat->iU):Env:=(jM []).env w (λb=>(g b).KG) λ_=>aF
theorem cn.agj{w:World}{g:Nat->iU}{E:Env}(hw:E.w=w)(hg:E.g=g):∀ {t:Ty} {cs:List Value} {x:t.den},t.agj.qh=aL->cn E.open t cs x->cn (XZ w g) t.agj cs (t.Ky x):=by
 have hm:vd E.open (XZ w g):=by
  refine⟨λb off v ⟨h1,h2⟩=>⟨by rw[<-hw];exact h1,?_⟩,λb ob h1 h2=>⟨?_,by rw[<-hw];exact h2⟩,λb cur e h1 h2=>⟨?_,cur,by rw[<-hw];exact h2,rfl⟩⟩
  ·have h2:ku (λb=>(E.g b).open) b off:=h2;have h3:E.g b≠ .gD:=λe=>by unfold ku at h2;simp only[e,iU.open]at h2
   show ku (λb=>(g b).KG) b off;unfold ku;rw[<-hg];simp only[iU.Te _ h3]
  ·have h1:(E.g b).open= .free:=h1;show(g b).KG= .free;rw[<-hg];exact iU.Te _ λe=>by rw[e]at h1;cases h1
  ·have h1:(E.g b).open= .gD:=h1;show(g b).KG= .gD;rw[<-hg];cases hb:E.g b <;> rw[hb]at h1 <;> first | rfl | cases h1
 intro t
 induction t with
 |eP t _=>
  intro cs x hn h;have hn:t.qh=aL:=hn;simp only[cn]at h;obtain⟨a,cap,vs,e,hl,hs,hc,h1,h2⟩:=h;show cn (XZ w g) (.slice t) cs (x:Bool×List t.den).2;simp only[cn];refine⟨a,cap,vs,e,hl,hs,?_,hc.mono λc y hy=>hy.ik hm (.inl hn)⟩;cases hx:(x:Bool×List t.den).1 with
  |false=>exact(h1 hx).mono hm
  |true=>
   intro i v hv;obtain⟨b,off,ha,tp,hf,_⟩:=h2 hx i v hv;have hf:(E.g b).open= .fresh:=hf;refine⟨b,off,ha,by rw[<-hw];exact tp,?_⟩;show ku (λb=>(g b).KG) b (off+i);unfold ku;rw[<-hg];have h3:E.g b≠ .gD:=λe=>by rw[e]at hf;cases hf
   simp only[iU.Te _ h3]
 |pair a b iha ihb=>
  intro cs x hn h;have hn:(a.agj.qh && b.agj.qh)=aL:=hn;rw[ax]at hn;simp only[cn]at h;obtain⟨ca,cb,e,ha,hb⟩:=h;show cn (XZ w g) (.pair a.agj b.agj) cs (a.Ky x.1,b.Ky x.2);simp only[cn];exact⟨ca,cb,e,iha hn.1 ha,ihb hn.2 hb⟩
 |_=>
  intro cs x hn h;exact h.ik hm (.inl hn)
theorem aDA(h:Inv C g β s a w):∀(v:aA) (t:Ty) (x:t.den) (cs:List Value),V (s.env w g β) v cs->(s.xg t v).eval=aj x->cn (XZ w g) t cs x:=by
 intro v
 induction v with
 |d t' x'=>
  intro t x cs hv he;have he:(Out.guard t'.agj.qh (Out.opt (AM t'.agj t (t'.Ky x')))).eval=aj x:=by cases t <;> simpa only[AS.xg]using he
  obtain⟨h1,h2⟩:=aD.1 he;simp only[V]at hv;exact xP (gS.1 h2) (cn.agj (E:=s.env w g β) rfl rfl h1 (hv.mono (als _).mem))
 |cT=>
  intro t x cs hv he;cases t <;> simp only[AS.xg,av]at he;obtain rfl:=aw.1 he;simp only[V]at hv;simp only[cn];exact⟨aF,0,[],by simpa using hv,by simp,by simp,λi v hh=>by simp at hh,rfl⟩
 |cg id ver p c i len=>
  intro t x cs hv he;cases t <;> simp only[AS.xg,av]at he;obtain⟨⟨n,t',l⟩,h1,h2⟩:=ay.1 he;obtain⟨h3,h4⟩:=bP.1 h2;obtain⟨h5,h6⟩:=aD.1 h4;have hr:=aeO (E':=(s.env w g β).open) rfl h.bu (als _) h1 h3 hv (λid _ v fr c hs pl hp j x hx _=>⟨hx,ap5 (h.bu id v fr c hs) hp j⟩);refine xP (gS.1 h6) ?_
  simp only[cn]at hr ⊢;obtain⟨ad,cap,vs,e,hl,hs,nL,hc⟩:=hr;have e2:cut (l.map t'.Ky) i len=(cut l i len).map t'.Ky:=by simp[cut,List.map_drop,List.map_take]
  rw[e2,List.length_map];refine⟨ad,cap,vs,e,hl,hs,λj v hj=> ?_,hc.map λc y hy=>cn.agj (E:=s.env w g β) rfl rfl h5 hy⟩;obtain⟨b,off,ha,tp,gb⟩:=nL j v hj;refine⟨b,off,ha,tp,?_⟩;have gb:ku (λb=>(g b).open) b (off+j):=gb;have h3:g b≠ .gD:=λe=>by unfold ku at gb;simp only[e,iU.open]at gb
  show ku (λb=>(g b).KG) b (off+j);unfold ku;simp only[iU.Te _ h3]
 |pr u v ihu ihv=>
  intro t x cs hv he;cases t <;> simp only[AS.xg,av]at he;obtain⟨x1,h1,h2⟩:=ay.1 he;obtain⟨x2,h3,h4⟩:=ay.1 h2;obtain rfl:=aw.1 h4;simp only[V]at hv;obtain⟨ca,cb,e,ha,hb⟩:=hv;simp only[cn];exact⟨ca,cb,e,ihu _ x1 ca ha h1,ihv _ x2 cb hb h3⟩
 |_=>intro t x cs hv he;cases t <;> simp only[AS.xg,av]at he
theorem aMW(t:Ty):t.agj.agg=t.agg:=by cases t <;> rfl
theorem amY{t:Ty}{v:aA}{x:t.den}(h:(s.xg t v).eval=aj x):v.eg=aL:=by
 cases v <;> first
  |rfl
  | (cases t <;> simp only[AS.xg,av]at h)
theorem aDz{t:Ty}{v:aA}{x:t.den}(h:(s.xg t v).eval=aj x):v.agg=t.agg:=by
 cases v with
 |d t' x'=>
  have h':(Out.guard t'.agj.qh (Out.opt (AM t'.agj t (t'.Ky x')))).eval=aj x:=by cases t <;> simpa only[AS.xg]using h
  rw[<-Va (gS.1 (aD.1 h').2),aMW];rfl
 |_=>cases t <;> first | rfl | (simp only[AS.xg,av]at h)
theorem X1(h:Inv C g β s a w):∀ {ps:List (Option Ty)} {vs vs':List aA} {ys:List Value},D7 (s.env w g β) vs ys->(s.KH ps vs).eval=aj vs'->D7 (XZ w g) vs' ys
 |[],[],vs',ys,hv,he=>by
  obtain rfl:=aw.1 he;cases ys with
  |nil=>trivial
  |cons _ _=>exact hv.elim
 |some t::ps,v::vs,vs',[],hv,he=>hv.elim
 |some t::ps,v::vs,vs',y::ys,⟨h1,h2⟩,he=>by simp only[AS.KH]at he;obtain⟨x,hx,he⟩:=ay.1 he;obtain⟨r,hr,he⟩:=ay.1 he;obtain rfl:=aw.1 he;obtain⟨cs,hV,hO⟩:=h1.eg (amY hx);exact⟨⟨cs,by simpa only[V]using aDA h v t x cs hV hx,by rw[aDz hx]at hO;exact hO⟩,X1 h h2 hr⟩
 |none::_,_::_,_,_,_,he=>by simp only[AS.KH,av]at he
 |[],_::_,_,_,_,he=>by simp only[AS.KH,av]at he
 |_::_,[],_,_,_,he=>by simp only[AS.KH,av]at he
theorem Hr(h:Inv C g β s a w){c:Call}{F:bB}{f:FuncId}{caps:aA}{en:Entry}(ho:o.op= .call c)(hc:c.callee= .value F)(hF:s.ev F= .fn f caps)(hd:tg P f en){s':AS}
  (he:(s.AL en o.dst (c.args.toList.map s.ev++caps.list)).eval=aj s'):fp P o a w (gh C s'):=by
 obtain⟨cal,args,tys⟩:=c;simp only at hc he;subst hc;obtain⟨vs,hy,aON⟩:=abl (hF▸h.ev F);have I6:=(h.aSk args.toList).append (aau aON);have hr:(execOp a.eval o).run P w=(callFunc f (args.toList.map a.eval++vs).toArray).run P w:=by
  have e1:execOp a.eval o=(do let d <-resolve a.eval {callee:= .value F,args,argTypes:=tys} o.type;invoke d.target d.args):=by simp only[execOp,ho]
  rw[e1];simp only[resolve,hy,Deferred.ofValue,dM,Sem.run_pure,cU,invoke];congr 2;simp
 unfold AS.AL at he;obtain⟨vs',h1,he⟩:=ay.1 he;obtain⟨x,hx,he⟩:=jm.1 he;obtain⟨x0,atU,he⟩:=ay.1 he;rw[en.aeN _ _ atU]at he;obtain⟨aGo,he⟩:=aD.1 he;obtain rfl:=aw.1 he;have hv:=X1 h I6 h1;have hO:iL (XZ w g):=by intro id ver fr c hs;have hs:(jM []).bT id=aj (.obj ver fr c):=hs;cases id <;> simp[jM,AS.bT]at hs
 have key:∀v w',CF (XZ w g) (en.out vs' [] x) v w'->gh C (s.put o.dst (en.out vs' [] x).val) (a.put o.dst v) w':=λv w' ⟨g',β',xV,_,ht,_⟩=>by
  have ht:kG aS w w' (λb=>(g b).KG) g':=ht;have aoV:∀b,b < w.heap.size->g b≠ .gD->w'.heap[b]? =w.heap[b]? :=λb hb hj=>by have:=ht.afP b hb;simp only[iU.Te _ hj]at this;exact this.2
  have aOM:Trans w w' g λb=>if b < w.heap.size then g b else .own .dX 0:=by
   refine⟨ht.os,ht.tape,ht.output,ht.size,λb hb=> ?_⟩;simp only[hb,bE];cases hg:g b with
   |free=>exact⟨rfl,aoV b hb (by rw[hg];simp)⟩
   |own o' k=>cases o' with
    |dX=>exact⟨rfl,aoV b hb (by rw[hg];simp)⟩
    |id i=>exact⟨.inr (.inr ⟨i,k,rfl,aB _⟩),λoff v _ hv=>by simpa only[eL,aoV b hb (by rw[hg];simp)]using hv⟩
   |fresh=>exact .inl ⟨rfl,aoV b hb (by rw[hg];simp)⟩
   |gD=>
    have:=ht.afP b hb;simp only[hg,iU.KG]at this;exact⟨rfl,this.2⟩
  have hle:cM (s.env w g β) (s.env w' (λb=>if b < w.heap.size then g b else .own .dX 0) β):=cM.same aOM;have i1:=h.step rfl aOM hle (iL.same h.bu hle λi ver fr c pl hi hp=>by
   obtain⟨hl,Vo⟩:=(h.bu i ver fr c hi).label (pl:=pl) hp;have hl':pl.b < w.heap.size:=hl;refine⟨aoV _ hl' λe=> ?_,by show(if pl.b < w.heap.size then g pl.b else _)=_;rw[if_pos hl']⟩;have Vo:(∃k,g pl.b= .own (.id i) k)\/(fr=aL/\g pl.b= .free):=Vo;rw[e]at Vo;rcases Vo with⟨_,hk⟩ | ⟨_,hk⟩ <;> cases hk)
  refine⟨_,β,i1.put o.dst ?_⟩;generalize (en.out vs' [] x).val=u at xV aGo;cases u with
  |d t y=>cases t with
   |int k=>rw[wo xV];exact kH _ _
   |bool=>rw[Rz xV];exact yx _
   |_=>simp[aA.flat]at aGo
  |_=>simp[aA.flat]at aGo
 rcases hd _ _ _ _ _ _ _ hv hO hx with⟨D3,aXC⟩ | ⟨v,w',aGC,ha⟩
 ·exact .inr (.inr (.inl ⟨f,(args.toList.map a.eval++vs).toArray,w,hr.trans D3,aXC.mono λe w' ⟨v,he,ha⟩=>⟨v,he,key v w' ha⟩⟩))
 ·exact .inl ⟨v,w',hr.trans aGC,key v w' ha⟩
end
end Go.Ab
namespace Go.Ab
section
variable {P:Program} {C:Ctx} {g:Nat->iU} {β:Id->Option Pl} {s:AS} {a:Act} {w:World} {o:Oper}
theorem jP{b:Builtin}{args:Array bB}{ts:Array TypeId}{F:TypeId->Array Value->Sem Value}{x:Value}{w':World}{s':AS}(ho:o.op= .call {callee:= .builtin b,args,argTypes:=ts})
  (hb:∀ty cs xs,builtin b ts ty cs xs=(do pure (.value (<-F ty xs)))) (hf:∀ty,(F ty (args.map a.eval)).run P w= .ok x w') (h2:∃g' β',Inv C g' β' s' (a.put o.dst x) w'):fp P o a w (gh C s'):=by
 refine .inl ⟨x,w',?_,h2⟩;simp[execOp,ho,resolve,invoke];rw[hb,dM,hf];rfl
theorem ate(h:Inv C g β s a w){src dst:TypeId}{x:bB}(ho:o.op= .convert src dst x){id:Id}{ver:Nat}(hx:s.ev x= .ptr id ver [] 0){v:aA}(he:(ahV P s src dst id ver).eval=aj v):fp P o a w (gh C (s.put o.dst v)):=by
 have hv:=h.ev x;rw[hx]at hv;obtain⟨ad,hy,hb,hc⟩:=wJ hv;have fin:v= .ptr id ver [] 0->(convert src dst (a.eval x)).run P w= .ok (a.eval x) w->fp P o a w (gh C (s.put o.dst v)):=by intro h1 h2;subst h1;exact h.value hv (eH (f:=convert src dst (a.eval x)) (by grind [execOp]) h2)
 unfold ahV at he;split at he
 ·rename_i v0 fr e c mw;have di:=dI mw;obtain⟨pl',cur,e',hp',hh,hg,hk,hV⟩:=(h.bu id v0 fr _ di).box rfl;subst hk;have hV:V (s.env w g β) c (cur.toList.take cur.size):=hV;have hh:w.heap[pl'.b]? =aj (.cells cur e' (0,0)):=hh
  have xr:=hV.size;have aGy:w.shape? pl'.b=aj (e',c.size):=by grind [World.shape?]
  split at he
  ·rename_i t hS hD;obtain⟨h1,h2⟩:=aD.1 he;have h2:=aw.1 h2;simp at h1;obtain⟨⟨rfl,h3⟩,h4⟩:=h1;obtain⟨pl,hp,rfl⟩:=hc ⟨fr,_,di⟩;cases hi:P.info? t with
   |none=>grind [Program.cellsOf]
   |some j=>
    grind [Go.Lib.run_to_unsafe,Program.cellsOf]
  ·rename_i u hS hD;obtain⟨h1,h2⟩:=aD.1 he;have h2:=aw.1 h2;simp at h1;obtain⟨⟨rfl,h3⟩,h4⟩:=h1;obtain⟨pl,hp,rfl⟩:=hc ⟨fr,_,di⟩;cases hi:P.info? u with
   |none=>grind [Program.cellsOf]
   |some j=>grind [Go.Lib.run_from_unsafe]
  grind [av]
 grind [av]
theorem aFT(h:Inv C g β s a w){T U:TypeId}{op:BinOp}{x y:bB}(ho:o.op= .binOp op T x y U){i j:Id}{v1 v2:Nat}(hx:s.ev x= .ptr i v1 [] 0)(hy:s.ev y= .ptr j v2 [] 0){v:aA}(he:(aRH P s T op i v1 j v2).eval=aj v):
  fp P o a w (gh C (s.put o.dst v)):=by
 unfold aRH at he;split at he
 ·rename_i v' fr c mw;obtain⟨h1,h2⟩:=aD.1 he;simp at h1;obtain⟨⟨⟨rfl,rfl⟩,rfl⟩,aWS⟩:=h1;have di:=dI mw;have Xq:=h.ev x;have aOP:=h.ev y;rw[hx]at Xq;rw[hy]at aOP;obtain⟨ad,aWn,_,hc⟩:=wJ Xq;obtain⟨ad',aWo,_,hc'⟩:=wJ aOP;obtain⟨pl,hp,rfl⟩:=hc ⟨fr,c,di⟩;obtain⟨pl',hp',rfl⟩:=hc' ⟨fr,c,di⟩;have hT:∃t j,P.underlying T=aj (.pointer t)/\P.info? t=aj j:=by grind [aTt,Option.isSome_iff_exists]
  obtain⟨t,j,hT,hj⟩:=hT
  have hq:(Op.equal T (.pointer (aj ⟨pl.b,0,aF⟩)) (.pointer (aj ⟨pl.b,0,aF⟩))).run P w= .ok aL w:=
   eC λd=>by simp[dg,run_underlying hT,sizeOf,typeInfo,hj,run_sameAddr_same]
  have aYT:(eqGuard op T x y (a.eval x) (a.eval y)).run P w= .ok () w:=by simp_all [eqGuard]
  have fin:∀z,(binOp op T (a.eval x) (a.eval y)).run P w= .ok z w->VS (s.env w g β) v z->fp P o a w (gh C (s.put o.dst v)):=by
   intro z h1 h3;refine h.value h3 ?_
   simp_all [execOp]
  split at h2
  ·obtain rfl:=aw.1 h2;refine fin (.bool aL) ?_ (yx aL)
   simp_all [binOp]
  ·obtain rfl:=aw.1 h2;refine fin (.bool aS) ?_ (yx aS)
   simp_all [binOp]
  grind [av]
 grind [av]
theorem aOo{c:Call}{b:Builtin}{x:bB}(hc:c.callee= .builtin b)(ha:c.args.toList=[x]):c= {callee:= .builtin b,args:= #[x],argTypes:=c.argTypes}:=by
 obtain⟨cal,args,tys⟩:=c;have ha':args= #[x]:=by grind
 grind
theorem axe{c:Call}{b:Builtin}{x y:bB}(hc:c.callee= .builtin b)(ha:c.args.toList=[x,y]):c= {callee:= .builtin b,args:= #[x,y],argTypes:=c.argTypes}:=by
 obtain⟨cal,args,tys⟩:=c;have ha':args= #[x,y]:=by grind
 grind
theorem aVP{ts:Array TypeId}{T:TypeId}(h:ts.toList=[T]):ts= #[T]:=by grind
theorem aRq{ts:Array TypeId}{T U:TypeId}(h:ts.toList=[T,U]):ts= #[T,U]:=by grind
theorem aE5(h:Inv C g β s a w){c:Call}{x:bB}{T e:TypeId}(ho:o.op= .call c)(hc:c.callee= .builtin .cap)(ha:c.args.toList=[x])(ht:c.argTypes.toList=[T])(hx:s.ev x= .cT)(hT:P.underlying T=aj (.slice e)):
  fp P o a w (gh C (s.put o.dst (.d (.int .i64) (0:Int)))):=by
 rw[aOo hc ha,aVP ht]at ho;have hv:=h.ev x;rw[hx]at hv;have hy:=lZ hv;refine jP ho (F:=λty xs=>Builtin.cap_ #[T] ty xs) (λty cs xs=>rfl) (x:= .int .i64 0) (w':=w) (λty=> ?_) ⟨g,β,h.put o.dst (kH _ _)⟩;simp_all [Builtin.cap_,run_underlying,goInt]
theorem arZ(h:Inv C g β s a w){c:Call}{x:bB}{id:Id}{ver len:Nat}(ho:o.op= .call c)(hc:c.callee= .builtin .unsafeSliceData)(ha:c.args.toList=[x])(hx:s.ev x= .cg id ver [] 0 0 len)(hl:0 < len):
  fp P o a w (gh C (s.put o.dst (.ptr id ver [.idx 0] 0))):=by
 rw[aOo hc ha]at ho;have hv:=h.ev x;rw[hx]at hv;obtain⟨ad,cap,hy,abx,hs,hb,iA⟩:=uu hv;obtain⟨ad,rfl⟩:=Option.isSome_iff_exists.1 (hs hl);refine jP ho (F:=λty xs=>Builtin.unsafeSliceData_ c.argTypes ty xs) (λty cs xs=>rfl) (x:= .pointer (aj ad)) (w':=w) (λty=> ?_) ⟨g,β,h.put o.dst ?_⟩
 ·grind [Go.Lib.run_unsafeSliceData_row]
 ·refine⟨[.pointer (aj ad)],?_,rfl⟩;grind [V]
theorem apA(h:Inv C g β s a w){c:Call}{mx:Bool}(ho:o.op= .call c)(hc:c.callee= .builtin (if mx then .max else .min)){v:aA}(he:(aA1 mx (c.args.toList.map s.ev)).eval=aj v):fp P o a w (gh C (s.put o.dst v)):=by
 unfold aA1 at he;split at he
 ·rename_i k x k' y aEi;obtain⟨h1,h2⟩:=aD.1 he;obtain rfl:=aw.1 h2;have axR:∃p q,c.args.toList=[p,q]/\s.ev p= .d (.int k) x/\s.ev q= .d (.int k) y:=by
   match hh:c.args.toList,aEi with
   |[p,q],aEi=>grind
   |[],aEi=>grind
   |[_],aEi=>grind
   |_::_::_::_,aEi=>grind
  obtain⟨p,q,ha,hp,hq⟩:=axR;rw[axe hc ha]at ho;have aQr:=h.ev p;have aOO:=h.ev q;rw[hp]at aQr;rw[hq]at aOO;have ep:=wo aQr;have eq:=wo aOO;cases mx with
  |true=>
   refine jP ho (F:=λty xs=>Builtin.max_ c.argTypes ty xs) (λty cs xs=>rfl) (x:= .int k (if x < y then y else x)) (w':=w) (λty=> ?_) ⟨g,β,h.put o.dst (kH _ _)⟩;simp_all [Builtin.max_,Builtin.max2]
  |false=>
   refine jP ho (F:=λty xs=>Builtin.min_ c.argTypes ty xs) (λty cs xs=>rfl) (x:= .int k (if y < x then y else x)) (w':=w) (λty=> ?_) ⟨g,β,h.put o.dst (kH _ _)⟩;simp_all [Builtin.min_,Builtin.min2]
 ·rename_i k x k' y k2 z aEi;obtain⟨h1,h2⟩:=aD.1 he;obtain rfl:=aw.1 h2;have axR:∃p q r,c.args.toList=[p,q,r]/\s.ev p= .d (.int k) x/\s.ev q= .d (.int k) y/\s.ev r= .d (.int k) z:=by
   match hh:c.args.toList,aEi with
   |[p,q,r],aEi=>grind
   |[],aEi=>grind
   |[_],aEi=>grind
   |[_,_],aEi=>grind
   |_::_::_::_::_,aEi=>grind
  obtain⟨p,q,r,ha,hp,hq,hr⟩:=axR;have aRI:c= {callee:= .builtin (if mx then .max else .min),args:= #[p,q,r],argTypes:=c.argTypes}:=by
   obtain⟨cal,args,tys⟩:=c;have ha':args= #[p,q,r]:=by grind
   grind
  rw[aRI]at ho;have aQr:=h.ev p;have aOO:=h.ev q;have ain:=h.ev r;rw[hp]at aQr;rw[hq]at aOO;rw[hr]at ain;have ep:=wo aQr;have eq:=wo aOO;have er:=wo ain;cases mx with
  |true=>
   refine jP ho (F:=λty xs=>Builtin.max_ c.argTypes ty xs) (λty cs xs=>rfl) (x:= .int k (if(if x < y then y else x) < z then z else(if x < y then y else x))) (w':=w) (λty=> ?_) ⟨g,β,h.put o.dst (kH _ _)⟩;rw[show(#[p,q,r].map a.eval)= #[a.eval p,a.eval q,a.eval r] by simp,ep,eq,er];simp[Builtin.max_,Builtin.max2]
  |false=>
   refine jP ho (F:=λty xs=>Builtin.min_ c.argTypes ty xs) (λty cs xs=>rfl) (x:= .int k (if z < (if y < x then y else x) then z else(if y < x then y else x))) (w':=w) (λty=> ?_) ⟨g,β,h.put o.dst (kH _ _)⟩;rw[show(#[p,q,r].map a.eval)= #[a.eval p,a.eval q,a.eval r] by simp,ep,eq,er];simp[Builtin.min_,Builtin.min2]
 grind [av]
theorem aAq(h:Inv C g β s a w){c:Call}{x y:bB}{T X:TypeId}{k:kY}{n:Int}(ho:o.op= .call c)(hc:c.callee= .builtin .append)(ha:c.args.toList=[x,y])(ht:c.argTypes.toList=[T,X])(hx:s.ev x= .cT)(hy:s.ev y= .d (.int k) n){s':AS}
  (he:(aoQ P s o.dst T X n).eval=aj s'):fp P o a w (gh C s'):=by
 rw[axe hc ha,aRq ht]at ho;have Xq:=h.ev x;have aOP:=h.ev y;rw[hx]at Xq;rw[hy]at aOP;have ex:=lZ Xq;have ey:=wo aOP;unfold aoQ at he;split at he
 ·rename_i e t b q kn Rk hd hX;obtain⟨hT,hz,i,zv,hi,aEa,aSS,atV,aEj⟩:=Fi Rk;obtain⟨hq,h2⟩:=aD.1 he;obtain⟨h3,h4⟩:=bP.1 h2;obtain rfl:=aw.1 h4;simp[ax,bO,dd]at h3;obtain⟨h5,h7,h8⟩:=h3;obtain⟨m,rfl⟩:=Int.eq_ofNat_of_zero_le (Int.le_of_lt h5);have aVl:zv.cells.size=t.size:=by have:=(aEj (s.env w g β)).size;grind
  have hr:=λty=>Go.Lib.run_append_nil_zeros (P:=P) w T X ty e i zv k kn hT hX hi atV m au (by grind) au (by grind)
  obtain⟨cap,abx⟩:∃cap,grownCap w m 0 e=cap:=⟨_,rfl⟩;have c1:m<=cap:=by grind [grownCap_ge]
  have c2:cap<=maxLen:=by grind [grownCap_le_maxLen,maxLen]
  rw[abx]at hr;obtain⟨cur,iA⟩:∃cur,Builtin.zeroCells zv.cells m++Builtin.zeroCells zv.cells (cap - m)=cur:=⟨_,rfl⟩;rw[iA]at hr;have s1:cur.size=cap*t.size:=by rw[<-iA,Array.size_append,DZ,DZ,<-hP];grind
  have rV:=w8 (aEj (s.env w.drew g β)) m;have s2:cur.toList.take (m*t.size)=(madeCells zv.cells (m*t.size)).toList:=by grind [madeCells,Builtin.zeroCells]
  obtain⟨g2,β2,i2,aim⟩:=(h.drew).ali hq (e:=e) (l:=ae m t.zero) (cur:=cur) (cap:=cap) hz (by grind) s1 (by grind) c2;rw[dR]at aim;refine jP ho (F:=λty xs=>Builtin.append_ #[T,X] ty xs) (λty cs xs=>rfl) (λty=> ?_) ⟨g2,β2,i2.put o.dst aim⟩;rw[show(#[x,y].map a.eval)= #[a.eval x,a.eval y] by simp,ex,ey];exact hr ty
 grind [av]
theorem aji:∀(xs:List Int) (a:Addr) (acc:ByteArray),(∀j x,xs[j]? =aj x->w.cell? (a.add j)=aj (.int .u8 x))->
  (loadBytes a acc xs.length).run P w= .ok ⟨acc.data++(xs.map λn=>UInt8.ofNat n.toNat).toArray⟩ w
 |[],a,acc,_=>by simp[loadBytes]
 |x::l,a,acc,h=>by
  have h0:w.cell? a=aj (.int .u8 x):=by have:=h 0 x rfl;grind [Addr.add]
  have ih:=aji l (a.add 1) (acc.push x.toNat.toUInt8) (λj y hy=>by
   have:=h (j+1) y (by grind);grind [Addr.add])
  simp_all [loadBytes]
theorem aDx(h:Inv C g β s a w){c:Call}{x y:bB}{T U:TypeId}{id:Id}{ver:Nat}{n:Int}(ho:o.op= .call c)(hc:c.callee= .builtin .unsafeString)(ha:c.args.toList=[x,y])(ht:c.argTypes.toList=[T,U])
  (hx:s.ev x= .ptr id ver [.idx 0] 0) (hy:s.ev y= .d (.int .i64) n) {s':AS} (he:(asf P s o.dst T id ver n).eval=aj s'):fp P o a w (gh C s'):=by
 rw[axe hc ha,aRq ht]at ho;have Xq:=h.ev x;rw[hx]at Xq;obtain⟨ad,aWn,_,aXD⟩:=wJ Xq;have aOP:=h.ev y;rw[hy]at aOP;have aWo:=wo aOP;unfold asf at he;split at he
 ·rename_i v e l u mw hT;obtain⟨h1,h2⟩:=aD.1 he;obtain⟨h3,h4⟩:=bP.1 h2;obtain rfl:=aw.1 h4;simp only[ax,gE]at h1;obtain⟨⟨rfl,rfl⟩,aQc⟩:=h1;simp only[bO]at h3;obtain⟨h5,h6⟩:=h3;obtain⟨n,rfl⟩:=Int.eq_ofNat_of_zero_le (Int.le_of_lt h5);have h6:n<=(l:List Int).length:=au;have di:=dI mw;obtain⟨pl,hp,rfl⟩:=aXD ⟨aS,_,di⟩;have hp:β id=aj pl:=hp;have hO:xo (s.env w g β) id aS (.vec u (.int .u8) l):=h.bu id v aS _ di;obtain⟨hz,hO⟩:=hO;have hO:(match β id with
   |none=>l=[]
   |some pl=>∃cur k,w.heap[pl.b]? =aj (.cells cur u (0,0))/\cur.size=pl.cap*(Ty.int .u8).size/\(l:List Int).length<=pl.cap/\pl.cap<=maxLen/\g pl.b= .own (.id id) k/\
     k<=(l:List Int).length*(Ty.int .u8).size/\(aS=aS->k=0)/\bo (cn (s.env w g β) (.int .u8)) (cur.toList.take ((l:List Int).length*(Ty.int .u8).size)) l):=hO
  rw[hp]at hO;obtain⟨cur,k,q1,q2,q3,q4,q5,q6,q7,q8⟩:=hO;have hk:=q7 rfl;subst hk;have abC:(Ty.int .u8).size=1:=rfl;rw[abC,hZ]at q2 q8;have ao3:=zC q8;have aGy:w.shape? pl.b=aj (u,cur.size):=by simp only[World.shape?,q1]
  have tp:∀j z,((l:List Int).take n)[j]? =aj z->w.cell? ((⟨pl.b,0,aF⟩:Addr).add j)=aj (.int .u8 z):=λj z hj=>by
   rw[dA]at hj;split at hj
   ·rename_i aYV;have aUQ:j < (l:List Int).length:=au;rw[eI,aU];simp only[eL,q1];have:(cur.toList.take (l:List Int).length)[j]? =aj (.int .u8 z):=by rw[ao3,gI,hj];rfl
    rw[dA,if_pos aUQ]at this;simpa using this
   ·cases hj
  have hlen:((l:List Int).take n).length=n:=by rw[dw];omega
  have aEb:=aji (P:=P) (w:=w) ((l:List Int).take n) ⟨pl.b,0,aF⟩ .empty tp;rw[hlen]at aEb;have aSY:=Go.Lib.liesAt_bytes (P:=P) (e:=u) (by simpa using aQc) (cur.size / P.cellsOf u) n (by
   rw[show P.cellsOf u=1 by simpa using aQc,Nat.div_one];omega)
  have aGq:∃w',w.freeze ⟨pl.b,0,aF⟩ n=w'/\w'.os=w.os/\w'.tape=w.tape/\(w'.output=w.output/\w.drawn<=w'.drawn)/\w'.heap.size=w.heap.size/\∀b',b'≠pl.b->w'.heap[b']? =w.heap[b']? :=by refine⟨_,rfl,?_⟩;unfold World.freeze;rw[if_neg au];refine⟨rfl,rfl,⟨rfl,aB _⟩,by simp,λb' hb'=> ?_⟩;simp only[Array.getElem?_modify];rw[if_neg (λe=>hb' e.symm)]
  obtain⟨w',hw',f1,f2,f3,f4,f5⟩:=aGq;have i1:=(h.kill di q5 f1 f2 f3 f4 f5 (lb:= .free) (.inl rfl)).1;have aWk:¬(9223372036854775807:Int) < (n:Int):=by unfold maxLen at q4;omega
  have aU0:¬(n:Int) < 0:=au;have aQl:n≠0:=au;have aUW:IntKind.i64.max=9223372036854775807:=rfl;refine jP ho (F:=λty xs=>Builtin.unsafeString_ #[T,U] ty xs) (λty cs xs=>rfl) (x:= .string (iY ((l:List Int).take n))) (w':=w') (λty=> ?_) ⟨_,β,i1.put o.dst ⟨[.string (iY ((l:List Int).take n))],by simp only[V,cn];rfl,rfl⟩⟩;rw[show(#[x,y].map a.eval)= #[a.eval x,a.eval y] by simp,aWn,aWo]
  have aQe:Builtin.unsafeString_ #[T,U] ty #[.pointer (aj ⟨pl.b,0,aF⟩),.int .i64 n]=
    (do
     let n <-Go.asInt (.int .i64 n)
     if n < 0 then runtimePanic (.error "unsafe.String: len out of range")
     if n > IntKind.i64.max then unsupported (.unsafePointer "String: a length above the largest int")
     if n=0 then pure (.string .empty)
     else if <-variablesAt ⟨pl.b,0,aF⟩ (<-elemOf T) n.toNat then do
      let s <-loadBytes ⟨pl.b,0,aF⟩ .empty n.toNat
      freeze ⟨pl.b,0,aF⟩ n.toNat
      pure (.string s)
     else unsupported (.unsafePointer "String: not so many bytes at ptr")):=rfl
  rw[aQe];simp[Go.asInt,asIntOf,aUW,aWk,aU0,aQl,variablesAt,aGy,elemOf,run_underlying hT,aSY,aEb,hw',iY]
 ·simp only[av]at he
end
end Go.Ab
namespace Go.Ab
section
variable {P:Program} {C:Ctx} {g:Nat->iU} {β:Id->Option Pl} {s:AS} {a:Act} {w:World} {o:Oper}
theorem apu(h:Inv C g β s a w){c:Call}{T T2:TypeId}{m k:bB}(eK:o.op= .call c)(hc:c.callee= .builtin .delete)(ha:c.args.toList=[m,k])(ht:c.argTypes.toList=[T,T2]){s':AS}(he:(HR P s T (s.ev m) (s.ev k)).eval=aj s'):fp P o a w (gh C (s'.put o.dst .nil)):=by
 have eK:o.op= .call {callee:= .builtin .delete,args:= #[m,k],argTypes:= #[T,T2]}:=by grind [axe,aRq]
 unfold HR at he;split at he
 ·rename_i K V' kt vt id ver hm hx;obtain⟨l,h1,he⟩:=ay.1 he;obtain⟨kx,h2,he⟩:=ay.1 he;obtain⟨aTe,he⟩:=aD.1 he;obtain rfl:=aw.1 he;obtain⟨hT,hK,_⟩:=Et hm;have Xq:=h.ev m;rw[hx]at Xq;obtain⟨fr,pl,es,clock,g1,g2,g3,g4,g5,g6,g7,gn⟩:=BF h h1 Xq;obtain⟨l0,g6,gp⟩:=g6;have Of:=CW depth K kt hK;have hk:=Ik (h.ev k) h2;have aOz:=qw (P:=P) (w:=w) es.isEmpty depth K kt hK 10000 eG _ _ hk;obtain⟨r,hf,hr⟩:=PX (P:=P) (w:=w) hK hk rfl g6
  have fin:∀(es':Array fq) (clock':Nat),(∀ty,(Builtin.delete_ #[T,T2] ty (#[m,k].map a.eval)).run P w= .ok (.tuple #[]) {w with heap:=w.heap.setIfInBounds pl.b (.map es' clock')})->Alike (CH (s.env w g β) kt vt) es'.toList (mM kt kx l0)->mz es'.toList clock'->
    fp P o a w (gh C ((s.ba id (.obj ver aS (.mp kt vt (mM kt kx l)))).put o.dst .nil)):=λes' clock' pV axR aSB=>
   jP (F:=λty xs=>Builtin.delete_ #[T,T2] ty xs) eK (λ_ _ _=>rfl) pV ⟨g,β,(h.aJN g1 g2 g4 g5 ⟨_,axR,ack Of gn gp⟩ (XJ Of gn) aSB aTe).put o.dst rfl⟩
  cases r with
  |none=>
   refine fin es clock (λty=> ?_) (by grind [mM]) g7;simp[Builtin.delete_,run_underlying hT,g3,Go.MapKept.run_getObj_map g4,aOz,hf,Go.MapKept.run_setObj_map _ g4]
  |some u=>
   obtain⟨j,u⟩:=u;obtain⟨e,m1,m2,rfl⟩:=hr;refine fin (es.eraseIdxIfInBounds j) clock (λty=> ?_) ?_ (by grind [Array.toList_eraseIdxIfInBounds,mz])
   ·simp[Builtin.delete_,run_underlying hT,g3,Go.MapKept.run_getObj_map g4,aOz,hf,Go.MapKept.run_setObj_map _ g4]
   ·simp[mM,m1];exact g6.erase j
 grind [av]
theorem ahv{s:AS}{id:Id}{e:dT}{q:Nat}(hq:s.dY q=aL)(kJ:s.bT id≠aF):(s.ba id e).dY q=aL:=by
 cases id with
 |bW k=>exact hq
 |new i j=>
  grind [AS.dY,AS.ba]
theorem aed(h:Inv C g β s a w){T:TypeId}{m:bB}(eK:o.op= .range T m){s':AS}(he:(Wa P s o.dst T (s.ev m)).eval=aj s'):fp P o a w (gh C s'):=by
 unfold Wa at he;split at he
 ·rename_i K V' kt vt id ver q hm hx hd;obtain⟨l,h1,he⟩:=ay.1 he;obtain⟨hq,he⟩:=aD.1 he;obtain rfl:=aw.1 he;rw[ax]at hq;obtain⟨hT,_,_⟩:=Et hm;have Xq:=h.ev m;rw[hx]at Xq;obtain⟨fr,pl,es,clock,g1,g2,g3,g4,g5,g6,g7,gn⟩:=BF h h1 Xq;obtain rfl:=DX g1 hq.1;have kJ:s.bT id≠aF:=by grind
  have aVc:=Trans.refl w g;have atI:cM (s.env w g β) ((s.ba id (.obj ver aL (.mp kt vt l))).env w g β):=cM.ba g1 (aB _) aVc (λ_ _=>rfl) (λ_=>rfl)
  have i0:=
   h.step (cZ _ _ _) aVc atI (iL.ba h.bu kJ atI (λ_ _=>rfl) (λ_ _ _ _ _ _ _ _=>⟨rfl,rfl⟩) ⟨pl,es,clock,g2,g4,g5,⟨g6.mono atI.mem,gn⟩,g7⟩ (Z5 g1))
  have di:=eh s id (.obj ver aL (.mp kt vt l)) kJ;have hq':=ahv (e:= .obj ver aL (.mp kt vt l)) hq.2 kJ;generalize aX9:s.ba id (.obj ver aL (.mp kt vt l))=s0 at i0 di hq' atI;have J9:∀j,id≠ .new q j:=λj e=>by simp_all [o9]
  have iB:=(cE.1 g4).1;have ht:=Trans.alloc w g (.mapIter (aj pl.b) clock #[] clock) (.own (.id (.new q 0)) 0);obtain⟨h3,h4⟩:=i0.U4 hq' (c:= .rW id (ver+1) kt vt l aF) (p:=aj ⟨w.heap.size,0⟩) ht (λb hb=>⟨tl w _ hb,gZ _ _ _ au⟩) (λhE=>
   ⟨⟨w.heap.size,0⟩,pl.b,clock,#[],clock,nH _ _ _,vZ w _,fV _ _ _,λvr ain=>by
    obtain rfl:ver=vr:=au;have hb:(s0.env w g β).Ct id ver:=⟨by show s0.bT id≠aF;grind,λv2 fr2 c2 h2=>by
     have h2:s0.bT id=aj (.obj v2 fr2 c2):=h2;grind⟩
    refine⟨hE.Ct _ _ hb,λ_=>⟨⟨kt,vt,l,?_⟩,pl,es,clock,?_,rfl,?_,?_,λx hx=>g7.2 x hx,⟨aB _,aB _⟩,g7.1,?_,λx hx=>by cases hx⟩⟩
    ·show(s0.born q _).bT id=_;grind [jl]
    ·show MG β (.new q 0) _ id=_;grind [MG]
    ·exact(tl w _ iB).trans g4
    ·show mQ g w.heap.size _ pl.b=_;grind [mQ]
    ·have:es.toList.filter (λe=> !(#[]:Array Nat).contains e.born)=es.toList:=sZ.2 λx _=>by simp
     rw[this];exact(g6.mono atI.mem).mono hE.mem⟩)
  refine .inl ⟨.pointer (aj ⟨w.heap.size,0,aF⟩),w.alloc (.mapIter (aj pl.b) clock #[] clock),?_,_,_,h3.put o.dst (v:= .ptr (.new q 0) 0 [] 0) ⟨[.pointer (aj ⟨w.heap.size,0,aF⟩)],?_,rfl⟩⟩
  ·grind [eH,execOp,run_range_map]
  ·exact⟨_,rfl,rS hq' _ _ _ _,λ_=>⟨_,nH _ _ _,rfl⟩⟩
 grind [av]
theorem anO{Γ:pb}(hΓ:Sound P Γ){bu:List Nat}(h:Inv C g β s a w){s':AS}(he:(rO P Γ bu o s).eval=aj s'):fp P o a w (gh C s'):=by
 unfold rO at he;split at he
 ·grind [aw,aiB]
 ·grind [aw,aiB]
 ·grind [ay,aw,aBE]
 ·grind [aD,aw,asT,av]
 ·grind [aEU]
 ·grind [as6]
 ·grind [Zh]
 ·grind [ay,aw,aAQ]
 ·grind [ay,aw,awz]
 ·grind [agi]
 ·grind [ay,aw,aFT,as1]
 ·grind [ay,aw,aD2]
 ·grind [atd,ay,aw,ate,aj6]
 ·grind [awJ]
 ·grind [aD,aw,af9]
 ·grind [ay,ab8]
 ·rename_i T x lo hi eK;obtain⟨v,h1,h2⟩:=ay.1 he;obtain rfl:=aw.1 h2;exact aeK h eK (.inl rfl) h1
 ·obtain⟨v',h0,h8⟩:=ay.1 he;obtain rfl:=aw.1 h8;obtain⟨hv,h1,h2⟩:=ay.1 h0;grind [ay,bP,aw,aeK]
 ·grind [ay,aw,abk]
 ·grind [ay,aw,atv]
 ·grind [ay,aw,abG]
 ·grind [ay,aw,atY]
 ·grind [ay,aw,akt]
 ·grind [alb]
 ·grind [ay,aw,apn]
 ·grind [ay,aw,apw]
 ·grind [aed]
 ·rename_i c eK;split at he
  ·grind [ay,aw,apu,av]
  ·grind [azS,av]
  ·grind [ay,aw,aG2,av]
  ·grind [aAq,anP,av]
  ·grind [aw,aE5,av]
  ·grind [ay,aw,apA]
  ·grind [ay,aw,apA]
  ·grind [bP,aw,arZ,av]
  ·grind [aDx,av]
  ·rename_i F hc;split at he
   ·rename_i f caps hF;split at he
    ·rename_i en D3;obtain⟨iB,he⟩:=aD.1 he;exact azE h eK hc hF ((hΓ f _ en D3).1 iB) he
    grind [av]
   grind [av]
  grind [av]
 grind [av]
end
end Go.Ab
namespace Go.Ab
def ln(P:Program)(ops:Array Oper)(o:Oper)(a:Act)(w:World)(K:Act->World->Prop):Prop:=if dW o (yielded ops a.tmps) then fp P o a w K else K (a.put o.dst undef) w
theorem ln.mono{P:Program}{ops:Array Oper}{o:Oper}{a:Act}{w:World}{K K':Act->World->Prop}(h:ln P ops o a w K)(hk:∀a w,K a w->K' a w):ln P ops o a w K':=by
 unfold ln at*;split
 ·rename_i hw;rw[if_pos hw]at h;exact h.mono hk
 grind
theorem ln.wpListIn{r:Option Nat}{n:Nat}{P:Program}{ops:Array Oper}{o:Oper}{a:Act}{w:World}{Q:Exit->Act->World->Prop}{l:List Oper}(h:ln P ops o a w (wpListIn (Fr r) n P ops Q l)):Go.wpListIn (Fr r) n P ops Q (o::l) a w:=by
 unfold ln at h;unfold Go.wpListIn;split
 ·rename_i hw;rw[if_pos hw]at h;exact h.wpIn
 ·rename_i hw;rw[if_neg hw]at h;exact⟨λ_ _=>trivial,h⟩
theorem ln.wpOpIn{r:Option Nat}{n:Nat}{P:Program}{ops:Array Oper}{o:Oper}{i:Nat}{a:Act}{w:World}{Q:Exit->Act->World->Prop}{K:Act->World->Prop}(ho:ops[i]? =Option.some o)(h:ln P ops o a w K):Go.wpOpIn (Fr r) n P ops Q i K a w:=by
 unfold ln at h;unfold Go.wpOpIn;simp[ho];split
 ·rename_i hw;rw[if_pos hw]at h;exact h.wpIn
 ·rename_i hw;rw[if_neg hw]at h;exact⟨λ_ _=>trivial,h⟩
theorem wN{s:AS}{q:Nat}{v:aA}(h:s.slot q=v)(hq:q < s.bZ.length):s.put (aj q) v=s:=by
 have hv:s.bZ[q]=v:=by grind [AS.slot]
 simp[AS.put];rw[<-hv,iP]
theorem zk{s:AS}{q:Nat}{t:Ty}{x:t.den}(h:s.slot q= .d t x):q < s.bZ.length:=by grind [AS.slot]
def Vm(P:Program)(Γ:pb)(bu:List Nat)(ops:Array Oper)(o:Oper)(s:AS):Option AS:=
 match o.guard with
 |none=>(rO P Γ bu o s).eval
 |some (j,want)=>match(ops[j]?).bind (·.dst) with
  |some q=>match s.slot q with
   | .d .bool b=>if b=want then(rO P Γ bu o s).eval else aj (s.put o.dst .nil)
   | .nil=>aj (s.put o.dst .nil)
   |_=>aF
  |none=>aF
theorem Sh{R:Type}{P:Program}{Γ:pb}{bu:List Nat}{ops:Array Oper}{o:Oper}{s:AS}{k:AS->Option R}{r:R}(h:afW P Γ bu ops o s k=aj r):∃s',Vm P Γ bu ops o s=aj s'/\k s'=aj r:=by
 unfold afW at h;unfold Vm;split at h
 ·grind [ea]
 ·rename_i j want hg;simp[hg];grind [wN,zk,aG,ea]
section
variable {P:Program} {C:Ctx} {g:Nat->iU} {β:Id->Option Pl} {s:AS} {a:Act} {w:World} {o:Oper}
theorem afE(h:Inv C g β s a w){ops:Array Oper}{j q:Nat}{b:Bool}(hq:(ops[j]?).bind (·.dst)=aj q)(hb:s.slot q= .d .bool b):yielded ops a.tmps j=aj b:=by have hv:=h.bZ q;rw[hb]at hv;have hv:=Rz hv;have hl:=zk hb;rw[<-h.size]at hl;simp_all [yielded]
theorem Zd(h:Inv C g β s a w){ops:Array Oper}{j q:Nat}(hq:(ops[j]?).bind (·.dst)=aj q)(hb:s.slot q= .nil):yielded ops a.tmps j=aF:=by
 have hv:=h.bZ q;rw[hb]at hv;have hv:a.tmps.getD q undef= .tuple #[]:=hv;unfold yielded;split
 all_goals simp_all
theorem aic{Γ:pb}(hΓ:Sound P Γ){bu:List Nat}{ops:Array Oper}(h:gh C s a w){s':AS}(he:Vm P Γ bu ops o s=aj s'):ln P ops o a w (gh C s'):=by
 obtain⟨g,β,h⟩:=h;unfold Vm at he;unfold ln;split at he
 ·grind [dW,anO]
 ·rename_i j want hg;split at he
  ·rename_i q hq;split at he
   ·rename_i b hb;have hy:=afE h hq hb;have hw:dW o (yielded ops a.tmps)=(b==want):=by grind [dW]
    rw[hw];by_cases e:b=want
    ·grind [anO]
    ·rw[if_neg e]at he;rw[if_neg (by simp[e])];simp at he;subst he;exact⟨g,β,h.put o.dst rfl⟩
   ·rename_i hb;have hy:=Zd h hq hb;have hw:dW o (yielded ops a.tmps)=aS:=by grind [dW]
    rw[hw];simp at he;subst he;exact⟨g,β,h.put o.dst rfl⟩
   grind
  grind
theorem aDb{R:Type}{c c':xO}{x:Option R}{r:R}(h:same c c' x=aj r):c=c'/\x=aj r:=by grind [same]
theorem ayd{R:Type}{x y:Option R}{r:R}(h:nd x y=aj r):x=aj r/\y=aj r:=by grind [nd]
theorem auA(h:Inv C g β s a w){x y:bB}{n:Nat}(hn:acO s x y=aj n){T:TypeId}(hT:Bk.isSl P T=aL):∃b,(0 < n->b=aS)/\(Op.equal T (a.eval x) (a.eval y)).run P w= .ok b w/\
  uS (a.eval x)=aS/\a.eval x≠ .nilIface/\∀op,binOp op T (a.eval x) (a.eval y)=(match op with | .eql=>do pure (.bool (<-Op.equal T (a.eval x) (a.eval y))) | .neq=>do pure (.bool (!(<-Op.equal T (a.eval x) (a.eval y)))) | _=>binOp op T (a.eval x) (a.eval y)):=by
 have hx:=h.ev x;have hy:=h.ev y;unfold Bk.isSl at hT;split at hT <;> try (cases hT;done)
 rename_i e hU;unfold acO at hn;split at hn
 ·rename_i t l h1 h2;rw[h1]at hx;rw[h2]at hy;obtain⟨ad,cap,vs,hv,_,hs,_⟩:=xd hx;have aim:=lZ hy;rw[hv,aim];refine⟨ad.isNone,λhp=> ?_,?_,rfl,by simp,λop=>by grind [binOp]⟩
  ·simp_all
  ·cases ad with
   |none=>exact eC λd=>by simp[dg,run_underlying hU]
   |some ad=>exact eC λd=>by simp[dg,run_underlying hU]
 ·rename_i t l h1 h2;rw[h1]at hx;rw[h2]at hy;obtain⟨ad,cap,vs,hv,_,hs,_⟩:=xd hy;have aim:=lZ hx;rw[hv,aim];refine⟨ad.isNone,λhp=> ?_,?_,rfl,by simp,λop=>by grind [binOp]⟩
  ·simp_all
  ·exact eC λd=>by simp[dg,run_underlying hU]
 ·rename_i id ver pp c i len h1 h2;rw[h1]at hx;rw[h2]at hy;obtain⟨ad,cap,hv,_,hs,_⟩:=uu hx;have aim:=lZ hy;rw[hv,aim];refine⟨ad.isNone,λhp=> ?_,?_,rfl,by simp,λop=>by grind [binOp]⟩
  ·simp_all
  ·cases ad with
   |none=>exact eC λd=>by simp[dg,run_underlying hU]
   |some ad=>exact eC λd=>by simp[dg,run_underlying hU]
 ·rename_i id ver pp c i len h1 h2;rw[h1]at hx;rw[h2]at hy;obtain⟨ad,cap,hv,_,hs,_⟩:=uu hy;have aim:=lZ hx;rw[hv,aim];refine⟨ad.isNone,λhp=> ?_,?_,rfl,by simp,λop=>by grind [binOp]⟩
  ·simp_all
  ·exact eC λd=>by simp[dg,run_underlying hU]
 grind
theorem SU(h:Inv C g β s a w){x y:bB}{n:Nat}{T U:TypeId}(hn:acO s x y=aj n)(hT:Bk.isSl P T=aL):
  (o.op= .binOp .eql T x y U->∃b,(0 < n->b=aS)/\fp P o a w (gh C (s.put o.dst (.d .bool b))))/\(o.op= .binOp .neq T x y U->∃b,(0 < n->b=aL)/\fp P o a w (gh C (s.put o.dst (.d .bool b)))):=by
 obtain⟨b,h1,h2,h3,h4,h5⟩:=auA (w:=w) h hn hT;have hg:∀op,(eqGuard op T x y (a.eval x) (a.eval y)).run P w= .ok () w:=λop=>Fj h4 h3
 refine⟨λho=>⟨b,h1,h.value (yx b) ?_⟩,λho=>⟨!b,λhp=>by grind,h.value (yx (!b)) ?_⟩⟩
 ·have h6:(binOp .eql T (a.eval x) (a.eval y)).run P w= .ok (.bool b) w:=by rw[h5 .eql];simp[h2]
  simp[execOp,ho,hg,h6]
 ·have h6:(binOp .neq T (a.eval x) (a.eval y)).run P w= .ok (.bool (!b)) w:=by rw[h5 .neq];simp[h2]
  simp[execOp,ho,hg,h6]
theorem Uk{R:Type}{c:Bool}{x y:Option R}{r:R}(h:aG c x y=aj r):(c=aL/\x=aj r)\/(c=aS/\y=aj r):=by
 cases c
 all_goals grind [aG]
theorem aox{R:Type}{n:Nat}{k:Nat->Option R}{r:R}(h:aow n k=aj r):0 < n/\∀j,j < n->k j=aj r:=by
 unfold aow at h;split at h
 all_goals grind
theorem atn{R:Type}{n:Nat}{k:Nat->Option R}{x:Option R}(hn:0 < n)(h:∀j,j < n->k j=x):aow n k=x:=by
 unfold aow;cases x with
 |none=>grind
 |some r=>
  have hx:∃r,0 < n/\∀j,j < n->k j=aj r:=⟨r,hn,h⟩;rw[yC hx];grind
theorem Alike.len{α β:Type}{R:α->β->Prop}:∀ {xs:List α} {ys:List β},Alike R xs ys->xs.length=ys.length
 |[],[],_=>rfl
 |_::_,_::_,⟨_,h⟩=>by simp[h.len]
 |[],_::_,h=>h.elim
 |_::_,[],h=>h.elim
theorem auY{α:Type}:∀ {xs ys:List α} {i j:Nat} {x:α},xs.Perm ys->xs[i]? =aj x->ys[j]? =aj x->(xs.eraseIdx i).Perm (ys.eraseIdx j):=by
 have key:∀ {xs:List α} {i:Nat} {x:α},xs[i]? =aj x->xs.Perm (x::xs.eraseIdx i):=by
  intro xs
  induction xs with
  |nil=>grind
  |cons y xs ih=>
   intro i x h;cases i with
   |zero=>simp_all
   |succ i=>
    exact((ih h).cons y).trans (List.Perm.swap x y _)
 intro xs ys i j x hp hi hj;exact((key hi).symm.trans (hp.trans (key hj))).cons_inv
theorem abQ(h:Inv C g β s a w){x:bB}{t:azf}(ht:s.aGP (s.ev x)=aj t):
  s.bT t.i=aj (.obj t.v t.fr (.rW t.q (t.vr+1) t.kt t.vt t.rest t.cur))/\(∃k v l,s.bT t.q=aj (.obj t.vr aL (.mp k v l)))/\
  ∃pl plq since seen c0 es clock,a.eval x= .pointer (aj ⟨pl.b,0,aF⟩)/\β t.i=aj pl/\w.heap[pl.b]? =aj (.mapIter (aj plq.b) since seen c0)/\g pl.b= .own (.id t.i) 0/\
   β t.q=aj plq/\w.heap[plq.b]? =aj (.map es clock)/\g plq.b= .own (.id t.q) 0/\(∀x∈es.toList,x.born < since)/\(since<=c0/\since<=clock)/\(es.toList.map (·.born)).Nodup/\
   Zf (s.env w g β) t.kt t.vt (es.toList.filter λe=> !seen.contains e.born) t.rest/\
   ∀x,t.cur=aj x->∃(e:fq) (seen':Array Nat),e∈es.toList/\seen=seen'.push e.born/\c0=clock/\CH (s.env w g β) t.kt t.vt e x:=by
 have Xq:=h.ev x;generalize s.ev x=y at ht Xq;unfold AS.aGP at ht;split at ht
 ·rename_i i ver;split at ht
  ·rename_i v fr q vr kt vt rest cur mw;split at ht
   ·rename_i hv hl;obtain rfl:=bh ht;have hv:v=ver:=by grind
    subst hv;have di:=dI mw;unfold AS.apl at hl;split at hl
    ·rename_i v2 k2 t2 l2 aU3;have hl:v2=vr:=by grind
     subst hl;have hq:=dI aU3;refine⟨di,⟨_,_,_,hq⟩,?_⟩;obtain⟨pl,mb,since,seen,c0,h1,h2,h3,h4⟩:=h.bu i v fr _ di;obtain⟨h5,h6⟩:=h4 v2 rfl;obtain⟨_,plq,es,clock,k1,k2,k3,k4,k5,k6,k7,k8,k9⟩:=h6 ⟨_,_,hq⟩;subst k2;obtain⟨ad,m1,m2,m3⟩:=wJ Xq;obtain⟨pl',m4,rfl⟩:=m3 ⟨_,_,di⟩;obtain rfl:pl=pl':=by grind
     exact⟨pl,plq,since,seen,c0,es,clock,m1,h1,h2,h3,k1,k3,k4,k5,k6,k7,k8,k9⟩
    grind
   grind
  grind
 grind
theorem CH.aYA{E:Env}{kt vt:Ty}{e:fq}{x:kt.den×vt.den}(h:CH E kt vt e x):VS E (.cons (.d kt x.1) (.cons (.d vt x.2) .nil)) (.tuple #[e.key,e.val]):=by obtain⟨⟨c1,a1,b1⟩,c2,a2,b2⟩:=h;refine⟨[e.key,e.val],rfl,?_⟩;exact⟨_,_,c1,rfl,by grind [V],b1,_,_,c2,rfl,by grind [V],b2,rfl⟩
theorem CH.aYB{E:Env}{kt vt:Ty}{e:fq}{x:kt.den×vt.den}(h:CH E kt vt e x):VS E (.cons (.d .bool aL) (.cons (.d kt x.1) (.cons (.d vt x.2) .nil))) (.tuple #[.bool aL,e.key,e.val]):=by obtain⟨⟨c1,a1,b1⟩,c2,a2,b2⟩:=h;refine⟨[.bool aL,e.key,e.val],rfl,?_⟩;exact⟨_,_,[.bool aL],rfl,by simp[V,cn],rfl,_,_,c1,rfl,by grind [V],b1,_,_,c2,rfl,by grind [V],b2,rfl⟩
theorem att(h:Inv C g β s a w){x:bB}(eK:o.op= .entry x){v:aA}(he:(ats s (s.ev x)).eval=aj v):fp P o a w (gh C (s.put o.dst v)):=by
 unfold ats at he;split at he
 ·rename_i i v0 fr q vr kt vt rest c ht;obtain rfl:=aw.1 he;obtain⟨_,_,pl,plq,since,seen,c0,es,clock,m1,m2,m3,_,m5,m6,m7,_,_,m10,_,m12⟩:=abQ h ht;obtain⟨e,seen',n1,rfl,rfl,n4⟩:=m12 c rfl;refine h.value n4.aYA (eH (f:=Instr.entry (a.eval x)) (by grind [execOp]) ?_);grind [run_entry_at]
 grind [av]
theorem heap_drew{w w1:World}(hw:w1=w\/w1=w.drew):w1.heap=w.heap/\w1.os=w.os/\w1.tape=w.tape/\(w1.output=w.output/\w.drawn<=w1.drawn):=by
 rcases hw with rfl | rfl
 ·grind
 ·exact⟨rfl,rfl,rfl,rfl,Nat.le_succ _⟩
theorem Inv.aTw(h:Inv C g β s a w){i q:Id}{v vr:Nat}{fr:Bool}{kt vt:Ty}{rest:List (kt.den×vt.den)}{cur:Option (kt.den×vt.den)}(di:s.bT i=aj (.obj v fr (.rW q (vr+1) kt vt rest cur)))
  {k2 v2:Ty} {l2:List (k2.den×v2.den)} (hq:s.bT q=aj (.obj vr aL (.mp k2 v2 l2))) {pl plq:Pl} {m0:Option Nat} {since0 c00:Nat} {seen0:Array Nat} (hp:β i=aj pl) (hb:w.heap[pl.b]? =aj (.mapIter m0 since0 seen0 c00)) (hg:g pl.b= .own (.id i) 0)
  {w1:World} (hw:w1=w\/w1=w.drew) {es:Array fq} {clock since c0:Nat} {seen:Array Nat} (aU6:β q=aj plq) (aTS:w.heap[plq.b]? =aj (.map es clock)) (aXM:g plq.b= .own (.id q) 0)
  (h1:∀x∈es.toList,x.born < since) (h2:since<=c0/\since<=clock) (h3:(es.toList.map (·.born)).Nodup) {rest':List (kt.den×vt.den)} {cur':Option (kt.den×vt.den)} (h4:Zf (s.env w g β) kt vt (es.toList.filter λe=> !seen.contains e.born) rest')
  (h5:∀x,cur'=aj x->∃(e:fq) (seen':Array Nat),e∈es.toList/\seen=seen'.push e.born/\c0=clock/\CH (s.env w g β) kt vt e x):
  Inv C g β (s.ba i (.obj v fr (.rW q (vr+1) kt vt rest' cur'))) a (Go.ChangeMaps.setBlock w1 pl.b (.mapIter (aj plq.b) since seen c0))/\
   zB (s.env w g β) ((s.ba i (.obj v fr (.rW q (vr+1) kt vt rest' cur'))).env (Go.ChangeMaps.setBlock w1 pl.b (.mapIter (aj plq.b) since seen c0)) g β):=by
 obtain⟨d1,d2,d3,d4⟩:=heap_drew hw;have iB:pl.b < w.heap.size:=(cE.1 hb).1;have axU:(Go.ChangeMaps.setBlock w1 pl.b (.mapIter (aj plq.b) since seen c0)).heap=w.heap.setIfInBounds pl.b (.mapIter (aj plq.b) since seen c0):=by show w1.heap.setIfInBounds _ _=_;rw[d1]
 have aRM:(Go.ChangeMaps.setBlock w1 pl.b (.mapIter (aj plq.b) since seen c0)).os=w.os/\(Go.ChangeMaps.setBlock w1 pl.b (.mapIter (aj plq.b) since seen c0)).tape=w.tape/\((Go.ChangeMaps.setBlock w1 pl.b (.mapIter (aj plq.b) since seen c0)).output=w.output/\w.drawn<=(Go.ChangeMaps.setBlock w1 pl.b (.mapIter (aj plq.b) since seen c0)).drawn):=⟨d2,d3,d4⟩;generalize Go.ChangeMaps.setBlock w1 pl.b (.mapIter (aj plq.b) since seen c0)=w' at axU aRM;have hother:∀b',b'≠pl.b->w'.heap[b']? =w.heap[b']? :=λb' kJ=>by rw[axU,fG,if_neg (λe=>kJ e.symm)]
 have qK:w'.heap[pl.b]? =aj (.mapIter (aj plq.b) since seen c0):=by rw[axU,fG,if_pos rfl,if_pos iB]
 have ht:Trans w w' g g:=by
  refine⟨aRM.1,aRM.2.1,aRM.2.2,by rw[axU];simp,λb' _=> ?_⟩;by_cases he:b'=pl.b
  ·subst he;rw[hg];exact⟨.inr (.inr ⟨i,0,rfl,aB _⟩),λ_ _ hh=>au⟩
  ·rw[hother b' he];cases NA:g b' with
   |free=>exact⟨rfl,rfl⟩
   |own o' k=>cases o' with
    |dX=>exact⟨rfl,rfl⟩
    |id i'=>exact⟨.inr (.inr ⟨i',k,rfl,aB _⟩),λoff v _ hv=>by simpa only[eL,hother b' he]using hv⟩
   |fresh=>exact .inl ⟨rfl,rfl⟩
   |gD=>exact⟨rfl,λcur e h=>⟨cur,h,rfl⟩⟩
 have hle:cM (s.env w g β) ((s.ba i (.obj v fr (.rW q (vr+1) kt vt rest' cur'))).env w' g β):=cM.ba di (aB _) ht (λ_ _=>rfl) (λ_=>rfl);have aU7:q≠i:=λe=>by rw[e,di]at hq;cases hq
 have aX1:plq.b≠pl.b:=λe=>by rw[e,hb]at aTS;cases aTS
 refine⟨h.step (cZ _ _ _) ht hle (iL.ba h.bu (by rw[di];simp) hle (λ_ _=>rfl) (λi' ver' fr' c' pl2 hi ZZ abD=>⟨hother _ (h.apart hg hi ZZ abD),rfl⟩) ?_ (oG di λ_ _ _ e=>by cases e)),hle.mem⟩;refine⟨pl,plq.b,since,seen,c0,hp,qK,hg,λvr' ain=> ?_⟩;obtain rfl:vr=vr':=au;have atG:(s.env w g β).Ct q vr:=⟨by show s.bT q≠aF;rw[hq];simp,λv3 fr3 c3 h3=>by
  have h3:s.bT q=aj (.obj v3 fr3 c3):=h3;rw[hq]at h3;simp only[bf,dT.obj.injEq]at h3;omega⟩
 refine⟨hle.Ct _ _ atG,λ_=>⟨⟨k2,v2,l2,?_⟩,plq,es,clock,aU6,rfl,(hother _ aX1).trans aTS,aXM,h1,h2,h3,h4.mono hle.mem,λx hx=> ?_⟩⟩
 ·show(s.ba i _).bT q=_;rw[cQ s i q _ aU7];exact hq
 ·obtain⟨e,se,a1,a2,a3,a4⟩:=h5 x hx;exact⟨e,se,a1,a2,a3,a4.mono hle.mem⟩
theorem Inv.aOT(h:Inv C g β s a w){i q:Id}{v ver ver':Nat}{fr:Bool}{kt vt:Ty}{rest rest':List (kt.den×vt.den)}{cur cur':Option (kt.den×vt.den)}(di:s.bT i=aj (.obj v fr (.rW q ver kt vt rest cur)))
  (hk:ver'=0\/(ver'=ver/\rest'=rest/\cur'=aF)):Inv C g β (s.ba i (.obj v fr (.rW q ver' kt vt rest' cur'))) a w:=by
 have ht:=Trans.refl w g;have hle:cM (s.env w g β) ((s.ba i (.obj v fr (.rW q ver' kt vt rest' cur'))).env w g β):=cM.ba di (aB _) ht (λ_ _=>rfl) (λ_=>rfl);refine h.step (cZ _ _ _) ht hle (iL.ba h.bu (by grind) hle (λ_ _=>rfl) (λ_ _ _ _ _ _ _ _=>⟨rfl,rfl⟩) ?_ (oG di λ_ _ _ e=>by cases e));obtain⟨pl,mb,since,seen,c0,h1,h2,h3,h4⟩:=h.bu i v fr _ di;refine⟨pl,mb,since,seen,c0,h1,h2,h3,λvr ain=> ?_⟩;rcases hk with hk | ⟨rfl,rfl,rfl⟩
 ·omega
 ·obtain⟨h5,h6⟩:=h4 vr ain;refine⟨hle.Ct _ _ h5,λhc=> ?_⟩;obtain⟨c1,_⟩:=hle.cur _ _ h5 hc;obtain⟨⟨k,v1,l,hq⟩,plq,es,clock,k1,k2,k3,k4,k5,k6,k7,k8,_⟩:=h6 c1;have aU7:q≠i:=λe=>by grind
  exact⟨⟨k,v1,l,by show(s.ba i _).bT q=_;rw[cQ s i q _ aU7];exact hq⟩,plq,es,clock,k1,k2,k3,k4,k5,k6,k7,k8.mono hle.mem,λx hx=>by cases hx⟩
theorem avN{s:AS}{q i:Id}{e:dT}(h:s.aee q=aS)(hi:s.bT i=aj e):e.aGQ q=aS:=by
 unfold AS.aee at h;rw[Bool.or_eq_false_iff]at h;cases i with
 |bW k=>simpa using List.any_eq_false.1 h.1 _ (dD hi)
 |new a b=>
  have hi:(s.news.getD a [])[b]? =aj e:=hi
  by_cases ha:a < s.news.length
  ·have h2:(s.news.getD a []).any (dT.aGQ q)=aS:=by grind
   grind
  grind
theorem Inv.unlock(h:Inv C g β s a w){q:Id}{vr:Nat}{k v:Ty}{l:List (k.den×v.den)}(di:s.bT q=aj (.obj vr aL (.mp k v l)))(hr:s.aee q=aS):Inv C g β (s.ba q (.obj vr aS (.mp k v l))) a w:=by
 have ht:=Trans.refl w g;have hle:cM (s.env w g β) ((s.ba q (.obj vr aS (.mp k v l))).env w g β):=cM.ba di (aB _) ht (λ_ _=>rfl) (λ_=>rfl);refine h.step (cZ _ _ _) ht hle λi ver fr c hi=> ?_
 have hi:(s.ba q (.obj vr aS (.mp k v l))).bT i=aj (.obj ver fr c):=hi;by_cases aWG:i=q
 ·subst aWG;rw[eh s i _ (by grind)]at hi;obtain⟨rfl,rfl,rfl⟩:=hi;obtain⟨pl,es,clock,h1,h2,h3,h4,h5⟩:=h.bu i vr aL _ di;exact⟨pl,es,clock,h1,h2,h3,⟨h4.1.mono hle.mem,h4.2⟩,h5⟩
 ·rw[cQ s q i _ aWG]at hi;refine(h.bu i ver fr c hi).aO2 hle rfl (λ_ _=>⟨rfl,rfl⟩) λq2 v2 k2 v3 l2 hc Vp _=>⟨⟨k2,v3,l2,?_⟩,λ_ _=>⟨rfl,rfl⟩⟩
  have hn:=avN hr hi;have kJ:q2≠q:=λe=>by grind [dT.aGQ]
  show(s.ba q _).bT q2=_;rw[cQ s q q2 _ kJ];exact Vp
theorem aua{es:List fq}{seen:Array Nat}(hn:(es.map (·.born)).Nodup){j:Nat}{e:fq}(hj:(es.filter λe=> !seen.contains e.born)[j]? =aj e):
  es.filter (λx=> !(seen.push e.born).contains x.born)=(es.filter λe=> !seen.contains e.born).eraseIdx j:=by
 have h1:es.filter (λx=> !(seen.push e.born).contains x.born)=(es.filter λe=> !seen.contains e.born).filter λx=>x.born !=e.born:=by grind [List.filter_filter]
 rw[h1];have aT5:((es.filter λe=> !seen.contains e.born).map (·.born)).Nodup:=hn.sublist (List.filter_sublist.map _);generalize es.filter (λe=> !seen.contains e.born)=L at hj aT5
 induction L generalizing j with
 |nil=>grind
 |cons x L ih=>
  cases j with
  |zero=>
   simp_all
  |succ j=>
   grind
theorem aBc(h:Inv C g β s a w){x:bB}(eK:o.op= .next x aS){t:azf}(ht:s.aGP (s.ev x)=aj t){R:Type}{k:AS->Option R}{r:R}(he:aO6 s o.dst t k=aj r):
  fp P o a w λa' w'=>∃s',gh C s' a' w'/\k s'=aj r:=by
 obtain⟨hi,⟨k2,v2,l2,hq⟩,pl,plq,since,seen,c0,es,clock,m1,m2,m3,m4,m5,m6,m7,m8,m9,m10,m11,_⟩:=abQ h ht;have hex:∀ {y:Value} {w':World},(Instr.next (a.eval x) aS o.type).run P w= .ok y w'->(execOp a.eval o).run P w= .ok (.value y) w':=λhr=>
  eH (f:=Instr.next (a.eval x) aS o.type) (by grind [execOp]) hr
 have anC:(leftOf es seen).toList=es.toList.filter λe=> !seen.contains e.born:=by simp[leftOf]
 obtain⟨l',m11,aGw⟩:=m11;have hlen:=m11.len;rw[aGw.length_eq]at hlen;rcases run_next_at (P:=P) w o.type pl.b plq.b since c0 seen es clock m3 m6 m8 m9.1 with⟨h0,pV⟩ | ⟨e,aTV,w1,hw,pV⟩
 ·rcases Uk he with⟨hc,_⟩ | ⟨_,he⟩
  ·grind
  ·unfold AS.aM0 at he;have i1:=h.aOT (rest':=[]) (cur':=aF) hi (.inl rfl);have aS6:(s.ba t.i (.obj t.v t.fr (.rW t.q 0 t.kt t.vt [] aF))).bT t.q=aj (.obj t.vr aL (.mp k2 v2 l2)):=by grind [cQ]
   generalize s.ba t.i (.obj t.v t.fr (.rW t.q 0 t.kt t.vt [] aF))=s1 at he i1 aS6;cases hr:s1.aee t.q with
   |true=>grind
   |false=>
    rw[hr]at he;have aYd:s1.unlock t.q=s1.ba t.q (.obj t.vr aS (.mp k2 v2 l2)):=by grind [AS.unlock,AS.obj]
    rw[aYd]at he;rw[<-m1]at pV;refine .inl ⟨_,w,hex pV,_,⟨g,β,(i1.unlock aS6 hr).put o.dst (v:= .cons (.d .bool aS) .nil) ⟨[.bool aS],rfl,?_⟩⟩,he⟩;exact⟨_,_,[.bool aS],rfl,by simp[V,cn],rfl,rfl⟩
 ·rcases Uk he with⟨hc,he⟩ | ⟨hc,_⟩
  ·obtain⟨_,hd⟩:=aox he;rw[anC]at aTV;obtain⟨i,aOF⟩:=List.getElem?_of_mem aTV;obtain⟨y,aQt,aQu⟩:=m11.get aOF;obtain⟨j,hj⟩:=List.getElem?_of_mem (aGw.mem_iff.1 (dD aQt));have aUQ:=(gw.1 hj).1;have hy:sj t.kt t.vt t.rest j=y:=by grind [sj]
   have i1:=h.aTw (rest':=t.rest.eraseIdx j) (cur':=aj (sj t.kt t.vt t.rest j)) (since:=since) (c0:=clock) (seen:=seen.push e.born) hi hq m2 m3 m4 hw m5 m6 m7 m8 ⟨m9.2,m9.2⟩ m10 ?_ ?_
   rotate_left
   ·rw[aua m10 aOF];exact⟨_,m11.erase i,auY aGw aQt hj⟩
   ·grind
   rw[<-m1]at pV;have hVS:=(hy▸aQu:CH (s.env w g β) t.kt t.vt e (sj t.kt t.vt t.rest j));refine .inl ⟨_,_,hex pV,_,⟨g,β,i1.1.put o.dst (v:= .cons (.d .bool aL) (.cons (.d t.kt (sj t.kt t.vt t.rest j).1) (.cons (.d t.vt (sj t.kt t.vt t.rest j).2) .nil))) ?_⟩,hd j aUQ⟩;exact CH.aYB (hVS.mono i1.2)
  grind
theorem Bp(h:Inv C g β s a w){ops:Array Oper}{R:Type}{k X:AS->Option R}{r:R}{j:Nat}{want:Bool}{q:Tmp}
  (he:(match s.slot q with
   | .d .bool b=>match want with
    |true=>aG b (X (s.put (aj q) (.d .bool aL))) (k ((s.put (aj q) (.d .bool aS)).put o.dst .nil))
    |false=>aG b (k ((s.put (aj q) (.d .bool aL)).put o.dst .nil)) (X (s.put (aj q) (.d .bool aS)))
   | .nil=>k (s.put o.dst .nil)
   |_=>aF)=aj r)
  (hg:o.guard=aj (j,want)) (hq:(ops[j]?).bind (·.dst)=aj q)
  (call:X s=aj r->fp P o a w λa' w'=>∃s',gh C s' a' w'/\k s'=aj r):ln P ops o a w λa' w'=>∃s',gh C s' a' w'/\k s'=aj r:=by
 unfold ln;split at he
 ·rename_i b hb;have hy:=afE h hq hb;have hw:dW o (yielded ops a.tmps)=(b==want):=by simp[dW,hg,hy]
  have e:=wN hb (zk hb);rw[hw];cases want <;> cases b <;> simp only[aG]at he <;> rw[e]at he
  ·rw[if_pos (by rfl)];exact call he
  ·rw[if_neg eG];exact⟨_,⟨g,β,h.put o.dst (v:= .nil) rfl⟩,he⟩
  ·rw[if_neg eG];exact⟨_,⟨g,β,h.put o.dst (v:= .nil) rfl⟩,he⟩
  ·rw[if_pos (by rfl)];exact call he
 ·rename_i hb;have hy:=Zd h hq hb;have hw:dW o (yielded ops a.tmps)=aS:=by simp[dW,hg,hy]
  rw[hw,if_neg (by simp)];exact⟨_,⟨g,β,h.put o.dst (v:= .nil) rfl⟩,he⟩
 ·cases he
theorem vD{Γ:pb}{b:Bool}{F:aA}{vs:List aA}{x:Entry×List aA}(h:H9 Γ b F vs=aj x):∃f caps,F= .fn f caps/\x.2=vs++caps.list/\Γ f (vs++caps.list)=aj x.1/\lM f yB=aL:=by
 unfold H9 at h;split at h
 ·rename_i f caps;split at h
  ·rename_i en D3;split at h
   ·rename_i iB;obtain rfl:=bh h;exact⟨f,caps,rfl,rfl,D3,iB⟩
   ·cases h
  ·cases h
 ·cases h
theorem Iy{Γ:pb}{F:aA}{vs:List aA}{x:Entry×List aA}(h:YF Γ F vs=aj x):∃f caps,F= .fn f caps/\x.2=vs++caps.list/\Γ f (vs++caps.list)=aj x.1/\lM f yB=aL:=by
 unfold YF at h;split at h
 ·rename_i f caps;split at h
  ·rename_i en D3;split at h
   ·rename_i aby;rw[ax]at aby;obtain rfl:=bh h;exact⟨f,caps,rfl,rfl,D3,aby.2⟩
   ·cases h
  ·cases h
 ·cases h
theorem aL2{R:Type}{P:Program}{Γ:pb}{bu:List Nat}{ops:Array Oper}{o:Oper}{s:AS}{k:AS->Option R}{r:R}:afW P Γ bu ops o s k=aj r↔∃s',Vm P Γ bu ops o s=aj s'/\k s'=aj r:=by
 refine⟨Sh,λ⟨s',h1,h2⟩=> ?_⟩;unfold Vm at h1;unfold afW;split at h1
 ·rename_i hg;simp only[hg];exact ea.2 ⟨s',h1,h2⟩
 ·rename_i j want hg;simp only[hg];split at h1
  ·rename_i q hq;simp only[hq];split at h1
   ·rename_i b hb;have e:=wN hb (zk hb);simp only[hb];cases want <;> cases b <;> simp only[aG] <;> rw[e]
    ·exact ea.2 ⟨s',by simpa using h1,h2⟩
    ·obtain rfl:s.put o.dst .nil=s':=by simpa using h1
     exact h2
    ·obtain rfl:s.put o.dst .nil=s':=by simpa using h1
     exact h2
    ·exact ea.2 ⟨s',by simpa using h1,h2⟩
   ·rename_i hb;simp only[hb];obtain rfl:=bh h1;exact h2
   ·cases h1
  ·cases h1
theorem aAp{Γ:pb}(hΓ:Sound P Γ){bu:List Nat}{ops:Array Oper}{R:Type}{k:AS->Option R}{r:R}(h:gh C s a w)(he:wh P Γ bu ops o s k=aj r):
  ln P ops o a w λa' w'=>∃s',gh C s' a' w'/\k s'=aj r:=by
 have plain:afW P Γ bu ops o s k=aj r->ln P ops o a w λa' w'=>∃s',gh C s' a' w'/\k s'=aj r:=λhe=>by obtain⟨s1,h1,h2⟩:=Sh he;exact(aic hΓ h h1).mono λa' w' hs=>⟨s1,hs,h2⟩
 unfold wh at he;split at he
 ·rename_i c hg ho;split at he
  ·rename_i F hc;split at he
   ·rename_i en vs hr;obtain⟨f,caps,hF,rfl,D3,iB⟩:=vD hr;obtain⟨s1,h1,h2⟩:=ea.1 he;obtain⟨g,β,hi⟩:=h;unfold ln;have:dW o (yielded ops a.tmps)=aL:=by simp[dW,hg]
    rw[if_pos this];exact(Hr hi ho hc hF ((hΓ _ _ _ D3).1 iB) h1).mono λ_ _ hs=>⟨_,hs,h2⟩
   split at he
   ·rename_i en vs hr;obtain⟨f,caps,hF,rfl,D3,iB⟩:=Iy hr;obtain⟨g,β,hi⟩:=h;unfold ln;have:dW o (yielded ops a.tmps)=aL:=by simp[dW,hg]
    rw[if_pos this];exact Hs hi ho hc hF ((hΓ _ _ _ D3).2.2 iB) he
   ·exact plain he
  ·exact plain he
 ·rename_i j want c hg ho;split at he
  ·rename_i F hc;split at he
   ·rename_i en vs q hr hq;obtain⟨f,caps,hF,rfl,D3,iB⟩:=vD hr;obtain⟨g,β,hi⟩:=h;exact Bp hi (X:=λu=>(u.AL en o.dst (c.args.toList.map s.ev++caps.list)).run k) he hg hq λhe=>by obtain⟨s1,h1,h2⟩:=ea.1 he;exact(Hr hi ho hc hF ((hΓ _ _ _ D3).1 iB) h1).mono λ_ _ hs=>⟨_,hs,h2⟩
   split at he
   ·rename_i en vs q hr hq;obtain⟨f,caps,hF,rfl,D3,iB⟩:=Iy hr;obtain⟨g,β,hi⟩:=h;exact Bp hi (X:=λu=>u.xy en o.dst (c.args.toList.map s.ev++caps.list) k) he hg hq λhe=>Hs hi ho hc hF ((hΓ _ _ _ D3).2.2 iB) he
   ·exact plain he
  ·exact plain he
 ·exact plain he
theorem aAo{Γ:pb}(hΓ:Sound P Γ){bu:List Nat}{ops:Array Oper}{R:Type}{k:AS->Option R}{r:R}(h:gh C s a w)(he:aP6 P Γ bu ops o s k=aj r):
  ln P ops o a w λa' w'=>∃s',gh C s' a' w'/\k s'=aj r:=by
 have plain:afW P Γ bu ops o s k=aj r->ln P ops o a w λa' w'=>∃s',gh C s' a' w'/\k s'=aj r:=λhe=>by obtain⟨s1,h1,h2⟩:=Sh he;exact(aic hΓ h h1).mono λa' w' hs=>⟨s1,hs,h2⟩
 have stepK:∀(hg:o.guard=aF),(fp P o a w λa' w'=>∃s',gh C s' a' w'/\k s'=aj r)->ln P ops o a w λa' w'=>∃s',gh C s' a' w'/\k s'=aj r:=λhg hr=>by
  unfold ln;have:dW o (yielded ops a.tmps)=aL:=by simp[dW,hg]
  rw[if_pos this];exact hr
 have step:∀(hg:o.guard=aF) (b:Bool),fp P o a w (gh C (s.put o.dst (.d .bool b)))->k (s.put o.dst (.d .bool b))=aj r->ln P ops o a w λa' w'=>∃s',gh C s' a' w'/\k s'=aj r:=λhg b hr hk=>by
  unfold ln;have:dW o (yielded ops a.tmps)=aL:=by simp[dW,hg]
  rw[if_pos this];exact hr.mono λa' w' hs=>⟨_,hs,hk⟩
 unfold aP6 at he;split at he
 ·rename_i T x y U hg ho;split at he
  ·rename_i n hn hT;obtain⟨g,β,hi⟩:=h;obtain⟨b,hb,hr⟩:=(SU (o:=o) (U:=U) hi hn hT).1 ho;refine step hg b hr ?_
   rcases Uk he with⟨hc,hk⟩ | ⟨_,hk⟩
   ·rw[hb (by simpa using hc)];exact hk
   ·obtain⟨k1,k2⟩:=ayd hk;cases b
    ·exact k2
    ·exact k1
  ·exact plain he
 ·rename_i T x y U hg ho;split at he
  ·rename_i n hn hT;obtain⟨g,β,hi⟩:=h;obtain⟨b,hb,hr⟩:=(SU (o:=o) (U:=U) hi hn hT).2 ho;refine step hg b hr ?_
   rcases Uk he with⟨hc,hk⟩ | ⟨_,hk⟩
   ·rw[hb (by simpa using hc)];exact hk
   ·obtain⟨k1,k2⟩:=ayd hk;cases b
    ·exact k2
    ·exact k1
  ·exact plain he
 ·rename_i T m hg ho;obtain⟨s1,h1,h2⟩:=ea.1 he;obtain⟨g,β,hi⟩:=h;exact stepK hg ((aed hi ho h1).mono λ_ _ hs=>⟨_,hs,h2⟩)
 ·rename_i x hg ho;obtain⟨s1,h1,h2⟩:=ea.1 he;obtain⟨v,h3,h4⟩:=ay.1 h1;obtain rfl:=aw.1 h4;obtain⟨g,β,hi⟩:=h;exact stepK hg ((att hi ho h3).mono λ_ _ hs=>⟨_,hs,h2⟩)
 ·rename_i x hg ho;split at he
  ·rename_i t ht;obtain⟨g,β,hi⟩:=h;exact stepK hg (aBc hi ho ht he)
  ·cases he
 ·rename_i c hg ho;split at he
  ·rename_i F hc;split at he
   ·rename_i id ver rc f hF;split at he
    ·rename_i en D3;obtain⟨aT7,he⟩:=aDb he;obtain⟨s1,h1,h2⟩:=ea.1 he;obtain⟨g,β,hi⟩:=h;exact stepK hg ((aw5 hi ho hc hF aT7 (hΓ _ _ en D3) h1).mono λ_ _ hs=>⟨_,hs,h2⟩)
    ·cases he
   ·split at he
    ·rename_i en vs hr;obtain⟨f,caps,hF,rfl,D3,iB⟩:=vD hr;obtain⟨s1,h1,h2⟩:=ea.1 he;obtain⟨g,β,hi⟩:=h;exact stepK hg ((Hr hi ho hc hF ((hΓ _ _ _ D3).1 iB) h1).mono λ_ _ hs=>⟨_,hs,h2⟩)
    split at he
    ·rename_i en vs hr;unfold YF at hr;split at hr;rotate_left
     ·cases hr
     rename_i f caps hF;split at hr;rotate_left
     ·cases hr
     rename_i en' D3;split at hr;rotate_left
     ·cases hr
     rename_i aby;rw[ax]at aby;simp only[bf,jU]at hr;obtain⟨rfl,rfl⟩:=hr;obtain⟨g,β,hi⟩:=h;exact stepK hg (Hs hi ho hc hF ((hΓ _ _ _ D3).2.2 aby.2) he)
    ·exact plain he
  ·exact plain he
 ·rename_i T x v hg ho;split at he
  ·rename_i n hx;split at he
   ·rename_i hf;rw[ax,gE]at hf;obtain⟨g,β,hi⟩:=h;exact stepK hg ((aAG hi ho hx hf.1 hf.2).mono λ_ _ hs=>⟨_,hs,he⟩)
   ·cases he
  ·exact plain he
 ·rename_i j want c hg ho;split at he;rotate_left
  ·exact plain he
  rename_i F hc;split at he
  ·rename_i en vs q hr hq;obtain⟨f,caps,hF,rfl,D3,iB⟩:=vD hr;obtain⟨g,β,hi⟩:=h;exact Bp hi (X:=λu=>(u.AL en o.dst (c.args.toList.map s.ev++caps.list)).run k) he hg hq λhe=>by obtain⟨s1,h1,h2⟩:=ea.1 he;exact(Hr hi ho hc hF ((hΓ _ _ _ D3).1 iB) h1).mono λ_ _ hs=>⟨_,hs,h2⟩
  split at he;rotate_left
  ·exact plain he
  rename_i en vs q hr hq;unfold YF at hr;split at hr;rotate_left
  ·cases hr
  rename_i f caps hF;split at hr;rotate_left
  ·cases hr
  rename_i en' D3;split at hr;rotate_left
  ·cases hr
  rename_i aby;rw[ax]at aby;simp only[bf,jU]at hr;obtain⟨rfl,rfl⟩:=hr;obtain⟨g,β,hi⟩:=h;exact Bp hi (X:=λu=>u.xy en' o.dst (c.args.toList.map s.ev++caps.list) k) he hg hq λhe=>Hs hi ho hc hF ((hΓ _ _ _ D3).2.2 aby.2) he
 ·exact plain he
theorem EW{l:List Value}{n:Nat}{vs:List Value}(h:(l.drop n).take vs.length=vs):dB l n vs=l:=by grind [dB,eJ,gO]
theorem setRow_self{w:World}{b:Nat}{cs:Array Value}{e:TypeId}{fr:Nat×Nat}(h:w.heap[b]? =aj (.cells cs e fr)):w.setRow b cs=w:=by
 obtain⟨iB,hv⟩:=cE.1 h;have e1:(w.setRow b cs).heap=w.heap:=by
  unfold World.setRow;apply Array.ext
  ·simp
  ·intro i h1 h2;simp only[Array.getElem_modify];split
   ·rename_i hb;subst hb;rw[hv]
   ·rfl
 have e2:w.setRow b cs= {w with heap:=(w.setRow b cs).heap}:=rfl;rw[e2,e1]
theorem Act.eval_put{a:Act}{p:Nat}{y:Value}{v:bB}(h:alj v p=aL):(a.put (aj p) y).eval v=a.eval v:=by
 cases v with
 |tmp q=>
  have kJ:q≠p:=by simpa[alj]using h
  simp[Act.eval,Act.put,ek,fG,Ne.symm kJ]
 |_=>rfl
theorem Act.N6{a:Act}{p:Nat}{y:Value}(h:p < a.tmps.size):(a.put (aj p) y).eval (.tmp p)=y:=by simp[Act.eval,Act.put,ek,fG,h]
theorem MH{o:Oper}{y:Nat->Option Bool}(h:o.guard.isNone=aL):dW o y=aL:=by
 cases hg:o.guard with
 |none=>simp[dW,hg]
 |some x=>rw[hg]at h;cases h
theorem aJM{rd:Option Nat}{n:Nat}{ops:Array Oper}{Q:Exit->Act->World->Prop}{l:List Oper}{r:Out AS}{s':AS}(h:gh C s a w)(he:aJL P s o l=aj r)(hr:r.eval=aj s')(hk:∀a' w',gh C s' a' w'->Q .normal a' w'):wpListIn (Fr rd) n P ops Q (o::l) a w:=by
 obtain⟨g,β,h⟩:=h;unfold aJL at he;split at he;rotate_left
 ·cases he
 rename_i o2 o3;split at he;rotate_left
 ·cases he
 rename_i x T p f T' r3 v h1 h2 h3;split at he;rotate_left
 ·cases he
 rename_i t y k z hx hz;obtain rfl:=bh he;obtain⟨y,e0,aGx⟩:=jm.1 hr;subst e0;clear hr;split at aGx;rotate_left
 ·simp only[av]at aGx
 rename_i off ft off' k' u hf hp;obtain⟨hc,asC⟩:=aD.1 aGx;obtain⟨aVn,aX4⟩:=bP.1 asC;obtain rfl:=aw.1 aX4;simp only[ax]at hc;obtain⟨⟨⟨⟨⟨⟨⟨⟨⟨⟨⟨⟨⟨c1,c2⟩,c3⟩,c4⟩,c5⟩,c6⟩,c7⟩,c8⟩,c9⟩,c10⟩,c11⟩,c12⟩,c13⟩,c14⟩:=hc;have aXF:o.dst=aj p:=by simpa using c4
 have aL6:o2.dst=aj r3:=by simpa using c5
 have aXG:o3.dst=aF:=by simpa using c6
 have aOK:p < a.tmps.size:=by rw[h.size];exact dH c9
 have aX5:r3 < a.tmps.size:=by rw[h.size];exact dH c10
 have ho:off=off':=by simpa using c11
 have aXR:k=k':=by simpa using c14
 have aVn:z=u:=by simpa using aVn
 subst aXR ho;have Xq:=h.ev x;rw[hx]at Xq;obtain⟨hy,⟨ca,T0,aSR,atH⟩,ain⟩:=ax1 Xq;have atH:w.heap[y.1]? =aj (.cells ca T0 (0,0)):=atH
 have aWY:=h.ev v;rw[hz]at aWY;have run1:(execOp a.eval o).run P w= .ok (.value (.pointer (aj ⟨y.1,0,aF⟩))) w:=by simp[execOp,h1,hy]
 rw[hy]at ain;have i1:=h.put (aj p) ain;refine ln.wpListIn ?_
 unfold ln;rw[if_pos (MH c1)];refine .inl ⟨_,w,run1,?_⟩;rw[aXF];generalize aUC:a.put (aj p) (.pointer (aj ⟨y.1,0,aF⟩))=a1 at i1;have ev1:a1.eval (.tmp p)= .pointer (aj ⟨y.1,0,aF⟩):=by rw[<-aUC];exact Act.N6 aOK
 obtain⟨fs,fd,hT,aSN,rfl,rfl⟩:=Aj hf;have aRS:P.cellsOf fd.type≠0:=by simpa using c12
 have run2:(execOp a1.eval o2).run P w= .ok (.value (.pointer (aj ⟨y.1,0+fd.offset,aF⟩))) w:=by
  refine eH (f:=Instr.fieldAt T (a1.eval (.tmp p)) f) (by simp only[execOp,h2]) ?_
  rw[ev1];simp[Instr.fieldAt,run_underlying hT,aSN,Instr.sureAddr,fieldPlace,od (P:=P) (e:=fd.type) rfl au,aRS,eI]
 obtain⟨bb,offb,vs,aVk,nL,hR⟩:=mW ain;obtain⟨rfl,rfl⟩:y.1=bb/\0=offb:=by simpa using aVk
 obtain⟨hV,hle⟩:=wA (.d t y.2) f fd.offset (.d (.int k) u) vs (by simpa only[V]using hR) hp;simp only[V,cn,aA.size,Ty.size]at hV;have tp:w.cell? ⟨y.1,0+fd.offset,aF⟩=aj (.int k u)/\ku g y.1 (0+fd.offset):=by
  have hj:vs[fd.offset]? =aj (.int k u):=by have:=congrArg (λl:List Value=>l[0]?) hV;simpa[dA,kE]using this
  obtain⟨b',o'',e,hh⟩:=nL _ _ hj;simp only[bf,Addr.mk.injEq,gR]at e;obtain⟨rfl,rfl⟩:=e;exact hh
 have aim:VS ((s.put (aj p) (.dx t y.2)).env w g β) (.dx (.int k) u) (.pointer (aj ⟨y.1,0+fd.offset,aF⟩)):=by
  refine⟨_,?_,rfl⟩;simp only[V,cn];refine⟨_,_,_,rfl,λj u' hj=> ?_,rfl⟩;cases j with
  |zero=>
   obtain rfl:Value.int k u=u':=by simpa using hj
   exact⟨_,_,rfl,tp⟩
  |succ j=>simp at hj
 have i2:=i1.put (aj r3) aim;have ev2:a1.eval v=a.eval v:=by rw[<-aUC];exact Act.eval_put c7
 refine ln.wpListIn ?_
 unfold ln;rw[if_pos (MH c2)];refine .inl ⟨_,w,run2,?_⟩;rw[aL6];generalize aWl:a1.put (aj r3) (.pointer (aj ⟨y.1,0+fd.offset,aF⟩))=a2 at i2;have Vq:r3 < a1.tmps.size:=by rw[<-aUC];simpa[Act.put]using aX5
 have ev3:a2.eval (.tmp r3)= .pointer (aj ⟨y.1,0+fd.offset,aF⟩):=by rw[<-aWl];exact Act.N6 Vq
 have ev4:a2.eval v=a.eval v:=by rw[<-aWl,Act.eval_put c8];exact ev2
 have aWs:ca[0+fd.offset]? =aj (.int k u):=by have:=tp.1;unfold eL at this;rw[atH]at this;simpa using this
 have iB:0+fd.offset < ca.size:=(cE.1 aWs).1;obtain⟨cs,hVz,hOz⟩:=aWY;have aL5:cs=[.int k z]:=by simpa only[V,cn]using hVz
 have run3:(storeVar T' ⟨y.1,0+fd.offset,aF⟩ (a.eval v)).run P w= .ok () w:=by
  have pV:=uq (P:=P) (w:=w) c13 hVz hOz (b:=y.1) (off:=0+fd.offset) atH (by rw[aL5];exact iB);rw[pV,aL5];have e1:dB ca.toList (0+fd.offset) [.int k z]=ca.toList:=EW (by
   have:ca.toList[0+fd.offset]? =aj (.int k u):=by rw[Array.getElem?_toList];exact aWs
   rw[aVn,aq (by simpa using iB)];obtain⟨_,aWA⟩:=gw.1 this;simp only[aE,bq,aU,List.take_succ_cons,fe,ct,gR];simpa using aWA)
  rw[e1,show ca.toList.toArray=ca from rfl,setRow_self atH]
 refine ln.wpListIn ?_
 unfold ln;rw[if_pos (MH c3)];refine .inr (.inl ⟨w,MT (f:=Instr.storeAt T' (a2.eval (.tmp r3)) (a2.eval v)) (by simp only[execOp,h3]) ?_,?_⟩)
 ·rw[ev3,ev4];rw[aU]at run3;simp[Instr.storeAt,Instr.sureAddr,run3]
 ·rw[aXG];exact hk _ _ ⟨g,β,i2⟩
theorem Xk{rd:Option Nat}{n:Nat}{Γ:pb}(hΓ:Sound P Γ){bu:List Nat}{ops:Array Oper}{R:Type}{Q:Exit->Act->World->Prop}:∀(l:List Oper) {s:AS} {a:Act} {w:World} {k:AS->Option R} {r:R},gh C s a w->aL3 P Γ bu ops l s k=aj r->
  (∀s' a' w',gh C s' a' w'->k s'=aj r->Q .normal a' w')->wpListIn (Fr rd) n P ops Q l a w
 |[],s,a,w,k,r,h,he,hk=>hk s a w h he
 |o::l,s,a,w,k,r,h,he,hk=>by
  unfold aL3 at he;split at he
  ·rename_i r3 aQq;simp only[AS.Nt]at he;obtain⟨s3,e1,e2⟩:=ea.1 he;exact aJM h aQq e1 λa' w' hs=>hk s3 a' w' hs e2
  simp only[AS.Nt]at he;exact((aAo hΓ h he).mono λa' w' ⟨s',hs,h2⟩=>Xk hΓ l hs h2 hk).wpListIn
end
end Go.Ab
namespace Go.Ab
theorem AS.aFU{s t:AS}(h1:s.bZ=t.bZ)(h2:s.news.length=t.news.length)(h3:∀id,s.bT id=t.bT id):s=t:=by
 obtain⟨a,b,c⟩:=s;obtain⟨a',b',c'⟩:=t;subst h1;have hb:=List.ext_getElem? λk=>h3 (.bW k)
 subst hb;have hc:c=c':=by apply rI h2;intro i h h';apply List.ext_getElem?;intro j;have:=h3 (.new i j);grind [AS.bT]
 rw[hc]
def dT.amM:dT->dT->Prop
 | .obj v _ c,.obj v' _ c'=>v=v'/\c=c'
 | .dead,.dead=>True
 |_,_=>False
def sM:Option dT->Option dT->Prop
 |some a,aj b=>a.amM b
 |none,aF=>True
 |_,_=>False
def dT.axN:dT->dT
 | .obj v _ c=> .obj v aL c
 | .dead=> .dead
theorem dT.aJW(a:dT):a.amM a:=by cases a <;> simp[dT.amM]
theorem ajp(a:Option dT):sM a a:=by cases a <;> simp[sM,dT.aJW]
theorem aDd(a:Option dT):sM (a.map dT.axN) a:=by
 cases a with
 |none=>trivial
 |some x=>cases x <;> simp[sM,dT.amM,dT.axN]
theorem dT.aLZ(a:dT):a.axN.axN=a.axN:=by cases a <;> rfl
structure gi(f:D0)(s t:AS):Prop where
 bZ:∀i∈f.bZ,t.slot i=s.slot i
 ws:∀id∈f.ws,t.bT id=s.bT id
 rs:∀id∈f.rs,sM (t.bT id) (s.bT id)
 dY:∀q,f.dst=aj q->t.dY q=s.dY q
structure aLc where
 v:aA
 up:Id->Option dT
 fz:List Id
structure App(d:Option Tmp)(E:aLc)(s s':AS):Prop where
 bZ:s'.bZ=(s.put d E.v).bZ
 len:s'.news.length=s.news.length
 bT:∀id,s'.bT id=match E.up id with | some e=>aj e | none=>if id∈E.fz then(s.bT id).map dT.axN else s.bT id
theorem App.aKT{d:Option Tmp}{E:aLc}{s s1 s2:AS}(h1:App d E s s1)(h2:App d E s s2):s1=s2:=
 AS.aFU (by rw[h1.bZ,h2.bZ]) (by rw[h1.len,h2.len]) λid=>by rw[h1.bT,h2.bT]
structure CK(f:D0)(s:AS)(E:aLc):Prop where
 up:∀id e,E.up id=aj e->(id∈f.ws/\s.bT id≠aF)\/∃q j,f.dst=aj q/\id= .new q j
 fz:∀id∈E.fz,id∈f.rs
theorem P7(s:AS)(id:Id)(e:dT):(s.ba id e).news.length=s.news.length:=by cases id <;> simp[AS.ba]
theorem afV(s:AS)(id i:Id):(s.freeze id).bT i=if i=id then(s.bT i).map dT.axN else s.bT i:=by
 unfold AS.freeze;cases hs:s.bT id with
 |none=>
  grind
 |some e=>
  cases e with
  |dead=>
   grind [dT.axN]
  |obj v fr c=>
   grind [eh,dT.axN,cQ]
theorem ff(i:Id):∀(ids:List Id) (s:AS),(s.bj ids).bT i=if i∈ids then(s.bT i).map dT.axN else s.bT i
 |[],s=>by simp[AS.bj]
 |id::ids,s=>by
  rw[AS.bj,ff i ids,afV];by_cases h1:i=id
  ·subst h1;by_cases h2:i∈ids
   ·simp[Function.comp_def,dT.aLZ]
   grind
  grind
theorem aub(s:AS)(id:Id):(s.freeze id).news.length=s.news.length:=by grind [AS.freeze,P7]
theorem tq:∀(ids:List Id) (s:AS),(s.bj ids).news.length=s.news.length
 |[],_=>rfl
 |id::ids,s=>by rw[AS.bj,tq ids,aub]
theorem IX{s:AS}{q:Nat}:s.dY q=aL↔q < s.news.length/\∀j,s.bT (.new q j)=aF:=by
 refine⟨λh=>⟨(o9 h).2,(o9 h).1⟩,λ⟨h1,h2⟩=> ?_⟩;unfold AS.dY;rw[cm h1];have h0:=h2 0;simp[AS.bT]at h0;cases hh:s.news[q]with
 |nil=>rfl
 |cons x xs=>grind
theorem App.Vj(d:Option Tmp)(v:aA)(ids:List Id)(s:AS):App d ⟨v,λ_=>aF,ids⟩ s ((s.bj ids).put d v):=by
 refine⟨?_,?_,λid=> ?_⟩
 ·cases d <;> simp[AS.put,py]
 ·cases d <;> simp[AS.put,tq]
 ·rw[R6,ff]
theorem App.BA(d:Option Tmp)(v:aA)(s:AS):App d ⟨v,λ_=>aF,[]⟩ s (s.put d v):=App.Vj d v [] s
def aaI(q:Nat)(es:List dT):Id->Option dT
 | .new i j=>if i=q then es[j]? else aF
 | .bW _=>aF
theorem aFR(s:AS){q:Nat}(hq:q < s.news.length)(es:List dT)(id:Id):(s.born q es).bT id=match id with | .new i j=>if i=q then es[j]? else s.bT (.new i j) | .bW k=>s.bT (.bW k):=by grind [Bj,jl]
theorem App.axq{s:AS}{q:Nat}(hv:s.dY q=aL)(v:aA)(ids:List Id)(es:List dT):App (aj q) ⟨v,aaI q es,ids⟩ s (((s.bj ids).born q es).put (aj q) v):=by
 obtain⟨h1,h2⟩:=IX.1 hv;refine⟨?_,?_,λid=> ?_⟩
 ·simp[AS.put,py]
 ·simp[AS.put,AS.born,tq]
 ·rw[R6,aFR _ (by grind [tq])];grind [aaI,ff]
theorem App.aJO{s:AS}{id:Id}{e0:dT}(hs:s.bT id=aj e0)(d:Option Tmp)(v:aA)(e:dT):App d ⟨v,λi=>if i=id then aj e else aF,[]⟩ s ((s.ba id e).put d v):=by
 refine⟨?_,?_,λi=> ?_⟩
 ·cases d <;> simp[AS.put]
 ·cases d <;> simp[AS.put,P7]
 ·rw[R6];grind [eh,cQ]
section
variable {P:Program} {Γ:pb} {bu:List Nat} {ops:Array Oper} {o:Oper} {s t:AS}
def Rn(P:Program)(Γ:pb)(bu:List Nat)(ops:Array Oper)(o:Oper)(s s':AS):Prop:=∃E,App o.dst E s s'/\CK (eN Γ ops s o) s E/\∀t,gi (eN Γ ops s o) s t->∃t',(rO P Γ bu o t).eval=aj t'/\App o.dst E t t'
theorem XD{xs:Array bB}{i:Nat}(h:Operand.tmp i∈xs.toList):i∈aaf xs:=by grind [aaf]
theorem gi.ev(h:gi (eN Γ ops s o) s t){x:bB}(hx:x∈o.op.operands.toList):t.ev x=s.ev x:=by
 cases x with
 |tmp i=>exact h.bZ i (bg.2 (.inl (XD hx)))
 |_=>rfl
theorem ap3(v:Value):(ofConst v).ids=[]:=by unfold ofConst;split <;> rfl
theorem aiL{o:Oper}{x:Op}(h:o.op=x)(hx:aiA x=aS):aiA o.op=aS:=by grind
theorem P4(hn:aiA o.op=aS){x:bB}(hx:x∈o.op.operands.toList){id:Id}(dy:id∈(s.ev x).ids):id∈(eN Γ ops s o).rs:=by
 refine bg.2 (.inl ?_);unfold ap4;cases x with
 |tmp i=>grind [XD,AS.ev]
 |const v=>grind [AS.ev,ap3]
 |global _=>grind [AS.ev,aA.ids]
 |func f=>grind [AS.ev,aA.ids]
theorem gi.amM(h:gi (eN Γ ops s o) s t)(hn:aiA o.op=aS){x:bB}(hx:x∈o.op.operands.toList){id:Id}(dy:id∈(s.ev x).ids):sM (t.bT id) (s.bT id):=h.rs id (P4 hn hx dy)
theorem Up{id:Id}(h:sM (t.bT id) (s.bT id)):(t.obj id=aF/\s.obj id=aF)\/∃v f f' c,t.obj id=aj (v,f,c)/\s.obj id=aj (v,f',c):=by
 unfold AS.obj
 revert h
 cases t.bT id with
 |none=>grind [sM]
 |some a=>cases s.bT id with
  |none=>simp[sM]
  |some b=>cases a <;> cases b <;> intro h <;> first
    |exact h.elim
    | (exact⟨rfl,rfl⟩)
    | (obtain⟨rfl,rfl⟩:=h;grind)
theorem No{id:Id}(h:sM (t.bT id) (s.bT id))(ver:Nat)(p:List Hk):t.row id ver p=s.row id ver p:=by grind [AS.row,Up]
theorem rk:∀(v:aA) (ty:Ty),(∀id∈v.ids,sM (t.bT id) (s.bT id))->t.jd ty v=s.jd ty v
 | .cg id ver p c i len,ty,h=>by
  cases ty <;> first
   |rfl
   |grind [AS.jd,No,aA.ids]
 | .pr a b,ty,h=>by
  cases ty <;> first
   |rfl
   | (simp[AS.jd];rw[rk a _ λid dy=>h id (by grind [aA.ids]),rk b _ λid dy=>h id (by grind [aA.ids])])
 | .undef,ty,_ | .gone,ty,_ | .cT,ty,_ | .iQ,ty,_ | .xu,ty,_ | .Dh,ty,_ | .d _ _,ty,_ | .ptr ..,ty,_ | .dx ..,ty,_ | .fn ..,ty,_ | .cons ..,ty,_ | .nil,ty,_ | .vec ..,ty,_ | .bx ..,ty,_ | .cK ..,ty,_ | .mp ..,ty,_ | .rW ..,ty,_ | .yl ..,ty,_ | .Ay ..,ty,_ | .sb _,ty,_=>by cases ty <;> simp[AS.jd]
theorem Mc:∀(v:aA) (ty:Ty),(∀id∈v.ids,sM (t.bT id) (s.bT id))->t.xg ty v=s.xg ty v
 | .cg id ver p c i len,ty,h=>by
  cases ty <;> first
   |rfl
   | (simp only[AS.xg];rw[No (h id (by simp[aA.ids]))])
 | .pr a b,ty,h=>by
  cases ty <;> first
   |rfl
   | (simp only[AS.xg];rw[Mc a _ λid dy=>h id (by simp[aA.ids,dy]),Mc b _ λid dy=>h id (by simp[aA.ids,dy])])
 | .undef,ty,_ | .gone,ty,_ | .cT,ty,_ | .iQ,ty,_ | .xu,ty,_ | .Dh,ty,_ | .d _ _,ty,_ | .ptr ..,ty,_ | .dx ..,ty,_ | .fn ..,ty,_ | .cons ..,ty,_ | .nil,ty,_ | .vec ..,ty,_ | .bx ..,ty,_ | .cK ..,ty,_ | .mp ..,ty,_ | .rW ..,ty,_ | .yl ..,ty,_ | .Ay ..,ty,_ | .sb _,ty,_=>by cases ty <;> simp only[AS.xg]
theorem X0:∀(ps:List (Option Ty)) (vs:List aA),(∀v∈vs,∀id∈v.ids,sM (t.bT id) (s.bT id))->t.KH ps vs=s.KH ps vs
 |[],[],_=>rfl
 |[],_::_,_=>rfl
 |some _::_,[],_=>rfl
 |none::_,_,_=>by simp only[AS.KH]
 |some ty::ps,v::vs,h=>by simp only[AS.KH];rw[Mc v ty (h v (aC ..)),X0 ps vs λx hx=>h x (az _ hx)]
theorem yr:∀(v:aA),∀id∈v.shared,id∈v.ids
 | .cg ..,id,h=>by grind [aA.shared,aA.ids]
 | .pr a b,id,h=>by
  simp[aA.shared,aA.ids]at h ⊢;rcases h with h | h
  ·exact .inl (yr a id h)
  ·exact .inr (yr b id h)
 | .undef,_,h | .gone,_,h | .cT,_,h | .iQ,_,h | .xu,_,h | .Dh,_,h | .d _ _,_,h | .ptr ..,_,h | .dx ..,_,h | .fn ..,_,h | .cons ..,_,h | .nil,_,h | .vec ..,_,h | .bx ..,_,h | .cK ..,_,h | .mp ..,_,h | .rW ..,_,h | .yl ..,_,h | .Ay ..,_,h | .sb _,_,h=>by simp[aA.shared]at h
theorem apk{T:TypeId}{x:aA}(h:∀id∈x.ids,sM (t.bT id) (s.bT id)):SJ P t T x=SJ P s T x:=by unfold SJ;grind [Up,aA.ids]
theorem ajS{n:Nat}{lo hi:Option bB}(hl:∀x,lo=aj x->t.ev x=s.ev x)(hh:∀x,hi=aj x->t.ev x=s.ev x):bounds t n lo hi=bounds s n lo hi:=by unfold bounds;grind
theorem Ut{T:TypeId}{x:aA}{lo hi:Option bB}(h:∀id∈x.ids,sM (t.bT id) (s.bT id))(hl:∀x,lo=aj x->t.ev x=s.ev x)(hh:∀x,hi=aj x->t.ev x=s.ev x):
  LS P t T x lo hi=LS P s T x lo hi:=by
 have hb:∀n,bounds t n lo hi=bounds s n lo hi:=λn=>ajS hl hh
 unfold LS
 split <;> first
  |rfl
  |grind [No,aA.ids]
  |grind
theorem ag6{T:TypeId}{x:aA}{lo:Option bB}{y m:bB}(h:∀id∈x.ids,sM (t.bT id) (s.bT id))(hl:∀x,lo=aj x->t.ev x=s.ev x)(hh:t.ev y=s.ev y)(hm:t.ev m=s.ev m):
  Us P t T x lo y m=Us P s T x lo y m:=by
 grind [Us,Ut]
theorem Vw{T:TypeId}{x:aA}{i:Int}(h:∀id∈x.ids,sM (t.bT id) (s.bT id)):uQ P t T x i=uQ P s T x i:=by unfold uQ;grind [No,aA.ids]
theorem an7{obj:Bool}{src dst:TypeId}{x:aA}(h:∀id∈x.ids,sM (t.bT id) (s.bT id)):ahU P t obj src dst x=ahU P s obj src dst x:=by
 unfold ahU;split
 ·rfl
 ·unfold aFo
  split <;> first
   |rfl
   |grind [AS.KG,rk]
theorem az8{T:TypeId}{op:BinOp}{i:Id}{v:Nat}{j:Id}{w:Nat}(h:sM (t.bT i) (s.bT i)):aRH P t T op i v j w=aRH P s T op i v j w:=by unfold aRH;grind [Up]
theorem an9{src dst:TypeId}{id:Id}{ver:Nat}(h:sM (t.bT id) (s.bT id)):ahV P t src dst id ver=ahV P s src dst id ver:=by grind [ahV,Up]
theorem DN{ty:Ty}:∀(ps:List (Nat×bB)) (l:List ty.den),(∀x∈ps,t.ev x.2=s.ev x.2/\∀id∈(s.ev x.2).ids,sM (t.bT id) (s.bT id))->jz ty t ps l=jz ty s ps l
 |[],_,_=>rfl
 | (i,x)::ps,l,h=>by obtain⟨h1,h2⟩:=h (i,x) (aC ..);simp[jz];rw[h1,rk _ _ h2];congr 2;funext y;rw[DN ps _ λz hz=>h z (az _ hz)]
theorem AB{ty:Ty}:∀(ps:List (Nat×bB)) (l:List ty.den) (r:List ty.den×List Id),(jz ty s ps l).eval=aj r->∀id∈r.2,∃x∈ps,id∈(s.ev x.2).ids
 |[],l,r,h,id,dy=>by grind [aw,jz]
 | (i,x)::ps,l,r,h,id,dy=>by
  obtain⟨h1,h2⟩:=aD.1 h;obtain⟨y,h3,h4⟩:=ay.1 h2;obtain⟨r',h5,h6⟩:=ay.1 h4;obtain rfl:=aw.1 h6;rcases bg.1 dy with dy | dy
  ·simp_all [yr]
  ·obtain⟨z,hz,Z1⟩:=AB ps _ r' h5 id dy;grind
theorem Jr{fs:Array Field}:∀(ps:List (Nat×bB)) (v:aA),(∀x∈ps,t.ev x.2=s.ev x.2)->pM P fs t ps v=pM P fs s ps v
 |[],_,_=>rfl
 | (i,x)::ps,v,h=>by
  have h1:=h (i,x) (aC ..);simp[pM];have ih:∀v,pM P fs t ps v=pM P fs s ps v:=λv=>Jr ps v λz hz=>h z (az _ hz)
  grind
theorem RC:∀(l:List bB),(∀x∈l,t.ev x=s.ev x)->v9 t l=v9 s l
 |[],_=>rfl
 |x::l,h=>by simp only[v9];rw[h x (aC ..),RC l λy hy=>h y (az _ hy)]
theorem XH{ty:Ty}{X:TypeId}{x:aA}(h:∀id∈x.ids,sM (t.bT id) (s.bT id)):Kt P t ty X x=Kt P s ty X x:=by
 unfold Kt;split
 all_goals grind [AS.KG,rk]
theorem lg{v:aA}(h:∀t,gi (eN Γ ops s o) s t->(rO P Γ bu o t).eval=aj (t.put o.dst v)):Rn P Γ bu ops o s (s.put o.dst v):=
 ⟨⟨v,λ_=>aF,[]⟩,App.BA _ _ _,⟨λ_ _ h=>by grind,λ_ h=>by grind⟩,λt ht=>⟨_,h t ht,App.BA _ _ _⟩⟩
theorem qe{F:AS->Out aA}(ho:∀t,rO P Γ bu o t=(F t).bind λv=> .ok (t.put o.dst v))(hF:∀t,gi (eN Γ ops s o) s t->F t=F s){s':AS}(he:(rO P Γ bu o s).eval=aj s'):Rn P Γ bu ops o s s':=by grind [ay,aw,lg]
theorem Z7{v:aA}{ids:List Id}(hi:∀id∈ids,id∈(eN Γ ops s o).rs)(h:∀t,gi (eN Γ ops s o) s t->(rO P Γ bu o t).eval=aj ((t.bj ids).put o.dst v)):Rn P Γ bu ops o s ((s.bj ids).put o.dst v):=
 ⟨⟨v,λ_=>aF,ids⟩,App.Vj _ _ _ _,⟨λ_ _ h=>by grind,hi⟩,λt ht=>⟨_,h t ht,App.Vj _ _ _ _⟩⟩
theorem zI{v:aA}{ids:List Id}{q:Nat}{es:List dT}(hd:o.dst=aj q)(hv:s.dY q=aL)(hi:∀id∈ids,id∈(eN Γ ops s o).rs)
  (h:∀t,gi (eN Γ ops s o) s t->t.dY q=aL->(rO P Γ bu o t).eval=aj (((t.bj ids).born q es).put o.dst v)):Rn P Γ bu ops o s (((s.bj ids).born q es).put o.dst v):=by
 refine⟨⟨v,aaI q es,ids⟩,by grind [App.axq],⟨λid e h=> .inr ?_,hi⟩,λt ht=> ?_⟩
 ·cases id with
  |bW _=>grind [aaI]
  |new i j=>
   grind [aaI,eN]
 ·have hv':t.dY q=aL:=by rw[ht.dY q hd];exact hv
  grind [App.axq]
theorem HM{v:aA}{id:Id}{e0 e:dT}(hs:s.bT id=aj e0)(hw:id∈(eN Γ ops s o).ws)(h:∀t,gi (eN Γ ops s o) s t->t.bT id=s.bT id->(rO P Γ bu o t).eval=aj ((t.ba id e).put o.dst v)):
  Rn P Γ bu ops o s ((s.ba id e).put o.dst v):=by
 refine⟨⟨v,λi=>if i=id then aj e else aF,[]⟩,App.aJO hs _ _ _,⟨λi e' h=> .inl ?_,λ_ h=>by grind⟩,λt ht=> ?_⟩
 ·grind
 ·have:=ht.ws id hw;grind [App.aJO]
end
end Go.Ab
namespace Go.Ab
section
variable {P:Program} {Γ:pb} {bu:List Nat} {ops:Array Oper} {o:Oper} {s t:AS}
theorem amS{T:TypeId}{x v:aA}{s':AS}(h:(LZ P s T x v).eval=aj s'):
  ∃id e0 e,x.ids=[id]/\s.bT id=aj e0/\s'=s.ba id e/\∀t:AS,t.bT id=s.bT id->(LZ P t T x v).eval=aj (t.ba id e):=by
 unfold LZ at h;split at h
 ·rename_i id ver p n;cases mw:s.obj id with
  |none=>grind [av]
  |some r=>
   rw[mw]at h;obtain⟨h1,h2⟩:=aD.1 h;obtain⟨r,h3,h4⟩:=ay.1 h2;obtain⟨h5,h6⟩:=aD.1 h4;obtain⟨h7,h8⟩:=bP.1 h6;obtain⟨c',h9,aP8⟩:=ay.1 h8;obtain rfl:=aw.1 aP8;refine⟨id,_,_,rfl,dI mw,rfl,λt ht=> ?_⟩;grind [AS.obj,LZ,aD,ay,bP,aw]
 grind [av]
theorem atf{c:Call}{x y:bB}{T X:TypeId}(eK:o.op= .call c)(hc:c.callee= .builtin .copy)(ha:c.args.toList=[x,y])(ht:c.argTypes.toList=[T,X]){s':AS}
  (he:(ahW P s o.dst T X (s.ev x) (s.ev y)).eval=aj s'):Rn P Γ bu ops o s s':=by
 have xU:∀z,z=x\/z=y->z∈o.op.operands.toList:=λz hz=>by grind [bU,dU]
 have hx:∀t,gi (eN Γ ops s o) s t->t.ev x=s.ev x:=λt h=>h.ev (xU x (.inl rfl))
 have hy:∀t,gi (eN Γ ops s o) s t->t.ev y=s.ev y:=λt h=>h.ev (xU y (.inr rfl))
 have hm:∀t,gi (eN Γ ops s o) s t->∀ty,Kt P t ty X (s.ev y)=Kt P s ty X (s.ev y):=λt h ty=>XH λid dy=>h.amM (aiL eK rfl) (xU y (.inr rfl)) dy
 unfold ahW at he;split at he
 ·rename_i e t b id ver len Rk aGE;obtain⟨m,h1,he⟩:=ay.1 he;split at he
  ·rename_i ve n t' l mw;obtain⟨h2,Hh⟩:=aD.1 he;obtain⟨l',h3,afH⟩:=ay.1 Hh;obtain⟨h4,aRJ⟩:=bP.1 afH;obtain rfl:=aw.1 aRJ;have hw:id∈(eN Γ ops s o).ws:=by grind [writes,aA.ids,eN]
   refine HM (dI mw) hw λt ht atS=> ?_
   simp_all [AS.obj,ahW,ay,aD,bP,aw,rO]
  grind [av]
 grind [av]
theorem ajQ{c:Call}{x y:bB}{T X:TypeId}(eK:o.op= .call c)(hc:c.callee= .builtin .append)(ha:c.args.toList=[x,y])(ht:c.argTypes.toList=[T,X])(kJ:∀k n,s.ev x= .cT->s.ev y= .d (.int k) n->False){s':AS}
  (he:(AX P s (aAD bu o.dst) (at1 bu o.dst) o.dst T X (s.ev x) (s.ev y)).eval=aj s'):Rn P Γ bu ops o s s':=by
 have aoR:∀t,t.ev x=s.ev x->t.ev y=s.ev y->rO P Γ bu o t=AX P t (aAD bu o.dst) (at1 bu o.dst) o.dst T X (t.ev x) (t.ev y):=λt e1 e2=>by grind [rO]
 have xU:∀z,z=x\/z=y->z∈o.op.operands.toList:=λz hz=>by grind [bU,dU]
 have hx:∀t,gi (eN Γ ops s o) s t->t.ev x=s.ev x:=λt h=>h.ev (xU x (.inl rfl))
 have hy:∀t,gi (eN Γ ops s o) s t->t.ev y=s.ev y:=λt h=>h.ev (xU y (.inr rfl))
 have hm:∀t,gi (eN Γ ops s o) s t->∀ty,Kt P t ty X (s.ev y)=Kt P s ty X (s.ev y):=λt h ty=>XH λid dy=>h.amM (aiL eK rfl) (xU y (.inr rfl)) dy
 unfold AX at he;split at he
 ·rename_i e ty b q Rk hd;obtain⟨m,h1,h2⟩:=ay.1 he;split at h2
  ·rename_i aWP;cases aTU:at1 bu o.dst with
   |true=>
    rw[aTU]at h2;obtain⟨h5,h6⟩:=bP.1 h2;obtain rfl:=aw.1 h6;refine lg λt ht=> ?_
    simp_all [AX,ay,bP,aw]
   |false=>
   rw[aTU]at h2;obtain⟨h3,h4⟩:=aD.1 h2;obtain⟨h5,h6⟩:=bP.1 h4;obtain rfl:=aw.1 h6;refine zI (ids:=[]) hd h3 (λ_ h=>by cases h) λt ht hv=> ?_
   rw[aoR t (hx t ht) (hy t ht),hx t ht,hy t ht];unfold AX;simp[hd]at aTU Rk ⊢;simp[Rk,aWP,aTU];refine ay.2 ⟨m,by grind,?_⟩;exact aD.2 ⟨hv,bP.2 ⟨h5,aw.2 rfl⟩⟩
  ·rename_i id ver len aWP;split at h2
   ·rename_i v fr e' t' l mw;obtain⟨h3,h4⟩:=aD.1 h2;obtain⟨l',h5,h6⟩:=ay.1 h4;obtain⟨h7,h8⟩:=bP.1 h6;obtain⟨h9,aP8⟩:=bP.1 h8;obtain⟨aYM,Zm⟩:=bP.1 aP8;obtain rfl:=aw.1 Zm;have hw:id∈(eN Γ ops s o).ws:=by grind [writes,aA.ids,eN]
    refine HM (dI mw) hw λt ht atS=> ?_
    rw[aoR t (hx t ht) (hy t ht),hx t ht,hy t ht];have hob':t.obj id=aj (v,fr,.vec e' t' l):=by grind [AS.obj]
    unfold AX;grind [ay,aD,bP,aw]
   grind [av]
  grind [av]
 grind [av]
theorem Wb:∀(n:Nat) (todo acc:List Id),∀id∈acc,id∈s.reach n todo acc
 | 0,_,_,id,h=>h
 |_+1,[],_,id,h=>h
 |n+1,x::todo,acc,id,h=>by
  rw[AS.reach];split
  ·exact Wb n todo acc id h
  ·exact Wb n _ _ id (bg.2 (.inl h))
theorem zV:∀(n:Nat) (todo acc:List Id),(∀id∈s.reach n todo acc,((t.bT id).getD .dead).ids=((s.bT id).getD .dead).ids)->t.reach n todo acc=s.reach n todo acc
 | 0,_,_,_=>rfl
 |_+1,[],_,_=>rfl
 |n+1,x::todo,acc,h=>by
  rw[AS.reach]at h;rw[AS.reach,AS.reach];split
  ·rename_i hc;rw[if_pos hc]at h;exact zV n todo acc h
  ·rename_i hc;rw[if_neg hc]at h;have hx:=h x (Wb n _ _ x (bg.2 (.inr (aY.2 rfl))));rw[hx];exact zV n _ _ h
theorem aMm(e:Option dT):((e.map dT.axN).getD .dead).ids=(e.getD .dead).ids:=by
 cases e with
 |none=>rfl
 |some x=>cases x <;> rfl
theorem ZJ(ids:List Id)(n:Nat)(todo acc:List Id):(s.bj ids).reach n todo acc=s.reach n todo acc:=by grind [zV,ff,aMm]
theorem PA:∀(ps:List (Option Ty)) (vs:List aA),(∀v∈vs,∀id∈v.ids,sM (t.bT id) (s.bT id))->t.conv ps vs=s.conv ps vs
 |[],[],_=>rfl
 |[],_::_,_=>rfl
 |some _::_,[],_=>rfl
 |none::_,[],_=>rfl
 |some ty::ps,v::vs,h=>by simp[AS.conv];rw[rk v ty (h v (aC ..)),PA ps vs λx hx=>h x (az _ hx)]
 |none::ps,v::vs,h=>by simp[AS.conv];rw[PA ps vs λx hx=>h x (az _ hx)]
theorem PB:∀(ps:List (Option Ty)) (vs:List aA) (r:List aA×List Id),(s.conv ps vs).eval=aj r->r.1.flatMap aA.ids=yI ps vs/\∀id∈r.2,∃v∈vs,id∈v.ids
 |[],[],r,h=>by grind [AS.conv,aw,yI]
 |some ty::ps,v::vs,r,h=>by obtain⟨x,h1,h2⟩:=ay.1 h;obtain⟨r',h3,h4⟩:=ay.1 h2;obtain rfl:=aw.1 h4;obtain⟨i1,i2⟩:=PB ps vs r' h3;grind [yI,aA.ids,aC,yr]
 |none::ps,v::vs,r,h=>by obtain⟨r',h3,h4⟩:=ay.1 h;obtain rfl:=aw.1 h4;obtain⟨i1,i2⟩:=PB ps vs r' h3;grind [yI]
 |[],_::_,_,h=>by grind [AS.conv,av]
 |some _::_,[],_,h=>by grind [AS.conv,av]
 |none::_,[],_,h=>by grind [AS.conv,av]
theorem api:∀(c:aA),∀v∈c.list,∀id∈v.ids,id∈c.ids
 | .cons a b,v,hv,id,dy=>by
  simp[aA.list]at hv;simp[aA.ids];rcases hv with rfl | hv
  ·grind
  ·exact .inr (api b v hv id dy)
 | .sb _,_,h,_,_ | .undef,_,h,_,_ | .gone,_,h,_,_ | .cT,_,h,_,_ | .iQ,_,h,_,_ | .xu,_,h,_,_ | .Dh,_,h,_,_ | .d _ _,_,h,_,_ | .ptr ..,_,h,_,_ | .dx ..,_,h,_,_
 | .fn ..,_,h,_,_ | .pr ..,_,h,_,_ | .nil,_,h,_,_ | .vec ..,_,h,_,_ | .bx ..,_,h,_,_ | .cK ..,_,h,_,_ | .mp ..,_,h,_,_ | .rW ..,_,h,_,_ | .yl ..,_,h,_,_ | .Ay ..,_,h,_,_ | .cg ..,_,h,_,_=>by simp[aA.list]at h
theorem YE{ids:List Id}(h:∀id∈ids,t.bT id=s.bT id):t.zX ids=s.zX ids:=by
 funext id ver;unfold AS.zX;cases hi:idxOf id ids with
 |none=>rfl
 |some k=>
  have:t.obj id=s.obj id:=by simp[AS.obj,h id (dD (qL hi))]
  rw[this]
theorem Zc{id:Id}(h:t.bT id=s.bT id):t.E7 id=s.E7 id:=by grind [AS.E7,AS.obj]
theorem TW{ids:List Id}(h:∀id∈ids,t.bT id=s.bT id)(q:Nat):t.yn ids q=s.yn ids q:=by
 funext id ver;cases id with
 |new i j=>rfl
 |bW k=>
  grind [AS.yn,Zc]
theorem R5{ids:List Id}(h:∀id∈ids,t.bT id=s.bT id)(q b:Nat):t.uO ids q b=s.uO ids q b:=by funext e;cases e <;> simp[AS.uO,TW h]
theorem aoB{ids:List Id}(h:∀id∈ids,t.bT id=s.bT id){id:Id}(dy:id∈ids):t.nR ids id=s.nR ids id:=by grind [AS.nR,YE]
def pU(s:AS)(ids:List Id)(d:Option Tmp)(G:ja):AS:=(AS.jS s ids (d.getD 0) (s.made ids (d.getD 0) G.news) ids G.cH).put d (G.val.iT (s.yn ids (d.getD 0)))
theorem ahK{ids:List Id}{d:Option Tmp}{G:ja}{s':AS}:(s.back ids d G).eval=aj s'↔(G.cH.length=ids.length/\(G.news=[]\/∃q,d=aj q/\s.dY q=aL))/\s'=pU s ids d G:=by
 unfold AS.back;cases d with
 |none=>
  rw[aD,aw];simp only[ax,gE,List.isEmpty_iff,pU];constructor
  ·rintro⟨⟨h1,h2⟩,rfl⟩;rw[h2];exact⟨⟨h1,.inl rfl⟩,rfl⟩
  ·rintro⟨⟨h1,h2⟩,rfl⟩;rcases h2 with h2 | ⟨q,hq,_⟩
   ·rw[h2];exact⟨⟨h1,rfl⟩,rfl⟩
   grind
 |some q=>
  grind [aD,aw,pU]
theorem Xv(s0:AS)(all:List Id)(q:Nat):∀(ids:List Id) (es:List dT) (s:AS),(AS.jS s0 all q s ids es).news.length=s.news.length
 |[],_,_=>by simp[AS.jS]
 |_::_,[],_=>by simp[AS.jS]
 |id::ids,e::es,s=>by rw[AS.jS,Xv s0 all q ids es,P7]
theorem aG1(s:AS)(ids:List Id)(q:Nat)(es:List dT):(s.made ids q es).news.length=s.news.length:=by cases es <;> simp[AS.made,AS.born]
def Nu(ids:List Id)(d:Option Tmp)(G:ja)(id:Id):Prop:=id∈ids\/(G.news≠ []/\∃q j,d=aj q/\id= .new q j)
theorem aaz{ids:List Id}{d:Option Tmp}{G:ja}(hn:ids.Nodup)(hp:∀id∈ids,s.bT id≠aF)(hl:G.cH.length=ids.length)(hv:G.news=[]\/∃q,d=aj q/\s.dY q=aL):
  (∀id,¬Nu ids d G id->(pU s ids d G).bT id=s.bT id)/\
  (∀(k:Nat) (id:Id) (e:dT),ids[k]? =aj id->G.cH[k]? =aj e->(pU s ids d G).bT id=aj (s.uO ids (d.getD 0) (s.E7 id) e))/\
  (∀q j,G.news≠ []->d=aj q->(pU s ids d G).bT (.new q j)=(G.news[j]?).map (s.uO ids q 0))/\
  (∀q j,G.news≠ []->d=aj q->s.bT (.new q j)=aF):=by
 have hv':G.news=[]\/s.dY (d.getD 0)=aL:=by grind
 obtain⟨m1,m2⟩:=aoC s ids (d.getD 0) G.news hv';have aOI:∀q j,G.news≠ []->d=aj q->s.bT (.new q j)=aF:=λq j h1 h2=>by grind [IX]
 obtain⟨n1,n2⟩:=J4 s ids (d.getD 0) ids G.cH (s.made ids (d.getD 0) G.news) hn hl (λid dy=>by grind);refine⟨λid dy=> ?_,λk id e h1 h2=> ?_,λq j h1 h2=> ?_,aOI⟩
 ·unfold Nu at dy;rw[pU,R6];grind
 ·rw[pU,R6,n2 k id e h1 h2]
 ·subst h2;have aS1:=λdy=>hp _ dy (aOI q j h1 rfl)
  simp_all [pU]
open Classical in
theorem aaA{f:D0}{W r2:List Id}{G:ja}{s':AS}(hWn:W.Nodup)(aOQ:f.ws=W)(aGq:∀id∈r2,id∈f.rs)(hp:∀id∈W,(s.bj r2).bT id≠aF)
  (h4:((s.bj r2).back W f.dst G).eval=aj s'):∃E,App f.dst E s s'/\CK f s E/\∀t,gi f s t->∃t',((t.bj r2).back W f.dst G).eval=aj t'/\App f.dst E t t':=by
 obtain⟨⟨hl,hv⟩,rfl⟩:=ahK.1 h4;obtain⟨b1,b2,b3,b4⟩:=aaz (s:=s.bj r2) (d:=f.dst) hWn hp hl hv;have hfzent:∀(u:AS) id,u.bT id=aF↔(u.bj r2).bT id=aF:=λu id=>by rw[ff];split <;> simp
 let E:aLc:=⟨G.val.iT ((s.bj r2).yn W (f.dst.getD 0)),λid=>if Nu W f.dst G id then(pU (s.bj r2) W f.dst G).bT id else aF,r2⟩
 have hslots:∀u:AS,(pU (u.bj r2) W f.dst G).bZ=(u.put f.dst (G.val.iT ((u.bj r2).yn W (f.dst.getD 0)))).bZ:=λu=>by unfold pU;cases f.dst <;> simp[AS.put,F4,aeM,py]
 have hlen:∀u:AS,(pU (u.bj r2) W f.dst G).news.length=u.news.length:=λu=>by unfold pU;cases f.dst <;> simp[AS.put,Xv,aG1,tq]
 refine⟨E,⟨hslots s,hlen s,λid=> ?_⟩,⟨λid e P3=> ?_,aGq⟩,λt ht=> ?_⟩
 ·by_cases aEd:Nu W f.dst G id
  ·have P3:E.up id=(pU (s.bj r2) W f.dst G).bT id:=if_pos aEd;rw[P3];cases hb:(pU (s.bj r2) W f.dst G).bT id with
   |some e=>rfl
   |none=>
    rcases aEd with dy | ⟨kJ,q,j,hq,rfl⟩
    ·obtain⟨k,hk⟩:=lf.1 dy;have iB:k < G.cH.length:=by rw[hl];exact(gw.1 hk).1
     rw[b2 k id _ hk (cm iB)]at hb;cases hb
    ·have:=(hfzent s _).2 (b4 q j kJ hq);simp[this]
  ·have P3:E.up id=aF:=if_neg aEd;rw[P3,b1 id aEd,ff]
 ·by_cases aEd:Nu W f.dst G id
  ·rcases aEd with dy | ⟨_,q,j,hq,rfl⟩
   ·left;refine⟨by rw[aOQ];exact dy,λh=>hp id dy ((hfzent s id).1 h)⟩
   ·exact .inr ⟨q,j,hq,rfl⟩
  ·have:E.up id=aF:=if_neg aEd;rw[this]at P3;cases P3
 ·have Oe:∀id∈W,t.bT id=s.bT id:=λid dy=>ht.ws id (by rw[aOQ];exact dy)
  have akH:∀id∈W,(t.bj r2).bT id=(s.bj r2).bT id:=λid dy=>by rw[ff,ff,Oe id dy]
  have aEe:G.news=[]\/∃q,f.dst=aj q/\(t.bj r2).dY q=aL:=hv.imp id λ⟨q,hq,h⟩=>⟨q,hq,by
   rw[yt]at h ⊢;rw[ht.dY q hq];exact h⟩
  have aWS:∀id∈W,(t.bj r2).bT id≠aF:=λid dy=>by rw[akH id dy];exact hp id dy
  obtain⟨d1,d2,d3,d4⟩:=aaz (s:=t.bj r2) (d:=f.dst) hWn aWS hl aEe;refine⟨pU (t.bj r2) W f.dst G,ahK.2 ⟨⟨hl,aEe⟩,rfl⟩,⟨?_,hlen t,λid=> ?_⟩⟩
  ·rw[hslots t,TW akH]
  ·by_cases aEd:Nu W f.dst G id
   ·have P3:E.up id=(pU (s.bj r2) W f.dst G).bT id:=if_pos aEd;rw[P3];rcases aEd with dy | ⟨kJ,q,j,hq,rfl⟩
    ·obtain⟨k,hk⟩:=lf.1 dy;have iB:k < G.cH.length:=by rw[hl];exact(gw.1 hk).1
     rw[b2 k id _ hk (cm iB),d2 k id _ hk (cm iB),R5 akH,Zc (akH id dy)]
    ·rw[b3 q j kJ hq,d3 q j kJ hq,R5 akH];cases hn:G.news[j]? with
     |some e=>rfl
     |none=>
      have:=(hfzent t _).2 (d4 q j kJ hq);simp[this]
   ·have P3:E.up id=aF:=if_neg aEd;rw[P3,d1 id aEd,ff]
theorem U7{c:Call}{F:bB}{f:FuncId}{caps:aA}{en:Entry}(eK:o.op= .call c)(hc:c.callee= .value F)(hF:s.ev F= .fn f caps)(hΓ:Γ f (c.args.toList.map s.ev++caps.list)=aj en):
  (∀v∈c.args.toList.map s.ev++caps.list,∀id∈v.ids,id∈(eN Γ ops s o).rs)/\(eN Γ ops s o).ws=s.reach 64 (yI en.params (c.args.toList.map s.ev++caps.list)) []/\
  ∀t,gi (eN Γ ops s o) s t->t.ev F= .fn f caps/\c.args.toList.map t.ev=c.args.toList.map s.ev:=by
 have xU:∀z,z=F\/z∈c.args.toList->z∈o.op.operands.toList:=λz hz=>by
  rw[eK];simp only[bU,dU,hc,df,bg];rcases hz with rfl | hz
  ·exact .inl (by simp)
  ·exact .inr hz
 refine⟨λv hv id dy=> ?_,?_,λt ht=>⟨by rw[ht.ev (xU F (.inl rfl)),hF],eY λx hx=>ht.ev (xU x (.inr hx))⟩⟩
 ·rcases bg.1 hv with hv | hv
  ·obtain⟨x,hx,rfl⟩:=eu.1 hv;exact P4 (aiL eK rfl) (xU x (.inr hx)) dy
  ·refine P4 (aiL eK rfl) (xU F (.inl rfl)) ?_
   rw[hF];exact api caps v hv id dy
 ·show writes Γ s o=_;unfold writes;rw[eK];simp only[hc,hF,hΓ]
theorem axv{f:D0}{ps:List (Option Ty)}{vs:List aA}{r:List aA×List Id}(hv:∀v∈vs,∀id∈v.ids,id∈f.rs)(hw:f.ws=s.reach 64 (yI ps vs) [])(h1:(s.conv ps vs).eval=aj r):
  (s.bj r.2).Xw r.1=f.ws/\f.ws.Nodup/\(∀id∈r.2,id∈f.rs)/\∀t,gi f s t->(t.conv ps vs).eval=aj r/\(t.bj r.2).Xw r.1=f.ws/\(t.bj r.2).zX f.ws=(s.bj r.2).zX f.ws/\
   f.ws.map ((t.bj r.2).nR f.ws)=f.ws.map ((s.bj r.2).nR f.ws)/\∀id∈f.ws,(t.bj r.2).bT id=(s.bj r.2).bT id:=by
 obtain⟨aGx,asC⟩:=PB _ _ r h1;have hlends:∀t:AS,(t.bj r.2).Xw r.1=t.reach 64 (yI ps vs) []:=λt=>by unfold AS.Xw;rw[ZJ,aGx]
 refine⟨by rw[hlends,hw],by rw[hw];exact vH s _ _ _ (by simp),λid dy=> ?_,λt ht=> ?_⟩
 ·obtain⟨v,hv',dy⟩:=asC id dy;exact hv v hv' id dy
 ·have akH:∀id∈f.ws,(t.bj r.2).bT id=(s.bj r.2).bT id:=λid dy=>by rw[ff,ff,ht.ws id dy]
  refine⟨?_,?_,YE akH,eY λid dy=>aoB akH dy,akH⟩
  ·rw[PA _ _ λv hv' id dy=>ht.rs id (hv v hv' id dy)];exact h1
  ·rw[hlends,hw];refine zV _ _ _ λid dy=> ?_
   rw[ht.ws id (by rw[hw];exact dy)]
theorem as8{c:Call}{F:bB}{f:FuncId}{caps:aA}{en:Entry}(eK:o.op= .call c)(hc:c.callee= .value F)(hF:s.ev F= .fn f caps)(hΓ:Γ f (c.args.toList.map s.ev++caps.list)=aj en)(iB:lM f yB=aL){s':AS}
  (he:(s.call en o.dst (c.args.toList.map s.ev++caps.list)).eval=aj s'):Rn P Γ bu ops o s s':=by
 obtain⟨ao2,aOQ,aii⟩:=U7 (ops:=ops) eK hc hF hΓ;have aoR:∀t,gi (eN Γ ops s o) s t->rO P Γ bu o t=t.call en o.dst (c.args.toList.map s.ev++caps.list):=λt ht=>by obtain⟨h1,h2⟩:=aii t ht;unfold rO;rw[eK];obtain⟨cal,args,tys⟩:=c;simp only at hc h2 hΓ;subst hc;simp only[h1,h2,hΓ,iB,Out.guard]
 unfold AS.call at he;obtain⟨r,h1,h2⟩:=ay.1 he;obtain⟨hW,hWn,aGq,aQd⟩:=axv ao2 aOQ h1;rw[hW]at h2;unfold AS.enter at h2;obtain⟨aif,h3⟩:=aD.1 h2;have rV:=((ax _ _).mp aif).1;obtain⟨x,hx,h4⟩:=jm.1 h3;obtain⟨x0,atU,h4⟩:=ay.1 h4;have aEg:=en.aeN _ _ atU;rw[aEg]at h4 atU;have hp:∀id∈(eN Γ ops s o).ws,(s.bj r.2).bT id≠aF:=λid dy=>by have:=(ax _ _▸bQ.1 rV id dy).1;obtain⟨⟨v,fr,c⟩,hr⟩:=Option.isSome_iff_exists.1 this;rw[dI hr];simp
 obtain⟨E,a1,a2,a3⟩:=aaA (f:=eN Γ ops s o) hWn rfl aGq hp h4;refine⟨E,a1,a2,λt ht=> ?_⟩;obtain⟨t',k1,k2⟩:=a3 t ht;obtain⟨c1,c2,c3,c4,c5⟩:=aQd t ht;refine⟨t',?_,k2⟩;rw[aoR t ht];unfold AS.call;refine ay.2 ⟨r,c1,?_⟩;rw[c2];unfold AS.enter;refine aD.2 ⟨?_,jm.2 ⟨x,?_,ay.2 ⟨x,atU,?_⟩⟩⟩
 ·refine(ax _ _).mpr ⟨?_,((ax _ _).mp aif).2⟩;refine bQ.2 λid dy=> ?_
  have:=bQ.1 rV id dy;simp only[AS.obj,AS.Fl]at this ⊢;rw[c5 id dy];exact this
 ·rw[c3,c4,<-hx]
 ·rw[c3,c4];exact k1
theorem aFL{X R:Type}{S:X->Prop}{k:X->Option R}{r:R}:xS S k=aj r↔(∃x,S x)/\∀x,S x->k x=aj r:=by refine⟨Gq,λ⟨⟨x,hx⟩,h⟩=> ?_⟩;have hd:∃r,(∃x,S x)/\∀x,S x->k x=aj r:=⟨r,⟨x,hx⟩,h⟩;unfold xS;rw[yC hd];exact(hd.choose_spec.2 x hx).symm.trans (h x hx)
def Ge(P:Program)(Γ:pb)(bu:List Nat)(ops:Array Oper)(o:Oper)(s:AS):Prop:=∃S:aLc->Prop,(∃E,S E)/\(∀E,S E->CK (eN Γ ops s o) s E)/\∀t,gi (eN Γ ops s o) s t->(∀E,S E->∃t',App o.dst E t t')/\∀ {R:Type} (k:AS->Option R) (r:R),wh P Γ bu ops o t k=aj r↔∀E t',S E->App o.dst E t t'->k t'=aj r
theorem gi.refl(f:D0)(s:AS):gi f s s:=⟨λ_ _=>rfl,λ_ _=>rfl,λ_ _=>ajp _,λ_ _=>rfl⟩
theorem WU{c:Call}{F:bB}{f:FuncId}{caps:aA}{en:Entry}(eK:o.op= .call c)(hc:c.callee= .value F)(hF:s.ev F= .fn f caps)(hΓ:Γ f (c.args.toList.map s.ev++caps.list)=aj en){s':AS}
  (he:(s.AL en o.dst (c.args.toList.map s.ev++caps.list)).eval=aj s'):∃v,∀t,gi (eN Γ ops s o) s t->(t.AL en o.dst (c.args.toList.map s.ev++caps.list)).eval=aj (t.put o.dst v):=by
 obtain⟨ao2,_,_⟩:=U7 (ops:=ops) eK hc hF hΓ;unfold AS.AL at he;obtain⟨vs,h1,h2⟩:=ay.1 he;obtain⟨x,h3,h4⟩:=jm.1 h2;obtain⟨x0,h5,h6⟩:=ay.1 h4;obtain⟨h7,h8⟩:=aD.1 h6;refine⟨(en.out vs [] x0).val,λt ht=> ?_⟩;unfold AS.AL;rw[X0 _ _ λv hv id dy=>ht.rs id (ao2 v hv id dy)];exact ay.2 ⟨vs,h1,jm.2 ⟨x,h3,ay.2 ⟨x0,h5,aD.2 ⟨h7,rfl⟩⟩⟩⟩
theorem WV{c:Call}{F:bB}{f:FuncId}{caps:aA}{en:Entry}(eK:o.op= .call c)(hc:c.callee= .value F)(hF:s.ev F= .fn f caps)(hΓ:Γ f (c.args.toList.map s.ev++caps.list)=aj en){R0:Type}{k0:AS->Option R0}{r0:R0}
  (he:s.xy en o.dst (c.args.toList.map s.ev++caps.list) k0=aj r0):∃S:aLc->Prop,(∃E,S E)/\(∀E,S E->CK (eN Γ ops s o) s E)/\∀t,gi (eN Γ ops s o) s t->(∀E,S E->∃t',App o.dst E t t')/\
  ∀ {R:Type} (k:AS->Option R) (r:R),t.xy en o.dst (c.args.toList.map s.ev++caps.list) k=aj r↔∀E t',S E->App o.dst E t t'->k t'=aj r:=by
 obtain⟨ao2,aOQ,aii⟩:=U7 (ops:=ops) eK hc hF hΓ;generalize c.args.toList.map s.ev++caps.list=vs at*;unfold AS.xy at he;obtain⟨r2,h0,he⟩:=ea.1 he;obtain⟨r,h1,h3⟩:=ay.1 h0;obtain⟨aif,h3⟩:=aD.1 h3;obtain rfl:=aw.1 h3;obtain⟨hW,hWn,aGq,aQd⟩:=axv ao2 aOQ h1;rw[hW]at he aif;have rV:=((ax _ _).mp aif).1;unfold AS.aks at he;obtain⟨hx,hk⟩:=Gq he;generalize hA:r.1.map (aA.iT ((s.bj r.2).zX (eN Γ ops s o).ws))=A at hx hk;generalize hO:(eN Γ ops s o).ws.map ((s.bj r.2).nR (eN Γ ops s o).ws)=O at hx hk;have hp:∀id∈(eN Γ ops s o).ws,(s.bj r.2).bT id≠aF:=λid dy=>by have:=bQ.1 rV id dy;rw[ax]at this;obtain⟨⟨v,fr,c⟩,hr⟩:=Option.isSome_iff_exists.1 this.1;rw[dI hr];simp
 have abC:∀x,en.set A O x->(en.sp x).eval=aj x/\∃E,(∃s',App o.dst E s s')/\CK (eN Γ ops s o) s E/\∀t,gi (eN Γ ops s o) s t->∃t',((t.bj r.2).back (eN Γ ops s o).ws o.dst (en.out A O x)).eval=aj t'/\App o.dst E t t':=λx hs=>by obtain⟨s',h4,h5⟩:=ea.1 (hk x hs);obtain⟨x0,atU,h4⟩:=ay.1 h4;have aEg:=en.aeN _ _ atU;rw[aEg]at h4 atU;obtain⟨E,a1,a2,a3⟩:=aaA (f:=eN Γ ops s o) hWn rfl aGq hp h4;exact⟨atU,E,⟨s',a1⟩,a2,a3⟩
 refine⟨λE=>∃x,en.set A O x/\CK (eN Γ ops s o) s E/\∀t,gi (eN Γ ops s o) s t->∃t',((t.bj r.2).back (eN Γ ops s o).ws o.dst (en.out A O x)).eval=aj t'/\App o.dst E t t',?_,λE ⟨x,_,h,_⟩=>h,λt ht=>⟨λE ⟨x,_,_,h⟩=> ?_,λk r'=> ?_⟩⟩
 ·obtain⟨x,hx⟩:=hx;obtain⟨_,E,_,h2,h3⟩:=abC x hx;exact⟨E,x,hx,h2,h3⟩
 ·obtain⟨t',_,h⟩:=h t ht;exact⟨t',h⟩
 ·obtain⟨c1,c2,c3,c4,c5⟩:=aQd t ht;have axT:t.xy en o.dst vs k=xS (en.set A O) λx=>((en.sp x).bind λx=>(t.bj r.2).back (eN Γ ops s o).ws o.dst (en.out A O x)).run k:=by
   unfold AS.xy;rw[run_eq,R7,c1];simp only[Option.bind_some,c2];have hg:((t.bj r.2).Z4 (eN Γ ops s o).ws && r.1.all aA.qh)=aL:=by
    refine(ax _ _).mpr ⟨?_,((ax _ _).mp aif).2⟩;refine bQ.2 λid dy=> ?_
    have:=bQ.1 rV id dy;simp only[AS.obj,AS.Fl]at this ⊢;rw[c5 id dy];exact this
   rw[hg];simp only[Out.guard,Out.eval,Option.bind_some,c2];unfold AS.aks;rw[c3,c4,hA,hO]
  rw[axT,aFL];constructor
  ·rintro⟨_,h⟩ E t' ⟨x,hx,_,hb⟩ ha;obtain⟨t2,h4,h5⟩:=ea.1 (h x hx);obtain⟨x0,atU,h4⟩:=ay.1 h4;rw[en.aeN _ _ atU]at h4;obtain⟨t3,h6,h7⟩:=hb t ht;rw[h4]at h6;obtain rfl:=bh h6;rw[App.aKT ha h7];exact h5
  ·intro h;refine⟨hx,λx hx=> ?_⟩;obtain⟨h1,E,_,h2,h3⟩:=abC x hx;obtain⟨t',h4,h5⟩:=h3 t ht;exact ea.2 ⟨t',ay.2 ⟨x,h1,h4⟩,h E t' ⟨x,hx,h2,h3⟩ h5⟩
end
end Go.Ab
namespace Go.Ab
section
variable {P:Program} {Γ:pb} {bu:List Nat} {ops:Array Oper} {o:Oper} {s t:AS}
theorem Out.bind_assoc{α β γ:Type}(o:Out α)(f:α->Out β)(g:β->Out γ):(o.bind f).bind g=o.bind λa=>(f a).bind g:=by
 induction o with
 |ok a=>rfl
 |fail=>rfl
 |uK c r ih=>grind [Out.bind]
 |get x h ih=>grind [Out.bind]
 |br c x y ih1 ih2=>grind [Out.bind]
theorem aqf{parts:Array (Nat×bB)}{x:Nat×bB}(h:x∈parts.toList):x.2∈(parts.toList.map (·.2)).toArray.toList:=eu.2 ⟨x,h,rfl⟩
theorem azz{T:TypeId}{x:bB}(eK:o.op= .box T x){s':AS}(he:(as3 P s (isObj bu o.dst) (at1 bu o.dst) o.dst T (s.ev x)).eval=aj s'):Rn P Γ bu ops o s s':=by
 have aoR:∀t,rO P Γ bu o t=as3 P t (isObj bu o.dst) (at1 bu o.dst) o.dst T (t.ev x):=λt=>by grind [rO]
 have hm:x∈o.op.operands.toList:=by grind [bU]
 unfold as3 at he;split at he
 ·rename_i q hd;split at he
  ·rename_i ho;obtain⟨h1,h2⟩:=aD.1 he;obtain rfl:=aw.1 h2;simp at h1;refine zI (ids:=[]) hd h1.1 (λ_ h=>by cases h) λt ht hv=> ?_
   rw[aoR,ht.ev hm];simp[hd]at ho ⊢;simp[ho];exact aD.2 ⟨by grind,aw.2 rfl⟩
  ·rename_i ho;split at he
   ·rename_i ty aTd;obtain⟨h1,h2⟩:=aD.1 he;obtain⟨y,h3,h4⟩:=ay.1 h2;obtain rfl:=aw.1 h4;refine Z7 (λid dy=>P4 (aiL eK rfl) hm (yr _ _ dy)) λt ht=> ?_
    rw[aoR,ht.ev hm];unfold as3;simp[hd]at ho ⊢;simp[ho,aTd];refine aD.2 ⟨h1,ay.2 ⟨y,?_,aw.2 rfl⟩⟩;rw[rk _ _ λid dy=>ht.amM (aiL eK rfl) hm dy];exact h3
   grind [av]
 grind [av]
theorem asj{T:TypeId}{x:bB}(eK:o.op= .sliceToArrayPointer T x){s':AS}(he:(Q6 P s o.dst T (s.ev x)).eval=aj s'):Rn P Γ bu ops o s s':=by
 have aoR:∀t,rO P Γ bu o t=Q6 P t o.dst T (t.ev x):=λt=>by grind [rO]
 have hm:x∈o.op.operands.toList:=by grind [bU]
 unfold Q6 at he;split at he
 ·rename_i n e hT;split at he
  ·rename_i ty aTd;obtain⟨h1,h2⟩:=aD.1 he;obtain⟨l,h3,h4⟩:=ay.1 h2;obtain⟨h5,h6⟩:=bP.1 h4;obtain rfl:=aw.1 h6;refine Z7 (λid dy=>P4 (aiL eK rfl) hm (yr _ _ dy)) λt ht=> ?_
   rw[aoR,ht.ev hm];unfold Q6;simp[hT,aTd];refine aD.2 ⟨h1,ay.2 ⟨l,?_,bP.2 ⟨h5,aw.2 rfl⟩⟩⟩;rw[rk _ _ λid dy=>ht.amM (aiL eK rfl) hm dy];exact h3
  grind [av]
 grind [av]
theorem an1{T:TypeId}{parts:Array (Nat×bB)}(eK:o.op= .build T parts){s':AS}(he:(JV P s o.dst T parts.toList).eval=aj s'):Rn P Γ bu ops o s s':=by
 have aoR:∀t,rO P Γ bu o t=JV P t o.dst T parts.toList:=λt=>by grind [rO]
 have hm:∀x∈parts.toList,x.2∈o.op.operands.toList:=λx hx=>by rw[eK];exact aqf hx
 unfold JV at he;split at he
 ·rename_i fs hT;split at he
  ·rename_i z hz;obtain⟨h1,h2⟩:=aD.1 he;obtain⟨v,h3,h4⟩:=ay.1 h2;obtain rfl:=aw.1 h4;refine lg λt ht=> ?_
   rw[aoR];unfold JV;simp only[hT,hz];refine aD.2 ⟨h1,ay.2 ⟨v,?_,aw.2 rfl⟩⟩;rw[Jr _ _ λx hx=>ht.ev (hm x hx)];exact h3
  grind [av]
 ·rename_i n e hT;split at he
  ·rename_i ty aTd;obtain⟨h1,h2⟩:=aD.1 he;obtain⟨r,h3,h4⟩:=ay.1 h2;obtain rfl:=aw.1 h4;refine Z7 (λid dy=> ?_) λt ht=> ?_
   ·obtain⟨x,hx,hi⟩:=AB _ _ _ h3 id dy;exact P4 (aiL eK rfl) (hm x hx) hi
   ·rw[aoR];unfold JV;simp[hT,aTd];refine aD.2 ⟨h1,ay.2 ⟨r,?_,aw.2 rfl⟩⟩;rw[DN _ _ λx hx=>⟨ht.ev (hm x hx),λid dy=>ht.amM (aiL eK rfl) (hm x hx) dy⟩];exact h3
  grind [av]
 grind [av]
theorem acR{s t:AS}:∀ {l:List (Nat×bB)},(∀x∈l,t.ev x.2=s.ev x.2)->aQT t l=aQT s l
 |[],_=>rfl
 |[_],h=>congrArg aj (h _ aC)
 |_::_::_,_=>rfl
theorem U6{T:TypeId}{n:Nat}{parts:Array (Nat×bB)}(eK:o.op= .buildSlice T n parts){s':AS}(he:(nP P s (aAD bu o.dst) (isObj bu o.dst) o.dst T n parts.toList).eval=aj s'):Rn P Γ bu ops o s s':=by
 have aoR:∀t,rO P Γ bu o t=nP P t (aAD bu o.dst) (isObj bu o.dst) o.dst T n parts.toList:=λt=>by unfold rO;rw[eK]
 have hm:∀x∈parts.toList,x.2∈o.op.operands.toList:=λx hx=>by rw[eK];exact aqf hx
 unfold nP at he;split at he
 ·rename_i e ty b q Rk hd;obtain⟨h1,h2⟩:=aD.1 he;obtain⟨r,h3,h4⟩:=ay.1 h2;have aGy:∀id∈r.2,id∈(eN Γ ops s o).rs:=λid dy=>by obtain⟨x,hx,hi⟩:=AB _ _ _ h3 id dy;exact P4 (aiL eK rfl) (hm x hx) hi
  have aQd:∀t,gi (eN Γ ops s o) s t->∀l,jz ty t parts.toList l=jz ty s parts.toList l:=λt ht l=>DN _ _ λx hx=>⟨ht.ev (hm x hx),λid dy=>ht.amM (aiL eK rfl) (hm x hx) dy⟩
  split at h4
  ·rename_i ho;obtain⟨h5,h6⟩:=aD.1 h4;obtain rfl:=aw.1 h6;refine zI hd h5 aGy λt ht hv=> ?_
   rw[aoR];unfold nP;rw[acR λx hx=>ht.ev (hm x hx)];simp only[hd]at ho Rk ⊢;simp only[Rk,ho];refine aD.2 ⟨h1,ay.2 ⟨r,by rw[aQd t ht];exact h3,aD.2 ⟨hv,aw.2 rfl⟩⟩⟩
  ·rename_i ho;obtain rfl:=aw.1 h4;refine Z7 aGy λt ht=> ?_
   rw[aoR];unfold nP;rw[acR λx hx=>ht.ev (hm x hx)];simp only[hd]at ho Rk ⊢;simp only[Rk,ho];exact aD.2 ⟨h1,ay.2 ⟨r,by rw[aQd t ht];exact h3,aw.2 rfl⟩⟩
 ·simp only[av]at he
theorem Zp{T:TypeId}{x y:bB}(eK:o.op= .makeSlice T x y){len cap:Int}(hx:(asInt (s.ev x)).eval=aj len)(hy:(asInt (s.ev y)).eval=aj cap){s':AS}(he:(uU P s o.dst T len cap).eval=aj s'):Rn P Γ bu ops o s s':=by
 have aoR:∀t,rO P Γ bu o t=(asInt (t.ev x)).bind λl=>(asInt (t.ev y)).bind λc=>uU P t o.dst T l c:=λt=>by grind [rO]
 have hm:∀z,z=x\/z=y->z∈o.op.operands.toList:=λz hz=>by grind [bU]
 unfold uU at he;split at he
 ·rename_i e ty b q Rk hd;obtain⟨h1,h2⟩:=aD.1 he;obtain⟨h3,h4⟩:=bP.1 h2;obtain rfl:=aw.1 h4;refine zI (ids:=[]) hd h1 (λ_ h=>by cases h) λt ht hv=> ?_
  rw[aoR,ht.ev (hm x (.inl rfl)),ht.ev (hm y (.inr rfl))];refine ay.2 ⟨len,hx,ay.2 ⟨cap,hy,?_⟩⟩;unfold uU;simp only[Rk,hd];exact aD.2 ⟨hv,bP.2 ⟨h3,aw.2 rfl⟩⟩
 grind [av]
theorem alc{id:Id}{ver:Nat}{kt vt:Ty}(h:sM (t.bT id) (s.bT id)):t.s8 id ver kt vt=s.s8 id ver kt vt:=by grind [AS.s8,Up]
theorem af7{T:TypeId}{m k:aA}{ok:Bool}(h:∀id∈m.ids,sM (t.bT id) (s.bT id)):HN P t T m k ok=HN P s T m k ok:=by unfold HN;grind [alc,aA.ids]
theorem aiw{id:Id}{ver:Nat}{kt vt:Ty}{l:List (kt.den×vt.den)}(h:(s.s8 id ver kt vt).eval=aj l):∃e,s.bT id=aj e:=by
 unfold AS.s8 at h;split at h
 ·rename_i v fr k' v' l' mw;exact⟨_,dI mw⟩
 grind [av]
theorem aul{id:Id}{ver:Nat}{kt vt:Ty}{l:List (kt.den×vt.den)}(h:(s.s8 id ver kt vt).eval=aj l):∃fr,s.bT id=aj (.obj ver fr (.mp kt vt l)):=by
 unfold AS.s8 at h;split at h
 ·rename_i v fr k' v' l' mw;obtain⟨aMi,aU2⟩:=aD.1 h;have aMi:v=ver:=by grind
  obtain⟨rfl,rfl,rfl⟩:=WX (gS.1 aU2);subst aMi;exact⟨fr,dI mw⟩
 grind [av]
theorem Ks{id:Id}{ver:Nat}{kt vt:Ty}(h:t.bT id=s.bT id):t.s8 id ver kt vt=s.s8 id ver kt vt:=by grind [AS.s8,AS.obj]
theorem Gb{id:Id}(h:t.bT id=s.bT id):t.xm id=s.xm id:=by grind [AS.xm,AS.obj]
theorem agb{T:TypeId}{m k v:aA}{s':AS}(h:(HS P s T m k v).eval=aj s'):
  ∃id e0 e,m.ids=[id]/\s.bT id=aj e0/\s'=s.ba id e/\∀t:AS,t.bT id=s.bT id->(HS P t T m k v).eval=aj (t.ba id e):=by
 unfold HS at h;split at h
 ·rename_i K V kt vt id ver hm;obtain⟨l,h1,h⟩:=ay.1 h;obtain⟨kx,h2,h⟩:=ay.1 h;obtain⟨vx,h3,h⟩:=ay.1 h;obtain⟨hu,h⟩:=aD.1 h;obtain rfl:=aw.1 h;obtain⟨e0,aih⟩:=aiw h1;refine⟨id,e0,_,rfl,aih,rfl,λt ht=> ?_⟩;unfold HS;grind [ay,Ks,aD,Gb,aw]
 grind [av]
theorem aga{T:TypeId}{m k:aA}{s':AS}(h:(HR P s T m k).eval=aj s'):
  ∃id e0 e,m.ids=[id]/\s.bT id=aj e0/\s'=s.ba id e/\∀t:AS,t.bT id=s.bT id->(HR P t T m k).eval=aj (t.ba id e):=by
 unfold HR at h;split at h
 ·rename_i K V kt vt id ver hm;obtain⟨l,h1,h⟩:=ay.1 h;obtain⟨kx,h2,h⟩:=ay.1 h;obtain⟨hu,h⟩:=aD.1 h;obtain rfl:=aw.1 h;obtain⟨e0,aih⟩:=aiw h1;refine⟨id,e0,_,rfl,aih,rfl,λt ht=> ?_⟩;unfold HR;grind [ay,Ks,aD,Gb,aw]
 grind [av]
theorem ahI{s':AS}(he:(rO P Γ bu o s).eval=aj s'):Rn P Γ bu ops o s s':=by
 have aih:=he;have one:∀x,o.op.operands= #[x]->∀t,gi (eN Γ ops s o) s t->t.ev x=s.ev x/\(aiA o.op=aS->∀id∈(s.ev x).ids,sM (t.bT id) (s.bT id)):=λx hx t ht=>
  have hm:x∈o.op.operands.toList:=by rw[hx];simp
  ⟨ht.ev hm,λhn _ dy=>ht.amM hn hm dy⟩
 unfold rO at he;split at he
 ·rename_i x eK;obtain rfl:=aw.1 he;refine lg λt ht=> ?_
  unfold rO;rw[eK];simp only;rw[(one x (by rw[eK];rfl) t ht).1];rfl
 ·rename_i x eK;obtain rfl:=aw.1 he;refine lg λt ht=> ?_
  unfold rO;rw[eK];simp only;rw[(one x (by rw[eK];rfl) t ht).1];rfl
 ·rename_i c x y eK;refine qe (F:=λt=>ayy (t.ev c) (t.ev x) (t.ev y)) (λt=>by unfold rO;rw[eK]) (λt ht=> ?_) aih;rw[ht.ev (by rw[eK];simp[bU]),ht.ev (by rw[eK];simp[bU]),ht.ev (by rw[eK];simp[bU])]
 ·rename_i T eK;split at he
  ·rename_i z q hz hq;obtain⟨h1,h2⟩:=aD.1 he;obtain rfl:=aw.1 h2;simp only[ax]at h1;refine zI (ids:=[]) hq h1.1 (λ_ h=>by cases h) λt ht hv=> ?_
   unfold rO;rw[eK];simp only[hz,hq];exact aD.2 ⟨by simp[hv,h1.2],aw.2 rfl⟩
  ·exact(av.1 he).elim
 ·rename_i T x eK;exact azz eK he
 ·rename_i T parts eK;exact an1 eK he
 ·rename_i T n parts eK;exact U6 eK he
 ·rename_i T x eK;refine qe (F:=λt=>SJ P t T (t.ev x)) (λt=>by unfold rO;rw[eK]) (λt ht=> ?_) aih;obtain⟨h1,h2⟩:=one x (by rw[eK];rfl) t ht;rw[h1,apk (h2 (aiL eK rfl))]
 ·rename_i T x v eK;obtain⟨s1,h1,h2⟩:=ay.1 he;obtain rfl:=aw.1 h2;obtain⟨id,e0,e,dy,hs,rfl,hl⟩:=amS h1;refine HM hs ?_ λt ht atS=> ?_
  ·show id∈writes Γ s o;unfold writes;rw[eK];simp only[dy,aY]
  ·unfold rO;rw[eK];simp only;rw[ht.ev (x:=x) (by rw[eK];simp[bU]),ht.ev (x:=v) (by rw[eK];simp[bU])];exact ay.2 ⟨_,hl t atS,aw.2 rfl⟩
 ·rename_i x eK;split at he
  ·rename_i id v p n hx;obtain rfl:=aw.1 he;refine lg λt ht=> ?_
   unfold rO;rw[eK];simp only[(one x (by rw[eK];rfl) t ht).1,hx];rfl
  ·rename_i ty y hx;obtain rfl:=aw.1 he;refine lg λt ht=> ?_
   unfold rO;rw[eK];simp only[(one x (by rw[eK];rfl) t ht).1,hx];rfl
  ·rename_i ty y hx;obtain⟨z,e,he⟩:=jm.1 he;obtain rfl:=aw.1 he;refine lg λt ht=> ?_
   unfold rO;rw[eK];simp only[(one x (by rw[eK];rfl) t ht).1,hx];exact jm.2 ⟨z,e,aw.2 rfl⟩
  ·rename_i ty y hx;obtain⟨z,e,he⟩:=jm.1 he;obtain rfl:=aw.1 he;refine lg λt ht=> ?_
   unfold rO;rw[eK];simp only[(one x (by rw[eK];rfl) t ht).1,hx];exact jm.2 ⟨z,e,aw.2 rfl⟩
  ·rename_i n u hx;obtain rfl:=aw.1 he;refine lg λt ht=> ?_
   unfold rO;rw[eK];simp only[(one x (by rw[eK];rfl) t ht).1,hx];rfl
  ·rename_i f c hx;obtain rfl:=aw.1 he;refine lg λt ht=> ?_
   unfold rO;rw[eK];simp only[(one x (by rw[eK];rfl) t ht).1,hx];rfl
  ·exact(av.1 he).elim
 ·rename_i op T x y U eK;have aGs:x∈o.op.operands.toList:=by rw[eK];simp[bU]
  have aRK:y∈o.op.operands.toList:=by rw[eK];simp[bU]
  split at he
  ·rename_i i v1 j v2 hx hy;obtain⟨v,h1,h2⟩:=ay.1 he;obtain rfl:=aw.1 h2;refine lg λt ht=> ?_
   unfold rO;rw[eK];simp only[ht.ev aGs,ht.ev aRK,hx,hy];exact ay.2 ⟨v,by rw[az8 (ht.amM (aiL eK rfl) aGs (by rw[hx];simp[aA.ids]))];exact h1,rfl⟩
  ·rename_i kJ;obtain⟨v,h1,h2⟩:=ay.1 he;obtain rfl:=aw.1 h2;refine lg λt ht=> ?_
   unfold rO;rw[eK];simp only[ht.ev aGs,ht.ev aRK];exact ay.2 ⟨v,h1,rfl⟩
 ·rename_i op T x eK;refine qe (F:=λt=>aUi op (t.ev x)) (λt=>by unfold rO;rw[eK]) (λt ht=> ?_) aih;rw[(one x (by rw[eK];rfl) t ht).1]
 ·rename_i T U x eK;split at he
  ·rename_i id ver len hTU hx;unfold an8 at he;split at he
   ·rename_i v e0 l e mw hD;split at he
    ·rename_i hE;obtain⟨h1,h2⟩:=aD.1 he;obtain⟨h3,h4⟩:=bP.1 h2;obtain rfl:=aw.1 h4;refine HM (dI mw) ?_ λt ht atS=> ?_
     ·show id∈writes Γ s o;unfold writes;rw[eK];simp only[hTU,hx];simp[aA.ids]
     ·have hob':t.obj id=aj (v,aS,.vec e0 (.int .u8) l):=by simp only[AS.obj,atS];exact mw
      unfold rO;rw[eK];simp only[hTU,(one x (by rw[eK];rfl) t ht).1,hx];unfold an8;simp only[hob',hD,hE];exact aD.2 ⟨h1,bP.2 ⟨h3,aw.2 rfl⟩⟩
    ·exact(av.1 he).elim
   ·exact(av.1 he).elim
  ·rename_i id ver hx;obtain⟨v,h1,h2⟩:=ay.1 he;obtain rfl:=aw.1 h2;refine lg λt ht=> ?_
   obtain⟨h3,h4⟩:=one x (by rw[eK];rfl) t ht;unfold rO;rw[eK];simp only[h3,hx];exact ay.2 ⟨v,by rw[an9 (h4 (aiL eK rfl) _ (by rw[hx];simp[aA.ids]))];exact h1,rfl⟩
  ·rename_i kJ;obtain⟨v,h1,h2⟩:=ay.1 he;obtain rfl:=aw.1 h2;refine lg λt ht=> ?_
   obtain⟨h3,h4⟩:=one x (by rw[eK];rfl) t ht;unfold rO;rw[eK];simp only[h3];exact ay.2 ⟨v,by rw[an7 (h4 (aiL eK rfl))];exact h1,rfl⟩
 ·rename_i T x eK;exact asj eK he
 ·rename_i f first caps eK
  obtain⟨h1,h2⟩:=aD.1 he;obtain rfl:=aw.1 h2;refine lg λt ht=> ?_
  have hc:v9 t caps.toList=v9 s caps.toList:=RC _ λx hx=>ht.ev (by rw[eK];simp only[bU,df];exact bg.2 (.inr hx))
  unfold rO;rw[eK];simp only[hc];exact aD.2 ⟨h1,aw.2 rfl⟩
 ·rename_i T l c eK;obtain⟨n,h1,h2⟩:=ay.1 he;obtain⟨m,h3,h4⟩:=ay.1 h2;exact Zp eK h1 h3 h4
 ·rename_i T x lo hi eK;refine qe (F:=λt=>LS P t T (t.ev x) lo hi) (λt=>by unfold rO;rw[eK]) (λt ht=> ?_) aih;have hm:∀z,(z=x\/lo=aj z\/hi=aj z)->z∈o.op.operands.toList:=λz hz=>by
   rw[eK];simp only[bU,df,bg];rcases hz with rfl | rfl | rfl
   ·left;left;left;simp
   ·left;left;right;simp
   ·left;right;simp
  have hx:=hm x (.inl rfl);rw[ht.ev hx];exact Ut (λid dy=>ht.amM (aiL eK rfl) hx dy) (λy hy=>ht.ev (hm y (.inr (.inl hy)))) (λy hy=>ht.ev (hm y (.inr (.inr hy))))
 ·rename_i T x lo y m eK;refine qe (F:=λt=>Us P t T (t.ev x) lo y m) (λt=>by unfold rO;rw[eK]) (λt ht=> ?_) aih;have hm:∀z,(z=x\/lo=aj z\/y=z\/m=z)->z∈o.op.operands.toList:=λz hz=>by
   rw[eK];simp only[bU,df,bg];rcases hz with rfl | rfl | rfl | rfl
   ·left;left;left;simp
   ·left;left;right;simp
   ·left;right;simp
   ·right;simp
  have hx:=hm x (.inl rfl);rw[ht.ev hx];exact ag6 (λid dy=>ht.amM (aiL eK rfl) hx dy) (λz hz=>ht.ev (hm z (.inr (.inl hz)))) (ht.ev (hm y (.inr (.inr (.inl rfl))))) (ht.ev (hm m (.inr (.inr (.inr rfl)))))
 ·rename_i T x f eK;refine qe (F:=λt=>HJ P T (t.ev x) f) (λt=>by unfold rO;rw[eK]) (λt ht=> ?_) aih;rw[(one x (by rw[eK];rfl) t ht).1]
 ·rename_i T x f eK;refine qe (F:=λt=>akB P T (t.ev x) f) (λt=>by unfold rO;rw[eK]) (λt ht=> ?_) aih;rw[(one x (by rw[eK];rfl) t ht).1]
 ·rename_i T x i eK;refine qe (F:=λt=>(asInt (t.ev i)).bind λi=>uQ P t T (t.ev x) i) (λt=>by unfold rO;rw[eK,Out.bind_assoc]) (λt ht=> ?_) aih;have hx:x∈o.op.operands.toList:=by rw[eK];simp[bU]
  rw[ht.ev (x:=i) (by rw[eK];simp[bU]),ht.ev hx];congr 1;funext i;exact Vw λid dy=>ht.amM (aiL eK rfl) hx dy
 ·rename_i T x i eK;refine qe (F:=λt=>(asInt (t.ev i)).bind λi=>akR P T (t.ev x) i) (λt=>by unfold rO;rw[eK,Out.bind_assoc]) (λt ht=> ?_) aih;rw[ht.ev (x:=i) (by rw[eK];simp[bU]),ht.ev (x:=x) (by rw[eK];simp[bU])]
 ·rename_i x i eK;refine qe (F:=λt=>Out.opt ((t.ev x).list[i]?)) (λt=>by unfold rO;rw[eK]) (λt ht=> ?_) aih;rw[(one x (by rw[eK];rfl) t ht).1]
 ·rename_i T eK;have Hh:=he;unfold Kr at Hh;split at Hh
  ·rename_i K V kt vt q hm hd;obtain⟨h1,h2⟩:=aD.1 Hh;obtain rfl:=aw.1 h2;refine zI (ids:=[]) hd h1 (λ_ h=>by cases h) λt ht hv=> ?_
   unfold rO;rw[eK];simp only;unfold Kr;simp only[hm,hd];exact aD.2 ⟨hv,aw.2 rfl⟩
  ·exact(av.1 Hh).elim
 ·rename_i T x i ok eK;refine qe (F:=λt=>HN P t T (t.ev x) (t.ev i) ok) (λt=>by unfold rO;rw[eK]) (λt ht=> ?_) aih;have hx:x∈o.op.operands.toList:=by rw[eK];simp[bU]
  rw[ht.ev (x:=i) (by rw[eK];simp[bU]),ht.ev hx];exact af7 λid dy=>ht.amM (aiL eK rfl) hx dy
 ·rename_i T m k x eK;obtain⟨s1,h1,h2⟩:=ay.1 he;obtain rfl:=aw.1 h2;obtain⟨id,e0,e,dy,hs,rfl,hl⟩:=agb h1;refine HM hs ?_ λt ht atS=> ?_
  ·show id∈writes Γ s o;unfold writes;rw[eK];simp only[dy,aY]
  ·unfold rO;rw[eK];simp only;rw[ht.ev (x:=m) (by rw[eK];simp[bU]),ht.ev (x:=k) (by rw[eK];simp[bU]),ht.ev (x:=x) (by rw[eK];simp[bU])];exact ay.2 ⟨_,hl t atS,aw.2 rfl⟩
 ·rename_i T m eK;have Hh:=he;unfold Wa at Hh;split at Hh
  ·rename_i K V kt vt id ver q hm hv hd;obtain⟨l,h1,h2⟩:=ay.1 Hh;obtain⟨h3,h4⟩:=aD.1 h2;obtain rfl:=aw.1 h4;simp only[ax]at h3;obtain⟨hu,hq⟩:=h3;have di:=aul h1;obtain⟨fr,di⟩:=di;obtain rfl:=DX di hu;have hf:∀t:AS,t.bT id=s.bT id->t.bj [id]=t.ba id (.obj ver aL (.mp kt vt l)):=λt ht=>by show t.freeze id=_;unfold AS.freeze;rw[ht,di]
   have aSZ:m∈o.op.operands.toList:=by rw[eK];simp[bU]
   have hw:id∈writes Γ s o:=by unfold writes;rw[eK];simp only[hv,aA.ids,aY]
   rw[<-hf s rfl];refine zI (ids:=[id]) hd hq (λi hi=> ?_) λt ht aEe=> ?_
   ·rw[aY.1 hi];exact bg.2 (.inr hw)
   ·have atS:t.bT id=s.bT id:=ht.ws id hw;unfold rO;rw[eK];simp only;unfold Wa;rw[ht.ev aSZ];simp only[hm,hv,hd];rw[hf t atS];exact ay.2 ⟨l,by rw[Ks atS];exact h1,aD.2 ⟨by rw[Gb atS,hu,aEe];rfl,aw.2 rfl⟩⟩
  ·simp only[av]at Hh
 ·rename_i c eK;obtain⟨cal,args,tys⟩:=c;simp only at he;split at he
  ·split at he
   ·rename_i m k T T2 ha ht';have aSZ:m∈o.op.operands.toList:=by rw[eK];simp only[bU,dU,bm,df,ha];simp
    have aKZ:k∈o.op.operands.toList:=by rw[eK];simp only[bU,dU,bm,df,ha];simp
    obtain⟨s1,h1,h2⟩:=ay.1 he;obtain rfl:=aw.1 h2;obtain⟨id,e0,e,dy,hs,rfl,hl⟩:=aga h1;refine HM hs ?_ λt ht atS=> ?_
    ·show id∈writes Γ s o;unfold writes;rw[eK];simp only[ha,dy,aY]
    ·unfold rO;rw[eK];simp only[ha,ht'];rw[ht.ev aSZ,ht.ev aKZ];exact ay.2 ⟨_,hl t atS,aw.2 rfl⟩
   ·exact(av.1 he).elim
  ·split at he
   ·rename_i x y T X ha ht';exact atf eK rfl ha ht' he
   ·exact(av.1 he).elim
  ·split at he
   ·rename_i x T ha ht';refine qe (F:=λt=>aMy P T (t.ev x)) (λt=>by unfold rO;rw[eK];simp only[ha,ht']) (λt ht=> ?_) aih;rw[ht.ev (by rw[eK];simp only[bU,dU,bm,df,ha];simp)]
   ·exact(av.1 he).elim
  ·split at he
   ·rename_i x y T X ha ht';have aGs:x∈o.op.operands.toList:=by rw[eK];simp only[bU,dU,bm,df,ha];simp
    have aRK:y∈o.op.operands.toList:=by rw[eK];simp only[bU,dU,bm,df,ha];simp
    split at he
    ·rename_i k n hx hy;have Hh:=he;unfold aoQ at Hh;split at Hh
     ·rename_i e t0 b q kn Rk hd hX;obtain⟨h1,h2⟩:=aD.1 Hh;obtain⟨h3,h4⟩:=bP.1 h2;obtain rfl:=aw.1 h4;refine zI (ids:=[]) hd h1 (λ_ h=>by cases h) λt ht hv=> ?_
      unfold rO;rw[eK];simp only[ha,ht',ht.ev aGs,ht.ev aRK,hx,hy];unfold aoQ;simp only[Rk,hd,hX];exact aD.2 ⟨hv,bP.2 ⟨h3,aw.2 rfl⟩⟩
     ·exact(av.1 Hh).elim
    ·rename_i kJ;exact ajQ eK rfl ha ht' kJ he
   ·exact(av.1 he).elim
  ·split at he
   ·rename_i x T ha ht';have aGs:x∈o.op.operands.toList:=by rw[eK];simp only[bU,dU,bm,df,ha];simp
    split at he
    ·rename_i e hx hT;obtain rfl:=aw.1 he;refine lg λt ht=> ?_
     unfold rO;rw[eK];simp only[ha,ht',ht.ev aGs,hx,hT];rfl
    ·exact(av.1 he).elim
   ·exact(av.1 he).elim
  ·refine qe (F:=λt=>aA1 aL (args.toList.map t.ev)) (λt=>by unfold rO;rw[eK]) (λt ht=> ?_) aih;congr 1;exact eY λx hx=>ht.ev (by rw[eK];simp only[bU,dU,bm,df];exact hx)
  ·refine qe (F:=λt=>aA1 aS (args.toList.map t.ev)) (λt=>by unfold rO;rw[eK]) (λt ht=> ?_) aih;congr 1;exact eY λx hx=>ht.ev (by rw[eK];simp only[bU,dU,bm,df];exact hx)
  ·split at he
   ·rename_i x ha;have aGs:x∈o.op.operands.toList:=by rw[eK];simp only[bU,dU,bm,df,ha];simp
    split at he
    ·rename_i id ver len hx;obtain⟨h1,h2⟩:=bP.1 he;obtain rfl:=aw.1 h2;refine lg λt ht=> ?_
     unfold rO;rw[eK];simp only[ha,ht.ev aGs,hx];exact bP.2 ⟨h1,rfl⟩
    ·exact(av.1 he).elim
   ·exact(av.1 he).elim
  ·split at he
   ·rename_i x y T U ha ht';have aGs:x∈o.op.operands.toList:=by rw[eK];simp only[bU,dU,bm,df,ha];simp
    have aRK:y∈o.op.operands.toList:=by rw[eK];simp only[bU,dU,bm,df,ha];simp
    split at he
    ·rename_i id ver n hx hy;have Hh:=he;unfold asf at Hh;split at Hh
     ·rename_i v e l u mw hT;obtain⟨h1,h2⟩:=aD.1 Hh;obtain⟨h3,h4⟩:=bP.1 h2;obtain rfl:=aw.1 h4;refine HM (dI mw) ?_ λt ht atS=> ?_
      ·show id∈writes Γ s o;unfold writes;rw[eK];simp only[ha,hx];simp[aA.ids]
      ·have hob':t.obj id=aj (v,aS,.vec e (.int .u8) l):=by simp only[AS.obj,atS];exact mw
       unfold rO;rw[eK];simp only[ha,ht',ht.ev aGs,ht.ev aRK,hx,hy];unfold asf;simp only[hob',hT];exact aD.2 ⟨h1,bP.2 ⟨h3,aw.2 rfl⟩⟩
     ·exact(av.1 Hh).elim
    ·exact(av.1 he).elim
   ·exact(av.1 he).elim
  ·rename_i F _;split at he
   ·rename_i f caps hF;split at he
    ·rename_i en D3;obtain⟨iB,he⟩:=aD.1 he;exact as8 eK rfl hF D3 iB he
    ·exact(av.1 he).elim
   ·exact(av.1 he).elim
  ·exact(av.1 he).elim
 ·exact(av.1 he).elim
end
end Go.Ab
end
