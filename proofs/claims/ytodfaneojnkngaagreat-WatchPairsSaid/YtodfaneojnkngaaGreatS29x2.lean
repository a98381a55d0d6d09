/-
  Made short by a program of mine (wip/tools/mini.py).
-/
import Derived.Test.YtodfaneojnkngaaGreatS29x1
import Derived.Lib.Builder
import Derived.Lib.UnsafeStr
import Derived.Lib.AppendZeros
import Derived.Maps.RangeRun
set_option linter.unusedVariables false
set_option linter.unusedSimpArgs false
set_option maxRecDepth 100000
set_option synthInstance.maxSize 5000
open Go renaming IntKind->lC,FuncId->fV,Operand->bU,Program->aT,World->cd,MapEntry->gB
open List renaming replicate->ab,length->ag
open UInt8 renaming ofNat->fQ
open Nat renaming beq->ju
open Go.World renaming cell?->fq
open Go.Sem renaming run_bind->cC,run_pure->ez
open Go.Result renaming andThen_ok->bP
open Go.Addr renaming add_lit->fU
open Go.Op renaming equalIn->eI,operands->cE
open Go.Call renaming operands->eE
open Option renaming some->av,none->aD
open Bool renaming true->aZ,false->aQ
noncomputable section
namespace Go.Ab
section
variable {P:aT} {C:Ctx} {g:Nat->np} {β:Id->Option Pl} {s:AS} {a:Act} {w:cd} {o:Oper}
theorem El{b:Builtin}{args:Array bU}{ts:Array TypeId}{f:Sem Value}{x:Value}{w':cd}(ho:o.op= .call {callee:= .builtin b,args,argTypes:=ts})
  (hb:∀ty cs xs,xs=args.map a.eval->builtin b ts ty cs xs=(do pure (.value (<-f)))) (hf:f.run P w= .ok x w'):(execOp a.eval o).run P w= .ok (.value x) w':=by
 simp only[execOp,ho,resolve,cC,ez,bP,invoke];rw[hb _ _ _ rfl,cC,hf];rfl
theorem aHV(h:Inv C g β s a w){c:Call}{x:bU}{T:TypeId}(ho:o.op= .call c)(hc:c.callee= .builtin .len)(ha:c.args.toList=[x])(ht:c.argTypes.toList=[T]){v:aC}(he:(aNG P T (s.ev x)).eval=av v):
  gr P o a w (jf C (s.put o.dst v)):=by
 obtain⟨cal,args,tys⟩:=c;simp only at hc ha ht;have ha':args= #[x]:=by apply ig;simpa using ha
 have ht':tys= #[T]:=by apply ig;simpa using ht
 subst hc ha' ht';have hx:=h.ev x;have fin:∀z,(Builtin.len_ #[T] 0 #[a.eval x]).run P w= .ok z w->VS (s.env w g β) v z->gr P o a w (jf C (s.put o.dst v)):=by intro z h1 h2;refine h.value h2 (El ho (f:=Builtin.len_ #[T] 0 #[a.eval x]) (λty cs xs asn=> ?_) h1);subst asn;have e1:Builtin.len_ #[T] 0 #[a.eval x]=Builtin.len_ #[T] ty #[a.eval x]:=rfl;rw[e1];simp[builtin]
 unfold aNG at he;split at he
 ·rename_i st hT hl;rw[hl]at hx;obtain rfl:=az.1 he;refine fin (.int .i64 (st.size:Int)) ?_ (mM _ _)
  rw[Ll hx];simp[Builtin.len_,run_underlying hT,goInt]
 ·rename_i e t l hT hl;rw[hl]at hx;obtain rfl:=az.1 he;obtain⟨ad,cap,vs,hy,_⟩:=vY hx;refine fin (.int .i64 (l.length:Int)) ?_ (mM _ _)
  rw[hy];simp[Builtin.len_,run_underlying hT,goInt]
 ·rename_i e hT hl;rw[hl]at hx;obtain rfl:=az.1 he;refine fin (.int .i64 0) ?_ (mM _ _)
  rw[mu hx];simp[Builtin.len_,run_underlying hT,goInt]
 ·rename_i e id ver p c i len hT hl;rw[hl]at hx;obtain rfl:=az.1 he;obtain⟨ad,cap,hy,_⟩:=tJ hx;refine fin (.int .i64 (len:Int)) ?_ (mM _ _)
  rw[hy];simp[Builtin.len_,run_underlying hT,goInt]
 ·rename_i n e hT;obtain rfl:=az.1 he;refine fin (.int .i64 (n:Int)) ?_ (mM _ _)
  simp[Builtin.len_,run_underlying hT,goInt]
 ·simp only[aw]at he
def Env.open(E:Env):Env:= {E with g:=λ_=> .free}
theorem aN4(E:Env):db E E.open:=⟨⟨λ_ _ _ h=>⟨h.1,trivial⟩,λ_ _ _ h=>⟨rfl,h⟩⟩,λ_ _ h=>h,λ_ _ _ h=>⟨h,rfl⟩⟩
theorem auT(h:Inv C g β s a w){v:aC}{y:Value}(hv:VS (s.env w g β) v y){t:Ty}{x:t.den}(ht:(s.auS t v).eval=av x):
  ∃cs,dA (s.env w g β).open t cs x/\gI t.agg cs y:=by
 obtain⟨cs,hV,hO⟩:=hv.fA (Eb ht);exact⟨cs,y5 rfl h.bT (aN4 _) v t x cs hV ht (λid _ v fr c _ pl _ j x hx _=>⟨hx,trivial⟩),by rw[<-aeU ht];exact hO⟩
theorem yG{E:Env}{k:lC}:∀ {vs:List Value} {l:List Int},bI (dA E (.int k)) vs l->vs=l.map (Value.int k)
 |vs,[],h=>h
 |_,x::xs,⟨c,cs',e,hx,hr⟩=>by
  have hx':c=[Value.int k x]:=by simpa only[dA]using hx
  rw[e,hx',yG hr];rfl
theorem yM{E:Env}{k:lC}:∀(l:List Int),bI (dA E (.int k)) (l.map (Value.int k)) l
 |[]=>rfl
 |x::xs=>⟨[.int k x],xs.map (Value.int k),rfl,by simp[dA],yM xs⟩
theorem foldl_push(l:List Int):∀b:ByteArray,l.foldl (λr n=>r.push (fQ n.toNat)) b=⟨b.data++(l.map λn=>fQ n.toNat).toArray⟩:=by
 induction l with
 |nil=>intro b;simp
 |cons n l ih=>
  intro b;rw[bz,ih];simp[ByteArray.push]
theorem aqs{α:Type}(xs:Array α)(x:α)(f:α->α):(xs.push x).modify xs.size f=xs.push (f x):=by
 apply tN;intro i;rw[iq,Array.getElem?_push,Array.getElem?_push];by_cases h:i=xs.size
 ·subst h;simp
 ·have h':¬xs.size=i:=λe=>h e.symm
  simp[h,h']
theorem akI(w:cd)(c:Array Value)(e:TypeId)(n:Nat):(w.alloc (.cells c e)).freeze ⟨w.heap.size,n,aD⟩ 1=w.alloc (.cells c e (n,n+1)):=by show({w with heap:=(w.heap.push (.cells c e)).modify w.heap.size _}:cd)= {w with heap:=w.heap.push (.cells c e (n,n+1))};rw[aqs];rfl
theorem aoY{w:cd}{b:Nat}{c:Array Value}{e:TypeId}{n:Nat}(h:w.heap[b]? =av (.cells c e (n,n+1))):w.freeze ⟨b,n,aD⟩ 1=w:=by
 unfold World.freeze;rw[if_neg ak];have:∀f:Obj->Obj,f (.cells c e (n,n+1))= .cells c e (n,n+1)->w.heap.modify b f=w.heap:=λf hf=>by
  apply tN;intro i;rw[iq];split
  ·rename_i hi;subst hi;rw[h];simp[hf]
  ·rfl
 rw[this];simp
theorem Tx(e:TypeId)(st:ByteArray)(w:cd):∃cap:Nat,st.size<=cap/\∃arr:Array Value,(∀(j:Nat) (v:Value),((bN st).map (Value.int .u8))[j]? =av v->arr[j]? =av v)/\
  (Conv.stringToBytes e st).run P w= .ok (.slice (av ⟨w.heap.size,0,aD⟩) st.size cap) (w.drew.alloc (.cells arr e (arr.size,arr.size+1))):=by
 refine⟨(Question.appendCap st.size 0 e).cut (w.tape w.drawn (.appendCap st.size 0 e)),by simp[Question.cut],
  (st.data.map λb=>Value.int .u8 b.toNat)++Array.replicate ((Question.appendCap st.size 0 e).cut (w.tape w.drawn (.appendCap st.size 0 e)) - st.size) (.int .u8 0),?_,?_⟩
 ·intro j v hj;have hl:j < st.data.size:=by have:=(dX.1 hj).1;simpa[bN]using this
  rw[lB,if_pos (by simpa using hl)];simpa[bN,hl]using hj
 ·have hs:∀(arr:Array Value),(markStringish ⟨w.heap.size,0,aD⟩).run P (w.drew.alloc (.cells arr e))= .ok () (w.drew.alloc (.cells arr e (arr.size,arr.size+1))):=by
   intro arr;have h1:(w.drew.alloc (.cells arr e)).shape? w.heap.size=av (e,arr.size):=by
    have h2:(w.drew.alloc (.cells arr e)).heap[w.heap.size]? =av (.cells arr e):=vc w.drew _
    simp only[World.shape?,h2]
   have h3:=akI w.drew arr e arr.size;have h4:w.drew.heap.size=w.heap.size:=rfl;rw[h4]at h3;simp only[markStringish,cC,run_shape,h1,bP,run_freeze,h3]
  simp[Conv.stringToBytes,Question.forced,newRow,hs]
theorem Inv.kill(h:Inv C g β s a w){id:Id}{v:Nat}{fr:Bool}{c:aC}(hs:s.cq id=av (.obj v fr c)){b:Nat}(hg:g b= .own (.id id) 0){w':cd}(aPJ:w'.os=w.os)(aWz:w'.tape=w.tape)(akT:w'.output=w.output/\w.drawn<=w'.drawn)(uW:w'.heap.size=w.heap.size)
  (MR:∀b',b'≠b->w'.heap[b']? =w.heap[b']?):Inv C (oS g b .free) β (s.bq id .dead) a w':=by
 have ht:Trans w w' g (oS g b .free):=by
  refine⟨aPJ,aWz,akT,ak,λb' hb'=> ?_⟩;by_cases he:b'=b
  ·subst he;rw[hg,gm];exact⟨.inl rfl,λ_ _ hh=>ak⟩
  ·rw[fZ _ _ _ he,MR b' he];cases YT:g b' with
   |free=>exact⟨rfl,rfl⟩
   |own o k=>cases o with
    |eY=>exact⟨rfl,rfl⟩
    |id i=>exact⟨.inr ⟨i,k,rfl,ay _⟩,λoff v _ hv=>by simp only[fq,MR b' he]at hv ⊢;exact hv⟩
 have mm:=fk s id .dead (by rw[hs];simp);have hle:db (s.env w g β) ((s.bq id .dead).env w' (oS g b .free) β):=by
  refine⟨Trans.mem ht,λi ver hb=> ?_,λi ver hb hc=> ?_⟩
  ·by_cases hi:i=id
   ·subst hi;exact⟨by show(s.bq i .dead).cq i≠aD;rw[mm];simp,λv fr c hh=>by
     have hh:(s.bq i .dead).cq i=av (.obj v fr c):=hh;rw[mm]at hh;cases hh⟩
   ·have:=dq s id i .dead hi;obtain⟨h1,h2⟩:=hb;exact⟨by show(s.bq id .dead).cq i≠aD;rw[this];exact h1,λv fr c hh=>h2 v fr c (this.symm.trans hh)⟩
  ·obtain⟨fr,c,hc⟩:=hc;have hc:(s.bq id .dead).cq i=av (.obj ver fr c):=hc;by_cases hi:i=id
   ·subst hi;rw[mm]at hc;cases hc
   ·rw[dq s id i .dead hi]at hc;exact⟨⟨fr,c,hc⟩,rfl⟩
 refine h.step (dE _ _ _) ht hle λi ver fr c hi=> ?_
 have hi:(s.bq id .dead).cq i=av (.obj ver fr c):=hi;by_cases dr:i=id
 ·subst dr;rw[mm]at hi;cases hi
 ·rw[dq s id i .dead dr]at hi;refine(h.bT i ver fr c hi).mono hle rfl (λpl hp=> ?_) λq2 vq k2 v2 l2 Vi aVR=> ?_
  ·have il:=h.apart hg dr hi (pl:=pl) hp;exact⟨MR pl.b il,fZ _ _ _ il⟩
  ·have Vi:s.cq q2=av (.obj vq aZ (.mp k2 v2 l2)):=Vi;have hd:q2≠id:=λe=>by obtain⟨fr3,c3,aG7⟩:=aVR;have aG7:(s.bq id .dead).cq q2=av (.obj vq fr3 c3):=aG7;rw[e,mm]at aG7;cases aG7
   refine⟨⟨k2,v2,l2,by show(s.bq id .dead).cq q2=_;rw[dq s id q2 .dead hd];exact Vi⟩,λpl hp=> ?_⟩;have il:=h.apart hg hd Vi (pl:=pl) hp;exact⟨MR pl.b il,fZ _ _ _ il⟩
theorem att(h:Inv C g β s a w){src dst:TypeId}{x:bU}(ho:o.op= .convert src dst x){id:Id}{ver len:Nat}(hx:s.ev x= .bE id ver [] 0 0 len){s':AS}(he:(aod P s o.dst src dst id ver len).eval=av s'):gr P o a w (jf C s'):=by
 unfold aod at he;split at he
 ·rename_i v e0 l e mX hD;split at he
  ·rename_i hE;obtain⟨h1,h2⟩:=aH.1 he;obtain⟨h3,h4⟩:=b8.1 h2;obtain rfl:=az.1 h4;simp only[au,dK]at h1;obtain⟨rfl,rfl⟩:=h1;simp only[bf]at h3;obtain⟨h5,h6⟩:=h3;have dh:=eU mX;have hv:=h.ev x;rw[hx]at hv;obtain⟨ad,cap,hy,R4,_,_,gb⟩:=tJ hv;have gb:=gb ⟨aQ,_,dh⟩;have hO:yz (s.env w g β) id aQ (.vec e0 (.int .u8) l):=h.bT id v aQ _ dh;obtain⟨hz,hO⟩:=hO;have hO:(match β id with
    |none=>l=[]
    |some pl=>∃cur k,w.heap[pl.b]? =av (.cells cur e0 (0,0))/\cur.size=pl.cap*(Ty.int .u8).size/\l.length<=pl.cap/\pl.cap<=maxLen/\g pl.b= .own (.id id) k/\
      k<=l.length*(Ty.int .u8).size/\(aQ=aQ->k=0)/\bI (dA (s.env w g β) (.int .u8)) (cur.toList.take (l.length*(Ty.int .u8).size)) l):=hO
   have gb:(match β id with
    |some pl=>(0 < len\/0=0->ad=av ⟨pl.b,0,aD⟩)/\(([]:List MK)=[]->0=0->cap=pl.cap)
    |none=>ad=aD/\len=0/\cap=0):=gb
   cases hp:β id with
   |none=>rw[hp]at hO;simp only at hO;subst hO;simp at h6;omega
   |some pl=>
    rw[hp]at hO gb;obtain⟨cur,k,q1,q2,q3,q4,q5,q6,q7,q8⟩:=hO;have hk:=q7 rfl;subst hk;have aAE:=gb.1 (.inr rfl);subst aAE;have hb:pl.b < w.heap.size:=(bX.1 q1).1;have aTO:∃w',w.freeze ⟨pl.b,cur.size,aD⟩ 1=w'/\w'.heap[pl.b]? =av (.cells cur e0 (cur.size,cur.size+1))/\w'.os=w.os/\w'.tape=w.tape/\(w'.output=w.output/\w.drawn<=w'.drawn)/\w'.heap.size=w.heap.size/\∀b',b'≠pl.b->w'.heap[b']? =w.heap[b']? :=by
     refine⟨_,rfl,?_⟩;unfold World.freeze;rw[if_neg ak];refine⟨?_,rfl,rfl,⟨rfl,ay _⟩,by simp,λb' hb'=> ?_⟩
     ·simp only[iq,bM,q1,eJ];rfl
     ·simp only[iq];rw[if_neg (λe=>hb' e.symm)]
    obtain⟨w',hw',f1,f2,f3,f4,f5,f6⟩:=aTO;have aHh:w.shape? pl.b=av (e0,cur.size):=by simp only[World.shape?,q1]
    have hm:(markStringish ⟨pl.b,0,aD⟩).run P w= .ok () w':=by simp only[markStringish,cC,run_shape,aHh,bP,run_freeze,hw']
    have i1:=h.kill dh q5 f2 f3 f4 f5 f6;refine .inl ⟨.slice (av ⟨pl.b,0,aD⟩) len cap,w',eK (f:=convert src src (a.eval x)) (by simp only[execOp,ho]) ?_,_,β,i1.put o.dst ⟨_,?_,rfl⟩⟩
    ·rw[hy];simp[convert,run_underlying hD,run_underlying hE,hm]
    ·have Xy:=yG q8;have aRg:(Ty.int .u8).size=1:=rfl;rw[aRg,iJ]at Xy;simp only[V,dA];refine⟨_,cap,l.map (Value.int .u8),by rw[h6],by rw[<-h6];exact R4,λ_=>rfl,λj vv hj=>⟨_,_,rfl,?_,?_⟩,yM (E:=(s.bq id .dead).env w' (oS g pl.b .free) β) _⟩
     ·rw[aR];show w'.cell? ⟨pl.b,j,aD⟩=av vv;simp only[fq,f1];rw[<-Xy,dD]at hj;split at hj
      ·simpa using hj
      ·cases hj
     ·show wK (oS g pl.b .free) pl.b (0+j);unfold wK;rw[gm];trivial
  ·simp only[aw]at he
 ·simp only[aw]at he
theorem aME(h:Inv C g β s a w){src dst:TypeId}{x:bU}(ho:o.op= .convert src dst x){l:List Int}(hl:s.ev x= .sb l){v:aC}(he:(aF3 P src dst l).eval=av v):gr P o a w (jf C (s.put o.dst v)):=by
 have hx:=h.ev x;have fin:∀z,(convert src dst (a.eval x)).run P w= .ok z w->VS (s.env w g β) v z->gr P o a w (jf C (s.put o.dst v)):=by intro z h1 h2;exact h.value h2 (eK (f:=convert src dst (a.eval x)) (by simp only[execOp,ho]) h1)
 unfold aF3 at he;split at he
 ·rename_i e e' hD hS;rw[hl]at hx;split at he
  ·rename_i hE;obtain⟨h1,h2⟩:=aH.1 he;obtain rfl:=az.1 h2;have h1:src=dst:=by simpa using h1
   subst h1;obtain⟨cs,hv,hO⟩:=hx;simp only[V]at hv;obtain⟨b,cap,arr,e2,ao8,R4,aQ6,hb,atW⟩:=hv;have hO':cs=[a.eval x]:=hO;rw[ao8]at hO';have hy:a.eval x= .slice (av ⟨b,0,aD⟩) l.length cap:=by simpa using hO'.symm
   rw[hD]at hS;obtain rfl:e=e':=by simpa using hS
   refine fin (.slice (av ⟨b,0,aD⟩) l.length cap) ?_ ⟨_,?_,rfl⟩
   ·rw[hy];have hb:w.heap[b]? =av (.cells arr e2 (arr.size,arr.size+1)):=hb
    have aTO:=aoY hb;have aHh:w.shape? b=av (e2,arr.size):=by simp only[World.shape?,hb]
    have hm:(markStringish ⟨b,0,aD⟩).run P w= .ok () w:=by simp only[markStringish,cC,run_shape,aHh,bP,run_freeze,aTO]
    simp[convert,run_underlying hD,run_underlying hE,hm]
   ·simp only[V,dA];refine⟨_,cap,l.map (Value.int .u8),rfl,R4,λ_=>rfl,λj v hj=>⟨_,_,rfl,?_,?_⟩,yM (E:=s.env w g β) _⟩
    ·rw[aR];show w.cell? ⟨b,j,aD⟩=av v;have hb:w.heap[b]? =av (.cells arr e2 (arr.size,arr.size+1)):=hb
     simp only[fq,hb];simpa using atW j v hj
    ·show wK g b (0+j);unfold wK;have aQ6:g b= .free:=aQ6;rw[aQ6];trivial
  ·simp only[aw]at he
 ·simp only[aw]at he
theorem aj9(h:Inv C g β s a w){obj:Bool}{src dst:TypeId}{x:bU}(ho:o.op= .convert src dst x){v:aC}(he:(ahE P s obj src dst (s.ev x)).eval=av v):gr P o a w (jf C (s.put o.dst v)):=by
 have hx:=h.ev x;have fin:∀z,(convert src dst (a.eval x)).run P w= .ok z w->VS (s.env w g β) v z->gr P o a w (jf C (s.put o.dst v)):=by intro z h1 h2;exact h.value h2 (eK (f:=convert src dst (a.eval x)) (by simp only[execOp,ho]) h1)
 unfold ahE at he;split at he
 ·rename_i l hl;exact aME h ho hl he
 rename_i aTU;unfold aF2 at he;split at he
 ·rename_i k n k' d hl hD hS;rw[hl]at hx;obtain rfl:=az.1 he;refine fin (.int k' (k'.wrap n)) ?_ (mM _ _)
  rw[w6 hx];simp[convert,run_underlying hD,run_underlying hS,Conv.intToInt]
 ·rename_i st d hl hD hS;rw[hl]at hx;obtain rfl:=az.1 he;refine fin (.string st) ?_ (ajv _)
  rw[Ll hx];simp[convert,run_underlying hD,run_underlying hS]
 ·rename_i st e d hl hD hS;rw[hl]at hx;split at he
  ·rename_i hE;obtain⟨cap,R4,arr,atW,im⟩:=Tx (P:=P) e st w;have i1:=(h.drew).LP (.cells arr e (arr.size,arr.size+1));have hlen:(bN st).length=st.size:=by simp only[bN,cm,c9];rfl
   have h2:=vc w.drew (.cells arr e (arr.size,arr.size+1));have hex:(execOp a.eval o).run P w= .ok (.value (.slice (av ⟨w.heap.size,0,aD⟩) st.size cap)) (w.drew.alloc (.cells arr e (arr.size,arr.size+1))):=by
    refine eK (f:=convert src dst (a.eval x)) (by simp only[execOp,ho]) ?_
    rw[Ll hx];simp[convert,run_underlying hD,run_underlying hS,run_underlying hE,im]
   have axF:oS g w.drew.heap.size .free w.heap.size= .free:=by rw[show w.drew.heap.size=w.heap.size from rfl,gm]
   cases obj with
   |false=>
    obtain rfl:=az.1 he;refine .inl ⟨_,_,hex,_,β,i1.put o.dst ⟨_,?_,rfl⟩⟩;simp only[V,dA];refine⟨_,cap,(bN st).map (Value.int .u8),by rw[hlen],ak,λ_=>rfl,λj v hj=>⟨_,_,rfl,?_,?_⟩,yM (E:=s.env (w.drew.alloc (.cells arr e (arr.size,arr.size+1))) (oS g w.drew.heap.size .free) β) _⟩
    ·have:=atW j v hj;rw[aR];show(w.drew.alloc (.cells arr e (arr.size,arr.size+1))).cell? ⟨w.drew.heap.size,j,aD⟩=av v;simp only[fq,h2];simpa using this
    ·show wK (oS g w.drew.heap.size .free) w.heap.size (0+j);unfold wK;rw[axF];trivial
   |true=>
    obtain rfl:=az.1 he;refine .inl ⟨_,_,hex,_,β,i1.put o.dst ⟨_,?_,rfl⟩⟩;simp only[V];exact⟨w.heap.size,cap,arr,e,by rw[hlen],ak,axF,h2,atW⟩
  ·simp only[aw]at he
 ·rename_i e hD hS il;clear il;split at he
  ·rename_i hE;obtain⟨l,h1,h2⟩:=ax.1 he;obtain rfl:=az.1 h2;obtain⟨cs,hR,hO⟩:=auT h hx h1;simp only[dA]at hR;obtain⟨ad,cap,vs,rfl,aEa,sa,uc,xL⟩:=hR;have hO': [Value.slice ad (ag l) cap]=[a.eval x]:=hO;have hy:a.eval x= .slice ad (ag l) cap:=by simpa using hO'.symm
   refine fin (.string (fY l)) ?_ (ajv _)
   rw[hy,run_convert_bytes_string w src dst e ad _ _ hS hE hD];have Xy:=yG (E:=(s.env w g β).open) (k:= .u8) (vs:=vs) (l:=l) xL;cases ad with
   |none=>
    have aTU:l=[]:=by
     cases l with
     |nil=>rfl
     |cons _ _=>simp at sa
    subst aTU;rfl
   |some ad=>
    have aHb:(loadCells ad (ag l)).run P w= .ok (l.map (Value.int .u8)).toArray w:=by
     have:=run_loadCells_list (P:=P) w ad (l.map (Value.int .u8)) (λj v hj=>by
      rw[<-Xy]at hj;obtain⟨bb,off,e1,hh⟩:=uc j v hj;simp only[aA]at e1;subst e1;rw[fU];exact hh.1)
     simpa using this
    rw[run_bytesToString w ad _ _ l aHb,foldl_push];simp[fY]
  ·simp only[aw]at he
 ·simp only[aw]at he
end
end Go.Ab
namespace Go.Ab
section
variable {P:aT} {C:Ctx} {g:Nat->np} {β:Id->Option Pl} {s:AS} {a:Act} {w:cd} {o:Oper}
theorem ahU(off:Nat):∀(vs:List Value) (k:Nat) (cells:Array Value),off+k+vs.length<=cells.size->
  ((vs.zipIdx k).foldl (λcs (c,j)=>cs.setIfInBounds (off+j) c) cells).toList=dO cells.toList (off+k) vs
 |[],k,cells,_=>by simp[dO]
 |v::vs,k,cells,h=>by simp only[aB]at h;rw[List.zipIdx_cons,bz,ahU off vs (k+1) _ (by simpa using(by omega:off+(k+1)+vs.length<=cells.size))];rw[Array.toList_setIfInBounds];have:=list_seg_step cells.toList (off+k) v vs (by simp;omega);unfold dO;simpa[fy]using this
theorem ahS{place:Nat->Option (Nat×Nat)}{cells:Array Value}{i off:Nat}{v:Value}{vs:List Value}{rest:List (Nat×Value)}(hp:place i=av (off,vs.length))(hv:v.cells=vs.toArray)(hl:off+vs.length<=cells.size):
  Instr.fill place cells ((i,v)::rest)=Instr.fill place (dO cells.toList off vs).toArray rest:=by
 have h1:v.cells.size=vs.length:=by rw[hv];simp
 have h2:¬(v.cells.size≠vs.length || off+v.cells.size > cells.size)=aZ:=by simp[h1];omega
 simp only[Instr.fill,hp];rw[if_neg h2];congr 1;apply ig;have:=ahU off vs 0 cells ak;simp only[cK]at this;rw[<-this,hv];rw[<-Array.foldl_toList];simp
theorem E4{E E':Env}(hs:E.s=s.cq)(ho:jE E)(he:db E E'){t:Ty}(ao9:∀x,VS E (s.ev x) (a.eval x)):
  ∀(ps:List (Nat×bU)) (l:List t.den) (r:List t.den×List Id) (cells:Array Value),(j9 t s ps l).eval=av r->aTa E E' r.2->bI (dA E' t) cells.toList l->
   ∃cells',Instr.fill (λi=>av (i*t.size,t.size)) cells (ps.map λ(i,x)=>(i,a.eval x))=av cells'/\bI (dA E' t) cells'.toList r.1
 |[],l,r,cells,h,_,hc=>by obtain rfl:=az.1 h;exact⟨cells,rfl,hc⟩
 | (i,x)::ps,l,r,cells,h,hf,hc=>by
  simp only[j9]at h;obtain⟨h1,h2⟩:=aH.1 h;obtain⟨y,h3,h4⟩:=ax.1 h2;obtain⟨r',h5,h6⟩:=ax.1 h4;obtain rfl:=az.1 h6;have hi:i < l.length:=by simpa using h1
  obtain⟨cs,hV,hO⟩:=(ao9 x).fA (Eb h3);have hR:=y5 hs ho he _ t y cs hV h3 (λid dr=>hf id (by simp[dr]));have Fz:=hO.cells hV.one;have hlen:=hc.length (λ_ _ hx=>dA.size hx);have uW:=hR.size;have hle:i*t.size+cs.length<=cells.size:=by have:=di t.size (show i+1<=l.length by omega);rw[fe,jj]at this;simp at hlen;omega
  have akX:=bI.set (λ_ _ hx=>dA.size hx) hc i hi hR;obtain⟨cells',q1,q2⟩:=E4 hs ho he ao9 ps (l.set i y) r' (dO cells.toList (i*t.size) cs).toArray h5 (λid dr=>hf id (by simp[dr])) akX;refine⟨cells',?_,q2⟩;rw[bY,ahS (by rw[uW]) Fz hle];exact q1
theorem vV{E:Env}{t:Ty}{zc:Array Value}(hz:dA E t zc.toList t.zero):∀n:Nat,bI (dA E t) (madeCells zc (n*t.size)).toList (ab n t.zero):=by
 have uW:zc.size=t.size:=by have:=hz.size;simpa using this
 intro n
 induction n with
 |zero=>simp[madeCells,bI]
 |succ n ih=>
  have e:(madeCells zc ((n+1)*t.size)).toList=(madeCells zc (n*t.size)).toList++zc.toList:=by
   apply lY;intro j;rw[fe,jj];simp only[madeCells,Array.toList_map,Array.toList_range,eW,List.getElem?_append,cm,List.length_range];by_cases hj:j < n*t.size
   ·have hj':j < n*t.size+t.size:=ak;simp[hj,hj',uW]
   ·by_cases hj':j < n*t.size+t.size
    ·have iA:j - n*t.size < zc.size:=ak;have hm:j%t.size=j - n*t.size:=by
      have:j=(j - n*t.size)+t.size*n:=by rw[ri t.size n];omega
      rw[this,Nat.add_mul_mod_self_left,kM ak];rw[ri t.size n];omega
     simp[hj,hj',uW,hm];rw[getElem?_pos zc _ iA,ml zc _ iA]
    ·have h1:¬j - n*t.size < zc.size:=ak;simp[hj,hj',h1]
  rw[e,List.replicate_succ'];exact bI.append ih (bI.one hz)
theorem sE{nl:Bool}{T:TypeId}{e:TypeId}{t:Ty}{b:Nat}(h:GY P nl T=av (e,t,b)):
  P.underlying T=av (.slice e)/\0 < t.size/\∃i zv,P.info? e=av i/\i.size=t.size/\i.bytes=b/\i.zero=av zv/\∀E,dA E t zv.cells.toList t.zero:=by
 unfold GY at h;split at h
 ·rename_i e' hT;split at h
  ·rename_i t' ht;split at h
   ·rename_i hg;simp only[aA,cT]at h;obtain⟨rfl,rfl,rfl⟩:=h;simp only[au,cS,dK,ik]at hg;obtain⟨⟨h1,h2⟩,h3⟩:=hg;obtain⟨i,zv,hi,hz,_,_⟩:=xz h3 {w:=default,g:=λ_=> .free,β:=λ_=>aD,s:=λ_=>aD};refine⟨hT,ak,i,zv,hi,by rw[<-oC hi];exact h1,by simp[Program.bytesOf,hi],hz,λE=> ?_⟩;obtain⟨i',zv',hi',hz',hV,_⟩:=xz h3 E;rw[hi]at hi';obtain rfl:i=i':=by simpa using hi'
    rw[hz]at hz';obtain rfl:zv=zv':=by simpa using hz'
    simpa only[V]using hV
   ·cases h
  ·cases h
 ·cases h
theorem Es{T:TypeId}{e:TypeId}{t:Ty}{b:Nat}(h:ZB P T=av (e,t,b)):P.underlying T=av (.slice e)/\0 < t.size/\∃i zv,P.info? e=av i/\i.size=t.size/\i.bytes=b/\i.zero=av zv/\∀E,dA E t zv.cells.toList t.zero:=sE h
theorem afS{T:TypeId}{e:TypeId}{t:Ty}{b:Nat}(h:akv P T=av (e,t,b)):0 < t.size:=by
 unfold akv at h;split at h
 ·exact(sE h).2.1
 ·exact(sE h).2.1
theorem Inv.alv(h:Inv C g β s a w){q:Nat}(hq:s.eS q=aZ){e:TypeId}{t:Ty}{l:List t.den}{cur:Array Value}{cap:Nat}(hz:0 < t.size)(hc:bI (dA (s.env w g β) t) (cur.toList.take (l.length*t.size)) l)
  (hs:cur.size=cap*t.size) (hl:l.length<=cap) (hm:cap<=maxLen):
  ∃g' β',Inv C g' β' (s.born q [.obj 0 aQ (.vec e t l)]) a (w.alloc (.cells cur e))/\
   VS ((s.born q [.obj 0 aQ (.vec e t l)]).env (w.alloc (.cells cur e)) g' β') (.bE (.new q 0) 0 [] 0 0 l.length) (.slice (av ⟨w.heap.size,0,aD⟩) l.length cap):=by
 have ht:=Trans.alloc w g (.cells cur e) (.own (.id (.new q 0)) 0);obtain⟨h1,h2⟩:=h.UQ hq (c:= .vec e t l) (p:=av ⟨w.heap.size,cap⟩) ht (λb hb=>⟨sC w _ hb,fZ _ _ _ ak⟩) (λhe=>by
  refine⟨hz,?_⟩;show(match LM β (.new q 0) (av ⟨w.heap.size,cap⟩) (.new q 0) with
   |none=>l=[]
   |some pl=>_)
  rw[kR];exact⟨cur,0,vc w _,hs,hl,hm,gm _ _ _,aP _,λ_=>rfl,hc.mono λ_ _ hx=>hx.mono he.mem⟩)
 refine⟨_,_,h1,_,?_,rfl⟩;simp only[V];refine⟨_,_,rfl,hl,λ_=>rfl,ru hq _ _ _ _,λ_=> ?_⟩;show(match LM β (.new q 0) (av ⟨w.heap.size,cap⟩) (.new q 0) with
   |some pl=>_
   |none=>_)
 rw[kR];exact⟨λ_=>rfl,λ_ _=>rfl⟩
theorem Inv.aIu(h:Inv C g β s a w){q:Nat}(hq:s.eS q=aZ){e:TypeId}{t:Ty}(hz:0 < t.size):
  ∃β',Inv C g β' (s.born q [.obj 0 aQ (.vec e t [])]) a w/\db (s.env w g β) ((s.born q [.obj 0 aQ (.vec e t [])]).env w g β')/\
   VS ((s.born q [.obj 0 aQ (.vec e t [])]).env w g β') (.bE (.new q 0) 0 [] 0 0 0) (.slice aD 0 0):=by
 have ht:=Trans.refl w g;obtain⟨h1,h2⟩:=h.UQ hq (c:= .vec e t []) (p:=aD) ht (λb hb=>⟨rfl,rfl⟩) (λhe=>by
  refine⟨hz,?_⟩;show(match LM β (.new q 0) aD (.new q 0) with
   |none=>([]:List t.den)=[]
   |some pl=>_)
  rw[kR])
 refine⟨_,h1,h2,_,?_,rfl⟩;simp only[V];refine⟨_,_,rfl,ay _,λhh=>ak,ru hq _ _ _ _,λ_=> ?_⟩;simp[AS.env]
theorem VH(parts:Array (Nat×bU)):(parts.map λ(i,x)=>(i,a.eval x)).toList=parts.toList.map λ(i,x)=>(i,a.eval x):=by simp
theorem YP(h:Inv C g β s a w){T:TypeId}{n:Nat}{parts:Array (Nat×bU)}{nl obj:Bool}(ho:o.op= .buildSlice T n parts){s':AS}(he:(nU P s nl obj o.dst T n parts.toList).eval=av s'):gr P o a w (jf C s'):=by
 unfold nU at he;split at he
 ·rename_i e t b q MQ hd;obtain⟨hT,hz,i,zv,hi,aAK,aRa,aso,aAP⟩:=sE MQ;obtain⟨h1,h2⟩:=aH.1 he;obtain⟨r,h3,h4⟩:=ax.1 h2;simp only[bf]at h1;obtain⟨g1,i1,e1,t1,f1⟩:=gh r.2 h;have aSU:zv.cells.size=t.size:=by have:=(aAP (s.env w g β)).size;simpa using this
  obtain⟨cells',aTM,xL⟩:=E4 (a:=a) rfl h.bT e1 h.ev parts.toList _ r (madeCells zv.cells (n*t.size)) h3 f1 (vV (aAP _) n);have aTZ:r.1.length=n:=by
   have:∀(ps:List (Nat×bU)) (l:List t.den) (r:List t.den×List Id),(j9 t s ps l).eval=av r->r.1.length=l.length:=by
    intro ps
    induction ps with
    |nil=>intro l r hh;obtain rfl:=az.1 hh;rfl
    |cons p ps ih=>
     intro l r hh;obtain⟨i,x⟩:=p;simp only[j9]at hh;obtain⟨_,h2⟩:=aH.1 hh;obtain⟨y,h3,h4⟩:=ax.1 h2;obtain⟨r',h5,h6⟩:=ax.1 h4;obtain rfl:=az.1 h6;have:=ih _ _ h5;simpa using this
   rw[this _ _ _ h3];simp
  have asi:=xL.length (λ_ _ hx=>dA.size hx);have im:(execOp a.eval o).run P w= .ok (.value (.slice (av ⟨w.heap.size,0,aD⟩) n n)) (w.alloc (.cells cells' e)):=by
   refine eK (f:=Instr.buildSlice T n (parts.map λ(i,x)=>(i,a.eval x))) (by simp only[execOp,ho]) ?_
   have aTA:¬n*t.size > 2^24:=ak;have hfill':Instr.fill (λi=>av (i*t.size,t.size)) ((Array.range (n*t.size)).map (λx=>(zv.cells)[x%zv.cells.size]!)) (parts.map λ(i,x)=>(i,a.eval x)).toList=av cells':=by rw[VH];exact aTM
   by_cases hn:n*t.size=0
   ·have aNb:n=0:=by
     rcases Nat.mul_eq_zero.1 hn with h' | h'
     ·exact h'
     ·omega
    subst aNb;simp only[ou]at hfill' aTA;have h0:Array.range 0= #[]:=rfl;rw[h0,Array.map_empty]at hfill';simp at hfill';simp[Instr.buildSlice,run_underlying hT,run_sizeOf hi,aAK,newRow,h0,hfill']
   ·simp[Instr.buildSlice,run_underlying hT,run_sizeOf hi,aAK,newRow,hn,aTA,zeroValue,typeInfo,hi,aso];simp at hfill';simp[hfill']
  cases obj with
  |true=>
   simp only at h4;obtain⟨hq,h5⟩:=aH.1 h4;obtain rfl:=az.1 h5;rw[<-xw r.2]at hq;have aTN:cells'.toList.take (r.1.length*t.size)=cells'.toList:=bk ak;obtain⟨g2,β2,i2,Xx⟩:=i1.alv hq (e:=e) (l:=r.1) (cur:=cells') (cap:=n) hz (by rw[aTN];exact xL) (by simp at asi;rw[asi,aTZ]) ak (by
    have:n<=n*t.size:=Nat.le_mul_of_pos_right n hz;unfold maxLen;omega)
   refine .inl ⟨_,_,im,g2,β2,?_⟩;rw[hd];rw[aTZ]at Xx ⊢;exact i2.put (av q) Xx
  |false=>
   simp only at h4;obtain rfl:=az.1 h4;have i2:=i1.LP (.cells cells' e);refine .inl ⟨_,_,im,oS g1 w.heap.size .free,β,?_⟩;rw[hd];refine i2.put (av q) ⟨[.slice (av ⟨w.heap.size,0,aD⟩) n n],?_,rfl⟩;simp only[V,dA];refine⟨_,n,cells'.toList,by rw[aTZ],ak,λ_=>rfl,λj v hj=>⟨_,_,rfl,?_,?_⟩,xL.mono λ_ _ hx=>hx.mono (Trans.mem (E:=(s.bG r.2).env w g1 β) (E':=(s.bG r.2).env (w.alloc (.cells cells' e)) (oS g1 w.heap.size .free) β) (Trans.alloc w g1 (.cells cells' e) .free))⟩
   ·show(w.alloc (.cells cells' e)).cell? ⟨w.heap.size,0+j,aD⟩=av v;rw[World.cell?_alloc_new,aR];simpa using hj
   ·show wK (oS g1 w.heap.size .free) w.heap.size (0+j);unfold wK;rw[gm];trivial
 ·simp only[aw]at he
theorem acr(h:Inv C g β s a w){T:TypeId}{x y:bU}(ho:o.op= .makeSlice T x y){len cap:Int}(hx:(asInt (s.ev x)).eval=av len)(hy:(asInt (s.ev y)).eval=av cap){s':AS}
  (he:(ui P s o.dst T len cap).eval=av s'):gr P o a w (jf C s'):=by
 obtain⟨k,hx⟩:=BG (h.ev x) hx;obtain⟨k',hy⟩:=BG (h.ev y) hy;unfold ui at he;split at he
 ·rename_i e t b q MQ hd;obtain⟨hT,hz,i,zv,hi,aAK,aRa,aso,aAP⟩:=Es MQ;obtain⟨hq,h2⟩:=aH.1 he;obtain⟨h3,h4⟩:=b8.1 h2;obtain rfl:=az.1 h4;simp only[au,bf,dw]at h3;obtain⟨⟨h5,h6⟩,h7,h8⟩:=h3;have hbytes:(i.bytes:Int)*cap<=281474976710656:=by rw[aRa];have:((cap.toNat*b:Nat):Int)<=140737488355328:=ak;rw[lN,show((cap.toNat:Nat):Int)=cap by omega,qV]at this;omega
  have hr:=run_make (P:=P) w T e i zv hT hi aso k k' len cap h5 h6 hbytes ak;rw[aAK]at hr;have aSU:zv.cells.size=t.size:=by have:=(aAP (s.env w g β)).size;simpa using this
  have Eu:=vV (aAP (s.env w g β)) cap.toNat;have aAO:=bI.take (λ_ _ hx=>dA.size hx) len.toNat Eu;rw[List.take_replicate,eH ak]at aAO;obtain⟨g2,β2,i2,Xx⟩:=h.alv hq (e:=e) (l:=ab len.toNat t.zero) (cur:=madeCells zv.cells (cap.toNat*t.size)) (cap:=cap.toNat) hz (by rw[cD];exact aAO) (size_madeCells _ _) (by rw[cD];omega) (by unfold maxLen;omega);rw[cD]at Xx;refine .inl ⟨_,_,eK (f:=Instr.makeSlice T (a.eval x) (a.eval y)) (by simp only[execOp,ho]) (by rw[hx,hy];exact hr),g2,β2,?_⟩;rw[hd];exact i2.put (av q) Xx
 ·simp only[aw]at he
end
end Go.Ab
namespace Go.Ab
section
variable {P:aT} {C:Ctx} {g:Nat->np} {β:Id->Option Pl} {s:AS} {a:Act} {w:cd} {o:Oper}
theorem auP:∀(c:aC) (f off:Nat) (v:aC),partOf c f=av (off,v)->(loc c (pn f)).eval=av (off,v):=by
 intro c f
 induction f generalizing c with
 |zero=>
  intro off v h;cases c with
  |d t y=>
   cases t <;> simp only[partOf,reduceCtorEq]at h;simp only[aA,cT]at h;obtain⟨rfl,rfl⟩:=h;rfl
  |pr b c=>
   simp only[partOf,aA,cT]at h;obtain⟨rfl,rfl⟩:=h;simp only[pn,loc];cases b <;> rfl
  |_=>simp only[partOf,reduceCtorEq]at h
 |succ f ih=>
  intro off v h;cases c with
  |d t y=>
   cases t with
   |pair ta tb=>
    simp only[partOf]at h;cases hp:partOf (.d tb y.2) f with
    |none=>rw[hp]at h;cases h
    |some r=>
     rw[hp]at h;simp only[aA,cT]at h;obtain⟨rfl,rfl⟩:=h;simp only[pn,loc,ax];exact⟨_,ih _ _ _ hp,rfl⟩
   |_=>simp only[partOf,reduceCtorEq]at h
  |pr b c=>
   simp only[partOf]at h;cases hp:partOf c f with
   |none=>rw[hp]at h;cases h
   |some r=>
    rw[hp]at h;simp only[aA,cT]at h;obtain⟨rfl,rfl⟩:=h;simp only[pn,loc,ax];exact⟨_,ih _ _ _ hp,rfl⟩
  |_=>simp only[partOf,reduceCtorEq]at h
theorem apT(a b:aC):(SH a b).agg=aZ:=by unfold SH;split <;> rfl
theorem agZ{v x v':aC}{i:Nat}(h:(zH v (pn i) x).eval=av v'):v'.agg=aZ:=by
 have fin:∀ {o:Out aC} {f:aC->aC},(∀a,(f a).agg=aZ)->(o.bind λa=>Out.ok (f a)).eval=av v'->v'.agg=aZ:=by intro o f hf hh;obtain⟨_,_,h2⟩:=ax.1 hh;obtain rfl:=az.1 h2;exact hf _
 cases i <;> simp only[pn]at h
 all_goals
  cases v with
  |d t y=>cases t <;> first | (simp only[zH,aw]at h;done) | (simp only[zH]at h;exact fin (λ_=>apT _ _) h)
  |pr b c=>simp only[zH]at h;exact fin (λ_=>apT _ _) h
  |_=>simp only[zH,aw]at h
theorem K6{E:Env}(ao9:∀x,VS E (s.ev x) (a.eval x)){fs:Array Field}{places:Array (Nat×Nat)}(QP:∀(i:Nat) (f:Field),fs[i]? =av f->places[i]? =av (f.offset,P.cellsOf f.type)):
  ∀(ps:List (Nat×bU)) (v v':aC) (cells:Array Value),(rS P fs s ps v).eval=av v'->V E v cells.toList->v.agg=aZ->
   ∃cells',Instr.fill (places[·]?) cells (ps.map λ(i,x)=>(i,a.eval x))=av cells'/\V E v' cells'.toList/\v'.agg=aZ
 |[],v,v',cells,h,hV,QO=>by obtain rfl:=az.1 h;exact⟨cells,rfl,hV,QO⟩
 | (i,x)::ps,v,v',cells,h,hV,QO=>by
  simp only[rS]at h;split at h
  ·rename_i f off bt hf hp;obtain⟨h1,h2⟩:=aH.1 h;obtain⟨v1,h3,h4⟩:=ax.1 h2;simp only[au,dK]at h1;obtain⟨⟨rfl,aU1⟩,aU2⟩:=h1;obtain⟨atX,_⟩:=ua aU2;obtain⟨cs,hVx,hO⟩:=(ao9 x).fA atX;have hcells:=hO.cells hVx.one;have aV6:=auP _ _ _ _ hp;obtain⟨u1,u2,u3⟩:=r9 (pn i) v cells.toList f.offset bt (s.ev x) v1 cs (VO.of hV) aV6 hVx h3;have aT1:v1.jy=aQ:=u3.vQ hV.vQ;have uW:P.cellsOf f.type=cs.length:=by rw[(JN aU2).2.1];exact hVx.size.symm
   obtain⟨cells',q1,q2,q3⟩:=K6 ao9 QP ps v1 v' (dO cells.toList f.offset cs).toArray h4 (by simpa using u2.to aT1) (agZ h3);refine⟨cells',?_,q2,q3⟩;rw[bY,ahS (by rw[QP i f hf,uW]) hcells (by simpa using u1)];exact q1
  ·simp only[aw]at h
theorem ard{α γ:Type}(f:α->Sem γ)(r:α->γ):∀(l:List α),(∀x∈l,(f x).run P w= .ok (r x) w)->(l.mapM f).run P w= .ok (l.map r) w
 |[],_=>by simp
 |x::xs,h=>by rw[List.mapM_cons];simp only[cC,h x (by simp),bP,ard f r xs (λy hy=>h y (by simp[hy])),ez,bY]
theorem as5(h:Inv C g β s a w){T:TypeId}{parts:Array (Nat×bU)}(ho:o.op= .build T parts){s':AS}(he:(Jv P s o.dst T parts.toList).eval=av s'):gr P o a w (jf C s'):=by
 unfold Jv at he;split at he
 ·rename_i fs hT;split at he
  ·rename_i z aZW;obtain⟨h1,h2⟩:=aH.1 he;obtain⟨v,h3,h4⟩:=ax.1 h2;obtain rfl:=az.1 h4;simp only[au,dp]at h1;obtain⟨⟨hz,QO⟩,aV3⟩:=h1;obtain⟨i,zv,hi,aso,hV,hO⟩:=xz hz (s.env w g β)
   let places:Array (Nat×Nat):=fs.map λf=>(f.offset,P.cellsOf f.type)
   have QP:∀(i:Nat) (f:Field),fs[i]? =av f->places[i]? =av (f.offset,P.cellsOf f.type):=by intro i f hf;simp[places,hf]
   obtain⟨cells',q1,q2,q3⟩:=K6 (a:=a) h.ev QP parts.toList z v zv.cells h3 hV QO;have hm:(fs.mapM λf=>(do pure (f.offset,<-sizeOf f.type):Sem (Nat×Nat))).run P w= .ok places w:=by
    rw[Array.mapM_eq_mapM_toList];have:=ard (P:=P) (w:=w) (λf=>(do pure (f.offset,<-sizeOf f.type):Sem (Nat×Nat))) (λf=>(f.offset,P.cellsOf f.type)) fs.toList (by
     intro f hf;obtain⟨j,hj⟩:=bR.1 (aV3 f hf);rw[cC,run_sizeOf hj,oC hj];rfl)
    rw[Sem.run_map,this];show Result.ok _ w=Result.ok _ w;congr 1;apply ig;simp[places]
   refine h.value (x:= .agg cells') (VS.of q2 (by rw[q3];simp[gI])) (eK (f:=Instr.build T (parts.map λ(i,x)=>(i,a.eval x))) (by simp only[execOp,ho]) ?_);have q1':Instr.fill (places[·]?) zv.cells (parts.map λ(i,x)=>(i,a.eval x)).toList=av cells':=by rw[VH];exact q1
   simp only[Instr.build,cC,zeroValue,typeInfo,run_program,hi,bP,ez,aso,run_underlying hT,hm,q1']
  ·simp only[aw]at he
 ·rename_i n e hT;split at he
  ·rename_i t ht;obtain⟨h1,h2⟩:=aH.1 he;obtain⟨r,h3,h4⟩:=ax.1 h2;obtain rfl:=az.1 h4;simp only[au,dK]at h1;obtain⟨uW,hz⟩:=h1;obtain⟨g1,i1,e1,t1,f1⟩:=gh r.2 h;obtain⟨i,zv,hi,aso,hV,hO⟩:=xz hz ((s.bG r.2).env w g1 β);simp only[V,dA]at hV;obtain⟨cells',q1,q2⟩:=E4 (a:=a) rfl h.bT e1 h.ev parts.toList _ r zv.cells h3 f1 hV.2;have aTZ:r.1.length=n:=by
    have:∀(ps:List (Nat×bU)) (l:List t.den) (r:List t.den×List Id),(j9 t s ps l).eval=av r->r.1.length=l.length:=by
     intro ps
     induction ps with
     |nil=>intro l r hh;obtain rfl:=az.1 hh;rfl
     |cons p ps ih=>
      intro l r hh;obtain⟨i,x⟩:=p;simp only[j9]at hh;obtain⟨_,h2⟩:=aH.1 hh;obtain⟨y,h3,h4⟩:=ax.1 h2;obtain⟨r',h5,h6⟩:=ax.1 h4;obtain rfl:=az.1 h6;have:=ih _ _ h5;simpa using this
    rw[this _ _ _ h3];simp
   refine .inl ⟨.agg cells',w,eK (f:=Instr.build T (parts.map λ(i,x)=>(i,a.eval x))) (by simp only[execOp,ho]) ?_,g1,β,i1.put o.dst ⟨cells'.toList,?_,by simp[gI,aC.agg,Ty.agg]⟩⟩
   ·have q1':Instr.fill (λi=>av (i*t.size,t.size)) zv.cells (parts.map λ(i,x)=>(i,a.eval x)).toList=av cells':=by rw[VH];exact q1
    cases aV1:P.info? e with
    |none=>
     exfalso;unfold ar0 aff at ht;simp only[depth]at ht;have:P.underlying e=aD:=by simp[Program.underlying,aV1]
     rw[this]at ht;cases ht
    |some ie=>
     have aXZ:=run_sizeOf aV1 w;rw[<-oC aV1,uW]at aXZ;simp only[Instr.build,cC,zeroValue,typeInfo,run_program,hi,bP,ez,aso,run_underlying hT,aXZ,q1']
   ·simp only[V,dA];exact⟨aTZ,q2⟩
  ·simp only[aw]at he
 ·simp only[aw]at he
theorem Wj{T X ty e:TypeId}{i:TypeInfo}(hT:P.underlying T=av (.slice e))(hX:P.underlying X=av .string\/∃e',P.underlying X=av (.slice e'))(hi:P.info? e=av i)
  {b sLen sCap:Nat} {cur:Array Value} (hg:w.heap[b]? =av (.cells cur e (0,0))) {x:Value} {n:Nat} {news:List Value} (h1:∀u∈news,u.oneCell'=aZ)
  (hlen:(Builtin.lenOf x).run P w= .ok n w) (hf:(Builtin.firstCells i.size n x).run P w= .ok news.toArray w) (NL:sLen+n<=sCap) (akQ:sLen*i.size+news.length<=cur.size):
  (Builtin.append_ #[T,X] ty #[.slice (av ⟨b,0,aD⟩) sLen sCap,x]).run P w= .ok (.slice (av ⟨b,0,aD⟩) (sLen+n) sCap) (w.setRow b (dO cur.toList (sLen*i.size) news).toArray):=by
 have nA:=run_storeCells_at P b (sLen*i.size) e news 0 cur w hg (by simpa using akQ) h1;simp only[cK]at nA;rcases hX with hX | ⟨e',hX⟩ <;> simp[Builtin.append_,run_underlying hT,run_underlying hX,sizeOf,typeInfo,hi,hlen,NL,hf,fU,nA,dO]
theorem IE{T X ty e:TypeId}{i:TypeInfo}(hT:P.underlying T=av (.slice e))(hX:P.underlying X=av .string\/∃e',P.underlying X=av (.slice e'))(hi:P.info? e=av i)
  {x:Value} (hlen:(Builtin.lenOf x).run P w= .ok 0 w) (hf:(Builtin.firstCells i.size 0 x).run P w= .ok #[] w):
  (Builtin.append_ #[T,X] ty #[.slice aD 0 0,x]).run P w= .ok (.slice aD 0 0) w:=by
 rcases hX with hX | ⟨e',hX⟩ <;> simp[Builtin.append_,run_underlying hT,run_underlying hX,sizeOf,typeInfo,hi,hlen,hf]
theorem Wi{T X ty e:TypeId}{i:TypeInfo}{zv:Value}(hT:P.underlying T=av (.slice e))(hX:P.underlying X=av .string\/∃e',P.underlying X=av (.slice e'))(hi:P.info? e=av i)(aso:i.zero=av zv)
  {ad:Option Addr} {sLen sCap:Nat} {cz:List Value} (ho:(Builtin.firstCells i.size sLen (.slice ad sLen sCap)).run P w.drew= .ok cz.toArray w.drew) {x:Value} {n:Nat} {news:List Value}
  (hlen:(Builtin.lenOf x).run P w= .ok n w) (hf:(Builtin.firstCells i.size n x).run P w.drew= .ok news.toArray w.drew) (NL:sCap < sLen+n)
  (aXD:((sLen+n:Nat):Int)<=9223372036854775807) (akQ:(sLen+n)*i.bytes<=140737488355328):
  (Builtin.append_ #[T,X] ty #[.slice ad sLen sCap,x]).run P w= .ok (.slice (av ⟨w.heap.size,0,aD⟩) (sLen+n) (grownCap w (sLen+n) sCap e))
   (w.drew.alloc (.cells (cz.toArray++news.toArray++Builtin.zeroCells zv.cells (grownCap w (sLen+n) sCap e - (sLen+n))) e)):=by
 have hn:¬(sLen+n<=sCap):=ak;have h63':¬(9223372036854775807 < ((sLen:Int)+(n:Int))):=ak;have hfit':=growslice_fits (bytes:=i.bytes) NL akQ;have h48':¬(281474976710656 < Builtin.nextslicecap (sLen+n) sCap*i.bytes):=ak;rcases hX with hX | ⟨e',hX⟩
 all_goals
  simp[Builtin.append_,run_underlying hT,run_underlying hX,sizeOf,typeInfo,zeroValue,hi,aso,hlen,hn,h63',h48',Question.forced,hf,ho,newRow,grownCap];congr 2;apply ig;simp[aI]
end
end Go.Ab
namespace Go.Ab
section
variable {P:aT} {C:Ctx} {g:Nat->np} {β:Id->Option Pl} {s:AS} {a:Act} {w:cd} {o:Oper}
theorem aIS(h:Inv C g β s a w){v:aC}{y:Value}(hv:VS (s.env w g β) v y){t:Ty}{m:List t.den}(he:(s.auS (.slice t) v).eval=av m):
  ∃ad cap vs,y= .slice ad m.length cap/\(0 < m.length->ad.isSome=aZ)/\(∀j u,vs[j]? =av u->∃bb off,ad=av ⟨bb,off,aD⟩/\w.cell? ⟨bb,off+j,aD⟩=av u)/\bI (dA (s.env w g β) t) vs m:=by
 have hp:(s.jT (.slice t) v).eval=av m:=he;cases v <;> first | (simp only[AS.jT,aw]at hp;done) | skip
 case dy=>
  simp only[AS.jT,az]at hp;subst hp;exact⟨aD,0,[],mu hv,by simp,λj u hj=>by simp at hj,rfl⟩
 case d t' x=>
  simp only[AS.jT]at hp;have hp:=lf.1 hp;have ha:(aC.d t' x).agg=aQ:=ahD hp;have hV:=hv.single rfl ha;simp only[V]at hV;have hv:VS (s.env w g β) (.d (.slice t) m) y:=VS.of (cs:=[y]) (by simp only[V];exact GD hp hV) rfl;obtain⟨ad,cap,vs,hy,_,hs,hr,hc⟩:=vY hv;exact⟨ad,cap,vs,hy,hs,λj u hj=>let⟨bb,off,e,hh⟩:=hr j u hj;⟨bb,off,e,hh.1⟩,hc⟩
 case bE id ver p c i len=>
  simp only[AS.jT]at hp;obtain⟨⟨n,t',l⟩,h1,h2⟩:=ax.1 hp;obtain⟨h3,h4⟩:=b8.1 h2;obtain⟨aSM,aYZ⟩:=azX (E:=s.env w g β) (lf.1 h4);rw[aSM];simp only[bf]at h3;obtain⟨hc,hlen⟩:=h3
  suffices hg:∃ad cap vs,y= .slice ad (cut l i len).length cap/\(0 < (cut l i len).length->ad.isSome=aZ)/\(∀j u,vs[j]? =av u->∃bb off,ad=av ⟨bb,off,aD⟩/\w.cell? ⟨bb,off+j,aD⟩=av u)/\bI (dA (s.env w g β) t') vs (cut l i len) by obtain⟨ad,cap,vs,e1,e2,e3,e4⟩:=hg;exact⟨ad,cap,vs,e1,e2,e3,aYZ _ e4⟩
  obtain⟨fr,c0,dh,uc⟩:=V9 rfl h.bT h1;obtain⟨ad,cap,hy,hle,sa,hb,gb⟩:=tJ hv;have gb:=gb ⟨fr,c0,dh⟩;have aLC:(cut l i len).length=len:=GP hlen;rcases uc with⟨hp,hl,_⟩ | ⟨pl,cur,e,hp,hh,uW,xL,hbound⟩
  ·rw[hp]at gb;simp only at gb;obtain⟨rfl,rfl,rfl⟩:=gb;have:cut l i 0=[]:=by simp[cut]
   refine⟨aD,0,[],by rw[aLC];exact hy,by rw[aLC];omega,λ_ _ hh=>by simp at hh,?_⟩;rw[this];rfl
  ·rw[hp]at gb;simp only at gb;have hmul:(i+len)*t'.size<=l.length*t'.size:=di _ hlen;rw[fe]at hmul;refine⟨ad,cap,_,by rw[aLC];exact hy,by rw[aLC];exact sa,?_,Pc xL i len⟩;rw[adh _ _ _ _ _ hmul];intro j v hj;rw[dD]at hj;split at hj
   ·rename_i aRc;rw[gK,hc]at hj;have aV7:0 < len:=by
     rcases jD len with h0 | h0
     ·subst h0;simp at aRc
     ·exact h0
    refine⟨pl.b,c,gb.1 (.inl aV7),?_⟩;have hh':w.heap[pl.b]? =av (.cells cur e (0,0)):=hh
    rw[cell_of_row w pl.b (c+j) cur e (0,0) hh'];simpa using hj
   ·cases hj
theorem XT(h:Inv C g β s a w){t:Ty}{X:TypeId}{x:aC}{y:Value}(hx:VS (s.env w g β) x y){m:List t.den}(he:(J9 P s t X x).eval=av m):
  (P.underlying X=av .string\/∃e',P.underlying X=av (.slice e'))/\∃news:List Value,bI (dA (s.env w g β) t) news m/\(Builtin.lenOf y).run P w= .ok m.length w/\
   ∀w',w'.heap=w.heap->(Builtin.firstCells t.size m.length y).run P w'= .ok news.toArray w':=by
 have sl:∀(x:aC),VS (s.env w g β) x y->(match P.underlying X with
   |some (.slice _)=>s.auS (.slice t) x
   |_=> .fail).eval=av m->(P.underlying X=av .string\/∃e',P.underlying X=av (.slice e'))/\∃news:List Value,bI (dA (s.env w g β) t) news m/\(Builtin.lenOf y).run P w= .ok m.length w/\
   ∀w',w'.heap=w.heap->(Builtin.firstCells t.size m.length y).run P w'= .ok news.toArray w':=by
  intro x hx he;split at he
  ·rename_i e' hX;refine⟨.inr ⟨e',hX⟩,?_⟩;obtain⟨ad,cap,vs,rfl,sa,uc,xL⟩:=aIS h hx he;have hlen:=bI.length (λ_ _ hx=>dA.size hx) xL;refine⟨vs,xL,rfl,λw' hw'=> ?_⟩;cases ad with
   |none=>
    have aHc:m.length=0:=by
     rcases jD m.length with h0 | h0
     ·exact h0
     ·have:=sa h0;simp at this
    have:vs=[]:=bK (by rw[hlen,aHc,ou]);subst this;rfl
   |some ad=>
    refine run_firstCells_some (P:=P) w' t.size _ ad _ _ vs hlen (λj v hj=> ?_);obtain⟨bb,off,e1,hh⟩:=uc j v hj;simp only[aA]at e1;subst e1;rw[fU];simpa[fq,hw']using hh
  ·simp only[aw]at he
 unfold J9 at he;split at he
 ·rename_i st;split at he
  ·rename_i hX;refine⟨.inl hX,?_⟩;obtain⟨e,hm⟩:=km (lf.1 he);have e':Ty.int .u8=t:=by simpa using e
   subst e';simp only at hm;subst hm;have hy:=Ll hx;subst hy;have hlen:(bN st).length=st.size:=by simp only[bN,cm,c9];rfl
   refine⟨(bN st).map (Value.int .u8),yM _,by rw[hlen];rfl,λw' _=> ?_⟩;rw[hlen];simp only[Builtin.firstCells,ez];congr 1;apply ig;rw[ByteArray.extract_zero_size];simp[bN]
  ·simp only[aw]at he
 ·exact sl _ hx he
theorem C1(z:Array Value)(n:Nat):(Builtin.zeroCells z n).size=n*z.size:=by simp[Builtin.zeroCells]
theorem azY(h:Inv C g β s a w){c:Call}{x y:bU}{T X:TypeId}(ho:o.op= .call c)(hc:c.callee= .builtin .copy)(ha:c.args.toList=[x,y])(ht:c.argTypes.toList=[T,X]){s':AS}
  (he:(aa4 P s o.dst T X (s.ev x) (s.ev y)).eval=av s'):gr P o a w (jf C s'):=by
 obtain⟨cal,args,tys⟩:=c;simp only at hc ha ht;have ha':args= #[x,y]:=by apply ig;simpa using ha
 have ht':tys= #[T,X]:=by apply ig;simpa using ht
 subst hc ha' ht';have hx:=h.ev x;have hy:=h.ev y;have fin:∀z w',(Builtin.copy_ #[T,X] 0 #[a.eval x,a.eval y]).run P w= .ok z w'->(∃g' β',Inv C g' β' s' (a.put o.dst z) w')->gr P o a w (jf C s'):=by intro z w' h1 h2;refine .inl ⟨z,w',El ho (f:=Builtin.copy_ #[T,X] 0 #[a.eval x,a.eval y]) (λty cs xs asn=> ?_) h1,h2⟩;subst asn;have e1:Builtin.copy_ #[T,X] 0 #[a.eval x,a.eval y]=Builtin.copy_ #[T,X] ty #[a.eval x,a.eval y]:=rfl;rw[e1];simp[builtin]
 unfold aa4 at he;split at he
 ·rename_i e t b id ver len MQ asn;obtain⟨hT,hz,i,zv,hi,aAK,aRa,aso,aAP⟩:=Es MQ;obtain⟨m,hm,he⟩:=ax.1 he;obtain⟨hX,news,xL,hlen,aPE⟩:=XT h hy hm;have aNc:=xL.length (λ_ _ hx=>dA.size hx);have h1news:∀u∈news,u.oneCell'=aZ:=bI.all (λ_ _ hx=>hx.one) xL;rw[<-aAK]at aPE;split at he
  ·rename_i ve n t' l mX;obtain⟨h1,R5⟩:=aH.1 he;simp only[au,dK]at h1;obtain⟨aRo,aYX⟩:=h1;subst aRo aYX;obtain⟨l',hl',afF⟩:=ax.1 R5;obtain⟨et,hl'⟩:=km (lf.1 hl');have et':t'=t:=by simpa using et
   subst et';simp only at hl';subst hl';obtain⟨aSM,aSK⟩:=b8.1 afF;have aSM:m.length<=len:=by simpa using aSM
   obtain rfl:=az.1 aSK;have dh:=eU mX;rw[asn]at hx;obtain⟨ad,cap,aEe,aEa,sa,abL,gb⟩:=tJ hx;have gb:=gb ⟨aQ,_,dh⟩;obtain⟨pl,cur,e0,hp,hh,hg,hk,hV⟩:=(h.bT id ve aQ _ dh).box rfl;have hp:β id=av pl:=hp;have hh:w.heap[pl.b]? =av (.cells cur e0 (0,0)):=hh
   have hg:g pl.b= .own (.id id) 0:=hg;have hcur':(match β id with
    |some pl=>(0 < len\/0=0->ad=av ⟨pl.b,0,aD⟩)/\(([.arr]:List MK)=[]->0=0->cap=pl.cap)
    |none=>ad=aD/\len=0/\cap=0):=gb
   rw[hp]at hcur';simp only at hcur';have aAE:=hcur'.1 (.inr trivial);subst aAE;have hV:V (s.env w g β) (.d (.arr len t') l) (cur.toList.take cur.size):=hV;rw[<-c9,bQ]at hV;simp only[V,dA]at hV;obtain⟨aPG,hVc⟩:=hV;have asi:=hVc.length (λ_ _ hx=>dA.size hx);have akQ:news.length<=cur.size:=by
    rw[aNc];have:cur.size=l.length*t'.size:=by simpa using asi
    rw[this,aPG];exact di _ aSM
   have nA:=run_storeCells_at P pl.b 0 e0 news 0 cur w hh (by simpa using akQ) h1news;have im:(Builtin.copy_ #[T,X] 0 #[a.eval x,a.eval y]).run P w= .ok (goInt m.length) (w.setRow pl.b (dO cur.toList 0 news).toArray):=by have aWb:Nat.min m.length len=m.length:=eH aSM;rw[aEe];simp only[cK,aR]at nA;simp[Builtin.copy_,run_underlying hT,hlen,sizeOf,typeInfo,hi,aWb,aPE w rfl,nA,dO]
   have at9:=Trans.setRow w hg (dO cur.toList 0 news).toArray;have hle:db (s.env w g β) ((s.bq id (.obj ve aQ (.d (.arr len t') (m++l.drop m.length)))).env (w.setRow pl.b (dO cur.toList 0 news).toArray) g β):=db.bq dh (ay _) at9 (λ_ _=>rfl) (λ_=>rfl);have i1:=h.step (dE _ _ _) at9 hle (jE.bq (am2:=rC dh λk v1 l e=>by cases e) h.bT (by rw[dh];simp) hle (λ_ _=>rfl) (λi ver fr c pl2 hi abO ZI=>⟨setRow_other w pl.b pl2.b _ (h.apart hg hi abO ZI),rfl⟩) (UA.obj ⟨pl,_,e0,hp,setRow_heap w pl.b cur _ e0 (0,0) hh,hg,trivial,by
    show V _ (.d (.arr len t') (m++l.drop m.length)) ((dO cur.toList 0 news).toArray.toList.take (dO cur.toList 0 news).toArray.size);rw[<-c9,bQ];simp only[V,dA];refine⟨by rw[ai,dG];omega,?_⟩;have e2:dO cur.toList 0 news=news++cur.toList.drop (m.length*t'.size):=by simp[dO,aNc]
    have q:bI (dA (s.env w g β) t') (dO cur.toList 0 news) (m++l.drop m.length):=by rw[e2];exact bI.append xL (bI.drop (λ_ _ hx=>dA.size hx) m.length hVc)
    exact q.mono λ_ _ hx=>hx.mono hle.mem⟩))
   exact fin _ _ im ⟨g,β,i1.put o.dst ⟨[.int .i64 (m.length:Int)],by simp only[V,dA],rfl⟩⟩
  ·exact(aw.1 he).elim
 ·exact(aw.1 he).elim
theorem anp(h:Inv C g β s a w){c:Call}{x y:bU}{T X:TypeId}(ho:o.op= .call c)(hc:c.callee= .builtin .append)(ha:c.args.toList=[x,y])(ht:c.argTypes.toList=[T,X]){s':AS}
  {nl dt:Bool} (he:(zJ P s nl dt o.dst T X (s.ev x) (s.ev y)).eval=av s'):gr P o a w (jf C s'):=by
 obtain⟨cal,args,tys⟩:=c;simp only at hc ha ht;have ha':args= #[x,y]:=by apply ig;simpa using ha
 have ht':tys= #[T,X]:=by apply ig;simpa using ht
 subst hc ha' ht';have hx:=h.ev x;have hy:=h.ev y;have fin:∀z w',(Builtin.append_ #[T,X] 0 #[a.eval x,a.eval y]).run P w= .ok z w'->(∃g' β',Inv C g' β' s' (a.put o.dst z) w')->gr P o a w (jf C s'):=by intro z w' h1 h2;refine .inl ⟨z,w',El ho (f:=Builtin.append_ #[T,X] 0 #[a.eval x,a.eval y]) (λty cs xs asn=> ?_) h1,h2⟩;subst asn;have e1:Builtin.append_ #[T,X] 0 #[a.eval x,a.eval y]=Builtin.append_ #[T,X] ty #[a.eval x,a.eval y]:=rfl;rw[e1];simp[builtin]
 unfold zJ at he;split at he
 ·rename_i e t b q MQ hd;obtain⟨hT,hz,i,zv,hi,aAK,aRa,aso,aAP⟩:=sE MQ;obtain⟨m,hm,he⟩:=ax.1 he;obtain⟨hX,news,xL,hlen,aPE⟩:=XT h hy hm;have aNc:=xL.length (λ_ _ hx=>dA.size hx);have h1news:∀u∈news,u.oneCell'=aZ:=bI.all (λ_ _ hx=>hx.one) xL;rw[<-aAK]at aPE;have aSU:zv.cells.size=t.size:=by have:=(aAP (s.env w g β)).size;simpa using this
  have aWH:∀n,(Builtin.zeroCells zv.cells n).size=n*t.size:=λn=>by rw[C1,aSU]
  have grow:∀(ad:Option Addr) (sLen sCap:Nat) (cz:List Value) (l0:List t.den),a.eval x= .slice ad sLen sCap->cz.length=sLen*t.size->l0.length=sLen->bI (dA (s.env w g β) t) cz l0->
    (Builtin.firstCells i.size sLen (.slice ad sLen sCap)).run P w.drew= .ok cz.toArray w.drew->sCap < sLen+m.length->dw (sLen+m.length) b=aZ->
    ∃(cur:Array Value) (cap:Nat),(Builtin.append_ #[T,X] 0 #[a.eval x,a.eval y]).run P w= .ok (.slice (av ⟨w.heap.size,0,aD⟩) (sLen+m.length) cap) (w.drew.alloc (.cells cur e))/\
     cur.size=cap*t.size/\sLen+m.length<=cap/\cap<=maxLen/\cur.toList.take ((sLen+m.length)*t.size)=cz++news:=by
   intro ad sLen sCap cz l0 aEe ZH aTU aTF aU1 NL asl;simp only[dw,bf]at asl;have hr:=Wi (P:=P) (w:=w) (ty:=0) hT hX hi aso aU1 hlen (aPE w.drew rfl) NL ak (by rw[aRa];exact asl.1);rw[aEe];refine⟨_,_,hr,?_,grownCap_ge _ _ _ _,grownCap_le_maxLen _ _ _ _ (by unfold maxLen;omega),?_⟩
   ·have aZO:=grownCap_ge w (sLen+m.length) sCap e;simp only[Array.size_append,iZ,aWH,ZH,aNc,<-fe];congr 1;omega
   ·have at0:(cz++news).length=(sLen+m.length)*t.size:=by rw[ai,ZH,aNc,fe]
    simp only[ct];rw[<-at0];exact List.take_left
  split at he
  ·rename_i aZk;rw[aZk]at hx;have aEe:=mu hx;cases dt with
   |true=>
    simp only at he;obtain⟨asl,he⟩:=b8.1 he;obtain rfl:=az.1 he;simp only[au,bf]at asl;obtain⟨asl,aHc⟩:=asl;obtain⟨cur,cap,hr,q1,q2,q3,q4⟩:=grow aD 0 0 [] [] aEe (by simp) rfl rfl rfl ak (by simpa using asl);simp only[aR,aY]at hr q2 q4;have aVS:bI (dA (s.env w.drew g β) t) news m:=xL.mono λ_ _ hx=>hx.mono (db.same (s:=s) (β:=β) (Trans.drew w g)).mem
    refine fin _ _ hr ⟨oS g w.heap.size .free,β,(h.drew.LP (.cells cur e)).put o.dst ⟨[.slice (av ⟨w.heap.size,0,aD⟩) m.length cap],?_,rfl⟩⟩;simp only[V,dA];refine⟨λh0=>(by cases h0),λm' hm'=> ?_⟩;obtain rfl:m=m':=bn hm';refine⟨_,cap,cur.toList.take (m.length*t.size),rfl,q2,λ_=>rfl,λj v hj=>⟨_,_,rfl,?_,?_⟩,?_⟩
    ·show(w.drew.alloc (.cells cur e)).cell? ⟨w.drew.heap.size,0+j,aD⟩=av v;rw[World.cell?_alloc_new,aR];rw[dD]at hj;split at hj
     ·simpa using hj
     ·cases hj
    ·show wK (oS g w.heap.size .free) w.heap.size (0+j);unfold wK;rw[gm];trivial
    ·rw[q4];exact aVS.mono λ_ _ hx=>hx.mono (Trans.mem (E:=s.env w.drew g β) (E':=s.env (w.drew.alloc (.cells cur e)) (oS g w.drew.heap.size .free) β) (Trans.alloc w.drew g (.cells cur e) .free))
   |false=>
   simp only at he;obtain⟨hq,he⟩:=aH.1 he;obtain⟨asl,he⟩:=b8.1 he;obtain rfl:=az.1 he;by_cases aHc:m.length=0
   ·have aWd:m=[]:=bK aHc;subst aWd;have aWg:news=[]:=bK (by rw[aNc];simp);subst aWg;obtain⟨β',i1,e1,v1⟩:=h.aIu hq (e:=e) hz;refine fin (.slice aD 0 0) w ?_ ⟨g,β',?_⟩
    ·rw[aEe];exact IE (P:=P) hT hX hi hlen (aPE w rfl)
    ·exact i1.put o.dst v1
   ·obtain⟨cur,cap,hr,q1,q2,q3,q4⟩:=grow aD 0 0 [] [] aEe (by simp) rfl rfl rfl ak (by simpa using asl);simp only[aR,aY]at hr q2 q4;obtain⟨g2,β2,i2,v2⟩:=(h.drew).alv hq (e:=e) (l:=m) (cur:=cur) (cap:=cap) hz (by rw[q4];exact xL.mono λ_ _ hx=>hx.mono (db.same (s:=s) (β:=β) (Trans.drew w g)).mem) q1 q2 q3;refine fin _ _ hr ⟨g2,β2,?_⟩;exact i2.put o.dst v2
  ·rename_i id ver len asn;rw[asn]at hx;obtain⟨ad,cap,aEe,aEa,sa,abL,gb⟩:=tJ hx;split at he
   ·rename_i v fr e' t' l mX;obtain⟨h1,R5⟩:=aH.1 he;clear he;simp only[au,dK]at h1;obtain⟨aRo,aYG⟩:=h1;subst aRo aYG;obtain⟨l',hl',afF⟩:=ax.1 R5;obtain⟨et,hl'⟩:=km (lf.1 hl');have et':t'=t:=by simpa using et
    subst et';simp only at hl';subst hl';obtain⟨aM9,aTJ⟩:=b8.1 afF;have aM9:len<=l.length:=by simpa using aM9
    obtain⟨aXK,aSK⟩:=b8.1 aTJ;obtain⟨asl,aXJ⟩:=b8.1 aSK;obtain rfl:=az.1 aXJ;clear R5 afF aTJ aSK aXJ;have dh:=eU mX;have gb:=gb ⟨fr,_,dh⟩;obtain⟨_,hO⟩:=h.bT id v fr _ dh;have hO':(match β id with
     |none=>l=[]
     |some pl=>∃cur k,w.heap[pl.b]? =av (.cells cur e (0,0))/\cur.size=pl.cap*t'.size/\l.length<=pl.cap/\pl.cap<=maxLen/\g pl.b= .own (.id id) k/\
       k<=l.length*t'.size/\(fr=aQ->k=0)/\bI (dA (s.env w g β) t') (cur.toList.take (l.length*t'.size)) l):=hO
    have hcur':(match β id with
     |some pl=>(0 < len\/0=0->ad=av ⟨pl.b,0,aD⟩)/\(([]:List MK)=[]->0=0->cap=pl.cap)
     |none=>ad=aD/\len=0/\cap=0):=gb
    have aQ6:fr=aQ\/len=l.length:=by simp only[gR,cS,bf]at aXK;exact aXK
    have il:s.cq id≠aD:=by rw[dh];simp
    have fresh:∀(cur:Array Value) (cp:Nat) (g0:Nat->np),Trans w (w.drew.alloc (.cells cur e)) g (oS g0 w.heap.size (.own (.id (id)) 0))->
      (∀i ver fr c pl,i≠id->s.cq i=av (.obj ver fr c)->β i=av pl->g0 pl.b=g pl.b)->cur.size=cp*t'.size->len+m.length<=cp->cp<=maxLen->
      bI (dA (s.env w g β) t') (cur.toList.take ((len+m.length)*t'.size)) (l.take len++m)->len<=l.length->
      ∃g' β',Inv C g' β' ((s.bq id (.obj (v+1) fr (.vec e t' (l.take len++m)))).put o.dst (.bE id (v+1) [] 0 0 (len+m.length))) (a.put o.dst (.slice (av ⟨w.heap.size,0,aD⟩) (len+m.length) cp)) (w.drew.alloc (.cells cur e)):=by
     intro cur cp g0 ht aVW q1 q2 q3 q4 q5;have aPG:(l.take len++m).length=len+m.length:=by simp;omega
     have hle:db (s.env w g β) ((s.bq id (.obj (v+1) fr (.vec e t' (l.take len++m)))).env (w.drew.alloc (.cells cur e)) (oS g0 w.heap.size (.own (.id id) 0)) (LM β id (av ⟨w.heap.size,cp⟩))):=
      db.bq dh ak ht (λi hi=>CL _ _ _ hi) (λhh=>ak)
     have i1:=h.step (dE _ _ _) ht hle (jE.bq (am2:=rC dh λk v1 l e=>by cases e) h.bT il hle (λi hi=>CL _ _ _ hi) (λi ver fr' c' pl hi abO ZI=>by
       have iA:pl.b < w.heap.size:=((h.bT i ver fr' c' abO).label (pl:=pl) ZI).1;exact⟨sC w.drew _ iA,by rw[fZ _ _ _ ak];exact aVW i ver fr' c' pl hi abO ZI⟩) (by
      refine⟨hz,?_⟩;show(match LM β id (av ⟨w.heap.size,cp⟩) id with
       |none=>(l.take len++m)=[]
       |some pl=>_)
      rw[kR];refine⟨cur,0,vc w.drew _,q1,by rw[aPG];exact q2,q3,gm _ _ _,aP _,λ_=>rfl,?_⟩;rw[aPG];exact q4.mono λ_ _ hx=>hx.mono hle.mem))
     refine⟨_,_,i1.put o.dst ⟨_,?_,rfl⟩⟩;simp only[V];have mm:=fk s id (.obj (v+1) fr (.vec e t' (l.take len++m))) il;refine⟨_,_,rfl,q2,λ_=>rfl,⟨by show(s.bq id _).cq id≠aD;rw[mm];simp,λv' fr' c' hh=> ?_⟩,λ_=> ?_⟩
     ·have hh':(s.bq id (.obj (v+1) fr (.vec e t' (l.take len++m)))).cq id=av (.obj v' fr' c'):=hh;rw[mm]at hh';simp only[aA,dW.obj.injEq]at hh';omega
     ·show(match LM β id (av ⟨w.heap.size,cp⟩) id with
       |some pl=>_
       |none=>_)
      rw[kR];exact⟨λ_=>rfl,λ_ _=>rfl⟩
    cases hp:β id with
    |none=>
     rw[hp]at hO' hcur';simp only at hO' hcur';obtain⟨rfl,rfl,rfl⟩:=hcur';subst hO';by_cases aHc:m.length=0
     ·have aWd:m=[]:=bK aHc;subst aWd;have aWg:news=[]:=bK (by rw[aNc];simp);subst aWg;have ht:=Trans.refl w g;have hle:db (s.env w g β) ((s.bq id (.obj (v+1) fr (.vec e t' []))).env w g β):=db.bq dh ak ht (λ_ _=>rfl) (λ_=>rfl);have i1:=h.step (dE _ _ _) ht hle (jE.bq (am2:=rC dh λk v1 l e=>by cases e) h.bT il hle (λ_ _=>rfl) (λ_ _ _ _ _ _ _ _=>⟨rfl,rfl⟩) (by
       refine⟨hz,?_⟩;show(match β id with
        |none=>([]:List t'.den)=[]
        |some pl=>_)
       rw[hp]))
      refine fin (.slice aD 0 0) w ?_ ⟨g,β,i1.put o.dst ⟨_,?_,rfl⟩⟩
      ·rw[aEe];exact IE (P:=P) hT hX hi hlen (aPE w rfl)
      ·simp only[V];have mm:=fk s id (.obj (v+1) fr (.vec e t' [])) il;refine⟨_,_,rfl,ay _,λhh=>by simp at hh,⟨by show(s.bq id _).cq id≠aD;rw[mm];simp,λv' fr' c' hh=> ?_⟩,λ_=> ?_⟩
       ·have hh':(s.bq id (.obj (v+1) fr (.vec e t' []))).cq id=av (.obj v' fr' c'):=hh;rw[mm]at hh';simp only[aA,dW.obj.injEq]at hh';omega
       ·show(match β id with
         |some pl=>_
         |none=>_)
        rw[hp];exact⟨rfl,by simp,rfl⟩
     ·obtain⟨cur,cp,hr,q1,q2,q3,q4⟩:=grow aD 0 0 [] [] aEe (by simp) rfl rfl rfl ak asl;refine fin _ _ hr (fresh cur cp g (Trans.trans (Trans.drew w g) (Trans.alloc w.drew g _ _)) (λ_ _ _ _ _ _ _ _=>rfl) q1 q2 q3 ?_ (by simp));rw[q4];simpa using xL
    |some pl=>
     rw[hp]at hO' hcur';simp only at hO' hcur';obtain⟨aAE,R4⟩:=hcur';have aAE:=aAE (.inr trivial);have R4:=R4 trivial trivial;subst aAE R4;obtain⟨cur,k,p1,p2,p3,p4,p5,p6,p7,p8⟩:=hO';have hk:k<=len*t'.size:=by
      rcases aQ6 with hf | hf
      ·rw[p7 hf];exact aP _
      ·rw[hf];exact p6
     have hmul:len*t'.size<=l.length*t'.size:=di _ aM9;have aXU:l.length*t'.size<=cur.size:=by rw[p2];exact di _ p3
     have aAO:=bI.take (λ_ _ hx=>dA.size hx) len p8;rw[fp,eH hmul]at aAO;have ZH:(cur.toList.take (len*t'.size)).length=len*t'.size:=by simp;omega
     by_cases NL:len+m.length<=pl.cap
     ·have aY9:(len+m.length)*t'.size<=cur.size:=by rw[p2];exact di _ NL
      have akQ:len*i.size+news.length<=cur.size:=by rw[aAK,aNc,<-fe];exact aY9
      have hr:=Wj (P:=P) (w:=w) (ty:=0) hT hX hi p1 h1news hlen (aPE w rfl) NL akQ;rw[aAK]at hr akQ;have ht:Trans w (w.setRow pl.b (dO cur.toList (len*t'.size) news).toArray) g g:=by
       refine⟨by simp,by simp,by simp,by simp,λb' hb=> ?_⟩;by_cases akO:b'=pl.b
       ·subst akO;rw[p5];refine⟨.inr ⟨id,k,rfl,ay _⟩,λoff u aNe hu=> ?_⟩;rw[cell_of_row w pl.b off cur e (0,0) p1]at hu;rw[cell_setRow_same w pl.b off cur _ e (0,0) p1];simp only[dO,aI,List.getElem?_toArray];rw[fS (by rw[ZH];omega),dD,if_pos ak];simpa using hu
       ·rw[setRow_other w pl.b b' _ akO];cases YT:g b' with
        |free=>exact⟨rfl,rfl⟩
        |own o' k=>cases o' with
         |eY=>exact⟨rfl,rfl⟩
         |id i'=>exact⟨.inr ⟨i',k,rfl,ay _⟩,λoff v _ hv=>by rw[cell_setRow_other w pl.b _ _ akO];exact hv⟩
      have hle:db (s.env w g β) ((s.bq id (.obj (v+1) fr (.vec e t' (l.take len++m)))).env (w.setRow pl.b (dO cur.toList (len*t'.size) news).toArray) g β):=
       db.bq dh ak ht (λ_ _=>rfl) (λ_=>rfl)
      have aPG:(l.take len++m).length=len+m.length:=by simp;omega
      have aWs:(dO cur.toList (len*t'.size) news).length=cur.toList.length:=kG (by simpa using akQ);have i1:=h.step (dE _ _ _) ht hle (jE.bq (am2:=rC dh λk v1 l e=>by cases e) h.bT il hle (λ_ _=>rfl) (λi ver fr c pl2 hi abO ZI=>⟨setRow_other w pl.b pl2.b _ (h.apart p5 hi abO ZI),rfl⟩) (by
       refine⟨hz,?_⟩;show(match β id with
        |none=>(l.take len++m)=[]
        |some pl=>_)
       rw[hp];refine⟨_,k,setRow_heap w pl.b cur _ e (0,0) p1,by rw[iZ,aWs];simpa using p2,by rw[aPG];exact NL,p4,p5,?_,p7,?_⟩
       ·rw[aPG,fe];omega
       ·rw[aPG,show(dO cur.toList (len*t'.size) news).toArray.toList=dO cur.toList (len*t'.size) news from rfl];have e1:(dO cur.toList (len*t'.size) news).take ((len+m.length)*t'.size)=cur.toList.take (len*t'.size)++news:=by
         unfold dO;have at0:(cur.toList.take (len*t'.size)++news).length=(len+m.length)*t'.size:=by rw[ai,ZH,aNc,fe]
         rw[<-at0];exact List.take_left
        rw[e1];exact(bI.append aAO xL).mono λ_ _ hx=>hx.mono hle.mem))
      rw[<-aEe]at hr;refine fin _ _ hr ⟨g,β,i1.put o.dst ⟨_,?_,rfl⟩⟩;simp only[V];have mm:=fk s id (.obj (v+1) fr (.vec e t' (l.take len++m))) il;refine⟨_,_,rfl,NL,λ_=>rfl,⟨by show(s.bq id _).cq id≠aD;rw[mm];simp,λv' fr' c' hh=> ?_⟩,λ_=> ?_⟩
      ·have hh':(s.bq id (.obj (v+1) fr (.vec e t' (l.take len++m)))).cq id=av (.obj v' fr' c'):=hh;rw[mm]at hh';simp only[aA,dW.obj.injEq]at hh';omega
      ·show(match β id with
        |some pl=>_
        |none=>_)
       rw[hp];exact⟨λ_=>rfl,λ_ _=>rfl⟩
     ·have aU1:(Builtin.firstCells i.size len (.slice (av ⟨pl.b,0,aD⟩) len pl.cap)).run P w.drew= .ok (cur.toList.take (len*t'.size)).toArray w.drew:=by
       refine run_firstCells_some (P:=P) w.drew i.size _ _ _ _ _ (by rw[ZH,aAK]) (λj u hj=> ?_);rw[fU,aR];show w.cell? ⟨pl.b,j,aD⟩=av u;rw[cell_of_row w pl.b j cur e (0,0) p1];rw[dD]at hj;split at hj
       ·simpa using hj
       ·cases hj
      obtain⟨cur2,cp,hr,q1,q2,q3,q4⟩:=grow (av ⟨pl.b,0,aD⟩) len pl.cap (cur.toList.take (len*t'.size)) (l.take len) aEe ZH (by simp;omega) aAO aU1 ak asl;have iA:pl.b < w.heap.size:=(bX.1 p1).1;have axF:Trans w w.drew g (oS g pl.b .free):=by
       refine⟨rfl,rfl,⟨rfl,pQ _⟩,ay _,λb' hb=> ?_⟩;by_cases akO:b'=pl.b
       ·subst akO;rw[p5,gm];exact⟨.inl rfl,λ_ _ _ hh=>hh⟩
       ·rw[fZ _ _ _ akO];exact(Trans.drew w g).UP b' hb
      refine fin _ _ hr (fresh cur2 cp (oS g pl.b .free) (Trans.trans axF (Trans.alloc w.drew _ _ _)) (λi ver fr c pl2 hi abO ZI=>fZ _ _ _ (h.apart p5 hi abO ZI)) q1 q2 q3 ?_ aM9);rw[q4];exact bI.append aAO xL
   ·simp only[aw]at he
  ·simp only[aw]at he
 ·simp only[aw]at he
end
end Go.Ab
namespace Go.Ab
abbrev Ren:=Id->Nat->Option (Id×Nat)
structure BE(ρ:Ren)(E E':Env):Prop where
 mem:va E E'
 ref:∀id ver r,ρ id ver=av r->E.Ij id ver->E'.Ij r.1 r.2/\(E'.cur r.1 r.2->E.cur id ver/\E'.β r.1=E.β id)
theorem ayn(ρ:Ren)(a:aC):(a.jB ρ).agg=a.agg:=by
 cases a with
 |ptr id v p n=>simp only[aC.jB];cases ρ id v <;> rfl
 |bE id v p c i l=>simp only[aC.jB];cases ρ id v <;> rfl
 |cI id v=>simp only[aC.jB];cases ρ id v <;> rfl
 |yl id v=>simp only[aC.jB];cases ρ id v <;> rfl
 |_=>rfl
mutual
theorem am9{ρ:Ren}{E E':Env}(h:BE ρ E E'):∀ {a:aC} {cs:List Value},V E a cs->V E' (a.jB ρ) cs
 | .undef,_,hv=>by simp only[V]at hv
 | .gone,_,hv=>by simpa only[aC.jB,V]using hv
 | .dy,_,hv=>by simpa only[aC.jB,V]using hv
 | .sq,_,hv=>by simpa only[aC.jB,V]using hv
 | .yP,_,hv=>by simpa only[aC.jB,V]using hv
 | .EB,_,hv=>by simpa only[aC.jB,V]using hv
 | .sb l,_,hv=>by simp only[aC.jB,V]at hv ⊢;obtain⟨b,cap,arr,e,h1,h2,h3,h4,h5⟩:=hv;obtain⟨h6,h7⟩:=h.mem.fz b _ h3 h4;exact⟨b,cap,arr,e,h1,h2,h6,h7,h5⟩
 | .d t x,_,hv=>by simp only[aC.jB,V]at hv ⊢;exact hv.mono h.mem
 | .pr a b,_,hv=>by simp only[aC.jB,V]at hv ⊢;obtain⟨ca,cb,e,ha,hb⟩:=hv;exact⟨ca,cb,e,am9 h ha,am9 h hb⟩
 | .ptr id ver p n,_,hv=>by
  have h1:=hv.one;simp only[aC.jB];cases hr:ρ id ver with
  |none=>
   simp only[V]at hv ⊢;obtain⟨a,e,_⟩:=hv;exact⟨_,e,h1 _ (by simp[e])⟩
  |some r=>
   simp only[V]at hv ⊢;obtain⟨a,e,hb,hc⟩:=hv;obtain⟨b1,b2⟩:=h.ref id ver r hr hb;refine⟨a,e,b1,λc=> ?_⟩;obtain⟨c1,e1⟩:=b2 c;rw[e1];exact hc c1
 | .dV t x,_,hv=>by simp only[aC.jB,V]at hv ⊢;obtain⟨b,off,vs,e,hr,hx⟩:=hv;exact⟨b,off,vs,e,hr.mono h.mem,hx.mono h.mem⟩
 | .bE id ver p c i len,_,hv=>by
  have h1:=hv.one;simp only[aC.jB];cases hr:ρ id ver with
  |none=>
   simp only[V]at hv ⊢;obtain⟨a,cap,e,_⟩:=hv;exact⟨_,e,h1 _ (by simp[e])⟩
  |some r=>
   simp only[V]at hv ⊢;obtain⟨a,cap,e,hl,hs,hb,hc⟩:=hv;obtain⟨b1,b2⟩:=h.ref id ver r hr hb;refine⟨a,cap,e,hl,hs,b1,λc=> ?_⟩;obtain⟨c1,e1⟩:=b2 c;rw[e1];exact hc c1
 | .fn f c,_,hv=>by simp only[aC.jB,V]at hv ⊢;obtain⟨vs,e,hc⟩:=hv;exact⟨vs,e,asv h hc⟩
 | .cons _ _,_,hv=>by simp only[V]at hv
 | .nil,_,hv=>by simp only[V]at hv
 | .vec ..,_,hv=>by simp only[V]at hv
 | .bx ..,_,hv=>by simp only[V]at hv
 | .yl id ver,_,hv=>by
  have h1:=hv.one;simp only[aC.jB];cases hr:ρ id ver with
  |none=>
   simp only[V]at hv ⊢;obtain⟨b,e,_⟩:=hv;exact⟨_,e,h1 _ (by simp[e])⟩
  |some r=>
   simp only[V]at hv ⊢;obtain⟨b,e,hb,hc⟩:=hv;obtain⟨b1,b2⟩:=h.ref id ver r hr hb;refine⟨b,e,b1,λc=> ?_⟩;obtain⟨c1,e1⟩:=b2 c;rw[e1];exact hc c1
 | .cI id ver,_,hv=>by
  have h1:=hv.one;simp only[aC.jB];cases hr:ρ id ver with
  |none=>
   simp only[V]at hv ⊢;obtain⟨b,e,_⟩:=hv;exact⟨_,e,h1 _ (by simp[e])⟩
  |some r=>
   simp only[V]at hv ⊢;obtain⟨b,e,hb,hc⟩:=hv;obtain⟨b1,b2⟩:=h.ref id ver r hr hb;refine⟨b,e,b1,λc=> ?_⟩;obtain⟨c1,e1⟩:=b2 c;rw[e1];exact hc c1
 | .mp ..,_,hv | .uE ..,_,hv | .sS ..,_,hv=>by simp only[V]at hv
theorem asv{ρ:Ren}{E E':Env}(h:BE ρ E E'):∀ {a:aC} {vs:List Value},VC E a vs->VC E' (a.jB ρ) vs
 | .nil,_,hv=>by simpa only[aC.jB,VC]using hv
 | .cons a b,_,hv=>by simp only[aC.jB,VC]at hv ⊢;obtain⟨v,vs',cs,e,ha,ho,hb⟩:=hv;exact⟨v,vs',cs,e,am9 h ha,by rw[ayn];exact ho,asv h hb⟩
 | .undef,_,hv=>by simp only[VC]at hv
 | .gone,_,hv=>by simp only[VC]at hv
 | .dy,_,hv=>by simp only[VC]at hv
 | .sq,_,hv=>by simp only[VC]at hv
 | .yP,_,hv=>by simp only[VC]at hv
 | .yl ..,_,hv | .sS ..,_,hv=>by simp only[VC]at hv
 | .EB,_,hv=>by simp only[VC]at hv
 | .sb _,_,hv=>by simp only[VC]at hv
 | .d t x,_,hv=>by simp only[VC]at hv
 | .pr a b,_,hv=>by simp only[VC]at hv
 | .ptr ..,_,hv=>by simp only[VC]at hv
 | .dV ..,_,hv=>by simp only[VC]at hv
 | .bE ..,_,hv=>by simp only[VC]at hv
 | .fn ..,_,hv=>by simp only[VC]at hv
 | .vec ..,_,hv=>by simp only[VC]at hv
 | .bx ..,_,hv=>by simp only[VC]at hv
 | .cI ..,_,hv=>by simp only[VC]at hv
 | .mp ..,_,hv | .uE ..,_,hv=>by simp only[VC]at hv
end
theorem Ji{ρ:Ren}{E E':Env}(h:BE ρ E E'){a:aC}{v:Value}(hv:VS E a v):VS E' (a.jB ρ) v:=by
 by_cases hc:a.fA=aZ
 ·obtain⟨cs,h1,h2⟩:=hv.fA hc;exact VS.of (am9 h h1) (by rw[ayn];exact h2)
 ·cases a <;> first | (exact absurd rfl hc) | skip
  ·trivial
  ·obtain⟨vs,e,aSR⟩:=hv;have:=asv h aSR;simp only[aC.jB]at this ⊢;exact⟨vs,e,this⟩
  ·exact hv
  ·obtain⟨cs,h1,_⟩:=hv;simp only[V]at h1
  ·obtain⟨cs,h1,_⟩:=hv;simp only[V]at h1
  ·obtain⟨cs,h1,_⟩:=hv;simp only[V]at h1
  ·obtain⟨cs,h1,_⟩:=hv;simp only[V]at h1
  ·obtain⟨cs,h1,_⟩:=hv;simp only[V]at h1
theorem adX(ρ:Ren):∀f:aC,(f.jB ρ).list=f.list.map (aC.jB ρ)
 | .cons a b=>by simp only[aC.jB,aC.list,bY,adX ρ b]
 | .undef | .gone | .dy | .sq | .yP | .EB | .d _ _ | .dV _ _ | .fn _ _ | .pr _ _ | .nil | .vec .. | .sb _ | .bx .. | .mp .. | .uE .. | .sS .. =>rfl
 | .ptr id ver p n=>by simp only[aC.jB];cases ρ id ver <;> rfl
 | .bE id ver p c i len=>by simp only[aC.jB];cases ρ id ver <;> rfl
 | .cI id ver=>by simp only[aC.jB];cases ρ id ver <;> rfl
 | .yl id ver=>by simp only[aC.jB];cases ρ id ver <;> rfl
theorem ast{ρ:Ren}{E E':Env}(h:BE ρ E E'){f:aC}{tmps:Array Value}(hs:Gk E f tmps):Gk E' (f.jB ρ) tmps:=by
 refine⟨by rw[adX,cm];exact hs.1,λi=> ?_⟩;have:=Ji h (hs.2 i);rw[adX,aJ,eW];rw[aJ]at this;cases hi:f.list[i]? with
 |none=>exact VS.undef
 |some x=>rw[hi]at this;exact this
theorem aCz(ρ:Ren)(c:aC):(c.jB ρ).strip=c.strip.jB ρ:=by
 cases c <;> first
  |rfl
  | (rename_i id ver p n;simp only[aC.strip,aC.jB];cases ρ id ver <;> rfl)
  | (rename_i id ver p c i len;simp only[aC.strip,aC.jB];cases ρ id ver <;> rfl)
  | (rename_i i v;simp only[aC.strip,aC.jB];cases ρ i v <;> rfl)
theorem TI(ρ:Ren):∀c:aC,(c.jB ρ).size=c.size
 | .pr a b=>by simp only[aC.jB,aC.size,TI ρ a,TI ρ b]
 | .ptr id ver p n=>by simp only[aC.jB];cases ρ id ver <;> rfl
 | .bE id ver p c i len=>by simp only[aC.jB];cases ρ id ver <;> rfl
 | .cI id ver=>by simp only[aC.jB];cases ρ id ver <;> rfl
 | .undef | .gone | .dy | .sq | .yP | .EB | .d _ _ | .dV _ _ | .fn _ _ | .cons _ _ | .nil | .vec .. | .sb _ | .bx .. | .mp .. | .uE .. | .sS .. =>rfl
 | .yl id ver=>by simp only[aC.jB];cases ρ id ver <;> rfl
theorem aE7(ρ:Ren){c:aC}(n:Nat):(c.jB ρ).zd n=c.zd n:=by
 cases c with
 |bx e z c=>cases z with
  |zero=>rfl
  |succ z=>exact TI ρ c
 |_=>first | rfl | (simp only[aC.jB];split <;> rfl)
theorem azw(ρ:Ren){c:aC}{pl:Pl}{n:Nat}{e:TypeId}(h:c.Ju pl n e):(c.jB ρ).Ju pl n e:=by
  cases c <;> first
    | (rename_i e' z c;cases z with
       |zero=>exact h
       |succ z=>exact⟨h.1,h.2.1,h.2.2.1,by rw[TI];exact h.2.2.2⟩)
    |exact h
    |trivial
    | (rename_i id ver p n;simp only[aC.jB];cases ρ id ver <;> trivial)
    | (rename_i id ver p c i len;simp only[aC.jB];cases ρ id ver <;> trivial)
    | (rename_i i v;simp only[aC.jB];cases ρ i v <;> trivial)
theorem yA{ρ:Ren}{E E':Env}(h:BE ρ E E'){id id':Id}{fr:Bool}{c:aC}(ho:yz E id fr c)(hβ:E'.β id'=E.β id)
  (hb:∀pl,E.β id=av pl->E'.w.heap[pl.b]? =E.w.heap[pl.b]? /\(∀k,E.g pl.b= .own (.id id) k->E'.g pl.b= .own (.id id') k)/\(E.g pl.b= .free->E'.g pl.b= .free)):yz E' id' fr (c.jB ρ):=by
 by_cases hn:c.jy=aQ
 ·obtain⟨pl,cur,e,h1,h2,h3,h5,h4⟩:=ho.box hn;obtain⟨b1,b2,b3⟩:=hb pl h1;have h6:=am9 h h4;refine UA.obj ⟨pl,cur,e,by rw[hβ,h1],by rw[b1,h2],?_,azw ρ h5,by rw[aCz,aE7];exact h6⟩;cases fr with
  |true=>exact b3 h3
  |false=>exact b2 0 h3
 ·cases c <;> first
   | (exact absurd rfl hn)
   |skip
  rotate_left;rotate_left
  ·obtain⟨pl,mb,since,seen,c0,h1,h2,h3,_⟩:=ho;obtain⟨b1,b2,_⟩:=hb pl h1;exact⟨pl,mb,since,seen,c0,by rw[hβ,h1],by rw[b1,h2],b2 0 h3,λvr asm=>by cases asm⟩
  ·obtain⟨pl,r,h1,h2,h3,h4,h5,h6⟩:=ho;obtain⟨b1,b2,_⟩:=hb pl h1;exact⟨pl,r,by rw[hβ,h1],by rw[b1,h2],b2 0 h3,h4,ast h h5,h6⟩
  rotate_left
  ·obtain⟨pl,es,clock,h1,h2,h3,h4⟩:=ho;obtain⟨b1,b2,_⟩:=hb pl h1;exact⟨pl,es,clock,by rw[hβ,h1],by rw[b1,h2],b2 0 h3,⟨h4.1.1.mono h.mem,h4.1.2⟩,h4.2⟩
  rename_i e t l;obtain⟨hz,ho⟩:=ho;refine⟨hz,?_⟩;rw[hβ];cases hp:E.β id with
  |none=>rw[hp]at ho;exact ho
  |some pl=>
   rw[hp]at ho;simp only at ho ⊢;obtain⟨b1,b2,_⟩:=hb pl hp;obtain⟨cur,k,h1,h2,h3,h4,h5,h6,h7,h8⟩:=ho;exact⟨cur,k,by rw[b1,h1],h2,h3,h4,b2 k h5,h6,h7,h8.mono λc x hx=>hx.mono h.mem⟩
def zI(E:Env):List aC->List Value->Prop
 |[],[]=>True
 |a::as,v::vs=>VS E a v/\zI E as vs
 |_,_=>False
def iB.st(G:iB):AS:= {cM:=[],cz:=G.cz,news:=[G.news]}
def gw(cz:List dW):AS:= {cM:=[],cz,news:=[]}
def u5(E:Env)(G:iB)(v:Value)(w':cd):Prop:=∃g' β',VS (G.st.env w' g' β') G.val v/\jE (G.st.env w' g' β')/\Trans E.w w' E.g g'/\db E (G.st.env w' g' β')
def si(P:aT)(f:fV)(en:Entry):Prop:=∀w g β args cz jL x,zI ((gw cz).env w g β) args jL->jE ((gw cz).env w g β)->en.run args cz=av x->((callFunc f jL.toArray).run P w= .ok (.enter f jL.toArray) w/\Calls P f jL.toArray w λe w'=>∃v,e= .returned v/\u5 ((gw cz).env w g β) (en.out args cz x) v w')\/(∃v w',(callFunc f jL.toArray).run P w= .ok (.value v) w'/\u5 ((gw cz).env w g β) (en.out args cz x) v w')
def H9(P:aT)(y:Nat)(en:Entry):Prop:=∀w g β args cz jL x,zI ((gw cz).env w g β) args jL->jE ((gw cz).env w g β)->en.run args cz=av x->∀l us ts f rd n,jL= .func (.yield l) #[] #[]::(us++ts)->us.length=(sw P y).ps.size->RoundIn (Fr rd) n P l f (((sw P y).ps.zip us.toArray).foldl (λtmps (t,a)=>tmps.setIfInBounds t a) ts.toArray) (sw P y).as (sw P y).b w λe w'=>∃v,e= .returned v/\u5 ((gw cz).env w g β) (en.out args cz x) v w'
def QR(P:aT)(f:fV)(en:Entry):Prop:=∀w g β args cz jL,zI ((gw cz).env w g β) args jL->jE ((gw cz).env w g β)->(∃x,en.set args cz x)->(callFunc f jL.toArray).run P w= .ok (.enter f jL.toArray) w/\Calls P f jL.toArray w λe w'=>∃v x,e= .returned v/\en.set args cz x/\u5 ((gw cz).env w g β) (en.out args cz x) v w'
def wN(P:aT)(f:Nat)(en:Entry):Prop:=(Nat.blt f yB=aZ->si P f en)/\(Nat.ble yB f=aZ->H9 P f en)/\(Nat.blt f yB=aZ->QR P f en)
theorem wN.no{f:Nat}(h1:Nat.blt f yB=aZ)(h2:Nat.ble yB f=aZ):False:=iV _ (Nat.lt_of_lt_of_le (ea h1) (ea h2))
theorem wN.of{P:aT}{f:fV}{en:Entry}(h:si P f en)(hf:Nat.blt f yB=aZ)(hs:∀a o x,¬en.set a o x:=by exact λ_ _ _ h=>h):wN P f en:=
 ⟨λ_=>h,λh2=>(wN.no hf h2).elim,λ_ _ _ _ _ _ _ _ _ ⟨x,hx⟩=>(hs _ _ x hx).elim⟩
theorem wN.aX6{P:aT}{f:fV}{en:Entry}(h:H9 P f en)(hf:Nat.ble yB f=aZ):wN P f en:=⟨λh2=>(wN.no h2 hf).elim,λ_=>h,λh2=>(wN.no h2 hf).elim⟩
theorem wN.aWO{P:aT}{f:fV}{en:Entry}(h:QR P f en)(hf:Nat.blt f yB=aZ)(hs:∀a o,en.run a o=aD:=by exact λ_ _=>rfl):wN P f en:=
 ⟨λ_ _ _ _ _ _ _ _ _ _ hx=>(by rw[hs]at hx;cases hx),λh2=>(wN.no hf h2).elim,λ_=>h⟩
def Sound(P:aT)(Γ:pO):Prop:=∀f vs en,Γ f vs=av en->wN P f en
theorem zI.mono{E E':Env}(h:db E E'):∀ {as:List aC} {vs:List Value},zI E as vs->zI E' as vs
 |[],[],_=>trivial
 |_::_,_::_,⟨h1,h2⟩=>⟨h1.mono h,zI.mono h h2⟩
theorem zI.jB{ρ:Ren}{E E':Env}(h:BE ρ E E'):∀ {as:List aC} {vs:List Value},zI E as vs->zI E' (as.map (aC.jB ρ)) vs
 |[],[],_=>trivial
 |_::_,_::_,⟨h1,h2⟩=>⟨Ji h h1,zI.jB h h2⟩
theorem zI.append{E:Env}:∀ {as:List aC} {vs:List Value} {bs:List aC} {us:List Value},zI E as vs->zI E bs us->zI E (as++bs) (vs++us)
 |[],[],_,_,_,h=>h
 |_::_,_::_,_,_,⟨h1,h2⟩,h=>⟨h1,zI.append h2 h⟩
theorem aju{E:Env}:∀ {c:aC} {vs:List Value},VC E c vs->zI E c.list vs
 | .cons a b,vs,h=>by simp only[VC]at h;obtain⟨v,vs',cs,rfl,ha,ho,hb⟩:=h;exact⟨VS.of ha ho,aju hb⟩
 | .nil,vs,h=>by simp only[VC]at h;subst h;trivial
 | .undef,_,hv=>by simp only[VC]at hv
 | .gone,_,hv=>by simp only[VC]at hv
 | .dy,_,hv=>by simp only[VC]at hv
 | .sq,_,hv=>by simp only[VC]at hv
 | .yP,_,hv=>by simp only[VC]at hv
 | .yl ..,_,hv | .sS ..,_,hv=>by simp only[VC]at hv
 | .EB,_,hv=>by simp only[VC]at hv
 | .sb _,_,hv=>by simp only[VC]at hv
 | .d t x,_,hv=>by simp only[VC]at hv
 | .pr a b,_,hv=>by simp only[VC]at hv
 | .ptr ..,_,hv=>by simp only[VC]at hv
 | .dV ..,_,hv=>by simp only[VC]at hv
 | .bE ..,_,hv=>by simp only[VC]at hv
 | .fn ..,_,hv=>by simp only[VC]at hv
 | .vec ..,_,hv=>by simp only[VC]at hv
 | .bx ..,_,hv=>by simp only[VC]at hv
 | .cI ..,_,hv=>by simp only[VC]at hv
 | .mp ..,_,hv | .uE ..,_,hv=>by simp only[VC]at hv
theorem Inv.atJ{C:Ctx}{g:Nat->np}{β:Id->Option Pl}{s:AS}{a:Act}{w:cd}(h:Inv C g β s a w):∀l:List bU,zI (s.env w g β) (l.map s.ev) (l.map a.eval)
 |[]=>trivial
 |x::l=>⟨h.ev x,h.atJ l⟩
theorem Fu{E E':Env}{s:AS}(hs:E.s=s.cq)(ho:jE E)(he:db E E'):∀(ps:List (Option Ty)) (vs:List aC) (ys:List Value) (r:List aC×List Id),zI E vs ys->(s.conv ps vs).eval=av r->aTa E E' r.2->zI E' r.1 ys
 |[],[],ys,r,hv,h,_=>by
  simp only[AS.conv,az]at h;subst h;cases ys with
  |nil=>trivial
  |cons _ _=>exact hv.elim
 |some t::ps,v::vs,y::ys,r,⟨hv,Xy⟩,h,hf=>by
  simp only[AS.conv]at h;obtain⟨x,h1,h2⟩:=ax.1 h;obtain⟨r',h3,h4⟩:=ax.1 h2;obtain rfl:=az.1 h4;obtain⟨cs,hV,hO⟩:=hv.fA (Eb h1);refine⟨VS.of (cs:=cs) ?_ ?_,Fu hs ho he ps vs ys r' Xy h3 λid dr=>hf id (bD.2 (.inr dr))⟩
  ·simp only[V];exact y5 hs ho he v t x cs hV h1 λid dr=>hf id (bD.2 (.inl dr))
  ·show gI t.agg cs y;rw[<-aeU h1];exact hO
 |none::ps,v::vs,y::ys,r,⟨hv,Xy⟩,h,hf=>by simp only[AS.conv]at h;obtain⟨r',h3,h4⟩:=ax.1 h;obtain rfl:=az.1 h4;exact⟨hv.mono he,Fu hs ho he ps vs ys r' Xy h3 hf⟩
 |[],_::_,_,_,_,h,_=>by simp only[AS.conv,aw]at h
 |some _::_,[],_,_,_,h,_=>by simp only[AS.conv,aw]at h
 |none::_,[],_,_,_,h,_=>by simp only[AS.conv,aw]at h
end Go.Ab
namespace Go.Ab
theorem ql{id:Id}:∀ {ids:List Id} {k:Nat},idxOf id ids=av k->ids[k]? =av id
 |[],_,h=>by simp[idxOf]at h
 |x::xs,k,h=>by
  simp only[idxOf]at h;split at h
  ·rename_i e;simp only[aA]at h;subst h e;rfl
  ·simp only[dx]at h;obtain⟨j,hj,rfl⟩:=h;simpa using ql hj
theorem yK{id:Id}:∀ {ids:List Id} {k:Nat},ids.Nodup->ids[k]? =av id->idxOf id ids=av k
 |[],_,_,h=>by simp at h
 |x::xs,0,hn,h=>by simp only[gF,aA]at h;simp[idxOf,h]
 |x::xs,k+1,hn,h=>by
  simp only[nq]at h;obtain⟨h1,h2⟩:=dm.1 hn;have il:x≠id:=λe=>h1 (e▸cZ h)
  simp[idxOf,il,yK h2 h]
theorem E6(s0:AS)(all:List Id)(t:Nat):∀(ids:List Id) (es:List dW) (s:AS),(AS.ki s0 all t s ids es).cM=s.cM
 |[],_,_=>by simp[AS.ki]
 |_::_,[],_=>by simp[AS.ki]
 |id::ids,e::es,s=>by rw[AS.ki,E6 s0 all t ids es,dE]
theorem aev(s:AS)(ids:List Id)(t:Nat)(es:List dW):(s.made ids t es).cM=s.cM:=by cases es <;> rfl
theorem JK(s0:AS)(all:List Id)(t:Nat):∀(ids:List Id) (es:List dW) (s:AS),ids.Nodup->es.length=ids.length->(∀id∈ids,s.cq id≠aD)->
  (∀id,id ∉ ids->(AS.ki s0 all t s ids es).cq id=s.cq id)/\
  ∀(k:Nat) (id:Id) (e:dW),ids[k]? =av id->es[k]? =av e->(AS.ki s0 all t s ids es).cq id=av (s0.tY all t (s0.Ef id) e)
 |[],es,s,_,_,_=>⟨λ_ _=>by simp[AS.ki],λk id e h=>by simp at h⟩
 |_::_,[],s,_,hl,_=>by simp at hl
 |i::ids,e::es,s,hn,hl,hp=>by
  obtain⟨h1,h2⟩:=dm.1 hn;have hp':∀id∈ids,(s.bq i (s0.tY all t (s0.Ef i) e)).cq id≠aD:=λid dr=>by rw[dq s i id _ (λe=>h1 (e▸dr))];exact hp id (aF _ dr)
  obtain⟨r1,r2⟩:=JK s0 all t ids es (s.bq i (s0.tY all t (s0.Ef i) e)) h2 (by simpa using hl) hp';rw[AS.ki];refine⟨λid dr=> ?_,λk id e' hk he=> ?_⟩
  ·simp only[cv,not_or]at dr;rw[r1 id dr.2,dq s i id _ dr.1]
  ·cases k with
   |zero=>
    simp only[gF,aA]at hk he;subst hk he;rw[r1 i h1,fk s i _ (hp i (aK ..))]
   |succ k=>
    simp only[nq]at hk he;exact r2 k id e' hk he
theorem aoN(s:AS)(ids:List Id)(t:Nat)(es:List dW)(hv:es=[]\/s.eS t=aZ):
  (∀id,(es=[]\/∀j,id≠ .new t j)->(s.made ids t es).cq id=s.cq id)/\(es≠ []->∀j,(s.made ids t es).cq (.new t j)=(es[j]?).map (s.tY ids t 0)):=by
 cases es with
 |nil=>exact⟨λ_ _=>rfl,λh=>absurd rfl h⟩
 |cons e es=>
  have hv:s.eS t=aZ:=by
   rcases hv with h | h
   ·cases h
   ·exact h
  refine⟨λid h=> ?_,λ_ j=> ?_⟩
  ·rcases h with h | h
   ·cases h
   ·exact jP _ h
  ·rw[AS.made,Au (lA hv).2,eW]
def pb(ids:List Id):np->np
 | .free=> .free
 | .own .eY n=> .own .eY n
 | .own (.id i) n=>match idxOf i ids with | some k=> .own (.id (.bt k)) n | none=> .own .eY n
def DO(β:Id->Option Pl)(ids:List Id):Id->Option Pl
 | .bt k=>(ids[k]?).bind β
 | .new _ _=>aD
def pC(g:Nat->np)(size:Nat)(ids:List Id)(t:Nat)(b:Nat):np->np
 | .free=> .free
 | .own .eY n=>if b < size then g b else .own .eY n
 | .own (.id i) n=> .own (.id (aPN ids t i)) n
def yS(β β':Id->Option Pl)(ids:List Id)(t:Nat)(some?:Bool)(id:Id):Option Pl:=
 match idxOf id ids with
 |some k=>β' (.bt k)
 |none=>match id with
  | .new i j=>if i=t/\some?=aZ then β' (.new 0 j) else β (.new i j)
  |id=>β id
theorem aHN{ids:List Id}{l:np}{off:Nat}(h:wK (λ_=>l) 0 off):wK (λ_=>pb ids l) 0 off:=by
 cases l with
 |free=>trivial
 |own o k=>cases o with
  |eY=>exact h
  |id i=>simp only[pb];cases idxOf i ids <;> exact h
section
variable {P:aT} {C:Ctx} {g:Nat->np} {β:Id->Option Pl} {s:AS} {a:Act} {w:cd} {o:Oper}
theorem aHt(ids:List Id):
  BE (s.yV ids) (s.env w g β) ((gw (ids.map (s.nY ids))).env w (λb=>pb ids (g b)) (DO β ids)):=by
 refine⟨⟨λb off v ⟨h1,h2⟩=>⟨h1,?_⟩,λb ob h1 h2=>⟨by show pb ids (g b)= .free;have h1:g b= .free:=h1;rw[h1];rfl,h2⟩⟩,λid ver r hr _=> ?_⟩
 ·exact aHN (l:=g b) h2
 ·unfold AS.yV at hr;split at hr
  ·rename_i k v fr c hk ho;split at hr
   ·rename_i aUd;simp only[aA]at hr;subst hr aUd;have dr:=ql hk;have dh:=eU ho;refine⟨⟨?_,λ_ _ _ _=>aP _⟩,λ_=>⟨⟨fr,c,dh⟩,?_⟩⟩
    ·show(ids.map (s.nY ids))[k]? ≠aD
     simp[dr]
    ·show(ids[k]?).bind β=β id;rw[dr];rfl
   ·cases hr
  ·cases hr
theorem axK(ids:List Id)(hn:ids.Nodup)(h:jE (s.env w g β)):jE ((gw (ids.map (s.nY ids))).env w (λb=>pb ids (g b)) (DO β ids)):=by
 intro id ver fr c dr;have dr:(gw (ids.map (s.nY ids))).cq id=av (.obj ver fr c):=dr;cases id with
 |new i j=>simp[gw,AS.cq]at dr
 |bt k=>
  simp only[gw,AS.cq,eW,dx]at dr;obtain⟨id1,hk,he⟩:=dr;unfold AS.nY at he;split at he
  ·rename_i v fr1 c1 dh;simp only[dW.obj.injEq]at he;obtain⟨rfl,rfl,rfl⟩:=he;refine yA (aHt ids) (h id1 v fr1 c1 dh) (by show(ids[k]?).bind β=β id1;rw[hk];rfl) λpl hp=>⟨rfl,λn hg=> ?_,λhg=> ?_⟩
   ·have hg:g pl.b= .own (.id id1) n:=hg;show pb ids (g pl.b)=_;rw[hg];simp[pb,yK hn hk]
   ·have hg:g pl.b= .free:=hg;show pb ids (g pl.b)=_;rw[hg];rfl
  ·cases he
theorem aar(h:Inv C g β s a w){ids:List Id}(hn:ids.Nodup)(hp:∀id∈ids,∃r,s.obj id=av r)(ZH:∀id∈ids,s.VA id=aZ){G:iB}{t:Nat}(hl:G.cz.length=ids.length)(hv:G.news=[]\/s.eS t=aZ){v:Value}{w':cd}
  (ha:u5 ((gw (ids.map (s.nY ids))).env w (λb=>pb ids (g b)) (DO β ids)) G v w'):
  ∃g' β',Inv C g' β' (AS.ki s ids t (s.made ids t G.news) ids G.cz) a w'/\VS ((AS.ki s ids t (s.made ids t G.news) ids G.cz).env w' g' β') (G.val.jB (s.xp ids t)) v:=by
 obtain⟨g1,β1,B9,aPI,at9,hle⟩:=ha;have at9:Trans w w' (λb=>pb ids (g b)) g1:=at9;obtain⟨m1,m2⟩:=aoN s ids t G.news hv;have aWj:∀id∈ids,s.cq id≠aD:=λid dr=>by obtain⟨⟨v,fr,c⟩,hr⟩:=hp id dr;rw[eU hr];simp
 have I8:∀id,s.cq id≠aD->G.news=[]\/∀j,id≠ .new t j:=λid dr=>by
  rcases hv with hv | hv
  ·exact .inl hv
  ·exact .inr λj e=>dr (by rw[e];exact(lA hv).1 j)
 obtain⟨n1,n2⟩:=JK s ids t ids G.cz (s.made ids t G.news) hn hl (λid dr=>by rw[m1 id (I8 id (aWj id dr))];exact aWj id dr);have aUf:∀j,G.news≠ []->Id.new t j ∉ ids:=λj il dr=>by
  rcases hv with hv | hv
  ·exact il hv
  ·exact aWj _ dr ((lA hv).1 j)
 generalize abO:AS.ki s ids t (s.made ids t G.news) ids G.cz=s2 at*;have hgO:∀(k:Nat) (id:Id),ids[k]? =av id->∃e,G.cz[k]? =av e/\s2.cq id=av (s.tY ids t (s.Ef id) e):=λk id hk=>by
  have iA:k < G.cz.length:=by rw[hl];exact(dX.1 hk).1
  exact⟨_,cj iA,n2 k id _ hk (cj iA)⟩
 have hgN:G.news≠ []->∀j,s2.cq (.new t j)=(G.news[j]?).map (s.tY ids t 0):=λil j=>by rw[n1 _ (aUf j il),m2 il j]
 have hgS:∀id,id ∉ ids->(G.news=[]\/∀j,id≠ .new t j)->s2.cq id=s.cq id:=λid h1 h2=>by rw[n1 id h1,m1 id h2]
 have hverOf:∀id∈ids,∃fr c,s.cq id=av (.obj (s.Ef id) fr c):=λid dr=>by obtain⟨⟨v,fr,c⟩,hr⟩:=hp id dr;refine⟨fr,c,?_⟩;rw[eU hr];simp[AS.Ef,hr]
 have aVV:∀b n,b < w.heap.size->g1 b= .own .eY n->(g b= .own .eY n\/∃i,g b= .own (.id i) n/\idxOf i ids=aD):=λb n hb hg=>by
  have h1:=at9.UP b hb;cases YT:g b with
  |free=>simp only[YT,pb]at h1;rw[h1.1]at hg;cases hg
  |own o k=>cases o with
   |eY=>simp only[YT,pb]at h1;rw[h1.1]at hg;left;exact hg
   |id i=>
    cases hi:idxOf i ids with
    |none=>
     simp only[YT,pb,hi]at h1;rw[h1.1]at hg;simp only[np.own.injEq,nL]at hg;subst hg;exact .inr ⟨i,rfl,hi⟩
    |some k'=>
     simp only[YT,pb,hi]at h1;rcases h1.1 with h2 | ⟨_,_,h2,_⟩ <;> (rw[h2]at hg;cases hg)
 let g2:Nat->np:=λb=>pC g w.heap.size ids t b (g1 b)
 let β2:Id->Option Pl:=yS β β1 ids t (!G.news.isEmpty)
 have hβO:∀k id,ids[k]? =av id->β2 id=β1 (.bt k):=λk id hk=>by show yS _ _ _ _ _ id=_;simp[yS,yK hn hk]
 have hβN:G.news≠ []->∀j,β2 (.new t j)=β1 (.new 0 j):=λil j=>by
  show yS _ _ _ _ _ _=_;have:idxOf (.new t j) ids=aD:=by
   cases hi:idxOf (.new t j) ids with
   |none=>rfl
   |some k=>exact absurd (cZ (ql hi)) (aUf j il)
  have hne':G.news.isEmpty=aQ:=by cases hh:G.news with
   |nil=>exact absurd hh il
   |cons _ _=>rfl
  simp[yS,this,hne']
 have hβS:∀id,id ∉ ids->(G.news=[]\/∀j,id≠ .new t j)->β2 id=β id:=λid h1 h2=>by
  show yS _ _ _ _ _ _=_;have:idxOf id ids=aD:=by
   cases hi:idxOf id ids with
   |none=>rfl
   |some k=>exact absurd (cZ (ql hi)) h1
  cases id with
  |bt k=>simp[yS,this]
  |new i j=>
   have:¬(i=t/\(!G.news.isEmpty)=aZ):=by
    rintro⟨rfl,h3⟩;rcases h2 with h2 | h2
    ·rw[h2]at h3;cases h3
    ·exact h2 j rfl
   simp only[yS, *,bA]
 have aT9:Trans w w' g g2:=by
  refine⟨at9.os,at9.tape,at9.output,at9.size,λb hb=> ?_⟩;have h1:=at9.UP b hb;show match g b with | .free=>pC g w.heap.size ids t b (g1 b)= .free/\_ | .own .eY k=>pC g w.heap.size ids t b (g1 b)= .own .eY k/\_ | .own (.id _) k=>(pC g w.heap.size ids t b (g1 b)= .free\/∃i k',pC g w.heap.size ids t b (g1 b)= .own (.id i) k'/\k<=k')/\_
  cases YT:g b with
  |free=>simp only[YT,pb]at h1 ⊢;rw[h1.1];exact⟨rfl,h1.2⟩
  |own o k=>cases o with
   |eY=>simp only[YT,pb]at h1 ⊢;rw[h1.1];simp only[pC,hb,bM,YT];exact⟨trivial,h1.2⟩
   |id i=>
    cases hi:idxOf i ids with
    |none=>
     simp only[YT,pb,hi]at h1 ⊢;rw[h1.1];simp only[pC,hb,bM,YT];exact⟨.inr ⟨i,k,rfl,ay _⟩,λoff v _ hv=>by simpa only[fq,h1.2]using hv⟩
    |some k'=>
     simp only[YT,pb,hi]at h1 ⊢;refine⟨?_,h1.2⟩;rcases h1.1 with h2 | ⟨i',k'',h2,h3⟩
     ·rw[h2];exact .inl rfl
     ·rw[h2];exact .inr ⟨_,k'',rfl,h3⟩
 have G7:va (G.st.env w' g1 β1) (s2.env w' g2 β2):=by
  refine⟨λb off v ⟨h1,h2⟩=> ?_,λb ob h1 h2=>⟨by show pC g w.heap.size ids t b (g1 b)= .free;have h1:g1 b= .free:=h1;rw[h1];rfl,h2⟩⟩;refine⟨h1,?_⟩;have h2:wK g1 b off:=h2;show wK g2 b off;unfold wK at h2 ⊢;show match pC g w.heap.size ids t b (g1 b) with | .free=>True | .own _ k=>off < k
  cases YT:g1 b with
  |free=>simp[pC]
  |own o k=>
   rw[YT]at h2;cases o with
   |eY=>
    simp only[pC];by_cases hb:b < w.heap.size
    ·rw[if_pos hb];rcases aVV b k hb YT with h3 | ⟨i,h3,_⟩ <;> (rw[h3];exact h2)
    ·rw[if_neg hb];exact h2
   |id i=>exact h2
 have hentOut:∀(base:Nat) (e:dW) (ver:Nat) (fr:Bool) (c:aC),s.tY ids t base e= .obj ver fr c->∃v0 c0,e= .obj v0 fr c0/\ver=base+v0/\c=c0.jB (s.xp ids t):=λbase e ver fr c he=>by
  cases e with
  |dead=>cases he
  |obj v0 fr0 c0=>
   simp only[AS.tY,dW.obj.injEq]at he;obtain⟨rfl,rfl,rfl⟩:=he;exact⟨v0,c0,rfl,rfl,rfl⟩
 have akT:BE (s.xp ids t) (G.st.env w' g1 β1) (s2.env w' g2 β2):=by
  refine⟨G7,λid ver r hr hb=> ?_⟩;cases id with
  |bt k=>
   obtain⟨Ux,ZF⟩:=hb;have Ux:G.cz[k]? ≠aD:=Ux
   have hk:k < ids.length:=by
    rcases rh k ids.length with h' | h'
    ·exact h'
    ·exact absurd (dY ak) Ux
   have dr:ids[k]? =av ids[k]:=cj hk
   simp only[AS.xp,dr,aA]at hr;subst hr;obtain⟨e,R5,afF⟩:=hgO k _ dr;refine⟨⟨by show s2.cq _≠aD;rw[afF];simp,λv fr c hh=> ?_⟩,λ⟨fr,c,hh⟩=>⟨?_,hβO k _ dr⟩⟩
   ·have hh:s2.cq ids[k]=av (.obj v fr c):=hh;rw[afF,aA]at hh;obtain⟨v0,c0,rfl,rfl,_⟩:=hentOut _ _ _ _ _ hh;have:=ZF v0 fr c0 R5;omega
   ·have hh:s2.cq ids[k]=av (.obj (s.Ef ids[k]+ver) fr c):=hh;rw[afF,aA]at hh;obtain⟨v0,c0,rfl,aSQ,_⟩:=hentOut _ _ _ _ _ hh;obtain rfl:ver=v0:=ak;exact⟨fr,c0,R5⟩
  |new i j=>
   simp only[AS.xp,aA]at hr;subst hr;obtain⟨Ux,ZF⟩:=hb;have Ux:([G.news].getD i [])[j]? ≠aD:=Ux
   have ZF:∀v fr c,([G.news].getD i [])[j]? =av (.obj v fr c)->ver<=v:=ZF
   cases i with
   |succ i=>simp at Ux
   |zero=>
    simp only[j6]at Ux ZF;have il:G.news≠ []:=λe=>by rw[e]at Ux;simp at Ux
    obtain⟨e,he⟩:=Option.ne_none_iff_exists'.1 Ux;have afF:=hgN il j;rw[he,eJ]at afF;refine⟨⟨by show s2.cq (.new t j)≠aD;rw[afF];simp,λv fr c hh=> ?_⟩,λ⟨fr,c,hh⟩=>⟨?_,hβN il j⟩⟩
    ·have hh:s2.cq (.new t j)=av (.obj v fr c):=hh;rw[afF,aA]at hh;obtain⟨v0,c0,rfl,rfl,_⟩:=hentOut _ _ _ _ _ hh;have:=ZF v0 fr c0 he;simp only;omega
    ·have hh:s2.cq (.new t j)=av (.obj ver fr c):=hh;rw[afF,aA]at hh;obtain⟨v0,c0,rfl,aSQ,_⟩:=hentOut _ _ _ _ _ hh;obtain rfl:ver=v0:=ak;exact⟨fr,c0,he⟩
 have aTW:db (s.env w g β) (s2.env w' g2 β2):=by
  refine⟨Trans.mem aT9,λid ver hb=> ?_,λid ver hb hc=> ?_⟩
  ·obtain⟨Ux,ZF⟩:=hb;have Ux:s.cq id≠aD:=Ux;have ZF:∀v fr c,s.cq id=av (.obj v fr c)->ver<=v:=ZF;by_cases dr:id∈ids
   ·obtain⟨k,hk⟩:=lD.1 dr;obtain⟨e,R5,afF⟩:=hgO k id hk;obtain⟨fr1,c1,Uy⟩:=hverOf id dr;refine⟨by show s2.cq _≠aD;rw[afF];simp,λv fr c hh=> ?_⟩;have hh:s2.cq id=av (.obj v fr c):=hh;rw[afF,aA]at hh;obtain⟨v0,c0,rfl,rfl,_⟩:=hentOut _ _ _ _ _ hh;have:=ZF _ _ _ Uy;omega
   ·have:=hgS id dr (I8 id Ux);exact⟨by show s2.cq _≠aD;rw[this];exact Ux,λv fr c hh=>ZF v fr c (this.symm.trans hh)⟩
  ·obtain⟨Ux,ZF⟩:=hb;have Ux:s.cq id≠aD:=Ux;have ZF:∀v fr c,s.cq id=av (.obj v fr c)->ver<=v:=ZF;obtain⟨fr,c,hh⟩:=hc;have hh:s2.cq id=av (.obj ver fr c):=hh;by_cases dr:id∈ids
   ·obtain⟨k,hk⟩:=lD.1 dr;obtain⟨e,R5,afF⟩:=hgO k id hk;obtain⟨fr1,c1,Uy⟩:=hverOf id dr;rw[afF,aA]at hh;obtain⟨v0,c0,rfl,aSQ,_⟩:=hentOut _ _ _ _ _ hh;have aUd:=ZF _ _ _ Uy;obtain rfl:v0=0:=ak;have hver':ver=s.Ef id:=ak;refine⟨⟨fr1,c1,by rw[hver'];exact Uy⟩,?_⟩;show β2 id=β id;rw[hβO k id hk];have akR:s.nY ids id= .obj 0 fr1 (c1.jB (s.yV ids)):=by simp[AS.nY,Uy]
    have h0:((gw (ids.map (s.nY ids))).env w (λb=>pb ids (g b)) (DO β ids)).Ij (.bt k) 0:=by
     refine⟨?_,λ_ _ _ _=>aP _⟩;show(ids.map (s.nY ids))[k]? ≠aD
     simp[hk]
    have:=(hle.cur (.bt k) 0 h0 ⟨fr,c0,R5⟩).2;have this:β1 (.bt k)=(ids[k]?).bind β:=this;rw[this,hk];rfl
   ·have:=hgS id dr (I8 id Ux);exact⟨⟨fr,c,this.symm.trans hh⟩,hβS id dr (I8 id Ux)⟩
 have aT3:jE (s2.env w' g2 β2):=by
  intro id ver fr c hh;have hh:s2.cq id=av (.obj ver fr c):=hh;by_cases dr:id∈ids
  ·obtain⟨k,hk⟩:=lD.1 dr;obtain⟨e,R5,afF⟩:=hgO k id hk;rw[afF,aA]at hh;obtain⟨v0,c0,rfl,_,rfl⟩:=hentOut _ _ _ _ _ hh;refine yA akT (aPI (.bt k) v0 fr c0 R5) (hβO k id hk) λpl _=>⟨rfl,λn hg=> ?_,λhg=> ?_⟩
   ·have hg:g1 pl.b= .own (.id (.bt k)) n:=hg;show pC g w.heap.size ids t pl.b (g1 pl.b)=_;rw[hg];simp[pC,aPN,aJ,hk]
   ·have hg:g1 pl.b= .free:=hg;show pC g w.heap.size ids t pl.b (g1 pl.b)=_;rw[hg];rfl
  ·by_cases il:G.news≠ []/\∃j,id= .new t j
   ·obtain⟨il,j,rfl⟩:=il;rw[hgN il j,dx]at hh;obtain⟨e,he,hh⟩:=hh;obtain⟨v0,c0,rfl,_,rfl⟩:=hentOut _ _ _ _ _ hh;refine yA akT (aPI (.new 0 j) v0 fr c0 (by show([G.news].getD 0 [])[j]? =_;simpa using he)) (hβN il j) λpl _=>⟨rfl,λn hg=> ?_,λhg=> ?_⟩
    ·have hg:g1 pl.b= .own (.id (.new 0 j)) n:=hg;show pC g w.heap.size ids t pl.b (g1 pl.b)=_;rw[hg];rfl
    ·have hg:g1 pl.b= .free:=hg;show pC g w.heap.size ids t pl.b (g1 pl.b)=_;rw[hg];rfl
   ·have aXX:G.news=[]\/∀j,id≠ .new t j:=by
     by_cases hh:G.news=[]
     ·exact .inl hh
     ·exact .inr λj e=>il ⟨hh,j,e⟩
    rw[hgS id dr aXX]at hh;have same:∀id,id ∉ ids->∀ver fr c,s.cq id=av (.obj ver fr c)->∀pl,β id=av pl->w'.heap[pl.b]? =w.heap[pl.b]? /\pC g w.heap.size ids t pl.b (g1 pl.b)=g pl.b:=by
     intro id dr ver fr c hh pl QP;obtain⟨hb,aTV⟩:=(h.bT id ver fr c hh).label (pl:=pl) QP;have hb:pl.b < w.heap.size:=hb;have h1:=at9.UP pl.b hb;have aV0:idxOf id ids=aD:=by
      cases hi:idxOf id ids with
      |none=>rfl
      |some k=>exact absurd (cZ (ql hi)) dr
     rcases aTV with⟨k,hk⟩ | ⟨_,hk⟩
     ·have hk:g pl.b= .own (.id id) k:=hk;simp only[hk,pb,aV0]at h1;rw[h1.1];simp only[pC,hb,bM];exact⟨h1.2,trivial⟩
     ·have hk:g pl.b= .free:=hk;simp only[hk,pb]at h1;rw[h1.1,hk];exact⟨h1.2,rfl⟩
    have ho:=h.bT id ver fr c hh;refine ho.mono aTW (hβS id dr aXX) (λpl QP=>same id dr ver fr c hh pl QP) λq2 vq k2 v2 l2 Vi _=> ?_
    have Vi:s.cq q2=av (.obj vq aZ (.mp k2 v2 l2)):=Vi;have aEb:q2 ∉ ids:=λhm=>by
     have:=ZH q2 hm;have e:s.obj q2=av (vq,aZ,.mp k2 v2 l2):=by simp[AS.obj,Vi]
     unfold AS.VA at this;rw[e]at this;cases this
    refine⟨⟨k2,v2,l2,?_⟩,λpl QP=>same q2 aEb vq aZ _ Vi pl QP⟩;show s2.cq q2=_;rw[hgS q2 aEb (I8 q2 (by rw[Vi];simp))];exact Vi
 have axH:s2.cM=s.cM:=by rw[<-abO,E6,aev]
 exact⟨g2,β2,h.step axH aT9 aTW aT3,Ji akT B9⟩
end
end Go.Ab
namespace Go.Ab
theorem uO(s:AS):∀(n:Nat) (todo acc:List Id),acc.Nodup->(s.reach n todo acc).Nodup
 | 0,_,acc,h=>by simpa[AS.reach]using h
 |_+1,[],acc,h=>by simpa[AS.reach]using h
 |n+1,id::todo,acc,h=>by
  rw[AS.reach];split
  ·exact uO s n todo acc h
  ·rename_i hc;refine uO s n _ _ ?_
   rw[List.nodup_append];refine⟨h,by simp,λx hx y hy e=> ?_⟩;simp only[bp]at hy;subst hy e;exact hc (by simpa using hx)
theorem DB(s:AS)(vs:List aC):(s.aib vs).Nodup:=uO s _ _ _ (by simp)
section
variable {P:aT} {C:Ctx} {g:Nat->np} {β:Id->Option Pl} {s:AS} {a:Act} {w:cd} {o:Oper}
theorem anr(h:Inv C g β s a w){ids:List Id}(hn:ids.Nodup)(Eu:s.axT ids=aZ){G:iB}{s':AS}(he:(s.back ids o.dst G).eval=av s'){v:Value}{w':cd}
  (ha:u5 ((gw (ids.map (s.nY ids))).env w (λb=>pb ids (g b)) (DO β ids)) G v w'):jf C s' (a.put o.dst v) w':=by
 have hp:∀id∈ids,∃r,s.obj id=av r:=λid dr=>by have:=dp.1 Eu id dr;rw[au]at this;exact bR.1 this.1
 have ZH:∀id∈ids,s.VA id=aZ:=λid dr=>by have:=dp.1 Eu id dr;rw[au]at this;exact this.2
 unfold AS.back at he;cases aTI:o.dst with
 |some t=>
  rw[aTI]at he;obtain⟨hg,he⟩:=aH.1 he;obtain rfl:=az.1 he;simp only[au,dK,gR]at hg;obtain⟨hl,hg⟩:=hg;have aHo:G.news=[]\/s.eS t=aZ:=by
   rcases hg with hg | hg
   ·exact .inl (by simpa using hg)
   ·exact .inr hg
  obtain⟨g2,β2,h1,h2⟩:=aar h hn hp ZH hl aHo ha;exact⟨g2,β2,h1.put (av t) h2⟩
 |none=>
  rw[aTI]at he;obtain⟨hg,he⟩:=aH.1 he;obtain rfl:=az.1 he;simp only[au,dK]at hg;obtain⟨hl,hg⟩:=hg;have I8:G.news=[]:=by simpa using hg
  obtain⟨g2,β2,h1,_⟩:=aar (t:=0) h hn hp ZH hl (.inl I8) ha;rw[I8]at h1;exact⟨g2,β2,h1⟩
theorem Vb(h:Inv C g β s a w){en:Entry}{ids:List Id}(hn:ids.Nodup){vs:List aC}{ys:List Value}(hv:zI (s.env w g β) vs ys)
  {s':AS} (he:(s.enter en o.dst ids vs).eval=av s'):∃x,en.run (vs.map (aC.jB (s.yV ids))) (ids.map (s.nY ids))=av x/\
   zI ((gw (ids.map (s.nY ids))).env w (λb=>pb ids (g b)) (DO β ids)) (vs.map (aC.jB (s.yV ids))) ys/\
   jE ((gw (ids.map (s.nY ids))).env w (λb=>pb ids (g b)) (DO β ids))/\
   ∀v w',u5 ((gw (ids.map (s.nY ids))).env w (λb=>pb ids (g b)) (DO β ids)) (en.out (vs.map (aC.jB (s.yV ids))) (ids.map (s.nY ids)) x) v w'->jf C s' (a.put o.dst v) w':=by
 unfold AS.enter at he;obtain⟨Eu,he⟩:=aH.1 he;obtain⟨x,hx,he⟩:=yJ.1 he;obtain⟨x0,aRq,he⟩:=ax.1 he;rw[en.ayv _ _ aRq]at he;exact⟨x,hx,zI.jB (aHt ids) hv,axK ids hn h.bT,λv w' ha=>anr h hn Eu he ha⟩
theorem atG(h:Inv C g β s a w){f:fV}{en:Entry}(hd:si P f en){ids:List Id}(hn:ids.Nodup){vs:List aC}{ys:List Value}(hv:zI (s.env w g β) vs ys)
  (hr:(execOp a.eval o).run P w=(callFunc f ys.toArray).run P w) {s':AS} (he:(s.enter en o.dst ids vs).eval=av s'):gr P o a w (jf C s'):=by
 obtain⟨x,hx,h1,h2,key⟩:=Vb h hn hv he;rcases hd _ _ _ _ _ _ _ h1 h2 hx with⟨atY,hc⟩ | ⟨v,w',aVb,ha⟩
 ·exact .inr (.inr (.inl ⟨f,ys.toArray,w,hr.trans atY,hc.mono λe w' ⟨v,he,ha⟩=>⟨v,he,key v w' ha⟩⟩))
 ·exact .inl ⟨v,w',hr.trans aVb,key v w' ha⟩
theorem azD(h:Inv C g β s a w){c:Call}{F:bU}{f:fV}{caps:aC}{en:Entry}(ho:o.op= .call c)(hc:c.callee= .value F)(hF:s.ev F= .fn f caps)(hd:si P f en){s':AS}
  (he:(s.call en o.dst (c.args.toList.map s.ev++caps.list)).eval=av s'):gr P o a w (jf C s'):=by
 obtain⟨cal,args,tys⟩:=c;simp only at hc he;subst hc;obtain⟨vs,hy,aSR⟩:=abB (hF▸h.ev F);have NJ:=(h.atJ args.toList).append (aju aSR);have hr:(execOp a.eval o).run P w=(callFunc f (args.toList.map a.eval++vs).toArray).run P w:=by
  have e1:execOp a.eval o=(do let d <-resolve a.eval {callee:= .value F,args,argTypes:=tys} o.type;invoke d.target d.args):=by simp only[execOp,ho]
  rw[e1];simp only[resolve,hy,Deferred.ofValue,cC,ez,bP,invoke];congr 2;simp
 unfold AS.call at he;obtain⟨r,h1,h2⟩:=ax.1 he;obtain⟨g',i1,e1,_,f1⟩:=gh r.2 h;exact atG i1 hd (DB _ _) (Fu rfl h.bT e1 _ _ _ r NJ h1 f1) hr h2
theorem ahM{X R:Type}{S:X->Prop}{k:X->Option R}{r:R}(h:abp S k=av r):(∃x,S x)/\∀x,S x->k x=av r:=by
 unfold abp at h;split at h
 ·rename_i hx;obtain rfl:=bn h;exact hx.choose_spec
 ·cases h
theorem W4(h:Inv C g β s a w){f:fV}{en:Entry}(hd:QR P f en){vs:List aC}{ys:List Value}(NJ:zI (s.env w g β) vs ys){R:Type}{k:AS->Option R}{r:R}
  (he:s.anT en o.dst vs k=av r):(callFunc f ys.toArray).run P w= .ok (.enter f ys.toArray) w/\Calls P f ys.toArray w λe w'=>∃v,e= .returned v/\∃s',jf C s' (a.put o.dst v) w'/\k s'=av r:=by
 unfold AS.anT at he;obtain⟨r2,h0,he⟩:=jd.1 he;obtain⟨r3,h1,h3⟩:=ax.1 h0;obtain⟨Eu,h3⟩:=aH.1 h3;obtain rfl:=az.1 h3;obtain⟨g',i1,e1,_,f1⟩:=gh r3.2 h;have hn:=DB (s.bG r3.2) r3.1;have hv:=Fu rfl h.bT e1 _ _ _ r3 NJ h1 f1;unfold AS.aGC at he;obtain⟨hx,hk⟩:=ahM he;obtain⟨c1,c2⟩:=hd _ _ _ _ _ _ (zI.jB (aHt _) hv) (axK _ hn i1.bT) hx;refine⟨c1,c2.mono λe w' ⟨v,x,ao9,hs,ha⟩=>⟨v,ao9,?_⟩⟩;obtain⟨s',h4,h5⟩:=jd.1 (hk x hs);obtain⟨x0,aRq,h4⟩:=ax.1 h4;rw[en.ayv _ _ aRq]at h4;exact⟨s',anr i1 hn Eu h4 ha,h5⟩
theorem as8(h:Inv C g β s a w){c:Call}{F:bU}{f:fV}{caps:aC}{en:Entry}(ho:o.op= .call c)(hc:c.callee= .value F)(hF:s.ev F= .fn f caps)(hd:QR P f en){R:Type}{k:AS->Option R}{r:R}
  (he:s.anT en o.dst (c.args.toList.map s.ev++caps.list) k=av r):gr P o a w λa' w'=>∃s',jf C s' a' w'/\k s'=av r:=by
 obtain⟨cal,args,tys⟩:=c;simp only at hc he;subst hc;obtain⟨vs,hy,aSR⟩:=abB (hF▸h.ev F);obtain⟨c1,c2⟩:=W4 h hd ((h.atJ args.toList).append (aju aSR)) he;refine .inr (.inr (.inl ⟨f,(args.toList.map a.eval++vs).toArray,w,Eq.trans ?_ c1,c2⟩));have e1:execOp a.eval o=(do let d <-resolve a.eval {callee:= .value F,args,argTypes:=tys} o.type;invoke d.target d.args):=by simp only[execOp,ho]
 rw[e1];simp only[resolve,hy,Deferred.ofValue,cC,ez,bP,invoke];congr 2;simp
theorem Gk.aZG{E:Env}{f:aC}{tmps:Array Value}(h:Gk E f tmps):zI E f.list tmps.toList:=by
 obtain⟨h1,h2⟩:=h;have gen:∀(l:List aC) (ys:List Value),l.length=ys.length->(∀i,VS E (l.getD i .undef) (ys.getD i undef))->zI E l ys:=by
  intro l
  induction l with
  |nil=>intro ys hl _;cases ys with
   |nil=>trivial
   |cons _ _=>simp at hl
  |cons x l ih=>intro ys hl hi;cases ys with
   |nil=>simp at hl
   |cons y ys=>exact⟨by simpa using hi 0,ih ys (by simpa using hl) λi=>by simpa using hi (i+1)⟩
 exact gen _ _ (by simpa using h1) λi=>by simpa[cX,aJ]using h2 i
theorem awO(h:Inv C g β s a w){c:Call}{F:bU}{id:Id}{ver:Nat}{rc:wV}{f:aC}{en:Entry}(ho:o.op= .call c)(hc:c.callee= .value F)
  (hF:s.yielded (s.ev F) c.args.size=av (id,ver,rc,f)) (aVa:rc=sw P rc.y) (hd:wN P rc.y en) {s':AS}
  (he:(s.call en o.dst (.yl id ver::(c.args.toList.map s.ev++f.list))).eval=av s'):gr P o a w (jf C s'):=by
 obtain⟨cal,args,tys⟩:=c;simp only at hc he hF;subst hc;unfold AS.yielded at hF;split at hF;rotate_left
 ·cases hF
 rename_i id' ver' ao9;split at hF;rotate_left
 ·cases hF
 rename_i v c0 f0 mX;split at hF;rotate_left
 ·cases hF
 rename_i aG8;simp only[aA,cT]at hF;obtain⟨rfl,rfl,rfl,rfl⟩:=hF;simp only[au,dK]at aG8;obtain⟨⟨rfl,uW⟩,hy⟩:=aG8;have dh:=eU mX;have hv:=h.ev F;rw[ao9]at hv;obtain⟨cs,hV,hO⟩:=hv;simp only[V]at hV;obtain⟨l,rfl,hb,gb⟩:=hV;have aUh:a.eval F= .func (.yield l) #[] #[]:=by simpa[gI,aC.agg]using hO.symm
 obtain⟨pl,hp,rfl⟩:=gb ⟨aQ,_,dh⟩;obtain⟨pl',r,hp',hh,hg,⟨q1,q2,q3⟩,axH,nA⟩:=h.bT id' v aQ _ dh;have hp':β id'=av pl':=hp';have hp:β id'=av pl:=hp;rw[hp']at hp;obtain rfl:pl'=pl:=by simpa using hp
 have hh:w.heap[pl'.b]? =av (.loop r):=hh
 have NJ:zI (s.env w g β) (.yl id' v::(args.toList.map s.ev++f0.list)) (.func (.yield pl'.b) #[] #[]::(args.toList.map a.eval++r.tmps.toList)):=
  ⟨by rw[<-aUh,<-ao9];exact h.ev F,(h.atJ args.toList).append axH.aZG⟩
 have hr:(execOp a.eval o).run P w= .ok (.round pl'.b r.fn ((c0.ps.zip (args.toList.map a.eval).toArray).foldl (λtmps (t,a)=>tmps.setIfInBounds t a) r.tmps.toList.toArray) c0.as c0.b) w:=by
  have e1:execOp a.eval o=(do let d <-resolve a.eval {callee:= .value F,args,argTypes:=tys} o.type;invoke d.target d.args):=by simp only[execOp,ho]
  have e2:=run_yield (P:=P) (args:=args.map a.eval) hh (by simpa[q1]using uW);rw[q1,q2,q3]at e2;rw[e1];simp only[resolve,aUh,Deferred.ofValue,cC,ez,bP,invoke];have e3:(args.toList.map a.eval).toArray=args.map a.eval:=by apply ig;simp
  rw[e3];simpa using e2
 unfold AS.call at he;obtain⟨r2,h1,h2⟩:=ax.1 he;obtain⟨g',i1,e1,_,f1⟩:=gh r2.2 h;obtain⟨x,hx,k1,k2,key⟩:=Vb i1 (DB _ _) (Fu rfl h.bT e1 _ _ _ r2 NJ h1 f1) h2;refine .inr (.inr (.inr ⟨pl'.b,r.fn,_,c0.as,c0.b,w,hr,λrd n=> ?_⟩));have:=hd.2.1 hy _ _ _ _ _ _ x k1 k2 hx pl'.b (args.toList.map a.eval) r.tmps.toList r.fn rd n rfl (by rw[<-aVa];simpa using uW);rw[<-aVa]at this;exact this.mono λe w' ⟨v,he,ha⟩=>⟨v,he,key v w' ha⟩
end
end Go.Ab
namespace Go.Ab
section
variable {P:aT} {C:Ctx} {g:Nat->np} {β:Id->Option Pl} {s:AS} {a:Act} {w:cd} {o:Oper}
theorem ke{b:Builtin}{args:Array bU}{ts:Array TypeId}{F:TypeId->Array Value->Sem Value}{x:Value}{w':cd}{s':AS}(ho:o.op= .call {callee:= .builtin b,args,argTypes:=ts})
  (hb:∀ty cs xs,builtin b ts ty cs xs=(do pure (.value (<-F ty xs)))) (hf:∀ty,(F ty (args.map a.eval)).run P w= .ok x w') (h2:∃g' β',Inv C g' β' s' (a.put o.dst x) w'):gr P o a w (jf C s'):=by
 refine .inl ⟨x,w',?_,h2⟩;simp only[execOp,ho,resolve,cC,ez,bP,invoke];rw[hb,cC,hf];rfl
theorem atu(h:Inv C g β s a w){src dst:TypeId}{x:bU}(ho:o.op= .convert src dst x){id:Id}{ver:Nat}(hx:s.ev x= .ptr id ver [] 0){v:aC}(he:(ahF P s src dst id ver).eval=av v):gr P o a w (jf C (s.put o.dst v)):=by
 have hv:=h.ev x;rw[hx]at hv;obtain⟨ad,hy,hb,hc⟩:=xk hv;have fin:v= .ptr id ver [] 0->(convert src dst (a.eval x)).run P w= .ok (a.eval x) w->gr P o a w (jf C (s.put o.dst v)):=by intro h1 h2;subst h1;exact h.value hv (eK (f:=convert src dst (a.eval x)) (by simp only[execOp,ho]) h2)
 unfold ahF at he;split at he
 ·rename_i v0 fr e c mX;have dh:=eU mX;obtain⟨pl',cur,e',hp',hh,hg,hk,hV⟩:=(h.bT id v0 fr _ dh).box rfl;have hk:e'=e:=hk;subst hk;have hV:V (s.env w g β) c (cur.toList.take cur.size):=hV;rw[<-c9,bQ]at hV;have hh:w.heap[pl'.b]? =av (.cells cur e' (0,0)):=hh
  have uW:=hV.size;have uW:cur.toList.length=c.size:=uW;have aHh:w.shape? pl'.b=av (e',c.size):=by simp only[World.shape?,hh];rw[<-uW];simp
  have hp':β id=av pl':=hp';split at he
  ·rename_i t hS hD;obtain⟨h1,h2⟩:=aH.1 he;have h2:=az.1 h2;simp only[au,dK,cS,ik]at h1;obtain⟨⟨rfl,h3⟩,h4⟩:=h1;obtain⟨pl,hp,rfl⟩:=hc ⟨fr,_,dh⟩;have hp:β id=av pl:=hp;rw[hp']at hp;obtain rfl:pl'=pl:=by simpa using hp
   refine fin h2.symm ?_
   rw[hy];cases hi:P.info? t with
   |none=>exact absurd (by simp[Program.cellsOf,hi]) h3
   |some j=>
    have hj:j.size≠0:=by rw[<-oC hi]at*;exact h3
    exact Go.Lib.run_to_unsafe w _ hS hD hi hj aHh (by show 0 < c.size;omega)
  ·rename_i u hS hD;obtain⟨h1,h2⟩:=aH.1 he;have h2:=az.1 h2;simp only[au,dK,cS,ik]at h1;obtain⟨⟨rfl,h3⟩,h4⟩:=h1;obtain⟨pl,hp,rfl⟩:=hc ⟨fr,_,dh⟩;have hp:β id=av pl:=hp;rw[hp']at hp;obtain rfl:pl'=pl:=by simpa using hp
   refine fin h2.symm ?_
   rw[hy];cases hi:P.info? u with
   |none=>exact absurd (by simp[Program.cellsOf,hi]) h3
   |some j=>exact Go.Lib.run_from_unsafe w _ hS hD hi aHh h4
  ·simp only[aw]at he
 ·simp only[aw]at he
theorem aGE(h:Inv C g β s a w){T U:TypeId}{op:BinOp}{x y:bU}(ho:o.op= .binOp op T x y U){i j:Id}{v1 v2:Nat}(hx:s.ev x= .ptr i v1 [] 0)(hy:s.ev y= .ptr j v2 [] 0){v:aC}(he:(aSG P s T op i v1 j v2).eval=av v):
  gr P o a w (jf C (s.put o.dst v)):=by
 unfold aSG at he;split at he
 ·rename_i v' fr c mX;obtain⟨h1,h2⟩:=aH.1 he;simp only[au,dK,bf]at h1;obtain⟨⟨⟨rfl,rfl⟩,rfl⟩,aSO⟩:=h1;have dh:=eU mX;have abQ:=h.ev x;have aPM:=h.ev y;rw[hx]at abQ;rw[hy]at aPM;obtain⟨ad,aTy,_,hc⟩:=xk abQ;obtain⟨ad',aTz,_,hc'⟩:=xk aPM;obtain⟨pl,hp,rfl⟩:=hc ⟨fr,c,dh⟩;obtain⟨pl',hp',rfl⟩:=hc' ⟨fr,c,dh⟩;rw[hp]at hp';obtain rfl:pl=pl':=by simpa using hp'
  have hT:∃t j,P.underlying T=av (.pointer t)/\P.info? t=av j:=by
   unfold aUu at aSO;split at aSO
   ·rename_i t ht;obtain⟨j,hj⟩:=bR.1 aSO;exact⟨t,j,ht,hj⟩
   ·cases aSO
  obtain⟨t,j,hT,hj⟩:=hT
  have hq:(Op.equal T (.pointer (av ⟨pl.b,0,aD⟩)) (.pointer (av ⟨pl.b,0,aD⟩))).run P w= .ok aZ w:=
   fT λd=>by simp[eI,run_underlying hT,sizeOf,typeInfo,hj,run_sameAddr_same]
  have aYL:(eqGuard op T x y (a.eval x) (a.eval y)).run P w= .ok () w:=by rw[aTy,aTz];exact pk (by simp) rfl
  have fin:∀z,(binOp op T (a.eval x) (a.eval y)).run P w= .ok z w->VS (s.env w g β) v z->gr P o a w (jf C (s.put o.dst v)):=by
   intro z h1 h3;refine h.value h3 ?_
   simp[execOp,ho,h1,aYL]
  split at h2
  ·obtain rfl:=az.1 h2;refine fin (.bool aZ) ?_ (xC aZ)
   rw[aTy,aTz];simp[binOp,hq]
  ·obtain rfl:=az.1 h2;refine fin (.bool aQ) ?_ (xC aQ)
   rw[aTy,aTz];simp[binOp,hq]
  ·simp only[aw]at h2
 ·simp only[aw]at he
theorem aPo{c:Call}{b:Builtin}{x:bU}(hc:c.callee= .builtin b)(ha:c.args.toList=[x]):c= {callee:= .builtin b,args:= #[x],argTypes:=c.argTypes}:=by
 obtain⟨cal,args,tys⟩:=c;simp only at hc ha;have ha':args= #[x]:=by apply ig;simpa using ha
 subst hc ha';rfl
theorem awX{c:Call}{b:Builtin}{x y:bU}(hc:c.callee= .builtin b)(ha:c.args.toList=[x,y]):c= {callee:= .builtin b,args:= #[x,y],argTypes:=c.argTypes}:=by
 obtain⟨cal,args,tys⟩:=c;simp only at hc ha;have ha':args= #[x,y]:=by apply ig;simpa using ha
 subst hc ha';rfl
theorem aXc{ts:Array TypeId}{T:TypeId}(h:ts.toList=[T]):ts= #[T]:=by apply ig;simpa using h
theorem aSl{ts:Array TypeId}{T U:TypeId}(h:ts.toList=[T,U]):ts= #[T,U]:=by apply ig;simpa using h
theorem aFl(h:Inv C g β s a w){c:Call}{x:bU}{T e:TypeId}(ho:o.op= .call c)(hc:c.callee= .builtin .cap)(ha:c.args.toList=[x])(ht:c.argTypes.toList=[T])(hx:s.ev x= .dy)(hT:P.underlying T=av (.slice e)):
  gr P o a w (jf C (s.put o.dst (.d (.int .i64) (0:Int)))):=by
 rw[aPo hc ha,aXc ht]at ho;have hv:=h.ev x;rw[hx]at hv;have hy:=mu hv;refine ke ho (F:=λty xs=>Builtin.cap_ #[T] ty xs) (λty cs xs=>rfl) (x:= .int .i64 0) (w':=w) (λty=> ?_) ⟨g,β,h.put o.dst (mM _ _)⟩;simp[Builtin.cap_,run_underlying hT,hy,goInt]
theorem arw(h:Inv C g β s a w){c:Call}{x:bU}{id:Id}{ver len:Nat}(ho:o.op= .call c)(hc:c.callee= .builtin .unsafeSliceData)(ha:c.args.toList=[x])(hx:s.ev x= .bE id ver [] 0 0 len)(hl:0 < len):
  gr P o a w (jf C (s.put o.dst (.ptr id ver [.idx 0] 0))):=by
 rw[aPo hc ha]at ho;have hv:=h.ev x;rw[hx]at hv;obtain⟨ad,cap,hy,R4,hs,hb,gb⟩:=tJ hv;obtain⟨ad,rfl⟩:=bR.1 (hs hl);refine ke ho (F:=λty xs=>Builtin.unsafeSliceData_ c.argTypes ty xs) (λty cs xs=>rfl) (x:= .pointer (av ad)) (w':=w) (λty=> ?_) ⟨g,β,h.put o.dst ?_⟩
 ·rw[show(#[x].map a.eval)= #[a.eval x] by simp,hy];exact Go.Lib.run_unsafeSliceData_row w _ _ _ _ _ ak
 ·refine⟨[.pointer (av ad)],?_,rfl⟩;simp only[V];refine⟨ad,rfl,hb,λhc=> ?_⟩;have h1:=gb hc;cases hp:(s.env w g β).β id with
  |none=>rw[hp]at h1;simp only at h1;cases h1.1
  |some pl=>
   rw[hp]at h1;simp only at h1;exact⟨pl,rfl,by simpa using h1.1 (.inl hl)⟩
theorem apS(h:Inv C g β s a w){c:Call}{mx:Bool}(ho:o.op= .call c)(hc:c.callee= .builtin (if mx then .max else .min)){v:aC}(he:(aBm mx (c.args.toList.map s.ev)).eval=av v):gr P o a w (jf C (s.put o.dst v)):=by
 unfold aBm at he;split at he
 ·rename_i k x k' y Xz;obtain⟨h1,h2⟩:=aH.1 he;obtain rfl:=az.1 h2;have h1:k=k':=by simpa using h1
  subst h1;have aG5:∃p q,c.args.toList=[p,q]/\s.ev p= .d (.int k) x/\s.ev q= .d (.int k) y:=by
   match hh:c.args.toList,Xz with
   |[p,q],Xz=>simp only[bY,iY,dB]at Xz;exact⟨p,q,rfl,Xz.1,Xz.2.1⟩
   |[],Xz=>simp at Xz
   |[_],Xz=>simp at Xz
   |_::_::_::_,Xz=>simp at Xz
  obtain⟨p,q,ha,hp,hq⟩:=aG5;rw[awX hc ha]at ho;have aRp:=h.ev p;have aPL:=h.ev q;rw[hp]at aRp;rw[hq]at aPL;have ep:=w6 aRp;have eq:=w6 aPL;cases mx with
  |true=>
   refine ke ho (F:=λty xs=>Builtin.max_ c.argTypes ty xs) (λty cs xs=>rfl) (x:= .int k (if x < y then y else x)) (w':=w) (λty=> ?_) ⟨g,β,h.put o.dst (mM _ _)⟩;rw[show(#[p,q].map a.eval)= #[a.eval p,a.eval q] by simp,ep,eq];simp[Builtin.max_,Builtin.max2]
  |false=>
   refine ke ho (F:=λty xs=>Builtin.min_ c.argTypes ty xs) (λty cs xs=>rfl) (x:= .int k (if y < x then y else x)) (w':=w) (λty=> ?_) ⟨g,β,h.put o.dst (mM _ _)⟩;rw[show(#[p,q].map a.eval)= #[a.eval p,a.eval q] by simp,ep,eq];simp[Builtin.min_,Builtin.min2]
 ·rename_i k x k' y k2 z Xz;obtain⟨h1,h2⟩:=aH.1 he;obtain rfl:=az.1 h2;simp only[au,bf]at h1;obtain⟨rfl,rfl⟩:=h1;have aG5:∃p q r,c.args.toList=[p,q,r]/\s.ev p= .d (.int k) x/\s.ev q= .d (.int k) y/\s.ev r= .d (.int k) z:=by
   match hh:c.args.toList,Xz with
   |[p,q,r],Xz=>simp only[bY,iY,dB]at Xz;exact⟨p,q,r,rfl,Xz.1,Xz.2.1,Xz.2.2.1⟩
   |[],Xz=>simp at Xz
   |[_],Xz=>simp at Xz
   |[_,_],Xz=>simp at Xz
   |_::_::_::_::_,Xz=>simp at Xz
  obtain⟨p,q,r,ha,hp,hq,hr⟩:=aG5;have aG7:c= {callee:= .builtin (if mx then .max else .min),args:= #[p,q,r],argTypes:=c.argTypes}:=by
   obtain⟨cal,args,tys⟩:=c;simp only at hc ha;have ha':args= #[p,q,r]:=by apply ig;simpa using ha
   subst hc ha';rfl
  rw[aG7]at ho;have aRp:=h.ev p;have aPL:=h.ev q;have asm:=h.ev r;rw[hp]at aRp;rw[hq]at aPL;rw[hr]at asm;have ep:=w6 aRp;have eq:=w6 aPL;have er:=w6 asm;cases mx with
  |true=>
   refine ke ho (F:=λty xs=>Builtin.max_ c.argTypes ty xs) (λty cs xs=>rfl) (x:= .int k (if(if x < y then y else x) < z then z else(if x < y then y else x))) (w':=w) (λty=> ?_) ⟨g,β,h.put o.dst (mM _ _)⟩;rw[show(#[p,q,r].map a.eval)= #[a.eval p,a.eval q,a.eval r] by simp,ep,eq,er];simp[Builtin.max_,Builtin.max2]
  |false=>
   refine ke ho (F:=λty xs=>Builtin.min_ c.argTypes ty xs) (λty cs xs=>rfl) (x:= .int k (if z < (if y < x then y else x) then z else(if y < x then y else x))) (w':=w) (λty=> ?_) ⟨g,β,h.put o.dst (mM _ _)⟩;rw[show(#[p,q,r].map a.eval)= #[a.eval p,a.eval q,a.eval r] by simp,ep,eq,er];simp[Builtin.min_,Builtin.min2]
 ·simp only[aw]at he
theorem afC(z:Array Value)(n:Nat):Builtin.zeroCells z n=madeCells z (n*z.size):=rfl
theorem aAC(h:Inv C g β s a w){c:Call}{x y:bU}{T X:TypeId}{k:lC}{n:Int}(ho:o.op= .call c)(hc:c.callee= .builtin .append)(ha:c.args.toList=[x,y])(ht:c.argTypes.toList=[T,X])(hx:s.ev x= .dy)(hy:s.ev y= .d (.int k) n){s':AS}
  (he:(ao3 P s o.dst T X n).eval=av s'):gr P o a w (jf C s'):=by
 rw[awX hc ha,aSl ht]at ho;have abQ:=h.ev x;have aPM:=h.ev y;rw[hx]at abQ;rw[hy]at aPM;have ex:=mu abQ;have ey:=w6 aPM;unfold ao3 at he;split at he
 ·rename_i e t b q kn MQ hd hX;obtain⟨hT,hz,i,zv,hi,aAK,aRa,aso,aAP⟩:=Es MQ;obtain⟨hq,h2⟩:=aH.1 he;obtain⟨h3,h4⟩:=b8.1 h2;obtain rfl:=az.1 h4;simp only[au,bf,dw]at h3;obtain⟨h5,h7,h8⟩:=h3;obtain⟨m,rfl⟩:=Int.eq_ofNat_of_zero_le (Int.le_of_lt h5);simp only[aa]at h7 h8 ⊢;have aSU:zv.cells.size=t.size:=by have:=(aAP (s.env w g β)).size;simpa using this
  have hr:=λty=>Go.Lib.run_append_nil_zeros (P:=P) w T X ty e i zv k kn hT hX hi aso m ak (by rw[aAK];exact hz) ak (by rw[aRa];omega)
  obtain⟨cap,R4⟩:∃cap,grownCap w m 0 e=cap:=⟨_,rfl⟩;have c1:m<=cap:=by rw[<-R4];exact grownCap_ge _ _ _ _
  have c2:cap<=maxLen:=by rw[<-R4];exact grownCap_le_maxLen _ _ _ _ (by unfold maxLen;omega)
  rw[R4]at hr;obtain⟨cur,gb⟩:∃cur,Builtin.zeroCells zv.cells m++Builtin.zeroCells zv.cells (cap - m)=cur:=⟨_,rfl⟩;rw[gb]at hr;have s1:cur.size=cap*t.size:=by rw[<-gb,Array.size_append,C1,C1,aSU,<-fe];congr 1;omega
  have Eu:=vV (aAP (s.env w.drew g β)) m;have s2:cur.toList.take (m*t.size)=(madeCells zv.cells (m*t.size)).toList:=by
   rw[<-gb,ct,afC,aSU];have hl:(madeCells zv.cells (m*t.size)).toList.length=m*t.size:=by simp[size_madeCells]
   rw[fP ak,bk ak]
  obtain⟨g2,β2,i2,Xx⟩:=(h.drew).alv hq (e:=e) (l:=ab m t.zero) (cur:=cur) (cap:=cap) hz (by rw[cD,s2];exact Eu) s1 (by rw[cD];exact c1) c2;rw[cD]at Xx;refine ke ho (F:=λty xs=>Builtin.append_ #[T,X] ty xs) (λty cs xs=>rfl) (λty=> ?_) ⟨g2,β2,i2.put o.dst Xx⟩;rw[show(#[x,y].map a.eval)= #[a.eval x,a.eval y] by simp,ex,ey];exact hr ty
 ·simp only[aw]at he
theorem aiV:∀(xs:List Int) (a:Addr) (acc:ByteArray),(∀j x,xs[j]? =av x->w.cell? (a.add j)=av (.int .u8 x))->
  (loadBytes a acc xs.length).run P w= .ok ⟨acc.data++(xs.map λn=>fQ n.toNat).toArray⟩ w
 |[],a,acc,_=>by simp[loadBytes]
 |x::l,a,acc,h=>by
  have h0:w.cell? a=av (.int .u8 x):=by have:=h 0 x rfl;simpa[Addr.add]using this
  have ih:=aiV l (a.add 1) (acc.push x.toNat.toUInt8) (λj y hy=>by
   have:=h (j+1) y (by simpa using hy);have e:(a.add 1).add j=a.add (j+1):=by
    unfold Addr.add;by_cases hj:j=0
    ·subst hj;simp
    ·simp[hj];omega
   rw[e];exact this)
  simp only[aB,loadBytes,cC,run_load,h0,Result.andThen];rw[ih];congr 1;apply ByteArray.ext;simp[ByteArray.push]
theorem aDl(h:Inv C g β s a w){c:Call}{x y:bU}{T U:TypeId}{id:Id}{ver:Nat}{n:Int}(ho:o.op= .call c)(hc:c.callee= .builtin .unsafeString)(ha:c.args.toList=[x,y])(ht:c.argTypes.toList=[T,U])
  (hx:s.ev x= .ptr id ver [.idx 0] 0) (hy:s.ev y= .d (.int .i64) n) {s':AS} (he:(arL P s o.dst T id ver n).eval=av s'):gr P o a w (jf C s'):=by
 rw[awX hc ha,aSl ht]at ho;have abQ:=h.ev x;rw[hx]at abQ;obtain⟨ad,aTy,_,aYC⟩:=xk abQ;have aPM:=h.ev y;rw[hy]at aPM;have aTz:=w6 aPM;unfold arL at he;split at he
 ·rename_i v e l u mX hT;obtain⟨h1,h2⟩:=aH.1 he;obtain⟨h3,h4⟩:=b8.1 h2;obtain rfl:=az.1 h4;simp only[au,dK]at h1;obtain⟨⟨rfl,rfl⟩,aQ3⟩:=h1;simp only[bf]at h3;obtain⟨h5,h6⟩:=h3;obtain⟨n,rfl⟩:=Int.eq_ofNat_of_zero_le (Int.le_of_lt h5);have h6:n<=(l:List Int).length:=ak;have dh:=eU mX;obtain⟨pl,hp,rfl⟩:=aYC ⟨aQ,_,dh⟩;have hp:β id=av pl:=hp;have hO:yz (s.env w g β) id aQ (.vec u (.int .u8) l):=h.bT id v aQ _ dh;obtain⟨hz,hO⟩:=hO;have hO:(match β id with
   |none=>l=[]
   |some pl=>∃cur k,w.heap[pl.b]? =av (.cells cur u (0,0))/\cur.size=pl.cap*(Ty.int .u8).size/\(l:List Int).length<=pl.cap/\pl.cap<=maxLen/\g pl.b= .own (.id id) k/\
     k<=(l:List Int).length*(Ty.int .u8).size/\(aQ=aQ->k=0)/\bI (dA (s.env w g β) (.int .u8)) (cur.toList.take ((l:List Int).length*(Ty.int .u8).size)) l):=hO
  rw[hp]at hO;obtain⟨cur,k,q1,q2,q3,q4,q5,q6,q7,q8⟩:=hO;have hk:=q7 rfl;subst hk;have aRg:(Ty.int .u8).size=1:=rfl;rw[aRg,iJ]at q2 q8;have Xy:=yG q8;have aHh:w.shape? pl.b=av (u,cur.size):=by simp only[World.shape?,q1]
  have Fz:∀j z,((l:List Int).take n)[j]? =av z->w.cell? ((⟨pl.b,0,aD⟩:Addr).add j)=av (.int .u8 z):=λj z hj=>by
   rw[dD]at hj;split at hj
   ·rename_i aXQ;have aRc:j < (l:List Int).length:=ak;rw[fU,aR];simp only[fq,q1];have:(cur.toList.take (l:List Int).length)[j]? =av (.int .u8 z):=by rw[Xy,eW,hj];rfl
    rw[dD,if_pos aRc]at this;simpa using this
   ·cases hj
  have hlen:((l:List Int).take n).length=n:=by rw[bB];omega
  have aLz:=aiV (P:=P) (w:=w) ((l:List Int).take n) ⟨pl.b,0,aD⟩ .empty Fz;rw[hlen]at aLz;have aTX:=Go.Lib.liesAt_bytes (P:=P) (e:=u) (by simpa using aQ3) (cur.size / P.cellsOf u) n (by
   rw[show P.cellsOf u=1 by simpa using aQ3,Nat.div_one];omega)
  have aTO:∃w',w.freeze ⟨pl.b,0,aD⟩ n=w'/\w'.os=w.os/\w'.tape=w.tape/\(w'.output=w.output/\w.drawn<=w'.drawn)/\w'.heap.size=w.heap.size/\∀b',b'≠pl.b->w'.heap[b']? =w.heap[b']? :=by refine⟨_,rfl,?_⟩;unfold World.freeze;rw[if_neg ak];refine⟨rfl,rfl,⟨rfl,ay _⟩,by simp,λb' hb'=> ?_⟩;simp only[iq];rw[if_neg (λe=>hb' e.symm)]
  obtain⟨w',hw',f1,f2,f3,f4,f5⟩:=aTO;have i1:=h.kill dh q5 f1 f2 f3 f4 f5;have aXD:¬(9223372036854775807:Int) < (n:Int):=by unfold maxLen at q4;omega
  have aWe:¬(n:Int) < 0:=ak;have aNb:n≠0:=ak;have aWa:IntKind.i64.max=9223372036854775807:=rfl;refine ke ho (F:=λty xs=>Builtin.unsafeString_ #[T,U] ty xs) (λty cs xs=>rfl) (x:= .string (fY ((l:List Int).take n))) (w':=w') (λty=> ?_) ⟨_,β,i1.put o.dst ⟨[.string (fY ((l:List Int).take n))],by simp only[V,dA];rfl,rfl⟩⟩;rw[show(#[x,y].map a.eval)= #[a.eval x,a.eval y] by simp,aTy,aTz]
  have aQ4:Builtin.unsafeString_ #[T,U] ty #[.pointer (av ⟨pl.b,0,aD⟩),.int .i64 n]=
    (do
     let n <-Go.asInt (.int .i64 n)
     if n < 0 then runtimePanic (.error "unsafe.String: len out of range")
     if n > IntKind.i64.max then unsupported (.unsafePointer "String: a length above the largest int")
     if n=0 then pure (.string .empty)
     else if <-variablesAt ⟨pl.b,0,aD⟩ (<-elemOf T) n.toNat then do
      let s <-loadBytes ⟨pl.b,0,aD⟩ .empty n.toNat
      freeze ⟨pl.b,0,aD⟩ n.toNat
      pure (.string s)
     else unsupported (.unsafePointer "String: not so many bytes at ptr")):=rfl
  rw[aQ4];simp[Go.asInt,asIntOf,aWa,aXD,aWe,aNb,variablesAt,aHh,elemOf,run_underlying hT,aTX,aLz,hw',fY]
 ·simp only[aw]at he
end
end Go.Ab
namespace Go.Ab
section
variable {P:aT} {C:Ctx} {g:Nat->np} {β:Id->Option Pl} {s:AS} {a:Act} {w:cd} {o:Oper}
theorem apP(h:Inv C g β s a w){c:Call}{T T2:TypeId}{m k:bU}(dF:o.op= .call c)(hc:c.callee= .builtin .delete)(ha:c.args.toList=[m,k])(ht:c.argTypes.toList=[T,T2]){s':AS}(he:(He P s T (s.ev m) (s.ev k)).eval=av s'):gr P o a w (jf C (s'.put o.dst .nil)):=by
 have dF:o.op= .call {callee:= .builtin .delete,args:= #[m,k],argTypes:= #[T,T2]}:=by rw[dF,awX hc ha,aSl ht]
 unfold He at he;split at he
 ·rename_i K V' kt vt id ver hm hx;obtain⟨l,h1,he⟩:=ax.1 he;obtain⟨kx,h2,he⟩:=ax.1 he;obtain⟨aRm,he⟩:=aH.1 he;obtain rfl:=az.1 he;obtain⟨hT,hK,_⟩:=DC hm;have abQ:=h.ev m;rw[hx]at abQ;obtain⟨fr,pl,es,clock,g1,g2,g3,g4,g5,g6,g7,gn⟩:=AO h h1 abQ;obtain⟨l0,g6,gp⟩:=g6;have NK:=B2 depth K kt hK;have hk:=Hu (h.ev k) h2;have aPA:=pX (P:=P) (w:=w) es.isEmpty depth K kt hK 10000 fg _ _ hk;obtain⟨r,hf,hr⟩:=PF (P:=P) (w:=w) hK hk g6
  have fin:∀(es':Array gB) (clock':Nat),(∀ty,(Builtin.delete_ #[T,T2] ty (#[m,k].map a.eval)).run P w= .ok (.tuple #[]) {w with heap:=w.heap.setIfInBounds pl.b (.map es' clock')})->Alike (Gj (s.env w g β) kt vt) es'.toList (iO kt kx l0)->pN es'.toList clock'->
    gr P o a w (jf C ((s.bq id (.obj ver aQ (.mp kt vt (iO kt kx l)))).put o.dst .nil)):=λes' clock' im aG5 aTB=>
   ke (F:=λty xs=>Builtin.delete_ #[T,T2] ty xs) dF (λ_ _ _=>rfl) im ⟨g,β,(h.aJ0 g1 g2 g4 g5 ⟨_,aG5,acy NK gn gp⟩ (DD NK gn) aTB aRm).put o.dst rfl⟩
  cases r with
  |none=>
   simp only at hr;refine fin es clock (λty=> ?_) (by simp only[iO,hr];exact g6) g7;simp[Builtin.delete_,run_underlying hT,g3,Go.MapKept.run_getObj_map g4,aPA,hf,Go.MapKept.run_setObj_map _ g4]
  |some u=>
   obtain⟨j,u⟩:=u;obtain⟨e,m1,m2,rfl⟩:=hr;refine fin (es.eraseIdxIfInBounds j) clock (λty=> ?_) ?_ (by rw[Array.toList_eraseIdxIfInBounds];exact g7.erase j)
   ·simp[Builtin.delete_,run_underlying hT,g3,Go.MapKept.run_getObj_map g4,aPA,hf,Go.MapKept.run_setObj_map _ g4]
   ·simp only[iO,m1,Array.toList_eraseIdxIfInBounds];exact g6.erase j
 ·simp only[aw]at he
theorem anm{Γ:pO}(hΓ:Sound P Γ){bT:List Nat}(h:Inv C g β s a w){s':AS}(he:(sm P Γ bT o s).eval=av s'):gr P o a w (jf C s'):=by
 unfold sm at he;split at he
 ·rename_i x dF;obtain rfl:=az.1 he;exact aif h (.inl dF)
 ·rename_i x dF;obtain rfl:=az.1 he;exact aif h (.inr dF)
 ·rename_i c x y dF;obtain⟨v,h1,h2⟩:=ax.1 he;obtain rfl:=az.1 h2;exact aBR h dF h1
 ·rename_i T dF;split at he
  ·rename_i z q hz hq;obtain⟨h1,h2⟩:=aH.1 he;obtain rfl:=az.1 h2;simp only[au]at h1;exact asB h dF h1.1 h1.2
  ·exact(aw.1 he).elim
 ·rename_i T x dF;exact aE8 h dF he
 ·rename_i T parts dF;exact as5 h dF he
 ·rename_i T n parts dF;exact YP h dF he
 ·rename_i T x dF;obtain⟨v,h1,h2⟩:=ax.1 he;obtain rfl:=az.1 h2;exact aA9 h dF h1
 ·rename_i T x v dF;obtain⟨v,h1,h2⟩:=ax.1 he;obtain rfl:=az.1 h2;exact awd h dF h1
 ·rename_i x dF;exact af9 h dF he
 ·rename_i op T x y U dF;split at he
  ·rename_i i v1 j v2 hx hy;obtain⟨v,h1,h2⟩:=ax.1 he;obtain rfl:=az.1 h2;exact aGE h dF hx hy h1
  ·obtain⟨v,h1,h2⟩:=ax.1 he;obtain rfl:=az.1 h2;exact asN h dF h1
 ·rename_i op T x dF;obtain⟨v,h1,h2⟩:=ax.1 he;obtain rfl:=az.1 h2;exact aDJ h dF h1
 ·rename_i T U x dF;split at he
  ·rename_i id ver len hTU hx;exact att h dF hx he
  ·rename_i id ver hx;obtain⟨v,h1,h2⟩:=ax.1 he;obtain rfl:=az.1 h2;exact atu h dF hx h1
  ·obtain⟨v,h1,h2⟩:=ax.1 he;obtain rfl:=az.1 h2;exact aj9 h dF h1
 ·rename_i T x dF;exact awm h dF he
 ·rename_i f first caps dF
  obtain⟨h1,h2⟩:=aH.1 he;obtain rfl:=az.1 h2;simp only[au]at h1;exact af2 h dF h1.1 h1.2
 ·rename_i T l c dF;obtain⟨n,h1,h2⟩:=ax.1 he;obtain⟨m,h3,h4⟩:=ax.1 h2;exact acr h dF h1 h3 h4
 ·rename_i T x lo hi dF;obtain⟨v,h1,h2⟩:=ax.1 he;obtain rfl:=az.1 h2;exact aes h dF (.inl rfl) h1
 ·rename_i T x lo y m dF;obtain⟨v',h0,h8⟩:=ax.1 he;obtain rfl:=az.1 h8;obtain⟨hv,h1,h2⟩:=ax.1 h0;obtain⟨mv,h3,h4⟩:=ax.1 h2;obtain⟨h5,h6⟩:=b8.1 h4;obtain⟨v,h7,h9⟩:=ax.1 h6;obtain rfl:=az.1 h9;simp only[bf]at h5;exact aes h dF (.inr ⟨m,y,hv,mv,rfl,rfl,h1,h3,h5.1,h5.2.1,h5.2.2⟩) h7
 ·rename_i T x f dF;obtain⟨v,h1,h2⟩:=ax.1 he;obtain rfl:=az.1 h2;exact abA h dF h1
 ·rename_i T x f dF;obtain⟨v,h1,h2⟩:=ax.1 he;obtain rfl:=az.1 h2;exact atL h dF h1
 ·rename_i T x i dF;obtain⟨n,h0,he⟩:=ax.1 he;obtain⟨v,h1,h2⟩:=ax.1 he;obtain rfl:=az.1 h2;exact abU h dF h0 h1
 ·rename_i T x i dF;obtain⟨n,h0,he⟩:=ax.1 he;obtain⟨v,h1,h2⟩:=ax.1 he;obtain rfl:=az.1 h2;exact aub h dF h0 h1
 ·rename_i x i dF;obtain⟨v,h1,h2⟩:=ax.1 he;obtain rfl:=az.1 h2;exact aky h dF h1
 ·rename_i T dF;exact alp h dF he
 ·rename_i T x i ok dF;obtain⟨v,h1,h2⟩:=ax.1 he;obtain rfl:=az.1 h2;exact apK h dF h1
 ·rename_i T m k x dF;obtain⟨s1,h1,h2⟩:=ax.1 he;obtain rfl:=az.1 h2;exact apR h dF h1
 ·rename_i c dF;split at he
  ·rename_i hc;split at he
   ·rename_i m k T T2 ha ht;obtain⟨s1,h1,h2⟩:=ax.1 he;obtain rfl:=az.1 h2;exact apP h dF hc ha ht h1
   ·exact(aw.1 he).elim
  ·rename_i hc;split at he
   ·rename_i x y T X ha ht;exact azY h dF hc ha ht he
   ·exact(aw.1 he).elim
  ·rename_i hc;split at he
   ·rename_i x T ha ht;obtain⟨v,h1,h2⟩:=ax.1 he;obtain rfl:=az.1 h2;exact aHV h dF hc ha ht h1
   ·exact(aw.1 he).elim
  ·rename_i hc;split at he
   ·rename_i x y T X ha ht;split at he
    ·rename_i k n hx hy;exact aAC h dF hc ha ht hx hy he
    ·exact anp h dF hc ha ht he
   ·exact(aw.1 he).elim
  ·rename_i hc;split at he
   ·rename_i x T ha ht;split at he
    ·rename_i e hx hT;obtain rfl:=az.1 he;exact aFl h dF hc ha ht hx hT
    ·exact(aw.1 he).elim
   ·exact(aw.1 he).elim
  ·rename_i hc;obtain⟨v,h1,h2⟩:=ax.1 he;obtain rfl:=az.1 h2;exact apS (mx:=aZ) h dF hc h1
  ·rename_i hc;obtain⟨v,h1,h2⟩:=ax.1 he;obtain rfl:=az.1 h2;exact apS (mx:=aQ) h dF hc h1
  ·rename_i hc;split at he
   ·rename_i x ha;split at he
    ·rename_i id ver len hx;obtain⟨h1,h2⟩:=b8.1 he;obtain rfl:=az.1 h2;exact arw h dF hc ha hx (by simpa using h1)
    ·exact(aw.1 he).elim
   ·exact(aw.1 he).elim
  ·rename_i hc;split at he
   ·rename_i x y T U ha ht;split at he
    ·rename_i id ver n hx hy;exact aDl h dF hc ha ht hx hy he
    ·exact(aw.1 he).elim
   ·exact(aw.1 he).elim
  ·rename_i F hc;split at he
   ·rename_i f caps hF;split at he
    ·rename_i en atY;obtain⟨iA,he⟩:=aH.1 he;exact azD h dF hc hF ((hΓ f _ en atY).1 iA) he
    ·exact(aw.1 he).elim
   ·exact(aw.1 he).elim
  ·exact(aw.1 he).elim
 ·exact(aw.1 he).elim
end
end Go.Ab
namespace Go.Ab
def sB(P:aT)(ops:Array Oper)(o:Oper)(a:Act)(w:cd)(K:Act->cd->Prop):Prop:=if Region.wanted o (yielded ops a.tmps) then gr P o a w K else K (a.put o.dst undef) w
theorem sB.mono{P:aT}{ops:Array Oper}{o:Oper}{a:Act}{w:cd}{K K':Act->cd->Prop}(h:sB P ops o a w K)(hk:∀a w,K a w->K' a w):sB P ops o a w K':=by
 unfold sB at*;split
 ·rename_i hw;rw[if_pos hw]at h;exact h.mono hk
 ·rename_i hw;rw[if_neg hw]at h;exact hk _ _ h
theorem gr.some{P:aT}{o:Oper}{a:Act}{w:cd}{K:Act->cd->Prop}(h:gr P o a w K):∃a' w',K a' w':=by
 rcases h with⟨x,w',_,h⟩ | ⟨w',_,h⟩ | ⟨f,args,w',_,h⟩ | ⟨l,f,tmps,as,b,w',_,h⟩
 ·exact⟨_,_,h⟩
 ·exact⟨_,_,h⟩
 ·obtain⟨e,w'',_,⟨x,_,hx⟩,_⟩:=h [];exact⟨_,_,hx⟩
 ·obtain⟨e,w'',⟨x,_,hx⟩,_⟩:=(h aD 0).2 default [] (room_wide _);exact⟨_,_,hx⟩
theorem sB.some{P:aT}{ops:Array Oper}{o:Oper}{a:Act}{w:cd}{K:Act->cd->Prop}(h:sB P ops o a w K):∃a' w',K a' w':=by
 unfold sB at h;split at h
 ·exact h.some
 ·exact⟨_,_,h⟩
theorem sB.wpListIn{r:Option Nat}{n:Nat}{P:aT}{ops:Array Oper}{o:Oper}{a:Act}{w:cd}{Q:Exit->Act->cd->Prop}{l:List Oper}(h:sB P ops o a w (wpListIn (Fr r) n P ops Q l)):Go.wpListIn (Fr r) n P ops Q (o::l) a w:=by
 unfold sB at h;unfold Go.wpListIn;split
 ·rename_i hw;rw[if_pos hw]at h;exact h.wpIn
 ·rename_i hw;rw[if_neg hw]at h;exact⟨λ_ _=>trivial,h⟩
theorem sB.wpOpIn{r:Option Nat}{n:Nat}{P:aT}{ops:Array Oper}{o:Oper}{i:Nat}{a:Act}{w:cd}{Q:Exit->Act->cd->Prop}{K:Act->cd->Prop}(ho:ops[i]? =Option.some o)(h:sB P ops o a w K):Go.wpOpIn (Fr r) n P ops Q i K a w:=by
 unfold sB at h;unfold Go.wpOpIn;simp only[ho];split
 ·rename_i hw;rw[if_pos hw]at h;exact h.wpIn
 ·rename_i hw;rw[if_neg hw]at h;exact⟨λ_ _=>trivial,h⟩
theorem aI2{s:AS}{q:Nat}{v:aC}(h:s.slot q=v)(hq:q < s.cM.length):s.put (av q) v=s:=by
 have hv:s.cM[q]=v:=by simpa[AS.slot,aJ,hq]using h
 simp only[AS.put];rw[<-hv,iv]
theorem ayu{s:AS}{q:Nat}{t:Ty}{x:t.den}(h:s.slot q= .d t x):q < s.cM.length:=by
 rcases rh q s.cM.length with h' | h'
 ·exact h'
 ·simp[AS.slot,aJ,dY h']at h
def MO(P:aT)(Γ:pO)(bT:List Nat)(ops:Array Oper)(o:Oper)(s:AS):Option AS:=
 match o.guard with
 |none=>(sm P Γ bT o s).eval
 |some (j,want)=>match(ops[j]?).bind (·.dst) with
  |some q=>match s.slot q with
   | .d .bool b=>if b=want then(sm P Γ bT o s).eval else av (s.put o.dst .nil)
   | .nil=>av (s.put o.dst .nil)
   |_=>aD
  |none=>aD
theorem ao2{R:Type}{P:aT}{Γ:pO}{bT:List Nat}{ops:Array Oper}{o:Oper}{s:AS}{k:AS->Option R}{r:R}(h:aM2 P Γ bT ops o s k=av r):∃s',MO P Γ bT ops o s=av s'/\k s'=av r:=by
 unfold aM2 at h;unfold MO;split at h
 ·rename_i hg;simp only[hg];exact jd.1 h
 ·rename_i j want hg;simp only[hg];split at h
  ·rename_i q hq;simp only[hq];split at h
   ·rename_i b hb;have e:=aI2 hb (ayu hb);simp only[hb];cases want <;> cases b <;> simp only[aL]at h <;> rw[e]at h
    ·obtain⟨s',h1,h2⟩:=jd.1 h;exact⟨s',by simpa using h1,h2⟩
    ·exact⟨_,by simp,h⟩
    ·exact⟨_,by simp,h⟩
    ·obtain⟨s',h1,h2⟩:=jd.1 h;exact⟨s',by simpa using h1,h2⟩
   ·rename_i hb;simp only[hb];exact⟨_,rfl,h⟩
   ·cases h
  ·cases h
section
variable {P:aT} {C:Ctx} {g:Nat->np} {β:Id->Option Pl} {s:AS} {a:Act} {w:cd} {o:Oper}
theorem awP(h:Inv C g β s a w){ops:Array Oper}{j q:Nat}{b:Bool}(hq:(ops[j]?).bind (·.dst)=av q)(hb:s.slot q= .d .bool b):yielded ops a.tmps j=av b:=by
 have hv:=h.cM q;rw[hb]at hv;have hv:=Zx hv;have hl:=ayu hb;rw[<-h.size]at hl;unfold yielded;rw[hq,Option.bind_some];have:a.tmps[q]? =av (.bool b):=by rw[fR hl];simpa[Array.getD,hl]using hv
 rw[this]
theorem asf(h:Inv C g β s a w){ops:Array Oper}{j q:Nat}(hq:(ops[j]?).bind (·.dst)=av q)(hb:s.slot q= .nil):yielded ops a.tmps j=aD:=by
 have hv:=h.cM q;rw[hb]at hv;have hv:a.tmps.getD q undef= .tuple #[]:=hv;unfold yielded;rw[hq,Option.bind_some];split
 ·rename_i b hb;rw[cX,hb]at hv;cases hv
 ·rfl
theorem ahX{Γ:pO}(hΓ:Sound P Γ){bT:List Nat}{ops:Array Oper}(h:jf C s a w){s':AS}(he:MO P Γ bT ops o s=av s'):sB P ops o a w (jf C s'):=by
 obtain⟨g,β,h⟩:=h;unfold MO at he;unfold sB;split at he
 ·rename_i hg;have:Region.wanted o (yielded ops a.tmps)=aZ:=by simp[Region.wanted,hg]
  rw[if_pos this];exact anm hΓ h he
 ·rename_i j want hg;split at he
  ·rename_i q hq;split at he
   ·rename_i b hb;have hy:=awP h hq hb;have hw:Region.wanted o (yielded ops a.tmps)=(b==want):=by simp[Region.wanted,hg,hy]
    rw[hw];by_cases e:b=want
    ·rw[if_pos e]at he;rw[if_pos (by simp[e])];exact anm hΓ h he
    ·rw[if_neg e]at he;rw[if_neg (by simp[e])];simp only[aA]at he;subst he;exact⟨g,β,h.put o.dst rfl⟩
   ·rename_i hb;have hy:=asf h hq hb;have hw:Region.wanted o (yielded ops a.tmps)=aQ:=by simp[Region.wanted,hg,hy]
    rw[hw,if_neg (by simp)];simp only[aA]at he;subst he;exact⟨g,β,h.put o.dst rfl⟩
   ·cases he
  ·cases he
theorem aCW{R:Type}{c c':wV}{x:Option R}{r:R}(h:same c c' x=av r):c=c'/\x=av r:=by
 unfold same at h;split at h
 ·exact⟨‹_›,h⟩
 ·cases h
theorem ax3{R:Type}{x y:Option R}{r:R}(h:nd x y=av r):x=av r/\y=av r:=by
 unfold nd at h;split at h
 ·rename_i e;exact⟨h,e▸h⟩
 ·cases h
theorem auG(h:Inv C g β s a w){x y:bU}{n:Nat}(hn:ac0 s x y=av n){T:TypeId}(hT:C3.isSl P T=aZ):∃b,(0 < n->b=aQ)/\(Op.equal T (a.eval x) (a.eval y)).run P w= .ok b w/\
  uf (a.eval x)=aQ/\a.eval x≠ .nilIface/\∀op,binOp op T (a.eval x) (a.eval y)=(match op with | .eql=>do pure (.bool (<-Op.equal T (a.eval x) (a.eval y))) | .neq=>do pure (.bool (!(<-Op.equal T (a.eval x) (a.eval y)))) | _=>binOp op T (a.eval x) (a.eval y)):=by
 have hx:=h.ev x;have hy:=h.ev y;unfold C3.isSl at hT;split at hT <;> try (cases hT;done)
 rename_i e hU;unfold ac0 at hn;split at hn
 ·rename_i t l h1 h2;rw[h1]at hx;rw[h2]at hy;obtain⟨ad,cap,vs,hv,_,hs,_⟩:=vY hx;have Xx:=mu hy;rw[hv,Xx];refine⟨ad.isNone,λhp=> ?_,?_,rfl,by simp,λop=>by cases op <;> rfl⟩
  ·obtain rfl:=bn hn;obtain⟨ad',rfl⟩:=bR.1 (hs hp);rfl
  ·cases ad with
   |none=>exact fT λd=>by simp[eI,run_underlying hU]
   |some ad=>exact fT λd=>by simp[eI,run_underlying hU]
 ·rename_i t l h1 h2;rw[h1]at hx;rw[h2]at hy;obtain⟨ad,cap,vs,hv,_,hs,_⟩:=vY hy;have Xx:=mu hx;rw[hv,Xx];refine⟨ad.isNone,λhp=> ?_,?_,rfl,by simp,λop=>by cases op <;> rfl⟩
  ·obtain rfl:=bn hn;obtain⟨ad',rfl⟩:=bR.1 (hs hp);rfl
  ·exact fT λd=>by simp[eI,run_underlying hU]
 ·rename_i id ver pp c i len h1 h2;rw[h1]at hx;rw[h2]at hy;obtain⟨ad,cap,hv,_,hs,_⟩:=tJ hx;have Xx:=mu hy;rw[hv,Xx];refine⟨ad.isNone,λhp=> ?_,?_,rfl,by simp,λop=>by cases op <;> rfl⟩
  ·obtain rfl:=bn hn;obtain⟨ad',rfl⟩:=bR.1 (hs hp);rfl
  ·cases ad with
   |none=>exact fT λd=>by simp[eI,run_underlying hU]
   |some ad=>exact fT λd=>by simp[eI,run_underlying hU]
 ·rename_i id ver pp c i len h1 h2;rw[h1]at hx;rw[h2]at hy;obtain⟨ad,cap,hv,_,hs,_⟩:=tJ hy;have Xx:=mu hx;rw[hv,Xx];refine⟨ad.isNone,λhp=> ?_,?_,rfl,by simp,λop=>by cases op <;> rfl⟩
  ·obtain rfl:=bn hn;obtain⟨ad',rfl⟩:=bR.1 (hs hp);rfl
  ·exact fT λd=>by simp[eI,run_underlying hU]
 ·cases hn
theorem SO(h:Inv C g β s a w){x y:bU}{n:Nat}{T U:TypeId}(hn:ac0 s x y=av n)(hT:C3.isSl P T=aZ):
  (o.op= .binOp .eql T x y U->∃b,(0 < n->b=aQ)/\gr P o a w (jf C (s.put o.dst (.d .bool b))))/\(o.op= .binOp .neq T x y U->∃b,(0 < n->b=aZ)/\gr P o a w (jf C (s.put o.dst (.d .bool b)))):=by
 obtain⟨b,h1,h2,h3,h4,h5⟩:=auG (w:=w) h hn hT;have hg:∀op,(eqGuard op T x y (a.eval x) (a.eval y)).run P w= .ok () w:=λop=>pk h4 h3
 refine⟨λho=>⟨b,h1,h.value (xC b) ?_⟩,λho=>⟨!b,λhp=>by rw[h1 hp];rfl,h.value (xC (!b)) ?_⟩⟩
 ·have h6:(binOp .eql T (a.eval x) (a.eval y)).run P w= .ok (.bool b) w:=by rw[h5 .eql];simp[h2]
  simp[execOp,ho,hg,h6]
 ·have h6:(binOp .neq T (a.eval x) (a.eval y)).run P w= .ok (.bool (!b)) w:=by rw[h5 .neq];simp[h2]
  simp[execOp,ho,hg,h6]
theorem TC{R:Type}{c:Bool}{x y:Option R}{r:R}(h:aL c x y=av r):(c=aZ/\x=av r)\/(c=aQ/\y=av r):=by
 cases c
 ·exact .inr ⟨rfl,h⟩
 ·exact .inl ⟨rfl,h⟩
theorem aGt{R:Type}{n:Nat}{k:Nat->Option R}{r:R}(h:aGr n k=av r):0 < n/\∀j,j < n->k j=av r:=by
 unfold aGr at h;split at h
 ·rename_i hx;obtain rfl:=bn h;exact hx.choose_spec
 ·cases h
theorem aGs{R:Type}{n:Nat}{k:Nat->Option R}{x:Option R}(hn:0 < n)(h:∀j,j < n->k j=x):aGr n k=x:=by
 unfold aGr;cases x with
 |none=>exact Dp λ⟨r,_,hr⟩=>by have:=h 0 hn;rw[hr 0 hn]at this;cases this
 |some r=>
  have hx:∃r,0 < n/\∀j,j < n->k j=av r:=⟨r,hn,h⟩;rw[Ao hx];have:=hx.choose_spec.2 0 hn;rw[h 0 hn]at this;exact this.symm
theorem ag0{s:AS}{id:Id}{e:dW}{q:Nat}(hq:s.eS q=aZ)(il:s.cq id≠aD):(s.bq id e).eS q=aZ:=by
 cases id with
 |bt k=>exact hq
 |new i j=>
  by_cases hi:i=q
  ·subst hi;exact absurd ((lA hq).1 j) il
  ·unfold AS.eS AS.bq;simp only[eT hi];exact hq
theorem Alike.len{α β:Type}{R:α->β->Prop}:∀ {xs:List α} {ys:List β},Alike R xs ys->xs.length=ys.length
 |[],[],_=>rfl
 |_::_,_::_,⟨_,h⟩=>by simp[h.len]
 |[],_::_,h=>h.elim
 |_::_,[],h=>h.elim
theorem auV{α:Type}:∀ {xs ys:List α} {i j:Nat} {x:α},xs.Perm ys->xs[i]? =av x->ys[j]? =av x->(xs.eraseIdx i).Perm (ys.eraseIdx j):=by
 have key:∀ {xs:List α} {i:Nat} {x:α},xs[i]? =av x->xs.Perm (x::xs.eraseIdx i):=by
  intro xs
  induction xs with
  |nil=>intro i x h;simp at h
  |cons y xs ih=>
   intro i x h;cases i with
   |zero=>simp at h;subst h;exact iX _
   |succ i=>
    have h:xs[i]? =av x:=by simpa using h
    exact((ih h).cons y).trans (List.Perm.swap x y _)
 intro xs ys i j x hp hi hj;exact((key hi).symm.trans (hp.trans (key hj))).cons_inv
theorem avm(h:Inv C g β s a w){T:TypeId}{m:bU}(dF:o.op= .range T m){s':AS}(he:(avl P s o.dst T (s.ev m)).eval=av s'):gr P o a w (jf C s'):=by
 unfold avl at he;split at he
 ·rename_i K V' kt vt id ver q hm hx hd;obtain⟨l,h1,he⟩:=ax.1 he;obtain⟨hq,he⟩:=aH.1 he;obtain rfl:=az.1 he;rw[au]at hq;obtain⟨hT,_,_⟩:=DC hm;have abQ:=h.ev m;rw[hx]at abQ;obtain⟨fr,pl,es,clock,g1,g2,g3,g4,g5,g6,g7,gn⟩:=AO h h1 abQ;obtain rfl:=LL g1 hq.1;have il:s.cq id≠aD:=by rw[g1];simp
  have aWv:=Trans.refl w g;have at1:db (s.env w g β) ((s.bq id (.obj ver aZ (.mp kt vt l))).env w g β):=db.bq g1 (ay _) aWv (λ_ _=>rfl) (λ_=>rfl)
  have i0:Inv C g β (s.bq id (.obj ver aZ (.mp kt vt l))) a w:=
   h.step (dE _ _ _) aWv at1 (jE.bq h.bT il at1 (λ_ _=>rfl) (λ_ _ _ _ _ _ _ _=>⟨rfl,rfl⟩) ⟨pl,es,clock,g2,g4,g5,⟨g6.mono at1.mem,gn⟩,g7⟩ (Sv g1))
  have dh:=fk s id (.obj ver aZ (.mp kt vt l)) il;have hq':=ag0 (e:= .obj ver aZ (.mp kt vt l)) hq.2 il;generalize aZT:s.bq id (.obj ver aZ (.mp kt vt l))=s0 at i0 dh hq' at1;have I8:∀j,id≠ .new q j:=λj e=>by rw[e,(lA hq').1 j]at dh;cases dh
  have iA:pl.b < w.heap.size:=(bX.1 g4).1;have ht:=Trans.alloc w g (.mapIter (av pl.b) clock #[] clock) (.own (.id (.new q 0)) 0);obtain⟨h3,h4⟩:=i0.UQ hq' (c:= .uE id (ver+1) kt vt l aD) (p:=av ⟨w.heap.size,0⟩) ht (λb hb=>⟨sC w _ hb,fZ _ _ _ ak⟩) (λhE=>
   ⟨⟨w.heap.size,0⟩,pl.b,clock,#[],clock,kR _ _ _,vc w _,gm _ _ _,λvr asm=>by
    obtain rfl:ver=vr:=ak;have hb:(s0.env w g β).Ij id ver:=⟨by show s0.cq id≠aD;rw[dh];simp,λv2 fr2 c2 h2=>by
     have h2:s0.cq id=av (.obj v2 fr2 c2):=h2;rw[dh]at h2;simp only[aA,dW.obj.injEq]at h2;omega⟩
    refine⟨hE.Ij _ _ hb,λ_=>⟨⟨kt,vt,l,?_⟩,pl,es,clock,?_,rfl,?_,?_,λx hx=>g7.2 x hx,⟨ay _,ay _⟩,g7.1,?_,λx hx=>by cases hx⟩⟩
    ·show(s0.born q _).cq id=_;rw[jP _ I8];exact dh
    ·show LM β (.new q 0) _ id=_;rw[CL _ _ _ (I8 0)];exact g2
    ·exact(sC w _ iA).trans g4
    ·show oS g w.heap.size _ pl.b=_;rw[fZ _ _ _ ak];exact g5
    ·have:es.toList.filter (λe=> !(#[]:Array Nat).contains e.born)=es.toList:=je.2 λx _=>by simp
     rw[this];exact(g6.mono at1.mem).mono hE.mem⟩)
  refine .inl ⟨.pointer (av ⟨w.heap.size,0,aD⟩),w.alloc (.mapIter (av pl.b) clock #[] clock),?_,_,_,h3.put o.dst (v:= .ptr (.new q 0) 0 [] 0) ⟨[.pointer (av ⟨w.heap.size,0,aD⟩)],?_,rfl⟩⟩
  ·refine eK (f:=Instr.range T (a.eval m)) (by simp only[execOp,dF]) ?_
   rw[g3];exact run_range_map w T K V' pl.b es clock hT g4
  ·simp only[V];exact⟨_,rfl,ru hq' _ _ _ _,λ_=>⟨_,kR _ _ _,rfl⟩⟩
 ·simp only[aw]at he
theorem ab4(h:Inv C g β s a w){x:bU}{t:ayS}(ht:s.aHH (s.ev x)=av t):
  s.cq t.i=av (.obj t.v t.fr (.uE t.q (t.vr+1) t.kt t.vt t.rest t.cur))/\(∃k v l,s.cq t.q=av (.obj t.vr aZ (.mp k v l)))/\
  ∃pl plq since seen c0 es clock,a.eval x= .pointer (av ⟨pl.b,0,aD⟩)/\β t.i=av pl/\w.heap[pl.b]? =av (.mapIter (av plq.b) since seen c0)/\g pl.b= .own (.id t.i) 0/\
   β t.q=av plq/\w.heap[plq.b]? =av (.map es clock)/\g plq.b= .own (.id t.q) 0/\(∀x∈es.toList,x.born < since)/\(since<=c0/\since<=clock)/\(es.toList.map (·.born)).Nodup/\
   ajr (s.env w g β) t.kt t.vt (es.toList.filter λe=> !seen.contains e.born) t.rest/\
   ∀x,t.cur=av x->∃(e:gB) (seen':Array Nat),e∈es.toList/\seen=seen'.push e.born/\c0=clock/\Gj (s.env w g β) t.kt t.vt e x:=by
 have abQ:=h.ev x;generalize s.ev x=y at ht abQ;unfold AS.aHH at ht;split at ht
 ·rename_i i ver;split at ht
  ·rename_i v fr q vr kt vt rest cur mX;split at ht
   ·rename_i hv hl;obtain rfl:=bn ht;have hv:v=ver:=by simpa using hv
    subst hv;have dh:=eU mX;unfold AS.apD at hl;split at hl
    ·rename_i v2 k2 t2 l2 aWi;have hl:v2=vr:=by simpa using hl
     subst hl;have hq:=eU aWi;refine⟨dh,⟨_,_,_,hq⟩,?_⟩;obtain⟨pl,mb,since,seen,c0,h1,h2,h3,h4⟩:=h.bT i v fr _ dh;obtain⟨h5,h6⟩:=h4 v2 rfl;obtain⟨_,plq,es,clock,k1,k2,k3,k4,k5,k6,k7,k8,k9⟩:=h6 ⟨_,_,hq⟩;subst k2;obtain⟨ad,m1,m2,m3⟩:=xk abQ;obtain⟨pl',m4,rfl⟩:=m3 ⟨_,_,dh⟩;have h1:β i=av pl:=h1;have m4:β i=av pl':=m4;rw[h1]at m4;obtain rfl:pl=pl':=by simpa using m4
     exact⟨pl,plq,since,seen,c0,es,clock,m1,h1,h2,h3,k1,k3,k4,k5,k6,k7,k8,k9⟩
    ·cases hl
   ·cases ht
  ·cases ht
 ·cases ht
theorem Gj.aZE{E:Env}{kt vt:Ty}{e:gB}{x:kt.den×vt.den}(h:Gj E kt vt e x):VS E (.cons (.d kt x.1) (.cons (.d vt x.2) .nil)) (.tuple #[e.key,e.val]):=by obtain⟨⟨c1,a1,b1⟩,c2,a2,b2⟩:=h;refine⟨[e.key,e.val],rfl,?_⟩;simp only[VC];exact⟨_,_,c1,rfl,by simpa only[V]using a1,b1,_,_,c2,rfl,by simpa only[V]using a2,b2,rfl⟩
theorem Gj.aZF{E:Env}{kt vt:Ty}{e:gB}{x:kt.den×vt.den}(h:Gj E kt vt e x):VS E (.cons (.d .bool aZ) (.cons (.d kt x.1) (.cons (.d vt x.2) .nil))) (.tuple #[.bool aZ,e.key,e.val]):=by obtain⟨⟨c1,a1,b1⟩,c2,a2,b2⟩:=h;refine⟨[.bool aZ,e.key,e.val],rfl,?_⟩;simp only[VC];exact⟨_,_,[.bool aZ],rfl,by simp only[V,dA],rfl,_,_,c1,rfl,by simpa only[V]using a1,b1,_,_,c2,rfl,by simpa only[V]using a2,b2,rfl⟩
theorem atI(h:Inv C g β s a w){x:bU}(dF:o.op= .entry x){v:aC}(he:(atH s (s.ev x)).eval=av v):gr P o a w (jf C (s.put o.dst v)):=by
 unfold atH at he;split at he
 ·rename_i i v0 fr q vr kt vt rest c ht;obtain rfl:=az.1 he;obtain⟨_,_,pl,plq,since,seen,c0,es,clock,m1,m2,m3,_,m5,m6,m7,_,_,m10,_,m12⟩:=ab4 h ht;obtain⟨e,seen',n1,rfl,rfl,n4⟩:=m12 c rfl;refine h.value n4.aZE (eK (f:=Instr.entry (a.eval x)) (by simp only[execOp,dF]) ?_);rw[m1];exact run_entry_at w pl.b plq.b since seen' es _ e m3 m6 n1 m10
 ·simp only[aw]at he
theorem heap_drew{w w1:cd}(hw:w1=w\/w1=w.drew):w1.heap=w.heap/\w1.os=w.os/\w1.tape=w.tape/\(w1.output=w.output/\w.drawn<=w1.drawn):=by
 rcases hw with rfl | rfl
 ·exact⟨rfl,rfl,rfl,rfl,ay _⟩
 ·exact⟨rfl,rfl,rfl,rfl,pQ _⟩
theorem Inv.aUy(h:Inv C g β s a w){i q:Id}{v vr:Nat}{fr:Bool}{kt vt:Ty}{rest:List (kt.den×vt.den)}{cur:Option (kt.den×vt.den)}(dh:s.cq i=av (.obj v fr (.uE q (vr+1) kt vt rest cur)))
  {k2 v2:Ty} {l2:List (k2.den×v2.den)} (hq:s.cq q=av (.obj vr aZ (.mp k2 v2 l2))) {pl plq:Pl} {m0:Option Nat} {since0 c00:Nat} {seen0:Array Nat} (hp:β i=av pl) (hb:w.heap[pl.b]? =av (.mapIter m0 since0 seen0 c00)) (hg:g pl.b= .own (.id i) 0)
  {w1:cd} (hw:w1=w\/w1=w.drew) {es:Array gB} {clock since c0:Nat} {seen:Array Nat} (aY8:β q=av plq) (aQ1:w.heap[plq.b]? =av (.map es clock)) (aYN:g plq.b= .own (.id q) 0)
  (h1:∀x∈es.toList,x.born < since) (h2:since<=c0/\since<=clock) (h3:(es.toList.map (·.born)).Nodup) {rest':List (kt.den×vt.den)} {cur':Option (kt.den×vt.den)} (h4:ajr (s.env w g β) kt vt (es.toList.filter λe=> !seen.contains e.born) rest')
  (h5:∀x,cur'=av x->∃(e:gB) (seen':Array Nat),e∈es.toList/\seen=seen'.push e.born/\c0=clock/\Gj (s.env w g β) kt vt e x):
  Inv C g β (s.bq i (.obj v fr (.uE q (vr+1) kt vt rest' cur'))) a (Go.ChangeMaps.setBlock w1 pl.b (.mapIter (av plq.b) since seen c0))/\
   va (s.env w g β) ((s.bq i (.obj v fr (.uE q (vr+1) kt vt rest' cur'))).env (Go.ChangeMaps.setBlock w1 pl.b (.mapIter (av plq.b) since seen c0)) g β):=by
 obtain⟨d1,d2,d3,d4⟩:=heap_drew hw;have iA:pl.b < w.heap.size:=(bX.1 hb).1;have axG:(Go.ChangeMaps.setBlock w1 pl.b (.mapIter (av plq.b) since seen c0)).heap=w.heap.setIfInBounds pl.b (.mapIter (av plq.b) since seen c0):=by show w1.heap.setIfInBounds _ _=_;rw[d1]
 have aPJ:(Go.ChangeMaps.setBlock w1 pl.b (.mapIter (av plq.b) since seen c0)).os=w.os/\(Go.ChangeMaps.setBlock w1 pl.b (.mapIter (av plq.b) since seen c0)).tape=w.tape/\((Go.ChangeMaps.setBlock w1 pl.b (.mapIter (av plq.b) since seen c0)).output=w.output/\w.drawn<=(Go.ChangeMaps.setBlock w1 pl.b (.mapIter (av plq.b) since seen c0)).drawn):=⟨d2,d3,d4⟩;generalize Go.ChangeMaps.setBlock w1 pl.b (.mapIter (av plq.b) since seen c0)=w' at axG aPJ;have hother:∀b',b'≠pl.b->w'.heap[b']? =w.heap[b']? :=λb' il=>by rw[axG,eF,if_neg (λe=>il e.symm)]
 have mm:w'.heap[pl.b]? =av (.mapIter (av plq.b) since seen c0):=by rw[axG,eF,if_pos rfl,if_pos iA]
 have ht:Trans w w' g g:=by
  refine⟨aPJ.1,aPJ.2.1,aPJ.2.2,by rw[axG];simp,λb' _=> ?_⟩;by_cases he:b'=pl.b
  ·subst he;rw[hg];exact⟨.inr ⟨i,0,rfl,ay _⟩,λ_ _ hh=>ak⟩
  ·rw[hother b' he];cases YT:g b' with
   |free=>exact⟨rfl,rfl⟩
   |own o' k=>cases o' with
    |eY=>exact⟨rfl,rfl⟩
    |id i'=>exact⟨.inr ⟨i',k,rfl,ay _⟩,λoff v _ hv=>by simpa only[fq,hother b' he]using hv⟩
 have hle:db (s.env w g β) ((s.bq i (.obj v fr (.uE q (vr+1) kt vt rest' cur'))).env w' g β):=db.bq dh (ay _) ht (λ_ _=>rfl) (λ_=>rfl);have aT6:q≠i:=λe=>by rw[e,dh]at hq;cases hq
 have aY7:plq.b≠pl.b:=λe=>by rw[e,hb]at aQ1;cases aQ1
 refine⟨h.step (dE _ _ _) ht hle (jE.bq h.bT (by rw[dh];simp) hle (λ_ _=>rfl) (λi' ver' fr' c' pl2 hi abO ZI=>⟨hother _ (h.apart hg hi abO ZI),rfl⟩) ?_ (rC dh λ_ _ _ e=>by cases e)),hle.mem⟩;refine⟨pl,plq.b,since,seen,c0,hp,mm,hg,λvr' asm=> ?_⟩;obtain rfl:vr=vr':=ak;have ao7:(s.env w g β).Ij q vr:=⟨by show s.cq q≠aD;rw[hq];simp,λv3 fr3 c3 h3=>by
  have h3:s.cq q=av (.obj v3 fr3 c3):=h3;rw[hq]at h3;simp only[aA,dW.obj.injEq]at h3;omega⟩
 refine⟨hle.Ij _ _ ao7,λ_=>⟨⟨k2,v2,l2,?_⟩,plq,es,clock,aY8,rfl,(hother _ aY7).trans aQ1,aYN,h1,h2,h3,h4.mono hle.mem,λx hx=> ?_⟩⟩
 ·show(s.bq i _).cq q=_;rw[dq s i q _ aT6];exact hq
 ·obtain⟨e,se,a1,a2,a3,a4⟩:=h5 x hx;exact⟨e,se,a1,a2,a3,a4.mono hle.mem⟩
theorem Inv.aPO(h:Inv C g β s a w){i q:Id}{v ver ver':Nat}{fr:Bool}{kt vt:Ty}{rest rest':List (kt.den×vt.den)}{cur cur':Option (kt.den×vt.den)}(dh:s.cq i=av (.obj v fr (.uE q ver kt vt rest cur)))
  (hk:ver'=0\/(ver'=ver/\rest'=rest/\cur'=aD)):Inv C g β (s.bq i (.obj v fr (.uE q ver' kt vt rest' cur'))) a w:=by
 have ht:=Trans.refl w g;have hle:db (s.env w g β) ((s.bq i (.obj v fr (.uE q ver' kt vt rest' cur'))).env w g β):=db.bq dh (ay _) ht (λ_ _=>rfl) (λ_=>rfl);refine h.step (dE _ _ _) ht hle (jE.bq h.bT (by rw[dh];simp) hle (λ_ _=>rfl) (λ_ _ _ _ _ _ _ _=>⟨rfl,rfl⟩) ?_ (rC dh λ_ _ _ e=>by cases e));obtain⟨pl,mb,since,seen,c0,h1,h2,h3,h4⟩:=h.bT i v fr _ dh;refine⟨pl,mb,since,seen,c0,h1,h2,h3,λvr asm=> ?_⟩;rcases hk with hk | ⟨rfl,rfl,rfl⟩
 ·omega
 ·obtain⟨h5,h6⟩:=h4 vr asm;refine⟨hle.Ij _ _ h5,λhc=> ?_⟩;obtain⟨c1,_⟩:=hle.cur _ _ h5 hc;obtain⟨⟨k,v1,l,hq⟩,plq,es,clock,k1,k2,k3,k4,k5,k6,k7,k8,_⟩:=h6 c1;have aT6:q≠i:=λe=>by have hq:s.cq q=_:=hq;rw[e,dh]at hq;cases hq
  exact⟨⟨k,v1,l,by show(s.bq i _).cq q=_;rw[dq s i q _ aT6];exact hq⟩,plq,es,clock,k1,k2,k3,k4,k5,k6,k7,k8.mono hle.mem,λx hx=>by cases hx⟩
theorem avn{s:AS}{q i:Id}{e:dW}(h:s.adP q=aQ)(hi:s.cq i=av e):e.aHI q=aQ:=by
 unfold AS.adP at h;rw[Bool.or_eq_false_iff]at h;cases i with
 |bt k=>simpa using jW.1 h.1 _ (cZ hi)
 |new a b=>
  have hi:(s.news.getD a [])[b]? =av e:=hi
  by_cases ha:a < s.news.length
  ·have h2:(s.news.getD a []).any (dW.aHI q)=aQ:=by simpa using jW.1 h.2 (s.news.getD a []) (by simp[aJ,cj ha])
   simpa using jW.1 h2 _ (cZ hi)
  ·simp[aJ,dY (Nat.le_of_not_lt ha)]at hi
theorem Inv.unlock(h:Inv C g β s a w){q:Id}{vr:Nat}{k v:Ty}{l:List (k.den×v.den)}(dh:s.cq q=av (.obj vr aZ (.mp k v l)))(hr:s.adP q=aQ):Inv C g β (s.bq q (.obj vr aQ (.mp k v l))) a w:=by
 have ht:=Trans.refl w g;have hle:db (s.env w g β) ((s.bq q (.obj vr aQ (.mp k v l))).env w g β):=db.bq dh (ay _) ht (λ_ _=>rfl) (λ_=>rfl);refine h.step (dE _ _ _) ht hle λi ver fr c hi=> ?_
 have hi:(s.bq q (.obj vr aQ (.mp k v l))).cq i=av (.obj ver fr c):=hi;by_cases aXO:i=q
 ·subst aXO;rw[fk s i _ (by rw[dh];simp)]at hi;simp only[aA,dW.obj.injEq]at hi;obtain⟨rfl,rfl,rfl⟩:=hi;obtain⟨pl,es,clock,h1,h2,h3,h4,h5⟩:=h.bT i vr aZ _ dh;exact⟨pl,es,clock,h1,h2,h3,⟨h4.1.mono hle.mem,h4.2⟩,h5⟩
 ·rw[dq s q i _ aXO]at hi;refine(h.bT i ver fr c hi).aPW hle rfl (λ_ _=>⟨rfl,rfl⟩) λq2 v2 k2 v3 l2 hc Vi _=>⟨⟨k2,v3,l2,?_⟩,λ_ _=>⟨rfl,rfl⟩⟩
  obtain⟨kt,vt,rest,cu,rfl⟩:=hc;have hn:=avn hr hi;have il:q2≠q:=λe=>by simp[dW.aHI,e]at hn
  show(s.bq q _).cq q2=_;rw[dq s q q2 _ il];exact Vi
theorem aul{es:List gB}{seen:Array Nat}(hn:(es.map (·.born)).Nodup){j:Nat}{e:gB}(hj:(es.filter λe=> !seen.contains e.born)[j]? =av e):
  es.filter (λx=> !(seen.push e.born).contains x.born)=(es.filter λe=> !seen.contains e.born).eraseIdx j:=by
 have h1:es.filter (λx=> !(seen.push e.born).contains x.born)=(es.filter λe=> !seen.contains e.born).filter λx=>x.born !=e.born:=by
  rw[List.filter_filter];refine List.filter_congr λx _=> ?_
  rw[contains_push];cases seen.contains x.born <;> cases hb:x.born==e.born <;> simp[bne,hb]
 rw[h1];have aEb:((es.filter λe=> !seen.contains e.born).map (·.born)).Nodup:=hn.sublist (List.filter_sublist.map _);generalize es.filter (λe=> !seen.contains e.born)=L at hj aEb
 induction L generalizing j with
 |nil=>simp at hj
 |cons x L ih=>
  rw[bY,dm]at aEb;cases j with
  |zero=>
   simp only[gF,aA]at hj;subst hj;have:L.filter (λy=>y.born !=x.born)=L:=je.2 λy hy=>by
    have:y.born≠x.born:=λe=>aEb.1 (e▸df.2 ⟨y,hy,rfl⟩)
    simpa using this
   simp[this]
  |succ j=>
   have hj:L[j]? =av e:=by simpa using hj
   have hx:(x.born !=e.born)=aZ:=by
    have:x.born≠e.born:=λh=>aEb.1 (h▸df.2 ⟨e,cZ hj,rfl⟩)
    simpa using this
   rw[List.filter_cons,hx,List.eraseIdx_cons_succ];simp only[bM];rw[ih hj aEb.2]
theorem aBx(h:Inv C g β s a w){x:bU}(dF:o.op= .next x aQ){t:ayS}(ht:s.aHH (s.ev x)=av t){R:Type}{k:AS->Option R}{r:R}(he:aIt s o.dst t k=av r):
  gr P o a w λa' w'=>∃s',jf C s' a' w'/\k s'=av r:=by
 obtain⟨hi,⟨k2,v2,l2,hq⟩,pl,plq,since,seen,c0,es,clock,m1,m2,m3,m4,m5,m6,m7,m8,m9,m10,m11,_⟩:=ab4 h ht;have hex:∀ {y:Value} {w':cd},(Instr.next (a.eval x) aQ o.type).run P w= .ok y w'->(execOp a.eval o).run P w= .ok (.value y) w':=λhr=>
  eK (f:=Instr.next (a.eval x) aQ o.type) (by simp only[execOp,dF]) hr
 have ZH:(leftOf es seen).toList=es.toList.filter λe=> !seen.contains e.born:=by unfold leftOf;rw[Array.toList_filter]
 obtain⟨l',m11,apa⟩:=m11;have hlen:=m11.len;rw[apa.length_eq]at hlen;rw[<-ZH,c9]at hlen;unfold aIt at he;rcases run_next_at (P:=P) w o.type pl.b plq.b since c0 seen es clock m3 m6 m8 m9.1 with⟨h0,im⟩ | ⟨e,aSL,w1,hw,im⟩
 ·rcases TC he with⟨hc,_⟩ | ⟨_,he⟩
  ·have:0 < t.rest.length:=by simpa using hc
   omega
  ·unfold AS.aN8 at he;have i1:=h.aPO (rest':=[]) (cur':=aD) hi (.inl rfl);have aT6:t.q≠t.i:=λe=>by rw[e,hi]at hq;simp at hq
   have aSP:(s.bq t.i (.obj t.v t.fr (.uE t.q 0 t.kt t.vt [] aD))).cq t.q=av (.obj t.vr aZ (.mp k2 v2 l2)):=by rw[dq s t.i t.q _ aT6];exact hq
   generalize s.bq t.i (.obj t.v t.fr (.uE t.q 0 t.kt t.vt [] aD))=s1 at he i1 aSP;cases hr:s1.adP t.q with
   |true=>rw[hr]at he;cases he
   |false=>
    rw[hr]at he;simp only at he;have aZh:s1.unlock t.q=s1.bq t.q (.obj t.vr aQ (.mp k2 v2 l2)):=by simp only[AS.unlock,AS.obj,aSP]
    rw[aZh]at he;rw[<-m1]at im;refine .inl ⟨_,w,hex im,_,⟨g,β,(i1.unlock aSP hr).put o.dst (v:= .cons (.d .bool aQ) .nil) ⟨[.bool aQ],rfl,?_⟩⟩,he⟩;simp only[VC];exact⟨_,_,[.bool aQ],rfl,by simp only[V,dA],rfl,rfl⟩
 ·rcases TC he with⟨hc,he⟩ | ⟨hc,_⟩
  ·obtain⟨_,hd⟩:=aGt he;rw[ZH]at aSL;obtain⟨i,aM7⟩:=List.getElem?_of_mem aSL;obtain⟨y,aUh,aST⟩:=m11.get aM7;obtain⟨j,hj⟩:=List.getElem?_of_mem (apa.mem_iff.1 (cZ aUh));have aRc:j < t.rest.length:=(dX.1 hj).1;have hy:AR t.kt t.vt t.rest j=y:=by simp[AR,aJ,hj]
   have Eu:e∈es.toList:=(oW.1 aSL).1;have i1:=h.aUy (rest':=t.rest.eraseIdx j) (cur':=av (AR t.kt t.vt t.rest j)) (since:=since) (c0:=clock) (seen:=seen.push e.born) hi hq m2 m3 m4 hw m5 m6 m7 m8 ⟨m9.2,m9.2⟩ m10 ?_ ?_
   rotate_left
   ·rw[aul m10 aM7];exact⟨_,m11.erase i,auV apa aUh hj⟩
   ·intro z hz;obtain rfl:=bn hz;exact⟨e,seen,Eu,rfl,rfl,by rw[hy];exact aST⟩
   rw[<-m1]at im;have hVS:=(hy▸aST:Gj (s.env w g β) t.kt t.vt e (AR t.kt t.vt t.rest j));refine .inl ⟨_,_,hex im,_,⟨g,β,i1.1.put o.dst (v:= .cons (.d .bool aZ) (.cons (.d t.kt (AR t.kt t.vt t.rest j).1) (.cons (.d t.vt (AR t.kt t.vt t.rest j).2) .nil))) ?_⟩,hd j aRc⟩;exact Gj.aZF (hVS.mono i1.2)
  ·have hc:¬0 < t.rest.length:=by simpa using hc
   have:0 < (leftOf es seen).toList.length:=List.length_pos_of_mem aSL;rw[c9]at this;omega
theorem aAB{Γ:pO}(hΓ:Sound P Γ){bT:List Nat}{ops:Array Oper}{R:Type}{k:AS->Option R}{r:R}(h:jf C s a w)(he:aM3 P Γ bT ops o s k=av r):
  sB P ops o a w λa' w'=>∃s',jf C s' a' w'/\k s'=av r:=by
 have plain:aM2 P Γ bT ops o s k=av r->sB P ops o a w λa' w'=>∃s',jf C s' a' w'/\k s'=av r:=λhe=>by obtain⟨s1,h1,h2⟩:=ao2 he;exact(ahX hΓ h h1).mono λa' w' hs=>⟨s1,hs,h2⟩
 have stepK:∀(hg:o.guard=aD),(gr P o a w λa' w'=>∃s',jf C s' a' w'/\k s'=av r)->sB P ops o a w λa' w'=>∃s',jf C s' a' w'/\k s'=av r:=λhg hr=>by
  unfold sB;have:Region.wanted o (yielded ops a.tmps)=aZ:=by simp[Region.wanted,hg]
  rw[if_pos this];exact hr
 have step:∀(hg:o.guard=aD) (b:Bool),gr P o a w (jf C (s.put o.dst (.d .bool b)))->k (s.put o.dst (.d .bool b))=av r->sB P ops o a w λa' w'=>∃s',jf C s' a' w'/\k s'=av r:=λhg b hr hk=>by
  unfold sB;have:Region.wanted o (yielded ops a.tmps)=aZ:=by simp[Region.wanted,hg]
  rw[if_pos this];exact hr.mono λa' w' hs=>⟨_,hs,hk⟩
 unfold aM3 at he;split at he
 ·rename_i T x y U hg ho;split at he
  ·rename_i n hn hT;obtain⟨g,β,hi⟩:=h;obtain⟨b,hb,hr⟩:=(SO (o:=o) (U:=U) hi hn hT).1 ho;refine step hg b hr ?_
   rcases TC he with⟨hc,hk⟩ | ⟨_,hk⟩
   ·rw[hb (by simpa using hc)];exact hk
   ·obtain⟨k1,k2⟩:=ax3 hk;cases b
    ·exact k2
    ·exact k1
  ·exact plain he
 ·rename_i T x y U hg ho;split at he
  ·rename_i n hn hT;obtain⟨g,β,hi⟩:=h;obtain⟨b,hb,hr⟩:=(SO (o:=o) (U:=U) hi hn hT).2 ho;refine step hg b hr ?_
   rcases TC he with⟨hc,hk⟩ | ⟨_,hk⟩
   ·rw[hb (by simpa using hc)];exact hk
   ·obtain⟨k1,k2⟩:=ax3 hk;cases b
    ·exact k2
    ·exact k1
  ·exact plain he
 ·rename_i T m hg ho;obtain⟨s1,h1,h2⟩:=jd.1 he;obtain⟨g,β,hi⟩:=h;exact stepK hg ((avm hi ho h1).mono λ_ _ hs=>⟨_,hs,h2⟩)
 ·rename_i x hg ho;obtain⟨s1,h1,h2⟩:=jd.1 he;obtain⟨v,h3,h4⟩:=ax.1 h1;obtain rfl:=az.1 h4;obtain⟨g,β,hi⟩:=h;exact stepK hg ((atI hi ho h3).mono λ_ _ hs=>⟨_,hs,h2⟩)
 ·rename_i x hg ho;split at he
  ·rename_i t ht;obtain⟨g,β,hi⟩:=h;exact stepK hg (aBx hi ho ht he)
  ·cases he
 ·rename_i c hg ho;split at he
  ·rename_i F hc;split at he
   ·rename_i id ver rc f hF;split at he
    ·rename_i en atY;obtain⟨aVa,he⟩:=aCW he;obtain⟨s1,h1,h2⟩:=jd.1 he;obtain⟨g,β,hi⟩:=h;exact stepK hg ((awO hi ho hc hF aVa (hΓ _ _ en atY) h1).mono λ_ _ hs=>⟨_,hs,h2⟩)
    ·cases he
   ·split at he
    ·rename_i en vs hr;unfold aP4 at hr;split at hr;rotate_left
     ·cases hr
     rename_i f caps hF;split at hr;rotate_left
     ·cases hr
     rename_i en' atY;split at hr;rotate_left
     ·cases hr
     rename_i aG8;rw[au]at aG8;simp only[aA,cT]at hr;obtain⟨rfl,rfl⟩:=hr;obtain⟨g,β,hi⟩:=h;exact stepK hg (as8 hi ho hc hF ((hΓ _ _ _ atY).2.2 aG8.2) he)
    ·exact plain he
  ·exact plain he
 ·exact plain he
theorem Xr{rd:Option Nat}{n:Nat}{Γ:pO}(hΓ:Sound P Γ){bT:List Nat}{ops:Array Oper}{R:Type}{Q:Exit->Act->cd->Prop}:∀(l:List Oper) {s:AS} {a:Act} {w:cd} {k:AS->Option R} {r:R},jf C s a w->aM4 P Γ bT ops l s k=av r->
  (∀s' a' w',jf C s' a' w'->k s'=av r->Q .normal a' w')->wpListIn (Fr rd) n P ops Q l a w
 |[],s,a,w,k,r,h,he,hk=>hk s a w h he
 |o::l,s,a,w,k,r,h,he,hk=>by have he:aM3 P Γ bT ops o s (λs'=>s'.seen λs'=>aM4 P Γ bT ops l s' k)=av r:=he;simp only[AS.TB]at he;exact((aAB hΓ h he).mono λa' w' ⟨s',hs,h2⟩=>Xr hΓ l hs h2 hk).wpListIn
end
end Go.Ab
namespace Go.Ab
theorem AS.aGH{s t:AS}(h1:s.cM=t.cM)(h2:s.news.length=t.news.length)(h3:∀id,s.cq id=t.cq id):s=t:=by
 obtain⟨a,b,c⟩:=s;obtain⟨a',b',c'⟩:=t;simp only at h1 h2;subst h1;have hb:b=b':=lY λk=>h3 (.bt k)
 subst hb;have hc:c=c':=by apply List.ext_getElem h2;intro i h h';apply lY;intro j;have:=h3 (.new i j);simpa[AS.cq,aJ,h,h']using this
 rw[hc]
def dW.am6:dW->dW->Prop
 | .obj v _ c,.obj v' _ c'=>v=v'/\c=c'
 | .dead,.dead=>True
 |_,_=>False
def Ba:Option dW->Option dW->Prop
 |some a,av b=>a.am6 b
 |none,aD=>True
 |_,_=>False
def dW.axA:dW->dW
 | .obj v _ c=> .obj v aZ c
 | .dead=> .dead
theorem dW.aKa(a:dW):a.am6 a:=by cases a <;> simp[dW.am6]
theorem aCZ(a:Option dW):Ba a a:=by cases a <;> simp[Ba,dW.aKa]
theorem aCY(a:Option dW):Ba (a.map dW.axA) a:=by
 cases a with
 |none=>trivial
 |some x=>cases x <;> simp[Ba,dW.am6,dW.axA]
theorem dW.aM0(a:dW):a.axA.axA=a.axA:=by cases a <;> rfl
structure nR(f:Jh)(s t:AS):Prop where
 cM:∀i∈f.cM,t.slot i=s.slot i
 ws:∀id∈f.ws,t.cq id=s.cq id
 rs:∀id∈f.rs,Ba (t.cq id) (s.cq id)
 eS:∀q,f.dst=av q->t.eS q=s.eS q
structure aSw where
 v:aC
 up:Id->Option dW
 fz:List Id
structure App(d:Option Tmp)(E:aSw)(s s':AS):Prop where
 cM:s'.cM=(s.put d E.v).cM
 len:s'.news.length=s.news.length
 cq:∀id,s'.cq id=match E.up id with | some e=>av e | none=>if id∈E.fz then(s.cq id).map dW.axA else s.cq id
theorem App.aQG{d:Option Tmp}{E:aSw}{s s1 s2:AS}(h1:App d E s s1)(h2:App d E s s2):s1=s2:=
 AS.aGH (by rw[h1.cM,h2.cM]) (by rw[h1.len,h2.len]) λid=>by rw[h1.cq,h2.cq]
structure ajw(f:Jh)(s:AS)(E:aSw):Prop where
 up:∀id e,E.up id=av e->(id∈f.ws/\s.cq id≠aD)\/∃q j,f.dst=av q/\id= .new q j
 fz:∀id∈E.fz,id∈f.rs
theorem PT(s:AS)(id:Id)(e:dW):(s.bq id e).news.length=s.news.length:=by cases id <;> simp[AS.bq]
theorem afT(s:AS)(id i:Id):(s.freeze id).cq i=if i=id then(s.cq i).map dW.axA else s.cq i:=by
 unfold AS.freeze;cases hs:s.cq id with
 |none=>
  by_cases hi:i=id
  ·subst hi;simp[hs]
  ·simp[hi]
 |some e=>
  cases e with
  |dead=>
   by_cases hi:i=id
   ·subst hi;simp[hs,dW.axA]
   ·simp[hi]
  |obj v fr c=>
   simp only;by_cases hi:i=id
   ·subst hi;rw[fk s i _ (by rw[hs];simp)];simp[hs,dW.axA]
   ·rw[dq s id i _ hi];simp[hi]
theorem gl(i:Id):∀(ids:List Id) (s:AS),(s.bG ids).cq i=if i∈ids then(s.cq i).map dW.axA else s.cq i
 |[],s=>by simp[AS.bG]
 |id::ids,s=>by
  rw[AS.bG,gl i ids,afT];by_cases h1:i=id
  ·subst h1;by_cases h2:i∈ids
   ·simp[h2,Option.map_map,Function.comp_def,dW.aM0]
   ·simp[h2]
  ·simp[h1]
theorem aum(s:AS)(id:Id):(s.freeze id).news.length=s.news.length:=by
 unfold AS.freeze;split
 ·exact PT _ _ _
 ·rfl
theorem sG:∀(ids:List Id) (s:AS),(s.bG ids).news.length=s.news.length
 |[],_=>rfl
 |id::ids,s=>by rw[AS.bG,sG ids,aum]
theorem CM{s:AS}{q:Nat}:s.eS q=aZ↔q < s.news.length/\∀j,s.cq (.new q j)=aD:=by
 refine⟨λh=>⟨(lA h).2,(lA h).1⟩,λ⟨h1,h2⟩=> ?_⟩;unfold AS.eS;rw[cj h1];have h0:=h2 0;simp only[AS.cq,aJ,cj h1,eo]at h0;cases hh:s.news[q]with
 |nil=>rfl
 |cons x xs=>rw[hh]at h0;simp at h0
theorem App.Vf(d:Option Tmp)(v:aC)(ids:List Id)(s:AS):App d ⟨v,λ_=>aD,ids⟩ s ((s.bG ids).put d v):=by
 refine⟨?_,?_,λid=> ?_⟩
 ·cases d <;> simp[AS.put,pd]
 ·cases d <;> simp[AS.put,sG]
 ·rw[Ma,gl]
theorem App.Mn(d:Option Tmp)(v:aC)(s:AS):App d ⟨v,λ_=>aD,[]⟩ s (s.put d v):=App.Vf d v [] s
def UR(q:Nat)(es:List dW):Id->Option dW
 | .new i j=>if i=q then es[j]? else aD
 | .bt _=>aD
theorem aGB(s:AS){q:Nat}(hq:q < s.news.length)(es:List dW)(id:Id):(s.born q es).cq id=match id with | .new i j=>if i=q then es[j]? else s.cq (.new i j) | .bt k=>s.cq (.bt k):=by
 cases id with
 |bt k=>rfl
 |new i j=>
  simp only;by_cases h:i=q
  ·subst h;rw[if_pos rfl];exact Au hq _ j
  ·rw[if_neg h];exact jP _ λj' e=>by simp only[Id.new.injEq]at e;exact h e.1
theorem App.axa{s:AS}{q:Nat}(hv:s.eS q=aZ)(v:aC)(ids:List Id)(es:List dW):App (av q) ⟨v,UR q es,ids⟩ s (((s.bG ids).born q es).put (av q) v):=by
 obtain⟨h1,h2⟩:=CM.1 hv;refine⟨?_,?_,λid=> ?_⟩
 ·simp[AS.put,pd]
 ·simp[AS.put,AS.born,sG]
 ·rw[Ma,aGB _ (by rw[sG];exact h1)];cases id with
  |bt k=>simp only[UR];exact gl _ _ _
  |new i j=>
   simp only[UR];by_cases h:i=q
   ·subst h;rw[if_pos rfl];cases he:es[j]? with
    |none=>simp[h2]
    |some e=>simp
   ·rw[if_neg h];simp only[if_neg h];exact gl _ _ _
theorem App.aJ1{s:AS}{id:Id}{e0:dW}(hs:s.cq id=av e0)(d:Option Tmp)(v:aC)(e:dW):App d ⟨v,λi=>if i=id then av e else aD,[]⟩ s ((s.bq id e).put d v):=by
 refine⟨?_,?_,λi=> ?_⟩
 ·cases d <;> simp[AS.put]
 ·cases d <;> simp[AS.put,PT]
 ·rw[Ma];by_cases hi:i=id
  ·subst hi;rw[fk s i _ (by rw[hs];simp)];simp
  ·rw[dq s id i _ hi];simp[hi]
section
variable {P:aT} {Γ:pO} {bT:List Nat} {ops:Array Oper} {o:Oper} {s t:AS}
def QS(P:aT)(Γ:pO)(bT:List Nat)(ops:Array Oper)(o:Oper)(s s':AS):Prop:=∃E,App o.dst E s s'/\ajw (iM Γ ops s o) s E/\∀t,nR (iM Γ ops s o) s t->∃t',(sm P Γ bT o t).eval=av t'/\App o.dst E t t'
theorem XO{xs:Array bU}{i:Nat}(h:Operand.tmp i∈xs.toList):i∈ZV xs:=by unfold ZV;exact List.mem_filterMap.2 ⟨_,h,rfl⟩
theorem nR.ev(h:nR (iM Γ ops s o) s t){x:bU}(hx:x∈o.op.operands.toList):t.ev x=s.ev x:=by
 cases x with
 |tmp i=>exact h.cM i (bD.2 (.inl (XO hx)))
 |_=>rfl
theorem ap7(v:Value):(ofConst v).ids=[]:=by unfold ofConst;split <;> rfl
theorem ais{o:Oper}{x:Op}(h:o.op=x)(hx:aie x=aQ):aie o.op=aQ:=by rw[h];exact hx
theorem PN(hn:aie o.op=aQ){x:bU}(hx:x∈o.op.operands.toList){id:Id}(dr:id∈(s.ev x).ids):id∈(iM Γ ops s o).rs:=by
 refine bD.2 (.inl ?_);unfold ap9;rw[hn];cases x with
 |tmp i=>exact q9.2 ⟨i,XO hx,dr⟩
 |const v=>simp[AS.ev,ap7]at dr
 |global _=>simp[AS.ev,aC.ids]at dr
 |func f=>simp[AS.ev,aC.ids]at dr
theorem nR.am6(h:nR (iM Γ ops s o) s t)(hn:aie o.op=aQ){x:bU}(hx:x∈o.op.operands.toList){id:Id}(dr:id∈(s.ev x).ids):Ba (t.cq id) (s.cq id):=h.rs id (PN hn hx dr)
theorem TG{id:Id}(h:Ba (t.cq id) (s.cq id)):(t.obj id=aD/\s.obj id=aD)\/∃v f f' c,t.obj id=av (v,f,c)/\s.obj id=av (v,f',c):=by
 unfold AS.obj
 revert h
 cases t.cq id with
 |none=>cases s.cq id with
  |none=>intro _;simp
  |some b=>intro h;exact h.elim
 |some a=>cases s.cq id with
  |none=>intro h;exact h.elim
  |some b=>cases a <;> cases b <;> intro h <;> first
    |exact h.elim
    | (left;exact⟨rfl,rfl⟩)
    | (obtain⟨rfl,rfl⟩:=h;right;exact⟨_,_,_,_,rfl,rfl⟩)
theorem V8{id:Id}(h:Ba (t.cq id) (s.cq id))(ver:Nat)(p:List MK):t.row id ver p=s.row id ver p:=by unfold AS.row;rcases TG h with⟨h1,h2⟩ | ⟨v,f,f',c,h1,h2⟩ <;> rw[h1,h2]
theorem qK:∀(v:aC) (ty:Ty),(∀id∈v.ids,Ba (t.cq id) (s.cq id))->t.jT ty v=s.jT ty v
 | .bE id ver p c i len,ty,h=>by
  cases ty <;> first
   |rfl
   | (simp only[AS.jT];rw[V8 (h id (by simp[aC.ids]))])
 | .pr a b,ty,h=>by
  cases ty <;> first
   |rfl
   | (simp only[AS.jT];rw[qK a _ λid dr=>h id (by simp[aC.ids,dr]),qK b _ λid dr=>h id (by simp[aC.ids,dr])])
 | .undef,ty,_ | .gone,ty,_ | .dy,ty,_ | .sq,ty,_ | .yP,ty,_ | .EB,ty,_ | .d _ _,ty,_ | .ptr ..,ty,_ | .dV ..,ty,_ | .fn ..,ty,_ | .cons ..,ty,_ | .nil,ty,_ | .vec ..,ty,_ | .bx ..,ty,_ | .cI ..,ty,_ | .mp ..,ty,_ | .uE ..,ty,_ | .yl ..,ty,_ | .sS ..,ty,_ | .sb _,ty,_=>by cases ty <;> simp only[AS.jT]
theorem xv:∀(v:aC),∀id∈v.shared,id∈v.ids
 | .bE ..,id,h=>by simpa[aC.shared,aC.ids]using h
 | .pr a b,id,h=>by
  simp only[aC.shared,bD,aC.ids]at h ⊢;rcases h with h | h
  ·exact .inl (xv a id h)
  ·exact .inr (xv b id h)
 | .undef,_,h | .gone,_,h | .dy,_,h | .sq,_,h | .yP,_,h | .EB,_,h | .d _ _,_,h | .ptr ..,_,h | .dV ..,_,h | .fn ..,_,h | .cons ..,_,h | .nil,_,h | .vec ..,_,h | .bx ..,_,h | .cI ..,_,h | .mp ..,_,h | .uE ..,_,h | .yl ..,_,h | .sS ..,_,h | .sb _,_,h=>by simp[aC.shared]at h
theorem apC{T:TypeId}{x:aC}(h:∀id∈x.ids,Ba (t.cq id) (s.cq id)):Sx P t T x=Sx P s T x:=by
 unfold Sx;split
 ·rename_i id ver p n;rcases TG (h id (by simp[aC.ids])) with⟨h1,h2⟩ | ⟨v,f,f',c,h1,h2⟩ <;> rw[h1,h2]
 ·rfl
 ·rfl
 ·rfl
theorem ajJ{n:Nat}{lo hi:Option bU}(hl:∀x,lo=av x->t.ev x=s.ev x)(hh:∀x,hi=av x->t.ev x=s.ev x):bounds t n lo hi=bounds s n lo hi:=by
 unfold bounds
 cases lo <;> cases hi <;> simp only[] <;> first
  |rfl
  | (rw[hl _ rfl,hh _ rfl])
  |rw[hl _ rfl]
  |rw[hh _ rfl]
theorem TK{T:TypeId}{x:aC}{lo hi:Option bU}(h:∀id∈x.ids,Ba (t.cq id) (s.cq id))(hl:∀x,lo=av x->t.ev x=s.ev x)(hh:∀x,hi=av x->t.ev x=s.ev x):
  Le P t T x lo hi=Le P s T x lo hi:=by
 have hb:∀n,bounds t n lo hi=bounds s n lo hi:=λn=>ajJ hl hh
 unfold Le
 split <;> first
  |rfl
  | (rw[V8 (h _ (by simp[aC.ids]))];simp only[hb];done)
  | (simp only[hb];done)
theorem agF{T:TypeId}{x:aC}{lo:Option bU}{y m:bU}(h:∀id∈x.ids,Ba (t.cq id) (s.cq id))(hl:∀x,lo=av x->t.ev x=s.ev x)(hh:t.ev y=s.ev y)(hm:t.ev m=s.ev m):
  TJ P t T x lo y m=TJ P s T x lo y m:=by
 unfold TJ;rw[hh,hm,TK h hl λz hz=>by obtain rfl:=bn hz;exact hh]
theorem Vq{T:TypeId}{x:aC}{i:Int}(h:∀id∈x.ids,Ba (t.cq id) (s.cq id)):ud P t T x i=ud P s T x i:=by
 unfold ud
 split <;> first
  |rfl
  |rw[V8 (h _ (by simp[aC.ids]))]
theorem aoc{obj:Bool}{src dst:TypeId}{x:aC}(h:∀id∈x.ids,Ba (t.cq id) (s.cq id)):ahE P t obj src dst x=ahE P s obj src dst x:=by
 unfold ahE;split
 ·rfl
 ·unfold aF2
  split <;> first
   |rfl
   | (simp only[AS.auS,qK _ _ h])
theorem aAj{T:TypeId}{op:BinOp}{i:Id}{v:Nat}{j:Id}{w:Nat}(h:Ba (t.cq i) (s.cq i)):aSG P t T op i v j w=aSG P s T op i v j w:=by unfold aSG;rcases TG h with⟨h1,h2⟩ | ⟨v,f,f',c,h1,h2⟩ <;> rw[h1,h2]
theorem aoe{src dst:TypeId}{id:Id}{ver:Nat}(h:Ba (t.cq id) (s.cq id)):ahF P t src dst id ver=ahF P s src dst id ver:=by
 unfold ahF;rcases TG h with⟨h1,h2⟩ | ⟨v,f,f',c,h1,h2⟩
 ·rw[h1,h2]
 ·rw[h1,h2]
  cases c <;> first
   |rfl
   | (rename_i e z c;cases z <;> rfl)
theorem CB{ty:Ty}:∀(ps:List (Nat×bU)) (l:List ty.den),(∀x∈ps,t.ev x.2=s.ev x.2/\∀id∈(s.ev x.2).ids,Ba (t.cq id) (s.cq id))->j9 ty t ps l=j9 ty s ps l
 |[],_,_=>rfl
 | (i,x)::ps,l,h=>by obtain⟨h1,h2⟩:=h (i,x) (aK ..);simp only[j9];simp only at h1 h2;rw[h1,qK _ _ h2];congr 2;funext y;rw[CB ps _ λz hz=>h z (aF _ hz)]
theorem zs{ty:Ty}:∀(ps:List (Nat×bU)) (l:List ty.den) (r:List ty.den×List Id),(j9 ty s ps l).eval=av r->∀id∈r.2,∃x∈ps,id∈(s.ev x.2).ids
 |[],l,r,h,id,dr=>by obtain rfl:=az.1 h;cases dr
 | (i,x)::ps,l,r,h,id,dr=>by
  simp only[j9]at h;obtain⟨h1,h2⟩:=aH.1 h;obtain⟨y,h3,h4⟩:=ax.1 h2;obtain⟨r',h5,h6⟩:=ax.1 h4;obtain rfl:=az.1 h6;rcases bD.1 dr with dr | dr
  ·exact⟨(i,x),aK ..,xv _ _ dr⟩
  ·obtain⟨z,hz,Vo⟩:=zs ps _ r' h5 id dr;exact⟨z,aF _ hz,Vo⟩
theorem IH{fs:Array Field}:∀(ps:List (Nat×bU)) (v:aC),(∀x∈ps,t.ev x.2=s.ev x.2)->rS P fs t ps v=rS P fs s ps v
 |[],_,_=>rfl
 | (i,x)::ps,v,h=>by
  have h1:=h (i,x) (aK ..);simp only at h1;simp only[rS,h1];have ih:∀v,rS P fs t ps v=rS P fs s ps v:=λv=>IH ps v λz hz=>h z (aF _ hz)
  simp only[ih]
theorem Ri:∀(l:List bU),(∀x∈l,t.ev x=s.ev x)->tT t l=tT s l
 |[],_=>rfl
 |x::l,h=>by simp only[tT];rw[h x (aK ..),Ri l λy hy=>h y (aF _ hy)]
theorem XS{ty:Ty}{X:TypeId}{x:aC}(h:∀id∈x.ids,Ba (t.cq id) (s.cq id)):J9 P t ty X x=J9 P s ty X x:=by
 unfold J9;split
 ·rfl
 ·simp only[AS.auS,qK _ _ h]
theorem nj{v:aC}(h:∀t,nR (iM Γ ops s o) s t->(sm P Γ bT o t).eval=av (t.put o.dst v)):QS P Γ bT ops o s (s.put o.dst v):=
 ⟨⟨v,λ_=>aD,[]⟩,App.Mn _ _ _,⟨λ_ _ h=>by simp at h,λ_ h=>by simp at h⟩,λt ht=>⟨_,h t ht,App.Mn _ _ _⟩⟩
theorem pH{F:AS->Out aC}(ho:∀t,sm P Γ bT o t=(F t).bind λv=> .ok (t.put o.dst v))(hF:∀t,nR (iM Γ ops s o) s t->F t=F s){s':AS}(he:(sm P Γ bT o s).eval=av s'):QS P Γ bT ops o s s':=by
 rw[ho]at he;obtain⟨v,h1,h2⟩:=ax.1 he;obtain rfl:=az.1 h2;refine nj λt ht=> ?_
 rw[ho,hF t ht,ax];exact⟨v,h1,rfl⟩
theorem ZP{v:aC}{ids:List Id}(hi:∀id∈ids,id∈(iM Γ ops s o).rs)(h:∀t,nR (iM Γ ops s o) s t->(sm P Γ bT o t).eval=av ((t.bG ids).put o.dst v)):QS P Γ bT ops o s ((s.bG ids).put o.dst v):=
 ⟨⟨v,λ_=>aD,ids⟩,App.Vf _ _ _ _,⟨λ_ _ h=>by simp at h,hi⟩,λt ht=>⟨_,h t ht,App.Vf _ _ _ _⟩⟩
theorem Cd{v:aC}{ids:List Id}{q:Nat}{es:List dW}(hd:o.dst=av q)(hv:s.eS q=aZ)(hi:∀id∈ids,id∈(iM Γ ops s o).rs)
  (h:∀t,nR (iM Γ ops s o) s t->t.eS q=aZ->(sm P Γ bT o t).eval=av (((t.bG ids).born q es).put o.dst v)):QS P Γ bT ops o s (((s.bG ids).born q es).put o.dst v):=by
 refine⟨⟨v,UR q es,ids⟩,by rw[hd];exact App.axa hv _ _ _,⟨λid e h=> .inr ?_,hi⟩,λt ht=> ?_⟩
 ·cases id with
  |bt _=>simp[UR]at h
  |new i j=>
   simp only[UR]at h;split at h
   ·rename_i hq;exact⟨q,j,hd,by rw[hq]⟩
   ·cases h
 ·have hv':t.eS q=aZ:=by rw[ht.eS q hd];exact hv
  exact⟨_,h t ht hv',by rw[hd];exact App.axa hv' _ _ _⟩
theorem G9{v:aC}{id:Id}{e0 e:dW}(hs:s.cq id=av e0)(hw:id∈(iM Γ ops s o).ws)(h:∀t,nR (iM Γ ops s o) s t->t.cq id=s.cq id->(sm P Γ bT o t).eval=av ((t.bq id e).put o.dst v)):
  QS P Γ bT ops o s ((s.bq id e).put o.dst v):=by
 refine⟨⟨v,λi=>if i=id then av e else aD,[]⟩,App.aJ1 hs _ _ _,⟨λi e' h=> .inl ?_,λ_ h=>by simp at h⟩,λt ht=> ?_⟩
 ·simp only at h;split at h
  ·rename_i hi;subst hi;exact⟨hw,by rw[hs];simp⟩
  ·cases h
 ·have:=ht.ws id hw;exact⟨_,h t ht this,App.aJ1 (this.trans hs) _ _ _⟩
end
end Go.Ab
namespace Go.Ab
section
variable {P:aT} {Γ:pO} {bT:List Nat} {ops:Array Oper} {o:Oper} {s t:AS}
theorem amr{T:TypeId}{x v:aC}{s':AS}(h:(Lj P s T x v).eval=av s'):
  ∃id e0 e,x.ids=[id]/\s.cq id=av e0/\s'=s.bq id e/\∀t:AS,t.cq id=s.cq id->(Lj P t T x v).eval=av (t.bq id e):=by
 unfold Lj at h;split at h
 ·rename_i id ver p n;cases mX:s.obj id with
  |none=>rw[mX]at h;simp only[aw]at h
  |some r=>
   obtain⟨ve,fr,c⟩:=r;rw[mX]at h;obtain⟨h1,h2⟩:=aH.1 h;obtain⟨r,h3,h4⟩:=ax.1 h2;obtain⟨h5,h6⟩:=aH.1 h4;obtain⟨h7,h8⟩:=b8.1 h6;obtain⟨c',h9,aPy⟩:=ax.1 h8;obtain rfl:=az.1 aPy;refine⟨id,_,_,rfl,eU mX,rfl,λt ht=> ?_⟩;have hob':t.obj id=av (ve,fr,c):=by simp only[AS.obj,ht];exact mX
   unfold Lj;simp only[hob'];exact aH.2 ⟨h1,ax.2 ⟨r,h3,aH.2 ⟨h5,b8.2 ⟨h7,ax.2 ⟨c',h9,az.2 rfl⟩⟩⟩⟩⟩
 ·simp only[aw]at h
theorem atv{c:Call}{x y:bU}{T X:TypeId}(dF:o.op= .call c)(hc:c.callee= .builtin .copy)(ha:c.args.toList=[x,y])(ht:c.argTypes.toList=[T,X]){s':AS}
  (he:(aa4 P s o.dst T X (s.ev x) (s.ev y)).eval=av s'):QS P Γ bT ops o s s':=by
 have ah2:∀t:AS,sm P Γ bT o t=aa4 P t o.dst T X (t.ev x) (t.ev y):=λt=>by unfold sm;rw[dF];simp only[hc,ha,ht]
 have G7:∀z,z=x\/z=y->z∈o.op.operands.toList:=λz hz=>by rw[dF];simp only[cE,eE,hc,aY,ct,ha];simpa using hz
 have hx:∀t,nR (iM Γ ops s o) s t->t.ev x=s.ev x:=λt h=>h.ev (G7 x (.inl rfl))
 have hy:∀t,nR (iM Γ ops s o) s t->t.ev y=s.ev y:=λt h=>h.ev (G7 y (.inr rfl))
 have hm:∀t,nR (iM Γ ops s o) s t->∀ty,J9 P t ty X (s.ev y)=J9 P s ty X (s.ev y):=λt h ty=>XS λid dr=>h.am6 (ais dF rfl) (G7 y (.inr rfl)) dr
 unfold aa4 at he;split at he
 ·rename_i e t b id ver len MQ asn;obtain⟨m,h1,he⟩:=ax.1 he;split at he
  ·rename_i ve n t' l mX;obtain⟨h2,R5⟩:=aH.1 he;obtain⟨l',h3,afF⟩:=ax.1 R5;obtain⟨h4,aSK⟩:=b8.1 afF;obtain rfl:=az.1 aSK;have hw:id∈(iM Γ ops s o).ws:=by show id∈writes Γ s o;unfold writes;rw[dF];simp only[hc,ha,asn];simp[aC.ids]
   refine G9 (eU mX) hw λt ht aAN=> ?_
   rw[ah2 t,hx t ht,hy t ht];have hob':t.obj id=av (ve,aQ,.d (.arr n t') l):=by simp only[AS.obj,aAN];exact mX
   unfold aa4;simp only[MQ,asn];refine ax.2 ⟨m,by rw[hm t ht];exact h1,?_⟩;simp only[hob'];exact aH.2 ⟨h2,ax.2 ⟨l',h3,b8.2 ⟨h4,az.2 rfl⟩⟩⟩
  ·exact(aw.1 he).elim
 ·exact(aw.1 he).elim
theorem ajB{c:Call}{x y:bU}{T X:TypeId}(dF:o.op= .call c)(hc:c.callee= .builtin .append)(ha:c.args.toList=[x,y])(ht:c.argTypes.toList=[T,X])(il:∀k n,s.ev x= .dy->s.ev y= .d (.int k) n->False){s':AS}
  (he:(zJ P s (aAW bT o.dst) (aue bT o.dst) o.dst T X (s.ev x) (s.ev y)).eval=av s'):QS P Γ bT ops o s s':=by
 have ah2:∀t:AS,t.ev x=s.ev x->t.ev y=s.ev y->sm P Γ bT o t=zJ P t (aAW bT o.dst) (aue bT o.dst) o.dst T X (t.ev x) (t.ev y):=λt e1 e2=>by
  unfold sm;rw[dF];simp only[hc,ha,ht];split
  ·rename_i k n hx hy;rw[e1]at hx;rw[e2]at hy;exact(il k n hx hy).elim
  ·rfl
 have G7:∀z,z=x\/z=y->z∈o.op.operands.toList:=λz hz=>by rw[dF];simp only[cE,eE,hc,aY,ct,ha];simpa using hz
 have hx:∀t,nR (iM Γ ops s o) s t->t.ev x=s.ev x:=λt h=>h.ev (G7 x (.inl rfl))
 have hy:∀t,nR (iM Γ ops s o) s t->t.ev y=s.ev y:=λt h=>h.ev (G7 y (.inr rfl))
 have hm:∀t,nR (iM Γ ops s o) s t->∀ty,J9 P t ty X (s.ev y)=J9 P s ty X (s.ev y):=λt h ty=>XS λid dr=>h.am6 (ais dF rfl) (G7 y (.inr rfl)) dr
 unfold zJ at he;split at he
 ·rename_i e ty b q MQ hd;obtain⟨m,h1,h2⟩:=ax.1 he;split at h2
  ·rename_i aT2;cases aSJ:aue bT o.dst with
   |true=>
    rw[aSJ]at h2;simp only at h2;obtain⟨h5,h6⟩:=b8.1 h2;obtain rfl:=az.1 h6;refine nj λt ht=> ?_
    rw[ah2 t (hx t ht) (hy t ht),hx t ht,hy t ht];unfold zJ;simp only[hd]at aSJ MQ ⊢;simp only[MQ,aT2,aSJ];refine ax.2 ⟨m,by rw[hm t ht];exact h1,?_⟩;exact b8.2 ⟨h5,az.2 rfl⟩
   |false=>
   rw[aSJ]at h2;simp only at h2;obtain⟨h3,h4⟩:=aH.1 h2;obtain⟨h5,h6⟩:=b8.1 h4;obtain rfl:=az.1 h6;refine Cd (ids:=[]) hd h3 (λ_ h=>by cases h) λt ht hv=> ?_
   rw[ah2 t (hx t ht) (hy t ht),hx t ht,hy t ht];unfold zJ;simp only[hd]at aSJ MQ ⊢;simp only[MQ,aT2,aSJ];refine ax.2 ⟨m,by rw[hm t ht];exact h1,?_⟩;exact aH.2 ⟨hv,b8.2 ⟨h5,az.2 rfl⟩⟩
  ·rename_i id ver len aT2;split at h2
   ·rename_i v fr e' t' l mX;obtain⟨h3,h4⟩:=aH.1 h2;obtain⟨l',h5,h6⟩:=ax.1 h4;obtain⟨h7,h8⟩:=b8.1 h6;obtain⟨h9,aPy⟩:=b8.1 h8;obtain⟨aYu,ah1⟩:=b8.1 aPy;obtain rfl:=az.1 ah1;have hw:id∈(iM Γ ops s o).ws:=by show id∈writes Γ s o;unfold writes;rw[dF];simp only[hc,ha,aT2];simp[aC.ids]
    refine G9 (eU mX) hw λt ht aAN=> ?_
    rw[ah2 t (hx t ht) (hy t ht),hx t ht,hy t ht];have hob':t.obj id=av (v,fr,.vec e' t' l):=by simp only[AS.obj,aAN];exact mX
    unfold zJ;simp only[hd]at MQ ⊢;simp only[MQ,aT2];refine ax.2 ⟨m,by rw[hm t ht];exact h1,?_⟩;simp only[hob'];exact aH.2 ⟨h3,ax.2 ⟨l',h5,b8.2 ⟨h7,b8.2 ⟨h9,b8.2 ⟨aYu,az.2 rfl⟩⟩⟩⟩⟩
   ·simp only[aw]at h2
  ·simp only[aw]at h2
 ·simp only[aw]at he
theorem VX:∀(n:Nat) (todo acc:List Id),∀id∈acc,id∈s.reach n todo acc
 | 0,_,_,id,h=>h
 |_+1,[],_,id,h=>h
 |n+1,x::todo,acc,id,h=>by
  rw[AS.reach];split
  ·exact VX n todo acc id h
  ·exact VX n _ _ id (bD.2 (.inl h))
theorem yT:∀(n:Nat) (todo acc:List Id),(∀id∈s.reach n todo acc,((t.cq id).getD .dead).ids=((s.cq id).getD .dead).ids)->t.reach n todo acc=s.reach n todo acc
 | 0,_,_,_=>rfl
 |_+1,[],_,_=>rfl
 |n+1,x::todo,acc,h=>by
  rw[AS.reach]at h;rw[AS.reach,AS.reach];split
  ·rename_i hc;rw[if_pos hc]at h;exact yT n todo acc h
  ·rename_i hc;rw[if_neg hc]at h;have hx:=h x (VX n _ _ x (bD.2 (.inr (bp.2 rfl))));rw[hx];exact yT n _ _ h
theorem aNq(e:Option dW):((e.map dW.axA).getD .dead).ids=(e.getD .dead).ids:=by
 cases e with
 |none=>rfl
 |some x=>cases x <;> rfl
theorem Zo(ids:List Id)(n:Nat)(todo acc:List Id):(s.bG ids).reach n todo acc=s.reach n todo acc:=by
 refine yT n todo acc λid _=> ?_
 rw[gl];split
 ·exact aNq _
 ·rfl
theorem Pf:∀(ps:List (Option Ty)) (vs:List aC),(∀v∈vs,∀id∈v.ids,Ba (t.cq id) (s.cq id))->t.conv ps vs=s.conv ps vs
 |[],[],_=>rfl
 |[],_::_,_=>rfl
 |some _::_,[],_=>rfl
 |none::_,[],_=>rfl
 |some ty::ps,v::vs,h=>by simp only[AS.conv];rw[qK v ty (h v (aK ..)),Pf ps vs λx hx=>h x (aF _ hx)]
 |none::ps,v::vs,h=>by simp only[AS.conv];rw[Pf ps vs λx hx=>h x (aF _ hx)]
theorem Pg:∀(ps:List (Option Ty)) (vs:List aC) (r:List aC×List Id),(s.conv ps vs).eval=av r->r.1.flatMap aC.ids=xO ps vs/\∀id∈r.2,∃v∈vs,id∈v.ids
 |[],[],r,h=>by simp only[AS.conv,az]at h;subst h;exact⟨rfl,λ_ h=>by cases h⟩
 |some ty::ps,v::vs,r,h=>by
  simp only[AS.conv]at h;obtain⟨x,h1,h2⟩:=ax.1 h;obtain⟨r',h3,h4⟩:=ax.1 h2;obtain rfl:=az.1 h4;obtain⟨i1,i2⟩:=Pg ps vs r' h3;refine⟨by simp[xO,i1,aC.ids],λid dr=> ?_⟩;rcases bD.1 dr with dr | dr
  ·exact⟨v,aK ..,xv v id dr⟩
  ·obtain⟨u,hu,am3⟩:=i2 id dr;exact⟨u,aF _ hu,am3⟩
 |none::ps,v::vs,r,h=>by simp only[AS.conv]at h;obtain⟨r',h3,h4⟩:=ax.1 h;obtain rfl:=az.1 h4;obtain⟨i1,i2⟩:=Pg ps vs r' h3;refine⟨by simp[xO,i1],λid dr=> ?_⟩;obtain⟨u,hu,am3⟩:=i2 id dr;exact⟨u,aF _ hu,am3⟩
 |[],_::_,_,h=>by simp only[AS.conv,aw]at h
 |some _::_,[],_,h=>by simp only[AS.conv,aw]at h
 |none::_,[],_,h=>by simp only[AS.conv,aw]at h
theorem apA:∀(c:aC),∀v∈c.list,∀id∈v.ids,id∈c.ids
 | .cons a b,v,hv,id,dr=>by
  simp only[aC.list,cv]at hv;simp only[aC.ids,bD];rcases hv with rfl | hv
  ·exact .inl dr
  ·exact .inr (apA b v hv id dr)
 | .sb _,_,h,_,_ | .undef,_,h,_,_ | .gone,_,h,_,_ | .dy,_,h,_,_ | .sq,_,h,_,_ | .yP,_,h,_,_ | .EB,_,h,_,_ | .d _ _,_,h,_,_ | .ptr ..,_,h,_,_ | .dV ..,_,h,_,_
 | .fn ..,_,h,_,_ | .pr ..,_,h,_,_ | .nil,_,h,_,_ | .vec ..,_,h,_,_ | .bx ..,_,h,_,_ | .cI ..,_,h,_,_ | .mp ..,_,h,_,_ | .uE ..,_,h,_,_ | .yl ..,_,h,_,_ | .sS ..,_,h,_,_ | .bE ..,_,h,_,_=>by simp[aC.list]at h
theorem Yi{ids:List Id}(h:∀id∈ids,t.cq id=s.cq id):t.yV ids=s.yV ids:=by
 funext id ver;unfold AS.yV;cases hi:idxOf id ids with
 |none=>rfl
 |some k=>
  have:t.obj id=s.obj id:=by simp only[AS.obj,h id (cZ (ql hi))]
  rw[this]
theorem YL{id:Id}(h:t.cq id=s.cq id):t.Ef id=s.Ef id:=by simp only[AS.Ef,AS.obj,h]
theorem Tc{ids:List Id}(h:∀id∈ids,t.cq id=s.cq id)(q:Nat):t.xp ids q=s.xp ids q:=by
 funext id ver;cases id with
 |new i j=>rfl
 |bt k=>
  simp only[AS.xp];cases hk:ids[k]? with
  |none=>rfl
  |some id=>simp only[YL (h id (cZ hk))]
theorem RT{ids:List Id}(h:∀id∈ids,t.cq id=s.cq id)(q b:Nat):t.tY ids q b=s.tY ids q b:=by funext e;cases e <;> simp only[AS.tY,Tc h]
theorem aoM{ids:List Id}(h:∀id∈ids,t.cq id=s.cq id){id:Id}(dr:id∈ids):t.nY ids id=s.nY ids id:=by unfold AS.nY;rw[h id dr,Yi h]
def pA(s:AS)(ids:List Id)(d:Option Tmp)(G:iB):AS:=(AS.ki s ids (d.getD 0) (s.made ids (d.getD 0) G.news) ids G.cz).put d (G.val.jB (s.xp ids (d.getD 0)))
theorem ahk{ids:List Id}{d:Option Tmp}{G:iB}{s':AS}:(s.back ids d G).eval=av s'↔(G.cz.length=ids.length/\(G.news=[]\/∃q,d=av q/\s.eS q=aZ))/\s'=pA s ids d G:=by
 unfold AS.back;cases d with
 |none=>
  rw[aH,az];simp only[au,dK,List.isEmpty_iff,pA,AS.put,Option.getD_none];constructor
  ·rintro⟨⟨h1,h2⟩,rfl⟩;rw[h2];exact⟨⟨h1,.inl rfl⟩,rfl⟩
  ·rintro⟨⟨h1,h2⟩,rfl⟩;rcases h2 with h2 | ⟨q,hq,_⟩
   ·rw[h2];exact⟨⟨h1,rfl⟩,rfl⟩
   ·cases hq
 |some q=>
  rw[aH,az];simp only[au,dK,gR,List.isEmpty_iff,pA,eo];constructor
  ·rintro⟨⟨h1,h2⟩,rfl⟩;exact⟨⟨h1,h2.imp id λh=>⟨q,rfl,h⟩⟩,rfl⟩
  ·rintro⟨⟨h1,h2⟩,rfl⟩;refine⟨⟨h1,h2.imp id λ⟨q',hq,h⟩=> ?_⟩,rfl⟩;obtain rfl:q=q':=by simpa using hq
   exact h
theorem XF(s0:AS)(all:List Id)(q:Nat):∀(ids:List Id) (es:List dW) (s:AS),(AS.ki s0 all q s ids es).news.length=s.news.length
 |[],_,_=>by simp[AS.ki]
 |_::_,[],_=>by simp[AS.ki]
 |id::ids,e::es,s=>by rw[AS.ki,XF s0 all q ids es,PT]
theorem aHU(s:AS)(ids:List Id)(q:Nat)(es:List dW):(s.made ids q es).news.length=s.news.length:=by cases es <;> simp[AS.made,AS.born]
def MC(ids:List Id)(d:Option Tmp)(G:iB)(id:Id):Prop:=id∈ids\/(G.news≠ []/\∃q j,d=av q/\id= .new q j)
theorem aaq{ids:List Id}{d:Option Tmp}{G:iB}(hn:ids.Nodup)(hp:∀id∈ids,s.cq id≠aD)(hl:G.cz.length=ids.length)(hv:G.news=[]\/∃q,d=av q/\s.eS q=aZ):
  (∀id,¬MC ids d G id->(pA s ids d G).cq id=s.cq id)/\
  (∀(k:Nat) (id:Id) (e:dW),ids[k]? =av id->G.cz[k]? =av e->(pA s ids d G).cq id=av (s.tY ids (d.getD 0) (s.Ef id) e))/\
  (∀q j,G.news≠ []->d=av q->(pA s ids d G).cq (.new q j)=(G.news[j]?).map (s.tY ids q 0))/\
  (∀q j,G.news≠ []->d=av q->s.cq (.new q j)=aD):=by
 have hv':G.news=[]\/s.eS (d.getD 0)=aZ:=by
  rcases hv with h | ⟨q,rfl,h⟩
  ·exact .inl h
  ·exact .inr h
 obtain⟨m1,m2⟩:=aoN s ids (d.getD 0) G.news hv';have aPH:∀q j,G.news≠ []->d=av q->s.cq (.new q j)=aD:=λq j h1 h2=>by
  rcases hv' with h | h
  ·exact absurd h h1
  ·subst h2;exact(CM.1 h).2 j
 have I8:∀id,s.cq id≠aD->G.news=[]\/∀j,id≠ .new (d.getD 0) j:=λid dr=>by
  rcases hv with h | ⟨q,rfl,h⟩
  ·exact .inl h
  ·exact .inr λj e=>dr (by rw[e];exact(CM.1 h).2 j)
 obtain⟨n1,n2⟩:=JK s ids (d.getD 0) ids G.cz (s.made ids (d.getD 0) G.news) hn hl (λid dr=>by rw[m1 id (I8 id (hp id dr))];exact hp id dr);refine⟨λid dr=> ?_,λk id e h1 h2=> ?_,λq j h1 h2=> ?_,aPH⟩
 ·unfold MC at dr;simp only[not_or]at dr;rw[pA,Ma,n1 id dr.1];refine m1 id ?_
  by_cases il:G.news=[]
  ·exact .inl il
  ·right;intro j e;rcases hv with h | ⟨q,hq,_⟩
   ·exact il h
   ·exact dr.2 ⟨il,q,j,hq,by rw[e,hq];rfl⟩
 ·rw[pA,Ma,n2 k id e h1 h2]
 ·subst h2;have aWh:Id.new q j ∉ ids:=λdr=>hp _ dr (aPH q j h1 rfl)
  rw[pA,Ma,n1 _ aWh];exact m2 h1 j
open Classical in
theorem as9{c:Call}{F:bU}{f:fV}{caps:aC}{en:Entry}(dF:o.op= .call c)(hc:c.callee= .value F)(hF:s.ev F= .fn f caps)(hΓ:Γ f (c.args.toList.map s.ev++caps.list)=av en)(iA:Nat.blt f yB=aZ){s':AS}
  (he:(s.call en o.dst (c.args.toList.map s.ev++caps.list)).eval=av s'):QS P Γ bT ops o s s':=by
 have G7:∀z,z=F\/z∈c.args.toList->z∈o.op.operands.toList:=λz hz=>by
  rw[dF];simp only[cE,eE,hc,ct,bD];rcases hz with rfl | hz
  ·exact .inl (by simp)
  ·exact .inr hz
 have aHn:∀v∈c.args.toList.map s.ev++caps.list,∀id∈v.ids,id∈(iM Γ ops s o).rs:=λv hv id dr=>by
  rcases bD.1 hv with hv | hv
  ·obtain⟨x,hx,rfl⟩:=df.1 hv;exact PN (ais dF rfl) (G7 x (.inr hx)) dr
  ·refine PN (ais dF rfl) (G7 F (.inl rfl)) ?_
   rw[hF];exact apA caps v hv id dr
 generalize Xy:c.args.toList.map s.ev++caps.list=vs at he aHn hΓ;have aLB:(iM Γ ops s o).ws=s.reach 64 (xO en.params vs) []:=by show writes Γ s o=_;unfold writes;rw[dF];simp only[hc,hF,Xy,hΓ]
 have ah2:∀t,nR (iM Γ ops s o) s t->sm P Γ bT o t=t.call en o.dst vs:=λt ht=>by
  unfold sm;rw[dF];have h1:t.ev F= .fn f caps:=by rw[ht.ev (G7 F (.inl rfl)),hF]
  have h2:c.args.toList.map t.ev=c.args.toList.map s.ev:=ij λx hx=>ht.ev (G7 x (.inr hx))
  obtain⟨cal,args,tys⟩:=c;simp only at hc Xy h2;subst hc;simp only[h1,h2,Xy,hΓ,iA,Out.guard]
 unfold AS.call at he;obtain⟨r,h1,h2⟩:=ax.1 he;obtain⟨aHf,afU⟩:=Pg _ _ r h1;have hlends:∀t:AS,(t.bG r.2).aib r.1=t.reach 64 (xO en.params vs) []:=λt=>by unfold AS.aib;rw[Zo,aHf]
 rw[hlends]at h2;generalize hW:s.reach 64 (xO en.params vs) []=W at h2 aLB;have hWn:W.Nodup:=by rw[<-hW];exact uO s _ _ _ (by simp)
 unfold AS.enter at h2;obtain⟨Eu,h3⟩:=aH.1 h2;obtain⟨x,hx,h4⟩:=yJ.1 h3;obtain⟨x0,aRq,h4⟩:=ax.1 h4;have aWG:=en.ayv _ _ aRq;rw[aWG]at h4 aRq;obtain⟨⟨hl,hv⟩,rfl⟩:=ahk.1 h4;generalize hG:en.out (r.1.map (aC.jB ((s.bG r.2).yV W))) (W.map ((s.bG r.2).nY W)) x=G at hl hv h4 ⊢;have hp:∀id∈W,(s.bG r.2).cq id≠aD:=λid dr=>by have:=(au _ _▸dp.1 Eu id dr).1;obtain⟨⟨v,fr,c⟩,hr⟩:=bR.1 this;rw[eU hr];simp
 obtain⟨b1,b2,b3,b4⟩:=aaq (s:=s.bG r.2) (d:=o.dst) hWn hp hl hv;have hfzent:∀(u:AS) id,u.cq id=aD↔(u.bG r.2).cq id=aD:=λu id=>by rw[gl];split <;> simp
 let E:aSw:=⟨G.val.jB ((s.bG r.2).xp W (o.dst.getD 0)),λid=>if MC W o.dst G id then(pA (s.bG r.2) W o.dst G).cq id else aD,r.2⟩
 have hslots:∀u:AS,(pA (u.bG r.2) W o.dst G).cM=(u.put o.dst (G.val.jB ((u.bG r.2).xp W (o.dst.getD 0)))).cM:=λu=>by unfold pA;cases o.dst <;> simp[AS.put,E6,aev,pd]
 have hlen:∀u:AS,(pA (u.bG r.2) W o.dst G).news.length=u.news.length:=λu=>by unfold pA;cases o.dst <;> simp[AS.put,XF,aHU,sG]
 refine⟨E,⟨hslots s,hlen s,λid=> ?_⟩,⟨λid e YU=> ?_,λid dr=> ?_⟩,λt ht=> ?_⟩
 ·by_cases aEc:MC W o.dst G id
  ·have YU:E.up id=(pA (s.bG r.2) W o.dst G).cq id:=if_pos aEc;rw[YU];cases hb:(pA (s.bG r.2) W o.dst G).cq id with
   |some e=>rfl
   |none=>
    rcases aEc with dr | ⟨il,q,j,hq,rfl⟩
    ·obtain⟨k,hk⟩:=lD.1 dr;have iA:k < G.cz.length:=by rw[hl];exact(dX.1 hk).1
     rw[b2 k id _ hk (cj iA)]at hb;cases hb
    ·have:=(hfzent s _).2 (b4 q j il hq);simp[this]
  ·have YU:E.up id=aD:=if_neg aEc;rw[YU,b1 id aEc,gl]
 ·by_cases aEc:MC W o.dst G id
  ·rcases aEc with dr | ⟨_,q,j,hq,rfl⟩
   ·left;refine⟨by rw[aLB];exact dr,λh=>hp id dr ((hfzent s id).1 h)⟩
   ·exact .inr ⟨q,j,hq,rfl⟩
  ·have:E.up id=aD:=if_neg aEc;rw[this]at YU;cases YU
 ·obtain⟨v,hv,dr⟩:=afU id dr;exact aHn v hv id dr
 ·have aTF:t.conv en.params vs=s.conv en.params vs:=Pf _ _ λv hv id dr=>ht.rs id (aHn v hv id dr)
  have QO:∀id∈W,t.cq id=s.cq id:=λid dr=>ht.ws id (by rw[aLB];exact dr)
  have ao4:∀id∈W,(t.bG r.2).cq id=(s.bG r.2).cq id:=λid dr=>by rw[gl,gl,QO id dr]
  have hWt:t.reach 64 (xO en.params vs) []=W:=by
   rw[<-hW];refine yT _ _ _ λid dr=> ?_
   rw[QO id (by rw[<-hW];exact dr)]
  have aUf:G.news=[]\/∃q,o.dst=av q/\(t.bG r.2).eS q=aZ:=hv.imp id λ⟨q,hq,h⟩=>⟨q,hq,by
   rw[xw]at h ⊢;rw[ht.eS q hq];exact h⟩
  have aSO:∀id∈W,(t.bG r.2).cq id≠aD:=λid dr=>by rw[ao4 id dr];exact hp id dr
  obtain⟨d1,d2,d3,d4⟩:=aaq (s:=t.bG r.2) (d:=o.dst) hWn aSO hl aUf;refine⟨pA (t.bG r.2) W o.dst G,?_,⟨?_,hlen t,λid=> ?_⟩⟩
  ·rw[ah2 t ht];unfold AS.call;rw[aTF];refine ax.2 ⟨r,h1,?_⟩;rw[hlends,hWt];unfold AS.enter;have hA:(t.bG r.2).yV W=(s.bG r.2).yV W:=Yi ao4;have hO:W.map ((t.bG r.2).nY W)=W.map ((s.bG r.2).nY W):=ij λid dr=>aoM ao4 dr
   refine aH.2 ⟨?_,yJ.2 ⟨x,?_,ax.2 ⟨x,aRq,?_⟩⟩⟩
   ·refine dp.2 λid dr=> ?_
    have:=dp.1 Eu id dr;simp only[AS.obj,AS.VA]at this ⊢;rw[ao4 id dr];exact this
   ·rw[hA,hO,<-hx]
   ·rw[hA,hO,hG];exact ahk.2 ⟨⟨hl,aUf⟩,rfl⟩
  ·rw[hslots t,Tc ao4]
  ·by_cases aEc:MC W o.dst G id
   ·have YU:E.up id=(pA (s.bG r.2) W o.dst G).cq id:=if_pos aEc;rw[YU];rcases aEc with dr | ⟨il,q,j,hq,rfl⟩
    ·obtain⟨k,hk⟩:=lD.1 dr;have iA:k < G.cz.length:=by rw[hl];exact(dX.1 hk).1
     rw[b2 k id _ hk (cj iA),d2 k id _ hk (cj iA),RT ao4,YL (ao4 id dr)]
    ·rw[b3 q j il hq,d3 q j il hq,RT ao4];cases hn:G.news[j]? with
     |some e=>rfl
     |none=>
      have:=(hfzent t _).2 (d4 q j il hq);simp[this]
   ·have YU:E.up id=aD:=if_neg aEc;rw[YU,d1 id aEc,gl]
end
end Go.Ab
namespace Go.Ab
section
variable {P:aT} {Γ:pO} {bT:List Nat} {ops:Array Oper} {o:Oper} {s t:AS}
theorem Out.bind_assoc{α β γ:Type}(o:Out α)(f:α->Out β)(g:β->Out γ):(o.bind f).bind g=o.bind λa=>(f a).bind g:=by
 induction o with
 |ok a=>rfl
 |fail=>rfl
 |wI c r ih=>simp only[Out.bind,ih]
 |get x h ih=>simp only[Out.bind,ih]
 |br c x y ih1 ih2=>simp only[Out.bind,ih1,ih2]
theorem aqk{parts:Array (Nat×bU)}{x:Nat×bU}(h:x∈parts.toList):x.2∈(parts.toList.map (·.2)).toArray.toList:=df.2 ⟨x,h,rfl⟩
theorem azy{T:TypeId}{x:bU}(dF:o.op= .box T x){s':AS}(he:(anL P s (isObj bT o.dst) (aue bT o.dst) o.dst T (s.ev x)).eval=av s'):QS P Γ bT ops o s s':=by
 have ah2:∀t,sm P Γ bT o t=anL P t (isObj bT o.dst) (aue bT o.dst) o.dst T (t.ev x):=λt=>by unfold sm;rw[dF]
 have hm:x∈o.op.operands.toList:=by rw[dF];simp[cE]
 unfold anL at he;split at he
 ·rename_i q hd;split at he
  ·rename_i ho;obtain⟨h1,h2⟩:=aH.1 he;obtain rfl:=az.1 h2;simp only[au]at h1;refine Cd (ids:=[]) hd h1.1 (λ_ h=>by cases h) λt ht hv=> ?_
   rw[ah2,ht.ev hm];unfold anL;simp only[hd]at ho ⊢;simp only[ho];exact aH.2 ⟨by simp[hv,h1.2],az.2 rfl⟩
  ·rename_i ho;split at he
   ·rename_i ty aUa;obtain⟨h1,h2⟩:=aH.1 he;obtain⟨y,h3,h4⟩:=ax.1 h2;obtain rfl:=az.1 h4;refine ZP (λid dr=>PN (ais dF rfl) hm (xv _ _ dr)) λt ht=> ?_
    rw[ah2,ht.ev hm];unfold anL;simp only[hd]at ho ⊢;simp only[ho,aUa];refine aH.2 ⟨h1,ax.2 ⟨y,?_,az.2 rfl⟩⟩;rw[qK _ _ λid dr=>ht.am6 (ais dF rfl) hm dr];exact h3
   ·simp only[aw]at he
 ·simp only[aw]at he
theorem arP{T:TypeId}{x:bU}(dF:o.op= .sliceToArrayPointer T x){s':AS}(he:(QA P s o.dst T (s.ev x)).eval=av s'):QS P Γ bT ops o s s':=by
 have ah2:∀t,sm P Γ bT o t=QA P t o.dst T (t.ev x):=λt=>by unfold sm;rw[dF]
 have hm:x∈o.op.operands.toList:=by rw[dF];simp[cE]
 unfold QA at he;split at he
 ·rename_i n e hT;split at he
  ·rename_i ty aUa;obtain⟨h1,h2⟩:=aH.1 he;obtain⟨l,h3,h4⟩:=ax.1 h2;obtain⟨h5,h6⟩:=b8.1 h4;obtain rfl:=az.1 h6;refine ZP (λid dr=>PN (ais dF rfl) hm (xv _ _ dr)) λt ht=> ?_
   rw[ah2,ht.ev hm];unfold QA;simp only[hT,aUa];refine aH.2 ⟨h1,ax.2 ⟨l,?_,b8.2 ⟨h5,az.2 rfl⟩⟩⟩;rw[qK _ _ λid dr=>ht.am6 (ais dF rfl) hm dr];exact h3
  ·simp only[aw]at he
 ·simp only[aw]at he
theorem anP{T:TypeId}{parts:Array (Nat×bU)}(dF:o.op= .build T parts){s':AS}(he:(Jv P s o.dst T parts.toList).eval=av s'):QS P Γ bT ops o s s':=by
 have ah2:∀t,sm P Γ bT o t=Jv P t o.dst T parts.toList:=λt=>by unfold sm;rw[dF]
 have hm:∀x∈parts.toList,x.2∈o.op.operands.toList:=λx hx=>by rw[dF];exact aqk hx
 unfold Jv at he;split at he
 ·rename_i fs hT;split at he
  ·rename_i z hz;obtain⟨h1,h2⟩:=aH.1 he;obtain⟨v,h3,h4⟩:=ax.1 h2;obtain rfl:=az.1 h4;refine nj λt ht=> ?_
   rw[ah2];unfold Jv;simp only[hT,hz];refine aH.2 ⟨h1,ax.2 ⟨v,?_,az.2 rfl⟩⟩;rw[IH _ _ λx hx=>ht.ev (hm x hx)];exact h3
  ·simp only[aw]at he
 ·rename_i n e hT;split at he
  ·rename_i ty aUa;obtain⟨h1,h2⟩:=aH.1 he;obtain⟨r,h3,h4⟩:=ax.1 h2;obtain rfl:=az.1 h4;refine ZP (λid dr=> ?_) λt ht=> ?_
   ·obtain⟨x,hx,hi⟩:=zs _ _ _ h3 id dr;exact PN (ais dF rfl) (hm x hx) hi
   ·rw[ah2];unfold Jv;simp only[hT,aUa];refine aH.2 ⟨h1,ax.2 ⟨r,?_,az.2 rfl⟩⟩;rw[CB _ _ λx hx=>⟨ht.ev (hm x hx),λid dr=>ht.am6 (ais dF rfl) (hm x hx) dr⟩];exact h3
  ·simp only[aw]at he
 ·simp only[aw]at he
theorem UU{T:TypeId}{n:Nat}{parts:Array (Nat×bU)}(dF:o.op= .buildSlice T n parts){s':AS}(he:(nU P s (aAW bT o.dst) (isObj bT o.dst) o.dst T n parts.toList).eval=av s'):QS P Γ bT ops o s s':=by
 have ah2:∀t,sm P Γ bT o t=nU P t (aAW bT o.dst) (isObj bT o.dst) o.dst T n parts.toList:=λt=>by unfold sm;rw[dF]
 have hm:∀x∈parts.toList,x.2∈o.op.operands.toList:=λx hx=>by rw[dF];exact aqk hx
 unfold nU at he;split at he
 ·rename_i e ty b q MQ hd;obtain⟨h1,h2⟩:=aH.1 he;obtain⟨r,h3,h4⟩:=ax.1 h2;have aHh:∀id∈r.2,id∈(iM Γ ops s o).rs:=λid dr=>by obtain⟨x,hx,hi⟩:=zs _ _ _ h3 id dr;exact PN (ais dF rfl) (hm x hx) hi
  have aTF:∀t,nR (iM Γ ops s o) s t->∀l,j9 ty t parts.toList l=j9 ty s parts.toList l:=λt ht l=>CB _ _ λx hx=>⟨ht.ev (hm x hx),λid dr=>ht.am6 (ais dF rfl) (hm x hx) dr⟩
  split at h4
  ·rename_i ho;obtain⟨h5,h6⟩:=aH.1 h4;obtain rfl:=az.1 h6;refine Cd hd h5 aHh λt ht hv=> ?_
   rw[ah2];unfold nU;simp only[hd]at ho MQ ⊢;simp only[MQ,ho];refine aH.2 ⟨h1,ax.2 ⟨r,by rw[aTF t ht];exact h3,aH.2 ⟨hv,az.2 rfl⟩⟩⟩
  ·rename_i ho;obtain rfl:=az.1 h4;refine ZP aHh λt ht=> ?_
   rw[ah2];unfold nU;simp only[hd]at ho MQ ⊢;simp only[MQ,ho];exact aH.2 ⟨h1,ax.2 ⟨r,by rw[aTF t ht];exact h3,az.2 rfl⟩⟩
 ·simp only[aw]at he
theorem YY{T:TypeId}{x y:bU}(dF:o.op= .makeSlice T x y){len cap:Int}(hx:(asInt (s.ev x)).eval=av len)(hy:(asInt (s.ev y)).eval=av cap){s':AS}(he:(ui P s o.dst T len cap).eval=av s'):QS P Γ bT ops o s s':=by
 have ah2:∀t,sm P Γ bT o t=(asInt (t.ev x)).bind λl=>(asInt (t.ev y)).bind λc=>ui P t o.dst T l c:=λt=>by unfold sm;rw[dF]
 have hm:∀z,z=x\/z=y->z∈o.op.operands.toList:=λz hz=>by rw[dF];simpa[cE]using hz
 unfold ui at he;split at he
 ·rename_i e ty b q MQ hd;obtain⟨h1,h2⟩:=aH.1 he;obtain⟨h3,h4⟩:=b8.1 h2;obtain rfl:=az.1 h4;refine Cd (ids:=[]) hd h1 (λ_ h=>by cases h) λt ht hv=> ?_
  rw[ah2,ht.ev (hm x (.inl rfl)),ht.ev (hm y (.inr rfl))];refine ax.2 ⟨len,hx,ax.2 ⟨cap,hy,?_⟩⟩;unfold ui;simp only[MQ,hd];exact aH.2 ⟨hv,b8.2 ⟨h3,az.2 rfl⟩⟩
 ·simp only[aw]at he
theorem alq{id:Id}{ver:Nat}{kt vt:Ty}(h:Ba (t.cq id) (s.cq id)):t.vM id ver kt vt=s.vM id ver kt vt:=by
 unfold AS.vM;rcases TG h with⟨h1,h2⟩ | ⟨v,f,f',c,h1,h2⟩
 ·rw[h1,h2]
 ·rw[h1,h2];cases c <;> rfl
theorem af0{T:TypeId}{m k:aC}{ok:Bool}(h:∀id∈m.ids,Ba (t.cq id) (s.cq id)):Ha P t T m k ok=Ha P s T m k ok:=by
 unfold Ha;split
 ·rename_i id ver hm;rw[alq (h id (by simp[aC.ids]))]
 ·rfl
theorem aid{id:Id}{ver:Nat}{kt vt:Ty}{l:List (kt.den×vt.den)}(h:(s.vM id ver kt vt).eval=av l):∃e,s.cq id=av e:=by
 unfold AS.vM at h;split at h
 ·rename_i v fr k' v' l' mX;exact⟨_,eU mX⟩
 ·simp only[aw]at h
theorem XM{id:Id}{ver:Nat}{kt vt:Ty}(h:t.cq id=s.cq id):t.vM id ver kt vt=s.vM id ver kt vt:=by unfold AS.vM AS.obj;rw[h]
theorem OF{id:Id}(h:t.cq id=s.cq id):t.wh id=s.wh id:=by unfold AS.wh AS.obj;rw[h]
theorem af4{T:TypeId}{m k v:aC}{s':AS}(h:(Hf P s T m k v).eval=av s'):
  ∃id e0 e,m.ids=[id]/\s.cq id=av e0/\s'=s.bq id e/\∀t:AS,t.cq id=s.cq id->(Hf P t T m k v).eval=av (t.bq id e):=by
 unfold Hf at h;split at h
 ·rename_i K V kt vt id ver hm;obtain⟨l,h1,h⟩:=ax.1 h;obtain⟨kx,h2,h⟩:=ax.1 h;obtain⟨vx,h3,h⟩:=ax.1 h;obtain⟨hu,h⟩:=aH.1 h;obtain rfl:=az.1 h;obtain⟨e0,akP⟩:=aid h1;refine⟨id,e0,_,rfl,akP,rfl,λt ht=> ?_⟩;unfold Hf;simp only[hm];exact ax.2 ⟨l,by rw[XM ht];exact h1,ax.2 ⟨kx,h2,ax.2 ⟨vx,h3,aH.2 ⟨by rw[OF ht];exact hu,az.2 rfl⟩⟩⟩⟩
 ·simp only[aw]at h
theorem af3{T:TypeId}{m k:aC}{s':AS}(h:(He P s T m k).eval=av s'):
  ∃id e0 e,m.ids=[id]/\s.cq id=av e0/\s'=s.bq id e/\∀t:AS,t.cq id=s.cq id->(He P t T m k).eval=av (t.bq id e):=by
 unfold He at h;split at h
 ·rename_i K V kt vt id ver hm;obtain⟨l,h1,h⟩:=ax.1 h;obtain⟨kx,h2,h⟩:=ax.1 h;obtain⟨hu,h⟩:=aH.1 h;obtain rfl:=az.1 h;obtain⟨e0,akP⟩:=aid h1;refine⟨id,e0,_,rfl,akP,rfl,λt ht=> ?_⟩;unfold He;simp only[hm];exact ax.2 ⟨l,by rw[XM ht];exact h1,ax.2 ⟨kx,h2,aH.2 ⟨by rw[OF ht];exact hu,az.2 rfl⟩⟩⟩
 ·simp only[aw]at h
theorem ahi{s':AS}(he:(sm P Γ bT o s).eval=av s'):QS P Γ bT ops o s s':=by
 have akP:=he;have one:∀x,o.op.operands= #[x]->∀t,nR (iM Γ ops s o) s t->t.ev x=s.ev x/\(aie o.op=aQ->∀id∈(s.ev x).ids,Ba (t.cq id) (s.cq id)):=λx hx t ht=>
  have hm:x∈o.op.operands.toList:=by rw[hx];simp
  ⟨ht.ev hm,λhn _ dr=>ht.am6 hn hm dr⟩
 unfold sm at he;split at he
 ·rename_i x dF;obtain rfl:=az.1 he;refine nj λt ht=> ?_
  unfold sm;rw[dF];simp only;rw[(one x (by rw[dF];rfl) t ht).1];rfl
 ·rename_i x dF;obtain rfl:=az.1 he;refine nj λt ht=> ?_
  unfold sm;rw[dF];simp only;rw[(one x (by rw[dF];rfl) t ht).1];rfl
 ·rename_i c x y dF;refine pH (F:=λt=>aye (t.ev c) (t.ev x) (t.ev y)) (λt=>by unfold sm;rw[dF]) (λt ht=> ?_) akP;rw[ht.ev (by rw[dF];simp[cE]),ht.ev (by rw[dF];simp[cE]),ht.ev (by rw[dF];simp[cE])]
 ·rename_i T dF;split at he
  ·rename_i z q hz hq;obtain⟨h1,h2⟩:=aH.1 he;obtain rfl:=az.1 h2;simp only[au]at h1;refine Cd (ids:=[]) hq h1.1 (λ_ h=>by cases h) λt ht hv=> ?_
   unfold sm;rw[dF];simp only[hz,hq];exact aH.2 ⟨by simp[hv,h1.2],az.2 rfl⟩
  ·exact(aw.1 he).elim
 ·rename_i T x dF;exact azy dF he
 ·rename_i T parts dF;exact anP dF he
 ·rename_i T n parts dF;exact UU dF he
 ·rename_i T x dF;refine pH (F:=λt=>Sx P t T (t.ev x)) (λt=>by unfold sm;rw[dF]) (λt ht=> ?_) akP;obtain⟨h1,h2⟩:=one x (by rw[dF];rfl) t ht;rw[h1,apC (h2 (ais dF rfl))]
 ·rename_i T x v dF;obtain⟨s1,h1,h2⟩:=ax.1 he;obtain rfl:=az.1 h2;obtain⟨id,e0,e,dr,hs,rfl,hl⟩:=amr h1;refine G9 hs ?_ λt ht aAN=> ?_
  ·show id∈writes Γ s o;unfold writes;rw[dF];simp only[dr,bp]
  ·unfold sm;rw[dF];simp only;rw[ht.ev (x:=x) (by rw[dF];simp[cE]),ht.ev (x:=v) (by rw[dF];simp[cE])];exact ax.2 ⟨_,hl t aAN,az.2 rfl⟩
 ·rename_i x dF;split at he
  ·rename_i id v p n hx;obtain rfl:=az.1 he;refine nj λt ht=> ?_
   unfold sm;rw[dF];simp only[(one x (by rw[dF];rfl) t ht).1,hx];rfl
  ·rename_i ty y hx;obtain rfl:=az.1 he;refine nj λt ht=> ?_
   unfold sm;rw[dF];simp only[(one x (by rw[dF];rfl) t ht).1,hx];rfl
  ·rename_i ty y hx;obtain⟨z,e,he⟩:=yJ.1 he;obtain rfl:=az.1 he;refine nj λt ht=> ?_
   unfold sm;rw[dF];simp only[(one x (by rw[dF];rfl) t ht).1,hx];exact yJ.2 ⟨z,e,az.2 rfl⟩
  ·rename_i f c hx;obtain rfl:=az.1 he;refine nj λt ht=> ?_
   unfold sm;rw[dF];simp only[(one x (by rw[dF];rfl) t ht).1,hx];rfl
  ·exact(aw.1 he).elim
 ·rename_i op T x y U dF;have aHd:x∈o.op.operands.toList:=by rw[dF];simp[cE]
  have aSN:y∈o.op.operands.toList:=by rw[dF];simp[cE]
  split at he
  ·rename_i i v1 j v2 hx hy;obtain⟨v,h1,h2⟩:=ax.1 he;obtain rfl:=az.1 h2;refine nj λt ht=> ?_
   unfold sm;rw[dF];simp only[ht.ev aHd,ht.ev aSN,hx,hy];exact ax.2 ⟨v,by rw[aAj (ht.am6 (ais dF rfl) aHd (by rw[hx];simp[aC.ids]))];exact h1,rfl⟩
  ·rename_i il;obtain⟨v,h1,h2⟩:=ax.1 he;obtain rfl:=az.1 h2;refine nj λt ht=> ?_
   unfold sm;rw[dF];simp only[ht.ev aHd,ht.ev aSN];exact ax.2 ⟨v,h1,rfl⟩
 ·rename_i op T x dF;refine pH (F:=λt=>aVn op (t.ev x)) (λt=>by unfold sm;rw[dF]) (λt ht=> ?_) akP;rw[(one x (by rw[dF];rfl) t ht).1]
 ·rename_i T U x dF;split at he
  ·rename_i id ver len hTU hx;unfold aod at he;split at he
   ·rename_i v e0 l e mX hD;split at he
    ·rename_i hE;obtain⟨h1,h2⟩:=aH.1 he;obtain⟨h3,h4⟩:=b8.1 h2;obtain rfl:=az.1 h4;refine G9 (eU mX) ?_ λt ht aAN=> ?_
     ·show id∈writes Γ s o;unfold writes;rw[dF];simp only[hTU,hx];simp[aC.ids]
     ·have hob':t.obj id=av (v,aQ,.vec e0 (.int .u8) l):=by simp only[AS.obj,aAN];exact mX
      unfold sm;rw[dF];simp only[hTU,(one x (by rw[dF];rfl) t ht).1,hx];unfold aod;simp only[hob',hD,hE];exact aH.2 ⟨h1,b8.2 ⟨h3,az.2 rfl⟩⟩
    ·exact(aw.1 he).elim
   ·exact(aw.1 he).elim
  ·rename_i id ver hx;obtain⟨v,h1,h2⟩:=ax.1 he;obtain rfl:=az.1 h2;refine nj λt ht=> ?_
   obtain⟨h3,h4⟩:=one x (by rw[dF];rfl) t ht;unfold sm;rw[dF];simp only[h3,hx];exact ax.2 ⟨v,by rw[aoe (h4 (ais dF rfl) _ (by rw[hx];simp[aC.ids]))];exact h1,rfl⟩
  ·rename_i il;obtain⟨v,h1,h2⟩:=ax.1 he;obtain rfl:=az.1 h2;refine nj λt ht=> ?_
   obtain⟨h3,h4⟩:=one x (by rw[dF];rfl) t ht;unfold sm;rw[dF];simp only[h3];exact ax.2 ⟨v,by rw[aoc (h4 (ais dF rfl))];exact h1,rfl⟩
 ·rename_i T x dF;exact arP dF he
 ·rename_i f first caps dF
  obtain⟨h1,h2⟩:=aH.1 he;obtain rfl:=az.1 h2;refine nj λt ht=> ?_
  have hc:tT t caps.toList=tT s caps.toList:=Ri _ λx hx=>ht.ev (by rw[dF];simp only[cE,ct];exact bD.2 (.inr hx))
  unfold sm;rw[dF];simp only[hc];exact aH.2 ⟨h1,az.2 rfl⟩
 ·rename_i T l c dF;obtain⟨n,h1,h2⟩:=ax.1 he;obtain⟨m,h3,h4⟩:=ax.1 h2;exact YY dF h1 h3 h4
 ·rename_i T x lo hi dF;refine pH (F:=λt=>Le P t T (t.ev x) lo hi) (λt=>by unfold sm;rw[dF]) (λt ht=> ?_) akP;have hm:∀z,(z=x\/lo=av z\/hi=av z)->z∈o.op.operands.toList:=λz hz=>by
   rw[dF];simp only[cE,ct,bD];rcases hz with rfl | rfl | rfl
   ·left;left;left;simp
   ·left;left;right;simp
   ·left;right;simp
  have hx:=hm x (.inl rfl);rw[ht.ev hx];exact TK (λid dr=>ht.am6 (ais dF rfl) hx dr) (λy hy=>ht.ev (hm y (.inr (.inl hy)))) (λy hy=>ht.ev (hm y (.inr (.inr hy))))
 ·rename_i T x lo y m dF;refine pH (F:=λt=>TJ P t T (t.ev x) lo y m) (λt=>by unfold sm;rw[dF]) (λt ht=> ?_) akP;have hm:∀z,(z=x\/lo=av z\/y=z\/m=z)->z∈o.op.operands.toList:=λz hz=>by
   rw[dF];simp only[cE,ct,bD];rcases hz with rfl | rfl | rfl | rfl
   ·left;left;left;simp
   ·left;left;right;simp
   ·left;right;simp
   ·right;simp
  have hx:=hm x (.inl rfl);rw[ht.ev hx];exact agF (λid dr=>ht.am6 (ais dF rfl) hx dr) (λz hz=>ht.ev (hm z (.inr (.inl hz)))) (ht.ev (hm y (.inr (.inr (.inl rfl))))) (ht.ev (hm m (.inr (.inr (.inr rfl)))))
 ·rename_i T x f dF;refine pH (F:=λt=>G2 P T (t.ev x) f) (λt=>by unfold sm;rw[dF]) (λt ht=> ?_) akP;rw[(one x (by rw[dF];rfl) t ht).1]
 ·rename_i T x f dF;refine pH (F:=λt=>akG P T (t.ev x) f) (λt=>by unfold sm;rw[dF]) (λt ht=> ?_) akP;rw[(one x (by rw[dF];rfl) t ht).1]
 ·rename_i T x i dF;refine pH (F:=λt=>(asInt (t.ev i)).bind λi=>ud P t T (t.ev x) i) (λt=>by unfold sm;rw[dF,Out.bind_assoc]) (λt ht=> ?_) akP;have hx:x∈o.op.operands.toList:=by rw[dF];simp[cE]
  rw[ht.ev (x:=i) (by rw[dF];simp[cE]),ht.ev hx];congr 1;funext i;exact Vq λid dr=>ht.am6 (ais dF rfl) hx dr
 ·rename_i T x i dF;refine pH (F:=λt=>(asInt (t.ev i)).bind λi=>ak2 P T (t.ev x) i) (λt=>by unfold sm;rw[dF,Out.bind_assoc]) (λt ht=> ?_) akP;rw[ht.ev (x:=i) (by rw[dF];simp[cE]),ht.ev (x:=x) (by rw[dF];simp[cE])]
 ·rename_i x i dF;refine pH (F:=λt=>Out.opt ((t.ev x).list[i]?)) (λt=>by unfold sm;rw[dF]) (λt ht=> ?_) akP;rw[(one x (by rw[dF];rfl) t ht).1]
 ·rename_i T dF;have R5:=he;unfold J8 at R5;split at R5
  ·rename_i K V kt vt q hm hd;obtain⟨h1,h2⟩:=aH.1 R5;obtain rfl:=az.1 h2;refine Cd (ids:=[]) hd h1 (λ_ h=>by cases h) λt ht hv=> ?_
   unfold sm;rw[dF];simp only;unfold J8;simp only[hm,hd];exact aH.2 ⟨hv,az.2 rfl⟩
  ·exact(aw.1 R5).elim
 ·rename_i T x i ok dF;refine pH (F:=λt=>Ha P t T (t.ev x) (t.ev i) ok) (λt=>by unfold sm;rw[dF]) (λt ht=> ?_) akP;have hx:x∈o.op.operands.toList:=by rw[dF];simp[cE]
  rw[ht.ev (x:=i) (by rw[dF];simp[cE]),ht.ev hx];exact af0 λid dr=>ht.am6 (ais dF rfl) hx dr
 ·rename_i T m k x dF;obtain⟨s1,h1,h2⟩:=ax.1 he;obtain rfl:=az.1 h2;obtain⟨id,e0,e,dr,hs,rfl,hl⟩:=af4 h1;refine G9 hs ?_ λt ht aAN=> ?_
  ·show id∈writes Γ s o;unfold writes;rw[dF];simp only[dr,bp]
  ·unfold sm;rw[dF];simp only;rw[ht.ev (x:=m) (by rw[dF];simp[cE]),ht.ev (x:=k) (by rw[dF];simp[cE]),ht.ev (x:=x) (by rw[dF];simp[cE])];exact ax.2 ⟨_,hl t aAN,az.2 rfl⟩
 ·rename_i c dF;obtain⟨cal,args,tys⟩:=c;simp only at he;split at he
  ·split at he
   ·rename_i m k T T2 ha ht';have aWc:m∈o.op.operands.toList:=by rw[dF];simp only[cE,eE,aY,ct,ha];simp
    have aNa:k∈o.op.operands.toList:=by rw[dF];simp only[cE,eE,aY,ct,ha];simp
    obtain⟨s1,h1,h2⟩:=ax.1 he;obtain rfl:=az.1 h2;obtain⟨id,e0,e,dr,hs,rfl,hl⟩:=af3 h1;refine G9 hs ?_ λt ht aAN=> ?_
    ·show id∈writes Γ s o;unfold writes;rw[dF];simp only[ha,dr,bp]
    ·unfold sm;rw[dF];simp only[ha,ht'];rw[ht.ev aWc,ht.ev aNa];exact ax.2 ⟨_,hl t aAN,az.2 rfl⟩
   ·exact(aw.1 he).elim
  ·split at he
   ·rename_i x y T X ha ht';exact atv dF rfl ha ht' he
   ·exact(aw.1 he).elim
  ·split at he
   ·rename_i x T ha ht';refine pH (F:=λt=>aNG P T (t.ev x)) (λt=>by unfold sm;rw[dF];simp only[ha,ht']) (λt ht=> ?_) akP;rw[ht.ev (by rw[dF];simp only[cE,eE,aY,ct,ha];simp)]
   ·exact(aw.1 he).elim
  ·split at he
   ·rename_i x y T X ha ht';have aHd:x∈o.op.operands.toList:=by rw[dF];simp only[cE,eE,aY,ct,ha];simp
    have aSN:y∈o.op.operands.toList:=by rw[dF];simp only[cE,eE,aY,ct,ha];simp
    split at he
    ·rename_i k n hx hy;have R5:=he;unfold ao3 at R5;split at R5
     ·rename_i e t0 b q kn MQ hd hX;obtain⟨h1,h2⟩:=aH.1 R5;obtain⟨h3,h4⟩:=b8.1 h2;obtain rfl:=az.1 h4;refine Cd (ids:=[]) hd h1 (λ_ h=>by cases h) λt ht hv=> ?_
      unfold sm;rw[dF];simp only[ha,ht',ht.ev aHd,ht.ev aSN,hx,hy];unfold ao3;simp only[MQ,hd,hX];exact aH.2 ⟨hv,b8.2 ⟨h3,az.2 rfl⟩⟩
     ·exact(aw.1 R5).elim
    ·rename_i il;exact ajB dF rfl ha ht' il he
   ·exact(aw.1 he).elim
  ·split at he
   ·rename_i x T ha ht';have aHd:x∈o.op.operands.toList:=by rw[dF];simp only[cE,eE,aY,ct,ha];simp
    split at he
    ·rename_i e hx hT;obtain rfl:=az.1 he;refine nj λt ht=> ?_
     unfold sm;rw[dF];simp only[ha,ht',ht.ev aHd,hx,hT];rfl
    ·exact(aw.1 he).elim
   ·exact(aw.1 he).elim
  ·refine pH (F:=λt=>aBm aZ (args.toList.map t.ev)) (λt=>by unfold sm;rw[dF]) (λt ht=> ?_) akP;congr 1;exact ij λx hx=>ht.ev (by rw[dF];simp only[cE,eE,aY,ct];exact hx)
  ·refine pH (F:=λt=>aBm aQ (args.toList.map t.ev)) (λt=>by unfold sm;rw[dF]) (λt ht=> ?_) akP;congr 1;exact ij λx hx=>ht.ev (by rw[dF];simp only[cE,eE,aY,ct];exact hx)
  ·split at he
   ·rename_i x ha;have aHd:x∈o.op.operands.toList:=by rw[dF];simp only[cE,eE,aY,ct,ha];simp
    split at he
    ·rename_i id ver len hx;obtain⟨h1,h2⟩:=b8.1 he;obtain rfl:=az.1 h2;refine nj λt ht=> ?_
     unfold sm;rw[dF];simp only[ha,ht.ev aHd,hx];exact b8.2 ⟨h1,rfl⟩
    ·exact(aw.1 he).elim
   ·exact(aw.1 he).elim
  ·split at he
   ·rename_i x y T U ha ht';have aHd:x∈o.op.operands.toList:=by rw[dF];simp only[cE,eE,aY,ct,ha];simp
    have aSN:y∈o.op.operands.toList:=by rw[dF];simp only[cE,eE,aY,ct,ha];simp
    split at he
    ·rename_i id ver n hx hy;have R5:=he;unfold arL at R5;split at R5
     ·rename_i v e l u mX hT;obtain⟨h1,h2⟩:=aH.1 R5;obtain⟨h3,h4⟩:=b8.1 h2;obtain rfl:=az.1 h4;refine G9 (eU mX) ?_ λt ht aAN=> ?_
      ·show id∈writes Γ s o;unfold writes;rw[dF];simp only[ha,hx];simp[aC.ids]
      ·have hob':t.obj id=av (v,aQ,.vec e (.int .u8) l):=by simp only[AS.obj,aAN];exact mX
       unfold sm;rw[dF];simp only[ha,ht',ht.ev aHd,ht.ev aSN,hx,hy];unfold arL;simp only[hob',hT];exact aH.2 ⟨h1,b8.2 ⟨h3,az.2 rfl⟩⟩
     ·exact(aw.1 R5).elim
    ·exact(aw.1 he).elim
   ·exact(aw.1 he).elim
  ·rename_i F _;split at he
   ·rename_i f caps hF;split at he
    ·rename_i en atY;obtain⟨iA,he⟩:=aH.1 he;exact as9 dF rfl hF atY iA he
    ·exact(aw.1 he).elim
   ·exact(aw.1 he).elim
  ·exact(aw.1 he).elim
 ·exact(aw.1 he).elim
end
end Go.Ab
namespace Go.Ab
section
variable {P:aT} {Γ:pO} {bT:List Nat} {ops:Array Oper} {o:Oper} {s t:AS}
def Loc(P:aT)(Γ:pO)(bT:List Nat)(ops:Array Oper)(o:Oper)(s s':AS):Prop:=∃E,App o.dst E s s'/\ajw (iM Γ ops s o) s E/\∀t,nR (iM Γ ops s o) s t->∃t',MO P Γ bT ops o t=av t'/\App o.dst E t t'
theorem abJ{s':AS}(he:MO P Γ bT ops o s=av s'):Loc P Γ bT ops o s s':=by
 unfold MO at he;split at he
 ·rename_i hg;obtain⟨E,h1,h2,h3⟩:=ahi (ops:=ops) he;refine⟨E,h1,h2,λt ht=> ?_⟩;obtain⟨t',h4,h5⟩:=h3 t ht;exact⟨t',by unfold MO;simp only[hg];exact h4,h5⟩
 ·rename_i j want hg;split at he
  ·rename_i q hq;split at he
   ·rename_i b hb;have axH:∀t,nR (iM Γ ops s o) s t->t.slot q= .d .bool b:=λt ht=>by rw[ht.cM q (bD.2 (.inr (by unfold Vh;simp only[hg,hq];simp)))];exact hb
    by_cases e:b=want
    ·rw[if_pos e]at he;obtain⟨E,h1,h2,h3⟩:=ahi (ops:=ops) he;refine⟨E,h1,h2,λt ht=> ?_⟩;obtain⟨t',h4,h5⟩:=h3 t ht;exact⟨t',by unfold MO;simp only[hg,hq,axH t ht,if_pos e];exact h4,h5⟩
    ·rw[if_neg e]at he;simp only[aA]at he;subst he;exact⟨⟨.nil,λ_=>aD,[]⟩,App.Mn _ _ _,⟨λ_ _ h=>by simp at h,λ_ h=>by simp at h⟩,λt ht=>⟨_,by unfold MO;simp only[hg,hq,axH t ht,if_neg e],App.Mn _ _ _⟩⟩
   ·rename_i hb;have axH:∀t,nR (iM Γ ops s o) s t->t.slot q= .nil:=λt ht=>by rw[ht.cM q (bD.2 (.inr (by unfold Vh;simp only[hg,hq];simp)))];exact hb
    simp only[aA]at he;subst he;exact⟨⟨.nil,λ_=>aD,[]⟩,App.Mn _ _ _,⟨λ_ _ h=>by simp at h,λ_ h=>by simp at h⟩,λt ht=>⟨_,by unfold MO;simp only[hg,hq,axH t ht],App.Mn _ _ _⟩⟩
   ·cases he
  ·cases he
theorem amU(h:nR (iM Γ ops s o) s t):writes Γ t o=writes Γ s o:=by
 have aLB:∀id∈writes Γ s o,t.cq id=s.cq id:=h.ws;unfold writes at aLB ⊢;split
 ·rename_i x v dF;rw[h.ev (by rw[dF];simp[cE])]
 ·rename_i m k v dF;rw[h.ev (by rw[dF];simp[cE])]
 ·rename_i T U x dF;rw[h.ev (by rw[dF];simp[cE])]
 ·rename_i c dF;obtain⟨cal,args,tys⟩:=c;simp only[dF]at aLB;simp only;split
  ·split
   ·rename_i x l ha;rw[h.ev (by rw[dF];simp only[cE,eE,aY,ct,ha];simp)]
   ·rfl
  ·split
   ·rename_i x l ha;rw[h.ev (by rw[dF];simp only[cE,eE,aY,ct,ha];simp)]
   ·rfl
  ·split
   ·rename_i x l ha;rw[h.ev (by rw[dF];simp only[cE,eE,aY,ct,ha];simp)]
   ·rfl
  ·split
   ·rename_i x l ha;rw[h.ev (by rw[dF];simp only[cE,eE,aY,ct,ha];simp)]
   ·rfl
  ·rename_i F;simp only at aLB;have hm:∀z,z=F\/z∈args.toList->z∈o.op.operands.toList:=λz hz=>by
    rw[dF];simp only[cE,eE,ct,bD];rcases hz with rfl | hz
    ·exact .inl (by simp)
    ·exact .inr hz
   have h1:t.ev F=s.ev F:=h.ev (hm F (.inl rfl));have h2:args.toList.map t.ev=args.toList.map s.ev:=ij λx hx=>h.ev (hm x (.inr hx))
   rw[h1];split
   ·rename_i f caps hF;simp only[hF]at aLB;rw[h2];split
    ·rename_i en atY;simp only[atY]at aLB;exact yT _ _ _ λid dr=>by rw[aLB id dr]
    ·rfl
   ·rfl
  ·rfl
 ·rfl
theorem abC(h:nR (iM Γ ops s o) s t):iM Γ ops t o=iM Γ ops s o:=by
 have h1:=amU h;have h2:ap9 t o=ap9 s o:=by
  unfold ap9;split
  ·rfl
  unfold List.flatMap;congr 1;exact ij λi hi=>by rw[h.cM i (bD.2 (.inl hi))]
 unfold iM;rw[h1,h2]
theorem yO{xs ys:List Id}(h:meets xs ys=aQ){id:Id}(hx:id∈xs):id ∉ ys:=by
 intro hy;have:meets xs ys=aZ:=by unfold meets;exact List.any_eq_true.2 ⟨id,hx,List.any_eq_true.2 ⟨id,hy,by simp⟩⟩
 rw[h]at this;cases this
theorem vX{d:Option Tmp}{ids:List Id}(h:aer d ids=aQ){q:Nat}(hd:d=av q)(j:Nat):Id.new q j ∉ ids:=by
 intro hy;have:aer d ids=aZ:=by subst hd;exact List.any_eq_true.2 ⟨_,hy,by simp⟩
 rw[h]at this;cases this
theorem Me{f g:Jh}(h:f.aTQ g=aQ){q:Nat}(hd:f.dst=av q):q ∉ g.cM/\g.dst≠av q:=by unfold Jh.aTQ at h;rw[hd]at h;simp only[Bool.or_eq_false_iff,jW,bf,iL]at h;exact⟨λhx=>h.1 q hx rfl,h.2⟩
theorem arx(s:AS)(d:Option Tmp)(v:aC)(i:Nat)(h:d≠av i):(s.put d v).slot i=s.slot i:=by
 cases d with
 |none=>rfl
 |some q=>rw[aeu,if_neg];rintro⟨rfl,_⟩;exact h rfl
theorem App.slot{d:Option Tmp}{E:aSw}{s s':AS}(h:App d E s s')(i:Nat)(hi:d≠av i):s'.slot i=s.slot i:=by rw[<-arx s d E.v i hi];simp only[AS.slot,h.cM]
theorem anb{f f':Jh}{E:aSw}{s s1:AS}(ha:App f.dst E s s1)(hw:ajw f s E)(aWu:∀id∈f'.ws,id∈f'.rs)(h1:f.aTQ f'=aQ)(h2:meets f.ws f'.rs=aQ)(h3:meets f'.ws f.rs=aQ)
  (h4:aer f.dst f'.rs=aQ):(∀i∈f'.cM,s1.slot i=s.slot i)/\(∀id∈f'.ws,s1.cq id=s.cq id)/\(∀id∈f'.rs,Ba (s1.cq id) (s.cq id))/\∀q,f'.dst=av q->s1.eS q=s.eS q:=by
 have YU:∀id∈f'.rs,E.up id=aD:=λid dr=>by
  cases hu:E.up id with
  |none=>rfl
  |some e=>
   rcases hw.up id e hu with⟨h,_⟩ | ⟨q,j,hd,rfl⟩
   ·exact absurd dr (yO h2 h)
   ·exact absurd dr (vX h4 hd j)
 refine⟨λi hi=>ha.slot i λhd=>(Me h1 hd).1 hi,λid dr=> ?_,λid dr=> ?_,λq hq=> ?_⟩
 ·rw[ha.cq,YU id (aWu id dr)];have:id ∉ E.fz:=λhz=>yO h3 dr (hw.fz id hz)
  simp only[if_neg this]
 ·rw[ha.cq,YU id dr];simp only;split
  ·exact aCY _
  ·exact aCZ _
 ·have il:∀j,(s1.cq (.new q j)=aD↔s.cq (.new q j)=aD):=λj=>by
   rw[ha.cq];cases hu:E.up (.new q j) with
   |none=>
    simp only;split <;> simp
   |some e=>
    rcases hw.up _ e hu with⟨_,h⟩ | ⟨q',j',hd,he⟩
    ·simp[h]
    ·simp only[Id.new.injEq]at he;obtain⟨rfl,_⟩:=he;exact absurd hq (Me h1 hd).2
  rw[Bool.eq_iff_iff,CM,CM,ha.len];exact and_congr Iff.rfl (forall_congr' il)
theorem JO(s:AS)(o:Oper):∀id∈(iM Γ ops s o).ws,id∈(iM Γ ops s o).rs:=λ_ dr=>bD.2 (.inr dr)
theorem swap{o':Oper}{s1 s2:AS}(h1:MO P Γ bT ops o s=av s1)(h2:MO P Γ bT ops o' s1=av s2)(hi:(iM Γ ops s o).indep (iM Γ ops s1 o')=aZ):
  ∃t1,MO P Γ bT ops o' s=av t1/\MO P Γ bT ops o t1=av s2/\iM Γ ops s o'=iM Γ ops s1 o'/\iM Γ ops t1 o=iM Γ ops s o:=by
 unfold Jh.indep at hi;simp only[au,cS]at hi;obtain⟨⟨⟨⟨⟨i1,i2⟩,i3⟩,i4⟩,i5⟩,i6⟩:=hi;obtain⟨E,a1,w1,l1⟩:=abJ h1;obtain⟨E',a2,w2,l2⟩:=abJ h2;obtain⟨g1,g2,g3,g4⟩:=anb (f:=iM Γ ops s o) (f':=iM Γ ops s1 o') a1 w1 (JO _ _) i1 i3 i4 i5;have QO:nR (iM Γ ops s1 o') s1 s:=⟨λi hi=>(g1 i hi).symm,λid dr=>(g2 id dr).symm,λid dr=>by
  have:=g3 id dr
  revert this
  cases s1.cq id <;> cases s.cq id <;> simp only[Ba] <;> intro h <;> first | trivial | exact h | skip
  rename_i a b;cases a <;> cases b <;> simp_all [dW.am6],λq hq=>(g4 q hq).symm⟩
 obtain⟨t1,k1,k2⟩:=l2 s QO;have hf':=abC QO;have w2':ajw (iM Γ ops s1 o') s E':=⟨λid e hu=>by
  rcases w2.up id e hu with⟨h,hn⟩ | h
  ·exact .inl ⟨h,by rw[<-g2 id h];exact hn⟩
  ·exact .inr h,w2.fz⟩
 obtain⟨m1,m2,m3,m4⟩:=anb (f:=iM Γ ops s1 o') (f':=iM Γ ops s o) k2 w2' (JO _ _) i2 i4 i3 i6;have aTu:nR (iM Γ ops s o) s t1:=⟨m1,m2,m3,m4⟩;obtain⟨t2,k3,k4⟩:=l1 t1 aTu;refine⟨t1,k1,?_,hf',abC aTu⟩;rw[k3];congr 1;have aUb:∀id e,E.up id=av e->E'.up id=aD/\id ∉ E'.fz:=λid e hu=>by
  rcases w1.up id e hu with⟨h,hn⟩ | ⟨q,j,hd,rfl⟩
  ·refine⟨?_,λhz=>yO i3 h (w2.fz id hz)⟩;cases hu':E'.up id with
   |none=>rfl
   |some e'=>
    rcases w2.up id e' hu' with⟨h',_⟩ | ⟨q,j,hd,rfl⟩
    ·exact absurd (JO _ _ id h') (yO i3 h)
    ·exact absurd (JO _ _ _ h) (vX i6 hd j)
  ·refine⟨?_,λhz=>vX i5 hd j (w2.fz _ hz)⟩;cases hu':E'.up (.new q j) with
   |none=>rfl
   |some e'=>
    rcases w2.up _ e' hu' with⟨h',_⟩ | ⟨q',j',hd',he⟩
    ·exact absurd (JO _ _ _ h') (vX i5 hd j)
    ·simp only[Id.new.injEq]at he;obtain⟨rfl,_⟩:=he;exact absurd hd' (Me i1 hd).2
 have aWB:∀id e,E'.up id=av e->E.up id=aD/\id ∉ E.fz:=λid e hu=>by
  have hn:E.up id=aD:=by
   cases aZg:E.up id with
   |none=>rfl
   |some e1=>rw[(aUb id e1 aZg).1]at hu;cases hu
  refine⟨hn,λhz=> ?_⟩;rcases w2.up id e hu with⟨h,_⟩ | ⟨q,j,hd,rfl⟩
  ·exact yO i4 h (w1.fz id hz)
  ·exact vX i6 hd j (w1.fz _ hz)
 refine AS.aGH ?_ (by rw[k4.len,k2.len,a2.len,a1.len]) λid=> ?_
 ·have e1:∀(u u':AS) (d:Option Tmp) (v:aC),u.cM=u'.cM->(u.put d v).cM=(u'.put d v).cM:=λu u' d v h=>by cases d <;> simp[AS.put,h]
  rw[k4.cM,a2.cM,e1 t1 (s.put o'.dst E'.v) _ _ k2.cM,e1 s1 (s.put o.dst E.v) _ _ a1.cM];cases hd:o.dst with
  |none=>cases o'.dst <;> rfl
  |some q=>
   cases hd':o'.dst with
   |none=>rfl
   |some q'=>
    have il:q'≠q:=λe=>(Me (f:=iM Γ ops s o) i1 hd).2 (by show o'.dst=av q;rw[hd',e])
    simp only[AS.put];exact List.set_comm _ _ il
 ·rw[k4.cq,k2.cq,a2.cq,a1.cq];cases hu:E.up id with
  |some e=>
   obtain⟨h3,h4⟩:=aUb id e hu;simp only[h3,if_neg h4]
  |none=>
   simp only;cases hu':E'.up id with
   |some e=>
    obtain⟨_,h4⟩:=aWB id e hu';simp only[if_neg h4]
   |none=>
    simp only;by_cases z1:id∈E.fz <;> by_cases z2:id∈E'.fz <;> simp only[if_pos,if_neg,z1,z2,not_false_eq_true]
end
end Go.Ab
namespace Go.Ab
section
variable {P:aT} {Γ:pO} {bT:List Nat} {ops:Array Oper}
def am7(P:aT)(Γ:pO)(bT:List Nat)(ops:Array Oper)(fs:Nat->Jh):List Nat->AS->AS->Prop
 |[],s,sn=>s=sn
 |i::l,s,sn=>∃o,ops[i]? =av o/\iM Γ ops s o=fs i/\∃s',MO P Γ bT ops o s=av s'/\am7 P Γ bT ops fs l s' sn
theorem am7.aFf{fs:Nat->Jh}{i:Nat}{l2:List Nat}{sn:AS}:∀(l1:List Nat) {s:AS},am7 P Γ bT ops fs (l1++i::l2) s sn->(∀j∈l1,(fs j).indep (fs i)=aZ)->am7 P Γ bT ops fs (i::(l1++l2)) s sn
 |[],_,h,_=>h
 |j::l1,s,h,hi=>by
  obtain⟨oj,h1,h2,s1,h3,h4⟩:=h;obtain⟨oi,h5,h6,s2,h7,h8⟩:=am7.aFf l1 h4 λj hj=>hi j (aF _ hj)
  have hd:=hi j (aK ..);rw[<-h2,<-h6]at hd;obtain⟨t1,k1,k2,k3,k4⟩:=swap h3 h7 hd;exact⟨oi,h5,by rw[k3,h6],t1,k1,oj,h1,by rw[k4,h2],s2,k2,h8⟩
theorem ahZ{R:Type}{anc:List Nat}{k:AS->Option R}{r:R}:∀(l:List Oper) (i:Nat) (acc:List (Nat×Jh)) (s:AS) (f0:Nat->Jh),(∀n o,l[n]? =av o->ops[i+n]? =av o)->(∀x∈acc,f0 x.1=x.2/\x.1 < i)->
  ahY P Γ bT ops anc i l acc s k=av r->∃fs sn,(∀j,j < i->fs j=f0 j)/\am7 P Γ bT ops fs (List.range' i l.length) s sn/\k sn=av r/\
   (∀x∈acc,∀m,i<=m->m < i+l.length->(anc.getD m 0).testBit x.1=aZ\/x.2.indep (fs m)=aZ)/\(∀m1 m2,i<=m1->m1 < m2->m2 < i+l.length->(anc.getD m2 0).testBit m1=aZ\/(fs m1).indep (fs m2)=aZ)
 |[],i,acc,s,f0,_,_,h=>⟨f0,s,λ_ _=>rfl,rfl,h,λ_ _ m h1 h2=>by simp at h2;omega,λ_ _ h1 h2 h3=>by simp at h3;omega⟩
 |o::l,i,acc,s,f0,ho,hf,h=>by
  unfold ahY at h;split at h
  ·rename_i Eu;simp only[AS.TB]at h;obtain⟨s',h1,h2⟩:=ao2 (k:=λs'=>ahY P Γ bT ops anc (i+1) l ((i,iM Γ ops s o)::acc) s' k) h;have aVL:∀x∈(i,iM Γ ops s o)::acc,(if x.1=i then iM Γ ops s o else f0 x.1)=x.2/\x.1 < i+1:=λx hx=>by
    rcases cv.1 hx with rfl | hx
    ·simp
    ·obtain⟨q1,q2⟩:=hf x hx;rw[if_neg ak];exact⟨q1,ak⟩
   obtain⟨fs,sn,g1,g2,g3,g4,g5⟩:=ahZ l (i+1) ((i,iM Γ ops s o)::acc) s' (λn=>if n=i then iM Γ ops s o else f0 n)
    (λn o' hn=>by have:=ho (n+1) o' (by simpa using hn);rw[<-this];congr 1;omega) aVL h2
   have gi:fs i=iM Γ ops s o:=by rw[g1 i ak,if_pos rfl]
   refine⟨fs,sn,λj hj=>by rw[g1 j ak,if_neg ak],?_,g3,λx hx m h3 h4=> ?_,λm1 m2 h3 h4 h5=> ?_⟩
   ·rw[aB,List.range'_succ];exact⟨o,ho 0 o rfl,gi.symm,s',h1,g2⟩
   ·rcases Nat.eq_or_lt_of_le h3 with rfl | h3
    ·have:=dp.1 Eu x hx;simp only[gR]at this;rcases this with h | h
     ·exact .inl h
     ·right;rw[gi];exact h
    ·exact g4 x (aF _ hx) m ak (by simp only[aB]at h4;omega)
   ·rcases Nat.eq_or_lt_of_le h3 with rfl | h3
    ·rw[gi];exact g4 (i,iM Γ ops s o) (aK ..) m2 ak (by simp only[aB]at h5;omega)
    ·exact g5 m1 m2 ak h4 (by simp only[aB]at h5;omega)
  ·cases h
theorem anj{acc:List Nat}{j:Nat}:∀ {l:List Edge},(l.foldr (λe m=>Nat.lor (Nat.lor (Nat.pow 2 e.on) (acc.getD e.on 0)) m) 0).testBit j=aZ->∃e∈l,j=e.on\/(acc.getD e.on 0).testBit j=aZ
 |[],h=>by simp at h
 |e::l,h=>by
  rw[List.foldr_cons,show ∀x y,Nat.lor x y=x ||| y from λ_ _=>rfl,show ∀x y,Nat.lor x y=x ||| y from λ_ _=>rfl,Nat.testBit_or,Nat.testBit_or,show Nat.pow 2 e.on=2^e.on from rfl,Nat.testBit_two_pow]at h;simp only[gR,bf]at h;rcases h with(h | h) | h
  ·exact⟨e,aK ..,.inl h.symm⟩
  ·exact⟨e,aK ..,.inr h⟩
  ·obtain⟨e',h1,h2⟩:=anj h;exact⟨e',aF _ h1,h2⟩
theorem ahh:∀(l:List Oper) (acc:List Nat),(∀i,i < acc.length->(l.foldl (λacc o=>acc++ [ajy acc o]) acc)[i]? =acc[i]?)/\
  ∀i o,l[i]? =av o->(l.foldl (λacc o=>acc++ [ajy acc o]) acc)[acc.length+i]? =av (ajy ((l.foldl (λacc o=>acc++ [ajy acc o]) acc).take (acc.length+i)) o)
 |[],acc=>⟨λ_ _=>rfl,λi o h=>by simp at h⟩
 |x::l,acc=>by
  obtain⟨h1,h2⟩:=ahh l (acc++ [ajy acc x]);simp only[bz];refine⟨λi hi=> ?_,λi o hi=> ?_⟩
  ·rw[h1 i (by simp;omega),fS hi]
  ·cases i with
   |zero=>
    simp only[gF,aA]at hi;subst hi;rw[cK,h1 _ (by simp)];have:(l.foldl (λacc o=>acc++ [ajy acc o]) (acc++ [ajy acc x])).take acc.length=acc:=by
     apply lY;intro j;rw[dD];split
     ·rename_i hj;rw[h1 j (by simp;omega),fS hj]
     ·rename_i hj;rw[dY ak]
    rw[this];simp
   |succ i=>
    have:=h2 i o (by simpa using hi);simp only[ai,aB,bl,aR]at this;rw[show acc.length+(i+1)=acc.length+1+i by omega];exact this
theorem aEy{l:List Oper}{i:Nat}{o:Oper}(hi:l[i]? =av o){j:Nat}(hj:((ank l).getD i 0).testBit j=aZ):∃e∈o.after.toList,Region.binds .any e=aZ/\(j=e.on\/((ank l).getD e.on 0).testBit j=aZ):=by
 have h:=(ahh l []).2 i o hi;have e:ank l=l.foldl (λacc o=>acc++ [ajy acc o]) []:=rfl;rw[<-e]at h;simp only[bl,aR]at h;rw[aJ,h]at hj;obtain⟨e,h1,h3⟩:=anj hj;obtain⟨h1,h2⟩:=oW.1 h1;refine⟨e,h1,h2,h3.imp id λh4=> ?_⟩;rw[aJ,dD]at h4;split at h4
 ·rw[aJ];exact h4
 ·simp at h4
def ajf(n:Nat)(listed:Array Bool):List Nat:=(List.range n).filter λi=> !listed.getD i aZ
theorem SE{n:Nat}{listed:Array Bool}{i:Nat}:i∈ajf n listed↔i < n/\listed.getD i aZ=aQ:=by simp[ajf]
theorem QL(n:Nat)(listed:Array Bool):(ajf n listed).Pairwise (· < ·):=(List.pairwise_lt_range).filter _
theorem abI{listed:Array Bool}{i j:Nat}(d:Bool)(hi:i < listed.size):(listed.setIfInBounds i aZ).getD j d=if j=i then aZ else listed.getD j d:=by
 simp only[cX,eF];by_cases h:i=j
 ·subst h;simp[hi]
 ·simp[h,Ne.symm h]
theorem aO7{listed:Array Bool}{i:Nat}(hi:i < listed.size){l1 l2:List Nat}(h:ajf listed.size listed=l1++i::l2):ajf listed.size (listed.setIfInBounds i aZ)=l1++l2:=by
 have hs:=QL listed.size listed;rw[h]at hs;obtain⟨p1,p2,p3⟩:=List.pairwise_append.1 hs;obtain⟨p4,_⟩:=tP.1 p2;have e:ajf listed.size (listed.setIfInBounds i aZ)=(ajf listed.size listed).filter λj=>decide (j≠i):=by
  unfold ajf;rw[List.filter_filter];refine List.filter_congr λj _=> ?_
  rw[abI aZ hi];by_cases hj:j=i
  ·simp[hj]
  ·simp[hj]
 rw[e,h,List.filter_append,List.filter_cons];have f1:l1.filter (λj=>decide (j≠i))=l1:=je.2 λj hj=>by have:=p3 j hj i (aK ..);simp;omega
 have f2:l2.filter (λj=>decide (j≠i))=l2:=je.2 λj hj=>by have:=p4 j hj;simp;omega
 rw[f1,f2];simp
theorem ayW{rd:Option Nat}{n:Nat}{C:Ctx}(hΓ:Sound P Γ){fs:Nat->Jh}{sn:AS}{Q:Exit->Act->cd->Prop}(hE:aku ops.toList=aZ)
  (aV2:∀m1 m2,m1 < m2->m2 < ops.size->((ank ops.toList).getD m2 0).testBit m1=aZ\/(fs m1).indep (fs m2)=aZ) (hQ:∀a w,jf C sn a w->Q .normal a w):
  ∀(fuel:Nat) (listed:Array Bool) (s:AS) (a:Act) (w:cd),listed.size=ops.size->(ajf ops.size listed).length=fuel->
   (∀i,i < ops.size->listed.getD i aZ=aZ->∀j,((ank ops.toList).getD i 0).testBit j=aZ->listed.getD j aQ=aZ)->am7 P Γ bT ops fs (ajf ops.size listed) s sn->jf C s a w->wpAnyIn (Fr rd) n P .any ops Q fuel listed a w:=by
 have aPB:∀i o,ops[i]? =av o->∀e∈o.after.toList,Region.binds .any e=aZ->e.on < i:=λi o hi e he hb=>by have:=dp.1 hE (o,i) (List.mem_zipIdx_iff_getElem?.2 (by simpa using hi));have:=dp.1 this e he;simpa[hb]using this
 have aRi:∀(listed:Array Bool),listed.size=ops.size->∀i,i∈Region.ready .any ops listed↔i∈ajf ops.size listed/\∀o,ops[i]? =av o->∀e∈o.after.toList,Region.binds .any e=aZ->listed.getD e.on aQ=aZ:=λlisted _ i=>by
  rw[SE];unfold Region.ready;simp only[oW,List.mem_range,au,cS];constructor
  ·rintro⟨h1,h2,h3⟩;refine⟨⟨h1,h2⟩,λo ho e he hb=> ?_⟩;rw[ho]at h3;simp only[eJ,eo,Array.all_eq_true',gR,cS]at h3;rcases h3 e (by simpa using he) with h | h
   ·rw[hb]at h;cases h
   ·exact h
  ·rintro⟨⟨h1,h2⟩,h3⟩;refine⟨h1,h2,?_⟩;obtain⟨o,ho⟩:∃o,ops[i]? =av o:=⟨ops[i],by simp[h1]⟩
   rw[ho];simp only[eJ,eo,Array.all_eq_true',gR,cS];intro e he;cases hb:Region.binds .any e with
   |false=>exact .inl rfl
   |true=>exact .inr (h3 o ho e (by simpa using he) hb)
 have sa:∀(listed:Array Bool),listed.size=ops.size->Region.ready .any ops listed=[]->ajf ops.size listed=[]:=λlisted hs hr=>by
  cases hu:ajf ops.size listed with
  |nil=>rfl
  |cons i l=>
   exfalso;have hi:i∈ajf ops.size listed:=by rw[hu];exact aK ..
   have aT8:=QL ops.size listed;rw[hu]at aT8;have:i∈Region.ready .any ops listed:=(aRi listed hs i).2 ⟨hi,λo ho e he hb=>by
    have iA:=aPB i o ho e he hb;have akR:=(SE.1 hi).1;cases hl:listed.getD e.on aZ with
    |false=>
     have hm:e.on∈ajf ops.size listed:=SE.2 ⟨ak,hl⟩;rw[hu]at hm;rcases cv.1 hm with h | h
     ·omega
     ·have:=(tP.1 aT8).1 _ h;omega
    |true=>
     have:e.on < listed.size:=ak;simp only[cX,fR this,eo]at hl ⊢;exact hl⟩
   rw[hr]at this;cases this
 intro fuel
 induction fuel with
 |zero=>
  intro listed s a w hs hl _ hr nA;have hn:ajf ops.size listed=[]:=bK hl;refine⟨?_,?_⟩
  ·cases aWq:Region.ready .any ops listed with
   |nil=>rfl
   |cons i l=>
    have:i∈Region.ready .any ops listed:=by rw[aWq];exact aK ..
    have:=((aRi listed hs i).1 this).1;rw[hn]at this;cases this
  ·rw[hn]at hr;have:s=sn:=hr;subst this;exact hQ a w nA
 |succ fuel ih=>
  intro listed s a w hs hl asi hr nA;refine⟨λaWq=> ?_,λi hi=> ?_⟩
  ·have:=sa listed hs aWq;rw[this]at hl;simp at hl
  ·obtain⟨hu,aTH⟩:=(aRi listed hs i).1 hi;obtain⟨akR,aZR⟩:=SE.1 hu;obtain⟨o,ho⟩:∃o,ops[i]? =av o:=⟨ops[i],by simp[akR]⟩
   obtain⟨l1,l2,aHk⟩:=List.append_of_mem hu;have aT8:=QL ops.size listed;rw[aHk]at aT8;have aTx:∀j,((ank ops.toList).getD i 0).testBit j=aZ->listed.getD j aQ=aZ:=λj hj=>by
    obtain⟨e,he,hb,h | h⟩:=aEy (by simpa using ho) hj
    ·rw[h];exact aTH o ho e he hb
    ·have h1:=aTH o ho e he hb;have h2:=aPB i o ho e he hb;refine asi e.on ak ?_ j h
     have:e.on < listed.size:=ak;simp only[cX,fR this,eo]at h1 ⊢;exact h1
   rw[aHk]at hr;have hb:=am7.aFf l1 hr λj hj=>by
    have iA:j < i:=(List.pairwise_append.1 aT8).2.2 j hj i (aK ..);rcases aV2 j i iA akR with h | h
    ·have h1:=aTx j h;have aYS:j∈ajf ops.size listed:=by rw[aHk];exact bD.2 (.inl hj)
     have h2:=(SE.1 aYS).2;have:j < listed.size:=ak;simp only[cX,fR this,eo]at h1 h2;rw[h1]at h2;cases h2
    ·exact h
   obtain⟨o',ho',hf,s',hg,im⟩:=hb;obtain rfl:o=o':=by rw[ho]at ho';simpa using ho'
   have akX:ajf ops.size (listed.setIfInBounds i aZ)=l1++l2:=by rw[<-hs]at aHk ⊢;exact aO7 ak aHk
   refine((ahX hΓ nA hg).mono λa' w' hst'=>ih (listed.setIfInBounds i aZ) s' a' w' (by simpa using hs) ?_ ?_ (by rw[akX];exact im) hst').wpOpIn ho
   ·rw[akX];rw[aHk]at hl;simp only[ai,aB]at hl ⊢;omega
   ·intro m hm aTY j hj;rw[abI aQ ak];split
    ·rfl
    ·rw[abI aZ ak]at aTY;split at aTY
     ·rename_i aY0;subst aY0;exact aTx j hj
     ·exact asi m hm aTY j hj
theorem aqT{rd:Option Nat}{n:Nat}{C:Ctx}(hm:P.follows .mixedOrders=aZ)(hΓ:Sound P Γ){id:Nat}{R:Type}{Q:Exit->Act->cd->Prop}{s:AS}{a:Act}{w:cd}{k:AS->Option R}{r:R}(h:jf C s a w)(hE:aku ops.toList=aZ)
  (he:ahY P Γ bT ops (ank ops.toList) 0 ops.toList [] s k=av r) (hk:∀s' a' w',jf C s' a' w'->k s'=av r->Q .normal a' w'):(Code.region id ops aZ).wpIn (Fr rd) n P Q a w:=by
 obtain⟨fs,sn,_,g2,g3,_,g5⟩:=ahZ ops.toList 0 [] s (λ_=>⟨aD,[],[],[]⟩) (λn o hn=>by simpa using hn) (λ_ hx=>by cases hx) he;refine wpIn_region_any hm ?_
 obtain⟨g,β,h⟩:=h;have hu:ajf ops.size (Array.replicate ops.size aQ)=List.range' 0 ops.toList.length:=by
  unfold ajf;rw[je.2]
  ·simp[List.range_eq_range']
  ·intro i hi;have hi:i < ops.size:=by simpa using hi
   simp[cX,hi]
 refine ayW (bT:=bT) hΓ hE (fs:=fs) (sn:=sn) (λm1 m2 h1 h2=>g5 m1 m2 (aP _) h1 (by simpa using h2)) (λa' w' hs=>hk sn a' w' hs g3) ops.size _ s a _ (by simp) (by rw[hu];simp) (λi hi hl=> ?_) (by rw[hu];exact g2) ⟨g,β,h.drew⟩;simp[cX,hi]at hl
end
end Go.Ab
namespace Go.Ab
theorem yW{ρ:Ren}{s:AS}(h:∀id,(s.obj id).isSome=aZ->∀ver,ρ id ver=av (id,ver)):∀(v:aC),v.there s=aZ->v.jB ρ=v
 | .ptr id ver p n,ht=>by simp only[aC.jB];rw[h id ht]
 | .bE id ver p c i len,ht=>by simp only[aC.jB];rw[h id ht]
 | .pr a b,ht=>by simp only[aC.there,au]at ht;simp only[aC.jB];rw[yW h a ht.1,yW h b ht.2]
 | .cons a b,ht=>by simp only[aC.there,au]at ht;simp only[aC.jB];rw[yW h a ht.1,yW h b ht.2]
 | .fn f c,ht=>by simp only[aC.jB];rw[yW h c ht]
 | .bx e z c,ht=>by simp only[aC.jB];rw[yW h c ht]
 | .cI id ver,ht=>by simp only[aC.jB];rw[h id ht]
 | .yl id ver,ht=>by simp only[aC.jB];rw[h id ht]
 | .sS k f p,ht=>by simp only[aC.jB];rw[yW h f ht]
 | .uE ..,ht=>by cases ht
 | .undef,_ | .gone,_ | .dy,_ | .sq,_ | .yP,_ | .EB,_ | .d _ _,_ | .dV _ _,_ | .nil,_ | .vec ..,_ | .mp ..,_ | .sb _,_=>rfl
theorem aQa.ba{E E':Env}(hm:va E E')(hh:∀b:Nat,E'.w.heap[b]? =E.w.heap[b]?){i q:Id}{ver:Nat}{kt vt:Ty}{rest:List (kt.den×vt.den)}{cur:Option (kt.den×vt.den)}(h:aQa E i q ver kt vt rest cur)(hβ:E'.β i=E.β i)
  (hg:∀pl,E.β i=av pl->E.g pl.b= .own (.id i) 0->E'.g pl.b= .own (.id i) 0)
  (hq:∀vr,ver=vr+1->(E.Ij q vr->E'.Ij q vr/\(E'.cur q vr->E.cur q vr/\E'.β q=E.β q))/\(∀k v l,E.s q=av (.obj vr aZ (.mp k v l))->E'.s q=av (.obj vr aZ (.mp k v l)))/\
   ∀pl,E.β q=av pl->E.g pl.b= .own (.id q) 0->E'.g pl.b= .own (.id q) 0):aQa E' i q ver kt vt rest cur:=by
 obtain⟨pl,mb,since,seen,c0,h1,h2,h3,h4⟩:=h;refine⟨pl,mb,since,seen,c0,by rw[hβ,h1],by rw[hh,h2],hg pl h1 h3,λvr asm=> ?_⟩;obtain⟨h5,h6⟩:=h4 vr asm;obtain⟨q1,q2,q3⟩:=hq vr asm;obtain⟨b1,b2⟩:=q1 h5;refine⟨b1,λhc=> ?_⟩;obtain⟨c1,c2⟩:=b2 hc;obtain⟨⟨k,v,l,k0⟩,plq,es,clock,k1,k2,k3,k4,k5,k6,k7,k8,k9⟩:=h6 c1;exact⟨⟨k,v,l,q2 _ _ _ k0⟩,plq,es,clock,by rw[c2,k1],k2,by rw[hh,k3],q3 _ k1 k4,k5,k6,k7,k8.mono hm,λx hx=>
  let⟨e,se,a1,a2,a3,a4⟩:=k9 x hx
  ⟨e,se,a1,a2,a3,a4.mono hm⟩⟩
theorem auf(c:aC):(∃q ver k v l cu,c= .uE q ver k v l cu)\/(∀ρ kp,c.aCy ρ kp=c.jB ρ)/\∀s v fr,dW.there s (.obj v fr c)=c.there s:=by cases c <;> first | exact .inl ⟨_,_,_,_,_,_,rfl⟩ | exact .inr ⟨λ_ _=>rfl,λ_ _ _=>rfl⟩
section
variable {P:aT} {C:Ctx} {g:Nat->np} {β:Id->Option Pl} {s:AS} {a:Act} {w:cd}
theorem Inv.V2(h:Inv C g β s a w)(hC:C.ok){s1:AS}{g1:Nat->np}{β1:Id->Option Pl}(ρ:Ren)(hlen:s1.cM.length=s.cM.length)(ht:Trans w w g g1)(hle:BE ρ (s.env w g β) (s1.env w g1 β1))
  (abP:∀i,VS (s1.env w g1 β1) (s1.slot i) (a.tmps.getD i undef))
  (dh:∀id ver fr c,s1.cq id=av (.obj ver fr c)->yz (s1.env w g1 β1) id fr c\/∃id0 v0 c0,s.cq id0=av (.obj v0 fr c0)/\c0.jB ρ=c/\β1 id=β id0/\∀pl,β id0=av pl->(∀k,g pl.b= .own (.id id0) k->g1 pl.b= .own (.id id) k)/\(g pl.b= .free->g1 pl.b= .free))
  (hold:∀k,(s.cq (.bt k)≠aD->s1.cq (.bt k)≠aD)/\(∀v fr c,s1.cq (.bt k)=av (.obj v fr c)->∃c0,s.cq (.bt k)=av (.obj v fr c0))/\β1 (.bt k)=β (.bt k)):Inv C g1 β1 s1 a w:=by
 refine⟨h.defers.mono ht,by rw[hlen];exact h.size,abP,λid ver fr c dr=> ?_,h.trans.trans ht,?_⟩
 ·rcases dh id ver fr c dr with ho | ⟨id0,v0,c0,h1,h2,h3,h4⟩
  ·exact ho
  have:=yA hle (h.bT id0 v0 fr c0 h1) (id':=id) h3 λpl hp=>⟨rfl,(h4 pl hp).1,(h4 pl hp).2⟩
  rw[h2]at this;exact this
 ·have hl:=h.le;have ho:∀id ver,C.E.Ij id ver->∃k,id= .bt k:=λid ver hb=>by
   cases id with
   |bt k=>exact⟨k,rfl⟩
   |new i j=>exact absurd (hC.1 i j) hb.1
  refine⟨hl.mem.trans (Trans.mem (E:=s.env w g β) (E':=s1.env w g1 β1) ht),λid ver hb=> ?_,λid ver hb hc=> ?_⟩
  ·obtain⟨k,rfl⟩:=ho id ver hb;obtain⟨h1,h2⟩:=hl.Ij _ ver hb;obtain⟨e1,e2,_⟩:=hold k;exact⟨e1 h1,λv fr c hh=>let⟨c0,ZG⟩:=e2 v fr c hh;h2 v fr c0 ZG⟩
  ·obtain⟨k,rfl⟩:=ho id ver hb;obtain⟨fr,c,hc⟩:=hc;obtain⟨_,e2,e3⟩:=hold k;obtain⟨c0,ZG⟩:=e2 _ _ _ hc;obtain⟨h1,h2⟩:=hl.cur _ ver hb ⟨fr,c0,ZG⟩;exact⟨h1,e3.trans h2⟩
theorem Inv.renamed(h:Inv C g β s a w)(hC:C.ok){s1:AS}{β1:Id->Option Pl}(ρ:Ren)(hlen:s1.cM.length=s.cM.length)(hle:BE ρ (s.env w g β) (s1.env w g β1))
  (abP:∀i,VS (s1.env w g β1) (s1.slot i) (a.tmps.getD i undef)) (dh:∀id ver fr c,s1.cq id=av (.obj ver fr c)->yz (s1.env w g β1) id fr c\/∃v0,s.cq id=av (.obj v0 fr c)/\c.jB ρ=c/\β1 id=β id)
  (hold:∀k,s1.cq (.bt k)=s.cq (.bt k)/\β1 (.bt k)=β (.bt k)):Inv C g β1 s1 a w:=
 h.V2 hC ρ hlen (Trans.refl w g) hle abP (λid ver fr c dr=>(dh id ver fr c dr).imp (λh=>h) λ⟨v0,h1,h2,h3⟩=>⟨id,v0,c,h1,h2,h3,λ_ _=>⟨λ_ h=>h,λh=>h⟩⟩)
  λk=>⟨λhh=>by rw[(hold k).1];exact hh,λv fr c hh=>⟨c,(hold k).1.symm.trans hh⟩,(hold k).2⟩
theorem Inv.aUx(h:Inv C g β s a w)(j:Nat){v:aC}(hv:VS (s.env w g β) v (a.tmps.getD j undef)):Inv C g β (s.put (av j) v) a w:=by
 refine⟨h.defers,by simpa[AS.put]using h.size,λi=> ?_,by simpa using h.bT,h.trans,by simpa using h.le⟩;rw[akw,aeu];split
 ·rename_i aU5;rw[aU5.1];exact hv
 ·exact h.cM i
theorem Wq(ba:List Nat):∀(l:List aC) (n i:Nat),(fo ba n l).getD i .undef= .undef\/(fo ba n l).getD i .undef=l.getD i .undef
 |[],n,i=>by simp[fo]
 |v::l,n,0=>by
  simp only[fo,j6];split
  ·exact .inr rfl
  ·exact .inl rfl
 |v::l,n,i+1=>by simp only[fo,sj];exact Wq ba l (n+1) i
theorem Ev(ba:List Nat):∀(l:List aC) (n:Nat),(fo ba n l).length=l.length
 |[],n=>rfl
 |v::l,n=>by simp[fo,Ev ba l]
theorem ai2(ba:List Nat):∀(l:List (List dW)) (n i:Nat),(po ba n l).getD i []=[]\/(po ba n l).getD i []=l.getD i []
 |[],n,i=>by simp[po]
 |v::l,n,0=>by
  simp only[po,j6];split
  ·exact .inr rfl
  ·exact .inl rfl
 |v::l,n,i+1=>by simp only[po,sj];exact ai2 ba l (n+1) i
theorem aBl{s:AS}(i:Nat):s.slot i= .undef\/s.slot i∈s.cM:=by
 unfold AS.slot;rw[aJ];cases h:s.cM[i]? with
 |none=>exact .inl rfl
 |some v=>exact .inr (cZ h)
theorem aMP{s:AS}{id:Id}{e:dW}(h:s.cq id=av e):e∈s.cz\/∃es∈s.news,e∈es:=by
 cases id with
 |bt k=>exact .inl (cZ h)
 |new i j=>
  simp only[AS.cq,aJ]at h;cases hi:s.news[i]? with
  |none=>rw[hi]at h;simp at h
  |some es=>rw[hi]at h;exact .inr ⟨es,cZ hi,cZ h⟩
theorem Inv.ba(h:Inv C g β s a w)(hC:C.ok){an:pE}(ht:(Sk an s).ang=aZ):Inv C g β (Sk an s) a w:=by
 obtain⟨ks,kt,_,_,_⟩:=an;obtain⟨s1,Uy⟩:∃s1:AS,s1= {cM:=fo ks 0 s.cM,cz:=s.cz,news:=po kt 0 s.news}:=⟨_,rfl⟩;have e1:s1.cM=fo ks 0 s.cM:=by rw[Uy]
 have e2:s1.cz=s.cz:=by rw[Uy]
 have e3:s1.news=po kt 0 s.news:=by rw[Uy]
 have ht:(s1.cM.all (aC.there s1) && s1.cz.all (dW.there s1) && s1.news.all λes=>es.all (dW.there s1))=aZ:=by rw[Uy];exact ht
 show Inv C g β {cM:=fo ks 0 s.cM,cz:=s.cz,news:=po kt 0 s.news} a w;rw[<-Uy];rw[au,au]at ht;obtain⟨⟨t1,t2⟩,t3⟩:=ht;have dh:∀id,s1.cq id=aD\/s1.cq id=s.cq id:=λid=>by
  cases id with
  |bt k=>right;simp only[AS.cq,e2]
  |new i j=>
   simp only[AS.cq,e3];rcases ai2 kt s.news 0 i with h | h
   ·rw[h];exact .inl rfl
   ·rw[h];exact .inr rfl
 have aNd:∀id,(s1.obj id).isSome=aZ->s1.cq id=s.cq id:=λid hi=>by
  rcases dh id with h | h
  ·simp[AS.obj,h]at hi
  ·exact h
 let ρ:Ren:=λid ver=>if(s1.obj id).isSome=aZ then av (id,ver) else aD
 have hρ:∀v:aC,v.there s1=aZ->v.jB ρ=v:=yW λid dr ver=>if_pos dr
 have hle:BE ρ (s.env w g β) (s1.env w g β):=by
  refine⟨⟨λ_ _ _ h=>h,λ_ _ h h'=>⟨h,h'⟩⟩,λid ver r hr hb=> ?_⟩;by_cases hi:(s1.obj id).isSome=aZ
  ·have:ρ id ver=av (id,ver):=if_pos hi;rw[this,aA]at hr;subst hr;have e:=aNd id hi;obtain⟨b1,b2⟩:=hb;exact⟨⟨by show s1.cq id≠aD;rw[e];exact b1,λv fr c hh=>b2 v fr c (e.symm.trans hh)⟩,λ⟨fr,c,hc⟩=>⟨⟨fr,c,e.symm.trans hc⟩,rfl⟩⟩
  ·have:ρ id ver=aD:=if_neg hi;rw[this]at hr;cases hr
 refine h.renamed hC ρ (by rw[e1,Ev]) hle (λi=> ?_) (λid ver fr c dr=> ?_) λk=>⟨by simp only[AS.cq,e2],rfl⟩
 ·rcases aBl (s:=s1) i with hi | hi
  ·rw[hi];exact VS.undef
  ·have aWy:=dp.1 t1 _ hi;rcases Wq ks s.cM 0 i with h1 | h1
   ·have:s1.slot i= .undef:=by simp only[AS.slot,e1,h1]
    rw[this];exact VS.undef
   ·have:s1.slot i=s.slot i:=by simp only[AS.slot,e1,h1]
    have hv:=Ji hle (h.cM i);rw[<-this,hρ _ aWy]at hv;exact hv
 ·have:s1.cq id=s.cq id:=by
   rcases dh id with h | h
   ·rw[h]at dr;cases dr
   ·exact h
  have hc:dW.there s1 (.obj ver fr c)=aZ:=by
   rcases aMP dr with h | ⟨es,h1,h2⟩
   ·exact dp.1 t2 _ h
   ·exact dp.1 (dp.1 t3 _ h1) _ h2
  rcases auf c with⟨q,vq,k,v,l,cu,rfl⟩ | ⟨_,aWy⟩
  ·have e:=aNd q hc;refine .inl (aQa.ba hle.mem (λ_=>rfl) (h.bT id ver fr _ (this.symm.trans dr)) rfl (λ_ _ h=>h) λvr _=>⟨λhb=>hle.ref q vr (q,vr) (if_pos hc) hb,λk v l hk=>e.trans hk,λ_ _ h=>h⟩)
  ·rw[aWy]at hc;exact .inr ⟨ver,this.symm.trans dr,hρ c hc,rfl⟩
theorem Inv.drop(h:Inv C g β s a w)(ks:List Nat):Inv C g β (s.drop ks) a w:=by
 refine⟨h.defers,by simpa[AS.drop,Ev]using h.size,λi=> ?_,h.bT,h.trans,h.le⟩;rcases Wq ks s.cM 0 i with h1 | h1
 ·have:(s.drop ks).slot i= .undef:=h1;rw[this];exact VS.undef
 ·have:(s.drop ks).slot i=s.slot i:=h1;rw[this];exact h.cM i
def HA(b q:Nat):np->np
 | .own (.id (.new x j)) k=>if x=b then .own (.id (.new q j)) k else .own (.id (.new x j)) k
 |l=>l
theorem Trans.aUv(w:cd)(g:Nat->np)(b q:Nat):Trans w w g λx=>HA b q (g x):=by
 refine⟨rfl,rfl,⟨rfl,ay _⟩,ay _,λy _=> ?_⟩;cases hg:g y with
 |free=>exact⟨by simp[HA],rfl⟩
 |own o k=>cases o with
  |eY=>exact⟨by simp[HA],rfl⟩
  |id x=>
   refine⟨.inr ?_,λ_ _ _ h=>h⟩;cases x with
   |bt m=>exact⟨_,_,rfl,ay _⟩
   |new x j=>
    simp only[HA];split
    ·exact⟨_,_,rfl,ay _⟩
    ·exact⟨_,_,rfl,ay _⟩
theorem aet(f:aC->aC)(hf:f .undef= .undef)(l:List aC)(i:Nat):(l.map f).getD i .undef=f (l.getD i .undef):=by simp only[aJ,eW];cases l[i]? <;> simp[hf]
theorem Inv.KS(h:Inv C g β s a w)(hC:C.ok){b q:Nat}(aSH:b < s.news.length)(aWn:q < s.news.length):
  ∃g1 β1,Inv C g1 β1 (s.KS b q (s.news.getD b [])) a w:=by
 generalize aYH:s.news.getD b []=es;have aTK:∀j,s.cq (.new b j)=es[j]? :=λj=>by rw[<-aYH];rfl
 let ρ:Ren:=Tf es b q
 let s1:=s.KS b q es
 have mm:∀j',s1.cq (.new q j')=(es[j']?).map (dW.avv ρ):=λj'=>by simp[s1,AS.KS,AS.cq,aJ,aWn,ρ]
 have aTP:b≠q->∀j',s1.cq (.new b j')=aD:=λaQ1 j'=>by
  have hbq':¬q=b:=λe=>aQ1 e.symm
  simp only[s1,AS.KS,AS.cq,aJ];rw[eT hbq',List.getElem?_set,if_pos rfl];split <;> simp
 have MR:∀i,(∀j',i≠ .new q j')->(∀j',i≠ .new b j')->s1.cq i=(s.cq i).map (dW.agv ρ (Mo b q)):=λi hi hi'=>by
  cases i with
  |bt k=>simp[s1,AS.KS,AS.cq,ρ]
  |new x y=>
   have h1:¬q=x:=λe=>hi y (by rw[e])
   have h2:¬b=x:=λe=>hi' y (by rw[e])
   simp only[s1,AS.KS,AS.cq,aJ];rw[eT h1,eT h2,eW];cases s.news[x]? <;> simp[ρ]
 let g1:Nat->np:=λx=>HA b q (g x)
 let β1:Id->Option Pl:=λi=>match i with | .new x j=>if x=q then β (.new b j) else β (.new x j) | .bt k=>β (.bt k)
 have hβ1:∀i,(∀j',i≠ .new q j')->β1 i=β i:=λi hi=>by
  cases i with
  |bt k=>rfl
  |new x y=>exact if_neg λe=>hi y (by rw[e])
 have ht:Trans w w g g1:=Trans.aUv w g _ _;have hρ:∀i ver r,ρ i ver=av r->(∃j fr c,i= .new b j/\es[j]? =av (.obj ver fr c)/\r=(.new q j,0))\/((∀j',i≠ .new q j')/\(∀j',i≠ .new b j')/\r=(i,ver)):=λi ver r hr=>by
  replace hr:Tf es b q i ver=av r:=hr
  cases i with
  |bt k=>exact .inr ⟨λ_=>by simp,λ_=>by simp,(bn hr).symm⟩
  |new x j=>
   unfold Tf at hr;simp only at hr;split at hr
   ·rename_i hx;have hx:x=b:=by simpa using hx
    subst hx;split at hr
    ·rename_i v fr c he;split at hr
     ·rename_i hv;have hv:ver=v:=by simpa using hv
      subst hv;exact .inl ⟨j,fr,c,rfl,he,(bn hr).symm⟩
     ·cases hr
    ·cases hr
   ·rename_i hx;have hx:¬x=b:=by simpa using hx
    split at hr
    ·cases hr
    ·rename_i hx';have hx':¬x=q:=by simpa using hx'
     exact .inr ⟨λ_ e=>hx' (by injection e),λ_ e=>hx (by injection e),(bn hr).symm⟩
 have hle:BE ρ (s.env w g β) (s1.env w g1 β1):=by
  refine⟨Trans.mem (E:=s.env w g β) (E':=s1.env w g1 β1) ht,λi ver r hr ao7=> ?_⟩;rcases hρ i ver r hr with⟨j,fr,c,rfl,he,rfl⟩ | ⟨hi,hi',rfl⟩
  ·refine⟨⟨by show s1.cq (.new q j)≠aD;rw[mm,he];simp,λ_ _ _ _=>aP _⟩,λ_=>⟨⟨fr,c,(aTK j).trans he⟩,if_pos rfl⟩⟩
  ·obtain⟨k1,k2⟩:=ao7;have k1:s.cq i≠aD:=k1;have e:s1.cq i=(s.cq i).map (dW.agv ρ (Mo b q)):=MR i hi hi';have back:∀v' fr' c',s1.cq i=av (.obj v' fr' c')->∃c0,s.cq i=av (.obj v' fr' c0):=λv' fr' c' hh=>by
    rw[e]at hh;cases hs:s.cq i with
    |none=>exact absurd hs k1
    |some en=>
     rw[hs]at hh;cases en with
     |dead=>simp[dW.agv]at hh
     |obj v0 fr0 c0=>
      simp only[eJ,dW.agv,aA,dW.obj.injEq]at hh;obtain⟨rfl,rfl,_⟩:=hh;exact⟨c0,rfl⟩
   refine⟨⟨by
    show s1.cq i≠aD;rw[e];cases hs:s.cq i with
    |none=>exact absurd hs k1
    |some en=>simp,λv' fr' c' hh=> ?_⟩,λ⟨fr',c',hh⟩=> ?_⟩
   ·obtain⟨c0,ZG⟩:=back v' fr' c' hh;exact k2 v' fr' c0 ZG
   ·obtain⟨c0,ZG⟩:=back ver fr' c' hh;exact⟨⟨fr',c0,ZG⟩,hβ1 i hi⟩
 have aU3:∀(i:Id),(∀j',i≠ .new b j')->∀(x:Nat) (k:Nat),g x= .own (.id i) k->g1 x= .own (.id i) k:=λi hi x k hk=>by
  show HA b q (g x)=_;rw[hk];cases i with
  |bt m=>rfl
  |new y j=>exact if_neg λe=>hi j (by rw[e])
 refine⟨g1,β1,h.V2 hC ρ (by simp[AS.KS]) ht hle (λi=> ?_) (λid ver fr' c' dr=> ?_) λk=>⟨λhk=> ?_,λv' fr' c' hh=> ?_,rfl⟩⟩
 ·have:(s.KS b q es).slot i=(s.slot i).jB ρ:=aet _ rfl _ _;rw[this];exact Ji hle (h.cM i)
 ·have dr:s1.cq id=av (.obj ver fr' c'):=dr;by_cases hi:∃j',id= .new q j'
  ·obtain⟨j',rfl⟩:=hi;rw[mm]at dr;cases he:es[j']? with
   |none=>rw[he]at dr;cases dr
   |some en=>
    rw[he]at dr;cases en with
    |dead=>simp[dW.avv]at dr
    |obj v0 fr0 c0=>
     simp only[eJ,dW.avv,aA,dW.obj.injEq]at dr;obtain⟨_,rfl,rfl⟩:=dr;exact .inr ⟨.new b j',v0,c0,(aTK j').trans he,rfl,if_pos rfl,λpl hp=>⟨λk hk=>by
      show HA b q (g pl.b)=_;rw[hk];exact if_pos rfl,λhk=>by
      show HA b q (g pl.b)=_;rw[hk];rfl⟩⟩
  ·by_cases hi':∃j',id= .new b j'
   ·obtain⟨j',rfl⟩:=hi';have aQ1:b≠q:=λe=>hi ⟨j',by rw[e]⟩
    rw[aTP aQ1]at dr;cases dr
   ·have aU8:∀j',id≠ .new q j':=λj' e=>hi ⟨j',e⟩
    have hni':∀j',id≠ .new b j':=λj' e=>hi' ⟨j',e⟩
    have e:=MR id aU8 hni';rw[e]at dr;cases hs:s.cq id with
    |none=>rw[hs]at dr;cases dr
    |some en=>
     rw[hs]at dr;cases en with
     |dead=>simp[dW.agv]at dr
     |obj v0 fr0 c0=>
      simp only[eJ,dW.agv,aA,dW.obj.injEq]at dr;obtain⟨rfl,rfl,rfl⟩:=dr;rcases auf c0 with⟨q2,vq,k,v2,l,cu,rfl⟩ | ⟨aRj,_⟩
      ·have h0:=h.bT id v0 fr0 _ hs;left;simp only[aC.aCy];cases aU6:Mo b q q2 with
       |true=>
        have akS:(∀j',q2≠ .new b j')/\(∀j',q2≠ .new q j')/\∀vr,ρ q2 vr=av (q2,vr):=by
         cases q2 with
         |bt k=>exact⟨λ_=>by simp,λ_=>by simp,λ_=>rfl⟩
         |new x y=>
          simp only[Mo,au,cS,iL]at aU6;obtain⟨k1,k2⟩:=aU6;refine⟨λ_ e=>k1 (by injection e),λ_ e=>k2 (by injection e),λvr=> ?_⟩;show Tf es b q (.new x y) vr=_;unfold Tf;simp only[iC k1,iC k2]
        obtain⟨akS,asj,hρq⟩:=akS;refine aQa.ba hle.mem (λ_=>rfl) h0 (hβ1 id aU8) (λpl _ hk=>aU3 id hni' _ _ hk) λvr _=>⟨λhb=>hle.ref q2 vr (q2,vr) (hρq vr) hb,λk v l hk=> ?_,λpl _ hk=>aU3 q2 akS _ _ hk⟩
        have hk:s.cq q2=av (.obj vr aZ (.mp k v l)):=hk;show s1.cq q2=_;rw[MR q2 asj akS,hk];rfl
       |false=>
        obtain⟨pl,mb,since,seen,c0,h1,h2,h3,h4⟩:=h0;exact⟨pl,mb,since,seen,c0,(hβ1 id aU8).trans h1,h2,aU3 id hni' _ _ h3,λvr asm=>ak⟩
      rw[aRj];exact .inr ⟨id,v0,c0,hs,rfl,hβ1 id aU8,λpl hp=>⟨λk hk=>aU3 id hni' _ _ hk,λhk=>by
       show HA b q (g pl.b)=_;rw[hk];rfl⟩⟩
 ·have e:=MR (.bt k) (λ_=>by simp) (λ_=>by simp);show s1.cq (.bt k)≠aD;rw[e];cases hs:s.cq (.bt k) with
  |none=>exact absurd hs hk
  |some en=>simp
 ·have e:=MR (.bt k) (λ_=>by simp) (λ_=>by simp);have hh:s1.cq (.bt k)=av (.obj v' fr' c'):=hh;rw[e]at hh;cases hs:s.cq (.bt k) with
  |none=>rw[hs]at hh;cases hh
  |some en=>
   rw[hs]at hh;cases en with
   |dead=>simp[dW.agv]at hh
   |obj v0 fr0 c0=>
    simp only[eJ,dW.agv,aA,dW.obj.injEq]at hh;obtain⟨rfl,rfl,_⟩:=hh;exact⟨c0,rfl⟩
theorem afj{k t:Ty}{l:List (k.den×t.den)}:∀ {p:List MK} {x c':aC},¬(zH (.mp k t l) p x).eval=av c'
 |[],x,c',h=>by simp only[zH,aw]at h
 | .arr::p,x,c',h=>by simp only[zH]at h;exact afj h
 | .idx i::p,x,c',h=>by simp only[zH,aw]at h
 | .fst::p,x,c',h=>by simp only[zH,aw]at h
 | .snd::p,x,c',h=>by simp only[zH,aw]at h
theorem amN{q:Id}{vq:Nat}{k t:Ty}{l:List (k.den×t.den)}{cu:Option (k.den×t.den)}:∀ {p:List MK} {x c':aC},¬(zH (.uE q vq k t l cu) p x).eval=av c'
 |[],x,c',h=>by simp only[zH,aw]at h
 | .arr::p,x,c',h=>by simp only[zH]at h;exact amN h
 | .idx i::p,x,c',h=>by simp only[zH,aw]at h
 | .fst::p,x,c',h=>by simp only[zH,aw]at h
 | .snd::p,x,c',h=>by simp only[zH,aw]at h
theorem amO{k:wV}{f:aC}{m:Nat}:∀ {p:List MK} {x c':aC},¬(zH (.sS k f m) p x).eval=av c'
 |[],x,c',h=>by simp only[zH,aw]at h
 | .arr::p,x,c',h=>by simp only[zH]at h;exact amO h
 | .idx i::p,x,c',h=>by simp only[zH,aw]at h
 | .fst::p,x,c',h=>by simp only[zH,aw]at h
 | .snd::p,x,c',h=>by simp only[zH,aw]at h
theorem Yv{l:List Value}{n:Nat}{vs:List Value}(h:(l.drop n).take vs.length=vs):dO l n vs=l:=by
 unfold dO;have h2:l.drop n=vs++l.drop (n+vs.length):=by
  conv=>lhs;rw[<-dH vs.length (l.drop n)]
  rw[h,gJ]
 have h3:=dH n l;rw[h2]at h3;simpa[aI]using h3
theorem Inv.aUn(h:Inv C g β s a w){j:Nat}{p:List MK}(Uw:(s.at j p).eval=av .dy){q:Nat}(hq:s.eS q=aZ){e:TypeId}{t:Ty}(hz:0 < t.size){s':AS}
  (he:((s.born q [.obj 0 aQ (.vec e t [])]).putAt j (.bE (.new q 0) 0 [] 0 0 0) p).eval=av s'):jf C s' a w:=by
 obtain⟨β',h1,h2,h3⟩:=h.aIu hq (e:=e) hz;cases p with
 |nil=>
  simp only[AS.at]at Uw;have hj:=az.1 Uw;simp only[AS.putAt]at he;obtain rfl:=az.1 he;refine⟨g,β',h1.aUx j ?_⟩;have:=h.cM j;rw[hj]at this;rw[mu this];exact h3
 |cons st p=>
  simp only[AS.at]at Uw;simp only[AS.putAt]at he;have abP:(s.born q [.obj 0 aQ (.vec e t [])]).slot j=s.slot j:=rfl;rw[abP]at he;split at Uw
  ·rename_i id ver p0 nn hj;split at Uw
   ·rename_i v fr c mX;obtain⟨hv,Uw⟩:=aH.1 Uw;obtain⟨⟨n,u⟩,hl,Uw⟩:=ax.1 Uw;have hu:=az.1 Uw;simp only at hu;subst hu;have dh:=eU mX;have il:id≠ .new q 0:=λe=>by rw[e,(lA hq).1 0]at dh;cases dh
    have hne':∀j',id≠ .new q j':=λj' e=>by rw[e,(lA hq).1 j']at dh;cases dh
    have zD:(s.born q [.obj 0 aQ (.vec e t [])]).cq id=av (.obj v fr c):=(jP _ hne').trans dh;have aRf:(s.born q [.obj 0 aQ (.vec e t [])]).obj id=av (v,fr,c):=by simp only[AS.obj,zD]
    simp only[hj,aRf]at he;split at he
    ·simp only[aw]at he
    ·rename_i c1 aVQ;obtain⟨c',YU,he⟩:=ax.1 he;obtain rfl:=az.1 he;have hn:c.jy=aQ:=by cases c <;> first | rfl | (exact(aVQ _ _ _ rfl).elim) | (exact absurd YU afj) | (exact absurd YU amN) | (exact absurd YU amO)
     have hO:=h1.bT id v fr c zD;obtain⟨pl,cur,e0,hp,hh,hg,hk,hV⟩:=hO.box hn;have ht:=Trans.refl w g;have hN:=Zy hk;have hle:=db.bq (s:=s.born q [.obj 0 aQ (.vec e t [])]) (β:=β') (v':=v) (fr':=fr) (c':=c.wrap c') zD (ay _) ht (λ_ _=>rfl) (λ_=>rfl);refine⟨g,β',h1.step (dE _ _ _) ht hle (jE.bq h1.bT (by rw[zD];simp) hle (λ_ _=>rfl) (λ_ _ _ _ _ _ _ _=>⟨rfl,rfl⟩) ?_ (rC zD λk v1 l e=>by subst e;exact absurd YU afj))⟩;obtain⟨cs,k1,k2⟩:=h3;have k2:cs=[.slice aD 0 0]:=k2;subst k2;obtain⟨u1,u2,u3⟩:=r9 (p0++st::p) c.strip (cur.toList.take (c.zd cur.size)) n .dy _ c' [.slice aD 0 0] (VO.of hV) hl k1 YU;have u4:=u2.to (u3.vQ hV.vQ);have Fz:((cur.toList.take (c.zd cur.size)).drop n).take 1=[.slice aD 0 0]:=by
      rcases uH (p0++st::p) c.strip (cur.toList.take (c.zd cur.size)) n .dy (VO.of hV) hl with⟨aNb,ZG⟩ | ⟨q1,q2⟩
      ·rw[<-ZG]at hV;simp only[V]at hV;rw[hV,aNb];rfl
      ·simpa only[V,aC.size]using q1
     rw[Yv (vs:=[.slice aD 0 0]) Fz]at u4;have uW:c'.size=c.strip.size:=by have e1:=u4.size;have e2:=hV.size;omega
     exact UA.obj ⟨pl,cur,e0,hp,hh,hg,O4 hk u4.Cj uW,by rw[Qy c u4.Cj,US u4.Cj uW];exact V.mono hle u4⟩
   ·simp only[aw]at Uw
  ·simp only[aw]at Uw
theorem NB:∀(ids:List Id) {s:AS} {i:Id} {v:Nat} {fr:Bool} {c:aC},s.cq i=av (.obj v fr c)->∃fr',(s.bG ids).cq i=av (.obj v fr' c)
 |[],s,i,v,fr,c,h=>⟨fr,h⟩
 |id::ids,s,i,v,fr,c,h=>by obtain⟨fr',h'⟩:=abt (id:=id) h;exact NB ids h'
theorem Inv.aTk(h:Inv C g β s a w){j:Nat}{p:List MK}{u:aC}(Uw:(s.at j p).eval=av u){t:Ty}{x:t.den}(ht:(s.jT t u).eval=av x){s':AS}
  (he:((s.bG u.shared).putAt j (.d t x) p).eval=av s'):jf C s' a w:=by
 cases p with
 |nil=>
  simp only[AS.at]at Uw;have hj:=az.1 Uw;simp only[AS.putAt]at he;obtain rfl:=az.1 he;have hs:=h.cM j;rw[hj]at hs;obtain⟨g',i1,_,_,cs,hR,hO⟩:=CH h hs ht;exact⟨g',β,i1.aUx j (VS.of (a:= .d t x) (cs:=cs) (by simpa only[V]using hR) hO)⟩
 |cons st p=>
  simp only[AS.at]at Uw;simp only[AS.putAt]at he;have abP:(s.bG u.shared).slot j=s.slot j:=by simp only[AS.slot,pd]
  rw[abP]at he;split at Uw
  ·rename_i id ver p0 nn hj;split at Uw
   ·rename_i v fr c mX;obtain⟨hv,Uw⟩:=aH.1 Uw;obtain⟨⟨n,u'⟩,hl,Uw⟩:=ax.1 Uw;have hu:=az.1 Uw;simp only at hu;subst hu;have dh:=eU mX;obtain⟨g',h1,h2,h3,h4⟩:=gh u'.shared h;obtain⟨fr',zD⟩:=NB u'.shared dh;have aRf:(s.bG u'.shared).obj id=av (v,fr',c):=by simp only[AS.obj,zD]
    simp only[hj,aRf]at he;split at he
    ·simp only[aw]at he
    ·rename_i c1 aVQ;obtain⟨c',YU,he⟩:=ax.1 he;obtain rfl:=az.1 he;have hn:c.jy=aQ:=by cases c <;> first | rfl | (exact(aVQ _ _ _ rfl).elim) | (exact absurd YU afj) | (exact absurd YU amN) | (exact absurd YU amO)
     obtain⟨pl0,cur0,e00,aRh,aQ8,aVW,aTR,hV0⟩:=(h.bT id v fr c dh).box hn;obtain⟨pl,cur,e0,hp,hh,hg,hk,hV⟩:=(h1.bT id v fr' c zD).box hn;have QP:pl0=pl:=by have aRh:β id=av pl0:=aRh;have hp:β id=av pl:=hp;rw[aRh]at hp;exact bn hp
     subst QP;have gb:cur0=cur:=by
      have aQ8:w.heap[pl0.b]? =_:=aQ8
      have hh:w.heap[pl0.b]? =_:=hh
      rw[aQ8]at hh;simpa using(bu (λo=>match o with | some (.cells x _ _)=>x | _=>cur0) hh)
     subst gb;obtain⟨cs,hVu,Fz⟩:∃cs,V (s.env w g β) u' cs/\((cur0.toList.take (c.zd cur0.size)).drop n).take cs.length=cs:=by
      rcases uH (p0++st::p) c.strip (cur0.toList.take (c.zd cur0.size)) n u' (VO.of hV0) hl with⟨aNb,ZG⟩ | ⟨q1,q2⟩
      ·refine⟨cur0.toList.take (c.zd cur0.size),by rw[ZG];exact hV0,?_⟩;rw[aNb,aG,bQ]
      ·refine⟨_,q1,?_⟩;rw[bB,dG];congr 1;omega
     have hR:=y5 rfl h.bT h2 u' t x cs hVu ht h4;have hVx:V ((s.bG u'.shared).env w g' β) (.d t x) cs:=by simpa only[V]using hR
     have ht':=Trans.refl w g';have hle:=db.bq (s:=s.bG u'.shared) (β:=β) (v':=v) (fr':=fr') (c':=c.wrap c') zD (ay _) ht' (λ_ _=>rfl) (λ_=>rfl);refine⟨g',β,h1.step (dE _ _ _) ht' hle (jE.bq h1.bT (by rw[zD];simp) hle (λ_ _=>rfl) (λ_ _ _ _ _ _ _ _=>⟨rfl,rfl⟩) ?_ (rC zD λk v1 l e=>by subst e;exact absurd YU afj))⟩;obtain⟨u1,u2,u3⟩:=r9 (p0++st::p) c.strip (cur0.toList.take (c.zd cur0.size)) n u' _ c' cs (VO.of hV) hl hVx YU;have u4:=u2.to (u3.vQ hV.vQ);rw[Yv (vs:=cs) Fz]at u4;have uW:c'.size=c.strip.size:=by have e1:=u4.size;have e2:=hV.size;omega
     exact UA.obj ⟨pl0,cur0,e0,hp,hh,hg,O4 hk u4.Cj uW,by rw[Qy c u4.Cj,US u4.Cj uW];exact V.mono hle u4⟩
   ·simp only[aw]at Uw
  ·simp only[aw]at Uw
theorem Pz{E:Env}:∀(t:Ty) (x:t.den) (u:aC),(RU t x).eval=av u->∀cs,dA E t cs x->V E u cs
 | .iT t,x,u,h,cs,hr=>by simp only[RU]at h;obtain⟨h1,h2⟩:=b8.1 h;obtain rfl:=az.1 h2;simp only[dA]at hr;simp only[V];exact hr.1 (Option.isNone_iff_eq_none.1 h1)
 | .pair a b,x,u,h,cs,hr=>by simp only[RU]at h;obtain⟨u1,h1,h2⟩:=ax.1 h;obtain⟨u2,h3,h4⟩:=ax.1 h2;obtain rfl:=az.1 h4;simp only[dA]at hr;obtain⟨ca,cb,rfl,ha,hb⟩:=hr;exact asw (Pz a x.1 u1 h1 ca ha) (Pz b x.2 u2 h3 cb hb)
 | .int k,x,u,h,cs,hr=>by simp only[RU]at h;obtain rfl:=az.1 h;simpa only[V]using hr
 | .bool,x,u,h,cs,hr=>by simp only[RU]at h;obtain rfl:=az.1 h;simpa only[V]using hr
 | .str,x,u,h,cs,hr=>by simp only[RU]at h;obtain rfl:=az.1 h;simpa only[V]using hr
 | .slice t,x,u,h,cs,hr=>by simp only[RU]at h;obtain rfl:=az.1 h;simpa only[V]using hr
 | .unit,x,u,h,cs,hr=>by simp only[RU]at h;obtain rfl:=az.1 h;simpa only[V]using hr
 | .arr n t,x,u,h,cs,hr=>by simp only[RU]at h;obtain rfl:=az.1 h;simpa only[V]using hr
 | .vC t,x,u,h,cs,hr=>by simp only[RU]at h;obtain rfl:=az.1 h;simpa only[V]using hr
theorem azx{e:TypeId}{z:Nat}{c:aC}{pl:Pl}{n:Nat}(hz:0 < z)(h1:n=pl.cap*z)(h2:pl.cap<=maxLen)(h3:c.size<=n):(aC.bx e z c).Ju pl n e:=by
 cases z with
 |zero=>omega
 |succ z=>exact⟨rfl,h1,h2,h3⟩
theorem anM{e:TypeId}{z:Nat}{c:aC}{n:Nat}(hz:0 < z):(aC.bx e z c).zd n=c.size:=by
 cases z with
 |zero=>omega
 |succ z=>rfl
theorem alz{e e':TypeId}{z:Nat}{c:aC}{pl:Pl}{n:Nat}(hz:0 < z)(h:(aC.bx e z c).Ju pl n e'):e'=e/\n=pl.cap*z/\pl.cap<=maxLen/\c.size<=n:=by
 cases z with
 |zero=>omega
 |succ z=>exact h
theorem aqr{E:Env}{id:Id}{ver n:Nat}{p p':List MK}{y:Value}(h:VS E (.ptr id ver p n) y):VS E (.ptr id ver p' n) y:=by obtain⟨cs,h1,h2⟩:=h;exact⟨cs,by simpa only[V]using h1,h2⟩
theorem Inv.aTo(h:Inv C g β s a w){j:Nat}{id:Id}{ver n k v:Nat}{p p':List MK}(hj:s.slot j= .ptr id ver p n){e:TypeId}{t:Ty}{r:List t.den}(mX:s.obj id=av (v,aQ,.vec e t r))
  (hk:k < r.length) {u:aC} (hu:(RU t (nth t r k)).eval=av u):
  jf C ((s.bq id (.obj v aQ (.bx e t.size (.pr (.d (.arr k t) (r.take k)) (.pr u (.d (.arr (r.drop (k+1)).length t) (r.drop (k+1)))))))).put (av j) (.ptr id ver p' n)) a w:=by
 have dh:=eU mX;obtain⟨hz,hO⟩:yz (s.env w g β) id aQ (.vec e t r):=h.bT id v aQ _ dh;have hO:(match β id with
  |none=>r=[]
  |some pl=>∃cur k,w.heap[pl.b]? =av (.cells cur e (0,0))/\cur.size=pl.cap*t.size/\r.length<=pl.cap/\pl.cap<=maxLen/\g pl.b= .own (.id id) k/\
    k<=r.length*t.size/\(aQ=aQ->k=0)/\bI (dA (s.env w g β) t) (cur.toList.take (r.length*t.size)) r):=hO
 have ht:=Trans.refl w g
 have hle:db (s.env w g β) ((s.bq id (.obj v aQ (.bx e t.size (.pr (.d (.arr k t) (r.take k)) (.pr u (.d (.arr (r.drop (k+1)).length t) (r.drop (k+1)))))))).env w g β):=
  db.bq dh (ay _) ht (λ_ _=>rfl) (λ_=>rfl)
 have hI:=h.step (dE _ _ _) ht hle (jE.bq h.bT (by rw[dh];simp) hle (λ_ _=>rfl) (λ_ _ _ _ _ _ _ _=>⟨rfl,rfl⟩) (am2:=Sv dh) (by
  cases hp:β id with
  |none=>rw[hp]at hO;simp only at hO;subst hO;simp at hk
  |some pl=>
   rw[hp]at hO;obtain⟨cur,k0,q1,q2,q3,q4,q5,q6,q7,q8⟩:=hO;have aTR:=q7 rfl;subst aTR;have asp:∀c x,dA (s.env w g β) t c x->c.length=t.size:=λc x hx=>hx.size
   have c1:=bI.take asp k q8;have c2:=(q8.get asp k hk);have c3:=bI.drop asp (k+1) q8;have am3:V (s.env w g β) u (((cur.toList.take (r.length*t.size)).drop (k*t.size)).take t.size):=Pz t _ u (by rw[ac1 hk]at hu;exact hu) _ c2;have aZi:=am3.size;have hlen:(cur.toList.take (r.length*t.size)).length=r.length*t.size:=bI.length asp q8;have uW:r.length*t.size<=cur.size:=by rw[q2];exact di _ q3
   have aZQ:(k+1)*t.size<=r.length*t.size:=di _ hk;have akS:(k+1)*t.size=k*t.size+t.size:=Nat.succ_mul k t.size;have aRm:u.size=t.size:=by rw[<-aZi,bB,dG,hlen];omega
   have hm:(r.drop (k+1)).length*t.size=r.length*t.size - (k+1)*t.size:=by rw[dG,Nat.sub_mul]
   have ao8:(aC.pr (.d (.arr k t) (r.take k)) (.pr u (.d (.arr (r.drop (k+1)).length t) (r.drop (k+1))))).size=r.length*t.size:=by simp only[aC.size,Ty.size,aRm,hm];omega
   refine UA.obj ⟨pl,cur,e,hp,q1,q5,azx hz q2 q4 (by rw[ao8];exact uW),?_⟩;rw[anM hz,ao8];refine V.mono hle ?_
   show V _ (.pr (.d (.arr k t) (r.take k)) (.pr u (.d (.arr (r.drop (k+1)).length t) (r.drop (k+1))))) _;simp only[V];generalize cur.toList.take (r.length*t.size)=R at*;refine⟨R.take (k*t.size),R.drop (k*t.size),(dH _ _).symm,?_,(R.drop (k*t.size)).take t.size,R.drop ((k+1)*t.size),?_,am3,?_⟩
   ·simp only[dA];exact⟨by rw[bB];omega,c1⟩
   ·rw[akS,<-gJ,dH]
   ·simp only[dA];exact⟨trivial,c3⟩))
 refine⟨g,β,hI.aUx j ?_⟩;have:=h.cM j;rw[hj]at this;exact aqr (VS.mono hle this)
theorem Ve:∀(l:List Nat) {s s1:AS},jf C s a w->(aAr s l).eval=av s1->jf C s1 a w
 |[],s,s1,h,he=>by simp only[aAr]at he;obtain rfl:=az.1 he;exact h
 |j::l,s,s1,h,he=>by
  obtain⟨g,β,h⟩:=h;simp only[aAr]at he;split at he
  ·rename_i id ver k p n hj;split at he
   ·rename_i v e t r mX;obtain⟨h1,he⟩:=aH.1 he;obtain⟨h2,he⟩:=b8.1 he;obtain⟨u,h3,he⟩:=ax.1 he;exact Ve l (h.aTo hj mX (of_decide_eq_true h2) h3) he
   ·simp only[aw]at he
  ·exact Ve l ⟨g,β,h⟩ he
  ·simp only[aw]at he
theorem Va{s:AS}{id i:Id}(h:i≠id):(s.freeze id).cq i=s.cq i:=by
 unfold AS.freeze;split
 ·exact dq s id i _ h
 ·rfl
theorem zC:∀(ids:List Id) {s:AS} {i:Id},i ∉ ids->(s.bG ids).cq i=s.cq i
 |[],_,_,_=>rfl
 |id::ids,s,i,h=>by
  have h1:i≠id:=λe=>h (by rw[e];exact aK)
  exact(zC ids λhi=>h (aF _ hi)).trans (Va h1)
theorem Inv.aUK(h:Inv C g β s a w){j:Nat}{id:Id}{ver n k m v z:Nat}{p p':List MK}(hj:s.slot j= .ptr id ver p n){e:TypeId}{t:Ty}{l1 l2:List t.den}{u:aC}
  (mX:s.obj id=av (v,aQ,.bx e z (.pr (.d (.arr k t) l1) (.pr u (.d (.arr m t) l2))))) (hz:z=t.size) (aRs:0 < z) (dr:id ∉ u.shared) {x:t.den} (hx:(s.jT t u).eval=av x):
  jf C (((s.bG u.shared).bq id (.obj v aQ (.vec e t (l1++x::l2)))).put (av j) (.ptr id ver p' n)) a w:=by
 have dh:=eU mX;obtain⟨pl0,cur0,e0,aRh,aQ8,aVW,aTR,hV0⟩:=(h.bT id v aQ _ dh).box rfl;obtain⟨g',h1,h2,h3,h4⟩:=gh u.shared h;have zD:(s.bG u.shared).cq id=av (.obj v aQ (.bx e z (.pr (.d (.arr k t) l1) (.pr u (.d (.arr m t) l2))))):=(zC _ dr).trans dh;obtain⟨pl,cur,e1,hp,hh,hg,hk,hV⟩:=(h1.bT id v aQ _ zD).box rfl;have hp:β id=av pl:=hp;have QP:pl0=pl:=by have aRh:β id=av pl0:=aRh;rw[aRh]at hp;exact bn hp
 subst QP;have gb:cur0=cur:=by
  have aQ8:w.heap[pl0.b]? =_:=aQ8
  have hh:w.heap[pl0.b]? =_:=hh
  rw[aQ8]at hh;simpa using(bu (λo=>match o with | some (.cells x _ _)=>x | _=>cur0) hh)
 subst gb;obtain⟨rfl,q2,q4,q3⟩:=alz aRs hk;rw[anM aRs]at hV0;have hV0:V (s.env w g β) (.pr (.d (.arr k t) l1) (.pr u (.d (.arr m t) l2))) _:=hV0;have aZd:=hV0.size;simp only[V]at hV0;obtain⟨ca,cb,hR,hA,cu,cc,aQ2,hU,hB⟩:=hV0;subst aQ2;simp only[dA]at hA hB;have hX:=y5 rfl h.bT h2 u t x cu hU hx h4;have asp:∀c x,dA ((s.bG u.shared).env w g' β) t c x->c.length=t.size:=λc x hx=>hx.size
 have cA:=hA.2.mono λ_ _ hx=>hx.mono h2.mem
 have cB:=hB.2.mono λ_ _ hx=>hx.mono h2.mem
 have xL:bI (dA ((s.bG u.shared).env w g' β) t) (ca++(cu++cc)) (l1++x::l2):=bI.append cA ⟨cu,cc,rfl,hX,cB⟩;have hlen:=bI.length asp xL;have ao8:(aC.pr (.d (.arr k t) l1) (.pr u (.d (.arr m t) l2))).size=(l1++x::l2).length*t.size:=by rw[<-hlen,<-hR];exact aZd.symm
 rw[ao8]at hR q3;rw[hz]at q2;have at1:(l1++x::l2).length<=pl0.cap:=by rw[q2]at q3;exact Nat.le_of_mul_le_mul_right q3 ak
 have ht:=Trans.refl w g';have hle:db ((s.bG u.shared).env w g' β) (((s.bG u.shared).bq id (.obj v aQ (.vec e1 t (l1++x::l2)))).env w g' β):=db.bq zD (ay _) ht (λ_ _=>rfl) (λ_=>rfl);have hI:=h1.step (dE _ _ _) ht hle (jE.bq h1.bT (by rw[zD];simp) hle (λ_ _=>rfl) (λ_ _ _ _ _ _ _ _=>⟨rfl,rfl⟩) (am2:=rC zD λ_ _ _ e=>by cases e) (by
  refine⟨ak,?_⟩;show(match β id with
   |none=>l1++x::l2=[]
   |some pl=>_)
  rw[hp];exact⟨cur0,0,hh,q2,at1,q4,hg,aP _,λ_=>rfl,by rw[hR];exact xL.mono λ_ _ hx=>hx.mono hle.mem⟩))
 refine⟨g',β,hI.aUx j ?_⟩;have:=h.cM j;rw[hj]at this;exact aqr (VS.mono (h2.trans hle) this)
theorem aje:∀(l:List Nat) {s s1:AS},jf C s a w->(aKW s l).eval=av s1->jf C s1 a w
 |[],s,s1,h,he=>by simp only[aKW]at he;obtain rfl:=az.1 he;exact h
 |j::l,s,s1,h,he=>by
  obtain⟨g,β,h⟩:=h;simp only[aKW]at he;split at he
  ·rename_i id ver p n hj;split at he
   ·rename_i v e z k t l1 u m t' l2 mX;obtain⟨h1,he⟩:=aH.1 he;obtain⟨l2',h2,he⟩:=ax.1 he;obtain⟨x,h3,he⟩:=ax.1 he;simp only[au,dK,cS,ik]at h1;obtain⟨⟨⟨h5,h6⟩,h7⟩,h8⟩:=h1;obtain⟨et,hl⟩:=km (lf.1 h2);have et':t'=t:=by simpa using et
    subst et';simp only at hl;subst hl;refine aje l (h.aUK hj mX h6 ak (λhi=> ?_) h3) he;have:(u.shared.any λi=>decide (i=id))=aZ:=List.any_eq_true.2 ⟨id,hi,by simp⟩;rw[this]at h8;cases h8
   ·simp only[aw]at he
  ·simp only[aw]at he
theorem B0:∀(l:List aUR) {s s1:AS},jf C s a w->(Xk s l).eval=av s1->jf C s1 a w
 |[],s,s1,h,he=>by simp only[Xk]at he;obtain rfl:=az.1 he;exact h
 |o::l,s,s1,h,he=>by
  obtain⟨g,β,h⟩:=h;unfold Xk at he;split at he
  ·exact B0 l ⟨g,β,h⟩ he
  obtain⟨u,hu,he⟩:=ax.1 he;obtain⟨x,hx,he⟩:=ax.1 he;obtain⟨s',hs,he⟩:=ax.1 he;exact B0 l (h.aTk hu hx hs) he
theorem mO(hC:C.ok):∀(l:List aEm) {s s1:AS},jf C s a w->(xX P s l).eval=av s1->jf C s1 a w
 |[],s,s1,h,he=>by simp only[xX]at he;obtain rfl:=az.1 he;exact h
 |o::l,s,s1,h,he=>by
  obtain⟨g,β,h⟩:=h;unfold xX at he;split at he
  ·exact mO hC l ⟨g,β,h⟩ he
  obtain⟨u,hu,he⟩:=ax.1 he;split at he
  ·split at he
   ·rename_i e t b MQ hv;obtain⟨s',h1,h2⟩:=ax.1 he;exact mO hC l (h.aUn hu hv (afS MQ) h1) h2
   ·simp only[aw]at he
  ·split at he
   ·rename_i b j ver aXM;split at he
    ·rename_i v fr c mX hm;split at he
     ·have aSH:b < s.news.length:=by
       have:=eU mX;simp only[AS.cq,aJ]at this;cases hn:s.news[b]? with
       |none=>rw[hn]at this;simp at this
       |some es=>exact(dX.1 hn).1
      obtain⟨g1,β1,h1⟩:=h.KS hC aSH (by simpa using hm);exact mO hC l ⟨g1,β1,h1⟩ he
     ·simp only[aw]at he
    ·simp only[aw]at he
   ·simp only[aw]at he
theorem QJ:∀(l:List Nat) {s s1:AS},jf C s a w->(ajd s l).eval=av s1->jf C s1 a w
 |[],s,s1,h,he=>by simp only[ajd]at he;obtain rfl:=az.1 he;exact h
 |j::l,s,s1,h,he=>by
  obtain⟨g,β,h⟩:=h;simp only[ajd]at he;split at he
  ·rename_i id ver len hj;split at he
   ·rename_i v e t r mX;split at he
    ·obtain⟨h1,h2⟩:=b8.1 he;have h1:len<=r.length:=by simpa using h1
     refine QJ l ?_ h2
     have dh:=eU mX;have hO:yz (s.env w g β) id aQ (.vec e t r):=h.bT id v aQ _ dh;have ht:=Trans.refl w g;have hle:db (s.env w g β) ((s.bq id (.obj v aQ (.vec e t (r.take len)))).env w g β):=db.bq dh (ay _) ht (λ_ _=>rfl) (λ_=>rfl);refine⟨g,β,h.step (dE _ _ _) ht hle (jE.bq h.bT (by rw[dh];simp) hle (λ_ _=>rfl) (λ_ _ _ _ _ _ _ _=>⟨rfl,rfl⟩) ?_ (Sv dh))⟩;obtain⟨hz,hO⟩:=hO;refine⟨hz,?_⟩;have hO:(match β id with
      |none=>r=[]
      |some pl=>∃cur k,w.heap[pl.b]? =av (.cells cur e (0,0))/\cur.size=pl.cap*t.size/\r.length<=pl.cap/\pl.cap<=maxLen/\g pl.b= .own (.id id) k/\
        k<=r.length*t.size/\(aQ=aQ->k=0)/\bI (dA (s.env w g β) t) (cur.toList.take (r.length*t.size)) r):=hO
     show(match β id with
      |none=>r.take len=[]
      |some pl=>_)
     cases hp:β id with
     |none=>rw[hp]at hO;simp only at hO;subst hO;simp
     |some pl=>
      rw[hp]at hO;obtain⟨cur,k,q1,q2,q3,q4,q5,q6,q7,q8⟩:=hO;have hk:=q7 rfl;subst hk;have hlen:(r.take len).length=len:=by simp;omega
      refine⟨cur,0,q1,q2,ak,q4,q5,aP _,λ_=>rfl,?_⟩;have:=bI.take (λ_ _ hx=>dA.size hx) len q8;rw[fp,eH (di _ h1)]at this;rw[hlen];exact this.mono λ_ _ hx=>hx.mono hle.mem
    ·simp only[aw]at he
   ·simp only[aw]at he
  ·simp only[aw]at he
theorem Q0:∀(l:List (Nat×Ty)) {s s1:AS},jf C s a w->(asData s l).eval=av s1->jf C s1 a w
 |[],s,s1,h,he=>by simp only[asData]at he;obtain rfl:=az.1 he;exact h
 | (j,t)::l,s,s1,h,he=>by obtain⟨g,β,h⟩:=h;simp only[asData]at he;obtain⟨x,h1,h2⟩:=ax.1 he;obtain⟨g',i1,_,_,cs,hR,hO⟩:=CH h (h.cM j) h1;exact Q0 l ⟨g',β,i1.aUx j (VS.of (a:= .d t x) (cs:=cs) (by simpa only[V]using hR) hO)⟩ h2
theorem Inv.still:∀(l:List Nat) {s:AS},Inv C g β s a w->Inv C g β (s.still l) a w
 |[],s,h=>h
 |q::l,s,h=>by
  simp only[AS.still];split
  ·rename_i v fr i ver k t r cu mX;exact Inv.still l (h.aPO (eU mX) (.inr ⟨rfl,rfl,rfl⟩))
  ·exact Inv.still l h
theorem yE{α:Type}(l:List α):(jF l).Perm l:=Quotient.exact (s:=aiy α) (sk (Quotient.mk (aiy α) l)).choose_spec
theorem azE{α:Type}{l l':List α}(h:l.Perm l'):jF l=jF l':=by
 have e:Quotient.mk (aiy α) l=Quotient.mk (aiy α) l':=Quotient.sound h;unfold jF;have:∀q q':Quotient (aiy α),q=q'->(sk q).choose=(sk q').choose:=λq q' h=>by subst h;rfl
 exact this _ _ e
theorem Inv.canon:∀(l:List Id) {s:AS},Inv C g β s a w->Inv C g β (s.canon l) a w
 |[],s,h=>h
 |id::l,s,h=>by
  simp only[AS.canon];split
  ·rename_i v fr k t r mX;have dh:=eU mX;have ht:=Trans.refl w g;have hle:db (s.env w g β) ((s.bq id (.obj v fr (.mp k t (jF r)))).env w g β):=db.bq dh (ay _) ht (λ_ _=>rfl) (λ_=>rfl);obtain⟨pl,es,clock,h1,h2,h3,⟨⟨l',h4,h5⟩,h6⟩,h7⟩:=h.bT id v fr _ dh
   refine Inv.canon l (h.step (dE _ _ _) ht hle (jE.bq h.bT (by rw[dh];simp) hle (λ_ _=>rfl) (λ_ _ _ _ _ _ _ _=>⟨rfl,rfl⟩)
    ⟨pl,es,clock,h1,h2,h3,⟨⟨l',h4.mono λ_ _ he=>he.mono hle.mem,h5.trans (yE r).symm⟩,(((yE r).map _).nodup_iff).2 h6⟩,h7⟩ ?_))
   intro ver k' v' l2 hl;rw[dh]at hl;simp only[aA,dW.obj.injEq]at hl;obtain⟨rfl,rfl,_⟩:=hl;exact⟨rfl,rfl,⟨_,_,_,rfl⟩,λ_ _=>⟨rfl,rfl⟩⟩
  ·exact Inv.canon l h
theorem W3(k v n:Nat)(i:Id)(ver:Nat):(i= .bt k/\ver=v/\wO k v n i ver=av (.bt k,n))\/(i= .bt k/\wO k v n i ver=aD)\/(i≠ .bt k/\wO k v n i ver=av (i,ver)):=by
 cases i with
 |new x j=>exact .inr (.inr ⟨by simp,rfl⟩)
 |bt j=>
  simp only[wO];cases h1:ju j k with
  |false=>exact .inr (.inr ⟨λe=>by injection e with e;subst e;simp at h1,rfl⟩)
  |true=>
   obtain rfl:=fE h1;cases h2:ju ver v with
   |false=>exact .inr (.inl ⟨rfl,rfl⟩)
   |true=>exact .inl ⟨rfl,fE h2,rfl⟩
theorem anQ(hC:C.ok){s s1:AS}(h:Inv C g β s a w){k n:Nat}(he:(s.aFg k n).eval=av s1):Inv C g β s1 a w:=by
 unfold AS.aFg at he;split at he;rotate_left
 ·exact(aw.1 he).elim
 rename_i v fr c hk;obtain⟨aX1,he⟩:=aH.1 he;have aX1:v<=n\/1<=n:=(Bool.or_eq_true_iff.1 aX1).imp ea ea;have hz:∀ver,C.E.Ij (.bt k) ver->ver=0:=λver hb=>by
  obtain⟨h1,h2⟩:=hb;cases hs:C.E.s (.bt k) with
  |none=>exact absurd hs h1
  |some en=>
   cases en with
   |dead=>
    have:=(h.le.Ij (.bt k) (v+1) ⟨h1,λv' fr' c' hh=>by rw[hs]at hh;cases hh⟩).2 _ _ _ hk;omega
   |obj v0 fr0 c0=>
    have:=hC.2 _ _ _ _ hs;have:=h2 _ _ _ hs;omega
 obtain rfl:=az.1 he;have aTT:k < s.cz.length:=by
  rcases rh k s.cz.length with h | h
  ·exact h
  ·simp[AS.cq,dY h]at hk
 generalize Uy:({cM:=s.cM.map (aC.jB (wO k v n)),cz:=(s.cz.map (dW.avw (wO k v n) (JX k))).set k (.obj n fr (c.jB (wO k v n))),news:=s.news.map λes=>es.map (dW.avw (wO k v n) (JX k))}:AS)=s1;have e0:s1.cq (.bt k)=av (.obj n fr (c.jB (wO k v n))):=by rw[<-Uy];simp[AS.cq,aTT]
 have e1:∀i,i≠ .bt k->s1.cq i=(s.cq i).map (dW.avw (wO k v n) (JX k)):=λi hi=>by
  rw[<-Uy];cases i with
  |bt j=>
   have:¬k=j:=λe=>hi (by rw[e])
   simp only[AS.cq];rw[eT this,eW]
  |new x j=>
   simp only[AS.cq,aJ,eW];cases s.news[x]? <;> simp
 have e2:∀i v' fr' c',i≠ .bt k->s1.cq i=av (.obj v' fr' c')->∃c0,s.cq i=av (.obj v' fr' c0)/\c'=c0.aCy (wO k v n) (JX k):=λi v' fr' c' hi hh=>by
  rw[e1 i hi]at hh;cases hs:s.cq i with
  |none=>rw[hs]at hh;cases hh
  |some en=>
   rw[hs]at hh;cases en with
   |dead=>simp[dW.avw]at hh
   |obj v0 fr0 c0=>
    simp only[eJ,dW.avw,aA,dW.obj.injEq]at hh;obtain⟨rfl,rfl,rfl⟩:=hh;exact⟨c0,rfl,rfl⟩
 have e3:∀i,i≠ .bt k->s.cq i≠aD->s1.cq i≠aD:=λi hi hh=>by
  rw[e1 i hi];cases hs:s.cq i with
  |none=>exact absurd hs hh
  |some en=>simp
 have hle:BE (wO k v n) (s.env w g β) (s1.env w g β):=by
  refine⟨Trans.mem (E:=s.env w g β) (E':=s1.env w g β) (Trans.refl w g),λi ver r hr ao7=> ?_⟩;rcases W3 k v n i ver with⟨rfl,rfl,e⟩ | ⟨rfl,e⟩ | ⟨hi,e⟩
  ·rw[e]at hr;obtain rfl:=bn hr;refine⟨⟨by show s1.cq (.bt k)≠aD;rw[e0];simp,λv' fr' c' hh=> ?_⟩,λ_=>⟨⟨fr,c,hk⟩,rfl⟩⟩;have hh:s1.cq (.bt k)=av (.obj v' fr' c'):=hh;rw[e0]at hh;simp only[aA,dW.obj.injEq]at hh;exact re hh.1
  ·rw[e]at hr;cases hr
  ·rw[e]at hr;obtain rfl:=bn hr;obtain⟨k1,k2⟩:=ao7;have k1:s.cq i≠aD:=k1;have k2:∀v' fr' c',s.cq i=av (.obj v' fr' c')->ver<=v':=k2;refine⟨⟨e3 i hi k1,λv' fr' c' hh=> ?_⟩,λ⟨fr',c',hh⟩=> ?_⟩
   ·obtain⟨c0,ZG,_⟩:=e2 i v' fr' c' hi hh;exact k2 _ _ _ ZG
   ·obtain⟨c0,ZG,_⟩:=e2 i ver fr' c' hi hh;exact⟨⟨fr',c0,ZG⟩,rfl⟩
 refine⟨h.defers,by rw[<-Uy];simpa using h.size,λi=> ?_,λid ver fr' c' dr=> ?_,h.trans,?_⟩
 ·have:s1.slot i=(s.slot i).jB (wO k v n):=by rw[<-Uy];exact aet _ rfl _ _
  rw[this];exact Ji hle (h.cM i)
 ·have dr:s1.cq id=av (.obj ver fr' c'):=dr;by_cases hi:id= .bt k
  ·subst hi;rw[e0]at dr;simp only[aA,dW.obj.injEq]at dr;obtain⟨rfl,rfl,rfl⟩:=dr;exact yA hle (h.bT (.bt k) v fr c hk) (id':= .bt k) rfl λpl _=>⟨rfl,λ_ h=>h,λh=>h⟩
  ·obtain⟨c0,ZG,rfl⟩:=e2 id ver fr' c' hi dr;have h0:=h.bT id ver fr' c0 ZG;rcases auf c0 with⟨q2,vq,kt,vt,l,cu,rfl⟩ | ⟨aRj,_⟩
   ·simp only[aC.aCy];cases aU6:JX k q2 with
    |true=>
     have il:q2≠ .bt k:=λe=>by subst e;simp[JX]at aU6
     have hρq:∀vr,wO k v n q2 vr=av (q2,vr):=λvr=>by
      rcases W3 k v n q2 vr with⟨e,_⟩ | ⟨e,_⟩ | ⟨_,e⟩
      ·exact absurd e il
      ·exact absurd e il
      ·exact e
     refine aQa.ba hle.mem (λ_=>rfl) h0 rfl (λ_ _ h=>h) λvr _=>⟨λhb=>hle.ref q2 vr (q2,vr) (hρq vr) hb,λkt vt l asj=> ?_,λ_ _ h=>h⟩
     have asj:s.cq q2=av (.obj vr aZ (.mp kt vt l)):=asj;show s1.cq q2=_;rw[e1 q2 il,asj];rfl
    |false=>
     obtain⟨pl,mb,since,seen,c0,h1,h2,h3,h4⟩:=h0;exact⟨pl,mb,since,seen,c0,h1,h2,h3,λvr asm=>ak⟩
   ·rw[aRj];exact yA hle h0 (id':=id) rfl λpl _=>⟨rfl,λ_ h=>h,λh=>h⟩
 ·have hl:=h.le;refine⟨hl.mem.trans (Trans.mem (E:=s.env w g β) (E':=s1.env w g β) (Trans.refl w g)),λid ver hb=> ?_,λid ver hb hc=> ?_⟩
  ·obtain⟨h1,h2⟩:=hl.Ij _ ver hb;have h1:s.cq id≠aD:=h1;have h2:∀v' fr' c',s.cq id=av (.obj v' fr' c')->ver<=v':=h2;by_cases hi:id= .bt k
   ·subst hi;obtain rfl:=hz ver hb;exact⟨by show s1.cq (.bt k)≠aD;rw[e0];simp,λv' fr' c' hh=>aP _⟩
   ·exact⟨e3 id hi h1,λv' fr' c' hh=>let⟨c0,ZG,_⟩:=e2 id v' fr' c' hi hh;h2 _ _ _ ZG⟩
  ·obtain⟨fr',c',hc⟩:=hc;have hc:s1.cq id=av (.obj ver fr' c'):=hc;by_cases hi:id= .bt k
   ·subst hi;obtain rfl:=hz ver hb;rw[e0]at hc;simp only[aA,dW.obj.injEq]at hc;have e4:=hc.1;obtain rfl:v=0:=ak;exact hl.cur _ _ hb ⟨fr,c,hk⟩
   ·obtain⟨c0,ZG,_⟩:=e2 id ver fr' c' hi hc;exact hl.cur _ _ hb ⟨fr',c0,ZG⟩
theorem Gv(hC:C.ok):∀(l:List (Nat×Nat)) {s s1:AS},Inv C g β s a w->(anR s l).eval=av s1->Inv C g β s1 a w
 |[],s,s1,h,he=>by obtain rfl:=az.1 he;exact h
 |x::l,s,s1,h,he=>by obtain⟨s2,h1,h2⟩:=ax.1 he;exact Gv hC l (anQ hC h h1) h2
def YX(ids:List Id)(q:Nat):np->np
 | .own (.id (.new x y)) k=>match idxOf (.new x y) ids with | some m=> .own (.id (.new q m)) k | none=> .free
 |l=>l
def aRY(β:Id->Option Pl)(ids:List Id)(q:Nat):Id->Option Pl
 | .bt k=>β (.bt k)
 | .new x y=>if x=q then(ids[y]?).bind β else aD
theorem Trans.YX(w:cd)(g:Nat->np)(ids:List Id)(q:Nat):Trans w w g λx=>YX ids q (g x):=by
 refine⟨rfl,rfl,⟨rfl,ay _⟩,ay _,λy _=> ?_⟩;cases hg:g y with
 |free=>exact⟨by simp[Ab.YX],rfl⟩
 |own o k=>cases o with
  |eY=>exact⟨by simp[Ab.YX],rfl⟩
  |id x=>
   refine⟨?_,λ_ _ _ h=>h⟩;cases x with
   |bt m=>exact .inr ⟨_,_,rfl,ay _⟩
   |new x j=>
    simp only[Ab.YX];split
    ·exact .inr ⟨_,_,rfl,ay _⟩
    ·exact .inl rfl
theorem Inv.akL(h:Inv C g β s a w)(hC:C.ok){ids:List Id}{q:Nat}(hn:ids.Nodup)(I8:∀id∈ids,∃i j,id= .new i j)(aWn:q < s.news.length):
  ∃g1 β1,Inv C g1 β1 (s.JP ids q) a w:=by
 let ρ:Ren:=aAz s ids q
 obtain⟨s1,Uy⟩:∃s1,s1=s.JP ids q:=⟨_,rfl⟩;have hold:∀k,s1.cq (.bt k)=(s.cq (.bt k)).map (dW.aJr ρ):=λk=>by
  rw[Uy];show(s.cz.map (dW.aJr ρ))[k]? =_
  rw[eW];rfl
 have mm:∀j,s1.cq (.new q j)=(ids[j]?).map λid=>((s.cq id).getD .dead).avv ρ:=λj=>by rw[Uy];simp[AS.JP,AS.cq,aJ,aWn,ρ]
 have MR:∀x j,x≠q->s1.cq (.new x j)=aD:=λx j hx=>by
  have hx':¬q=x:=λe=>hx e.symm
  rw[Uy];simp only[AS.JP,AS.cq,aJ];rw[eT hx',eW];cases s.news[x]? <;> simp
 let g1:Nat->np:=λx=>YX ids q (g x)
 let β1:=aRY β ids q
 have ht:Trans w w g g1:=Trans.YX w g ids q;have hβ:∀j,β1 (.new q j)=(ids[j]?).bind β:=λj=>if_pos rfl
 have hρ:∀i ver r,ρ i ver=av r->(∃k,i= .bt k/\r=(i,ver))\/∃j fr c,ids[j]? =av i/\s.cq i=av (.obj ver fr c)/\r=(.new q j,0):=λi ver r hr=>by
  replace hr:aAz s ids q i ver=av r:=hr
  cases i with
  |bt k=>exact .inl ⟨k,rfl,(bn hr).symm⟩
  |new x y=>
   unfold aAz at hr;simp only at hr;split at hr
   ·rename_i j v fr c hj ho;split at hr
    ·rename_i hv;have hv:ver=v:=by simpa using hv
     subst hv;exact .inr ⟨j,fr,c,ql hj,eU ho,(bn hr).symm⟩
    ·cases hr
   ·cases hr
 have hrenA:∀e v fr c,dW.aJr ρ e= .obj v fr c->∃c0,e= .obj v fr c0/\c0.jB ρ=c:=λe v fr c he=>by
  cases e with
  |dead=>cases he
  |obj v0 fr0 c0=>
   simp only[dW.aJr,dW.obj.injEq]at he;obtain⟨rfl,rfl,rfl⟩:=he;exact⟨c0,rfl,rfl⟩
 have hle:BE ρ (s.env w g β) (s1.env w g1 β1):=by
  refine⟨Trans.mem (E:=s.env w g β) (E':=s1.env w g1 β1) ht,λi ver r hr ao7=> ?_⟩;rcases hρ i ver r hr with⟨k,rfl,rfl⟩ | ⟨j,fr,c,hj,he,rfl⟩
  ·obtain⟨k1,k2⟩:=ao7;have k1:s.cq (.bt k)≠aD:=k1;refine⟨⟨?_,λv' fr' c' hh=> ?_⟩,λ⟨fr',c',hh⟩=>⟨?_,rfl⟩⟩
   ·show s1.cq (.bt k)≠aD;rw[hold];cases hs:s.cq (.bt k) with
    |none=>exact absurd hs k1
    |some en=>simp
   ·have hh:s1.cq (.bt k)=av (.obj v' fr' c'):=hh;rw[hold,dx]at hh;obtain⟨e,he,hh⟩:=hh;obtain⟨c0,rfl,_⟩:=hrenA _ _ _ _ hh;exact k2 v' fr' c0 he
   ·have hh:s1.cq (.bt k)=av (.obj ver fr' c'):=hh;rw[hold,dx]at hh;obtain⟨e,he,hh⟩:=hh;obtain⟨c0,rfl,_⟩:=hrenA _ _ _ _ hh;exact⟨fr',c0,he⟩
  ·refine⟨⟨by show s1.cq (.new q j)≠aD;rw[mm,hj];simp,λ_ _ _ _=>aP _⟩,λ_=>⟨⟨fr,c,he⟩,?_⟩⟩;show β1 (.new q j)=β i;rw[hβ,hj];rfl
 have e1:s1.cM=s.cM.map (aC.jB ρ):=by rw[Uy];rfl
 rw[<-Uy];refine⟨g1,β1,h.V2 hC ρ (by rw[e1];simp) ht hle (λi=> ?_) (λid ver fr c dr=> .inr ?_) λk=>⟨λhk=> ?_,λv' fr' c' hh=> ?_,rfl⟩⟩
 ·have:s1.slot i=(s.slot i).jB ρ:=by unfold AS.slot;rw[e1];exact aet _ rfl _ _
  rw[this];exact Ji hle (h.cM i)
 ·cases id with
  |bt k=>
   rw[hold,dx]at dr;obtain⟨e,he,dr⟩:=dr;obtain⟨c0,rfl,hc⟩:=hrenA _ _ _ _ dr;exact⟨.bt k,ver,c0,he,hc,rfl,λpl _=>⟨λn hg=>by show YX ids q (g pl.b)=_;rw[hg];rfl,λhg=>by show YX ids q (g pl.b)=_;rw[hg];rfl⟩⟩
  |new x y=>
   by_cases hx:x=q
   ·subst hx;rw[mm,dx]at dr;obtain⟨i,hi,dr⟩:=dr;obtain⟨i0,j0,rfl⟩:=I8 i (cZ hi);cases hs:s.cq (.new i0 j0) with
    |none=>rw[hs]at dr;cases dr
    |some e=>
     rw[hs]at dr;cases e with
     |dead=>cases dr
     |obj v0 fr0 c0=>
      simp only[eo,dW.avv,dW.obj.injEq]at dr;obtain⟨_,rfl,hc⟩:=dr;refine⟨.new i0 j0,v0,c0,hs,hc,by rw[hβ,hi];rfl,λpl _=>⟨λn hg=> ?_,λhg=>by show YX ids _ (g pl.b)=_;rw[hg];rfl⟩⟩;show YX ids _ (g pl.b)=_;rw[hg];simp only[YX,yK hn hi]
   ·rw[MR x y hx]at dr;cases dr
 ·show s1.cq (.bt k)≠aD;rw[hold];cases hs:s.cq (.bt k) with
  |none=>exact absurd hs hk
  |some en=>simp
 ·have hh:s1.cq (.bt k)=av (.obj v' fr' c'):=hh;rw[hold,dx]at hh;obtain⟨e,he,hh⟩:=hh;obtain⟨c0,rfl,_⟩:=hrenA _ _ _ _ hh;exact⟨c0,he⟩
theorem akM(hC:C.ok){s s1:AS}{o:Option Nat}(h:jf C s a w)(he:(s.akL o).eval=av s1):jf C s1 a w:=by
 cases o with
 |none=>
  obtain rfl:=az.1 he;exact h
 |some q=>
  obtain⟨h1,h2⟩:=aH.1 he;obtain rfl:=az.1 h2;obtain⟨g,β,h⟩:=h;obtain⟨g1,β1,h3⟩:=h.akL hC (ids:=s.aTp) ((uO s _ _ _ (by simp)).filter _) (λid dr=>by
   have:=(oW.1 dr).2;cases id with
   |bt k=>cases this
   |new i j=>exact⟨i,j,rfl⟩) (ea h1)
  exact⟨g1,β1,h3⟩
theorem qv(hC:C.ok){an:pE}{s1:AS}(h:jf C s a w)(he:(norm P an s).eval=av s1):jf C s1 a w:=by unfold norm at he;obtain⟨sb,aYs,he⟩:=ax.1 he;obtain⟨su,aYt,he⟩:=ax.1 he;obtain⟨sd,aVI,he⟩:=ax.1 he;obtain⟨s0,h1,h2⟩:=ax.1 he;obtain⟨h3,h4⟩:=aH.1 h2;obtain⟨sf,h5,h6⟩:=ax.1 h4;obtain⟨sg,h6,h7⟩:=ax.1 h6;obtain⟨g0,β0,h0⟩:=h;obtain⟨g1,i1,_⟩:=gh an.axA (Gv hC _ h0 aYs);obtain⟨g,β,h⟩:=Q0 _ (B0 _ (aje _ ⟨g1,β0,(i1.still an.aVe).canon an.aQz⟩ aYt) aVI) h1;exact akM hC (mO hC _ (Ve _ ⟨g,β,h.ba hC h3⟩ h5) h6) h7
end
end Go.Ab
end
