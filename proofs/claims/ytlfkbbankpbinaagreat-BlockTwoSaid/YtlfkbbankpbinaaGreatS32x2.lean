/-
  Made short by a program of mine (wip/tools/mini.py).
-/
import Derived.Test.YtlfkbbankpbinaaGreatS32x1
import Derived.Lib.Builder
import Derived.Lib.UnsafeStr
import Derived.Lib.AppendZeros
import Derived.Maps.RangeRun
set_option linter.unusedVariables false
set_option linter.unusedSimpArgs false
set_option maxRecDepth 100000
set_option synthInstance.maxSize 5000
open Go renaming IntKind->kF,FuncId->fR,Operand->bJ,Program->aN,World->bU,MapEntry->fU
open List renaming replicate->ai,length->ag
open UInt8 renaming ofNat->fy
open Nat renaming beq->iG
open Go.World renaming cell?->eP
open Go.Sem renaming run_bind->cd,run_pure->dY
open Go.Result renaming andThen_ok->bH
open Go.Addr renaming add_lit->fC
open Go.Op renaming equalIn->dh,operands->bY
open Go.Call renaming operands->ej
open Option renaming some->al,none->aJ
open Bool renaming true->aT,false->aR
noncomputable section
namespace Go.Ab
section
variable {P:aN} {C:Ctx} {g:Nat->lQ} {β:Id->Option Pl} {s:AS} {a:Act} {w:bU} {o:Oper}
theorem AX{b:Builtin}{args:Array bJ}{ts:Array TypeId}{f:Sem Value}{x:Value}{w':bU}(ho:o.op= .call {callee:= .builtin b,args,argTypes:=ts})
  (hb:∀ty cs xs,xs=args.map a.eval->builtin b ts ty cs xs=(do pure (.value (<-f)))) (hf:f.run P w= .ok x w'):(execOp a.eval o).run P w= .ok (.value x) w':=by
 simp only[execOp,ho,resolve,cd,dY,bH,invoke];rw[hb _ _ _ rfl,cd,hf];rfl
theorem auJ(h:Inv C g β s a w){c:Call}{x:bJ}{T:TypeId}(ho:o.op= .call c)(hc:c.callee= .builtin .len)(ha:c.args.toList=[x])(ht:c.argTypes.toList=[T]){v:aD}(he:(azB P T (s.ev x)).eval=al v):
  fS P o a w (gT C (s.put o.dst v)):=by
 obtain⟨cal,args,tys⟩:=c;simp only at hc ha ht;have ha':args= #[x]:=by apply gr;simpa using ha
 have ht':tys= #[T]:=by apply gr;simpa using ht
 subst hc ha' ht';have hx:=h.ev x;have fin:∀z,(Builtin.len_ #[T] 0 #[a.eval x]).run P w= .ok z w->VS (s.env w g β) v z->fS P o a w (gT C (s.put o.dst v)):=by intro z h1 h2;refine h.value h2 (AX ho (f:=Builtin.len_ #[T] 0 #[a.eval x]) (λty cs xs ahc=> ?_) h1);subst ahc;have e1:Builtin.len_ #[T] 0 #[a.eval x]=Builtin.len_ #[T] ty #[a.eval x]:=rfl;rw[e1];simp[builtin]
 unfold azB at he;split at he
 ·rename_i st hT hl;rw[hl]at hx;obtain rfl:=ay.1 he;refine fin (.int .i64 (st.size:Int)) ?_ (lu _ _)
  rw[FT hx];simp[Builtin.len_,run_underlying hT,goInt]
 ·rename_i e t l hT hl;rw[hl]at hx;obtain rfl:=ay.1 he;obtain⟨ad,cap,vs,hy,_⟩:=tq hx;refine fin (.int .i64 (l.length:Int)) ?_ (lu _ _)
  rw[hy];simp[Builtin.len_,run_underlying hT,goInt]
 ·rename_i e hT hl;rw[hl]at hx;obtain rfl:=ay.1 he;refine fin (.int .i64 0) ?_ (lu _ _)
  rw[kZ hx];simp[Builtin.len_,run_underlying hT,goInt]
 ·rename_i e id ver p c i len hT hl;rw[hl]at hx;obtain rfl:=ay.1 he;obtain⟨ad,cap,hy,_⟩:=qO hx;refine fin (.int .i64 (len:Int)) ?_ (lu _ _)
  rw[hy];simp[Builtin.len_,run_underlying hT,goInt]
 ·rename_i n e hT;obtain rfl:=ay.1 he;refine fin (.int .i64 (n:Int)) ?_ (lu _ _)
  simp[Builtin.len_,run_underlying hT,goInt]
 ·simp only[aw]at he
def Env.open(E:Env):Env:= {E with g:=λ_=> .free}
theorem azW(E:Env):cU E E.open:=⟨⟨λ_ _ _ h=>⟨h.1,trivial⟩,λ_ _ _ h=>⟨rfl,h⟩⟩,λ_ _ h=>h,λ_ _ _ h=>⟨h,rfl⟩⟩
theorem aju(h:Inv C g β s a w){v:aD}{y:Value}(hv:VS (s.env w g β) v y){t:Ty}{x:t.den}(ht:(s.ajt t v).eval=al x):
  ∃cs,cI (s.env w g β).open t cs x/\fY t.agg cs y:=by
 obtain⟨cs,hV,hO⟩:=hv.eQ (AP ht);exact⟨cs,tx rfl h.bM (azW _) v t x cs hV ht (λid _ v fr c _ pl _ j x hx _=>⟨hx,trivial⟩),by rw[<-VV ht];exact hO⟩
theorem vn{E:Env}{k:kF}:∀ {vs:List Value} {l:List Int},bo (cI E (.int k)) vs l->vs=l.map (Value.int k)
 |vs,[],h=>h
 |_,x::xs,⟨c,cs',e,hx,hr⟩=>by
  have hx':c=[Value.int k x]:=by simpa only[cI]using hx
  rw[e,hx',vn hr];rfl
theorem vB{E:Env}{k:kF}:∀(l:List Int),bo (cI E (.int k)) (l.map (Value.int k)) l
 |[]=>rfl
 |x::xs=>⟨[.int k x],xs.map (Value.int k),rfl,by simp[cI],vB xs⟩
theorem foldl_push(l:List Int):∀b:ByteArray,l.foldl (λr n=>r.push (fy n.toNat)) b=⟨b.data++(l.map λn=>fy n.toNat).toArray⟩:=by
 induction l with
 |nil=>intro b;simp
 |cons n l ih=>
  intro b;rw[aY,ih];simp[ByteArray.push]
theorem af1{α:Type}(xs:Array α)(x:α)(f:α->α):(xs.push x).modify xs.size f=xs.push (f x):=by
 apply qR;intro i;rw[gw,Array.getElem?_push,Array.getElem?_push];by_cases h:i=xs.size
 ·subst h;simp
 ·have h':¬xs.size=i:=λe=>h e.symm
  simp[h,h']
theorem aaz(w:bU)(c:Array Value)(e:TypeId)(n:Nat):(w.alloc (.cells c e)).freeze ⟨w.heap.size,n,aJ⟩ 1=w.alloc (.cells c e (n,n+1)):=by show({w with heap:=(w.heap.push (.cells c e)).modify w.heap.size _}:bU)= {w with heap:=w.heap.push (.cells c e (n,n+1))};rw[af1];rfl
theorem aeo{w:bU}{b:Nat}{c:Array Value}{e:TypeId}{n:Nat}(h:w.heap[b]? =al (.cells c e (n,n+1))):w.freeze ⟨b,n,aJ⟩ 1=w:=by
 unfold World.freeze;rw[if_neg au];have:∀f:Obj->Obj,f (.cells c e (n,n+1))= .cells c e (n,n+1)->w.heap.modify b f=w.heap:=λf hf=>by
  apply qR;intro i;rw[gw];split
  ·rename_i hi;subst hi;rw[h];simp[hf]
  ·rfl
 rw[this];simp
theorem Mw(e:TypeId)(st:ByteArray)(w:bU):∃cap:Nat,st.size<=cap/\∃arr:Array Value,(∀(j:Nat) (v:Value),((cE st).map (Value.int .u8))[j]? =al v->arr[j]? =al v)/\
  (Conv.stringToBytes e st).run P w= .ok (.slice (al ⟨w.heap.size,0,aJ⟩) st.size cap) (w.drew.alloc (.cells arr e (arr.size,arr.size+1))):=by
 refine⟨(Question.appendCap st.size 0 e).cut (w.tape w.drawn (.appendCap st.size 0 e)),by simp[Question.cut],
  (st.data.map λb=>Value.int .u8 b.toNat)++Array.replicate ((Question.appendCap st.size 0 e).cut (w.tape w.drawn (.appendCap st.size 0 e)) - st.size) (.int .u8 0),?_,?_⟩
 ·intro j v hj;have hl:j < st.data.size:=by have:=(dN.1 hj).1;simpa[cE]using this
  rw[kf,if_pos (by simpa using hl)];simpa[cE,hl]using hj
 ·have hs:∀(arr:Array Value),(markStringish ⟨w.heap.size,0,aJ⟩).run P (w.drew.alloc (.cells arr e))= .ok () (w.drew.alloc (.cells arr e (arr.size,arr.size+1))):=by
   intro arr;have h1:(w.drew.alloc (.cells arr e)).shape? w.heap.size=al (e,arr.size):=by
    have h2:(w.drew.alloc (.cells arr e)).heap[w.heap.size]? =al (.cells arr e):=sE w.drew _
    simp only[World.shape?,h2]
   have h3:=aaz w.drew arr e arr.size;have h4:w.drew.heap.size=w.heap.size:=rfl;rw[h4]at h3;simp only[markStringish,cd,run_shape,h1,bH,run_freeze,h3]
  simp[Conv.stringToBytes,Question.forced,newRow,hs]
theorem Inv.kill(h:Inv C g β s a w){id:Id}{v:Nat}{fr:Bool}{c:aD}(hs:s.bS id=al (.obj v fr c)){b:Nat}(hg:g b= .own (.id id) 0){w':bU}(aBz:w'.os=w.os)(aIz:w'.tape=w.tape)(QS:w'.output=w.output/\w.drawn<=w'.drawn)(rM:w'.heap.size=w.heap.size)
  (G4:∀b',b'≠b->w'.heap[b']? =w.heap[b']?):Inv C (na g b .free) β (s.aZ id .dead) a w':=by
 have ht:Trans w w' g (na g b .free):=by
  refine⟨aBz,aIz,QS,au,λb' hb'=> ?_⟩;by_cases he:b'=b
  ·subst he;rw[hg,fP];exact⟨.inl rfl,λ_ _ hh=>au⟩
  ·rw[fG _ _ _ he,G4 b' he];cases QR:g b' with
   |free=>exact⟨rfl,rfl⟩
   |own o k=>cases o with
    |eM=>exact⟨rfl,rfl⟩
    |id i=>exact⟨.inr ⟨i,k,rfl,aF _⟩,λoff v _ hv=>by simp only[eP,G4 b' he]at hv ⊢;exact hv⟩
 have kS:=eL s id .dead (by rw[hs];simp);have hle:cU (s.env w g β) ((s.aZ id .dead).env w' (na g b .free) β):=by
  refine⟨Trans.mem ht,λi ver hb=> ?_,λi ver hb hc=> ?_⟩
  ·by_cases hi:i=id
   ·subst hi;exact⟨by show(s.aZ i .dead).bS i≠aJ;rw[kS];simp,λv fr c hh=>by
     have hh:(s.aZ i .dead).bS i=al (.obj v fr c):=hh;rw[kS]at hh;cases hh⟩
   ·have:=df s id i .dead hi;obtain⟨h1,h2⟩:=hb;exact⟨by show(s.aZ id .dead).bS i≠aJ;rw[this];exact h1,λv fr c hh=>h2 v fr c (this.symm.trans hh)⟩
  ·obtain⟨fr,c,hc⟩:=hc;have hc:(s.aZ id .dead).bS i=al (.obj ver fr c):=hc;by_cases hi:i=id
   ·subst hi;rw[kS]at hc;cases hc
   ·rw[df s id i .dead hi]at hc;exact⟨⟨fr,c,hc⟩,rfl⟩
 refine h.step (dv _ _ _) ht hle λi ver fr c hi=> ?_
 have hi:(s.aZ id .dead).bS i=al (.obj ver fr c):=hi;by_cases dg:i=id
 ·subst dg;rw[kS]at hi;cases hi
 ·rw[df s id i .dead dg]at hi;refine(h.bM i ver fr c hi).mono hle rfl (λpl hp=> ?_) λq2 vq k2 v2 l2 NI aFn=> ?_
  ·have gJ:=h.apart hg dg hi (pl:=pl) hp;exact⟨G4 pl.b gJ,fG _ _ _ gJ⟩
  ·have NI:s.bS q2=al (.obj vq aT (.mp k2 v2 l2)):=NI;have hd:q2≠id:=λe=>by obtain⟨fr3,c3,aBn⟩:=aFn;have aBn:(s.aZ id .dead).bS q2=al (.obj vq fr3 c3):=aBn;rw[e,kS]at aBn;cases aBn
   refine⟨⟨k2,v2,l2,by show(s.aZ id .dead).bS q2=_;rw[df s id q2 .dead hd];exact NI⟩,λpl hp=> ?_⟩;have gJ:=h.apart hg hd NI (pl:=pl) hp;exact⟨G4 pl.b gJ,fG _ _ _ gJ⟩
theorem ah1(h:Inv C g β s a w){src dst:TypeId}{x:bJ}(ho:o.op= .convert src dst x){id:Id}{ver len:Nat}(hx:s.ev x= .b8 id ver [] 0 0 len){s':AS}(he:(adF P s o.dst src dst id ver len).eval=al s'):fS P o a w (gT C s'):=by
 unfold adF at he;split at he
 ·rename_i v e0 l e kk hD;split at he
  ·rename_i hE;obtain⟨h1,h2⟩:=aG.1 he;obtain⟨h3,h4⟩:=bR.1 h2;obtain rfl:=ay.1 h4;simp only[av,dD]at h1;obtain⟨rfl,rfl⟩:=h1;simp only[aW]at h3;obtain⟨h5,h6⟩:=h3;have cO:=dZ kk;have hv:=h.ev x;rw[hx]at hv;obtain⟨ad,cap,hy,KY,_,_,fH⟩:=qO hv;have fH:=fH ⟨aR,_,cO⟩;have hO:vi (s.env w g β) id aR (.vec e0 (.int .u8) l):=h.bM id v aR _ cO;obtain⟨hz,hO⟩:=hO;have hO:(match β id with
    |none=>l=[]
    |some pl=>∃cur k,w.heap[pl.b]? =al (.cells cur e0 (0,0))/\cur.size=pl.cap*(Ty.int .u8).size/\l.length<=pl.cap/\pl.cap<=maxLen/\g pl.b= .own (.id id) k/\
      k<=l.length*(Ty.int .u8).size/\(aR=aR->k=0)/\bo (cI (s.env w g β) (.int .u8)) (cur.toList.take (l.length*(Ty.int .u8).size)) l):=hO
   have fH:(match β id with
    |some pl=>(0 < len\/0=0->ad=al ⟨pl.b,0,aJ⟩)/\(([]:List GZ)=[]->0=0->cap=pl.cap)
    |none=>ad=aJ/\len=0/\cap=0):=fH
   cases hp:β id with
   |none=>rw[hp]at hO;simp only at hO;subst hO;simp at h6;omega
   |some pl=>
    rw[hp]at hO fH;obtain⟨cur,k,q1,q2,q3,q4,q5,q6,q7,q8⟩:=hO;have hk:=q7 rfl;subst hk;have aiu:=fH.1 (.inr rfl);subst aiu;have hb:pl.b < w.heap.size:=(bN.1 q1).1;have aFy:∃w',w.freeze ⟨pl.b,cur.size,aJ⟩ 1=w'/\w'.heap[pl.b]? =al (.cells cur e0 (cur.size,cur.size+1))/\w'.os=w.os/\w'.tape=w.tape/\(w'.output=w.output/\w.drawn<=w'.drawn)/\w'.heap.size=w.heap.size/\∀b',b'≠pl.b->w'.heap[b']? =w.heap[b']? :=by
     refine⟨_,rfl,?_⟩;unfold World.freeze;rw[if_neg au];refine⟨?_,rfl,rfl,⟨rfl,aF _⟩,by simp,λb' hb'=> ?_⟩
     ·simp only[gw,da,q1,eo];rfl
     ·simp only[gw];rw[if_neg (λe=>hb' e.symm)]
    obtain⟨w',hw',f1,f2,f3,f4,f5,f6⟩:=aFy;have aiB:w.shape? pl.b=al (e0,cur.size):=by simp only[World.shape?,q1]
    have hm:(markStringish ⟨pl.b,0,aJ⟩).run P w= .ok () w':=by simp only[markStringish,cd,run_shape,aiB,bH,run_freeze,hw']
    have i1:=h.kill cO q5 f2 f3 f4 f5 f6;refine .inl ⟨.slice (al ⟨pl.b,0,aJ⟩) len cap,w',eu (f:=convert src src (a.eval x)) (by simp only[execOp,ho]) ?_,_,β,i1.put o.dst ⟨_,?_,rfl⟩⟩
    ·rw[hy];simp[convert,run_underlying hD,run_underlying hE,hm]
    ·have Pz:=vn q8;have aC7:(Ty.int .u8).size=1:=rfl;rw[aC7,jE]at Pz;simp only[V,cI];refine⟨_,cap,l.map (Value.int .u8),by rw[h6],by rw[<-h6];exact KY,λ_=>rfl,λj vv hj=>⟨_,_,rfl,?_,?_⟩,vB (E:=(s.aZ id .dead).env w' (na g pl.b .free) β) _⟩
     ·rw[ba];show w'.cell? ⟨pl.b,j,aJ⟩=al vv;simp only[eP,f1];rw[<-Pz,db]at hj;split at hj
      ·simpa using hj
      ·cases hj
     ·show so (na g pl.b .free) pl.b (0+j);unfold so;rw[fP];trivial
  ·simp only[aw]at he
 ·simp only[aw]at he
theorem ayD(h:Inv C g β s a w){src dst:TypeId}{x:bJ}(ho:o.op= .convert src dst x){l:List Int}(hl:s.ev x= .sb l){v:aD}(he:(asV P src dst l).eval=al v):fS P o a w (gT C (s.put o.dst v)):=by
 have hx:=h.ev x;have fin:∀z,(convert src dst (a.eval x)).run P w= .ok z w->VS (s.env w g β) v z->fS P o a w (gT C (s.put o.dst v)):=by intro z h1 h2;exact h.value h2 (eu (f:=convert src dst (a.eval x)) (by simp only[execOp,ho]) h1)
 unfold asV at he;split at he
 ·rename_i e e' hD hS;rw[hl]at hx;split at he
  ·rename_i hE;obtain⟨h1,h2⟩:=aG.1 he;obtain rfl:=ay.1 h2;have h1:src=dst:=by simpa using h1
   subst h1;obtain⟨cs,hv,hO⟩:=hx;simp only[V]at hv;obtain⟨b,cap,arr,e2,aoH,KY,aCX,hb,aiv⟩:=hv;have hO':cs=[a.eval x]:=hO;rw[aoH]at hO';have hy:a.eval x= .slice (al ⟨b,0,aJ⟩) l.length cap:=by simpa using hO'.symm
   rw[hD]at hS;obtain rfl:e=e':=by simpa using hS
   refine fin (.slice (al ⟨b,0,aJ⟩) l.length cap) ?_ ⟨_,?_,rfl⟩
   ·rw[hy];have hb:w.heap[b]? =al (.cells arr e2 (arr.size,arr.size+1)):=hb
    have aFy:=aeo hb;have aiB:w.shape? b=al (e2,arr.size):=by simp only[World.shape?,hb]
    have hm:(markStringish ⟨b,0,aJ⟩).run P w= .ok () w:=by simp only[markStringish,cd,run_shape,aiB,bH,run_freeze,aFy]
    simp[convert,run_underlying hD,run_underlying hE,hm]
   ·simp only[V,cI];refine⟨_,cap,l.map (Value.int .u8),rfl,KY,λ_=>rfl,λj v hj=>⟨_,_,rfl,?_,?_⟩,vB (E:=s.env w g β) _⟩
    ·rw[ba];show w.cell? ⟨b,j,aJ⟩=al v;have hb:w.heap[b]? =al (.cells arr e2 (arr.size,arr.size+1)):=hb
     simp only[eP,hb];simpa using aiv j v hj
    ·show so g b (0+j);unfold so;have aCX:g b= .free:=aCX;rw[aCX];trivial
  ·simp only[aw]at he
 ·simp only[aw]at he
theorem ZT(h:Inv C g β s a w){obj:Bool}{src dst:TypeId}{x:bJ}(ho:o.op= .convert src dst x){v:aD}(he:(XS P s obj src dst (s.ev x)).eval=al v):fS P o a w (gT C (s.put o.dst v)):=by
 have hx:=h.ev x;have fin:∀z,(convert src dst (a.eval x)).run P w= .ok z w->VS (s.env w g β) v z->fS P o a w (gT C (s.put o.dst v)):=by intro z h1 h2;exact h.value h2 (eu (f:=convert src dst (a.eval x)) (by simp only[execOp,ho]) h1)
 unfold XS at he;split at he
 ·rename_i l hl;exact ayD h ho hl he
 rename_i aFF;unfold asU at he;split at he
 ·rename_i k n k' d hl hD hS;rw[hl]at hx;obtain rfl:=ay.1 he;refine fin (.int k' (k'.wrap n)) ?_ (lu _ _)
  rw[tV hx];simp[convert,run_underlying hD,run_underlying hS,Conv.intToInt]
 ·rename_i st d hl hD hS;rw[hl]at hx;obtain rfl:=ay.1 he;refine fin (.string st) ?_ (Zw _)
  rw[FT hx];simp[convert,run_underlying hD,run_underlying hS]
 ·rename_i st e d hl hD hS;rw[hl]at hx;split at he
  ·rename_i hE;obtain⟨cap,KY,arr,aiv,pz⟩:=Mw (P:=P) e st w;have i1:=(h.drew).Gg (.cells arr e (arr.size,arr.size+1));have hlen:(cE st).length=st.size:=by simp only[cE,cF,cS];rfl
   have h2:=sE w.drew (.cells arr e (arr.size,arr.size+1));have hex:(execOp a.eval o).run P w= .ok (.value (.slice (al ⟨w.heap.size,0,aJ⟩) st.size cap)) (w.drew.alloc (.cells arr e (arr.size,arr.size+1))):=by
    refine eu (f:=convert src dst (a.eval x)) (by simp only[execOp,ho]) ?_
    rw[FT hx];simp[convert,run_underlying hD,run_underlying hS,run_underlying hE,pz]
   have alD:na g w.drew.heap.size .free w.heap.size= .free:=by rw[show w.drew.heap.size=w.heap.size from rfl,fP]
   cases obj with
   |false=>
    obtain rfl:=ay.1 he;refine .inl ⟨_,_,hex,_,β,i1.put o.dst ⟨_,?_,rfl⟩⟩;simp only[V,cI];refine⟨_,cap,(cE st).map (Value.int .u8),by rw[hlen],au,λ_=>rfl,λj v hj=>⟨_,_,rfl,?_,?_⟩,vB (E:=s.env (w.drew.alloc (.cells arr e (arr.size,arr.size+1))) (na g w.drew.heap.size .free) β) _⟩
    ·have:=aiv j v hj;rw[ba];show(w.drew.alloc (.cells arr e (arr.size,arr.size+1))).cell? ⟨w.drew.heap.size,j,aJ⟩=al v;simp only[eP,h2];simpa using this
    ·show so (na g w.drew.heap.size .free) w.heap.size (0+j);unfold so;rw[alD];trivial
   |true=>
    obtain rfl:=ay.1 he;refine .inl ⟨_,_,hex,_,β,i1.put o.dst ⟨_,?_,rfl⟩⟩;simp only[V];exact⟨w.heap.size,cap,arr,e,by rw[hlen],au,alD,h2,aiv⟩
  ·simp only[aw]at he
 ·rename_i e hD hS gJ;clear gJ;split at he
  ·rename_i hE;obtain⟨l,h1,h2⟩:=ax.1 he;obtain rfl:=ay.1 h2;obtain⟨cs,hR,hO⟩:=aju h hx h1;simp only[cI]at hR;obtain⟨ad,cap,vs,rfl,arx,pY,si,uG⟩:=hR;have hO': [Value.slice ad (ag l) cap]=[a.eval x]:=hO;have hy:a.eval x= .slice ad (ag l) cap:=by simpa using hO'.symm
   refine fin (.string (fF l)) ?_ (Zw _)
   rw[hy,run_convert_bytes_string w src dst e ad _ _ hS hE hD];have Pz:=vn (E:=(s.env w g β).open) (k:= .u8) (vs:=vs) (l:=l) uG;cases ad with
   |none=>
    have aFF:l=[]:=by
     cases l with
     |nil=>rfl
     |cons _ _=>simp at pY
    subst aFF;rfl
   |some ad=>
    have at7:(loadCells ad (ag l)).run P w= .ok (l.map (Value.int .u8)).toArray w:=by
     have:=run_loadCells_list (P:=P) w ad (l.map (Value.int .u8)) (λj v hj=>by
      rw[<-Pz]at hj;obtain⟨bb,off,e1,hh⟩:=si j v hj;simp only[az]at e1;subst e1;rw[fC];exact hh.1)
     simpa using this
    rw[run_bytesToString w ad _ _ l at7,foldl_push];simp[fF]
  ·simp only[aw]at he
 ·simp only[aw]at he
end
end Go.Ab
namespace Go.Ab
section
variable {P:aN} {C:Ctx} {g:Nat->lQ} {β:Id->Option Pl} {s:AS} {a:Act} {w:bU} {o:Oper}
theorem Ya(off:Nat):∀(vs:List Value) (k:Nat) (cells:Array Value),off+k+vs.length<=cells.size->
  ((vs.zipIdx k).foldl (λcs (c,j)=>cs.setIfInBounds (off+j) c) cells).toList=dE cells.toList (off+k) vs
 |[],k,cells,_=>by simp[dE]
 |v::vs,k,cells,h=>by simp only[aH]at h;rw[List.zipIdx_cons,aY,Ya off vs (k+1) _ (by simpa using(by omega:off+(k+1)+vs.length<=cells.size))];rw[Array.toList_setIfInBounds];have:=list_seg_step cells.toList (off+k) v vs (by simp;omega);unfold dE;simpa[fN]using this
theorem X8{place:Nat->Option (Nat×Nat)}{cells:Array Value}{i off:Nat}{v:Value}{vs:List Value}{rest:List (Nat×Value)}(hp:place i=al (off,vs.length))(hv:v.cells=vs.toArray)(hl:off+vs.length<=cells.size):
  Instr.fill place cells ((i,v)::rest)=Instr.fill place (dE cells.toList off vs).toArray rest:=by
 have h1:v.cells.size=vs.length:=by rw[hv];simp
 have h2:¬(v.cells.size≠vs.length || off+v.cells.size > cells.size)=aT:=by simp[h1];omega
 simp only[Instr.fill,hp];rw[if_neg h2];congr 1;apply gr;have:=Ya off vs 0 cells au;simp only[cW]at this;rw[<-this,hv];rw[<-Array.foldl_toList];simp
theorem Bz{E E':Env}(hs:E.s=s.bS)(ho:iP E)(he:cU E E'){t:Ty}(aeA:∀x,VS E (s.ev x) (a.eval x)):
  ∀(ps:List (Nat×bJ)) (l:List t.den) (r:List t.den×List Id) (cells:Array Value),(js t s ps l).eval=al r->aET E E' r.2->bo (cI E' t) cells.toList l->
   ∃cells',Instr.fill (λi=>al (i*t.size,t.size)) cells (ps.map λ(i,x)=>(i,a.eval x))=al cells'/\bo (cI E' t) cells'.toList r.1
 |[],l,r,cells,h,_,hc=>by obtain rfl:=ay.1 h;exact⟨cells,rfl,hc⟩
 | (i,x)::ps,l,r,cells,h,hf,hc=>by
  simp only[js]at h;obtain⟨h1,h2⟩:=aG.1 h;obtain⟨y,h3,h4⟩:=ax.1 h2;obtain⟨r',h5,h6⟩:=ax.1 h4;obtain rfl:=ay.1 h6;have hi:i < l.length:=by simpa using h1
  obtain⟨cs,hV,hO⟩:=(aeA x).eQ (AP h3);have hR:=tx hs ho he _ t y cs hV h3 (λid dg=>hf id (by simp[dg]));have BZ:=hO.cells hV.one;have hlen:=hc.length (λ_ _ hx=>cI.size hx);have rM:=hR.size;have hle:i*t.size+cs.length<=cells.size:=by have:=c9 t.size (show i+1<=l.length by omega);rw[eO,ir]at this;simp at hlen;omega
  have aaI:=bo.set (λ_ _ hx=>cI.size hx) hc i hi hR;obtain⟨cells',q1,q2⟩:=Bz hs ho he aeA ps (l.set i y) r' (dE cells.toList (i*t.size) cs).toArray h5 (λid dg=>hf id (by simp[dg])) aaI;refine⟨cells',?_,q2⟩;rw[cn,X8 (by rw[rM]) BZ hle];exact q1
theorem tm{E:Env}{t:Ty}{zc:Array Value}(hz:cI E t zc.toList t.zero):∀n:Nat,bo (cI E t) (madeCells zc (n*t.size)).toList (ai n t.zero):=by
 have rM:zc.size=t.size:=by have:=hz.size;simpa using this
 intro n
 induction n with
 |zero=>simp[madeCells,bo]
 |succ n ih=>
  have e:(madeCells zc ((n+1)*t.size)).toList=(madeCells zc (n*t.size)).toList++zc.toList:=by
   apply kH;intro j;rw[eO,ir];simp only[madeCells,Array.toList_map,Array.toList_range,eK,List.getElem?_append,cF,List.length_range];by_cases hj:j < n*t.size
   ·have hj':j < n*t.size+t.size:=au;simp[hj,hj',rM]
   ·by_cases hj':j < n*t.size+t.size
    ·have jb:j - n*t.size < zc.size:=au;have hm:j%t.size=j - n*t.size:=by
      have:j=(j - n*t.size)+t.size*n:=by rw[pj t.size n];omega
      rw[this,Nat.add_mul_mod_self_left,jV au];rw[pj t.size n];omega
     simp[hj,hj',rM,hm];rw[getElem?_pos zc _ jb,kR zc _ jb]
    ·have h1:¬j - n*t.size < zc.size:=au;simp[hj,hj',h1]
  rw[e,List.replicate_succ'];exact bo.append ih (bo.one hz)
theorem qn{nl:Bool}{T:TypeId}{e:TypeId}{t:Ty}{b:Nat}(h:CV P nl T=al (e,t,b)):
  P.underlying T=al (.slice e)/\0 < t.size/\∃i zv,P.info? e=al i/\i.size=t.size/\i.bytes=b/\i.zero=al zv/\∀E,cI E t zv.cells.toList t.zero:=by
 unfold CV at h;split at h
 ·rename_i e' hT;split at h
  ·rename_i t' ht;split at h
   ·rename_i hg;simp only[az,cM]at h;obtain⟨rfl,rfl,rfl⟩:=h;simp only[av,ct,dD,gv]at hg;obtain⟨⟨h1,h2⟩,h3⟩:=hg;obtain⟨i,zv,hi,hz,_,_⟩:=ur h3 {w:=default,g:=λ_=> .free,β:=λ_=>aJ,s:=λ_=>aJ};refine⟨hT,au,i,zv,hi,by rw[<-mJ hi];exact h1,by simp[Program.bytesOf,hi],hz,λE=> ?_⟩;obtain⟨i',zv',hi',hz',hV,_⟩:=ur h3 E;rw[hi]at hi';obtain rfl:i=i':=by simpa using hi'
    rw[hz]at hz';obtain rfl:zv=zv':=by simpa using hz'
    simpa only[V]using hV
   ·cases h
  ·cases h
 ·cases h
theorem A5{T:TypeId}{e:TypeId}{t:Ty}{b:Nat}(h:Rl P T=al (e,t,b)):P.underlying T=al (.slice e)/\0 < t.size/\∃i zv,P.info? e=al i/\i.size=t.size/\i.bytes=b/\i.zero=al zv/\∀E,cI E t zv.cells.toList t.zero:=qn h
theorem Wv{T:TypeId}{e:TypeId}{t:Ty}{b:Nat}(h:aal P T=al (e,t,b)):0 < t.size:=by
 unfold aal at h;split at h
 ·exact(qn h).2.1
 ·exact(qn h).2.1
theorem Inv.abb(h:Inv C g β s a w){q:Nat}(hq:s.eB q=aT){e:TypeId}{t:Ty}{l:List t.den}{cur:Array Value}{cap:Nat}(hz:0 < t.size)(hc:bo (cI (s.env w g β) t) (cur.toList.take (l.length*t.size)) l)
  (hs:cur.size=cap*t.size) (hl:l.length<=cap) (hm:cap<=maxLen):
  ∃g' β',Inv C g' β' (s.born q [.obj 0 aR (.vec e t l)]) a (w.alloc (.cells cur e))/\
   VS ((s.born q [.obj 0 aR (.vec e t l)]).env (w.alloc (.cells cur e)) g' β') (.b8 (.new q 0) 0 [] 0 0 l.length) (.slice (al ⟨w.heap.size,0,aJ⟩) l.length cap):=by
 have ht:=Trans.alloc w g (.cells cur e) (.own (.id (.new q 0)) 0);obtain⟨h1,h2⟩:=h.Nl hq (c:= .vec e t l) (p:=al ⟨w.heap.size,cap⟩) ht (λb hb=>⟨ql w _ hb,fG _ _ _ au⟩) (λhe=>by
  refine⟨hz,?_⟩;show(match Ge β (.new q 0) (al ⟨w.heap.size,cap⟩) (.new q 0) with
   |none=>l=[]
   |some pl=>_)
  rw[jX];exact⟨cur,0,sE w _,hs,hl,hm,fP _ _ _,aP _,λ_=>rfl,hc.mono λ_ _ hx=>hx.mono he.mem⟩)
 refine⟨_,_,h1,_,?_,rfl⟩;simp only[V];refine⟨_,_,rfl,hl,λ_=>rfl,px hq _ _ _ _,λ_=> ?_⟩;show(match Ge β (.new q 0) (al ⟨w.heap.size,cap⟩) (.new q 0) with
   |some pl=>_
   |none=>_)
 rw[jX];exact⟨λ_=>rfl,λ_ _=>rfl⟩
theorem Inv.avc(h:Inv C g β s a w){q:Nat}(hq:s.eB q=aT){e:TypeId}{t:Ty}(hz:0 < t.size):
  ∃β',Inv C g β' (s.born q [.obj 0 aR (.vec e t [])]) a w/\cU (s.env w g β) ((s.born q [.obj 0 aR (.vec e t [])]).env w g β')/\
   VS ((s.born q [.obj 0 aR (.vec e t [])]).env w g β') (.b8 (.new q 0) 0 [] 0 0 0) (.slice aJ 0 0):=by
 have ht:=Trans.refl w g;obtain⟨h1,h2⟩:=h.Nl hq (c:= .vec e t []) (p:=aJ) ht (λb hb=>⟨rfl,rfl⟩) (λhe=>by
  refine⟨hz,?_⟩;show(match Ge β (.new q 0) aJ (.new q 0) with
   |none=>([]:List t.den)=[]
   |some pl=>_)
  rw[jX])
 refine⟨_,h1,h2,_,?_,rfl⟩;simp only[V];refine⟨_,_,rfl,aF _,λhh=>au,px hq _ _ _ _,λ_=> ?_⟩;simp[AS.env]
theorem NY(parts:Array (Nat×bJ)):(parts.map λ(i,x)=>(i,a.eval x)).toList=parts.toList.map λ(i,x)=>(i,a.eval x):=by simp
theorem QM(h:Inv C g β s a w){T:TypeId}{n:Nat}{parts:Array (Nat×bJ)}{nl obj:Bool}(ho:o.op= .buildSlice T n parts){s':AS}(he:(ma P s nl obj o.dst T n parts.toList).eval=al s'):fS P o a w (gT C s'):=by
 unfold ma at he;split at he
 ·rename_i e t b q G3 hd;obtain⟨hT,hz,i,zv,hi,aoJ,aC0,ahd,aoO⟩:=qn G3;obtain⟨h1,h2⟩:=aG.1 he;obtain⟨r,h3,h4⟩:=ax.1 h2;simp only[aW]at h1;obtain⟨g1,i1,e1,t1,f1⟩:=fi r.2 h;have aEI:zv.cells.size=t.size:=by have:=(aoO (s.env w g β)).size;simpa using this
  obtain⟨cells',aFw,uG⟩:=Bz (a:=a) rfl h.bM e1 h.ev parts.toList _ r (madeCells zv.cells (n*t.size)) h3 f1 (tm (aoO _) n);have aFI:r.1.length=n:=by
   have:∀(ps:List (Nat×bJ)) (l:List t.den) (r:List t.den×List Id),(js t s ps l).eval=al r->r.1.length=l.length:=by
    intro ps
    induction ps with
    |nil=>intro l r hh;obtain rfl:=ay.1 hh;rfl
    |cons p ps ih=>
     intro l r hh;obtain⟨i,x⟩:=p;simp only[js]at hh;obtain⟨_,h2⟩:=aG.1 hh;obtain⟨y,h3,h4⟩:=ax.1 h2;obtain⟨r',h5,h6⟩:=ax.1 h4;obtain rfl:=ay.1 h6;have:=ih _ _ h5;simpa using this
   rw[this _ _ _ h3];simp
  have alC:=uG.length (λ_ _ hx=>cI.size hx);have pz:(execOp a.eval o).run P w= .ok (.value (.slice (al ⟨w.heap.size,0,aJ⟩) n n)) (w.alloc (.cells cells' e)):=by
   refine eu (f:=Instr.buildSlice T n (parts.map λ(i,x)=>(i,a.eval x))) (by simp only[execOp,ho]) ?_
   have aFi:¬n*t.size > 2^24:=au;have hfill':Instr.fill (λi=>al (i*t.size,t.size)) ((Array.range (n*t.size)).map (λx=>(zv.cells)[x%zv.cells.size]!)) (parts.map λ(i,x)=>(i,a.eval x)).toList=al cells':=by rw[NY];exact aFw
   by_cases hn:n*t.size=0
   ·have aza:n=0:=by
     rcases Nat.mul_eq_zero.1 hn with h' | h'
     ·exact h'
     ·omega
    subst aza;simp only[my]at hfill' aFi;have h0:Array.range 0= #[]:=rfl;rw[h0,Array.map_empty]at hfill';simp at hfill';simp[Instr.buildSlice,run_underlying hT,run_sizeOf hi,aoJ,newRow,h0,hfill']
   ·simp[Instr.buildSlice,run_underlying hT,run_sizeOf hi,aoJ,newRow,hn,aFi,zeroValue,typeInfo,hi,ahd];simp at hfill';simp[hfill']
  cases obj with
  |true=>
   simp only at h4;obtain⟨hq,h5⟩:=aG.1 h4;obtain rfl:=ay.1 h5;rw[<-uo r.2]at hq;have aFx:cells'.toList.take (r.1.length*t.size)=cells'.toList:=bC au;obtain⟨g2,β2,i2,M7⟩:=i1.abb hq (e:=e) (l:=r.1) (cur:=cells') (cap:=n) hz (by rw[aFx];exact uG) (by simp at alC;rw[alC,aFI]) au (by
    have:n<=n*t.size:=Nat.le_mul_of_pos_right n hz;unfold maxLen;omega)
   refine .inl ⟨_,_,pz,g2,β2,?_⟩;rw[hd];rw[aFI]at M7 ⊢;exact i2.put (al q) M7
  |false=>
   simp only at h4;obtain rfl:=ay.1 h4;have i2:=i1.Gg (.cells cells' e);refine .inl ⟨_,_,pz,na g1 w.heap.size .free,β,?_⟩;rw[hd];refine i2.put (al q) ⟨[.slice (al ⟨w.heap.size,0,aJ⟩) n n],?_,rfl⟩;simp only[V,cI];refine⟨_,n,cells'.toList,by rw[aFI],au,λ_=>rfl,λj v hj=>⟨_,_,rfl,?_,?_⟩,uG.mono λ_ _ hx=>hx.mono (Trans.mem (E:=(s.bp r.2).env w g1 β) (E':=(s.bp r.2).env (w.alloc (.cells cells' e)) (na g1 w.heap.size .free) β) (Trans.alloc w g1 (.cells cells' e) .free))⟩
   ·show(w.alloc (.cells cells' e)).cell? ⟨w.heap.size,0+j,aJ⟩=al v;rw[World.cell?_alloc_new,ba];simpa using hj
   ·show so (na g1 w.heap.size .free) w.heap.size (0+j);unfold so;rw[fP];trivial
 ·simp only[aw]at he
theorem TG(h:Inv C g β s a w){T:TypeId}{x y:bJ}(ho:o.op= .makeSlice T x y){len cap:Int}(hx:(asInt (s.ev x)).eval=al len)(hy:(asInt (s.ev y)).eval=al cap){s':AS}
  (he:(rq P s o.dst T len cap).eval=al s'):fS P o a w (gT C s'):=by
 obtain⟨k,hx⟩:=yL (h.ev x) hx;obtain⟨k',hy⟩:=yL (h.ev y) hy;unfold rq at he;split at he
 ·rename_i e t b q G3 hd;obtain⟨hT,hz,i,zv,hi,aoJ,aC0,ahd,aoO⟩:=A5 G3;obtain⟨hq,h2⟩:=aG.1 he;obtain⟨h3,h4⟩:=bR.1 h2;obtain rfl:=ay.1 h4;simp only[av,aW,ea]at h3;obtain⟨⟨h5,h6⟩,h7,h8⟩:=h3;have hbytes:(i.bytes:Int)*cap<=281474976710656:=by rw[aC0];have:((cap.toNat*b:Nat):Int)<=140737488355328:=au;rw[ku,show((cap.toNat:Nat):Int)=cap by omega,Int.mul_comm]at this;omega
  have hr:=run_make (P:=P) w T e i zv hT hi ahd k k' len cap h5 h6 hbytes au;rw[aoJ]at hr;have aEI:zv.cells.size=t.size:=by have:=(aoO (s.env w g β)).size;simpa using this
  have vy:=tm (aoO (s.env w g β)) cap.toNat;have aDd:=bo.take (λ_ _ hx=>cI.size hx) len.toNat vy;rw[List.take_replicate,gF au]at aDd;obtain⟨g2,β2,i2,M7⟩:=h.abb hq (e:=e) (l:=ai len.toNat t.zero) (cur:=madeCells zv.cells (cap.toNat*t.size)) (cap:=cap.toNat) hz (by rw[dF];exact aDd) (size_madeCells _ _) (by rw[dF];omega) (by unfold maxLen;omega);rw[dF]at M7;refine .inl ⟨_,_,eu (f:=Instr.makeSlice T (a.eval x) (a.eval y)) (by simp only[execOp,ho]) (by rw[hx,hy];exact hr),g2,β2,?_⟩;rw[hd];exact i2.put (al q) M7
 ·simp only[aw]at he
end
end Go.Ab
namespace Go.Ab
section
variable {P:aN} {C:Ctx} {g:Nat->lQ} {β:Id->Option Pl} {s:AS} {a:Act} {w:bU} {o:Oper}
theorem ajn:∀(c:aD) (f off:Nat) (v:aD),partOf c f=al (off,v)->(loc c (nr f)).eval=al (off,v):=by
 intro c f
 induction f generalizing c with
 |zero=>
  intro off v h;cases c with
  |d t y=>
   cases t <;> simp only[partOf,reduceCtorEq]at h;simp only[az,cM]at h;obtain⟨rfl,rfl⟩:=h;rfl
  |pr b c=>
   simp only[partOf,az,cM]at h;obtain⟨rfl,rfl⟩:=h;simp only[nr,loc];cases b <;> rfl
  |_=>simp only[partOf,reduceCtorEq]at h
 |succ f ih=>
  intro off v h;cases c with
  |d t y=>
   cases t with
   |pair ta tb=>
    simp only[partOf]at h;cases hp:partOf (.d tb y.2) f with
    |none=>rw[hp]at h;cases h
    |some r=>
     rw[hp]at h;simp only[az,cM]at h;obtain⟨rfl,rfl⟩:=h;simp only[nr,loc,ax];exact⟨_,ih _ _ _ hp,rfl⟩
   |_=>simp only[partOf,reduceCtorEq]at h
  |pr b c=>
   simp only[partOf]at h;cases hp:partOf c f with
   |none=>rw[hp]at h;cases h
   |some r=>
    rw[hp]at h;simp only[az,cM]at h;obtain⟨rfl,rfl⟩:=h;simp only[nr,loc,ax];exact⟨_,ih _ _ _ hp,rfl⟩
  |_=>simp only[partOf,reduceCtorEq]at h
theorem afg(a b:aD):(Lw a b).agg=aT:=by unfold Lw;split <;> rfl
theorem Xs{v x v':aD}{i:Nat}(h:(wJ v (nr i) x).eval=al v'):v'.agg=aT:=by
 have fin:∀ {o:Out aD} {f:aD->aD},(∀a,(f a).agg=aT)->(o.bind λa=>Out.ok (f a)).eval=al v'->v'.agg=aT:=by intro o f hf hh;obtain⟨_,_,h2⟩:=ax.1 hh;obtain rfl:=ay.1 h2;exact hf _
 cases i <;> simp only[nr]at h
 all_goals
  cases v with
  |d t y=>cases t <;> first | (simp only[wJ,aw]at h;done) | (simp only[wJ]at h;exact fin (λ_=>afg _ _) h)
  |pr b c=>simp only[wJ]at h;exact fin (λ_=>afg _ _) h
  |_=>simp only[wJ,aw]at h
theorem FJ{E:Env}(aeA:∀x,VS E (s.ev x) (a.eval x)){fs:Array Field}{places:Array (Nat×Nat)}(QU:∀(i:Nat) (f:Field),fs[i]? =al f->places[i]? =al (f.offset,P.cellsOf f.type)):
  ∀(ps:List (Nat×bJ)) (v v':aD) (cells:Array Value),(pO P fs s ps v).eval=al v'->V E v cells.toList->v.agg=aT->
   ∃cells',Instr.fill (places[·]?) cells (ps.map λ(i,x)=>(i,a.eval x))=al cells'/\V E v' cells'.toList/\v'.agg=aT
 |[],v,v',cells,h,hV,JT=>by obtain rfl:=ay.1 h;exact⟨cells,rfl,hV,JT⟩
 | (i,x)::ps,v,v',cells,h,hV,JT=>by
  simp only[pO]at h;split at h
  ·rename_i f off bG hf hp;obtain⟨h1,h2⟩:=aG.1 h;obtain⟨v1,h3,h4⟩:=ax.1 h2;simp only[av,dD]at h1;obtain⟨⟨rfl,aGX⟩,aJE⟩:=h1;obtain⟨aiw,_⟩:=rj aJE;obtain⟨cs,hVx,hO⟩:=(aeA x).eQ aiw;have hcells:=hO.cells hVx.one;have aH8:=ajn _ _ _ _ hp;obtain⟨u1,u2,u3⟩:=pW (nr i) v cells.toList f.offset bG (s.ev x) v1 cs (VO.of hV) aH8 hVx h3;have aFM:v1.iu=aR:=u3.s8 hV.s8;have rM:P.cellsOf f.type=cs.length:=by rw[(EN aJE).2.1];exact hVx.size.symm
   obtain⟨cells',q1,q2,q3⟩:=FJ aeA QU ps v1 v' (dE cells.toList f.offset cs).toArray h4 (by simpa using u2.to aFM) (Xs h3);refine⟨cells',?_,q2,q3⟩;rw[cn,X8 (by rw[QU i f hf,rM]) hcells (by simpa using u1)];exact q1
  ·simp only[aw]at h
theorem agi{α γ:Type}(f:α->Sem γ)(r:α->γ):∀(l:List α),(∀x∈l,(f x).run P w= .ok (r x) w)->(l.mapM f).run P w= .ok (l.map r) w
 |[],_=>by simp
 |x::xs,h=>by rw[List.mapM_cons];simp only[cd,h x (by simp),bH,agi f r xs (λy hy=>h y (by simp[hy])),dY,cn]
theorem ahQ(h:Inv C g β s a w){T:TypeId}{parts:Array (Nat×bJ)}(ho:o.op= .build T parts){s':AS}(he:(Ex P s o.dst T parts.toList).eval=al s'):fS P o a w (gT C s'):=by
 unfold Ex at he;split at he
 ·rename_i fs hT;split at he
  ·rename_i z aLz;obtain⟨h1,h2⟩:=aG.1 he;obtain⟨v,h3,h4⟩:=ax.1 h2;obtain rfl:=ay.1 h4;simp only[av,c7]at h1;obtain⟨⟨hz,JT⟩,aH5⟩:=h1;obtain⟨i,zv,hi,ahd,hV,hO⟩:=ur hz (s.env w g β)
   let places:Array (Nat×Nat):=fs.map λf=>(f.offset,P.cellsOf f.type)
   have QU:∀(i:Nat) (f:Field),fs[i]? =al f->places[i]? =al (f.offset,P.cellsOf f.type):=by intro i f hf;simp[places,hf]
   obtain⟨cells',q1,q2,q3⟩:=FJ (a:=a) h.ev QU parts.toList z v zv.cells h3 hV JT;have hm:(fs.mapM λf=>(do pure (f.offset,<-sizeOf f.type):Sem (Nat×Nat))).run P w= .ok places w:=by
    rw[Array.mapM_eq_mapM_toList];have:=agi (P:=P) (w:=w) (λf=>(do pure (f.offset,<-sizeOf f.type):Sem (Nat×Nat))) (λf=>(f.offset,P.cellsOf f.type)) fs.toList (by
     intro f hf;obtain⟨j,hj⟩:=bA.1 (aH5 f hf);rw[cd,run_sizeOf hj,mJ hj];rfl)
    rw[Sem.run_map,this];show Result.ok _ w=Result.ok _ w;congr 1;apply gr;simp[places]
   refine h.value (x:= .agg cells') (VS.of q2 (by rw[q3];simp[fY])) (eu (f:=Instr.build T (parts.map λ(i,x)=>(i,a.eval x))) (by simp only[execOp,ho]) ?_);have q1':Instr.fill (places[·]?) zv.cells (parts.map λ(i,x)=>(i,a.eval x)).toList=al cells':=by rw[NY];exact q1
   simp only[Instr.build,cd,zeroValue,typeInfo,run_program,hi,bH,dY,ahd,run_underlying hT,hm,q1']
  ·simp only[aw]at he
 ·rename_i n e hT;split at he
  ·rename_i t ht;obtain⟨h1,h2⟩:=aG.1 he;obtain⟨r,h3,h4⟩:=ax.1 h2;obtain rfl:=ay.1 h4;simp only[av,dD]at h1;obtain⟨rM,hz⟩:=h1;obtain⟨g1,i1,e1,t1,f1⟩:=fi r.2 h;obtain⟨i,zv,hi,ahd,hV,hO⟩:=ur hz ((s.bp r.2).env w g1 β);simp only[V,cI]at hV;obtain⟨cells',q1,q2⟩:=Bz (a:=a) rfl h.bM e1 h.ev parts.toList _ r zv.cells h3 f1 hV.2;have aFI:r.1.length=n:=by
    have:∀(ps:List (Nat×bJ)) (l:List t.den) (r:List t.den×List Id),(js t s ps l).eval=al r->r.1.length=l.length:=by
     intro ps
     induction ps with
     |nil=>intro l r hh;obtain rfl:=ay.1 hh;rfl
     |cons p ps ih=>
      intro l r hh;obtain⟨i,x⟩:=p;simp only[js]at hh;obtain⟨_,h2⟩:=aG.1 hh;obtain⟨y,h3,h4⟩:=ax.1 h2;obtain⟨r',h5,h6⟩:=ax.1 h4;obtain rfl:=ay.1 h6;have:=ih _ _ h5;simpa using this
    rw[this _ _ _ h3];simp
   refine .inl ⟨.agg cells',w,eu (f:=Instr.build T (parts.map λ(i,x)=>(i,a.eval x))) (by simp only[execOp,ho]) ?_,g1,β,i1.put o.dst ⟨cells'.toList,?_,by simp[fY,aD.agg,Ty.agg]⟩⟩
   ·have q1':Instr.fill (λi=>al (i*t.size,t.size)) zv.cells (parts.map λ(i,x)=>(i,a.eval x)).toList=al cells':=by rw[NY];exact q1
    cases aH3:P.info? e with
    |none=>
     exfalso;unfold agY Wc at ht;simp only[depth]at ht;have:P.underlying e=aJ:=by simp[Program.underlying,aH3]
     rw[this]at ht;cases ht
    |some ie=>
     have aJR:=run_sizeOf aH3 w;rw[<-mJ aH3,rM]at aJR;simp only[Instr.build,cd,zeroValue,typeInfo,run_program,hi,bH,dY,ahd,run_underlying hT,aJR,q1']
   ·simp only[V,cI];exact⟨aFI,q2⟩
  ·simp only[aw]at he
 ·simp only[aw]at he
theorem OD{T X ty e:TypeId}{i:TypeInfo}(hT:P.underlying T=al (.slice e))(hX:P.underlying X=al .string\/∃e',P.underlying X=al (.slice e'))(hi:P.info? e=al i)
  {b sLen sCap:Nat} {cur:Array Value} (hg:w.heap[b]? =al (.cells cur e (0,0))) {x:Value} {n:Nat} {news:List Value} (h1:∀u∈news,u.oneCell'=aT)
  (hlen:(Builtin.lenOf x).run P w= .ok n w) (hf:(Builtin.firstCells i.size n x).run P w= .ok news.toArray w) (Hz:sLen+n<=sCap) (aaF:sLen*i.size+news.length<=cur.size):
  (Builtin.append_ #[T,X] ty #[.slice (al ⟨b,0,aJ⟩) sLen sCap,x]).run P w= .ok (.slice (al ⟨b,0,aJ⟩) (sLen+n) sCap) (w.setRow b (dE cur.toList (sLen*i.size) news).toArray):=by
 have nG:=run_storeCells_at P b (sLen*i.size) e news 0 cur w hg (by simpa using aaF) h1;simp only[cW]at nG;rcases hX with hX | ⟨e',hX⟩ <;> simp[Builtin.append_,run_underlying hT,run_underlying hX,sizeOf,typeInfo,hi,hlen,Hz,hf,fC,nG,dE]
theorem DU{T X ty e:TypeId}{i:TypeInfo}(hT:P.underlying T=al (.slice e))(hX:P.underlying X=al .string\/∃e',P.underlying X=al (.slice e'))(hi:P.info? e=al i)
  {x:Value} (hlen:(Builtin.lenOf x).run P w= .ok 0 w) (hf:(Builtin.firstCells i.size 0 x).run P w= .ok #[] w):
  (Builtin.append_ #[T,X] ty #[.slice aJ 0 0,x]).run P w= .ok (.slice aJ 0 0) w:=by
 rcases hX with hX | ⟨e',hX⟩ <;> simp[Builtin.append_,run_underlying hT,run_underlying hX,sizeOf,typeInfo,hi,hlen,hf]
theorem OC{T X ty e:TypeId}{i:TypeInfo}{zv:Value}(hT:P.underlying T=al (.slice e))(hX:P.underlying X=al .string\/∃e',P.underlying X=al (.slice e'))(hi:P.info? e=al i)(ahd:i.zero=al zv)
  {ad:Option Addr} {sLen sCap:Nat} {cj:List Value} (ho:(Builtin.firstCells i.size sLen (.slice ad sLen sCap)).run P w.drew= .ok cj.toArray w.drew) {x:Value} {n:Nat} {news:List Value}
  (hlen:(Builtin.lenOf x).run P w= .ok n w) (hf:(Builtin.firstCells i.size n x).run P w.drew= .ok news.toArray w.drew) (Hz:sCap < sLen+n)
  (aJv:((sLen+n:Nat):Int)<=9223372036854775807) (aaF:(sLen+n)*i.bytes<=140737488355328):
  (Builtin.append_ #[T,X] ty #[.slice ad sLen sCap,x]).run P w= .ok (.slice (al ⟨w.heap.size,0,aJ⟩) (sLen+n) (grownCap w (sLen+n) sCap e))
   (w.drew.alloc (.cells (cj.toArray++news.toArray++Builtin.zeroCells zv.cells (grownCap w (sLen+n) sCap e - (sLen+n))) e)):=by
 have hn:¬(sLen+n<=sCap):=au;have h63':¬(9223372036854775807 < ((sLen:Int)+(n:Int))):=au;have hfit':=growslice_fits (bytes:=i.bytes) Hz aaF;have h48':¬(281474976710656 < Builtin.nextslicecap (sLen+n) sCap*i.bytes):=au;rcases hX with hX | ⟨e',hX⟩
 all_goals
  simp[Builtin.append_,run_underlying hT,run_underlying hX,sizeOf,typeInfo,zeroValue,hi,ahd,hlen,hn,h63',h48',Question.forced,hf,ho,newRow,grownCap];congr 2;apply gr;simp[aM]
end
end Go.Ab
namespace Go.Ab
section
variable {P:aN} {C:Ctx} {g:Nat->lQ} {β:Id->Option Pl} {s:AS} {a:Act} {w:bU} {o:Oper}
theorem avQ(h:Inv C g β s a w){v:aD}{y:Value}(hv:VS (s.env w g β) v y){t:Ty}{m:List t.den}(he:(s.ajt (.slice t) v).eval=al m):
  ∃ad cap vs,y= .slice ad m.length cap/\(0 < m.length->ad.isSome=aT)/\(∀j u,vs[j]? =al u->∃bb off,ad=al ⟨bb,off,aJ⟩/\w.cell? ⟨bb,off+j,aJ⟩=al u)/\bo (cI (s.env w g β) t) vs m:=by
 have hp:(s.iL (.slice t) v).eval=al m:=he;cases v <;> first | (simp only[AS.iL,aw]at hp;done) | skip
 case dI=>
  simp only[AS.iL,ay]at hp;subst hp;exact⟨aJ,0,[],kZ hv,by simp,λj u hj=>by simp at hj,rfl⟩
 case d t' x=>
  simp only[AS.iL]at hp;have hp:=ja.1 hp;have ha:(aD.d t' x).agg=aR:=XR hp;have hV:=hv.single rfl ha;simp only[V]at hV;have hv:VS (s.env w g β) (.d (.slice t) m) y:=VS.of (cs:=[y]) (by simp only[V];exact CC hp hV) rfl;obtain⟨ad,cap,vs,hy,_,hs,hr,hc⟩:=tq hv;exact⟨ad,cap,vs,hy,hs,λj u hj=>let⟨bb,off,e,hh⟩:=hr j u hj;⟨bb,off,e,hh.1⟩,hc⟩
 case b8 id ver p c i len=>
  simp only[AS.iL]at hp;obtain⟨⟨n,t',l⟩,h1,h2⟩:=ax.1 hp;obtain⟨h3,h4⟩:=bR.1 h2;obtain⟨aEx,aKC⟩:=an0 (E:=s.env w g β) (ja.1 h4);rw[aEx];simp only[aW]at h3;obtain⟨hc,hlen⟩:=h3
  suffices hg:∃ad cap vs,y= .slice ad (cut l i len).length cap/\(0 < (cut l i len).length->ad.isSome=aT)/\(∀j u,vs[j]? =al u->∃bb off,ad=al ⟨bb,off,aJ⟩/\w.cell? ⟨bb,off+j,aJ⟩=al u)/\bo (cI (s.env w g β) t') vs (cut l i len) by obtain⟨ad,cap,vs,e1,e2,e3,e4⟩:=hg;exact⟨ad,cap,vs,e1,e2,e3,aKC _ e4⟩
  obtain⟨fr,c0,cO,si⟩:=Oy rfl h.bM h1;obtain⟨ad,cap,hy,hle,pY,hb,fH⟩:=qO hv;have fH:=fH ⟨fr,c0,cO⟩;have axU:(cut l i len).length=len:=CP hlen;rcases si with⟨hp,hl,_⟩ | ⟨pl,cur,e,hp,hh,rM,uG,hbound⟩
  ·rw[hp]at fH;simp only at fH;obtain⟨rfl,rfl,rfl⟩:=fH;have:cut l i 0=[]:=by simp[cut]
   refine⟨aJ,0,[],by rw[axU];exact hy,by rw[axU];omega,λ_ _ hh=>by simp at hh,?_⟩;rw[this];rfl
  ·rw[hp]at fH;simp only at fH;have hmul:(i+len)*t'.size<=l.length*t'.size:=c9 _ hlen;rw[eO]at hmul;refine⟨ad,cap,_,by rw[axU];exact hy,by rw[axU];exact pY,?_,Iu uG i len⟩;rw[Ul _ _ _ _ _ hmul];intro j v hj;rw[db]at hj;split at hj
   ·rename_i aC2;rw[fD,hc]at hj;have aH9:0 < len:=by
     rcases iO len with h0 | h0
     ·subst h0;simp at aC2
     ·exact h0
    refine⟨pl.b,c,fH.1 (.inl aH9),?_⟩;have hh':w.heap[pl.b]? =al (.cells cur e (0,0)):=hh
    rw[cell_of_row w pl.b (c+j) cur e (0,0) hh'];simpa using hj
   ·cases hj
theorem PR(h:Inv C g β s a w){t:Ty}{X:TypeId}{x:aD}{y:Value}(hx:VS (s.env w g β) x y){m:List t.den}(he:(E5 P s t X x).eval=al m):
  (P.underlying X=al .string\/∃e',P.underlying X=al (.slice e'))/\∃news:List Value,bo (cI (s.env w g β) t) news m/\(Builtin.lenOf y).run P w= .ok m.length w/\
   ∀w',w'.heap=w.heap->(Builtin.firstCells t.size m.length y).run P w'= .ok news.toArray w':=by
 have sl:∀(x:aD),VS (s.env w g β) x y->(match P.underlying X with
   |some (.slice _)=>s.ajt (.slice t) x
   |_=> .fail).eval=al m->(P.underlying X=al .string\/∃e',P.underlying X=al (.slice e'))/\∃news:List Value,bo (cI (s.env w g β) t) news m/\(Builtin.lenOf y).run P w= .ok m.length w/\
   ∀w',w'.heap=w.heap->(Builtin.firstCells t.size m.length y).run P w'= .ok news.toArray w':=by
  intro x hx he;split at he
  ·rename_i e' hX;refine⟨.inr ⟨e',hX⟩,?_⟩;obtain⟨ad,cap,vs,rfl,pY,si,uG⟩:=avQ h hx he;have hlen:=bo.length (λ_ _ hx=>cI.size hx) uG;refine⟨vs,uG,rfl,λw' hw'=> ?_⟩;cases ad with
   |none=>
    have aEw:m.length=0:=by
     rcases iO m.length with h0 | h0
     ·exact h0
     ·have:=pY h0;simp at this
    have:vs=[]:=bw (by rw[hlen,aEw,my]);subst this;rfl
   |some ad=>
    refine run_firstCells_some (P:=P) w' t.size _ ad _ _ vs hlen (λj v hj=> ?_);obtain⟨bb,off,e1,hh⟩:=si j v hj;simp only[az]at e1;subst e1;rw[fC];simpa[eP,hw']using hh
  ·simp only[aw]at he
 unfold E5 at he;split at he
 ·rename_i st;split at he
  ·rename_i hX;refine⟨.inl hX,?_⟩;obtain⟨e,hm⟩:=iY (ja.1 he);have e':Ty.int .u8=t:=by simpa using e
   subst e';simp only at hm;subst hm;have hy:=FT hx;subst hy;have hlen:(cE st).length=st.size:=by simp only[cE,cF,cS];rfl
   refine⟨(cE st).map (Value.int .u8),vB _,by rw[hlen];rfl,λw' _=> ?_⟩;rw[hlen];simp only[Builtin.firstCells,dY];congr 1;apply gr;rw[ByteArray.extract_zero_size];simp[cE]
  ·simp only[aw]at he
 ·exact sl _ hx he
theorem zV(z:Array Value)(n:Nat):(Builtin.zeroCells z n).size=n*z.size:=by simp[Builtin.zeroCells]
theorem an1(h:Inv C g β s a w){c:Call}{x y:bJ}{T X:TypeId}(ho:o.op= .call c)(hc:c.callee= .builtin .copy)(ha:c.args.toList=[x,y])(ht:c.argTypes.toList=[T,X]){s':AS}
  (he:(Sd P s o.dst T X (s.ev x) (s.ev y)).eval=al s'):fS P o a w (gT C s'):=by
 obtain⟨cal,args,tys⟩:=c;simp only at hc ha ht;have ha':args= #[x,y]:=by apply gr;simpa using ha
 have ht':tys= #[T,X]:=by apply gr;simpa using ht
 subst hc ha' ht';have hx:=h.ev x;have hy:=h.ev y;have fin:∀z w',(Builtin.copy_ #[T,X] 0 #[a.eval x,a.eval y]).run P w= .ok z w'->(∃g' β',Inv C g' β' s' (a.put o.dst z) w')->fS P o a w (gT C s'):=by intro z w' h1 h2;refine .inl ⟨z,w',AX ho (f:=Builtin.copy_ #[T,X] 0 #[a.eval x,a.eval y]) (λty cs xs ahc=> ?_) h1,h2⟩;subst ahc;have e1:Builtin.copy_ #[T,X] 0 #[a.eval x,a.eval y]=Builtin.copy_ #[T,X] ty #[a.eval x,a.eval y]:=rfl;rw[e1];simp[builtin]
 unfold Sd at he;split at he
 ·rename_i e t b id ver len G3 ahc;obtain⟨hT,hz,i,zv,hi,aoJ,aC0,ahd,aoO⟩:=A5 G3;obtain⟨m,hm,he⟩:=ax.1 he;obtain⟨hX,news,uG,hlen,aBs⟩:=PR h hy hm;have azb:=uG.length (λ_ _ hx=>cI.size hx);have h1news:∀u∈news,u.oneCell'=aT:=bo.all (λ_ _ hx=>hx.one) uG;rw[<-aoJ]at aBs;split at he
  ·rename_i ve n t' l kk;obtain⟨h1,Ej⟩:=aG.1 he;simp only[av,dD]at h1;obtain⟨auh,aKA⟩:=h1;subst auh aKA;obtain⟨l',hl',Wk⟩:=ax.1 Ej;obtain⟨et,hl'⟩:=iY (ja.1 hl');have et':t'=t:=by simpa using et
   subst et';simp only at hl';subst hl';obtain⟨aEx,aEu⟩:=bR.1 Wk;have aEx:m.length<=len:=by simpa using aEx
   obtain rfl:=ay.1 aEu;have cO:=dZ kk;rw[ahc]at hx;obtain⟨ad,cap,arB,arx,pY,SX,fH⟩:=qO hx;have fH:=fH ⟨aR,_,cO⟩;obtain⟨pl,cur,e0,hp,hh,hg,hk,hV⟩:=(h.bM id ve aR _ cO).box rfl;have hp:β id=al pl:=hp;have hh:w.heap[pl.b]? =al (.cells cur e0 (0,0)):=hh
   have hg:g pl.b= .own (.id id) 0:=hg;have hcur':(match β id with
    |some pl=>(0 < len\/0=0->ad=al ⟨pl.b,0,aJ⟩)/\(([.arr]:List GZ)=[]->0=0->cap=pl.cap)
    |none=>ad=aJ/\len=0/\cap=0):=fH
   rw[hp]at hcur';simp only at hcur';have aiu:=hcur'.1 (.inr trivial);subst aiu;have hV:V (s.env w g β) (.d (.arr len t') l) (cur.toList.take cur.size):=hV;rw[<-cS,cJ]at hV;simp only[V,cI]at hV;obtain⟨aBv,hVc⟩:=hV;have alC:=hVc.length (λ_ _ hx=>cI.size hx);have aaF:news.length<=cur.size:=by
    rw[azb];have:cur.size=l.length*t'.size:=by simpa using alC
    rw[this,aBv];exact c9 _ aEx
   have nG:=run_storeCells_at P pl.b 0 e0 news 0 cur w hh (by simpa using aaF) h1news;have pz:(Builtin.copy_ #[T,X] 0 #[a.eval x,a.eval y]).run P w= .ok (goInt m.length) (w.setRow pl.b (dE cur.toList 0 news).toArray):=by have aIc:Nat.min m.length len=m.length:=gF aEx;rw[arB];simp only[cW,ba]at nG;simp[Builtin.copy_,run_underlying hT,hlen,sizeOf,typeInfo,hi,aIc,aBs w rfl,nG,dE]
   have aiI:=Trans.setRow w hg (dE cur.toList 0 news).toArray;have hle:cU (s.env w g β) ((s.aZ id (.obj ve aR (.d (.arr len t') (m++l.drop m.length)))).env (w.setRow pl.b (dE cur.toList 0 news).toArray) g β):=cU.aZ cO (aF _) aiI (λ_ _=>rfl) (λ_=>rfl);have i1:=h.step (dv _ _ _) aiI hle (iP.aZ (acH:=pF cO λk v1 l e=>by cases e) h.bM (by rw[cO];simp) hle (λ_ _=>rfl) (λi ver fr c pl2 hi S0 QT=>⟨setRow_other w pl.b pl2.b _ (h.apart hg hi S0 QT),rfl⟩) (Nb.obj ⟨pl,_,e0,hp,setRow_heap w pl.b cur _ e0 (0,0) hh,hg,trivial,by
    show V _ (.d (.arr len t') (m++l.drop m.length)) ((dE cur.toList 0 news).toArray.toList.take (dE cur.toList 0 news).toArray.size);rw[<-cS,cJ];simp only[V,cI];refine⟨by rw[aj,de];omega,?_⟩;have e2:dE cur.toList 0 news=news++cur.toList.drop (m.length*t'.size):=by simp[dE,azb]
    have q:bo (cI (s.env w g β) t') (dE cur.toList 0 news) (m++l.drop m.length):=by rw[e2];exact bo.append uG (bo.drop (λ_ _ hx=>cI.size hx) m.length hVc)
    exact q.mono λ_ _ hx=>hx.mono hle.mem⟩))
   exact fin _ _ pz ⟨g,β,i1.put o.dst ⟨[.int .i64 (m.length:Int)],by simp only[V,cI],rfl⟩⟩
  ·exact(aw.1 he).elim
 ·exact(aw.1 he).elim
theorem acY(h:Inv C g β s a w){c:Call}{x y:bJ}{T X:TypeId}(ho:o.op= .call c)(hc:c.callee= .builtin .append)(ha:c.args.toList=[x,y])(ht:c.argTypes.toList=[T,X]){s':AS}
  {nl dt:Bool} (he:(wM P s nl dt o.dst T X (s.ev x) (s.ev y)).eval=al s'):fS P o a w (gT C s'):=by
 obtain⟨cal,args,tys⟩:=c;simp only at hc ha ht;have ha':args= #[x,y]:=by apply gr;simpa using ha
 have ht':tys= #[T,X]:=by apply gr;simpa using ht
 subst hc ha' ht';have hx:=h.ev x;have hy:=h.ev y;have fin:∀z w',(Builtin.append_ #[T,X] 0 #[a.eval x,a.eval y]).run P w= .ok z w'->(∃g' β',Inv C g' β' s' (a.put o.dst z) w')->fS P o a w (gT C s'):=by intro z w' h1 h2;refine .inl ⟨z,w',AX ho (f:=Builtin.append_ #[T,X] 0 #[a.eval x,a.eval y]) (λty cs xs ahc=> ?_) h1,h2⟩;subst ahc;have e1:Builtin.append_ #[T,X] 0 #[a.eval x,a.eval y]=Builtin.append_ #[T,X] ty #[a.eval x,a.eval y]:=rfl;rw[e1];simp[builtin]
 unfold wM at he;split at he
 ·rename_i e t b q G3 hd;obtain⟨hT,hz,i,zv,hi,aoJ,aC0,ahd,aoO⟩:=qn G3;obtain⟨m,hm,he⟩:=ax.1 he;obtain⟨hX,news,uG,hlen,aBs⟩:=PR h hy hm;have azb:=uG.length (λ_ _ hx=>cI.size hx);have h1news:∀u∈news,u.oneCell'=aT:=bo.all (λ_ _ hx=>hx.one) uG;rw[<-aoJ]at aBs;have aEI:zv.cells.size=t.size:=by have:=(aoO (s.env w g β)).size;simpa using this
  have aIE:∀n,(Builtin.zeroCells zv.cells n).size=n*t.size:=λn=>by rw[zV,aEI]
  have grow:∀(ad:Option Addr) (sLen sCap:Nat) (cj:List Value) (l0:List t.den),a.eval x= .slice ad sLen sCap->cj.length=sLen*t.size->l0.length=sLen->bo (cI (s.env w g β) t) cj l0->
    (Builtin.firstCells i.size sLen (.slice ad sLen sCap)).run P w.drew= .ok cj.toArray w.drew->sCap < sLen+m.length->ea (sLen+m.length) b=aT->
    ∃(cur:Array Value) (cap:Nat),(Builtin.append_ #[T,X] 0 #[a.eval x,a.eval y]).run P w= .ok (.slice (al ⟨w.heap.size,0,aJ⟩) (sLen+m.length) cap) (w.drew.alloc (.cells cur e))/\
     cur.size=cap*t.size/\sLen+m.length<=cap/\cap<=maxLen/\cur.toList.take ((sLen+m.length)*t.size)=cj++news:=by
   intro ad sLen sCap cj l0 arB Rq aFF aFp aGX Hz aha;simp only[ea,aW]at aha;have hr:=OC (P:=P) (w:=w) (ty:=0) hT hX hi ahd aGX hlen (aBs w.drew rfl) Hz au (by rw[aC0];exact aha.1);rw[arB];refine⟨_,_,hr,?_,grownCap_ge _ _ _ _,grownCap_le_maxLen _ _ _ _ (by unfold maxLen;omega),?_⟩
   ·have aLr:=grownCap_ge w (sLen+m.length) sCap e;simp only[Array.size_append,hJ,aIE,Rq,azb,<-eO];congr 1;omega
   ·have aiz:(cj++news).length=(sLen+m.length)*t.size:=by rw[aj,Rq,azb,eO]
    simp only[bZ];rw[<-aiz];exact List.take_left
  split at he
  ·rename_i aKU;rw[aKU]at hx;have arB:=kZ hx;cases dt with
   |true=>
    simp only at he;obtain⟨aha,he⟩:=bR.1 he;obtain rfl:=ay.1 he;simp only[av,aW]at aha;obtain⟨aha,aEw⟩:=aha;obtain⟨cur,cap,hr,q1,q2,q3,q4⟩:=grow aJ 0 0 [] [] arB (by simp) rfl rfl rfl au (by simpa using aha);simp only[ba,aV]at hr q2 q4;have aHT:bo (cI (s.env w.drew g β) t) news m:=uG.mono λ_ _ hx=>hx.mono (cU.same (s:=s) (β:=β) (Trans.drew w g)).mem
    refine fin _ _ hr ⟨na g w.heap.size .free,β,(h.drew.Gg (.cells cur e)).put o.dst ⟨[.slice (al ⟨w.heap.size,0,aJ⟩) m.length cap],?_,rfl⟩⟩;simp only[V,cI];refine⟨λh0=>(by cases h0),λm' hm'=> ?_⟩;obtain rfl:m=m':=aO hm';refine⟨_,cap,cur.toList.take (m.length*t.size),rfl,q2,λ_=>rfl,λj v hj=>⟨_,_,rfl,?_,?_⟩,?_⟩
    ·show(w.drew.alloc (.cells cur e)).cell? ⟨w.drew.heap.size,0+j,aJ⟩=al v;rw[World.cell?_alloc_new,ba];rw[db]at hj;split at hj
     ·simpa using hj
     ·cases hj
    ·show so (na g w.heap.size .free) w.heap.size (0+j);unfold so;rw[fP];trivial
    ·rw[q4];exact aHT.mono λ_ _ hx=>hx.mono (Trans.mem (E:=s.env w.drew g β) (E':=s.env (w.drew.alloc (.cells cur e)) (na g w.drew.heap.size .free) β) (Trans.alloc w.drew g (.cells cur e) .free))
   |false=>
   simp only at he;obtain⟨hq,he⟩:=aG.1 he;obtain⟨aha,he⟩:=bR.1 he;obtain rfl:=ay.1 he;by_cases aEw:m.length=0
   ·have aId:m=[]:=bw aEw;subst aId;have aIg:news=[]:=bw (by rw[azb];simp);subst aIg;obtain⟨β',i1,e1,v1⟩:=h.avc hq (e:=e) hz;refine fin (.slice aJ 0 0) w ?_ ⟨g,β',?_⟩
    ·rw[arB];exact DU (P:=P) hT hX hi hlen (aBs w rfl)
    ·exact i1.put o.dst v1
   ·obtain⟨cur,cap,hr,q1,q2,q3,q4⟩:=grow aJ 0 0 [] [] arB (by simp) rfl rfl rfl au (by simpa using aha);simp only[ba,aV]at hr q2 q4;obtain⟨g2,β2,i2,v2⟩:=(h.drew).abb hq (e:=e) (l:=m) (cur:=cur) (cap:=cap) hz (by rw[q4];exact uG.mono λ_ _ hx=>hx.mono (cU.same (s:=s) (β:=β) (Trans.drew w g)).mem) q1 q2 q3;refine fin _ _ hr ⟨g2,β2,?_⟩;exact i2.put o.dst v2
  ·rename_i id ver len ahc;rw[ahc]at hx;obtain⟨ad,cap,arB,arx,pY,SX,fH⟩:=qO hx;split at he
   ·rename_i v fr e' t' l kk;obtain⟨h1,Ej⟩:=aG.1 he;clear he;simp only[av,dD]at h1;obtain⟨auh,aKn⟩:=h1;subst auh aKn;obtain⟨l',hl',Wk⟩:=ax.1 Ej;obtain⟨et,hl'⟩:=iY (ja.1 hl');have et':t'=t:=by simpa using et
    subst et';simp only at hl';subst hl';obtain⟨ay9,aFt⟩:=bR.1 Wk;have ay9:len<=l.length:=by simpa using ay9
    obtain⟨aJD,aEu⟩:=bR.1 aFt;obtain⟨aha,aJC⟩:=bR.1 aEu;obtain rfl:=ay.1 aJC;clear Ej Wk aFt aEu aJC;have cO:=dZ kk;have fH:=fH ⟨fr,_,cO⟩;obtain⟨_,hO⟩:=h.bM id v fr _ cO;have hO':(match β id with
     |none=>l=[]
     |some pl=>∃cur k,w.heap[pl.b]? =al (.cells cur e (0,0))/\cur.size=pl.cap*t'.size/\l.length<=pl.cap/\pl.cap<=maxLen/\g pl.b= .own (.id id) k/\
       k<=l.length*t'.size/\(fr=aR->k=0)/\bo (cI (s.env w g β) t') (cur.toList.take (l.length*t'.size)) l):=hO
    have hcur':(match β id with
     |some pl=>(0 < len\/0=0->ad=al ⟨pl.b,0,aJ⟩)/\(([]:List GZ)=[]->0=0->cap=pl.cap)
     |none=>ad=aJ/\len=0/\cap=0):=fH
    have aCX:fr=aR\/len=l.length:=by simp only[iq,ct,aW]at aJD;exact aJD
    have gJ:s.bS id≠aJ:=by rw[cO];simp
    have fresh:∀(cur:Array Value) (cp:Nat) (g0:Nat->lQ),Trans w (w.drew.alloc (.cells cur e)) g (na g0 w.heap.size (.own (.id (id)) 0))->
      (∀i ver fr c pl,i≠id->s.bS i=al (.obj ver fr c)->β i=al pl->g0 pl.b=g pl.b)->cur.size=cp*t'.size->len+m.length<=cp->cp<=maxLen->
      bo (cI (s.env w g β) t') (cur.toList.take ((len+m.length)*t'.size)) (l.take len++m)->len<=l.length->
      ∃g' β',Inv C g' β' ((s.aZ id (.obj (v+1) fr (.vec e t' (l.take len++m)))).put o.dst (.b8 id (v+1) [] 0 0 (len+m.length))) (a.put o.dst (.slice (al ⟨w.heap.size,0,aJ⟩) (len+m.length) cp)) (w.drew.alloc (.cells cur e)):=by
     intro cur cp g0 ht aHY q1 q2 q3 q4 q5;have aBv:(l.take len++m).length=len+m.length:=by simp;omega
     have hle:cU (s.env w g β) ((s.aZ id (.obj (v+1) fr (.vec e t' (l.take len++m)))).env (w.drew.alloc (.cells cur e)) (na g0 w.heap.size (.own (.id id) 0)) (Ge β id (al ⟨w.heap.size,cp⟩))):=
      cU.aZ cO au ht (λi hi=>zS _ _ _ hi) (λhh=>au)
     have i1:=h.step (dv _ _ _) ht hle (iP.aZ (acH:=pF cO λk v1 l e=>by cases e) h.bM gJ hle (λi hi=>zS _ _ _ hi) (λi ver fr' c' pl hi S0 QT=>by
       have jb:pl.b < w.heap.size:=((h.bM i ver fr' c' S0).label (pl:=pl) QT).1;exact⟨ql w.drew _ jb,by rw[fG _ _ _ au];exact aHY i ver fr' c' pl hi S0 QT⟩) (by
      refine⟨hz,?_⟩;show(match Ge β id (al ⟨w.heap.size,cp⟩) id with
       |none=>(l.take len++m)=[]
       |some pl=>_)
      rw[jX];refine⟨cur,0,sE w.drew _,q1,by rw[aBv];exact q2,q3,fP _ _ _,aP _,λ_=>rfl,?_⟩;rw[aBv];exact q4.mono λ_ _ hx=>hx.mono hle.mem))
     refine⟨_,_,i1.put o.dst ⟨_,?_,rfl⟩⟩;simp only[V];have kS:=eL s id (.obj (v+1) fr (.vec e t' (l.take len++m))) gJ;refine⟨_,_,rfl,q2,λ_=>rfl,⟨by show(s.aZ id _).bS id≠aJ;rw[kS];simp,λv' fr' c' hh=> ?_⟩,λ_=> ?_⟩
     ·have hh':(s.aZ id (.obj (v+1) fr (.vec e t' (l.take len++m)))).bS id=al (.obj v' fr' c'):=hh;rw[kS]at hh';simp only[az,dR.obj.injEq]at hh';omega
     ·show(match Ge β id (al ⟨w.heap.size,cp⟩) id with
       |some pl=>_
       |none=>_)
      rw[jX];exact⟨λ_=>rfl,λ_ _=>rfl⟩
    cases hp:β id with
    |none=>
     rw[hp]at hO' hcur';simp only at hO' hcur';obtain⟨rfl,rfl,rfl⟩:=hcur';subst hO';by_cases aEw:m.length=0
     ·have aId:m=[]:=bw aEw;subst aId;have aIg:news=[]:=bw (by rw[azb];simp);subst aIg;have ht:=Trans.refl w g;have hle:cU (s.env w g β) ((s.aZ id (.obj (v+1) fr (.vec e t' []))).env w g β):=cU.aZ cO au ht (λ_ _=>rfl) (λ_=>rfl);have i1:=h.step (dv _ _ _) ht hle (iP.aZ (acH:=pF cO λk v1 l e=>by cases e) h.bM gJ hle (λ_ _=>rfl) (λ_ _ _ _ _ _ _ _=>⟨rfl,rfl⟩) (by
       refine⟨hz,?_⟩;show(match β id with
        |none=>([]:List t'.den)=[]
        |some pl=>_)
       rw[hp]))
      refine fin (.slice aJ 0 0) w ?_ ⟨g,β,i1.put o.dst ⟨_,?_,rfl⟩⟩
      ·rw[arB];exact DU (P:=P) hT hX hi hlen (aBs w rfl)
      ·simp only[V];have kS:=eL s id (.obj (v+1) fr (.vec e t' [])) gJ;refine⟨_,_,rfl,aF _,λhh=>by simp at hh,⟨by show(s.aZ id _).bS id≠aJ;rw[kS];simp,λv' fr' c' hh=> ?_⟩,λ_=> ?_⟩
       ·have hh':(s.aZ id (.obj (v+1) fr (.vec e t' []))).bS id=al (.obj v' fr' c'):=hh;rw[kS]at hh';simp only[az,dR.obj.injEq]at hh';omega
       ·show(match β id with
         |some pl=>_
         |none=>_)
        rw[hp];exact⟨rfl,by simp,rfl⟩
     ·obtain⟨cur,cp,hr,q1,q2,q3,q4⟩:=grow aJ 0 0 [] [] arB (by simp) rfl rfl rfl au aha;refine fin _ _ hr (fresh cur cp g (Trans.trans (Trans.drew w g) (Trans.alloc w.drew g _ _)) (λ_ _ _ _ _ _ _ _=>rfl) q1 q2 q3 ?_ (by simp));rw[q4];simpa using uG
    |some pl=>
     rw[hp]at hO' hcur';simp only at hO' hcur';obtain⟨aiu,KY⟩:=hcur';have aiu:=aiu (.inr trivial);have KY:=KY trivial trivial;subst aiu KY;obtain⟨cur,k,p1,p2,p3,p4,p5,p6,p7,p8⟩:=hO';have hk:k<=len*t'.size:=by
      rcases aCX with hf | hf
      ·rw[p7 hf];exact aP _
      ·rw[hf];exact p6
     have hmul:len*t'.size<=l.length*t'.size:=c9 _ ay9;have aJN:l.length*t'.size<=cur.size:=by rw[p2];exact c9 _ p3
     have aDd:=bo.take (λ_ _ hx=>cI.size hx) len p8;rw[lS,gF hmul]at aDd;have Rq:(cur.toList.take (len*t'.size)).length=len*t'.size:=by simp;omega
     by_cases Hz:len+m.length<=pl.cap
     ·have aKK:(len+m.length)*t'.size<=cur.size:=by rw[p2];exact c9 _ Hz
      have aaF:len*i.size+news.length<=cur.size:=by rw[aoJ,azb,<-eO];exact aKK
      have hr:=OD (P:=P) (w:=w) (ty:=0) hT hX hi p1 h1news hlen (aBs w rfl) Hz aaF;rw[aoJ]at hr aaF;have ht:Trans w (w.setRow pl.b (dE cur.toList (len*t'.size) news).toArray) g g:=by
       refine⟨by simp,by simp,by simp,by simp,λb' hb=> ?_⟩;by_cases aaD:b'=pl.b
       ·subst aaD;rw[p5];refine⟨.inr ⟨id,k,rfl,aF _⟩,λoff u azd hu=> ?_⟩;rw[cell_of_row w pl.b off cur e (0,0) p1]at hu;rw[cell_setRow_same w pl.b off cur _ e (0,0) p1];simp only[dE,aM,List.getElem?_toArray];rw[fB (by rw[Rq];omega),db,if_pos au];simpa using hu
       ·rw[setRow_other w pl.b b' _ aaD];cases QR:g b' with
        |free=>exact⟨rfl,rfl⟩
        |own o' k=>cases o' with
         |eM=>exact⟨rfl,rfl⟩
         |id i'=>exact⟨.inr ⟨i',k,rfl,aF _⟩,λoff v _ hv=>by rw[cell_setRow_other w pl.b _ _ aaD];exact hv⟩
      have hle:cU (s.env w g β) ((s.aZ id (.obj (v+1) fr (.vec e t' (l.take len++m)))).env (w.setRow pl.b (dE cur.toList (len*t'.size) news).toArray) g β):=
       cU.aZ cO au ht (λ_ _=>rfl) (λ_=>rfl)
      have aBv:(l.take len++m).length=len+m.length:=by simp;omega
      have aIs:(dE cur.toList (len*t'.size) news).length=cur.toList.length:=jQ (by simpa using aaF);have i1:=h.step (dv _ _ _) ht hle (iP.aZ (acH:=pF cO λk v1 l e=>by cases e) h.bM gJ hle (λ_ _=>rfl) (λi ver fr c pl2 hi S0 QT=>⟨setRow_other w pl.b pl2.b _ (h.apart p5 hi S0 QT),rfl⟩) (by
       refine⟨hz,?_⟩;show(match β id with
        |none=>(l.take len++m)=[]
        |some pl=>_)
       rw[hp];refine⟨_,k,setRow_heap w pl.b cur _ e (0,0) p1,by rw[hJ,aIs];simpa using p2,by rw[aBv];exact Hz,p4,p5,?_,p7,?_⟩
       ·rw[aBv,eO];omega
       ·rw[aBv,show(dE cur.toList (len*t'.size) news).toArray.toList=dE cur.toList (len*t'.size) news from rfl];have e1:(dE cur.toList (len*t'.size) news).take ((len+m.length)*t'.size)=cur.toList.take (len*t'.size)++news:=by
         unfold dE;have aiz:(cur.toList.take (len*t'.size)++news).length=(len+m.length)*t'.size:=by rw[aj,Rq,azb,eO]
         rw[<-aiz];exact List.take_left
        rw[e1];exact(bo.append aDd uG).mono λ_ _ hx=>hx.mono hle.mem))
      rw[<-arB]at hr;refine fin _ _ hr ⟨g,β,i1.put o.dst ⟨_,?_,rfl⟩⟩;simp only[V];have kS:=eL s id (.obj (v+1) fr (.vec e t' (l.take len++m))) gJ;refine⟨_,_,rfl,Hz,λ_=>rfl,⟨by show(s.aZ id _).bS id≠aJ;rw[kS];simp,λv' fr' c' hh=> ?_⟩,λ_=> ?_⟩
      ·have hh':(s.aZ id (.obj (v+1) fr (.vec e t' (l.take len++m)))).bS id=al (.obj v' fr' c'):=hh;rw[kS]at hh';simp only[az,dR.obj.injEq]at hh';omega
      ·show(match β id with
        |some pl=>_
        |none=>_)
       rw[hp];exact⟨λ_=>rfl,λ_ _=>rfl⟩
     ·have aGX:(Builtin.firstCells i.size len (.slice (al ⟨pl.b,0,aJ⟩) len pl.cap)).run P w.drew= .ok (cur.toList.take (len*t'.size)).toArray w.drew:=by
       refine run_firstCells_some (P:=P) w.drew i.size _ _ _ _ _ (by rw[Rq,aoJ]) (λj u hj=> ?_);rw[fC,ba];show w.cell? ⟨pl.b,j,aJ⟩=al u;rw[cell_of_row w pl.b j cur e (0,0) p1];rw[db]at hj;split at hj
       ·simpa using hj
       ·cases hj
      obtain⟨cur2,cp,hr,q1,q2,q3,q4⟩:=grow (al ⟨pl.b,0,aJ⟩) len pl.cap (cur.toList.take (len*t'.size)) (l.take len) arB Rq (by simp;omega) aDd aGX au aha;have jb:pl.b < w.heap.size:=(bN.1 p1).1;have alD:Trans w w.drew g (na g pl.b .free):=by
       refine⟨rfl,rfl,⟨rfl,Nat.le_succ _⟩,aF _,λb' hb=> ?_⟩;by_cases aaD:b'=pl.b
       ·subst aaD;rw[p5,fP];exact⟨.inl rfl,λ_ _ _ hh=>hh⟩
       ·rw[fG _ _ _ aaD];exact(Trans.drew w g).wZ b' hb
      refine fin _ _ hr (fresh cur2 cp (na g pl.b .free) (Trans.trans alD (Trans.alloc w.drew _ _ _)) (λi ver fr c pl2 hi S0 QT=>fG _ _ _ (h.apart p5 hi S0 QT)) q1 q2 q3 ?_ ay9);rw[q4];exact bo.append aDd uG
   ·simp only[aw]at he
  ·simp only[aw]at he
 ·simp only[aw]at he
end
end Go.Ab
namespace Go.Ab
abbrev Ren:=Id->Nat->Option (Id×Nat)
structure yK(ρ:Ren)(E E':Env):Prop where
 mem:sC E E'
 ref:∀id ver r,ρ id ver=al r->E.DL id ver->E'.DL r.1 r.2/\(E'.cur r.1 r.2->E.cur id ver/\E'.β r.1=E.β id)
theorem amC(ρ:Ren)(a:aD):(a.iK ρ).agg=a.agg:=by
 cases a with
 |ptr id v p n=>simp only[aD.iK];cases ρ id v <;> rfl
 |b8 id v p c i l=>simp only[aD.iK];cases ρ id v <;> rfl
 |cP id v=>simp only[aD.iK];cases ρ id v <;> rfl
 |yl id v=>simp only[aD.iK];cases ρ id v <;> rfl
 |_=>rfl
mutual
theorem acN{ρ:Ren}{E E':Env}(h:yK ρ E E'):∀ {a:aD} {cs:List Value},V E a cs->V E' (a.iK ρ) cs
 | .undef,_,hv=>by simp only[V]at hv
 | .gone,_,hv=>by simpa only[aD.iK,V]using hv
 | .dI,_,hv=>by simpa only[aD.iK,V]using hv
 | .j7,_,hv=>by simpa only[aD.iK,V]using hv
 | .vF,_,hv=>by simpa only[aD.iK,V]using hv
 | .Bd,_,hv=>by simpa only[aD.iK,V]using hv
 | .sb l,_,hv=>by simp only[aD.iK,V]at hv ⊢;obtain⟨b,cap,arr,e,h1,h2,h3,h4,h5⟩:=hv;obtain⟨h6,h7⟩:=h.mem.fz b _ h3 h4;exact⟨b,cap,arr,e,h1,h2,h6,h7,h5⟩
 | .d t x,_,hv=>by simp only[aD.iK,V]at hv ⊢;exact hv.mono h.mem
 | .pr a b,_,hv=>by simp only[aD.iK,V]at hv ⊢;obtain⟨ca,cb,e,ha,hb⟩:=hv;exact⟨ca,cb,e,acN h ha,acN h hb⟩
 | .ptr id ver p n,_,hv=>by
  have h1:=hv.one;simp only[aD.iK];cases hr:ρ id ver with
  |none=>
   simp only[V]at hv ⊢;obtain⟨a,e,_⟩:=hv;exact⟨_,e,h1 _ (by simp[e])⟩
  |some r=>
   simp only[V]at hv ⊢;obtain⟨a,e,hb,hc⟩:=hv;obtain⟨b1,b2⟩:=h.ref id ver r hr hb;refine⟨a,e,b1,λc=> ?_⟩;obtain⟨c1,e1⟩:=b2 c;rw[e1];exact hc c1
 | .eN t x,_,hv=>by simp only[aD.iK,V]at hv ⊢;obtain⟨b,off,vs,e,hr,hx⟩:=hv;exact⟨b,off,vs,e,hr.mono h.mem,hx.mono h.mem⟩
 | .b8 id ver p c i len,_,hv=>by
  have h1:=hv.one;simp only[aD.iK];cases hr:ρ id ver with
  |none=>
   simp only[V]at hv ⊢;obtain⟨a,cap,e,_⟩:=hv;exact⟨_,e,h1 _ (by simp[e])⟩
  |some r=>
   simp only[V]at hv ⊢;obtain⟨a,cap,e,hl,hs,hb,hc⟩:=hv;obtain⟨b1,b2⟩:=h.ref id ver r hr hb;refine⟨a,cap,e,hl,hs,b1,λc=> ?_⟩;obtain⟨c1,e1⟩:=b2 c;rw[e1];exact hc c1
 | .fn f c,_,hv=>by simp only[aD.iK,V]at hv ⊢;obtain⟨vs,e,hc⟩:=hv;exact⟨vs,e,ahn h hc⟩
 | .cons _ _,_,hv=>by simp only[V]at hv
 | .nil,_,hv=>by simp only[V]at hv
 | .vec ..,_,hv=>by simp only[V]at hv
 | .bx ..,_,hv=>by simp only[V]at hv
 | .yl id ver,_,hv=>by
  have h1:=hv.one;simp only[aD.iK];cases hr:ρ id ver with
  |none=>
   simp only[V]at hv ⊢;obtain⟨b,e,_⟩:=hv;exact⟨_,e,h1 _ (by simp[e])⟩
  |some r=>
   simp only[V]at hv ⊢;obtain⟨b,e,hb,hc⟩:=hv;obtain⟨b1,b2⟩:=h.ref id ver r hr hb;refine⟨b,e,b1,λc=> ?_⟩;obtain⟨c1,e1⟩:=b2 c;rw[e1];exact hc c1
 | .cP id ver,_,hv=>by
  have h1:=hv.one;simp only[aD.iK];cases hr:ρ id ver with
  |none=>
   simp only[V]at hv ⊢;obtain⟨b,e,_⟩:=hv;exact⟨_,e,h1 _ (by simp[e])⟩
  |some r=>
   simp only[V]at hv ⊢;obtain⟨b,e,hb,hc⟩:=hv;obtain⟨b1,b2⟩:=h.ref id ver r hr hb;refine⟨b,e,b1,λc=> ?_⟩;obtain⟨c1,e1⟩:=b2 c;rw[e1];exact hc c1
 | .mp ..,_,hv | .qh ..,_,hv | .yH ..,_,hv=>by simp only[V]at hv
theorem ahn{ρ:Ren}{E E':Env}(h:yK ρ E E'):∀ {a:aD} {vs:List Value},VC E a vs->VC E' (a.iK ρ) vs
 | .nil,_,hv=>by simpa only[aD.iK,VC]using hv
 | .cons a b,_,hv=>by simp only[aD.iK,VC]at hv ⊢;obtain⟨v,vs',cs,e,ha,ho,hb⟩:=hv;exact⟨v,vs',cs,e,acN h ha,by rw[amC];exact ho,ahn h hb⟩
 | .undef,_,hv=>by simp only[VC]at hv
 | .gone,_,hv=>by simp only[VC]at hv
 | .dI,_,hv=>by simp only[VC]at hv
 | .j7,_,hv=>by simp only[VC]at hv
 | .vF,_,hv=>by simp only[VC]at hv
 | .yl ..,_,hv | .yH ..,_,hv=>by simp only[VC]at hv
 | .Bd,_,hv=>by simp only[VC]at hv
 | .sb _,_,hv=>by simp only[VC]at hv
 | .d t x,_,hv=>by simp only[VC]at hv
 | .pr a b,_,hv=>by simp only[VC]at hv
 | .ptr ..,_,hv=>by simp only[VC]at hv
 | .eN ..,_,hv=>by simp only[VC]at hv
 | .b8 ..,_,hv=>by simp only[VC]at hv
 | .fn ..,_,hv=>by simp only[VC]at hv
 | .vec ..,_,hv=>by simp only[VC]at hv
 | .bx ..,_,hv=>by simp only[VC]at hv
 | .cP ..,_,hv=>by simp only[VC]at hv
 | .mp ..,_,hv | .qh ..,_,hv=>by simp only[VC]at hv
end
theorem Em{ρ:Ren}{E E':Env}(h:yK ρ E E'){a:aD}{v:Value}(hv:VS E a v):VS E' (a.iK ρ) v:=by
 by_cases hc:a.eQ=aT
 ·obtain⟨cs,h1,h2⟩:=hv.eQ hc;exact VS.of (acN h h1) (by rw[amC];exact h2)
 ·cases a <;> first | (exact absurd rfl hc) | skip
  ·trivial
  ·obtain⟨vs,e,aEF⟩:=hv;have:=ahn h aEF;simp only[aD.iK]at this ⊢;exact⟨vs,e,this⟩
  ·exact hv
  ·obtain⟨cs,h1,_⟩:=hv;simp only[V]at h1
  ·obtain⟨cs,h1,_⟩:=hv;simp only[V]at h1
  ·obtain⟨cs,h1,_⟩:=hv;simp only[V]at h1
  ·obtain⟨cs,h1,_⟩:=hv;simp only[V]at h1
  ·obtain⟨cs,h1,_⟩:=hv;simp only[V]at h1
theorem U5(ρ:Ren):∀f:aD,(f.iK ρ).list=f.list.map (aD.iK ρ)
 | .cons a b=>by simp only[aD.iK,aD.list,cn,U5 ρ b]
 | .undef | .gone | .dI | .j7 | .vF | .Bd | .d _ _ | .eN _ _ | .fn _ _ | .pr _ _ | .nil | .vec .. | .sb _ | .bx .. | .mp .. | .qh .. | .yH .. =>rfl
 | .ptr id ver p n=>by simp only[aD.iK];cases ρ id ver <;> rfl
 | .b8 id ver p c i len=>by simp only[aD.iK];cases ρ id ver <;> rfl
 | .cP id ver=>by simp only[aD.iK];cases ρ id ver <;> rfl
 | .yl id ver=>by simp only[aD.iK];cases ρ id ver <;> rfl
theorem ahl{ρ:Ren}{E E':Env}(h:yK ρ E E'){f:aD}{tmps:Array Value}(hs:Ct E f tmps):Ct E' (f.iK ρ) tmps:=by
 refine⟨by rw[U5,cF];exact hs.1,λi=> ?_⟩;have:=Em h (hs.2 i);rw[U5,aI,eK];rw[aI]at this;cases hi:f.list[i]? with
 |none=>exact VS.undef
 |some x=>rw[hi]at this;exact this
theorem aqt(ρ:Ren)(c:aD):(c.iK ρ).strip=c.strip.iK ρ:=by
 cases c <;> first
  |rfl
  | (rename_i id ver p n;simp only[aD.strip,aD.iK];cases ρ id ver <;> rfl)
  | (rename_i id ver p c i len;simp only[aD.strip,aD.iK];cases ρ id ver <;> rfl)
  | (rename_i i v;simp only[aD.strip,aD.iK];cases ρ i v <;> rfl)
theorem ME(ρ:Ren):∀c:aD,(c.iK ρ).size=c.size
 | .pr a b=>by simp only[aD.iK,aD.size,ME ρ a,ME ρ b]
 | .ptr id ver p n=>by simp only[aD.iK];cases ρ id ver <;> rfl
 | .b8 id ver p c i len=>by simp only[aD.iK];cases ρ id ver <;> rfl
 | .cP id ver=>by simp only[aD.iK];cases ρ id ver <;> rfl
 | .undef | .gone | .dI | .j7 | .vF | .Bd | .d _ _ | .eN _ _ | .fn _ _ | .cons _ _ | .nil | .vec .. | .sb _ | .bx .. | .mp .. | .qh .. | .yH .. =>rfl
 | .yl id ver=>by simp only[aD.iK];cases ρ id ver <;> rfl
theorem asm(ρ:Ren){c:aD}(n:Nat):(c.iK ρ).vl n=c.vl n:=by
 cases c with
 |bx e z c=>cases z with
  |zero=>rfl
  |succ z=>exact ME ρ c
 |_=>first | rfl | (simp only[aD.iK];split <;> rfl)
theorem anC(ρ:Ren){c:aD}{pl:Pl}{n:Nat}{e:TypeId}(h:c.Ew pl n e):(c.iK ρ).Ew pl n e:=by
  cases c <;> first
    | (rename_i e' z c;cases z with
       |zero=>exact h
       |succ z=>exact⟨h.1,h.2.1,h.2.2.1,by rw[ME];exact h.2.2.2⟩)
    |exact h
    |trivial
    | (rename_i id ver p n;simp only[aD.iK];cases ρ id ver <;> trivial)
    | (rename_i id ver p c i len;simp only[aD.iK];cases ρ id ver <;> trivial)
    | (rename_i i v;simp only[aD.iK];cases ρ i v <;> trivial)
theorem vj{ρ:Ren}{E E':Env}(h:yK ρ E E'){id id':Id}{fr:Bool}{c:aD}(ho:vi E id fr c)(hβ:E'.β id'=E.β id)
  (hb:∀pl,E.β id=al pl->E'.w.heap[pl.b]? =E.w.heap[pl.b]? /\(∀k,E.g pl.b= .own (.id id) k->E'.g pl.b= .own (.id id') k)/\(E.g pl.b= .free->E'.g pl.b= .free)):vi E' id' fr (c.iK ρ):=by
 by_cases hn:c.iu=aR
 ·obtain⟨pl,cur,e,h1,h2,h3,h5,h4⟩:=ho.box hn;obtain⟨b1,b2,b3⟩:=hb pl h1;have h6:=acN h h4;refine Nb.obj ⟨pl,cur,e,by rw[hβ,h1],by rw[b1,h2],?_,anC ρ h5,by rw[aqt,asm];exact h6⟩;cases fr with
  |true=>exact b3 h3
  |false=>exact b2 0 h3
 ·cases c <;> first
   | (exact absurd rfl hn)
   |skip
  rotate_left;rotate_left
  ·obtain⟨pl,mb,since,seen,c0,h1,h2,h3,_⟩:=ho;obtain⟨b1,b2,_⟩:=hb pl h1;exact⟨pl,mb,since,seen,c0,by rw[hβ,h1],by rw[b1,h2],b2 0 h3,λvr ahb=>by cases ahb⟩
  ·obtain⟨pl,r,h1,h2,h3,h4,h5,h6⟩:=ho;obtain⟨b1,b2,_⟩:=hb pl h1;exact⟨pl,r,by rw[hβ,h1],by rw[b1,h2],b2 0 h3,h4,ahl h h5,h6⟩
  rotate_left
  ·obtain⟨pl,es,clock,h1,h2,h3,h4⟩:=ho;obtain⟨b1,b2,_⟩:=hb pl h1;exact⟨pl,es,clock,by rw[hβ,h1],by rw[b1,h2],b2 0 h3,⟨h4.1.1.mono h.mem,h4.1.2⟩,h4.2⟩
  rename_i e t l;obtain⟨hz,ho⟩:=ho;refine⟨hz,?_⟩;rw[hβ];cases hp:E.β id with
  |none=>rw[hp]at ho;exact ho
  |some pl=>
   rw[hp]at ho;simp only at ho ⊢;obtain⟨b1,b2,_⟩:=hb pl hp;obtain⟨cur,k,h1,h2,h3,h4,h5,h6,h7,h8⟩:=ho;exact⟨cur,k,by rw[b1,h1],h2,h3,h4,b2 k h5,h6,h7,h8.mono λc x hx=>hx.mono h.mem⟩
def wL(E:Env):List aD->List Value->Prop
 |[],[]=>True
 |a::as,v::vs=>VS E a v/\wL E as vs
 |_,_=>False
def im.st(G:im):AS:= {cr:=[],cj:=G.cj,news:=[G.news]}
def fT(cj:List dR):AS:= {cr:=[],cj,news:=[]}
def sw(E:Env)(G:im)(v:Value)(w':bU):Prop:=∃g' β',VS (G.st.env w' g' β') G.val v/\iP (G.st.env w' g' β')/\Trans E.w w' E.g g'/\cU E (G.st.env w' g' β')
def qU(P:aN)(f:fR)(en:Entry):Prop:=∀w g β args cj jf x,wL ((fT cj).env w g β) args jf->iP ((fT cj).env w g β)->en.run args cj=al x->((callFunc f jf.toArray).run P w= .ok (.enter f jf.toArray) w/\Calls P f jf.toArray w λe w'=>∃v,e= .returned v/\sw ((fT cj).env w g β) (en.out args cj x) v w')\/(∃v w',(callFunc f jf.toArray).run P w= .ok (.value v) w'/\sw ((fT cj).env w g β) (en.out args cj x) v w')
def JV(P:aN)(y:Nat)(en:Entry):Prop:=∀w g β args cj jf x,wL ((fT cj).env w g β) args jf->iP ((fT cj).env w g β)->en.run args cj=al x->∀l us ts f rd n,jf= .func (.yield l) #[] #[]::(us++ts)->us.length=(U9 P y).ps.size->RoundIn (Fr rd) n P l f (((U9 P y).ps.zip us.toArray).foldl (λtmps (t,a)=>tmps.setIfInBounds t a) ts.toArray) (U9 P y).as (U9 P y).b w λe w'=>∃v,e= .returned v/\sw ((fT cj).env w g β) (en.out args cj x) v w'
def JU(P:aN)(f:fR)(en:Entry):Prop:=∀w g β args cj jf,wL ((fT cj).env w g β) args jf->iP ((fT cj).env w g β)->(∃x,en.set args cj x)->(callFunc f jf.toArray).run P w= .ok (.enter f jf.toArray) w/\Calls P f jf.toArray w λe w'=>∃v x,e= .returned v/\en.set args cj x/\sw ((fT cj).env w g β) (en.out args cj x) v w'
def BK(P:aN)(f:Nat)(en:Entry):Prop:=(Nat.blt f yB=aT->qU P f en)/\(Nat.ble yB f=aT->JV P f en)/\(Nat.blt f yB=aT->JU P f en)
theorem BK.no{f:Nat}(h1:Nat.blt f yB=aT)(h2:Nat.ble yB f=aT):False:=gC _ (Nat.lt_of_lt_of_le (dG h1) (dG h2))
theorem BK.of{P:aN}{f:fR}{en:Entry}(h:qU P f en)(hf:Nat.blt f yB=aT)(hs:∀a o x,¬en.set a o x:=by exact λ_ _ _ h=>h):BK P f en:=
 ⟨λ_=>h,λh2=>(BK.no hf h2).elim,λ_ _ _ _ _ _ _ _ _ ⟨x,hx⟩=>(hs _ _ x hx).elim⟩
theorem BK.aK0{P:aN}{f:fR}{en:Entry}(h:JU P f en)(hf:Nat.blt f yB=aT)(hs:∀a o,en.run a o=aJ:=by exact λ_ _=>rfl):BK P f en:=
 ⟨λ_ _ _ _ _ _ _ _ _ _ hx=>(by rw[hs]at hx;cases hx),λh2=>(BK.no hf h2).elim,λ_=>h⟩
def Sound(P:aN)(Γ:pZ):Prop:=∀f vs en,Γ f vs=al en->BK P f en
theorem wL.mono{E E':Env}(h:cU E E'):∀ {as:List aD} {vs:List Value},wL E as vs->wL E' as vs
 |[],[],_=>trivial
 |_::_,_::_,⟨h1,h2⟩=>⟨h1.mono h,wL.mono h h2⟩
theorem wL.iK{ρ:Ren}{E E':Env}(h:yK ρ E E'):∀ {as:List aD} {vs:List Value},wL E as vs->wL E' (as.map (aD.iK ρ)) vs
 |[],[],_=>trivial
 |_::_,_::_,⟨h1,h2⟩=>⟨Em h h1,wL.iK h h2⟩
theorem wL.append{E:Env}:∀ {as:List aD} {vs:List Value} {bs:List aD} {us:List Value},wL E as vs->wL E bs us->wL E (as++bs) (vs++us)
 |[],[],_,_,_,h=>h
 |_::_,_::_,_,_,⟨h1,h2⟩,h=>⟨h1,wL.append h2 h⟩
theorem Zv{E:Env}:∀ {c:aD} {vs:List Value},VC E c vs->wL E c.list vs
 | .cons a b,vs,h=>by simp only[VC]at h;obtain⟨v,vs',cs,rfl,ha,ho,hb⟩:=h;exact⟨VS.of ha ho,Zv hb⟩
 | .nil,vs,h=>by simp only[VC]at h;subst h;trivial
 | .undef,_,hv=>by simp only[VC]at hv
 | .gone,_,hv=>by simp only[VC]at hv
 | .dI,_,hv=>by simp only[VC]at hv
 | .j7,_,hv=>by simp only[VC]at hv
 | .vF,_,hv=>by simp only[VC]at hv
 | .yl ..,_,hv | .yH ..,_,hv=>by simp only[VC]at hv
 | .Bd,_,hv=>by simp only[VC]at hv
 | .sb _,_,hv=>by simp only[VC]at hv
 | .d t x,_,hv=>by simp only[VC]at hv
 | .pr a b,_,hv=>by simp only[VC]at hv
 | .ptr ..,_,hv=>by simp only[VC]at hv
 | .eN ..,_,hv=>by simp only[VC]at hv
 | .b8 ..,_,hv=>by simp only[VC]at hv
 | .fn ..,_,hv=>by simp only[VC]at hv
 | .vec ..,_,hv=>by simp only[VC]at hv
 | .bx ..,_,hv=>by simp only[VC]at hv
 | .cP ..,_,hv=>by simp only[VC]at hv
 | .mp ..,_,hv | .qh ..,_,hv=>by simp only[VC]at hv
theorem Inv.aGR{C:Ctx}{g:Nat->lQ}{β:Id->Option Pl}{s:AS}{a:Act}{w:bU}(h:Inv C g β s a w):∀l:List bJ,wL (s.env w g β) (l.map s.ev) (l.map a.eval)
 |[]=>trivial
 |x::l=>⟨h.ev x,h.aGR l⟩
theorem BU{E E':Env}{s:AS}(hs:E.s=s.bS)(ho:iP E)(he:cU E E'):∀(ps:List (Option Ty)) (vs:List aD) (ys:List Value) (r:List aD×List Id),wL E vs ys->(s.conv ps vs).eval=al r->aET E E' r.2->wL E' r.1 ys
 |[],[],ys,r,hv,h,_=>by
  simp only[AS.conv,ay]at h;subst h;cases ys with
  |nil=>trivial
  |cons _ _=>exact hv.elim
 |some t::ps,v::vs,y::ys,r,⟨hv,Pz⟩,h,hf=>by
  simp only[AS.conv]at h;obtain⟨x,h1,h2⟩:=ax.1 h;obtain⟨r',h3,h4⟩:=ax.1 h2;obtain rfl:=ay.1 h4;obtain⟨cs,hV,hO⟩:=hv.eQ (AP h1);refine⟨VS.of (cs:=cs) ?_ ?_,BU hs ho he ps vs ys r' Pz h3 λid dg=>hf id (bD.2 (.inr dg))⟩
  ·simp only[V];exact tx hs ho he v t x cs hV h1 λid dg=>hf id (bD.2 (.inl dg))
  ·show fY t.agg cs y;rw[<-VV h1];exact hO
 |none::ps,v::vs,y::ys,r,⟨hv,Pz⟩,h,hf=>by simp only[AS.conv]at h;obtain⟨r',h3,h4⟩:=ax.1 h;obtain rfl:=ay.1 h4;exact⟨hv.mono he,BU hs ho he ps vs ys r' Pz h3 hf⟩
 |[],_::_,_,_,_,h,_=>by simp only[AS.conv,aw]at h
 |some _::_,[],_,_,_,h,_=>by simp only[AS.conv,aw]at h
 |none::_,[],_,_,_,h,_=>by simp only[AS.conv,aw]at h
end Go.Ab
namespace Go.Ab
theorem oB{id:Id}:∀ {ids:List Id} {k:Nat},idxOf id ids=al k->ids[k]? =al id
 |[],_,h=>by simp[idxOf]at h
 |x::xs,k,h=>by
  simp only[idxOf]at h;split at h
  ·rename_i e;simp only[az]at h;subst h e;rfl
  ·simp only[dz]at h;obtain⟨j,hj,rfl⟩:=h;simpa using oB hj
theorem vz{id:Id}:∀ {ids:List Id} {k:Nat},ids.Nodup->ids[k]? =al id->idxOf id ids=al k
 |[],_,_,h=>by simp at h
 |x::xs,0,hn,h=>by simp only[fX,az]at h;simp[idxOf,h]
 |x::xs,k+1,hn,h=>by
  simp only[lR]at h;obtain⟨h1,h2⟩:=dr.1 hn;have gJ:x≠id:=λe=>h1 (e▸c8 h)
  simp[idxOf,gJ,vz h2 h]
theorem BB(s0:AS)(all:List Id)(t:Nat):∀(ids:List Id) (es:List dR) (s:AS),(AS.jD s0 all t s ids es).cr=s.cr
 |[],_,_=>by simp[AS.jD]
 |_::_,[],_=>by simp[AS.jD]
 |id::ids,e::es,s=>by rw[AS.jD,BB s0 all t ids es,dv]
theorem Vu(s:AS)(ids:List Id)(t:Nat)(es:List dR):(s.made ids t es).cr=s.cr:=by cases es <;> rfl
theorem EK(s0:AS)(all:List Id)(t:Nat):∀(ids:List Id) (es:List dR) (s:AS),ids.Nodup->es.length=ids.length->(∀id∈ids,s.bS id≠aJ)->
  (∀id,id ∉ ids->(AS.jD s0 all t s ids es).bS id=s.bS id)/\
  ∀(k:Nat) (id:Id) (e:dR),ids[k]? =al id->es[k]? =al e->(AS.jD s0 all t s ids es).bS id=al (s0.ri all t (s0.AT id) e)
 |[],es,s,_,_,_=>⟨λ_ _=>by simp[AS.jD],λk id e h=>by simp at h⟩
 |_::_,[],s,_,hl,_=>by simp at hl
 |i::ids,e::es,s,hn,hl,hp=>by
  obtain⟨h1,h2⟩:=dr.1 hn;have hp':∀id∈ids,(s.aZ i (s0.ri all t (s0.AT i) e)).bS id≠aJ:=λid dg=>by rw[df s i id _ (λe=>h1 (e▸dg))];exact hp id (aK _ dg)
  obtain⟨r1,r2⟩:=EK s0 all t ids es (s.aZ i (s0.ri all t (s0.AT i) e)) h2 (by simpa using hl) hp';rw[AS.jD];refine⟨λid dg=> ?_,λk id e' hk he=> ?_⟩
  ·simp only[cg,not_or]at dg;rw[r1 id dg.2,df s i id _ dg.1]
  ·cases k with
   |zero=>
    simp only[fX,az]at hk he;subst hk he;rw[r1 i h1,eL s i _ (hp i (aL ..))]
   |succ k=>
    simp only[lR]at hk he;exact r2 k id e' hk he
theorem aef(s:AS)(ids:List Id)(t:Nat)(es:List dR)(hv:es=[]\/s.eB t=aT):
  (∀id,(es=[]\/∀j,id≠ .new t j)->(s.made ids t es).bS id=s.bS id)/\(es≠ []->∀j,(s.made ids t es).bS (.new t j)=(es[j]?).map (s.ri ids t 0)):=by
 cases es with
 |nil=>exact⟨λ_ _=>rfl,λh=>absurd rfl h⟩
 |cons e es=>
  have hv:s.eB t=aT:=by
   rcases hv with h | h
   ·cases h
   ·exact h
  refine⟨λid h=> ?_,λ_ j=> ?_⟩
  ·rcases h with h | h
   ·cases h
   ·exact iZ _ h
  ·rw[AS.made,xt (ke hv).2,eK]
def nh(ids:List Id):lQ->lQ
 | .free=> .free
 | .own .eM n=> .own .eM n
 | .own (.id i) n=>match idxOf i ids with | some k=> .own (.id (.bG k)) n | none=> .own .eM n
def AD(β:Id->Option Pl)(ids:List Id):Id->Option Pl
 | .bG k=>(ids[k]?).bind β
 | .new _ _=>aJ
def nH(g:Nat->lQ)(size:Nat)(ids:List Id)(t:Nat)(b:Nat):lQ->lQ
 | .free=> .free
 | .own .eM n=>if b < size then g b else .own .eM n
 | .own (.id i) n=> .own (.id (aBD ids t i)) n
def vK(β β':Id->Option Pl)(ids:List Id)(t:Nat)(some?:Bool)(id:Id):Option Pl:=
 match idxOf id ids with
 |some k=>β' (.bG k)
 |none=>match id with
  | .new i j=>if i=t/\some?=aT then β' (.new 0 j) else β (.new i j)
  |id=>β id
theorem auD{ids:List Id}{l:lQ}{off:Nat}(h:so (λ_=>l) 0 off):so (λ_=>nh ids l) 0 off:=by
 cases l with
 |free=>trivial
 |own o k=>cases o with
  |eM=>exact h
  |id i=>simp only[nh];cases idxOf i ids <;> exact h
section
variable {P:aN} {C:Ctx} {g:Nat->lQ} {β:Id->Option Pl} {s:AS} {a:Act} {w:bU} {o:Oper}
theorem aun(ids:List Id):
  yK (s.vN ids) (s.env w g β) ((fT (ids.map (s.mf ids))).env w (λb=>nh ids (g b)) (AD β ids)):=by
 refine⟨⟨λb off v ⟨h1,h2⟩=>⟨h1,?_⟩,λb ob h1 h2=>⟨by show nh ids (g b)= .free;have h1:g b= .free:=h1;rw[h1];rfl,h2⟩⟩,λid ver r hr _=> ?_⟩
 ·exact auD (l:=g b) h2
 ·unfold AS.vN at hr;split at hr
  ·rename_i k v fr c hk ho;split at hr
   ·rename_i aFZ;simp only[az]at hr;subst hr aFZ;have dg:=oB hk;have cO:=dZ ho;refine⟨⟨?_,λ_ _ _ _=>aP _⟩,λ_=>⟨⟨fr,c,cO⟩,?_⟩⟩
    ·show(ids.map (s.mf ids))[k]? ≠aJ
     simp[dg]
    ·show(ids[k]?).bind β=β id;rw[dg];rfl
   ·cases hr
  ·cases hr
theorem alL(ids:List Id)(hn:ids.Nodup)(h:iP (s.env w g β)):iP ((fT (ids.map (s.mf ids))).env w (λb=>nh ids (g b)) (AD β ids)):=by
 intro id ver fr c dg;have dg:(fT (ids.map (s.mf ids))).bS id=al (.obj ver fr c):=dg;cases id with
 |new i j=>simp[fT,AS.bS]at dg
 |bG k=>
  simp only[fT,AS.bS,eK,dz]at dg;obtain⟨id1,hk,he⟩:=dg;unfold AS.mf at he;split at he
  ·rename_i v fr1 c1 cO;simp only[dR.obj.injEq]at he;obtain⟨rfl,rfl,rfl⟩:=he;refine vj (aun ids) (h id1 v fr1 c1 cO) (by show(ids[k]?).bind β=β id1;rw[hk];rfl) λpl hp=>⟨rfl,λn hg=> ?_,λhg=> ?_⟩
   ·have hg:g pl.b= .own (.id id1) n:=hg;show nh ids (g pl.b)=_;rw[hg];simp[nh,vz hn hk]
   ·have hg:g pl.b= .free:=hg;show nh ids (g pl.b)=_;rw[hg];rfl
  ·cases he
theorem RO(h:Inv C g β s a w){ids:List Id}(hn:ids.Nodup)(hp:∀id∈ids,∃r,s.obj id=al r)(Rq:∀id∈ids,s.NT id=aT){G:im}{t:Nat}(hl:G.cj.length=ids.length)(hv:G.news=[]\/s.eB t=aT){v:Value}{w':bU}
  (ha:sw ((fT (ids.map (s.mf ids))).env w (λb=>nh ids (g b)) (AD β ids)) G v w'):
  ∃g' β',Inv C g' β' (AS.jD s ids t (s.made ids t G.news) ids G.cj) a w'/\VS ((AS.jD s ids t (s.made ids t G.news) ids G.cj).env w' g' β') (G.val.iK (s.ui ids t)) v:=by
 obtain⟨g1,β1,zd,aBy,aiI,hle⟩:=ha;have aiI:Trans w w' (λb=>nh ids (g b)) g1:=aiI;obtain⟨m1,m2⟩:=aef s ids t G.news hv;have aIk:∀id∈ids,s.bS id≠aJ:=λid dg=>by obtain⟨⟨v,fr,c⟩,hr⟩:=hp id dg;rw[dZ hr];simp
 have B1:∀id,s.bS id≠aJ->G.news=[]\/∀j,id≠ .new t j:=λid dg=>by
  rcases hv with hv | hv
  ·exact .inl hv
  ·exact .inr λj e=>dg (by rw[e];exact(ke hv).1 j)
 obtain⟨n1,n2⟩:=EK s ids t ids G.cj (s.made ids t G.news) hn hl (λid dg=>by rw[m1 id (B1 id (aIk id dg))];exact aIk id dg);have aDg:∀j,G.news≠ []->Id.new t j ∉ ids:=λj gJ dg=>by
  rcases hv with hv | hv
  ·exact gJ hv
  ·exact aIk _ dg ((ke hv).1 j)
 generalize S0:AS.jD s ids t (s.made ids t G.news) ids G.cj=s2 at*;have hgO:∀(k:Nat) (id:Id),ids[k]? =al id->∃e,G.cj[k]? =al e/\s2.bS id=al (s.ri ids t (s.AT id) e):=λk id hk=>by
  have jb:k < G.cj.length:=by rw[hl];exact(dN.1 hk).1
  exact⟨_,bQ jb,n2 k id _ hk (bQ jb)⟩
 have hgN:G.news≠ []->∀j,s2.bS (.new t j)=(G.news[j]?).map (s.ri ids t 0):=λgJ j=>by rw[n1 _ (aDg j gJ),m2 gJ j]
 have hgS:∀id,id ∉ ids->(G.news=[]\/∀j,id≠ .new t j)->s2.bS id=s.bS id:=λid h1 h2=>by rw[n1 id h1,m1 id h2]
 have hverOf:∀id∈ids,∃fr c,s.bS id=al (.obj (s.AT id) fr c):=λid dg=>by obtain⟨⟨v,fr,c⟩,hr⟩:=hp id dg;refine⟨fr,c,?_⟩;rw[dZ hr];simp[AS.AT,hr]
 have aHX:∀b n,b < w.heap.size->g1 b= .own .eM n->(g b= .own .eM n\/∃i,g b= .own (.id i) n/\idxOf i ids=aJ):=λb n hb hg=>by
  have h1:=aiI.wZ b hb;cases QR:g b with
  |free=>simp only[QR,nh]at h1;rw[h1.1]at hg;cases hg
  |own o k=>cases o with
   |eM=>simp only[QR,nh]at h1;rw[h1.1]at hg;left;exact hg
   |id i=>
    cases hi:idxOf i ids with
    |none=>
     simp only[QR,nh,hi]at h1;rw[h1.1]at hg;simp only[lQ.own.injEq,zP]at hg;subst hg;exact .inr ⟨i,rfl,hi⟩
    |some k'=>
     simp only[QR,nh,hi]at h1;rcases h1.1 with h2 | ⟨_,_,h2,_⟩ <;> (rw[h2]at hg;cases hg)
 let g2:Nat->lQ:=λb=>nH g w.heap.size ids t b (g1 b)
 let β2:Id->Option Pl:=vK β β1 ids t (!G.news.isEmpty)
 have hβO:∀k id,ids[k]? =al id->β2 id=β1 (.bG k):=λk id hk=>by show vK _ _ _ _ _ id=_;simp[vK,vz hn hk]
 have hβN:G.news≠ []->∀j,β2 (.new t j)=β1 (.new 0 j):=λgJ j=>by
  show vK _ _ _ _ _ _=_;have:idxOf (.new t j) ids=aJ:=by
   cases hi:idxOf (.new t j) ids with
   |none=>rfl
   |some k=>exact absurd (c8 (oB hi)) (aDg j gJ)
  have hne':G.news.isEmpty=aR:=by cases hh:G.news with
   |nil=>exact absurd hh gJ
   |cons _ _=>rfl
  simp[vK,this,hne']
 have hβS:∀id,id ∉ ids->(G.news=[]\/∀j,id≠ .new t j)->β2 id=β id:=λid h1 h2=>by
  show vK _ _ _ _ _ _=_;have:idxOf id ids=aJ:=by
   cases hi:idxOf id ids with
   |none=>rfl
   |some k=>exact absurd (c8 (oB hi)) h1
  cases id with
  |bG k=>simp[vK,this]
  |new i j=>
   have:¬(i=t/\(!G.news.isEmpty)=aT):=by
    rintro⟨rfl,h3⟩;rcases h2 with h2 | h2
    ·rw[h2]at h3;cases h3
    ·exact h2 j rfl
   simp only[vK, *,cK]
 have aFV:Trans w w' g g2:=by
  refine⟨aiI.os,aiI.tape,aiI.output,aiI.size,λb hb=> ?_⟩;have h1:=aiI.wZ b hb;show match g b with | .free=>nH g w.heap.size ids t b (g1 b)= .free/\_ | .own .eM k=>nH g w.heap.size ids t b (g1 b)= .own .eM k/\_ | .own (.id _) k=>(nH g w.heap.size ids t b (g1 b)= .free\/∃i k',nH g w.heap.size ids t b (g1 b)= .own (.id i) k'/\k<=k')/\_
  cases QR:g b with
  |free=>simp only[QR,nh]at h1 ⊢;rw[h1.1];exact⟨rfl,h1.2⟩
  |own o k=>cases o with
   |eM=>simp only[QR,nh]at h1 ⊢;rw[h1.1];simp only[nH,hb,da,QR];exact⟨trivial,h1.2⟩
   |id i=>
    cases hi:idxOf i ids with
    |none=>
     simp only[QR,nh,hi]at h1 ⊢;rw[h1.1];simp only[nH,hb,da,QR];exact⟨.inr ⟨i,k,rfl,aF _⟩,λoff v _ hv=>by simpa only[eP,h1.2]using hv⟩
    |some k'=>
     simp only[QR,nh,hi]at h1 ⊢;refine⟨?_,h1.2⟩;rcases h1.1 with h2 | ⟨i',k'',h2,h3⟩
     ·rw[h2];exact .inl rfl
     ·rw[h2];exact .inr ⟨_,k'',rfl,h3⟩
 have sS:sC (G.st.env w' g1 β1) (s2.env w' g2 β2):=by
  refine⟨λb off v ⟨h1,h2⟩=> ?_,λb ob h1 h2=>⟨by show nH g w.heap.size ids t b (g1 b)= .free;have h1:g1 b= .free:=h1;rw[h1];rfl,h2⟩⟩;refine⟨h1,?_⟩;have h2:so g1 b off:=h2;show so g2 b off;unfold so at h2 ⊢;show match nH g w.heap.size ids t b (g1 b) with | .free=>True | .own _ k=>off < k
  cases QR:g1 b with
  |free=>simp[nH]
  |own o k=>
   rw[QR]at h2;cases o with
   |eM=>
    simp only[nH];by_cases hb:b < w.heap.size
    ·rw[if_pos hb];rcases aHX b k hb QR with h3 | ⟨i,h3,_⟩ <;> (rw[h3];exact h2)
    ·rw[if_neg hb];exact h2
   |id i=>exact h2
 have hentOut:∀(base:Nat) (e:dR) (ver:Nat) (fr:Bool) (c:aD),s.ri ids t base e= .obj ver fr c->∃v0 c0,e= .obj v0 fr c0/\ver=base+v0/\c=c0.iK (s.ui ids t):=λbase e ver fr c he=>by
  cases e with
  |dead=>cases he
  |obj v0 fr0 c0=>
   simp only[AS.ri,dR.obj.injEq]at he;obtain⟨rfl,rfl,rfl⟩:=he;exact⟨v0,c0,rfl,rfl,rfl⟩
 have QS:yK (s.ui ids t) (G.st.env w' g1 β1) (s2.env w' g2 β2):=by
  refine⟨sS,λid ver r hr hb=> ?_⟩;cases id with
  |bG k=>
   obtain⟨M5,Ro⟩:=hb;have M5:G.cj[k]? ≠aJ:=M5
   have hk:k < ids.length:=by
    rcases ph k ids.length with h' | h'
    ·exact h'
    ·exact absurd (dP au) M5
   have dg:ids[k]? =al ids[k]:=bQ hk
   simp only[AS.ui,dg,az]at hr;subst hr;obtain⟨e,Ej,Wk⟩:=hgO k _ dg;refine⟨⟨by show s2.bS _≠aJ;rw[Wk];simp,λv fr c hh=> ?_⟩,λ⟨fr,c,hh⟩=>⟨?_,hβO k _ dg⟩⟩
   ·have hh:s2.bS ids[k]=al (.obj v fr c):=hh;rw[Wk,az]at hh;obtain⟨v0,c0,rfl,rfl,_⟩:=hentOut _ _ _ _ _ hh;have:=Ro v0 fr c0 Ej;omega
   ·have hh:s2.bS ids[k]=al (.obj (s.AT ids[k]+ver) fr c):=hh;rw[Wk,az]at hh;obtain⟨v0,c0,rfl,aEE,_⟩:=hentOut _ _ _ _ _ hh;obtain rfl:ver=v0:=au;exact⟨fr,c0,Ej⟩
  |new i j=>
   simp only[AS.ui,az]at hr;subst hr;obtain⟨M5,Ro⟩:=hb;have M5:([G.news].getD i [])[j]? ≠aJ:=M5
   have Ro:∀v fr c,([G.news].getD i [])[j]? =al (.obj v fr c)->ver<=v:=Ro
   cases i with
   |succ i=>simp at M5
   |zero=>
    simp only[lO]at M5 Ro;have gJ:G.news≠ []:=λe=>by rw[e]at M5;simp at M5
    obtain⟨e,he⟩:=Option.ne_none_iff_exists'.1 M5;have Wk:=hgN gJ j;rw[he,eo]at Wk;refine⟨⟨by show s2.bS (.new t j)≠aJ;rw[Wk];simp,λv fr c hh=> ?_⟩,λ⟨fr,c,hh⟩=>⟨?_,hβN gJ j⟩⟩
    ·have hh:s2.bS (.new t j)=al (.obj v fr c):=hh;rw[Wk,az]at hh;obtain⟨v0,c0,rfl,rfl,_⟩:=hentOut _ _ _ _ _ hh;have:=Ro v0 fr c0 he;simp only;omega
    ·have hh:s2.bS (.new t j)=al (.obj ver fr c):=hh;rw[Wk,az]at hh;obtain⟨v0,c0,rfl,aEE,_⟩:=hentOut _ _ _ _ _ hh;obtain rfl:ver=v0:=au;exact⟨fr,c0,he⟩
 have aFG:cU (s.env w g β) (s2.env w' g2 β2):=by
  refine⟨Trans.mem aFV,λid ver hb=> ?_,λid ver hb hc=> ?_⟩
  ·obtain⟨M5,Ro⟩:=hb;have M5:s.bS id≠aJ:=M5;have Ro:∀v fr c,s.bS id=al (.obj v fr c)->ver<=v:=Ro;by_cases dg:id∈ids
   ·obtain⟨k,hk⟩:=kg.1 dg;obtain⟨e,Ej,Wk⟩:=hgO k id hk;obtain⟨fr1,c1,M6⟩:=hverOf id dg;refine⟨by show s2.bS _≠aJ;rw[Wk];simp,λv fr c hh=> ?_⟩;have hh:s2.bS id=al (.obj v fr c):=hh;rw[Wk,az]at hh;obtain⟨v0,c0,rfl,rfl,_⟩:=hentOut _ _ _ _ _ hh;have:=Ro _ _ _ M6;omega
   ·have:=hgS id dg (B1 id M5);exact⟨by show s2.bS _≠aJ;rw[this];exact M5,λv fr c hh=>Ro v fr c (this.symm.trans hh)⟩
  ·obtain⟨M5,Ro⟩:=hb;have M5:s.bS id≠aJ:=M5;have Ro:∀v fr c,s.bS id=al (.obj v fr c)->ver<=v:=Ro;obtain⟨fr,c,hh⟩:=hc;have hh:s2.bS id=al (.obj ver fr c):=hh;by_cases dg:id∈ids
   ·obtain⟨k,hk⟩:=kg.1 dg;obtain⟨e,Ej,Wk⟩:=hgO k id hk;obtain⟨fr1,c1,M6⟩:=hverOf id dg;rw[Wk,az]at hh;obtain⟨v0,c0,rfl,aEE,_⟩:=hentOut _ _ _ _ _ hh;have aFZ:=Ro _ _ _ M6;obtain rfl:v0=0:=au;have hver':ver=s.AT id:=au;refine⟨⟨fr1,c1,by rw[hver'];exact M6⟩,?_⟩;show β2 id=β id;rw[hβO k id hk];have aeB:s.mf ids id= .obj 0 fr1 (c1.iK (s.vN ids)):=by simp[AS.mf,M6]
    have h0:((fT (ids.map (s.mf ids))).env w (λb=>nh ids (g b)) (AD β ids)).DL (.bG k) 0:=by
     refine⟨?_,λ_ _ _ _=>aP _⟩;show(ids.map (s.mf ids))[k]? ≠aJ
     simp[hk]
    have:=(hle.cur (.bG k) 0 h0 ⟨fr,c0,Ej⟩).2;have this:β1 (.bG k)=(ids[k]?).bind β:=this;rw[this,hk];rfl
   ·have:=hgS id dg (B1 id M5);exact⟨⟨fr,c,this.symm.trans hh⟩,hβS id dg (B1 id M5)⟩
 have aFO:iP (s2.env w' g2 β2):=by
  intro id ver fr c hh;have hh:s2.bS id=al (.obj ver fr c):=hh;by_cases dg:id∈ids
  ·obtain⟨k,hk⟩:=kg.1 dg;obtain⟨e,Ej,Wk⟩:=hgO k id hk;rw[Wk,az]at hh;obtain⟨v0,c0,rfl,_,rfl⟩:=hentOut _ _ _ _ _ hh;refine vj QS (aBy (.bG k) v0 fr c0 Ej) (hβO k id hk) λpl _=>⟨rfl,λn hg=> ?_,λhg=> ?_⟩
   ·have hg:g1 pl.b= .own (.id (.bG k)) n:=hg;show nH g w.heap.size ids t pl.b (g1 pl.b)=_;rw[hg];simp[nH,aBD,aI,hk]
   ·have hg:g1 pl.b= .free:=hg;show nH g w.heap.size ids t pl.b (g1 pl.b)=_;rw[hg];rfl
  ·by_cases gJ:G.news≠ []/\∃j,id= .new t j
   ·obtain⟨gJ,j,rfl⟩:=gJ;rw[hgN gJ j,dz]at hh;obtain⟨e,he,hh⟩:=hh;obtain⟨v0,c0,rfl,_,rfl⟩:=hentOut _ _ _ _ _ hh;refine vj QS (aBy (.new 0 j) v0 fr c0 (by show([G.news].getD 0 [])[j]? =_;simpa using he)) (hβN gJ j) λpl _=>⟨rfl,λn hg=> ?_,λhg=> ?_⟩
    ·have hg:g1 pl.b= .own (.id (.new 0 j)) n:=hg;show nH g w.heap.size ids t pl.b (g1 pl.b)=_;rw[hg];rfl
    ·have hg:g1 pl.b= .free:=hg;show nH g w.heap.size ids t pl.b (g1 pl.b)=_;rw[hg];rfl
   ·have aJP:G.news=[]\/∀j,id≠ .new t j:=by
     by_cases hh:G.news=[]
     ·exact .inl hh
     ·exact .inr λj e=>gJ ⟨hh,j,e⟩
    rw[hgS id dg aJP]at hh;have same:∀id,id ∉ ids->∀ver fr c,s.bS id=al (.obj ver fr c)->∀pl,β id=al pl->w'.heap[pl.b]? =w.heap[pl.b]? /\nH g w.heap.size ids t pl.b (g1 pl.b)=g pl.b:=by
     intro id dg ver fr c hh pl QU;obtain⟨hb,aoK⟩:=(h.bM id ver fr c hh).label (pl:=pl) QU;have hb:pl.b < w.heap.size:=hb;have h1:=aiI.wZ pl.b hb;have aH2:idxOf id ids=aJ:=by
      cases hi:idxOf id ids with
      |none=>rfl
      |some k=>exact absurd (c8 (oB hi)) dg
     rcases aoK with⟨k,hk⟩ | ⟨_,hk⟩
     ·have hk:g pl.b= .own (.id id) k:=hk;simp only[hk,nh,aH2]at h1;rw[h1.1];simp only[nH,hb,da];exact⟨h1.2,trivial⟩
     ·have hk:g pl.b= .free:=hk;simp only[hk,nh]at h1;rw[h1.1,hk];exact⟨h1.2,rfl⟩
    have ho:=h.bM id ver fr c hh;refine ho.mono aFG (hβS id dg aJP) (λpl QU=>same id dg ver fr c hh pl QU) λq2 vq k2 v2 l2 NI _=> ?_
    have NI:s.bS q2=al (.obj vq aT (.mp k2 v2 l2)):=NI;have aBw:q2 ∉ ids:=λhm=>by
     have:=Rq q2 hm;have e:s.obj q2=al (vq,aT,.mp k2 v2 l2):=by simp[AS.obj,NI]
     unfold AS.NT at this;rw[e]at this;cases this
    refine⟨⟨k2,v2,l2,?_⟩,λpl QU=>same q2 aBw vq aT _ NI pl QU⟩;show s2.bS q2=_;rw[hgS q2 aBw (B1 q2 (by rw[NI];simp))];exact NI
 have ary:s2.cr=s.cr:=by rw[<-S0,BB,Vu]
 exact⟨g2,β2,h.step ary aFV aFG aFO,Em QS zd⟩
end
end Go.Ab
namespace Go.Ab
theorem rV(s:AS):∀(n:Nat) (todo acc:List Id),acc.Nodup->(s.reach n todo acc).Nodup
 | 0,_,acc,h=>by simpa[AS.reach]using h
 |_+1,[],acc,h=>by simpa[AS.reach]using h
 |n+1,id::todo,acc,h=>by
  rw[AS.reach];split
  ·exact rV s n todo acc h
  ·rename_i hc;refine rV s n _ _ ?_
   rw[List.nodup_append];refine⟨h,by simp,λx hx y hy e=> ?_⟩;simp only[bq]at hy;subst hy e;exact hc (by simpa using hx)
theorem As(s:AS)(vs:List aD):(s.Yp vs).Nodup:=rV s _ _ _ (by simp)
section
variable {P:aN} {C:Ctx} {g:Nat->lQ} {β:Id->Option Pl} {s:AS} {a:Act} {w:bU} {o:Oper}
theorem ac0(h:Inv C g β s a w){ids:List Id}(hn:ids.Nodup)(vy:s.alS ids=aT){G:im}{s':AS}(he:(s.back ids o.dst G).eval=al s'){v:Value}{w':bU}
  (ha:sw ((fT (ids.map (s.mf ids))).env w (λb=>nh ids (g b)) (AD β ids)) G v w'):gT C s' (a.put o.dst v) w':=by
 have hp:∀id∈ids,∃r,s.obj id=al r:=λid dg=>by have:=c7.1 vy id dg;rw[av]at this;exact bA.1 this.1
 have Rq:∀id∈ids,s.NT id=aT:=λid dg=>by have:=c7.1 vy id dg;rw[av]at this;exact this.2
 unfold AS.back at he;cases aFs:o.dst with
 |some t=>
  rw[aFs]at he;obtain⟨hg,he⟩:=aG.1 he;obtain rfl:=ay.1 he;simp only[av,dD,iq]at hg;obtain⟨hl,hg⟩:=hg;have auj:G.news=[]\/s.eB t=aT:=by
   rcases hg with hg | hg
   ·exact .inl (by simpa using hg)
   ·exact .inr hg
  obtain⟨g2,β2,h1,h2⟩:=RO h hn hp Rq hl auj ha;exact⟨g2,β2,h1.put (al t) h2⟩
 |none=>
  rw[aFs]at he;obtain⟨hg,he⟩:=aG.1 he;obtain rfl:=ay.1 he;simp only[av,dD]at hg;obtain⟨hl,hg⟩:=hg;have B1:G.news=[]:=by simpa using hg
  obtain⟨g2,β2,h1,_⟩:=RO (t:=0) h hn hp Rq hl (.inl B1) ha;rw[B1]at h1;exact⟨g2,β2,h1⟩
theorem NA(h:Inv C g β s a w){en:Entry}{ids:List Id}(hn:ids.Nodup){vs:List aD}{ys:List Value}(hv:wL (s.env w g β) vs ys)
  {s':AS} (he:(s.enter en o.dst ids vs).eval=al s'):∃x,en.run (vs.map (aD.iK (s.vN ids))) (ids.map (s.mf ids))=al x/\
   wL ((fT (ids.map (s.mf ids))).env w (λb=>nh ids (g b)) (AD β ids)) (vs.map (aD.iK (s.vN ids))) ys/\
   iP ((fT (ids.map (s.mf ids))).env w (λb=>nh ids (g b)) (AD β ids))/\
   ∀v w',sw ((fT (ids.map (s.mf ids))).env w (λb=>nh ids (g b)) (AD β ids)) (en.out (vs.map (aD.iK (s.vN ids))) (ids.map (s.mf ids)) x) v w'->gT C s' (a.put o.dst v) w':=by
 unfold AS.enter at he;obtain⟨vy,he⟩:=aG.1 he;obtain⟨x,hx,he⟩:=lW.1 he;obtain⟨x0,aDh,he⟩:=ax.1 he;rw[en.amJ _ _ aDh]at he;exact⟨x,hx,wL.iK (aun ids) hv,alL ids hn h.bM,λv w' ha=>ac0 h hn vy he ha⟩
theorem aif(h:Inv C g β s a w){f:fR}{en:Entry}(hd:qU P f en){ids:List Id}(hn:ids.Nodup){vs:List aD}{ys:List Value}(hv:wL (s.env w g β) vs ys)
  (hr:(execOp a.eval o).run P w=(callFunc f ys.toArray).run P w) {s':AS} (he:(s.enter en o.dst ids vs).eval=al s'):fS P o a w (gT C s'):=by
 obtain⟨x,hx,h1,h2,key⟩:=NA h hn hv he;rcases hd _ _ _ _ _ _ _ h1 h2 hx with⟨aix,hc⟩ | ⟨v,w',aG8,ha⟩
 ·exact .inr (.inr (.inl ⟨f,ys.toArray,w,hr.trans aix,hc.mono λe w' ⟨v,he,ha⟩=>⟨v,he,key v w' ha⟩⟩))
 ·exact .inl ⟨v,w',hr.trans aG8,key v w' ha⟩
theorem anN(h:Inv C g β s a w){c:Call}{F:bJ}{f:fR}{caps:aD}{en:Entry}(ho:o.op= .call c)(hc:c.callee= .value F)(hF:s.ev F= .fn f caps)(hd:qU P f en){s':AS}
  (he:(s.call en o.dst (c.args.toList.map s.ev++caps.list)).eval=al s'):fS P o a w (gT C s'):=by
 obtain⟨cal,args,tys⟩:=c;simp only at hc he;subst hc;obtain⟨vs,hy,aEF⟩:=SM (hF▸h.ev F);have Hx:=(h.aGR args.toList).append (Zv aEF);have hr:(execOp a.eval o).run P w=(callFunc f (args.toList.map a.eval++vs).toArray).run P w:=by
  have e1:execOp a.eval o=(do let d <-resolve a.eval {callee:= .value F,args,argTypes:=tys} o.type;invoke d.target d.args):=by simp only[execOp,ho]
  rw[e1];simp only[resolve,hy,Deferred.ofValue,cd,dY,bH,invoke];congr 2;simp
 unfold AS.call at he;obtain⟨r,h1,h2⟩:=ax.1 he;obtain⟨g',i1,e1,_,f1⟩:=fi r.2 h;exact aif i1 hd (As _ _) (BU rfl h.bM e1 _ _ _ r Hx h1 f1) hr h2
theorem Ny{X R:Type}{S:X->Prop}{k:X->Option R}{r:R}(h:QP S k=al r):(∃x,S x)/\∀x,S x->k x=al r:=by
 unfold QP at h;split at h
 ·rename_i hx;obtain rfl:=aO h;exact hx.choose_spec
 ·cases h
theorem O4(h:Inv C g β s a w){f:fR}{en:Entry}(hd:JU P f en){vs:List aD}{ys:List Value}(Hx:wL (s.env w g β) vs ys){R:Type}{k:AS->Option R}{r:R}
  (he:s.adz en o.dst vs k=al r):(callFunc f ys.toArray).run P w= .ok (.enter f ys.toArray) w/\Calls P f ys.toArray w λe w'=>∃v,e= .returned v/\∃s',gT C s' (a.put o.dst v) w'/\k s'=al r:=by
 unfold AS.adz at he;obtain⟨r2,h0,he⟩:=gS.1 he;obtain⟨r3,h1,h3⟩:=ax.1 h0;obtain⟨vy,h3⟩:=aG.1 h3;obtain rfl:=ay.1 h3;obtain⟨g',i1,e1,_,f1⟩:=fi r3.2 h;have hn:=As (s.bp r3.2) r3.1;have hv:=BU rfl h.bM e1 _ _ _ r3 Hx h1 f1;unfold AS.atz at he;obtain⟨hx,hk⟩:=Ny he;obtain⟨c1,c2⟩:=hd _ _ _ _ _ _ (wL.iK (aun _) hv) (alL _ hn i1.bM) hx;refine⟨c1,c2.mono λe w' ⟨v,x,aeA,hs,ha⟩=>⟨v,aeA,?_⟩⟩;obtain⟨s',h4,h5⟩:=gS.1 (hk x hs);obtain⟨x0,aDh,h4⟩:=ax.1 h4;rw[en.amJ _ _ aDh]at h4;exact⟨s',ac0 i1 hn vy h4 ha,h5⟩
theorem ahV(h:Inv C g β s a w){c:Call}{F:bJ}{f:fR}{caps:aD}{en:Entry}(ho:o.op= .call c)(hc:c.callee= .value F)(hF:s.ev F= .fn f caps)(hd:JU P f en){R:Type}{k:AS->Option R}{r:R}
  (he:s.adz en o.dst (c.args.toList.map s.ev++caps.list) k=al r):fS P o a w λa' w'=>∃s',gT C s' a' w'/\k s'=al r:=by
 obtain⟨cal,args,tys⟩:=c;simp only at hc he;subst hc;obtain⟨vs,hy,aEF⟩:=SM (hF▸h.ev F);obtain⟨c1,c2⟩:=O4 h hd ((h.aGR args.toList).append (Zv aEF)) he;refine .inr (.inr (.inl ⟨f,(args.toList.map a.eval++vs).toArray,w,Eq.trans ?_ c1,c2⟩));have e1:execOp a.eval o=(do let d <-resolve a.eval {callee:= .value F,args,argTypes:=tys} o.type;invoke d.target d.args):=by simp only[execOp,ho]
 rw[e1];simp only[resolve,hy,Deferred.ofValue,cd,dY,bH,invoke];congr 2;simp
theorem Ct.aLa{E:Env}{f:aD}{tmps:Array Value}(h:Ct E f tmps):wL E f.list tmps.toList:=by
 obtain⟨h1,h2⟩:=h;have gen:∀(l:List aD) (ys:List Value),l.length=ys.length->(∀i,VS E (l.getD i .undef) (ys.getD i undef))->wL E l ys:=by
  intro l
  induction l with
  |nil=>intro ys hl _;cases ys with
   |nil=>trivial
   |cons _ _=>simp at hl
  |cons x l ih=>intro ys hl hi;cases ys with
   |nil=>simp at hl
   |cons y ys=>exact⟨by simpa using hi 0,ih ys (by simpa using hl) λi=>by simpa using hi (i+1)⟩
 exact gen _ _ (by simpa using h1) λi=>by simpa[cQ,aI]using h2 i
theorem akK(h:Inv C g β s a w){c:Call}{F:bJ}{id:Id}{ver:Nat}{rc:tQ}{f:aD}{en:Entry}(ho:o.op= .call c)(hc:c.callee= .value F)
  (hF:s.yielded (s.ev F) c.args.size=al (id,ver,rc,f)) (aG7:rc=U9 P rc.y) (hd:BK P rc.y en) {s':AS}
  (he:(s.call en o.dst (.yl id ver::(c.args.toList.map s.ev++f.list))).eval=al s'):fS P o a w (gT C s'):=by
 obtain⟨cal,args,tys⟩:=c;simp only at hc he hF;subst hc;unfold AS.yielded at hF;split at hF;rotate_left
 ·cases hF
 rename_i id' ver' aeA;split at hF;rotate_left
 ·cases hF
 rename_i v c0 f0 kk;split at hF;rotate_left
 ·cases hF
 rename_i at5;simp only[az,cM]at hF;obtain⟨rfl,rfl,rfl,rfl⟩:=hF;simp only[av,dD]at at5;obtain⟨⟨rfl,rM⟩,hy⟩:=at5;have cO:=dZ kk;have hv:=h.ev F;rw[aeA]at hv;obtain⟨cs,hV,hO⟩:=hv;simp only[V]at hV;obtain⟨l,rfl,hb,fH⟩:=hV;have aF1:a.eval F= .func (.yield l) #[] #[]:=by simpa[fY,aD.agg]using hO.symm
 obtain⟨pl,hp,rfl⟩:=fH ⟨aR,_,cO⟩;obtain⟨pl',r,hp',hh,hg,⟨q1,q2,q3⟩,ary,nG⟩:=h.bM id' v aR _ cO;have hp':β id'=al pl':=hp';have hp:β id'=al pl:=hp;rw[hp']at hp;obtain rfl:pl'=pl:=by simpa using hp
 have hh:w.heap[pl'.b]? =al (.loop r):=hh
 have Hx:wL (s.env w g β) (.yl id' v::(args.toList.map s.ev++f0.list)) (.func (.yield pl'.b) #[] #[]::(args.toList.map a.eval++r.tmps.toList)):=
  ⟨by rw[<-aF1,<-aeA];exact h.ev F,(h.aGR args.toList).append ary.aLa⟩
 have hr:(execOp a.eval o).run P w= .ok (.round pl'.b r.fn ((c0.ps.zip (args.toList.map a.eval).toArray).foldl (λtmps (t,a)=>tmps.setIfInBounds t a) r.tmps.toList.toArray) c0.as c0.b) w:=by
  have e1:execOp a.eval o=(do let d <-resolve a.eval {callee:= .value F,args,argTypes:=tys} o.type;invoke d.target d.args):=by simp only[execOp,ho]
  have e2:=run_yield (P:=P) (args:=args.map a.eval) hh (by simpa[q1]using rM);rw[q1,q2,q3]at e2;rw[e1];simp only[resolve,aF1,Deferred.ofValue,cd,dY,bH,invoke];have e3:(args.toList.map a.eval).toArray=args.map a.eval:=by apply gr;simp
  rw[e3];simpa using e2
 unfold AS.call at he;obtain⟨r2,h1,h2⟩:=ax.1 he;obtain⟨g',i1,e1,_,f1⟩:=fi r2.2 h;obtain⟨x,hx,k1,k2,key⟩:=NA i1 (As _ _) (BU rfl h.bM e1 _ _ _ r2 Hx h1 f1) h2;refine .inr (.inr (.inr ⟨pl'.b,r.fn,_,c0.as,c0.b,w,hr,λrd n=> ?_⟩));have:=hd.2.1 hy _ _ _ _ _ _ x k1 k2 hx pl'.b (args.toList.map a.eval) r.tmps.toList r.fn rd n rfl (by rw[<-aG7];simpa using rM);rw[<-aG7]at this;exact this.mono λe w' ⟨v,he,ha⟩=>⟨v,he,key v w' ha⟩
end
end Go.Ab
namespace Go.Ab
section
variable {P:aN} {C:Ctx} {g:Nat->lQ} {β:Id->Option Pl} {s:AS} {a:Act} {w:bU} {o:Oper}
theorem jz{b:Builtin}{args:Array bJ}{ts:Array TypeId}{F:TypeId->Array Value->Sem Value}{x:Value}{w':bU}{s':AS}(ho:o.op= .call {callee:= .builtin b,args,argTypes:=ts})
  (hb:∀ty cs xs,builtin b ts ty cs xs=(do pure (.value (<-F ty xs)))) (hf:∀ty,(F ty (args.map a.eval)).run P w= .ok x w') (h2:∃g' β',Inv C g' β' s' (a.put o.dst x) w'):fS P o a w (gT C s'):=by
 refine .inl ⟨x,w',?_,h2⟩;simp only[execOp,ho,resolve,cd,dY,bH,invoke];rw[hb,cd,hf];rfl
theorem ah2(h:Inv C g β s a w){src dst:TypeId}{x:bJ}(ho:o.op= .convert src dst x){id:Id}{ver:Nat}(hx:s.ev x= .ptr id ver [] 0){v:aD}(he:(XT P s src dst id ver).eval=al v):fS P o a w (gT C (s.put o.dst v)):=by
 have hv:=h.ev x;rw[hx]at hv;obtain⟨ad,hy,hb,hc⟩:=tl hv;have fin:v= .ptr id ver [] 0->(convert src dst (a.eval x)).run P w= .ok (a.eval x) w->fS P o a w (gT C (s.put o.dst v)):=by intro h1 h2;subst h1;exact h.value hv (eu (f:=convert src dst (a.eval x)) (by simp only[execOp,ho]) h2)
 unfold XT at he;split at he
 ·rename_i v0 fr e c kk;have cO:=dZ kk;obtain⟨pl',cur,e',hp',hh,hg,hk,hV⟩:=(h.bM id v0 fr _ cO).box rfl;have hk:e'=e:=hk;subst hk;have hV:V (s.env w g β) c (cur.toList.take cur.size):=hV;rw[<-cS,cJ]at hV;have hh:w.heap[pl'.b]? =al (.cells cur e' (0,0)):=hh
  have rM:=hV.size;have rM:cur.toList.length=c.size:=rM;have aiB:w.shape? pl'.b=al (e',c.size):=by simp only[World.shape?,hh];rw[<-rM];simp
  have hp':β id=al pl':=hp';split at he
  ·rename_i t hS hD;obtain⟨h1,h2⟩:=aG.1 he;have h2:=ay.1 h2;simp only[av,dD,ct,gv]at h1;obtain⟨⟨rfl,h3⟩,h4⟩:=h1;obtain⟨pl,hp,rfl⟩:=hc ⟨fr,_,cO⟩;have hp:β id=al pl:=hp;rw[hp']at hp;obtain rfl:pl'=pl:=by simpa using hp
   refine fin h2.symm ?_
   rw[hy];cases hi:P.info? t with
   |none=>exact absurd (by simp[Program.cellsOf,hi]) h3
   |some j=>
    have hj:j.size≠0:=by rw[<-mJ hi]at*;exact h3
    exact Go.Lib.run_to_unsafe w _ hS hD hi hj aiB (by show 0 < c.size;omega)
  ·rename_i u hS hD;obtain⟨h1,h2⟩:=aG.1 he;have h2:=ay.1 h2;simp only[av,dD,ct,gv]at h1;obtain⟨⟨rfl,h3⟩,h4⟩:=h1;obtain⟨pl,hp,rfl⟩:=hc ⟨fr,_,cO⟩;have hp:β id=al pl:=hp;rw[hp']at hp;obtain rfl:pl'=pl:=by simpa using hp
   refine fin h2.symm ?_
   rw[hy];cases hi:P.info? u with
   |none=>exact absurd (by simp[Program.cellsOf,hi]) h3
   |some j=>exact Go.Lib.run_from_unsafe w _ hS hD hi aiB h4
  ·simp only[aw]at he
 ·simp only[aw]at he
theorem atC(h:Inv C g β s a w){T U:TypeId}{op:BinOp}{x y:bJ}(ho:o.op= .binOp op T x y U){i j:Id}{v1 v2:Nat}(hx:s.ev x= .ptr i v1 [] 0)(hy:s.ev y= .ptr j v2 [] 0){v:aD}(he:(aEr P s T op i v1 j v2).eval=al v):
  fS P o a w (gT C (s.put o.dst v)):=by
 unfold aEr at he;split at he
 ·rename_i v' fr c kk;obtain⟨h1,h2⟩:=aG.1 he;simp only[av,dD,aW]at h1;obtain⟨⟨⟨rfl,rfl⟩,rfl⟩,aEA⟩:=h1;have cO:=dZ kk;have S4:=h.ev x;have aBC:=h.ev y;rw[hx]at S4;rw[hy]at aBC;obtain⟨ad,aFf,_,hc⟩:=tl S4;obtain⟨ad',aFg,_,hc'⟩:=tl aBC;obtain⟨pl,hp,rfl⟩:=hc ⟨fr,c,cO⟩;obtain⟨pl',hp',rfl⟩:=hc' ⟨fr,c,cO⟩;rw[hp]at hp';obtain rfl:pl=pl':=by simpa using hp'
  have hT:∃t j,P.underlying T=al (.pointer t)/\P.info? t=al j:=by
   unfold aGm at aEA;split at aEA
   ·rename_i t ht;obtain⟨j,hj⟩:=bA.1 aEA;exact⟨t,j,ht,hj⟩
   ·cases aEA
  obtain⟨t,j,hT,hj⟩:=hT
  have hq:(Op.equal T (.pointer (al ⟨pl.b,0,aJ⟩)) (.pointer (al ⟨pl.b,0,aJ⟩))).run P w= .ok aT w:=
   eI λd=>by simp[dh,run_underlying hT,sizeOf,typeInfo,hj,run_sameAddr_same]
  have aKr:(eqGuard op T x y (a.eval x) (a.eval y)).run P w= .ok () w:=by rw[aFf,aFg];exact nq (by simp) rfl
  have fin:∀z,(binOp op T (a.eval x) (a.eval y)).run P w= .ok z w->VS (s.env w g β) v z->fS P o a w (gT C (s.put o.dst v)):=by
   intro z h1 h3;refine h.value h3 ?_
   simp[execOp,ho,h1,aKr]
  split at h2
  ·obtain rfl:=ay.1 h2;refine fin (.bool aT) ?_ (uv aT)
   rw[aFf,aFg];simp[binOp,hq]
  ·obtain rfl:=ay.1 h2;refine fin (.bool aR) ?_ (uv aR)
   rw[aFf,aFg];simp[binOp,hq]
  ·simp only[aw]at h2
 ·simp only[aw]at he
theorem aBc{c:Call}{b:Builtin}{x:bJ}(hc:c.callee= .builtin b)(ha:c.args.toList=[x]):c= {callee:= .builtin b,args:= #[x],argTypes:=c.argTypes}:=by
 obtain⟨cal,args,tys⟩:=c;simp only at hc ha;have ha':args= #[x]:=by apply gr;simpa using ha
 subst hc ha';rfl
theorem akU{c:Call}{b:Builtin}{x y:bJ}(hc:c.callee= .builtin b)(ha:c.args.toList=[x,y]):c= {callee:= .builtin b,args:= #[x,y],argTypes:=c.argTypes}:=by
 obtain⟨cal,args,tys⟩:=c;simp only at hc ha;have ha':args= #[x,y]:=by apply gr;simpa using ha
 subst hc ha';rfl
theorem aI9{ts:Array TypeId}{T:TypeId}(h:ts.toList=[T]):ts= #[T]:=by apply gr;simpa using h
theorem aD7{ts:Array TypeId}{T U:TypeId}(h:ts.toList=[T,U]):ts= #[T,U]:=by apply gr;simpa using h
theorem asz(h:Inv C g β s a w){c:Call}{x:bJ}{T e:TypeId}(ho:o.op= .call c)(hc:c.callee= .builtin .cap)(ha:c.args.toList=[x])(ht:c.argTypes.toList=[T])(hx:s.ev x= .dI)(hT:P.underlying T=al (.slice e)):
  fS P o a w (gT C (s.put o.dst (.d (.int .i64) (0:Int)))):=by
 rw[aBc hc ha,aI9 ht]at ho;have hv:=h.ev x;rw[hx]at hv;have hy:=kZ hv;refine jz ho (F:=λty xs=>Builtin.cap_ #[T] ty xs) (λty cs xs=>rfl) (x:= .int .i64 0) (w':=w) (λty=> ?_) ⟨g,β,h.put o.dst (lu _ _)⟩;simp[Builtin.cap_,run_underlying hT,hy,goInt]
theorem agx(h:Inv C g β s a w){c:Call}{x:bJ}{id:Id}{ver len:Nat}(ho:o.op= .call c)(hc:c.callee= .builtin .unsafeSliceData)(ha:c.args.toList=[x])(hx:s.ev x= .b8 id ver [] 0 0 len)(hl:0 < len):
  fS P o a w (gT C (s.put o.dst (.ptr id ver [.idx 0] 0))):=by
 rw[aBc hc ha]at ho;have hv:=h.ev x;rw[hx]at hv;obtain⟨ad,cap,hy,KY,hs,hb,fH⟩:=qO hv;obtain⟨ad,rfl⟩:=bA.1 (hs hl);refine jz ho (F:=λty xs=>Builtin.unsafeSliceData_ c.argTypes ty xs) (λty cs xs=>rfl) (x:= .pointer (al ad)) (w':=w) (λty=> ?_) ⟨g,β,h.put o.dst ?_⟩
 ·rw[show(#[x].map a.eval)= #[a.eval x] by simp,hy];exact Go.Lib.run_unsafeSliceData_row w _ _ _ _ _ au
 ·refine⟨[.pointer (al ad)],?_,rfl⟩;simp only[V];refine⟨ad,rfl,hb,λhc=> ?_⟩;have h1:=fH hc;cases hp:(s.env w g β).β id with
  |none=>rw[hp]at h1;simp only at h1;cases h1.1
  |some pl=>
   rw[hp]at h1;simp only at h1;exact⟨pl,rfl,by simpa using h1.1 (.inl hl)⟩
theorem aff(h:Inv C g β s a w){c:Call}{mx:Bool}(ho:o.op= .call c)(hc:c.callee= .builtin (if mx then .max else .min)){v:aD}(he:(apl mx (c.args.toList.map s.ev)).eval=al v):fS P o a w (gT C (s.put o.dst v)):=by
 unfold apl at he;split at he
 ·rename_i k x k' y PA;obtain⟨h1,h2⟩:=aG.1 he;obtain rfl:=ay.1 h2;have h1:k=k':=by simpa using h1
  subst h1;have at3:∃p q,c.args.toList=[p,q]/\s.ev p= .d (.int k) x/\s.ev q= .d (.int k) y:=by
   match hh:c.args.toList,PA with
   |[p,q],PA=>simp only[cn,iT,cz]at PA;exact⟨p,q,rfl,PA.1,PA.2.1⟩
   |[],PA=>simp at PA
   |[_],PA=>simp at PA
   |_::_::_::_,PA=>simp at PA
  obtain⟨p,q,ha,hp,hq⟩:=at3;rw[akU hc ha]at ho;have aDf:=h.ev p;have aBB:=h.ev q;rw[hp]at aDf;rw[hq]at aBB;have ep:=tV aDf;have eq:=tV aBB;cases mx with
  |true=>
   refine jz ho (F:=λty xs=>Builtin.max_ c.argTypes ty xs) (λty cs xs=>rfl) (x:= .int k (if x < y then y else x)) (w':=w) (λty=> ?_) ⟨g,β,h.put o.dst (lu _ _)⟩;rw[show(#[p,q].map a.eval)= #[a.eval p,a.eval q] by simp,ep,eq];simp[Builtin.max_,Builtin.max2]
  |false=>
   refine jz ho (F:=λty xs=>Builtin.min_ c.argTypes ty xs) (λty cs xs=>rfl) (x:= .int k (if y < x then y else x)) (w':=w) (λty=> ?_) ⟨g,β,h.put o.dst (lu _ _)⟩;rw[show(#[p,q].map a.eval)= #[a.eval p,a.eval q] by simp,ep,eq];simp[Builtin.min_,Builtin.min2]
 ·rename_i k x k' y k2 z PA;obtain⟨h1,h2⟩:=aG.1 he;obtain rfl:=ay.1 h2;simp only[av,aW]at h1;obtain⟨rfl,rfl⟩:=h1;have at3:∃p q r,c.args.toList=[p,q,r]/\s.ev p= .d (.int k) x/\s.ev q= .d (.int k) y/\s.ev r= .d (.int k) z:=by
   match hh:c.args.toList,PA with
   |[p,q,r],PA=>simp only[cn,iT,cz]at PA;exact⟨p,q,r,rfl,PA.1,PA.2.1,PA.2.2.1⟩
   |[],PA=>simp at PA
   |[_],PA=>simp at PA
   |[_,_],PA=>simp at PA
   |_::_::_::_::_,PA=>simp at PA
  obtain⟨p,q,r,ha,hp,hq,hr⟩:=at3;have aBn:c= {callee:= .builtin (if mx then .max else .min),args:= #[p,q,r],argTypes:=c.argTypes}:=by
   obtain⟨cal,args,tys⟩:=c;simp only at hc ha;have ha':args= #[p,q,r]:=by apply gr;simpa using ha
   subst hc ha';rfl
  rw[aBn]at ho;have aDf:=h.ev p;have aBB:=h.ev q;have ahb:=h.ev r;rw[hp]at aDf;rw[hq]at aBB;rw[hr]at ahb;have ep:=tV aDf;have eq:=tV aBB;have er:=tV ahb;cases mx with
  |true=>
   refine jz ho (F:=λty xs=>Builtin.max_ c.argTypes ty xs) (λty cs xs=>rfl) (x:= .int k (if(if x < y then y else x) < z then z else(if x < y then y else x))) (w':=w) (λty=> ?_) ⟨g,β,h.put o.dst (lu _ _)⟩;rw[show(#[p,q,r].map a.eval)= #[a.eval p,a.eval q,a.eval r] by simp,ep,eq,er];simp[Builtin.max_,Builtin.max2]
  |false=>
   refine jz ho (F:=λty xs=>Builtin.min_ c.argTypes ty xs) (λty cs xs=>rfl) (x:= .int k (if z < (if y < x then y else x) then z else(if y < x then y else x))) (w':=w) (λty=> ?_) ⟨g,β,h.put o.dst (lu _ _)⟩;rw[show(#[p,q,r].map a.eval)= #[a.eval p,a.eval q,a.eval r] by simp,ep,eq,er];simp[Builtin.min_,Builtin.min2]
 ·simp only[aw]at he
theorem Wj(z:Array Value)(n:Nat):Builtin.zeroCells z n=madeCells z (n*z.size):=rfl
theorem aoC(h:Inv C g β s a w){c:Call}{x y:bJ}{T X:TypeId}{k:kF}{n:Int}(ho:o.op= .call c)(hc:c.callee= .builtin .append)(ha:c.args.toList=[x,y])(ht:c.argTypes.toList=[T,X])(hx:s.ev x= .dI)(hy:s.ev y= .d (.int k) n){s':AS}
  (he:(aev P s o.dst T X n).eval=al s'):fS P o a w (gT C s'):=by
 rw[akU hc ha,aD7 ht]at ho;have S4:=h.ev x;have aBC:=h.ev y;rw[hx]at S4;rw[hy]at aBC;have ex:=kZ S4;have ey:=tV aBC;unfold aev at he;split at he
 ·rename_i e t b q kn G3 hd hX;obtain⟨hT,hz,i,zv,hi,aoJ,aC0,ahd,aoO⟩:=A5 G3;obtain⟨hq,h2⟩:=aG.1 he;obtain⟨h3,h4⟩:=bR.1 h2;obtain rfl:=ay.1 h4;simp only[av,aW,ea]at h3;obtain⟨h5,h7,h8⟩:=h3;obtain⟨m,rfl⟩:=Int.eq_ofNat_of_zero_le (Int.le_of_lt h5);simp only[aa]at h7 h8 ⊢;have aEI:zv.cells.size=t.size:=by have:=(aoO (s.env w g β)).size;simpa using this
  have hr:=λty=>Go.Lib.run_append_nil_zeros (P:=P) w T X ty e i zv k kn hT hX hi ahd m au (by rw[aoJ];exact hz) au (by rw[aC0];omega)
  obtain⟨cap,KY⟩:∃cap,grownCap w m 0 e=cap:=⟨_,rfl⟩;have c1:m<=cap:=by rw[<-KY];exact grownCap_ge _ _ _ _
  have c2:cap<=maxLen:=by rw[<-KY];exact grownCap_le_maxLen _ _ _ _ (by unfold maxLen;omega)
  rw[KY]at hr;obtain⟨cur,fH⟩:∃cur,Builtin.zeroCells zv.cells m++Builtin.zeroCells zv.cells (cap - m)=cur:=⟨_,rfl⟩;rw[fH]at hr;have s1:cur.size=cap*t.size:=by rw[<-fH,Array.size_append,zV,zV,aEI,<-eO];congr 1;omega
  have vy:=tm (aoO (s.env w.drew g β)) m;have s2:cur.toList.take (m*t.size)=(madeCells zv.cells (m*t.size)).toList:=by
   rw[<-fH,bZ,Wj,aEI];have hl:(madeCells zv.cells (m*t.size)).toList.length=m*t.size:=by simp[size_madeCells]
   rw[iW au,bC au]
  obtain⟨g2,β2,i2,M7⟩:=(h.drew).abb hq (e:=e) (l:=ai m t.zero) (cur:=cur) (cap:=cap) hz (by rw[dF,s2];exact vy) s1 (by rw[dF];exact c1) c2;rw[dF]at M7;refine jz ho (F:=λty xs=>Builtin.append_ #[T,X] ty xs) (λty cs xs=>rfl) (λty=> ?_) ⟨g2,β2,i2.put o.dst M7⟩;rw[show(#[x,y].map a.eval)= #[a.eval x,a.eval y] by simp,ex,ey];exact hr ty
 ·simp only[aw]at he
theorem Y4:∀(xs:List Int) (a:Addr) (acc:ByteArray),(∀j x,xs[j]? =al x->w.cell? (a.add j)=al (.int .u8 x))->
  (loadBytes a acc xs.length).run P w= .ok ⟨acc.data++(xs.map λn=>fy n.toNat).toArray⟩ w
 |[],a,acc,_=>by simp[loadBytes]
 |x::l,a,acc,h=>by
  have h0:w.cell? a=al (.int .u8 x):=by have:=h 0 x rfl;simpa[Addr.add]using this
  have ih:=Y4 l (a.add 1) (acc.push x.toNat.toUInt8) (λj y hy=>by
   have:=h (j+1) y (by simpa using hy);have e:(a.add 1).add j=a.add (j+1):=by
    unfold Addr.add;by_cases hj:j=0
    ·subst hj;simp
    ·simp[hj];omega
   rw[e];exact this)
  simp only[aH,loadBytes,cd,run_load,h0,Result.andThen];rw[ih];congr 1;apply ByteArray.ext;simp[ByteArray.push]
theorem aq7(h:Inv C g β s a w){c:Call}{x y:bJ}{T U:TypeId}{id:Id}{ver:Nat}{n:Int}(ho:o.op= .call c)(hc:c.callee= .builtin .unsafeString)(ha:c.args.toList=[x,y])(ht:c.argTypes.toList=[T,U])
  (hx:s.ev x= .ptr id ver [.idx 0] 0) (hy:s.ev y= .d (.int .i64) n) {s':AS} (he:(agL P s o.dst T id ver n).eval=al s'):fS P o a w (gT C s'):=by
 rw[akU hc ha,aD7 ht]at ho;have S4:=h.ev x;rw[hx]at S4;obtain⟨ad,aFf,_,aKj⟩:=tl S4;have aBC:=h.ev y;rw[hy]at aBC;have aFg:=tV aBC;unfold agL at he;split at he
 ·rename_i v e l u kk hT;obtain⟨h1,h2⟩:=aG.1 he;obtain⟨h3,h4⟩:=bR.1 h2;obtain rfl:=ay.1 h4;simp only[av,dD]at h1;obtain⟨⟨rfl,rfl⟩,aCS⟩:=h1;simp only[aW]at h3;obtain⟨h5,h6⟩:=h3;obtain⟨n,rfl⟩:=Int.eq_ofNat_of_zero_le (Int.le_of_lt h5);have h6:n<=(l:List Int).length:=au;have cO:=dZ kk;obtain⟨pl,hp,rfl⟩:=aKj ⟨aR,_,cO⟩;have hp:β id=al pl:=hp;have hO:vi (s.env w g β) id aR (.vec u (.int .u8) l):=h.bM id v aR _ cO;obtain⟨hz,hO⟩:=hO;have hO:(match β id with
   |none=>l=[]
   |some pl=>∃cur k,w.heap[pl.b]? =al (.cells cur u (0,0))/\cur.size=pl.cap*(Ty.int .u8).size/\(l:List Int).length<=pl.cap/\pl.cap<=maxLen/\g pl.b= .own (.id id) k/\
     k<=(l:List Int).length*(Ty.int .u8).size/\(aR=aR->k=0)/\bo (cI (s.env w g β) (.int .u8)) (cur.toList.take ((l:List Int).length*(Ty.int .u8).size)) l):=hO
  rw[hp]at hO;obtain⟨cur,k,q1,q2,q3,q4,q5,q6,q7,q8⟩:=hO;have hk:=q7 rfl;subst hk;have aC7:(Ty.int .u8).size=1:=rfl;rw[aC7,jE]at q2 q8;have Pz:=vn q8;have aiB:w.shape? pl.b=al (u,cur.size):=by simp only[World.shape?,q1]
  have BZ:∀j z,((l:List Int).take n)[j]? =al z->w.cell? ((⟨pl.b,0,aJ⟩:Addr).add j)=al (.int .u8 z):=λj z hj=>by
   rw[db]at hj;split at hj
   ·rename_i aJK;have aC2:j < (l:List Int).length:=au;rw[fC,ba];simp only[eP,q1];have:(cur.toList.take (l:List Int).length)[j]? =al (.int .u8 z):=by rw[Pz,eK,hj];rfl
    rw[db,if_pos aC2]at this;simpa using this
   ·cases hj
  have hlen:((l:List Int).take n).length=n:=by rw[cG];omega
  have aC4:=Y4 (P:=P) (w:=w) ((l:List Int).take n) ⟨pl.b,0,aJ⟩ .empty BZ;rw[hlen]at aC4;have aFH:=Go.Lib.liesAt_bytes (P:=P) (e:=u) (by simpa using aCS) (cur.size / P.cellsOf u) n (by
   rw[show P.cellsOf u=1 by simpa using aCS,Nat.div_one];omega)
  have aFy:∃w',w.freeze ⟨pl.b,0,aJ⟩ n=w'/\w'.os=w.os/\w'.tape=w.tape/\(w'.output=w.output/\w.drawn<=w'.drawn)/\w'.heap.size=w.heap.size/\∀b',b'≠pl.b->w'.heap[b']? =w.heap[b']? :=by refine⟨_,rfl,?_⟩;unfold World.freeze;rw[if_neg au];refine⟨rfl,rfl,⟨rfl,aF _⟩,by simp,λb' hb'=> ?_⟩;simp only[gw];rw[if_neg (λe=>hb' e.symm)]
  obtain⟨w',hw',f1,f2,f3,f4,f5⟩:=aFy;have i1:=h.kill cO q5 f1 f2 f3 f4 f5;have aJv:¬(9223372036854775807:Int) < (n:Int):=by unfold maxLen at q4;omega
  have aIe:¬(n:Int) < 0:=au;have aza:n≠0:=au;have aIb:IntKind.i64.max=9223372036854775807:=rfl;refine jz ho (F:=λty xs=>Builtin.unsafeString_ #[T,U] ty xs) (λty cs xs=>rfl) (x:= .string (fF ((l:List Int).take n))) (w':=w') (λty=> ?_) ⟨_,β,i1.put o.dst ⟨[.string (fF ((l:List Int).take n))],by simp only[V,cI];rfl,rfl⟩⟩;rw[show(#[x,y].map a.eval)= #[a.eval x,a.eval y] by simp,aFf,aFg]
  have aCT:Builtin.unsafeString_ #[T,U] ty #[.pointer (al ⟨pl.b,0,aJ⟩),.int .i64 n]=
    (do
     let n <-Go.asInt (.int .i64 n)
     if n < 0 then runtimePanic (.error "unsafe.String: len out of range")
     if n > IntKind.i64.max then unsupported (.unsafePointer "String: a length above the largest int")
     if n=0 then pure (.string .empty)
     else if <-variablesAt ⟨pl.b,0,aJ⟩ (<-elemOf T) n.toNat then do
      let s <-loadBytes ⟨pl.b,0,aJ⟩ .empty n.toNat
      freeze ⟨pl.b,0,aJ⟩ n.toNat
      pure (.string s)
     else unsupported (.unsafePointer "String: not so many bytes at ptr")):=rfl
  rw[aCT];simp[Go.asInt,asIntOf,aIb,aJv,aIe,aza,variablesAt,aiB,elemOf,run_underlying hT,aFH,aC4,hw',fF]
 ·simp only[aw]at he
end
end Go.Ab
namespace Go.Ab
section
variable {P:aN} {C:Ctx} {g:Nat->lQ} {β:Id->Option Pl} {s:AS} {a:Act} {w:bU} {o:Oper}
theorem afa(h:Inv C g β s a w){c:Call}{T T2:TypeId}{m k:bJ}(dq:o.op= .call c)(hc:c.callee= .builtin .delete)(ha:c.args.toList=[m,k])(ht:c.argTypes.toList=[T,T2]){s':AS}(he:(C7 P s T (s.ev m) (s.ev k)).eval=al s'):fS P o a w (gT C (s'.put o.dst .nil)):=by
 have dq:o.op= .call {callee:= .builtin .delete,args:= #[m,k],argTypes:= #[T,T2]}:=by rw[dq,akU hc ha,aD7 ht]
 unfold C7 at he;split at he
 ·rename_i K V' kt vt id ver hm hx;obtain⟨l,h1,he⟩:=ax.1 he;obtain⟨kx,h2,he⟩:=ax.1 he;obtain⟨aDe,he⟩:=aG.1 he;obtain rfl:=ay.1 he;obtain⟨hT,hK,_⟩:=Au hm;have S4:=h.ev m;rw[hx]at S4;obtain⟨fr,pl,es,clock,g1,g2,g3,g4,g5,g6,g7,gn⟩:=xL h h1 S4;obtain⟨l0,g6,gp⟩:=g6;have Hy:=y7 depth K kt hK;have hk:=Dm (h.ev k) h2;have axQ:=od (P:=P) (w:=w) es.isEmpty depth K kt hK 10000 fb _ _ hk;obtain⟨r,hf,hr⟩:=IX (P:=P) (w:=w) hK hk rfl g6
  have fin:∀(es':Array fU) (clock':Nat),(∀ty,(Builtin.delete_ #[T,T2] ty (#[m,k].map a.eval)).run P w= .ok (.tuple #[]) {w with heap:=w.heap.setIfInBounds pl.b (.map es' clock')})->Alike (Cs (s.env w g β) kt vt) es'.toList (j6 kt kx l0)->nT es'.toList clock'->
    fS P o a w (gT C ((s.aZ id (.obj ver aR (.mp kt vt (j6 kt kx l)))).put o.dst .nil)):=λes' clock' pz at3 aFk=>
   jz (F:=λty xs=>Builtin.delete_ #[T,T2] ty xs) dq (λ_ _ _=>rfl) pz ⟨g,β,(h.awU g1 g2 g4 g5 ⟨_,at3,TN Hy gn gp⟩ (E6 Hy gn) aFk aDe).put o.dst rfl⟩
  cases r with
  |none=>
   simp only at hr;refine fin es clock (λty=> ?_) (by simp only[j6,hr];exact g6) g7;simp[Builtin.delete_,run_underlying hT,g3,Go.MapKept.run_getObj_map g4,axQ,hf,Go.MapKept.run_setObj_map _ g4]
  |some u=>
   obtain⟨j,u⟩:=u;obtain⟨e,m1,m2,rfl⟩:=hr;refine fin (es.eraseIdxIfInBounds j) clock (λty=> ?_) ?_ (by rw[Array.toList_eraseIdxIfInBounds];exact g7.erase j)
   ·simp[Builtin.delete_,run_underlying hT,g3,Go.MapKept.run_getObj_map g4,axQ,hf,Go.MapKept.run_setObj_map _ g4]
   ·simp only[j6,m1,Array.toList_eraseIdxIfInBounds];exact g6.erase j
 ·simp only[aw]at he
theorem Xt{s:AS}{id:Id}{e:dR}{q:Nat}(hq:s.eB q=aT)(gJ:s.bS id≠aJ):(s.aZ id e).eB q=aT:=by
 cases id with
 |bG k=>exact hq
 |new i j=>
  by_cases hi:i=q
  ·subst hi;exact absurd ((ke hq).1 j) gJ
  ·unfold AS.eB AS.aZ;simp only[eF hi];exact hq
theorem U1(h:Inv C g β s a w){T:TypeId}{m:bJ}(dq:o.op= .range T m){s':AS}(he:(Oh P s o.dst T (s.ev m)).eval=al s'):fS P o a w (gT C s'):=by
 unfold Oh at he;split at he
 ·rename_i K V' kt vt id ver q hm hx hd;obtain⟨l,h1,he⟩:=ax.1 he;obtain⟨hq,he⟩:=aG.1 he;obtain rfl:=ay.1 he;rw[av]at hq;obtain⟨hT,_,_⟩:=Au hm;have S4:=h.ev m;rw[hx]at S4;obtain⟨fr,pl,es,clock,g1,g2,g3,g4,g5,g6,g7,gn⟩:=xL h h1 S4;obtain rfl:=zR g1 hq.1;have gJ:s.bS id≠aJ:=by rw[g1];simp
  have aIv:=Trans.refl w g;have aiA:cU (s.env w g β) ((s.aZ id (.obj ver aT (.mp kt vt l))).env w g β):=cU.aZ g1 (aF _) aIv (λ_ _=>rfl) (λ_=>rfl)
  have i0:Inv C g β (s.aZ id (.obj ver aT (.mp kt vt l))) a w:=
   h.step (dv _ _ _) aIv aiA (iP.aZ h.bM gJ aiA (λ_ _=>rfl) (λ_ _ _ _ _ _ _ _=>⟨rfl,rfl⟩) ⟨pl,es,clock,g2,g4,g5,⟨g6.mono aiA.mem,gn⟩,g7⟩ (Lo g1))
  have cO:=eL s id (.obj ver aT (.mp kt vt l)) gJ;have hq':=Xt (e:= .obj ver aT (.mp kt vt l)) hq.2 gJ;generalize aLx:s.aZ id (.obj ver aT (.mp kt vt l))=s0 at i0 cO hq' aiA;have B1:∀j,id≠ .new q j:=λj e=>by rw[e,(ke hq').1 j]at cO;cases cO
  have jb:pl.b < w.heap.size:=(bN.1 g4).1;have ht:=Trans.alloc w g (.mapIter (al pl.b) clock #[] clock) (.own (.id (.new q 0)) 0);obtain⟨h3,h4⟩:=i0.Nl hq' (c:= .qh id (ver+1) kt vt l aJ) (p:=al ⟨w.heap.size,0⟩) ht (λb hb=>⟨ql w _ hb,fG _ _ _ au⟩) (λhE=>
   ⟨⟨w.heap.size,0⟩,pl.b,clock,#[],clock,jX _ _ _,sE w _,fP _ _ _,λvr ahb=>by
    obtain rfl:ver=vr:=au;have hb:(s0.env w g β).DL id ver:=⟨by show s0.bS id≠aJ;rw[cO];simp,λv2 fr2 c2 h2=>by
     have h2:s0.bS id=al (.obj v2 fr2 c2):=h2;rw[cO]at h2;simp only[az,dR.obj.injEq]at h2;omega⟩
    refine⟨hE.DL _ _ hb,λ_=>⟨⟨kt,vt,l,?_⟩,pl,es,clock,?_,rfl,?_,?_,λx hx=>g7.2 x hx,⟨aF _,aF _⟩,g7.1,?_,λx hx=>by cases hx⟩⟩
    ·show(s0.born q _).bS id=_;rw[iZ _ B1];exact cO
    ·show Ge β (.new q 0) _ id=_;rw[zS _ _ _ (B1 0)];exact g2
    ·exact(ql w _ jb).trans g4
    ·show na g w.heap.size _ pl.b=_;rw[fG _ _ _ au];exact g5
    ·have:es.toList.filter (λe=> !(#[]:Array Nat).contains e.born)=es.toList:=jq.2 λx _=>by simp
     rw[this];exact(g6.mono aiA.mem).mono hE.mem⟩)
  refine .inl ⟨.pointer (al ⟨w.heap.size,0,aJ⟩),w.alloc (.mapIter (al pl.b) clock #[] clock),?_,_,_,h3.put o.dst (v:= .ptr (.new q 0) 0 [] 0) ⟨[.pointer (al ⟨w.heap.size,0,aJ⟩)],?_,rfl⟩⟩
  ·refine eu (f:=Instr.range T (a.eval m)) (by simp only[execOp,dq]) ?_
   rw[g3];exact run_range_map w T K V' pl.b es clock hT g4
  ·simp only[V];exact⟨_,rfl,px hq' _ _ _ _,λ_=>⟨_,jX _ _ _,rfl⟩⟩
 ·simp only[aw]at he
theorem acX{Γ:pZ}(hΓ:Sound P Γ){bM:List Nat}(h:Inv C g β s a w){s':AS}(he:(po P Γ bM o s).eval=al s'):fS P o a w (gT C s'):=by
 unfold po at he;split at he
 ·rename_i x dq;obtain rfl:=ay.1 he;exact Yu h (.inl dq)
 ·rename_i x dq;obtain rfl:=ay.1 he;exact Yu h (.inr dq)
 ·rename_i c x y dq;obtain⟨v,h1,h2⟩:=ax.1 he;obtain rfl:=ay.1 h2;exact apX h dq h1
 ·rename_i T dq;split at he
  ·rename_i z q hz hq;obtain⟨h1,h2⟩:=aG.1 he;obtain rfl:=ay.1 h2;simp only[av]at h1;exact ahq h dq h1.1 h1.2
  ·exact(aw.1 he).elim
 ·rename_i T x dq;exact asn h dq he
 ·rename_i T parts dq;exact ahQ h dq he
 ·rename_i T n parts dq;exact QM h dq he
 ·rename_i T x dq;obtain⟨v,h1,h2⟩:=ax.1 he;obtain rfl:=ay.1 h2;exact ao9 h dq h1
 ·rename_i T x v dq;obtain⟨v,h1,h2⟩:=ax.1 he;obtain rfl:=ay.1 h2;exact akn h dq h1
 ·rename_i x dq;exact WM h dq he
 ·rename_i op T x y U dq;split at he
  ·rename_i i v1 j v2 hx hy;obtain⟨v,h1,h2⟩:=ax.1 he;obtain rfl:=ay.1 h2;exact atC h dq hx hy h1
  ·obtain⟨v,h1,h2⟩:=ax.1 he;obtain rfl:=ay.1 h2;exact ahA h dq h1
 ·rename_i op T x dq;obtain⟨v,h1,h2⟩:=ax.1 he;obtain rfl:=ay.1 h2;exact arp h dq h1
 ·rename_i T U x dq;split at he
  ·rename_i id ver len hTU hx;exact ah1 h dq hx he
  ·rename_i id ver hx;obtain⟨v,h1,h2⟩:=ax.1 he;obtain rfl:=ay.1 h2;exact ah2 h dq hx h1
  ·obtain⟨v,h1,h2⟩:=ax.1 he;obtain rfl:=ay.1 h2;exact ZT h dq h1
 ·rename_i T x dq;exact akx h dq he
 ·rename_i f first caps dq
  obtain⟨h1,h2⟩:=aG.1 he;obtain rfl:=ay.1 h2;simp only[av]at h1;exact WG h dq h1.1 h1.2
 ·rename_i T l c dq;obtain⟨n,h1,h2⟩:=ax.1 he;obtain⟨m,h3,h4⟩:=ax.1 h2;exact TG h dq h1 h3 h4
 ·rename_i T x lo hi dq;obtain⟨v,h1,h2⟩:=ax.1 he;obtain rfl:=ay.1 h2;exact Vr h dq (.inl rfl) h1
 ·rename_i T x lo y m dq;obtain⟨v',h0,h8⟩:=ax.1 he;obtain rfl:=ay.1 h8;obtain⟨hv,h1,h2⟩:=ax.1 h0;obtain⟨mv,h3,h4⟩:=ax.1 h2;obtain⟨h5,h6⟩:=bR.1 h4;obtain⟨v,h7,h9⟩:=ax.1 h6;obtain rfl:=ay.1 h9;simp only[aW]at h5;exact Vr h dq (.inr ⟨m,y,hv,mv,rfl,rfl,h1,h3,h5.1,h5.2.1,h5.2.2⟩) h7
 ·rename_i T x f dq;obtain⟨v,h1,h2⟩:=ax.1 he;obtain rfl:=ay.1 h2;exact SL h dq h1
 ·rename_i T x f dq;obtain⟨v,h1,h2⟩:=ax.1 he;obtain rfl:=ay.1 h2;exact ail h dq h1
 ·rename_i T x i dq;obtain⟨n,h0,he⟩:=ax.1 he;obtain⟨v,h1,h2⟩:=ax.1 he;obtain rfl:=ay.1 h2;exact Tc h dq h0 h1
 ·rename_i T x i dq;obtain⟨n,h0,he⟩:=ax.1 he;obtain⟨v,h1,h2⟩:=ax.1 he;obtain rfl:=ay.1 h2;exact aiK h dq h0 h1
 ·rename_i x i dq;obtain⟨v,h1,h2⟩:=ax.1 he;obtain rfl:=ay.1 h2;exact aaq h dq h1
 ·rename_i T dq;exact aa6 h dq he
 ·rename_i T x i ok dq;obtain⟨v,h1,h2⟩:=ax.1 he;obtain rfl:=ay.1 h2;exact ae5 h dq h1
 ·rename_i T m k x dq;obtain⟨s1,h1,h2⟩:=ax.1 he;obtain rfl:=ay.1 h2;exact afc h dq h1
 ·rename_i T m dq;exact U1 h dq he
 ·rename_i c dq;split at he
  ·rename_i hc;split at he
   ·rename_i m k T T2 ha ht;obtain⟨s1,h1,h2⟩:=ax.1 he;obtain rfl:=ay.1 h2;exact afa h dq hc ha ht h1
   ·exact(aw.1 he).elim
  ·rename_i hc;split at he
   ·rename_i x y T X ha ht;exact an1 h dq hc ha ht he
   ·exact(aw.1 he).elim
  ·rename_i hc;split at he
   ·rename_i x T ha ht;obtain⟨v,h1,h2⟩:=ax.1 he;obtain rfl:=ay.1 h2;exact auJ h dq hc ha ht h1
   ·exact(aw.1 he).elim
  ·rename_i hc;split at he
   ·rename_i x y T X ha ht;split at he
    ·rename_i k n hx hy;exact aoC h dq hc ha ht hx hy he
    ·exact acY h dq hc ha ht he
   ·exact(aw.1 he).elim
  ·rename_i hc;split at he
   ·rename_i x T ha ht;split at he
    ·rename_i e hx hT;obtain rfl:=ay.1 he;exact asz h dq hc ha ht hx hT
    ·exact(aw.1 he).elim
   ·exact(aw.1 he).elim
  ·rename_i hc;obtain⟨v,h1,h2⟩:=ax.1 he;obtain rfl:=ay.1 h2;exact aff (mx:=aT) h dq hc h1
  ·rename_i hc;obtain⟨v,h1,h2⟩:=ax.1 he;obtain rfl:=ay.1 h2;exact aff (mx:=aR) h dq hc h1
  ·rename_i hc;split at he
   ·rename_i x ha;split at he
    ·rename_i id ver len hx;obtain⟨h1,h2⟩:=bR.1 he;obtain rfl:=ay.1 h2;exact agx h dq hc ha hx (by simpa using h1)
    ·exact(aw.1 he).elim
   ·exact(aw.1 he).elim
  ·rename_i hc;split at he
   ·rename_i x y T U ha ht;split at he
    ·rename_i id ver n hx hy;exact aq7 h dq hc ha ht hx hy he
    ·exact(aw.1 he).elim
   ·exact(aw.1 he).elim
  ·rename_i F hc;split at he
   ·rename_i f caps hF;split at he
    ·rename_i en aix;obtain⟨jb,he⟩:=aG.1 he;exact anN h dq hc hF ((hΓ f _ en aix).1 jb) he
    ·exact(aw.1 he).elim
   ·exact(aw.1 he).elim
  ·exact(aw.1 he).elim
 ·exact(aw.1 he).elim
end
end Go.Ab
namespace Go.Ab
def qj(P:aN)(ops:Array Oper)(o:Oper)(a:Act)(w:bU)(K:Act->bU->Prop):Prop:=if Region.wanted o (yielded ops a.tmps) then fS P o a w K else K (a.put o.dst undef) w
theorem qj.mono{P:aN}{ops:Array Oper}{o:Oper}{a:Act}{w:bU}{K K':Act->bU->Prop}(h:qj P ops o a w K)(hk:∀a w,K a w->K' a w):qj P ops o a w K':=by
 unfold qj at*;split
 ·rename_i hw;rw[if_pos hw]at h;exact h.mono hk
 ·rename_i hw;rw[if_neg hw]at h;exact hk _ _ h
theorem fS.some{P:aN}{o:Oper}{a:Act}{w:bU}{K:Act->bU->Prop}(h:fS P o a w K):∃a' w',K a' w':=by
 rcases h with⟨x,w',_,h⟩ | ⟨w',_,h⟩ | ⟨f,args,w',_,h⟩ | ⟨l,f,tmps,as,b,w',_,h⟩
 ·exact⟨_,_,h⟩
 ·exact⟨_,_,h⟩
 ·obtain⟨e,w'',_,⟨x,_,hx⟩,_⟩:=h [];exact⟨_,_,hx⟩
 ·obtain⟨e,w'',⟨x,_,hx⟩,_⟩:=(h aJ 0).2 default [] (room_wide _);exact⟨_,_,hx⟩
theorem qj.some{P:aN}{ops:Array Oper}{o:Oper}{a:Act}{w:bU}{K:Act->bU->Prop}(h:qj P ops o a w K):∃a' w',K a' w':=by
 unfold qj at h;split at h
 ·exact h.some
 ·exact⟨_,_,h⟩
theorem qj.wpListIn{r:Option Nat}{n:Nat}{P:aN}{ops:Array Oper}{o:Oper}{a:Act}{w:bU}{Q:Exit->Act->bU->Prop}{l:List Oper}(h:qj P ops o a w (wpListIn (Fr r) n P ops Q l)):Go.wpListIn (Fr r) n P ops Q (o::l) a w:=by
 unfold qj at h;unfold Go.wpListIn;split
 ·rename_i hw;rw[if_pos hw]at h;exact h.wpIn
 ·rename_i hw;rw[if_neg hw]at h;exact⟨λ_ _=>trivial,h⟩
theorem qj.wpOpIn{r:Option Nat}{n:Nat}{P:aN}{ops:Array Oper}{o:Oper}{i:Nat}{a:Act}{w:bU}{Q:Exit->Act->bU->Prop}{K:Act->bU->Prop}(ho:ops[i]? =Option.some o)(h:qj P ops o a w K):Go.wpOpIn (Fr r) n P ops Q i K a w:=by
 unfold qj at h;unfold Go.wpOpIn;simp only[ho];split
 ·rename_i hw;rw[if_pos hw]at h;exact h.wpIn
 ·rename_i hw;rw[if_neg hw]at h;exact⟨λ_ _=>trivial,h⟩
theorem awr{s:AS}{q:Nat}{v:aD}(h:s.slot q=v)(hq:q < s.cr.length):s.put (al q) v=s:=by
 have hv:s.cr[q]=v:=by simpa[AS.slot,aI,hq]using h
 simp only[AS.put];rw[<-hv,gz]
theorem amI{s:AS}{q:Nat}{t:Ty}{x:t.den}(h:s.slot q= .d t x):q < s.cr.length:=by
 rcases ph q s.cr.length with h' | h'
 ·exact h'
 ·simp[AS.slot,aI,dP h']at h
def G1(P:aN)(Γ:pZ)(bM:List Nat)(ops:Array Oper)(o:Oper)(s:AS):Option AS:=
 match o.guard with
 |none=>(po P Γ bM o s).eval
 |some (j,want)=>match(ops[j]?).bind (·.dst) with
  |some q=>match s.slot q with
   | .d .bool b=>if b=want then(po P Γ bM o s).eval else al (s.put o.dst .nil)
   | .nil=>al (s.put o.dst .nil)
   |_=>aJ
  |none=>aJ
theorem aeu{R:Type}{P:aN}{Γ:pZ}{bM:List Nat}{ops:Array Oper}{o:Oper}{s:AS}{k:AS->Option R}{r:R}(h:ay1 P Γ bM ops o s k=al r):∃s',G1 P Γ bM ops o s=al s'/\k s'=al r:=by
 unfold ay1 at h;unfold G1;split at h
 ·rename_i hg;simp only[hg];exact gS.1 h
 ·rename_i j want hg;simp only[hg];split at h
  ·rename_i q hq;simp only[hq];split at h
   ·rename_i b hb;have e:=awr hb (amI hb);simp only[hb];cases want <;> cases b <;> simp only[aS]at h <;> rw[e]at h
    ·obtain⟨s',h1,h2⟩:=gS.1 h;exact⟨s',by simpa using h1,h2⟩
    ·exact⟨_,by simp,h⟩
    ·exact⟨_,by simp,h⟩
    ·obtain⟨s',h1,h2⟩:=gS.1 h;exact⟨s',by simpa using h1,h2⟩
   ·rename_i hb;simp only[hb];exact⟨_,rfl,h⟩
   ·cases h
  ·cases h
section
variable {P:aN} {C:Ctx} {g:Nat->lQ} {β:Id->Option Pl} {s:AS} {a:Act} {w:bU} {o:Oper}
theorem akL(h:Inv C g β s a w){ops:Array Oper}{j q:Nat}{b:Bool}(hq:(ops[j]?).bind (·.dst)=al q)(hb:s.slot q= .d .bool b):yielded ops a.tmps j=al b:=by
 have hv:=h.cr q;rw[hb]at hv;have hv:=Rg hv;have hl:=amI hb;rw[<-h.size]at hl;unfold yielded;rw[hq,Option.bind_some];have:a.tmps[q]? =al (.bool b):=by rw[fA hl];simpa[Array.getD,hl]using hv
 rw[this]
theorem ag9(h:Inv C g β s a w){ops:Array Oper}{j q:Nat}(hq:(ops[j]?).bind (·.dst)=al q)(hb:s.slot q= .nil):yielded ops a.tmps j=aJ:=by
 have hv:=h.cr q;rw[hb]at hv;have hv:a.tmps.getD q undef= .tuple #[]:=hv;unfold yielded;rw[hq,Option.bind_some];split
 ·rename_i b hb;rw[cQ,hb]at hv;cases hv
 ·rfl
theorem Ye{Γ:pZ}(hΓ:Sound P Γ){bM:List Nat}{ops:Array Oper}(h:gT C s a w){s':AS}(he:G1 P Γ bM ops o s=al s'):qj P ops o a w (gT C s'):=by
 obtain⟨g,β,h⟩:=h;unfold G1 at he;unfold qj;split at he
 ·rename_i hg;have:Region.wanted o (yielded ops a.tmps)=aT:=by simp[Region.wanted,hg]
  rw[if_pos this];exact acX hΓ h he
 ·rename_i j want hg;split at he
  ·rename_i q hq;split at he
   ·rename_i b hb;have hy:=akL h hq hb;have hw:Region.wanted o (yielded ops a.tmps)=(b==want):=by simp[Region.wanted,hg,hy]
    rw[hw];by_cases e:b=want
    ·rw[if_pos e]at he;rw[if_pos (by simp[e])];exact acX hΓ h he
    ·rw[if_neg e]at he;rw[if_neg (by simp[e])];simp only[az]at he;subst he;exact⟨g,β,h.put o.dst rfl⟩
   ·rename_i hb;have hy:=ag9 h hq hb;have hw:Region.wanted o (yielded ops a.tmps)=aR:=by simp[Region.wanted,hg,hy]
    rw[hw,if_neg (by simp)];simp only[az]at he;subst he;exact⟨g,β,h.put o.dst rfl⟩
   ·cases he
  ·cases he
theorem aqK{R:Type}{c c':tQ}{x:Option R}{r:R}(h:same c c' x=al r):c=c'/\x=al r:=by
 unfold same at h;split at h
 ·exact⟨‹_›,h⟩
 ·cases h
theorem al2{R:Type}{x y:Option R}{r:R}(h:nd x y=al r):x=al r/\y=al r:=by
 unfold nd at h;split at h
 ·rename_i e;exact⟨h,e▸h⟩
 ·cases h
theorem ajc(h:Inv C g β s a w){x y:bJ}{n:Nat}(hn:Ua s x y=al n){T:TypeId}(hT:xu.isSl P T=aT):∃b,(0 < n->b=aR)/\(Op.equal T (a.eval x) (a.eval y)).run P w= .ok b w/\
  rn (a.eval x)=aR/\a.eval x≠ .nilIface/\∀op,binOp op T (a.eval x) (a.eval y)=(match op with | .eql=>do pure (.bool (<-Op.equal T (a.eval x) (a.eval y))) | .neq=>do pure (.bool (!(<-Op.equal T (a.eval x) (a.eval y)))) | _=>binOp op T (a.eval x) (a.eval y)):=by
 have hx:=h.ev x;have hy:=h.ev y;unfold xu.isSl at hT;split at hT <;> try (cases hT;done)
 rename_i e hU;unfold Ua at hn;split at hn
 ·rename_i t l h1 h2;rw[h1]at hx;rw[h2]at hy;obtain⟨ad,cap,vs,hv,_,hs,_⟩:=tq hx;have M7:=kZ hy;rw[hv,M7];refine⟨ad.isNone,λhp=> ?_,?_,rfl,by simp,λop=>by cases op <;> rfl⟩
  ·obtain rfl:=aO hn;obtain⟨ad',rfl⟩:=bA.1 (hs hp);rfl
  ·cases ad with
   |none=>exact eI λd=>by simp[dh,run_underlying hU]
   |some ad=>exact eI λd=>by simp[dh,run_underlying hU]
 ·rename_i t l h1 h2;rw[h1]at hx;rw[h2]at hy;obtain⟨ad,cap,vs,hv,_,hs,_⟩:=tq hy;have M7:=kZ hx;rw[hv,M7];refine⟨ad.isNone,λhp=> ?_,?_,rfl,by simp,λop=>by cases op <;> rfl⟩
  ·obtain rfl:=aO hn;obtain⟨ad',rfl⟩:=bA.1 (hs hp);rfl
  ·exact eI λd=>by simp[dh,run_underlying hU]
 ·rename_i id ver pp c i len h1 h2;rw[h1]at hx;rw[h2]at hy;obtain⟨ad,cap,hv,_,hs,_⟩:=qO hx;have M7:=kZ hy;rw[hv,M7];refine⟨ad.isNone,λhp=> ?_,?_,rfl,by simp,λop=>by cases op <;> rfl⟩
  ·obtain rfl:=aO hn;obtain⟨ad',rfl⟩:=bA.1 (hs hp);rfl
  ·cases ad with
   |none=>exact eI λd=>by simp[dh,run_underlying hU]
   |some ad=>exact eI λd=>by simp[dh,run_underlying hU]
 ·rename_i id ver pp c i len h1 h2;rw[h1]at hx;rw[h2]at hy;obtain⟨ad,cap,hv,_,hs,_⟩:=qO hy;have M7:=kZ hx;rw[hv,M7];refine⟨ad.isNone,λhp=> ?_,?_,rfl,by simp,λop=>by cases op <;> rfl⟩
  ·obtain rfl:=aO hn;obtain⟨ad',rfl⟩:=bA.1 (hs hp);rfl
  ·exact eI λd=>by simp[dh,run_underlying hU]
 ·cases hn
theorem LF(h:Inv C g β s a w){x y:bJ}{n:Nat}{T U:TypeId}(hn:Ua s x y=al n)(hT:xu.isSl P T=aT):
  (o.op= .binOp .eql T x y U->∃b,(0 < n->b=aR)/\fS P o a w (gT C (s.put o.dst (.d .bool b))))/\(o.op= .binOp .neq T x y U->∃b,(0 < n->b=aT)/\fS P o a w (gT C (s.put o.dst (.d .bool b)))):=by
 obtain⟨b,h1,h2,h3,h4,h5⟩:=ajc (w:=w) h hn hT;have hg:∀op,(eqGuard op T x y (a.eval x) (a.eval y)).run P w= .ok () w:=λop=>nq h4 h3
 refine⟨λho=>⟨b,h1,h.value (uv b) ?_⟩,λho=>⟨!b,λhp=>by rw[h1 hp];rfl,h.value (uv (!b)) ?_⟩⟩
 ·have h6:(binOp .eql T (a.eval x) (a.eval y)).run P w= .ok (.bool b) w:=by rw[h5 .eql];simp[h2]
  simp[execOp,ho,hg,h6]
 ·have h6:(binOp .neq T (a.eval x) (a.eval y)).run P w= .ok (.bool (!b)) w:=by rw[h5 .neq];simp[h2]
  simp[execOp,ho,hg,h6]
theorem MA{R:Type}{c:Bool}{x y:Option R}{r:R}(h:aS c x y=al r):(c=aT/\x=al r)\/(c=aR/\y=al r):=by
 cases c
 ·exact .inr ⟨rfl,h⟩
 ·exact .inl ⟨rfl,h⟩
theorem atr{R:Type}{n:Nat}{k:Nat->Option R}{r:R}(h:acF n k=al r):0 < n/\∀j,j < n->k j=al r:=by
 unfold acF at h;split at h
 ·rename_i hx;obtain rfl:=aO h;exact hx.choose_spec
 ·cases h
theorem aic{R:Type}{n:Nat}{k:Nat->Option R}{x:Option R}(hn:0 < n)(h:∀j,j < n->k j=x):acF n k=x:=by
 unfold acF;cases x with
 |none=>exact Ai λ⟨r,_,hr⟩=>by have:=h 0 hn;rw[hr 0 hn]at this;cases this
 |some r=>
  have hx:∃r,0 < n/\∀j,j < n->k j=al r:=⟨r,hn,h⟩;rw[xq hx];have:=hx.choose_spec.2 0 hn;rw[h 0 hn]at this;exact this.symm
theorem Alike.len{α β:Type}{R:α->β->Prop}:∀ {xs:List α} {ys:List β},Alike R xs ys->xs.length=ys.length
 |[],[],_=>rfl
 |_::_,_::_,⟨_,h⟩=>by simp[h.len]
 |[],_::_,h=>h.elim
 |_::_,[],h=>h.elim
theorem ajv{α:Type}:∀ {xs ys:List α} {i j:Nat} {x:α},xs.Perm ys->xs[i]? =al x->ys[j]? =al x->(xs.eraseIdx i).Perm (ys.eraseIdx j):=by
 have key:∀ {xs:List α} {i:Nat} {x:α},xs[i]? =al x->xs.Perm (x::xs.eraseIdx i):=by
  intro xs
  induction xs with
  |nil=>intro i x h;simp at h
  |cons y xs ih=>
   intro i x h;cases i with
   |zero=>simp at h;subst h;exact nV _
   |succ i=>
    have h:xs[i]? =al x:=by simpa using h
    exact((ih h).cons y).trans (List.Perm.swap x y _)
 intro xs ys i j x hp hi hj;exact((key hi).symm.trans (hp.trans (key hj))).cons_inv
theorem Tn(h:Inv C g β s a w){x:bJ}{t:am1}(ht:s.auw (s.ev x)=al t):
  s.bS t.i=al (.obj t.v t.fr (.qh t.q (t.vr+1) t.kt t.vt t.rest t.cur))/\(∃k v l,s.bS t.q=al (.obj t.vr aT (.mp k v l)))/\
  ∃pl plq since seen c0 es clock,a.eval x= .pointer (al ⟨pl.b,0,aJ⟩)/\β t.i=al pl/\w.heap[pl.b]? =al (.mapIter (al plq.b) since seen c0)/\g pl.b= .own (.id t.i) 0/\
   β t.q=al plq/\w.heap[plq.b]? =al (.map es clock)/\g plq.b= .own (.id t.q) 0/\(∀x∈es.toList,x.born < since)/\(since<=c0/\since<=clock)/\(es.toList.map (·.born)).Nodup/\
   Zu (s.env w g β) t.kt t.vt (es.toList.filter λe=> !seen.contains e.born) t.rest/\
   ∀x,t.cur=al x->∃(e:fU) (seen':Array Nat),e∈es.toList/\seen=seen'.push e.born/\c0=clock/\Cs (s.env w g β) t.kt t.vt e x:=by
 have S4:=h.ev x;generalize s.ev x=y at ht S4;unfold AS.auw at ht;split at ht
 ·rename_i i ver;split at ht
  ·rename_i v fr q vr kt vt rest cur kk;split at ht
   ·rename_i hv hl;obtain rfl:=aO ht;have hv:v=ver:=by simpa using hv
    subst hv;have cO:=dZ kk;unfold AS.ae3 at hl;split at hl
    ·rename_i v2 k2 t2 l2 aIj;have hl:v2=vr:=by simpa using hl
     subst hl;have hq:=dZ aIj;refine⟨cO,⟨_,_,_,hq⟩,?_⟩;obtain⟨pl,mb,since,seen,c0,h1,h2,h3,h4⟩:=h.bM i v fr _ cO;obtain⟨h5,h6⟩:=h4 v2 rfl;obtain⟨_,plq,es,clock,k1,k2,k3,k4,k5,k6,k7,k8,k9⟩:=h6 ⟨_,_,hq⟩;subst k2;obtain⟨ad,m1,m2,m3⟩:=tl S4;obtain⟨pl',m4,rfl⟩:=m3 ⟨_,_,cO⟩;have h1:β i=al pl:=h1;have m4:β i=al pl':=m4;rw[h1]at m4;obtain rfl:pl=pl':=by simpa using m4
     exact⟨pl,plq,since,seen,c0,es,clock,m1,h1,h2,h3,k1,k3,k4,k5,k6,k7,k8,k9⟩
    ·cases hl
   ·cases ht
  ·cases ht
 ·cases ht
theorem Cs.aK8{E:Env}{kt vt:Ty}{e:fU}{x:kt.den×vt.den}(h:Cs E kt vt e x):VS E (.cons (.d kt x.1) (.cons (.d vt x.2) .nil)) (.tuple #[e.key,e.val]):=by obtain⟨⟨c1,a1,b1⟩,c2,a2,b2⟩:=h;refine⟨[e.key,e.val],rfl,?_⟩;simp only[VC];exact⟨_,_,c1,rfl,by simpa only[V]using a1,b1,_,_,c2,rfl,by simpa only[V]using a2,b2,rfl⟩
theorem Cs.aK9{E:Env}{kt vt:Ty}{e:fU}{x:kt.den×vt.den}(h:Cs E kt vt e x):VS E (.cons (.d .bool aT) (.cons (.d kt x.1) (.cons (.d vt x.2) .nil))) (.tuple #[.bool aT,e.key,e.val]):=by obtain⟨⟨c1,a1,b1⟩,c2,a2,b2⟩:=h;refine⟨[.bool aT,e.key,e.val],rfl,?_⟩;simp only[VC];exact⟨_,_,[.bool aT],rfl,by simp only[V,cI],rfl,_,_,c1,rfl,by simpa only[V]using a1,b1,_,_,c2,rfl,by simpa only[V]using a2,b2,rfl⟩
theorem aii(h:Inv C g β s a w){x:bJ}(dq:o.op= .entry x){v:aD}(he:(aih s (s.ev x)).eval=al v):fS P o a w (gT C (s.put o.dst v)):=by
 unfold aih at he;split at he
 ·rename_i i v0 fr q vr kt vt rest c ht;obtain rfl:=ay.1 he;obtain⟨_,_,pl,plq,since,seen,c0,es,clock,m1,m2,m3,_,m5,m6,m7,_,_,m10,_,m12⟩:=Tn h ht;obtain⟨e,seen',n1,rfl,rfl,n4⟩:=m12 c rfl;refine h.value n4.aK8 (eu (f:=Instr.entry (a.eval x)) (by simp only[execOp,dq]) ?_);rw[m1];exact run_entry_at w pl.b plq.b since seen' es _ e m3 m6 n1 m10
 ·simp only[aw]at he
theorem heap_drew{w w1:bU}(hw:w1=w\/w1=w.drew):w1.heap=w.heap/\w1.os=w.os/\w1.tape=w.tape/\(w1.output=w.output/\w.drawn<=w1.drawn):=by
 rcases hw with rfl | rfl
 ·exact⟨rfl,rfl,rfl,rfl,aF _⟩
 ·exact⟨rfl,rfl,rfl,rfl,Nat.le_succ _⟩
theorem Inv.aGs(h:Inv C g β s a w){i q:Id}{v vr:Nat}{fr:Bool}{kt vt:Ty}{rest:List (kt.den×vt.den)}{cur:Option (kt.den×vt.den)}(cO:s.bS i=al (.obj v fr (.qh q (vr+1) kt vt rest cur)))
  {k2 v2:Ty} {l2:List (k2.den×v2.den)} (hq:s.bS q=al (.obj vr aT (.mp k2 v2 l2))) {pl plq:Pl} {m0:Option Nat} {since0 c00:Nat} {seen0:Array Nat} (hp:β i=al pl) (hb:w.heap[pl.b]? =al (.mapIter m0 since0 seen0 c00)) (hg:g pl.b= .own (.id i) 0)
  {w1:bU} (hw:w1=w\/w1=w.drew) {es:Array fU} {clock since c0:Nat} {seen:Array Nat} (aKJ:β q=al plq) (aCQ:w.heap[plq.b]? =al (.map es clock)) (aKs:g plq.b= .own (.id q) 0)
  (h1:∀x∈es.toList,x.born < since) (h2:since<=c0/\since<=clock) (h3:(es.toList.map (·.born)).Nodup) {rest':List (kt.den×vt.den)} {cur':Option (kt.den×vt.den)} (h4:Zu (s.env w g β) kt vt (es.toList.filter λe=> !seen.contains e.born) rest')
  (h5:∀x,cur'=al x->∃(e:fU) (seen':Array Nat),e∈es.toList/\seen=seen'.push e.born/\c0=clock/\Cs (s.env w g β) kt vt e x):
  Inv C g β (s.aZ i (.obj v fr (.qh q (vr+1) kt vt rest' cur'))) a (Go.ChangeMaps.setBlock w1 pl.b (.mapIter (al plq.b) since seen c0))/\
   sC (s.env w g β) ((s.aZ i (.obj v fr (.qh q (vr+1) kt vt rest' cur'))).env (Go.ChangeMaps.setBlock w1 pl.b (.mapIter (al plq.b) since seen c0)) g β):=by
 obtain⟨d1,d2,d3,d4⟩:=heap_drew hw;have jb:pl.b < w.heap.size:=(bN.1 hb).1;have alE:(Go.ChangeMaps.setBlock w1 pl.b (.mapIter (al plq.b) since seen c0)).heap=w.heap.setIfInBounds pl.b (.mapIter (al plq.b) since seen c0):=by show w1.heap.setIfInBounds _ _=_;rw[d1]
 have aBz:(Go.ChangeMaps.setBlock w1 pl.b (.mapIter (al plq.b) since seen c0)).os=w.os/\(Go.ChangeMaps.setBlock w1 pl.b (.mapIter (al plq.b) since seen c0)).tape=w.tape/\((Go.ChangeMaps.setBlock w1 pl.b (.mapIter (al plq.b) since seen c0)).output=w.output/\w.drawn<=(Go.ChangeMaps.setBlock w1 pl.b (.mapIter (al plq.b) since seen c0)).drawn):=⟨d2,d3,d4⟩;generalize Go.ChangeMaps.setBlock w1 pl.b (.mapIter (al plq.b) since seen c0)=w' at alE aBz;have hother:∀b',b'≠pl.b->w'.heap[b']? =w.heap[b']? :=λb' gJ=>by rw[alE,ek,if_neg (λe=>gJ e.symm)]
 have kS:w'.heap[pl.b]? =al (.mapIter (al plq.b) since seen c0):=by rw[alE,ek,if_pos rfl,if_pos jb]
 have ht:Trans w w' g g:=by
  refine⟨aBz.1,aBz.2.1,aBz.2.2,by rw[alE];simp,λb' _=> ?_⟩;by_cases he:b'=pl.b
  ·subst he;rw[hg];exact⟨.inr ⟨i,0,rfl,aF _⟩,λ_ _ hh=>au⟩
  ·rw[hother b' he];cases QR:g b' with
   |free=>exact⟨rfl,rfl⟩
   |own o' k=>cases o' with
    |eM=>exact⟨rfl,rfl⟩
    |id i'=>exact⟨.inr ⟨i',k,rfl,aF _⟩,λoff v _ hv=>by simpa only[eP,hother b' he]using hv⟩
 have hle:cU (s.env w g β) ((s.aZ i (.obj v fr (.qh q (vr+1) kt vt rest' cur'))).env w' g β):=cU.aZ cO (aF _) ht (λ_ _=>rfl) (λ_=>rfl);have aFS:q≠i:=λe=>by rw[e,cO]at hq;cases hq
 have aKI:plq.b≠pl.b:=λe=>by rw[e,hb]at aCQ;cases aCQ
 refine⟨h.step (dv _ _ _) ht hle (iP.aZ h.bM (by rw[cO];simp) hle (λ_ _=>rfl) (λi' ver' fr' c' pl2 hi S0 QT=>⟨hother _ (h.apart hg hi S0 QT),rfl⟩) ?_ (pF cO λ_ _ _ e=>by cases e)),hle.mem⟩;refine⟨pl,plq.b,since,seen,c0,hp,kS,hg,λvr' ahb=> ?_⟩;obtain rfl:vr=vr':=au;have aez:(s.env w g β).DL q vr:=⟨by show s.bS q≠aJ;rw[hq];simp,λv3 fr3 c3 h3=>by
  have h3:s.bS q=al (.obj v3 fr3 c3):=h3;rw[hq]at h3;simp only[az,dR.obj.injEq]at h3;omega⟩
 refine⟨hle.DL _ _ aez,λ_=>⟨⟨k2,v2,l2,?_⟩,plq,es,clock,aKJ,rfl,(hother _ aKI).trans aCQ,aKs,h1,h2,h3,h4.mono hle.mem,λx hx=> ?_⟩⟩
 ·show(s.aZ i _).bS q=_;rw[df s i q _ aFS];exact hq
 ·obtain⟨e,se,a1,a2,a3,a4⟩:=h5 x hx;exact⟨e,se,a1,a2,a3,a4.mono hle.mem⟩
theorem Inv.aBE(h:Inv C g β s a w){i q:Id}{v ver ver':Nat}{fr:Bool}{kt vt:Ty}{rest rest':List (kt.den×vt.den)}{cur cur':Option (kt.den×vt.den)}(cO:s.bS i=al (.obj v fr (.qh q ver kt vt rest cur)))
  (hk:ver'=0\/(ver'=ver/\rest'=rest/\cur'=aJ)):Inv C g β (s.aZ i (.obj v fr (.qh q ver' kt vt rest' cur'))) a w:=by
 have ht:=Trans.refl w g;have hle:cU (s.env w g β) ((s.aZ i (.obj v fr (.qh q ver' kt vt rest' cur'))).env w g β):=cU.aZ cO (aF _) ht (λ_ _=>rfl) (λ_=>rfl);refine h.step (dv _ _ _) ht hle (iP.aZ h.bM (by rw[cO];simp) hle (λ_ _=>rfl) (λ_ _ _ _ _ _ _ _=>⟨rfl,rfl⟩) ?_ (pF cO λ_ _ _ e=>by cases e));obtain⟨pl,mb,since,seen,c0,h1,h2,h3,h4⟩:=h.bM i v fr _ cO;refine⟨pl,mb,since,seen,c0,h1,h2,h3,λvr ahb=> ?_⟩;rcases hk with hk | ⟨rfl,rfl,rfl⟩
 ·omega
 ·obtain⟨h5,h6⟩:=h4 vr ahb;refine⟨hle.DL _ _ h5,λhc=> ?_⟩;obtain⟨c1,_⟩:=hle.cur _ _ h5 hc;obtain⟨⟨k,v1,l,hq⟩,plq,es,clock,k1,k2,k3,k4,k5,k6,k7,k8,_⟩:=h6 c1;have aFS:q≠i:=λe=>by have hq:s.bS q=_:=hq;rw[e,cO]at hq;cases hq
  exact⟨⟨k,v1,l,by show(s.aZ i _).bS q=_;rw[df s i q _ aFS];exact hq⟩,plq,es,clock,k1,k2,k3,k4,k5,k6,k7,k8.mono hle.mem,λx hx=>by cases hx⟩
theorem ajQ{s:AS}{q i:Id}{e:dR}(h:s.U2 q=aR)(hi:s.bS i=al e):e.auy q=aR:=by
 unfold AS.U2 at h;rw[Bool.or_eq_false_iff]at h;cases i with
 |bG k=>simpa using jg.1 h.1 _ (c8 hi)
 |new a b=>
  have hi:(s.news.getD a [])[b]? =al e:=hi
  by_cases ha:a < s.news.length
  ·have h2:(s.news.getD a []).any (dR.auy q)=aR:=by simpa using jg.1 h.2 (s.news.getD a []) (by simp[aI,bQ ha])
   simpa using jg.1 h2 _ (c8 hi)
  ·simp[aI,dP (Nat.le_of_not_lt ha)]at hi
theorem Inv.unlock(h:Inv C g β s a w){q:Id}{vr:Nat}{k v:Ty}{l:List (k.den×v.den)}(cO:s.bS q=al (.obj vr aT (.mp k v l)))(hr:s.U2 q=aR):Inv C g β (s.aZ q (.obj vr aR (.mp k v l))) a w:=by
 have ht:=Trans.refl w g;have hle:cU (s.env w g β) ((s.aZ q (.obj vr aR (.mp k v l))).env w g β):=cU.aZ cO (aF _) ht (λ_ _=>rfl) (λ_=>rfl);refine h.step (dv _ _ _) ht hle λi ver fr c hi=> ?_
 have hi:(s.aZ q (.obj vr aR (.mp k v l))).bS i=al (.obj ver fr c):=hi;by_cases aJI:i=q
 ·subst aJI;rw[eL s i _ (by rw[cO];simp)]at hi;simp only[az,dR.obj.injEq]at hi;obtain⟨rfl,rfl,rfl⟩:=hi;obtain⟨pl,es,clock,h1,h2,h3,h4,h5⟩:=h.bM i vr aT _ cO;exact⟨pl,es,clock,h1,h2,h3,⟨h4.1.mono hle.mem,h4.2⟩,h5⟩
 ·rw[df s q i _ aJI]at hi;refine(h.bM i ver fr c hi).aBL hle rfl (λ_ _=>⟨rfl,rfl⟩) λq2 v2 k2 v3 l2 hc NI _=>⟨⟨k2,v3,l2,?_⟩,λ_ _=>⟨rfl,rfl⟩⟩
  obtain⟨kt,vt,rest,cu,rfl⟩:=hc;have hn:=ajQ hr hi;have gJ:q2≠q:=λe=>by simp[dR.auy,e]at hn
  show(s.aZ q _).bS q2=_;rw[df s q q2 _ gJ];exact NI
theorem aiR{es:List fU}{seen:Array Nat}(hn:(es.map (·.born)).Nodup){j:Nat}{e:fU}(hj:(es.filter λe=> !seen.contains e.born)[j]? =al e):
  es.filter (λx=> !(seen.push e.born).contains x.born)=(es.filter λe=> !seen.contains e.born).eraseIdx j:=by
 have h1:es.filter (λx=> !(seen.push e.born).contains x.born)=(es.filter λe=> !seen.contains e.born).filter λx=>x.born !=e.born:=by
  rw[List.filter_filter];refine List.filter_congr λx _=> ?_
  rw[contains_push];cases seen.contains x.born <;> cases hb:x.born==e.born <;> simp[bne,hb]
 rw[h1];have aBw:((es.filter λe=> !seen.contains e.born).map (·.born)).Nodup:=hn.sublist (List.filter_sublist.map _);generalize es.filter (λe=> !seen.contains e.born)=L at hj aBw
 induction L generalizing j with
 |nil=>simp at hj
 |cons x L ih=>
  rw[cn,dr]at aBw;cases j with
  |zero=>
   simp only[fX,az]at hj;subst hj;have:L.filter (λy=>y.born !=x.born)=L:=jq.2 λy hy=>by
    have:y.born≠x.born:=λe=>aBw.1 (e▸dO.2 ⟨y,hy,rfl⟩)
    simpa using this
   simp[this]
  |succ j=>
   have hj:L[j]? =al e:=by simpa using hj
   have hx:(x.born !=e.born)=aT:=by
    have:x.born≠e.born:=λh=>aBw.1 (h▸dO.2 ⟨e,c8 hj,rfl⟩)
    simpa using this
   rw[List.filter_cons,hx,List.eraseIdx_cons_succ];simp only[da];rw[ih hj aBw.2]
theorem apx(h:Inv C g β s a w){x:bJ}(dq:o.op= .next x aR){t:am1}(ht:s.auw (s.ev x)=al t){R:Type}{k:AS->Option R}{r:R}(he:avb s o.dst t k=al r):
  fS P o a w λa' w'=>∃s',gT C s' a' w'/\k s'=al r:=by
 obtain⟨hi,⟨k2,v2,l2,hq⟩,pl,plq,since,seen,c0,es,clock,m1,m2,m3,m4,m5,m6,m7,m8,m9,m10,m11,_⟩:=Tn h ht;have hex:∀ {y:Value} {w':bU},(Instr.next (a.eval x) aR o.type).run P w= .ok y w'->(execOp a.eval o).run P w= .ok (.value y) w':=λhr=>
  eu (f:=Instr.next (a.eval x) aR o.type) (by simp only[execOp,dq]) hr
 have Rq:(leftOf es seen).toList=es.toList.filter λe=> !seen.contains e.born:=by unfold leftOf;rw[Array.toList_filter]
 obtain⟨l',m11,aeC⟩:=m11;have hlen:=m11.len;rw[aeC.length_eq]at hlen;rw[<-Rq,cS]at hlen;unfold avb at he;rcases run_next_at (P:=P) w o.type pl.b plq.b since c0 seen es clock m3 m6 m8 m9.1 with⟨h0,pz⟩ | ⟨e,aEv,w1,hw,pz⟩
 ·rcases MA he with⟨hc,_⟩ | ⟨_,he⟩
  ·have:0 < t.rest.length:=by simpa using hc
   omega
  ·unfold AS.az1 at he;have i1:=h.aBE (rest':=[]) (cur':=aJ) hi (.inl rfl);have aFS:t.q≠t.i:=λe=>by rw[e,hi]at hq;simp at hq
   have aEB:(s.aZ t.i (.obj t.v t.fr (.qh t.q 0 t.kt t.vt [] aJ))).bS t.q=al (.obj t.vr aT (.mp k2 v2 l2)):=by rw[df s t.i t.q _ aFS];exact hq
   generalize s.aZ t.i (.obj t.v t.fr (.qh t.q 0 t.kt t.vt [] aJ))=s1 at he i1 aEB;cases hr:s1.U2 t.q with
   |true=>rw[hr]at he;cases he
   |false=>
    rw[hr]at he;simp only at he;have aKR:s1.unlock t.q=s1.aZ t.q (.obj t.vr aR (.mp k2 v2 l2)):=by simp only[AS.unlock,AS.obj,aEB]
    rw[aKR]at he;rw[<-m1]at pz;refine .inl ⟨_,w,hex pz,_,⟨g,β,(i1.unlock aEB hr).put o.dst (v:= .cons (.d .bool aR) .nil) ⟨[.bool aR],rfl,?_⟩⟩,he⟩;simp only[VC];exact⟨_,_,[.bool aR],rfl,by simp only[V,cI],rfl,rfl⟩
 ·rcases MA he with⟨hc,he⟩ | ⟨hc,_⟩
  ·obtain⟨_,hd⟩:=atr he;rw[Rq]at aEv;obtain⟨i,ay7⟩:=List.getElem?_of_mem aEv;obtain⟨y,aF1,aEH⟩:=m11.get ay7;obtain⟨j,hj⟩:=List.getElem?_of_mem (aeC.mem_iff.1 (c8 aF1));have aC2:j < t.rest.length:=(dN.1 hj).1;have hy:pH t.kt t.vt t.rest j=y:=by simp[pH,aI,hj]
   have vy:e∈es.toList:=(nb.1 aEv).1;have i1:=h.aGs (rest':=t.rest.eraseIdx j) (cur':=al (pH t.kt t.vt t.rest j)) (since:=since) (c0:=clock) (seen:=seen.push e.born) hi hq m2 m3 m4 hw m5 m6 m7 m8 ⟨m9.2,m9.2⟩ m10 ?_ ?_
   rotate_left
   ·rw[aiR m10 ay7];exact⟨_,m11.erase i,ajv aeC aF1 hj⟩
   ·intro z hz;obtain rfl:=aO hz;exact⟨e,seen,vy,rfl,rfl,by rw[hy];exact aEH⟩
   rw[<-m1]at pz;have hVS:=(hy▸aEH:Cs (s.env w g β) t.kt t.vt e (pH t.kt t.vt t.rest j));refine .inl ⟨_,_,hex pz,_,⟨g,β,i1.1.put o.dst (v:= .cons (.d .bool aT) (.cons (.d t.kt (pH t.kt t.vt t.rest j).1) (.cons (.d t.vt (pH t.kt t.vt t.rest j).2) .nil))) ?_⟩,hd j aC2⟩;exact Cs.aK9 (hVS.mono i1.2)
  ·have hc:¬0 < t.rest.length:=by simpa using hc
   have:0 < (leftOf es seen).toList.length:=List.length_pos_of_mem aEv;rw[cS]at this;omega
theorem aoB{Γ:pZ}(hΓ:Sound P Γ){bM:List Nat}{ops:Array Oper}{R:Type}{k:AS->Option R}{r:R}(h:gT C s a w)(he:ay2 P Γ bM ops o s k=al r):
  qj P ops o a w λa' w'=>∃s',gT C s' a' w'/\k s'=al r:=by
 have plain:ay1 P Γ bM ops o s k=al r->qj P ops o a w λa' w'=>∃s',gT C s' a' w'/\k s'=al r:=λhe=>by obtain⟨s1,h1,h2⟩:=aeu he;exact(Ye hΓ h h1).mono λa' w' hs=>⟨s1,hs,h2⟩
 have stepK:∀(hg:o.guard=aJ),(fS P o a w λa' w'=>∃s',gT C s' a' w'/\k s'=al r)->qj P ops o a w λa' w'=>∃s',gT C s' a' w'/\k s'=al r:=λhg hr=>by
  unfold qj;have:Region.wanted o (yielded ops a.tmps)=aT:=by simp[Region.wanted,hg]
  rw[if_pos this];exact hr
 have step:∀(hg:o.guard=aJ) (b:Bool),fS P o a w (gT C (s.put o.dst (.d .bool b)))->k (s.put o.dst (.d .bool b))=al r->qj P ops o a w λa' w'=>∃s',gT C s' a' w'/\k s'=al r:=λhg b hr hk=>by
  unfold qj;have:Region.wanted o (yielded ops a.tmps)=aT:=by simp[Region.wanted,hg]
  rw[if_pos this];exact hr.mono λa' w' hs=>⟨_,hs,hk⟩
 unfold ay2 at he;split at he
 ·rename_i T x y U hg ho;split at he
  ·rename_i n hn hT;obtain⟨g,β,hi⟩:=h;obtain⟨b,hb,hr⟩:=(LF (o:=o) (U:=U) hi hn hT).1 ho;refine step hg b hr ?_
   rcases MA he with⟨hc,hk⟩ | ⟨_,hk⟩
   ·rw[hb (by simpa using hc)];exact hk
   ·obtain⟨k1,k2⟩:=al2 hk;cases b
    ·exact k2
    ·exact k1
  ·exact plain he
 ·rename_i T x y U hg ho;split at he
  ·rename_i n hn hT;obtain⟨g,β,hi⟩:=h;obtain⟨b,hb,hr⟩:=(LF (o:=o) (U:=U) hi hn hT).2 ho;refine step hg b hr ?_
   rcases MA he with⟨hc,hk⟩ | ⟨_,hk⟩
   ·rw[hb (by simpa using hc)];exact hk
   ·obtain⟨k1,k2⟩:=al2 hk;cases b
    ·exact k2
    ·exact k1
  ·exact plain he
 ·rename_i T m hg ho;obtain⟨s1,h1,h2⟩:=gS.1 he;obtain⟨g,β,hi⟩:=h;exact stepK hg ((U1 hi ho h1).mono λ_ _ hs=>⟨_,hs,h2⟩)
 ·rename_i x hg ho;obtain⟨s1,h1,h2⟩:=gS.1 he;obtain⟨v,h3,h4⟩:=ax.1 h1;obtain rfl:=ay.1 h4;obtain⟨g,β,hi⟩:=h;exact stepK hg ((aii hi ho h3).mono λ_ _ hs=>⟨_,hs,h2⟩)
 ·rename_i x hg ho;split at he
  ·rename_i t ht;obtain⟨g,β,hi⟩:=h;exact stepK hg (apx hi ho ht he)
  ·cases he
 ·rename_i c hg ho;split at he
  ·rename_i F hc;split at he
   ·rename_i id ver rc f hF;split at he
    ·rename_i en aix;obtain⟨aG7,he⟩:=aqK he;obtain⟨s1,h1,h2⟩:=gS.1 he;obtain⟨g,β,hi⟩:=h;exact stepK hg ((akK hi ho hc hF aG7 (hΓ _ _ en aix) h1).mono λ_ _ hs=>⟨_,hs,h2⟩)
    ·cases he
   ·split at he
    ·rename_i en vs hr;unfold aBV at hr;split at hr;rotate_left
     ·cases hr
     rename_i f caps hF;split at hr;rotate_left
     ·cases hr
     rename_i en' aix;split at hr;rotate_left
     ·cases hr
     rename_i at5;rw[av]at at5;simp only[az,cM]at hr;obtain⟨rfl,rfl⟩:=hr;obtain⟨g,β,hi⟩:=h;exact stepK hg (ahV hi ho hc hF ((hΓ _ _ _ aix).2.2 at5.2) he)
    ·exact plain he
  ·exact plain he
 ·exact plain he
theorem Ps{rd:Option Nat}{n:Nat}{Γ:pZ}(hΓ:Sound P Γ){bM:List Nat}{ops:Array Oper}{R:Type}{Q:Exit->Act->bU->Prop}:∀(l:List Oper) {s:AS} {a:Act} {w:bU} {k:AS->Option R} {r:R},gT C s a w->ay3 P Γ bM ops l s k=al r->
  (∀s' a' w',gT C s' a' w'->k s'=al r->Q .normal a' w')->wpListIn (Fr rd) n P ops Q l a w
 |[],s,a,w,k,r,h,he,hk=>hk s a w h he
 |o::l,s,a,w,k,r,h,he,hk=>by have he:ay2 P Γ bM ops o s (λs'=>s'.seen λs'=>ay3 P Γ bM ops l s' k)=al r:=he;simp only[AS.Mz]at he;exact((aoB hΓ h he).mono λa' w' ⟨s',hs,h2⟩=>Ps hΓ l hs h2 hk).wpListIn
end
end Go.Ab
namespace Go.Ab
theorem AS.atE{s t:AS}(h1:s.cr=t.cr)(h2:s.news.length=t.news.length)(h3:∀id,s.bS id=t.bS id):s=t:=by
 obtain⟨a,b,c⟩:=s;obtain⟨a',b',c'⟩:=t;simp only at h1 h2;subst h1;have hb:b=b':=kH λk=>h3 (.bG k)
 subst hb;have hc:c=c':=by apply pb h2;intro i h h';apply kH;intro j;have:=h3 (.new i j);simpa[AS.bS,aI,h,h']using this
 rw[hc]
def dR.acJ:dR->dR->Prop
 | .obj v _ c,.obj v' _ c'=>v=v'/\c=c'
 | .dead,.dead=>True
 |_,_=>False
def ym:Option dR->Option dR->Prop
 |some a,al b=>a.acJ b
 |none,aJ=>True
 |_,_=>False
def dR.aly:dR->dR
 | .obj v _ c=> .obj v aT c
 | .dead=> .dead
theorem dR.aw0(a:dR):a.acJ a:=by cases a <;> simp[dR.acJ]
theorem aqN(a:Option dR):ym a a:=by cases a <;> simp[ym,dR.aw0]
theorem aqM(a:Option dR):ym (a.map dR.aly) a:=by
 cases a with
 |none=>trivial
 |some x=>cases x <;> simp[ym,dR.acJ,dR.aly]
theorem dR.ayY(a:dR):a.aly.aly=a.aly:=by cases a <;> rfl
structure l7(f:Ek)(s t:AS):Prop where
 cr:∀i∈f.cr,t.slot i=s.slot i
 ws:∀id∈f.ws,t.bS id=s.bS id
 rs:∀id∈f.rs,ym (t.bS id) (s.bS id)
 eB:∀q,f.dst=al q->t.eB q=s.eB q
structure aEm where
 v:aD
 up:Id->Option dR
 fz:List Id
structure App(d:Option Tmp)(E:aEm)(s s':AS):Prop where
 cr:s'.cr=(s.put d E.v).cr
 len:s'.news.length=s.news.length
 bS:∀id,s'.bS id=match E.up id with | some e=>al e | none=>if id∈E.fz then(s.bS id).map dR.aly else s.bS id
theorem App.aCx{d:Option Tmp}{E:aEm}{s s1 s2:AS}(h1:App d E s s1)(h2:App d E s s2):s1=s2:=
 AS.atE (by rw[h1.cr,h2.cr]) (by rw[h1.len,h2.len]) λid=>by rw[h1.bS,h2.bS]
structure Zx(f:Ek)(s:AS)(E:aEm):Prop where
 up:∀id e,E.up id=al e->(id∈f.ws/\s.bS id≠aJ)\/∃q j,f.dst=al q/\id= .new q j
 fz:∀id∈E.fz,id∈f.rs
theorem I8(s:AS)(id:Id)(e:dR):(s.aZ id e).news.length=s.news.length:=by cases id <;> simp[AS.aZ]
theorem Ww(s:AS)(id i:Id):(s.freeze id).bS i=if i=id then(s.bS i).map dR.aly else s.bS i:=by
 unfold AS.freeze;cases hs:s.bS id with
 |none=>
  by_cases hi:i=id
  ·subst hi;simp[hs]
  ·simp[hi]
 |some e=>
  cases e with
  |dead=>
   by_cases hi:i=id
   ·subst hi;simp[hs,dR.aly]
   ·simp[hi]
  |obj v fr c=>
   simp only;by_cases hi:i=id
   ·subst hi;rw[eL s i _ (by rw[hs];simp)];simp[hs,dR.aly]
   ·rw[df s id i _ hi];simp[hi]
theorem fO(i:Id):∀(ids:List Id) (s:AS),(s.bp ids).bS i=if i∈ids then(s.bS i).map dR.aly else s.bS i
 |[],s=>by simp[AS.bp]
 |id::ids,s=>by
  rw[AS.bp,fO i ids,Ww];by_cases h1:i=id
  ·subst h1;by_cases h2:i∈ids
   ·simp[h2,Option.map_map,Function.comp_def,dR.ayY]
   ·simp[h2]
  ·simp[h1]
theorem aiS(s:AS)(id:Id):(s.freeze id).news.length=s.news.length:=by
 unfold AS.freeze;split
 ·exact I8 _ _ _
 ·rfl
theorem qq:∀(ids:List Id) (s:AS),(s.bp ids).news.length=s.news.length
 |[],_=>rfl
 |id::ids,s=>by rw[AS.bp,qq ids,aiS]
theorem zT{s:AS}{q:Nat}:s.eB q=aT↔q < s.news.length/\∀j,s.bS (.new q j)=aJ:=by
 refine⟨λh=>⟨(ke h).2,(ke h).1⟩,λ⟨h1,h2⟩=> ?_⟩;unfold AS.eB;rw[bQ h1];have h0:=h2 0;simp only[AS.bS,aI,bQ h1,dB]at h0;cases hh:s.news[q]with
 |nil=>rfl
 |cons x xs=>rw[hh]at h0;simp at h0
theorem App.ND(d:Option Tmp)(v:aD)(ids:List Id)(s:AS):App d ⟨v,λ_=>aJ,ids⟩ s ((s.bp ids).put d v):=by
 refine⟨?_,?_,λid=> ?_⟩
 ·cases d <;> simp[AS.put,nk]
 ·cases d <;> simp[AS.put,qq]
 ·rw[Gz,fO]
theorem App.GI(d:Option Tmp)(v:aD)(s:AS):App d ⟨v,λ_=>aJ,[]⟩ s (s.put d v):=App.ND d v [] s
def Nn(q:Nat)(es:List dR):Id->Option dR
 | .new i j=>if i=q then es[j]? else aJ
 | .bG _=>aJ
theorem aty(s:AS){q:Nat}(hq:q < s.news.length)(es:List dR)(id:Id):(s.born q es).bS id=match id with | .new i j=>if i=q then es[j]? else s.bS (.new i j) | .bG k=>s.bS (.bG k):=by
 cases id with
 |bG k=>rfl
 |new i j=>
  simp only;by_cases h:i=q
  ·subst h;rw[if_pos rfl];exact xt hq _ j
  ·rw[if_neg h];exact iZ _ λj' e=>by simp only[Id.new.injEq]at e;exact h e.1
theorem App.ala{s:AS}{q:Nat}(hv:s.eB q=aT)(v:aD)(ids:List Id)(es:List dR):App (al q) ⟨v,Nn q es,ids⟩ s (((s.bp ids).born q es).put (al q) v):=by
 obtain⟨h1,h2⟩:=zT.1 hv;refine⟨?_,?_,λid=> ?_⟩
 ·simp[AS.put,nk]
 ·simp[AS.put,AS.born,qq]
 ·rw[Gz,aty _ (by rw[qq];exact h1)];cases id with
  |bG k=>simp only[Nn];exact fO _ _ _
  |new i j=>
   simp only[Nn];by_cases h:i=q
   ·subst h;rw[if_pos rfl];cases he:es[j]? with
    |none=>simp[h2]
    |some e=>simp
   ·rw[if_neg h];simp only[if_neg h];exact fO _ _ _
theorem App.awV{s:AS}{id:Id}{e0:dR}(hs:s.bS id=al e0)(d:Option Tmp)(v:aD)(e:dR):App d ⟨v,λi=>if i=id then al e else aJ,[]⟩ s ((s.aZ id e).put d v):=by
 refine⟨?_,?_,λi=> ?_⟩
 ·cases d <;> simp[AS.put]
 ·cases d <;> simp[AS.put,I8]
 ·rw[Gz];by_cases hi:i=id
  ·subst hi;rw[eL s i _ (by rw[hs];simp)];simp
  ·rw[df s id i _ hi];simp[hi]
section
variable {P:aN} {Γ:pZ} {bM:List Nat} {ops:Array Oper} {o:Oper} {s t:AS}
def JW(P:aN)(Γ:pZ)(bM:List Nat)(ops:Array Oper)(o:Oper)(s s':AS):Prop:=∃E,App o.dst E s s'/\Zx (gN Γ ops s o) s E/\∀t,l7 (gN Γ ops s o) s t->∃t',(po P Γ bM o t).eval=al t'/\App o.dst E t t'
theorem PL{xs:Array bJ}{i:Nat}(h:Operand.tmp i∈xs.toList):i∈RB xs:=by unfold RB;exact List.mem_filterMap.2 ⟨_,h,rfl⟩
theorem l7.ev(h:l7 (gN Γ ops s o) s t){x:bJ}(hx:x∈o.op.operands.toList):t.ev x=s.ev x:=by
 cases x with
 |tmp i=>exact h.cr i (bD.2 (.inl (PL hx)))
 |_=>rfl
theorem afs(v:Value):(ofConst v).ids=[]:=by unfold ofConst;split <;> rfl
theorem YE{o:Oper}{x:Op}(h:o.op=x)(hx:Yt x=aR):Yt o.op=aR:=by rw[h];exact hx
theorem I3(hn:Yt o.op=aR){x:bJ}(hx:x∈o.op.operands.toList){id:Id}(dg:id∈(s.ev x).ids):id∈(gN Γ ops s o).rs:=by
 refine bD.2 (.inl ?_);unfold afu;rw[hn];cases x with
 |tmp i=>exact iN.2 ⟨i,PL hx,dg⟩
 |const v=>simp[AS.ev,afs]at dg
 |global _=>simp[AS.ev,aD.ids]at dg
 |func f=>simp[AS.ev,aD.ids]at dg
theorem l7.acJ(h:l7 (gN Γ ops s o) s t)(hn:Yt o.op=aR){x:bJ}(hx:x∈o.op.operands.toList){id:Id}(dg:id∈(s.ev x).ids):ym (t.bS id) (s.bS id):=h.rs id (I3 hn hx dg)
theorem MC{id:Id}(h:ym (t.bS id) (s.bS id)):(t.obj id=aJ/\s.obj id=aJ)\/∃v f f' c,t.obj id=al (v,f,c)/\s.obj id=al (v,f',c):=by
 unfold AS.obj
 revert h
 cases t.bS id with
 |none=>cases s.bS id with
  |none=>intro _;simp
  |some b=>intro h;exact h.elim
 |some a=>cases s.bS id with
  |none=>intro h;exact h.elim
  |some b=>cases a <;> cases b <;> intro h <;> first
    |exact h.elim
    | (left;exact⟨rfl,rfl⟩)
    | (obtain⟨rfl,rfl⟩:=h;right;exact⟨_,_,_,_,rfl,rfl⟩)
theorem Ox{id:Id}(h:ym (t.bS id) (s.bS id))(ver:Nat)(p:List GZ):t.row id ver p=s.row id ver p:=by unfold AS.row;rcases MC h with⟨h1,h2⟩ | ⟨v,f,f',c,h1,h2⟩ <;> rw[h1,h2]
theorem oW:∀(v:aD) (ty:Ty),(∀id∈v.ids,ym (t.bS id) (s.bS id))->t.iL ty v=s.iL ty v
 | .b8 id ver p c i len,ty,h=>by
  cases ty <;> first
   |rfl
   | (simp only[AS.iL];rw[Ox (h id (by simp[aD.ids]))])
 | .pr a b,ty,h=>by
  cases ty <;> first
   |rfl
   | (simp only[AS.iL];rw[oW a _ λid dg=>h id (by simp[aD.ids,dg]),oW b _ λid dg=>h id (by simp[aD.ids,dg])])
 | .undef,ty,_ | .gone,ty,_ | .dI,ty,_ | .j7,ty,_ | .vF,ty,_ | .Bd,ty,_ | .d _ _,ty,_ | .ptr ..,ty,_ | .eN ..,ty,_ | .fn ..,ty,_ | .cons ..,ty,_ | .nil,ty,_ | .vec ..,ty,_ | .bx ..,ty,_ | .cP ..,ty,_ | .mp ..,ty,_ | .qh ..,ty,_ | .yl ..,ty,_ | .yH ..,ty,_ | .sb _,ty,_=>by cases ty <;> simp only[AS.iL]
theorem um:∀(v:aD),∀id∈v.shared,id∈v.ids
 | .b8 ..,id,h=>by simpa[aD.shared,aD.ids]using h
 | .pr a b,id,h=>by
  simp only[aD.shared,bD,aD.ids]at h ⊢;rcases h with h | h
  ·exact .inl (um a id h)
  ·exact .inr (um b id h)
 | .undef,_,h | .gone,_,h | .dI,_,h | .j7,_,h | .vF,_,h | .Bd,_,h | .d _ _,_,h | .ptr ..,_,h | .eN ..,_,h | .fn ..,_,h | .cons ..,_,h | .nil,_,h | .vec ..,_,h | .bx ..,_,h | .cP ..,_,h | .mp ..,_,h | .qh ..,_,h | .yl ..,_,h | .yH ..,_,h | .sb _,_,h=>by simp[aD.shared]at h
theorem ae2{T:TypeId}{x:aD}(h:∀id∈x.ids,ym (t.bS id) (s.bS id)):Lp P t T x=Lp P s T x:=by
 unfold Lp;split
 ·rename_i id ver p n;rcases MC (h id (by simp[aD.ids])) with⟨h1,h2⟩ | ⟨v,f,f',c,h1,h2⟩ <;> rw[h1,h2]
 ·rfl
 ·rfl
 ·rfl
 ·rfl
theorem ZH{n:Nat}{lo hi:Option bJ}(hl:∀x,lo=al x->t.ev x=s.ev x)(hh:∀x,hi=al x->t.ev x=s.ev x):bounds t n lo hi=bounds s n lo hi:=by
 unfold bounds
 cases lo <;> cases hi <;> simp only[] <;> first
  |rfl
  | (rw[hl _ rfl,hh _ rfl])
  |rw[hl _ rfl]
  |rw[hh _ rfl]
theorem MG{T:TypeId}{x:aD}{lo hi:Option bJ}(h:∀id∈x.ids,ym (t.bS id) (s.bS id))(hl:∀x,lo=al x->t.ev x=s.ev x)(hh:∀x,hi=al x->t.ev x=s.ev x):
  FP P t T x lo hi=FP P s T x lo hi:=by
 have hb:∀n,bounds t n lo hi=bounds s n lo hi:=λn=>ZH hl hh
 unfold FP
 split <;> first
  |rfl
  | (rw[Ox (h _ (by simp[aD.ids]))];simp only[hb];done)
  | (simp only[hb];done)
theorem W9{T:TypeId}{x:aD}{lo:Option bJ}{y m:bJ}(h:∀id∈x.ids,ym (t.bS id) (s.bS id))(hl:∀x,lo=al x->t.ev x=s.ev x)(hh:t.ev y=s.ev y)(hm:t.ev m=s.ev m):
  MF P t T x lo y m=MF P s T x lo y m:=by
 unfold MF;rw[hh,hm,MG h hl λz hz=>by obtain rfl:=aO hz;exact hh]
theorem NP{T:TypeId}{x:aD}{i:Int}(h:∀id∈x.ids,ym (t.bS id) (s.bS id)):rk P t T x i=rk P s T x i:=by
 unfold rk
 split <;> first
  |rfl
  |rw[Ox (h _ (by simp[aD.ids]))]
theorem adE{obj:Bool}{src dst:TypeId}{x:aD}(h:∀id∈x.ids,ym (t.bS id) (s.bS id)):XS P t obj src dst x=XS P s obj src dst x:=by
 unfold XS;split
 ·rfl
 ·unfold asU
  split <;> first
   |rfl
   | (simp only[AS.ajt,oW _ _ h])
theorem aok{T:TypeId}{op:BinOp}{i:Id}{v:Nat}{j:Id}{w:Nat}(h:ym (t.bS i) (s.bS i)):aEr P t T op i v j w=aEr P s T op i v j w:=by unfold aEr;rcases MC h with⟨h1,h2⟩ | ⟨v,f,f',c,h1,h2⟩ <;> rw[h1,h2]
theorem adG{src dst:TypeId}{id:Id}{ver:Nat}(h:ym (t.bS id) (s.bS id)):XT P t src dst id ver=XT P s src dst id ver:=by
 unfold XT;rcases MC h with⟨h1,h2⟩ | ⟨v,f,f',c,h1,h2⟩
 ·rw[h1,h2]
 ·rw[h1,h2]
  cases c <;> first
   |rfl
   | (rename_i e z c;cases z <;> rfl)
theorem zG{ty:Ty}:∀(ps:List (Nat×bJ)) (l:List ty.den),(∀x∈ps,t.ev x.2=s.ev x.2/\∀id∈(s.ev x.2).ids,ym (t.bS id) (s.bS id))->js ty t ps l=js ty s ps l
 |[],_,_=>rfl
 | (i,x)::ps,l,h=>by obtain⟨h1,h2⟩:=h (i,x) (aL ..);simp only[js];simp only at h1 h2;rw[h1,oW _ _ h2];congr 2;funext y;rw[zG ps _ λz hz=>h z (aK _ hz)]
theorem wo{ty:Ty}:∀(ps:List (Nat×bJ)) (l:List ty.den) (r:List ty.den×List Id),(js ty s ps l).eval=al r->∀id∈r.2,∃x∈ps,id∈(s.ev x.2).ids
 |[],l,r,h,id,dg=>by obtain rfl:=ay.1 h;cases dg
 | (i,x)::ps,l,r,h,id,dg=>by
  simp only[js]at h;obtain⟨h1,h2⟩:=aG.1 h;obtain⟨y,h3,h4⟩:=ax.1 h2;obtain⟨r',h5,h6⟩:=ax.1 h4;obtain rfl:=ay.1 h6;rcases bD.1 dg with dg | dg
  ·exact⟨(i,x),aL ..,um _ _ dg⟩
  ·obtain⟨z,hz,La⟩:=wo ps _ r' h5 id dg;exact⟨z,aK _ hz,La⟩
theorem DY{fs:Array Field}:∀(ps:List (Nat×bJ)) (v:aD),(∀x∈ps,t.ev x.2=s.ev x.2)->pO P fs t ps v=pO P fs s ps v
 |[],_,_=>rfl
 | (i,x)::ps,v,h=>by
  have h1:=h (i,x) (aL ..);simp only at h1;simp only[pO,h1];have ih:∀v,pO P fs t ps v=pO P fs s ps v:=λv=>DY ps v λz hz=>h z (aK _ hz)
  simp only[ih]
theorem Kl:∀(l:List bJ),(∀x∈l,t.ev x=s.ev x)->q9 t l=q9 s l
 |[],_=>rfl
 |x::l,h=>by simp only[q9];rw[h x (aL ..),Kl l λy hy=>h y (aK _ hy)]
theorem PQ{ty:Ty}{X:TypeId}{x:aD}(h:∀id∈x.ids,ym (t.bS id) (s.bS id)):E5 P t ty X x=E5 P s ty X x:=by
 unfold E5;split
 ·rfl
 ·simp only[AS.ajt,oW _ _ h]
theorem kU{v:aD}(h:∀t,l7 (gN Γ ops s o) s t->(po P Γ bM o t).eval=al (t.put o.dst v)):JW P Γ bM ops o s (s.put o.dst v):=
 ⟨⟨v,λ_=>aJ,[]⟩,App.GI _ _ _,⟨λ_ _ h=>by simp at h,λ_ h=>by simp at h⟩,λt ht=>⟨_,h t ht,App.GI _ _ _⟩⟩
theorem nM{F:AS->Out aD}(ho:∀t,po P Γ bM o t=(F t).bind λv=> .ok (t.put o.dst v))(hF:∀t,l7 (gN Γ ops s o) s t->F t=F s){s':AS}(he:(po P Γ bM o s).eval=al s'):JW P Γ bM ops o s s':=by
 rw[ho]at he;obtain⟨v,h1,h2⟩:=ax.1 he;obtain rfl:=ay.1 h2;refine kU λt ht=> ?_
 rw[ho,hF t ht,ax];exact⟨v,h1,rfl⟩
theorem Rv{v:aD}{ids:List Id}(hi:∀id∈ids,id∈(gN Γ ops s o).rs)(h:∀t,l7 (gN Γ ops s o) s t->(po P Γ bM o t).eval=al ((t.bp ids).put o.dst v)):JW P Γ bM ops o s ((s.bp ids).put o.dst v):=
 ⟨⟨v,λ_=>aJ,ids⟩,App.ND _ _ _ _,⟨λ_ _ h=>by simp at h,hi⟩,λt ht=>⟨_,h t ht,App.ND _ _ _ _⟩⟩
theorem vC{v:aD}{ids:List Id}{q:Nat}{es:List dR}(hd:o.dst=al q)(hv:s.eB q=aT)(hi:∀id∈ids,id∈(gN Γ ops s o).rs)
  (h:∀t,l7 (gN Γ ops s o) s t->t.eB q=aT->(po P Γ bM o t).eval=al (((t.bp ids).born q es).put o.dst v)):JW P Γ bM ops o s (((s.bp ids).born q es).put o.dst v):=by
 refine⟨⟨v,Nn q es,ids⟩,by rw[hd];exact App.ala hv _ _ _,⟨λid e h=> .inr ?_,hi⟩,λt ht=> ?_⟩
 ·cases id with
  |bG _=>simp[Nn]at h
  |new i j=>
   simp only[Nn]at h;split at h
   ·rename_i hq;exact⟨q,j,hd,by rw[hq]⟩
   ·cases h
 ·have hv':t.eB q=aT:=by rw[ht.eB q hd];exact hv
  exact⟨_,h t ht hv',by rw[hd];exact App.ala hv' _ _ _⟩
theorem C2{v:aD}{id:Id}{e0 e:dR}(hs:s.bS id=al e0)(hw:id∈(gN Γ ops s o).ws)(h:∀t,l7 (gN Γ ops s o) s t->t.bS id=s.bS id->(po P Γ bM o t).eval=al ((t.aZ id e).put o.dst v)):
  JW P Γ bM ops o s ((s.aZ id e).put o.dst v):=by
 refine⟨⟨v,λi=>if i=id then al e else aJ,[]⟩,App.awV hs _ _ _,⟨λi e' h=> .inl ?_,λ_ h=>by simp at h⟩,λt ht=> ?_⟩
 ·simp only at h;split at h
  ·rename_i hi;subst hi;exact⟨hw,by rw[hs];simp⟩
  ·cases h
 ·have:=ht.ws id hw;exact⟨_,h t ht this,App.awV (this.trans hs) _ _ _⟩
end
end Go.Ab
namespace Go.Ab
section
variable {P:aN} {Γ:pZ} {bM:List Nat} {ops:Array Oper} {o:Oper} {s t:AS}
theorem ab4{T:TypeId}{x v:aD}{s':AS}(h:(FR P s T x v).eval=al s'):
  ∃id e0 e,x.ids=[id]/\s.bS id=al e0/\s'=s.aZ id e/\∀t:AS,t.bS id=s.bS id->(FR P t T x v).eval=al (t.aZ id e):=by
 unfold FR at h;split at h
 ·rename_i id ver p n;cases kk:s.obj id with
  |none=>rw[kk]at h;simp only[aw]at h
  |some r=>
   obtain⟨ve,fr,c⟩:=r;rw[kk]at h;obtain⟨h1,h2⟩:=aG.1 h;obtain⟨r,h3,h4⟩:=ax.1 h2;obtain⟨h5,h6⟩:=aG.1 h4;obtain⟨h7,h8⟩:=bR.1 h6;obtain⟨c',h9,aFb⟩:=ax.1 h8;obtain rfl:=ay.1 aFb;refine⟨id,_,_,rfl,dZ kk,rfl,λt ht=> ?_⟩;have hob':t.obj id=al (ve,fr,c):=by simp only[AS.obj,ht];exact kk
   unfold FR;simp only[hob'];exact aG.2 ⟨h1,ax.2 ⟨r,h3,aG.2 ⟨h5,bR.2 ⟨h7,ax.2 ⟨c',h9,ay.2 rfl⟩⟩⟩⟩⟩
 ·simp only[aw]at h
theorem ah3{c:Call}{x y:bJ}{T X:TypeId}(dq:o.op= .call c)(hc:c.callee= .builtin .copy)(ha:c.args.toList=[x,y])(ht:c.argTypes.toList=[T,X]){s':AS}
  (he:(Sd P s o.dst T X (s.ev x) (s.ev y)).eval=al s'):JW P Γ bM ops o s s':=by
 have Yi:∀t:AS,po P Γ bM o t=Sd P t o.dst T X (t.ev x) (t.ev y):=λt=>by unfold po;rw[dq];simp only[hc,ha,ht]
 have sS:∀z,z=x\/z=y->z∈o.op.operands.toList:=λz hz=>by rw[dq];simp only[bY,ej,hc,aV,bZ,ha];simpa using hz
 have hx:∀t,l7 (gN Γ ops s o) s t->t.ev x=s.ev x:=λt h=>h.ev (sS x (.inl rfl))
 have hy:∀t,l7 (gN Γ ops s o) s t->t.ev y=s.ev y:=λt h=>h.ev (sS y (.inr rfl))
 have hm:∀t,l7 (gN Γ ops s o) s t->∀ty,E5 P t ty X (s.ev y)=E5 P s ty X (s.ev y):=λt h ty=>PQ λid dg=>h.acJ (YE dq rfl) (sS y (.inr rfl)) dg
 unfold Sd at he;split at he
 ·rename_i e t b id ver len G3 ahc;obtain⟨m,h1,he⟩:=ax.1 he;split at he
  ·rename_i ve n t' l kk;obtain⟨h2,Ej⟩:=aG.1 he;obtain⟨l',h3,Wk⟩:=ax.1 Ej;obtain⟨h4,aEu⟩:=bR.1 Wk;obtain rfl:=ay.1 aEu;have hw:id∈(gN Γ ops s o).ws:=by show id∈writes Γ s o;unfold writes;rw[dq];simp only[hc,ha,ahc];simp[aD.ids]
   refine C2 (dZ kk) hw λt ht aeK=> ?_
   rw[Yi t,hx t ht,hy t ht];have hob':t.obj id=al (ve,aR,.d (.arr n t') l):=by simp only[AS.obj,aeK];exact kk
   unfold Sd;simp only[G3,ahc];refine ax.2 ⟨m,by rw[hm t ht];exact h1,?_⟩;simp only[hob'];exact aG.2 ⟨h2,ax.2 ⟨l',h3,bR.2 ⟨h4,ay.2 rfl⟩⟩⟩
  ·exact(aw.1 he).elim
 ·exact(aw.1 he).elim
theorem ZA{c:Call}{x y:bJ}{T X:TypeId}(dq:o.op= .call c)(hc:c.callee= .builtin .append)(ha:c.args.toList=[x,y])(ht:c.argTypes.toList=[T,X])(gJ:∀k n,s.ev x= .dI->s.ev y= .d (.int k) n->False){s':AS}
  (he:(wM P s (aoW bM o.dst) (aiL bM o.dst) o.dst T X (s.ev x) (s.ev y)).eval=al s'):JW P Γ bM ops o s s':=by
 have Yi:∀t:AS,t.ev x=s.ev x->t.ev y=s.ev y->po P Γ bM o t=wM P t (aoW bM o.dst) (aiL bM o.dst) o.dst T X (t.ev x) (t.ev y):=λt e1 e2=>by
  unfold po;rw[dq];simp only[hc,ha,ht];split
  ·rename_i k n hx hy;rw[e1]at hx;rw[e2]at hy;exact(gJ k n hx hy).elim
  ·rfl
 have sS:∀z,z=x\/z=y->z∈o.op.operands.toList:=λz hz=>by rw[dq];simp only[bY,ej,hc,aV,bZ,ha];simpa using hz
 have hx:∀t,l7 (gN Γ ops s o) s t->t.ev x=s.ev x:=λt h=>h.ev (sS x (.inl rfl))
 have hy:∀t,l7 (gN Γ ops s o) s t->t.ev y=s.ev y:=λt h=>h.ev (sS y (.inr rfl))
 have hm:∀t,l7 (gN Γ ops s o) s t->∀ty,E5 P t ty X (s.ev y)=E5 P s ty X (s.ev y):=λt h ty=>PQ λid dg=>h.acJ (YE dq rfl) (sS y (.inr rfl)) dg
 unfold wM at he;split at he
 ·rename_i e ty b q G3 hd;obtain⟨m,h1,h2⟩:=ax.1 he;split at h2
  ·rename_i aFN;cases aEt:aiL bM o.dst with
   |true=>
    rw[aEt]at h2;simp only at h2;obtain⟨h5,h6⟩:=bR.1 h2;obtain rfl:=ay.1 h6;refine kU λt ht=> ?_
    rw[Yi t (hx t ht) (hy t ht),hx t ht,hy t ht];unfold wM;simp only[hd]at aEt G3 ⊢;simp only[G3,aFN,aEt];refine ax.2 ⟨m,by rw[hm t ht];exact h1,?_⟩;exact bR.2 ⟨h5,ay.2 rfl⟩
   |false=>
   rw[aEt]at h2;simp only at h2;obtain⟨h3,h4⟩:=aG.1 h2;obtain⟨h5,h6⟩:=bR.1 h4;obtain rfl:=ay.1 h6;refine vC (ids:=[]) hd h3 (λ_ h=>by cases h) λt ht hv=> ?_
   rw[Yi t (hx t ht) (hy t ht),hx t ht,hy t ht];unfold wM;simp only[hd]at aEt G3 ⊢;simp only[G3,aFN,aEt];refine ax.2 ⟨m,by rw[hm t ht];exact h1,?_⟩;exact aG.2 ⟨hv,bR.2 ⟨h5,ay.2 rfl⟩⟩
  ·rename_i id ver len aFN;split at h2
   ·rename_i v fr e' t' l kk;obtain⟨h3,h4⟩:=aG.1 h2;obtain⟨l',h5,h6⟩:=ax.1 h4;obtain⟨h7,h8⟩:=bR.1 h6;obtain⟨h9,aFb⟩:=bR.1 h8;obtain⟨aKf,aoE⟩:=bR.1 aFb;obtain rfl:=ay.1 aoE;have hw:id∈(gN Γ ops s o).ws:=by show id∈writes Γ s o;unfold writes;rw[dq];simp only[hc,ha,aFN];simp[aD.ids]
    refine C2 (dZ kk) hw λt ht aeK=> ?_
    rw[Yi t (hx t ht) (hy t ht),hx t ht,hy t ht];have hob':t.obj id=al (v,fr,.vec e' t' l):=by simp only[AS.obj,aeK];exact kk
    unfold wM;simp only[hd]at G3 ⊢;simp only[G3,aFN];refine ax.2 ⟨m,by rw[hm t ht];exact h1,?_⟩;simp only[hob'];exact aG.2 ⟨h3,ax.2 ⟨l',h5,bR.2 ⟨h7,bR.2 ⟨h9,bR.2 ⟨aKf,ay.2 rfl⟩⟩⟩⟩⟩
   ·simp only[aw]at h2
  ·simp only[aw]at h2
 ·simp only[aw]at he
theorem Oi:∀(n:Nat) (todo acc:List Id),∀id∈acc,id∈s.reach n todo acc
 | 0,_,_,id,h=>h
 |_+1,[],_,id,h=>h
 |n+1,x::todo,acc,id,h=>by
  rw[AS.reach];split
  ·exact Oi n todo acc id h
  ·exact Oi n _ _ id (bD.2 (.inl h))
theorem vL:∀(n:Nat) (todo acc:List Id),(∀id∈s.reach n todo acc,((t.bS id).getD .dead).ids=((s.bS id).getD .dead).ids)->t.reach n todo acc=s.reach n todo acc
 | 0,_,_,_=>rfl
 |_+1,[],_,_=>rfl
 |n+1,x::todo,acc,h=>by
  rw[AS.reach]at h;rw[AS.reach,AS.reach];split
  ·rename_i hc;rw[if_pos hc]at h;exact vL n todo acc h
  ·rename_i hc;rw[if_neg hc]at h;have hx:=h x (Oi n _ _ x (bD.2 (.inr (bq.2 rfl))));rw[hx];exact vL n _ _ h
theorem azr(e:Option dR):((e.map dR.aly).getD .dead).ids=(e.getD .dead).ids:=by
 cases e with
 |none=>rfl
 |some x=>cases x <;> rfl
theorem Q7(ids:List Id)(n:Nat)(todo acc:List Id):(s.bp ids).reach n todo acc=s.reach n todo acc:=by
 refine vL n todo acc λid _=> ?_
 rw[fO];split
 ·exact azr _
 ·rfl
theorem Iy:∀(ps:List (Option Ty)) (vs:List aD),(∀v∈vs,∀id∈v.ids,ym (t.bS id) (s.bS id))->t.conv ps vs=s.conv ps vs
 |[],[],_=>rfl
 |[],_::_,_=>rfl
 |some _::_,[],_=>rfl
 |none::_,[],_=>rfl
 |some ty::ps,v::vs,h=>by simp only[AS.conv];rw[oW v ty (h v (aL ..)),Iy ps vs λx hx=>h x (aK _ hx)]
 |none::ps,v::vs,h=>by simp only[AS.conv];rw[Iy ps vs λx hx=>h x (aK _ hx)]
theorem Iz:∀(ps:List (Option Ty)) (vs:List aD) (r:List aD×List Id),(s.conv ps vs).eval=al r->r.1.flatMap aD.ids=uI ps vs/\∀id∈r.2,∃v∈vs,id∈v.ids
 |[],[],r,h=>by simp only[AS.conv,ay]at h;subst h;exact⟨rfl,λ_ h=>by cases h⟩
 |some ty::ps,v::vs,r,h=>by
  simp only[AS.conv]at h;obtain⟨x,h1,h2⟩:=ax.1 h;obtain⟨r',h3,h4⟩:=ax.1 h2;obtain rfl:=ay.1 h4;obtain⟨i1,i2⟩:=Iz ps vs r' h3;refine⟨by simp[uI,i1,aD.ids],λid dg=> ?_⟩;rcases bD.1 dg with dg | dg
  ·exact⟨v,aL ..,um v id dg⟩
  ·obtain⟨u,hu,acI⟩:=i2 id dg;exact⟨u,aK _ hu,acI⟩
 |none::ps,v::vs,r,h=>by simp only[AS.conv]at h;obtain⟨r',h3,h4⟩:=ax.1 h;obtain rfl:=ay.1 h4;obtain⟨i1,i2⟩:=Iz ps vs r' h3;refine⟨by simp[uI,i1],λid dg=> ?_⟩;obtain⟨u,hu,acI⟩:=i2 id dg;exact⟨u,aK _ hu,acI⟩
 |[],_::_,_,h=>by simp only[AS.conv,aw]at h
 |some _::_,[],_,h=>by simp only[AS.conv,aw]at h
 |none::_,[],_,h=>by simp only[AS.conv,aw]at h
theorem ae1:∀(c:aD),∀v∈c.list,∀id∈v.ids,id∈c.ids
 | .cons a b,v,hv,id,dg=>by
  simp only[aD.list,cg]at hv;simp only[aD.ids,bD];rcases hv with rfl | hv
  ·exact .inl dg
  ·exact .inr (ae1 b v hv id dg)
 | .sb _,_,h,_,_ | .undef,_,h,_,_ | .gone,_,h,_,_ | .dI,_,h,_,_ | .j7,_,h,_,_ | .vF,_,h,_,_ | .Bd,_,h,_,_ | .d _ _,_,h,_,_ | .ptr ..,_,h,_,_ | .eN ..,_,h,_,_
 | .fn ..,_,h,_,_ | .pr ..,_,h,_,_ | .nil,_,h,_,_ | .vec ..,_,h,_,_ | .bx ..,_,h,_,_ | .cP ..,_,h,_,_ | .mp ..,_,h,_,_ | .qh ..,_,h,_,_ | .yl ..,_,h,_,_ | .yH ..,_,h,_,_ | .b8 ..,_,h,_,_=>by simp[aD.list]at h
theorem Qr{ids:List Id}(h:∀id∈ids,t.bS id=s.bS id):t.vN ids=s.vN ids:=by
 funext id ver;unfold AS.vN;cases hi:idxOf id ids with
 |none=>rfl
 |some k=>
  have:t.obj id=s.obj id:=by simp only[AS.obj,h id (c8 (oB hi))]
  rw[this]
theorem QL{id:Id}(h:t.bS id=s.bS id):t.AT id=s.AT id:=by simp only[AS.AT,AS.obj,h]
theorem Mi{ids:List Id}(h:∀id∈ids,t.bS id=s.bS id)(q:Nat):t.ui ids q=s.ui ids q:=by
 funext id ver;cases id with
 |new i j=>rfl
 |bG k=>
  simp only[AS.ui];cases hk:ids[k]? with
  |none=>rfl
  |some id=>simp only[QL (h id (c8 hk))]
theorem KR{ids:List Id}(h:∀id∈ids,t.bS id=s.bS id)(q b:Nat):t.ri ids q b=s.ri ids q b:=by funext e;cases e <;> simp only[AS.ri,Mi h]
theorem aee{ids:List Id}(h:∀id∈ids,t.bS id=s.bS id){id:Id}(dg:id∈ids):t.mf ids id=s.mf ids id:=by unfold AS.mf;rw[h id dg,Qr h]
def nF(s:AS)(ids:List Id)(d:Option Tmp)(G:im):AS:=(AS.jD s ids (d.getD 0) (s.made ids (d.getD 0) G.news) ids G.cj).put d (G.val.iK (s.ui ids (d.getD 0)))
theorem XD{ids:List Id}{d:Option Tmp}{G:im}{s':AS}:(s.back ids d G).eval=al s'↔(G.cj.length=ids.length/\(G.news=[]\/∃q,d=al q/\s.eB q=aT))/\s'=nF s ids d G:=by
 unfold AS.back;cases d with
 |none=>
  rw[aG,ay];simp only[av,dD,List.isEmpty_iff,nF,AS.put,Option.getD_none];constructor
  ·rintro⟨⟨h1,h2⟩,rfl⟩;rw[h2];exact⟨⟨h1,.inl rfl⟩,rfl⟩
  ·rintro⟨⟨h1,h2⟩,rfl⟩;rcases h2 with h2 | ⟨q,hq,_⟩
   ·rw[h2];exact⟨⟨h1,rfl⟩,rfl⟩
   ·cases hq
 |some q=>
  rw[aG,ay];simp only[av,dD,iq,List.isEmpty_iff,nF,dB];constructor
  ·rintro⟨⟨h1,h2⟩,rfl⟩;exact⟨⟨h1,h2.imp id λh=>⟨q,rfl,h⟩⟩,rfl⟩
  ·rintro⟨⟨h1,h2⟩,rfl⟩;refine⟨⟨h1,h2.imp id λ⟨q',hq,h⟩=> ?_⟩,rfl⟩;obtain rfl:q=q':=by simpa using hq
   exact h
theorem PD(s0:AS)(all:List Id)(q:Nat):∀(ids:List Id) (es:List dR) (s:AS),(AS.jD s0 all q s ids es).news.length=s.news.length
 |[],_,_=>by simp[AS.jD]
 |_::_,[],_=>by simp[AS.jD]
 |id::ids,e::es,s=>by rw[AS.jD,PD s0 all q ids es,I8]
theorem auI(s:AS)(ids:List Id)(q:Nat)(es:List dR):(s.made ids q es).news.length=s.news.length:=by cases es <;> simp[AS.made,AS.born]
def GS(ids:List Id)(d:Option Tmp)(G:im)(id:Id):Prop:=id∈ids\/(G.news≠ []/\∃q j,d=al q/\id= .new q j)
theorem RN{ids:List Id}{d:Option Tmp}{G:im}(hn:ids.Nodup)(hp:∀id∈ids,s.bS id≠aJ)(hl:G.cj.length=ids.length)(hv:G.news=[]\/∃q,d=al q/\s.eB q=aT):
  (∀id,¬GS ids d G id->(nF s ids d G).bS id=s.bS id)/\
  (∀(k:Nat) (id:Id) (e:dR),ids[k]? =al id->G.cj[k]? =al e->(nF s ids d G).bS id=al (s.ri ids (d.getD 0) (s.AT id) e))/\
  (∀q j,G.news≠ []->d=al q->(nF s ids d G).bS (.new q j)=(G.news[j]?).map (s.ri ids q 0))/\
  (∀q j,G.news≠ []->d=al q->s.bS (.new q j)=aJ):=by
 have hv':G.news=[]\/s.eB (d.getD 0)=aT:=by
  rcases hv with h | ⟨q,rfl,h⟩
  ·exact .inl h
  ·exact .inr h
 obtain⟨m1,m2⟩:=aef s ids (d.getD 0) G.news hv';have aBx:∀q j,G.news≠ []->d=al q->s.bS (.new q j)=aJ:=λq j h1 h2=>by
  rcases hv' with h | h
  ·exact absurd h h1
  ·subst h2;exact(zT.1 h).2 j
 have B1:∀id,s.bS id≠aJ->G.news=[]\/∀j,id≠ .new (d.getD 0) j:=λid dg=>by
  rcases hv with h | ⟨q,rfl,h⟩
  ·exact .inl h
  ·exact .inr λj e=>dg (by rw[e];exact(zT.1 h).2 j)
 obtain⟨n1,n2⟩:=EK s ids (d.getD 0) ids G.cj (s.made ids (d.getD 0) G.news) hn hl (λid dg=>by rw[m1 id (B1 id (hp id dg))];exact hp id dg);refine⟨λid dg=> ?_,λk id e h1 h2=> ?_,λq j h1 h2=> ?_,aBx⟩
 ·unfold GS at dg;simp only[not_or]at dg;rw[nF,Gz,n1 id dg.1];refine m1 id ?_
  by_cases gJ:G.news=[]
  ·exact .inl gJ
  ·right;intro j e;rcases hv with h | ⟨q,hq,_⟩
   ·exact gJ h
   ·exact dg.2 ⟨gJ,q,j,hq,by rw[e,hq];rfl⟩
 ·rw[nF,Gz,n2 k id e h1 h2]
 ·subst h2;have aIh:Id.new q j ∉ ids:=λdg=>hp _ dg (aBx q j h1 rfl)
  rw[nF,Gz,n1 _ aIh];exact m2 h1 j
open Classical in
theorem ahW{c:Call}{F:bJ}{f:fR}{caps:aD}{en:Entry}(dq:o.op= .call c)(hc:c.callee= .value F)(hF:s.ev F= .fn f caps)(hΓ:Γ f (c.args.toList.map s.ev++caps.list)=al en)(jb:Nat.blt f yB=aT){s':AS}
  (he:(s.call en o.dst (c.args.toList.map s.ev++caps.list)).eval=al s'):JW P Γ bM ops o s s':=by
 have sS:∀z,z=F\/z∈c.args.toList->z∈o.op.operands.toList:=λz hz=>by
  rw[dq];simp only[bY,ej,hc,bZ,bD];rcases hz with rfl | hz
  ·exact .inl (by simp)
  ·exact .inr hz
 have aui:∀v∈c.args.toList.map s.ev++caps.list,∀id∈v.ids,id∈(gN Γ ops s o).rs:=λv hv id dg=>by
  rcases bD.1 hv with hv | hv
  ·obtain⟨x,hx,rfl⟩:=dO.1 hv;exact I3 (YE dq rfl) (sS x (.inr hx)) dg
  ·refine I3 (YE dq rfl) (sS F (.inl rfl)) ?_
   rw[hF];exact ae1 caps v hv id dg
 generalize Pz:c.args.toList.map s.ev++caps.list=vs at he aui hΓ;have axT:(gN Γ ops s o).ws=s.reach 64 (uI en.params vs) []:=by show writes Γ s o=_;unfold writes;rw[dq];simp only[hc,hF,Pz,hΓ]
 have Yi:∀t,l7 (gN Γ ops s o) s t->po P Γ bM o t=t.call en o.dst vs:=λt ht=>by
  unfold po;rw[dq];have h1:t.ev F= .fn f caps:=by rw[ht.ev (sS F (.inl rfl)),hF]
  have h2:c.args.toList.map t.ev=c.args.toList.map s.ev:=il λx hx=>ht.ev (sS x (.inr hx))
  obtain⟨cal,args,tys⟩:=c;simp only at hc Pz h2;subst hc;simp only[h1,h2,Pz,hΓ,jb,Out.guard]
 unfold AS.call at he;obtain⟨r,h1,h2⟩:=ax.1 he;obtain⟨aC9,aeD⟩:=Iz _ _ r h1;have hlends:∀t:AS,(t.bp r.2).Yp r.1=t.reach 64 (uI en.params vs) []:=λt=>by unfold AS.Yp;rw[Q7,aC9]
 rw[hlends]at h2;generalize hW:s.reach 64 (uI en.params vs) []=W at h2 axT;have hWn:W.Nodup:=by rw[<-hW];exact rV s _ _ _ (by simp)
 unfold AS.enter at h2;obtain⟨vy,h3⟩:=aG.1 h2;obtain⟨x,hx,h4⟩:=lW.1 h3;obtain⟨x0,aDh,h4⟩:=ax.1 h4;have aoN:=en.amJ _ _ aDh;rw[aoN]at h4 aDh;obtain⟨⟨hl,hv⟩,rfl⟩:=XD.1 h4;generalize hG:en.out (r.1.map (aD.iK ((s.bp r.2).vN W))) (W.map ((s.bp r.2).mf W)) x=G at hl hv h4 ⊢;have hp:∀id∈W,(s.bp r.2).bS id≠aJ:=λid dg=>by have:=(av _ _▸c7.1 vy id dg).1;obtain⟨⟨v,fr,c⟩,hr⟩:=bA.1 this;rw[dZ hr];simp
 obtain⟨b1,b2,b3,b4⟩:=RN (s:=s.bp r.2) (d:=o.dst) hWn hp hl hv;have hfzent:∀(u:AS) id,u.bS id=aJ↔(u.bp r.2).bS id=aJ:=λu id=>by rw[fO];split <;> simp
 let E:aEm:=⟨G.val.iK ((s.bp r.2).ui W (o.dst.getD 0)),λid=>if GS W o.dst G id then(nF (s.bp r.2) W o.dst G).bS id else aJ,r.2⟩
 have hslots:∀u:AS,(nF (u.bp r.2) W o.dst G).cr=(u.put o.dst (G.val.iK ((u.bp r.2).ui W (o.dst.getD 0)))).cr:=λu=>by unfold nF;cases o.dst <;> simp[AS.put,BB,Vu,nk]
 have hlen:∀u:AS,(nF (u.bp r.2) W o.dst G).news.length=u.news.length:=λu=>by unfold nF;cases o.dst <;> simp[AS.put,PD,auI,qq]
 refine⟨E,⟨hslots s,hlen s,λid=> ?_⟩,⟨λid e QV=> ?_,λid dg=> ?_⟩,λt ht=> ?_⟩
 ·by_cases arz:GS W o.dst G id
  ·have QV:E.up id=(nF (s.bp r.2) W o.dst G).bS id:=if_pos arz;rw[QV];cases hb:(nF (s.bp r.2) W o.dst G).bS id with
   |some e=>rfl
   |none=>
    rcases arz with dg | ⟨gJ,q,j,hq,rfl⟩
    ·obtain⟨k,hk⟩:=kg.1 dg;have jb:k < G.cj.length:=by rw[hl];exact(dN.1 hk).1
     rw[b2 k id _ hk (bQ jb)]at hb;cases hb
    ·have:=(hfzent s _).2 (b4 q j gJ hq);simp[this]
  ·have QV:E.up id=aJ:=if_neg arz;rw[QV,b1 id arz,fO]
 ·by_cases arz:GS W o.dst G id
  ·rcases arz with dg | ⟨_,q,j,hq,rfl⟩
   ·left;refine⟨by rw[axT];exact dg,λh=>hp id dg ((hfzent s id).1 h)⟩
   ·exact .inr ⟨q,j,hq,rfl⟩
  ·have:E.up id=aJ:=if_neg arz;rw[this]at QV;cases QV
 ·obtain⟨v,hv,dg⟩:=aeD id dg;exact aui v hv id dg
 ·have aFp:t.conv en.params vs=s.conv en.params vs:=Iy _ _ λv hv id dg=>ht.rs id (aui v hv id dg)
  have JT:∀id∈W,t.bS id=s.bS id:=λid dg=>ht.ws id (by rw[axT];exact dg)
  have aew:∀id∈W,(t.bp r.2).bS id=(s.bp r.2).bS id:=λid dg=>by rw[fO,fO,JT id dg]
  have hWt:t.reach 64 (uI en.params vs) []=W:=by
   rw[<-hW];refine vL _ _ _ λid dg=> ?_
   rw[JT id (by rw[<-hW];exact dg)]
  have aDg:G.news=[]\/∃q,o.dst=al q/\(t.bp r.2).eB q=aT:=hv.imp id λ⟨q,hq,h⟩=>⟨q,hq,by
   rw[uo]at h ⊢;rw[ht.eB q hq];exact h⟩
  have aEA:∀id∈W,(t.bp r.2).bS id≠aJ:=λid dg=>by rw[aew id dg];exact hp id dg
  obtain⟨d1,d2,d3,d4⟩:=RN (s:=t.bp r.2) (d:=o.dst) hWn aEA hl aDg;refine⟨nF (t.bp r.2) W o.dst G,?_,⟨?_,hlen t,λid=> ?_⟩⟩
  ·rw[Yi t ht];unfold AS.call;rw[aFp];refine ax.2 ⟨r,h1,?_⟩;rw[hlends,hWt];unfold AS.enter;have hA:(t.bp r.2).vN W=(s.bp r.2).vN W:=Qr aew;have hO:W.map ((t.bp r.2).mf W)=W.map ((s.bp r.2).mf W):=il λid dg=>aee aew dg
   refine aG.2 ⟨?_,lW.2 ⟨x,?_,ax.2 ⟨x,aDh,?_⟩⟩⟩
   ·refine c7.2 λid dg=> ?_
    have:=c7.1 vy id dg;simp only[AS.obj,AS.NT]at this ⊢;rw[aew id dg];exact this
   ·rw[hA,hO,<-hx]
   ·rw[hA,hO,hG];exact XD.2 ⟨⟨hl,aDg⟩,rfl⟩
  ·rw[hslots t,Mi aew]
  ·by_cases arz:GS W o.dst G id
   ·have QV:E.up id=(nF (s.bp r.2) W o.dst G).bS id:=if_pos arz;rw[QV];rcases arz with dg | ⟨gJ,q,j,hq,rfl⟩
    ·obtain⟨k,hk⟩:=kg.1 dg;have jb:k < G.cj.length:=by rw[hl];exact(dN.1 hk).1
     rw[b2 k id _ hk (bQ jb),d2 k id _ hk (bQ jb),KR aew,QL (aew id dg)]
    ·rw[b3 q j gJ hq,d3 q j gJ hq,KR aew];cases hn:G.news[j]? with
     |some e=>rfl
     |none=>
      have:=(hfzent t _).2 (d4 q j gJ hq);simp[this]
   ·have QV:E.up id=aJ:=if_neg arz;rw[QV,d1 id arz,fO]
end
end Go.Ab
namespace Go.Ab
section
variable {P:aN} {Γ:pZ} {bM:List Nat} {ops:Array Oper} {o:Oper} {s t:AS}
theorem Out.bind_assoc{α β γ:Type}(o:Out α)(f:α->Out β)(g:β->Out γ):(o.bind f).bind g=o.bind λa=>(f a).bind g:=by
 induction o with
 |ok a=>rfl
 |fail=>rfl
 |tJ c r ih=>simp only[Out.bind,ih]
 |get x h ih=>simp only[Out.bind,ih]
 |br c x y ih1 ih2=>simp only[Out.bind,ih1,ih2]
theorem afE{parts:Array (Nat×bJ)}{x:Nat×bJ}(h:x∈parts.toList):x.2∈(parts.toList.map (·.2)).toArray.toList:=dO.2 ⟨x,h,rfl⟩
theorem anE{T:TypeId}{x:bJ}(dq:o.op= .box T x){s':AS}(he:(adp P s (isObj bM o.dst) (aiL bM o.dst) o.dst T (s.ev x)).eval=al s'):JW P Γ bM ops o s s':=by
 have Yi:∀t,po P Γ bM o t=adp P t (isObj bM o.dst) (aiL bM o.dst) o.dst T (t.ev x):=λt=>by unfold po;rw[dq]
 have hm:x∈o.op.operands.toList:=by rw[dq];simp[bY]
 unfold adp at he;split at he
 ·rename_i q hd;split at he
  ·rename_i ho;obtain⟨h1,h2⟩:=aG.1 he;obtain rfl:=ay.1 h2;simp only[av]at h1;refine vC (ids:=[]) hd h1.1 (λ_ h=>by cases h) λt ht hv=> ?_
   rw[Yi,ht.ev hm];unfold adp;simp only[hd]at ho ⊢;simp only[ho];exact aG.2 ⟨by simp[hv,h1.2],ay.2 rfl⟩
  ·rename_i ho;split at he
   ·rename_i ty aFW;obtain⟨h1,h2⟩:=aG.1 he;obtain⟨y,h3,h4⟩:=ax.1 h2;obtain rfl:=ay.1 h4;refine Rv (λid dg=>I3 (YE dq rfl) hm (um _ _ dg)) λt ht=> ?_
    rw[Yi,ht.ev hm];unfold adp;simp only[hd]at ho ⊢;simp only[ho,aFW];refine aG.2 ⟨h1,ax.2 ⟨y,?_,ay.2 rfl⟩⟩;rw[oW _ _ λid dg=>ht.acJ (YE dq rfl) hm dg];exact h3
   ·simp only[aw]at he
 ·simp only[aw]at he
theorem agP{T:TypeId}{x:bJ}(dq:o.op= .sliceToArrayPointer T x){s':AS}(he:(JE P s o.dst T (s.ev x)).eval=al s'):JW P Γ bM ops o s s':=by
 have Yi:∀t,po P Γ bM o t=JE P t o.dst T (t.ev x):=λt=>by unfold po;rw[dq]
 have hm:x∈o.op.operands.toList:=by rw[dq];simp[bY]
 unfold JE at he;split at he
 ·rename_i n e hT;split at he
  ·rename_i ty aFW;obtain⟨h1,h2⟩:=aG.1 he;obtain⟨l,h3,h4⟩:=ax.1 h2;obtain⟨h5,h6⟩:=bR.1 h4;obtain rfl:=ay.1 h6;refine Rv (λid dg=>I3 (YE dq rfl) hm (um _ _ dg)) λt ht=> ?_
   rw[Yi,ht.ev hm];unfold JE;simp only[hT,aFW];refine aG.2 ⟨h1,ax.2 ⟨l,?_,bR.2 ⟨h5,ay.2 rfl⟩⟩⟩;rw[oW _ _ λid dg=>ht.acJ (YE dq rfl) hm dg];exact h3
  ·simp only[aw]at he
 ·simp only[aw]at he
theorem adu{T:TypeId}{parts:Array (Nat×bJ)}(dq:o.op= .build T parts){s':AS}(he:(Ex P s o.dst T parts.toList).eval=al s'):JW P Γ bM ops o s s':=by
 have Yi:∀t,po P Γ bM o t=Ex P t o.dst T parts.toList:=λt=>by unfold po;rw[dq]
 have hm:∀x∈parts.toList,x.2∈o.op.operands.toList:=λx hx=>by rw[dq];exact afE hx
 unfold Ex at he;split at he
 ·rename_i fs hT;split at he
  ·rename_i z hz;obtain⟨h1,h2⟩:=aG.1 he;obtain⟨v,h3,h4⟩:=ax.1 h2;obtain rfl:=ay.1 h4;refine kU λt ht=> ?_
   rw[Yi];unfold Ex;simp only[hT,hz];refine aG.2 ⟨h1,ax.2 ⟨v,?_,ay.2 rfl⟩⟩;rw[DY _ _ λx hx=>ht.ev (hm x hx)];exact h3
  ·simp only[aw]at he
 ·rename_i n e hT;split at he
  ·rename_i ty aFW;obtain⟨h1,h2⟩:=aG.1 he;obtain⟨r,h3,h4⟩:=ax.1 h2;obtain rfl:=ay.1 h4;refine Rv (λid dg=> ?_) λt ht=> ?_
   ·obtain⟨x,hx,hi⟩:=wo _ _ _ h3 id dg;exact I3 (YE dq rfl) (hm x hx) hi
   ·rw[Yi];unfold Ex;simp only[hT,aFW];refine aG.2 ⟨h1,ax.2 ⟨r,?_,ay.2 rfl⟩⟩;rw[zG _ _ λx hx=>⟨ht.ev (hm x hx),λid dg=>ht.acJ (YE dq rfl) (hm x hx) dg⟩];exact h3
  ·simp only[aw]at he
 ·simp only[aw]at he
theorem Nq{T:TypeId}{n:Nat}{parts:Array (Nat×bJ)}(dq:o.op= .buildSlice T n parts){s':AS}(he:(ma P s (aoW bM o.dst) (isObj bM o.dst) o.dst T n parts.toList).eval=al s'):JW P Γ bM ops o s s':=by
 have Yi:∀t,po P Γ bM o t=ma P t (aoW bM o.dst) (isObj bM o.dst) o.dst T n parts.toList:=λt=>by unfold po;rw[dq]
 have hm:∀x∈parts.toList,x.2∈o.op.operands.toList:=λx hx=>by rw[dq];exact afE hx
 unfold ma at he;split at he
 ·rename_i e ty b q G3 hd;obtain⟨h1,h2⟩:=aG.1 he;obtain⟨r,h3,h4⟩:=ax.1 h2;have aiB:∀id∈r.2,id∈(gN Γ ops s o).rs:=λid dg=>by obtain⟨x,hx,hi⟩:=wo _ _ _ h3 id dg;exact I3 (YE dq rfl) (hm x hx) hi
  have aFp:∀t,l7 (gN Γ ops s o) s t->∀l,js ty t parts.toList l=js ty s parts.toList l:=λt ht l=>zG _ _ λx hx=>⟨ht.ev (hm x hx),λid dg=>ht.acJ (YE dq rfl) (hm x hx) dg⟩
  split at h4
  ·rename_i ho;obtain⟨h5,h6⟩:=aG.1 h4;obtain rfl:=ay.1 h6;refine vC hd h5 aiB λt ht hv=> ?_
   rw[Yi];unfold ma;simp only[hd]at ho G3 ⊢;simp only[G3,ho];refine aG.2 ⟨h1,ax.2 ⟨r,by rw[aFp t ht];exact h3,aG.2 ⟨hv,ay.2 rfl⟩⟩⟩
  ·rename_i ho;obtain rfl:=ay.1 h4;refine Rv aiB λt ht=> ?_
   rw[Yi];unfold ma;simp only[hd]at ho G3 ⊢;simp only[G3,ho];exact aG.2 ⟨h1,ax.2 ⟨r,by rw[aFp t ht];exact h3,ay.2 rfl⟩⟩
 ·simp only[aw]at he
theorem QY{T:TypeId}{x y:bJ}(dq:o.op= .makeSlice T x y){len cap:Int}(hx:(asInt (s.ev x)).eval=al len)(hy:(asInt (s.ev y)).eval=al cap){s':AS}(he:(rq P s o.dst T len cap).eval=al s'):JW P Γ bM ops o s s':=by
 have Yi:∀t,po P Γ bM o t=(asInt (t.ev x)).bind λl=>(asInt (t.ev y)).bind λc=>rq P t o.dst T l c:=λt=>by unfold po;rw[dq]
 have hm:∀z,z=x\/z=y->z∈o.op.operands.toList:=λz hz=>by rw[dq];simpa[bY]using hz
 unfold rq at he;split at he
 ·rename_i e ty b q G3 hd;obtain⟨h1,h2⟩:=aG.1 he;obtain⟨h3,h4⟩:=bR.1 h2;obtain rfl:=ay.1 h4;refine vC (ids:=[]) hd h1 (λ_ h=>by cases h) λt ht hv=> ?_
  rw[Yi,ht.ev (hm x (.inl rfl)),ht.ev (hm y (.inr rfl))];refine ax.2 ⟨len,hx,ax.2 ⟨cap,hy,?_⟩⟩;unfold rq;simp only[G3,hd];exact aG.2 ⟨hv,bR.2 ⟨h3,ay.2 rfl⟩⟩
 ·simp only[aw]at he
theorem aa7{id:Id}{ver:Nat}{kt vt:Ty}(h:ym (t.bS id) (s.bS id)):t.qb id ver kt vt=s.qb id ver kt vt:=by
 unfold AS.qb;rcases MC h with⟨h1,h2⟩ | ⟨v,f,f',c,h1,h2⟩
 ·rw[h1,h2]
 ·rw[h1,h2];cases c <;> rfl
theorem WD{T:TypeId}{m k:aD}{ok:Bool}(h:∀id∈m.ids,ym (t.bS id) (s.bS id)):C3 P t T m k ok=C3 P s T m k ok:=by
 unfold C3;split
 ·rename_i id ver hm;rw[aa7 (h id (by simp[aD.ids]))]
 ·rfl
theorem Yr{id:Id}{ver:Nat}{kt vt:Ty}{l:List (kt.den×vt.den)}(h:(s.qb id ver kt vt).eval=al l):∃e,s.bS id=al e:=by
 unfold AS.qb at h;split at h
 ·rename_i v fr k' v' l' kk;exact⟨_,dZ kk⟩
 ·simp only[aw]at h
theorem ai1{id:Id}{ver:Nat}{kt vt:Ty}{l:List (kt.den×vt.den)}(h:(s.qb id ver kt vt).eval=al l):∃fr,s.bS id=al (.obj ver fr (.mp kt vt l)):=by
 unfold AS.qb at h;split at h
 ·rename_i v fr k' v' l' kk;obtain⟨auh,aIi⟩:=aG.1 h;have auh:v=ver:=by simpa using auh
  obtain⟨rfl,rfl,rfl⟩:=O5 (ja.1 aIi);subst auh;exact⟨fr,dZ kk⟩
 ·simp only[aw]at h
theorem E4{id:Id}{ver:Nat}{kt vt:Ty}(h:t.bS id=s.bS id):t.qb id ver kt vt=s.qb id ver kt vt:=by unfold AS.qb AS.obj;rw[h]
theorem BG{id:Id}(h:t.bS id=s.bS id):t.tE id=s.tE id:=by unfold AS.tE AS.obj;rw[h]
theorem WI{T:TypeId}{m k v:aD}{s':AS}(h:(C8 P s T m k v).eval=al s'):
  ∃id e0 e,m.ids=[id]/\s.bS id=al e0/\s'=s.aZ id e/\∀t:AS,t.bS id=s.bS id->(C8 P t T m k v).eval=al (t.aZ id e):=by
 unfold C8 at h;split at h
 ·rename_i K V kt vt id ver hm;obtain⟨l,h1,h⟩:=ax.1 h;obtain⟨kx,h2,h⟩:=ax.1 h;obtain⟨vx,h3,h⟩:=ax.1 h;obtain⟨hu,h⟩:=aG.1 h;obtain rfl:=ay.1 h;obtain⟨e0,aaE⟩:=Yr h1;refine⟨id,e0,_,rfl,aaE,rfl,λt ht=> ?_⟩;unfold C8;simp only[hm];exact ax.2 ⟨l,by rw[E4 ht];exact h1,ax.2 ⟨kx,h2,ax.2 ⟨vx,h3,aG.2 ⟨by rw[BG ht];exact hu,ay.2 rfl⟩⟩⟩⟩
 ·simp only[aw]at h
theorem WH{T:TypeId}{m k:aD}{s':AS}(h:(C7 P s T m k).eval=al s'):
  ∃id e0 e,m.ids=[id]/\s.bS id=al e0/\s'=s.aZ id e/\∀t:AS,t.bS id=s.bS id->(C7 P t T m k).eval=al (t.aZ id e):=by
 unfold C7 at h;split at h
 ·rename_i K V kt vt id ver hm;obtain⟨l,h1,h⟩:=ax.1 h;obtain⟨kx,h2,h⟩:=ax.1 h;obtain⟨hu,h⟩:=aG.1 h;obtain rfl:=ay.1 h;obtain⟨e0,aaE⟩:=Yr h1;refine⟨id,e0,_,rfl,aaE,rfl,λt ht=> ?_⟩;unfold C7;simp only[hm];exact ax.2 ⟨l,by rw[E4 ht];exact h1,ax.2 ⟨kx,h2,aG.2 ⟨by rw[BG ht];exact hu,ay.2 rfl⟩⟩⟩
 ·simp only[aw]at h
theorem XB{s':AS}(he:(po P Γ bM o s).eval=al s'):JW P Γ bM ops o s s':=by
 have aaE:=he;have one:∀x,o.op.operands= #[x]->∀t,l7 (gN Γ ops s o) s t->t.ev x=s.ev x/\(Yt o.op=aR->∀id∈(s.ev x).ids,ym (t.bS id) (s.bS id)):=λx hx t ht=>
  have hm:x∈o.op.operands.toList:=by rw[hx];simp
  ⟨ht.ev hm,λhn _ dg=>ht.acJ hn hm dg⟩
 unfold po at he;split at he
 ·rename_i x dq;obtain rfl:=ay.1 he;refine kU λt ht=> ?_
  unfold po;rw[dq];simp only;rw[(one x (by rw[dq];rfl) t ht).1];rfl
 ·rename_i x dq;obtain rfl:=ay.1 he;refine kU λt ht=> ?_
  unfold po;rw[dq];simp only;rw[(one x (by rw[dq];rfl) t ht).1];rfl
 ·rename_i c x y dq;refine nM (F:=λt=>aml (t.ev c) (t.ev x) (t.ev y)) (λt=>by unfold po;rw[dq]) (λt ht=> ?_) aaE;rw[ht.ev (by rw[dq];simp[bY]),ht.ev (by rw[dq];simp[bY]),ht.ev (by rw[dq];simp[bY])]
 ·rename_i T dq;split at he
  ·rename_i z q hz hq;obtain⟨h1,h2⟩:=aG.1 he;obtain rfl:=ay.1 h2;simp only[av]at h1;refine vC (ids:=[]) hq h1.1 (λ_ h=>by cases h) λt ht hv=> ?_
   unfold po;rw[dq];simp only[hz,hq];exact aG.2 ⟨by simp[hv,h1.2],ay.2 rfl⟩
  ·exact(aw.1 he).elim
 ·rename_i T x dq;exact anE dq he
 ·rename_i T parts dq;exact adu dq he
 ·rename_i T n parts dq;exact Nq dq he
 ·rename_i T x dq;refine nM (F:=λt=>Lp P t T (t.ev x)) (λt=>by unfold po;rw[dq]) (λt ht=> ?_) aaE;obtain⟨h1,h2⟩:=one x (by rw[dq];rfl) t ht;rw[h1,ae2 (h2 (YE dq rfl))]
 ·rename_i T x v dq;obtain⟨s1,h1,h2⟩:=ax.1 he;obtain rfl:=ay.1 h2;obtain⟨id,e0,e,dg,hs,rfl,hl⟩:=ab4 h1;refine C2 hs ?_ λt ht aeK=> ?_
  ·show id∈writes Γ s o;unfold writes;rw[dq];simp only[dg,bq]
  ·unfold po;rw[dq];simp only;rw[ht.ev (x:=x) (by rw[dq];simp[bY]),ht.ev (x:=v) (by rw[dq];simp[bY])];exact ax.2 ⟨_,hl t aeK,ay.2 rfl⟩
 ·rename_i x dq;split at he
  ·rename_i id v p n hx;obtain rfl:=ay.1 he;refine kU λt ht=> ?_
   unfold po;rw[dq];simp only[(one x (by rw[dq];rfl) t ht).1,hx];rfl
  ·rename_i ty y hx;obtain rfl:=ay.1 he;refine kU λt ht=> ?_
   unfold po;rw[dq];simp only[(one x (by rw[dq];rfl) t ht).1,hx];rfl
  ·rename_i ty y hx;obtain⟨z,e,he⟩:=lW.1 he;obtain rfl:=ay.1 he;refine kU λt ht=> ?_
   unfold po;rw[dq];simp only[(one x (by rw[dq];rfl) t ht).1,hx];exact lW.2 ⟨z,e,ay.2 rfl⟩
  ·rename_i ty y hx;obtain⟨z,e,he⟩:=lW.1 he;obtain rfl:=ay.1 he;refine kU λt ht=> ?_
   unfold po;rw[dq];simp only[(one x (by rw[dq];rfl) t ht).1,hx];exact lW.2 ⟨z,e,ay.2 rfl⟩
  ·rename_i f c hx;obtain rfl:=ay.1 he;refine kU λt ht=> ?_
   unfold po;rw[dq];simp only[(one x (by rw[dq];rfl) t ht).1,hx];rfl
  ·exact(aw.1 he).elim
 ·rename_i op T x y U dq;have at9:x∈o.op.operands.toList:=by rw[dq];simp[bY]
  have aEy:y∈o.op.operands.toList:=by rw[dq];simp[bY]
  split at he
  ·rename_i i v1 j v2 hx hy;obtain⟨v,h1,h2⟩:=ax.1 he;obtain rfl:=ay.1 h2;refine kU λt ht=> ?_
   unfold po;rw[dq];simp only[ht.ev at9,ht.ev aEy,hx,hy];exact ax.2 ⟨v,by rw[aok (ht.acJ (YE dq rfl) at9 (by rw[hx];simp[aD.ids]))];exact h1,rfl⟩
  ·rename_i gJ;obtain⟨v,h1,h2⟩:=ax.1 he;obtain rfl:=ay.1 h2;refine kU λt ht=> ?_
   unfold po;rw[dq];simp only[ht.ev at9,ht.ev aEy];exact ax.2 ⟨v,h1,rfl⟩
 ·rename_i op T x dq;refine nM (F:=λt=>aHm op (t.ev x)) (λt=>by unfold po;rw[dq]) (λt ht=> ?_) aaE;rw[(one x (by rw[dq];rfl) t ht).1]
 ·rename_i T U x dq;split at he
  ·rename_i id ver len hTU hx;unfold adF at he;split at he
   ·rename_i v e0 l e kk hD;split at he
    ·rename_i hE;obtain⟨h1,h2⟩:=aG.1 he;obtain⟨h3,h4⟩:=bR.1 h2;obtain rfl:=ay.1 h4;refine C2 (dZ kk) ?_ λt ht aeK=> ?_
     ·show id∈writes Γ s o;unfold writes;rw[dq];simp only[hTU,hx];simp[aD.ids]
     ·have hob':t.obj id=al (v,aR,.vec e0 (.int .u8) l):=by simp only[AS.obj,aeK];exact kk
      unfold po;rw[dq];simp only[hTU,(one x (by rw[dq];rfl) t ht).1,hx];unfold adF;simp only[hob',hD,hE];exact aG.2 ⟨h1,bR.2 ⟨h3,ay.2 rfl⟩⟩
    ·exact(aw.1 he).elim
   ·exact(aw.1 he).elim
  ·rename_i id ver hx;obtain⟨v,h1,h2⟩:=ax.1 he;obtain rfl:=ay.1 h2;refine kU λt ht=> ?_
   obtain⟨h3,h4⟩:=one x (by rw[dq];rfl) t ht;unfold po;rw[dq];simp only[h3,hx];exact ax.2 ⟨v,by rw[adG (h4 (YE dq rfl) _ (by rw[hx];simp[aD.ids]))];exact h1,rfl⟩
  ·rename_i gJ;obtain⟨v,h1,h2⟩:=ax.1 he;obtain rfl:=ay.1 h2;refine kU λt ht=> ?_
   obtain⟨h3,h4⟩:=one x (by rw[dq];rfl) t ht;unfold po;rw[dq];simp only[h3];exact ax.2 ⟨v,by rw[adE (h4 (YE dq rfl))];exact h1,rfl⟩
 ·rename_i T x dq;exact agP dq he
 ·rename_i f first caps dq
  obtain⟨h1,h2⟩:=aG.1 he;obtain rfl:=ay.1 h2;refine kU λt ht=> ?_
  have hc:q9 t caps.toList=q9 s caps.toList:=Kl _ λx hx=>ht.ev (by rw[dq];simp only[bY,bZ];exact bD.2 (.inr hx))
  unfold po;rw[dq];simp only[hc];exact aG.2 ⟨h1,ay.2 rfl⟩
 ·rename_i T l c dq;obtain⟨n,h1,h2⟩:=ax.1 he;obtain⟨m,h3,h4⟩:=ax.1 h2;exact QY dq h1 h3 h4
 ·rename_i T x lo hi dq;refine nM (F:=λt=>FP P t T (t.ev x) lo hi) (λt=>by unfold po;rw[dq]) (λt ht=> ?_) aaE;have hm:∀z,(z=x\/lo=al z\/hi=al z)->z∈o.op.operands.toList:=λz hz=>by
   rw[dq];simp only[bY,bZ,bD];rcases hz with rfl | rfl | rfl
   ·left;left;left;simp
   ·left;left;right;simp
   ·left;right;simp
  have hx:=hm x (.inl rfl);rw[ht.ev hx];exact MG (λid dg=>ht.acJ (YE dq rfl) hx dg) (λy hy=>ht.ev (hm y (.inr (.inl hy)))) (λy hy=>ht.ev (hm y (.inr (.inr hy))))
 ·rename_i T x lo y m dq;refine nM (F:=λt=>MF P t T (t.ev x) lo y m) (λt=>by unfold po;rw[dq]) (λt ht=> ?_) aaE;have hm:∀z,(z=x\/lo=al z\/y=z\/m=z)->z∈o.op.operands.toList:=λz hz=>by
   rw[dq];simp only[bY,bZ,bD];rcases hz with rfl | rfl | rfl | rfl
   ·left;left;left;simp
   ·left;left;right;simp
   ·left;right;simp
   ·right;simp
  have hx:=hm x (.inl rfl);rw[ht.ev hx];exact W9 (λid dg=>ht.acJ (YE dq rfl) hx dg) (λz hz=>ht.ev (hm z (.inr (.inl hz)))) (ht.ev (hm y (.inr (.inr (.inl rfl))))) (ht.ev (hm m (.inr (.inr (.inr rfl)))))
 ·rename_i T x f dq;refine nM (F:=λt=>CY P T (t.ev x) f) (λt=>by unfold po;rw[dq]) (λt ht=> ?_) aaE;rw[(one x (by rw[dq];rfl) t ht).1]
 ·rename_i T x f dq;refine nM (F:=λt=>aax P T (t.ev x) f) (λt=>by unfold po;rw[dq]) (λt ht=> ?_) aaE;rw[(one x (by rw[dq];rfl) t ht).1]
 ·rename_i T x i dq;refine nM (F:=λt=>(asInt (t.ev i)).bind λi=>rk P t T (t.ev x) i) (λt=>by unfold po;rw[dq,Out.bind_assoc]) (λt ht=> ?_) aaE;have hx:x∈o.op.operands.toList:=by rw[dq];simp[bY]
  rw[ht.ev (x:=i) (by rw[dq];simp[bY]),ht.ev hx];congr 1;funext i;exact NP λid dg=>ht.acJ (YE dq rfl) hx dg
 ·rename_i T x i dq;refine nM (F:=λt=>(asInt (t.ev i)).bind λi=>aaN P T (t.ev x) i) (λt=>by unfold po;rw[dq,Out.bind_assoc]) (λt ht=> ?_) aaE;rw[ht.ev (x:=i) (by rw[dq];simp[bY]),ht.ev (x:=x) (by rw[dq];simp[bY])]
 ·rename_i x i dq;refine nM (F:=λt=>Out.opt ((t.ev x).list[i]?)) (λt=>by unfold po;rw[dq]) (λt ht=> ?_) aaE;rw[(one x (by rw[dq];rfl) t ht).1]
 ·rename_i T dq;have Ej:=he;unfold E3 at Ej;split at Ej
  ·rename_i K V kt vt q hm hd;obtain⟨h1,h2⟩:=aG.1 Ej;obtain rfl:=ay.1 h2;refine vC (ids:=[]) hd h1 (λ_ h=>by cases h) λt ht hv=> ?_
   unfold po;rw[dq];simp only;unfold E3;simp only[hm,hd];exact aG.2 ⟨hv,ay.2 rfl⟩
  ·exact(aw.1 Ej).elim
 ·rename_i T x i ok dq;refine nM (F:=λt=>C3 P t T (t.ev x) (t.ev i) ok) (λt=>by unfold po;rw[dq]) (λt ht=> ?_) aaE;have hx:x∈o.op.operands.toList:=by rw[dq];simp[bY]
  rw[ht.ev (x:=i) (by rw[dq];simp[bY]),ht.ev hx];exact WD λid dg=>ht.acJ (YE dq rfl) hx dg
 ·rename_i T m k x dq;obtain⟨s1,h1,h2⟩:=ax.1 he;obtain rfl:=ay.1 h2;obtain⟨id,e0,e,dg,hs,rfl,hl⟩:=WI h1;refine C2 hs ?_ λt ht aeK=> ?_
  ·show id∈writes Γ s o;unfold writes;rw[dq];simp only[dg,bq]
  ·unfold po;rw[dq];simp only;rw[ht.ev (x:=m) (by rw[dq];simp[bY]),ht.ev (x:=k) (by rw[dq];simp[bY]),ht.ev (x:=x) (by rw[dq];simp[bY])];exact ax.2 ⟨_,hl t aeK,ay.2 rfl⟩
 ·rename_i T m dq;have Ej:=he;unfold Oh at Ej;split at Ej
  ·rename_i K V kt vt id ver q hm hv hd;obtain⟨l,h1,h2⟩:=ax.1 Ej;obtain⟨h3,h4⟩:=aG.1 h2;obtain rfl:=ay.1 h4;simp only[av]at h3;obtain⟨hu,hq⟩:=h3;have cO:=ai1 h1;obtain⟨fr,cO⟩:=cO;obtain rfl:=zR cO hu;have hf:∀t:AS,t.bS id=s.bS id->t.bp [id]=t.aZ id (.obj ver aT (.mp kt vt l)):=λt ht=>by show t.freeze id=_;unfold AS.freeze;rw[ht,cO]
   have aFJ:m∈o.op.operands.toList:=by rw[dq];simp[bY]
   have hw:id∈writes Γ s o:=by unfold writes;rw[dq];simp only[hv,aD.ids,bq]
   rw[<-hf s rfl];refine vC (ids:=[id]) hd hq (λi hi=> ?_) λt ht aDg=> ?_
   ·rw[bq.1 hi];exact bD.2 (.inr hw)
   ·have aeK:t.bS id=s.bS id:=ht.ws id hw;unfold po;rw[dq];simp only;unfold Oh;rw[ht.ev aFJ];simp only[hm,hv,hd];rw[hf t aeK];exact ax.2 ⟨l,by rw[E4 aeK];exact h1,aG.2 ⟨by rw[BG aeK,hu,aDg];rfl,ay.2 rfl⟩⟩
  ·simp only[aw]at Ej
 ·rename_i c dq;obtain⟨cal,args,tys⟩:=c;simp only at he;split at he
  ·split at he
   ·rename_i m k T T2 ha ht';have aFJ:m∈o.op.operands.toList:=by rw[dq];simp only[bY,ej,aV,bZ,ha];simp
    have at8:k∈o.op.operands.toList:=by rw[dq];simp only[bY,ej,aV,bZ,ha];simp
    obtain⟨s1,h1,h2⟩:=ax.1 he;obtain rfl:=ay.1 h2;obtain⟨id,e0,e,dg,hs,rfl,hl⟩:=WH h1;refine C2 hs ?_ λt ht aeK=> ?_
    ·show id∈writes Γ s o;unfold writes;rw[dq];simp only[ha,dg,bq]
    ·unfold po;rw[dq];simp only[ha,ht'];rw[ht.ev aFJ,ht.ev at8];exact ax.2 ⟨_,hl t aeK,ay.2 rfl⟩
   ·exact(aw.1 he).elim
  ·split at he
   ·rename_i x y T X ha ht';exact ah3 dq rfl ha ht' he
   ·exact(aw.1 he).elim
  ·split at he
   ·rename_i x T ha ht';refine nM (F:=λt=>azB P T (t.ev x)) (λt=>by unfold po;rw[dq];simp only[ha,ht']) (λt ht=> ?_) aaE;rw[ht.ev (by rw[dq];simp only[bY,ej,aV,bZ,ha];simp)]
   ·exact(aw.1 he).elim
  ·split at he
   ·rename_i x y T X ha ht';have at9:x∈o.op.operands.toList:=by rw[dq];simp only[bY,ej,aV,bZ,ha];simp
    have aEy:y∈o.op.operands.toList:=by rw[dq];simp only[bY,ej,aV,bZ,ha];simp
    split at he
    ·rename_i k n hx hy;have Ej:=he;unfold aev at Ej;split at Ej
     ·rename_i e t0 b q kn G3 hd hX;obtain⟨h1,h2⟩:=aG.1 Ej;obtain⟨h3,h4⟩:=bR.1 h2;obtain rfl:=ay.1 h4;refine vC (ids:=[]) hd h1 (λ_ h=>by cases h) λt ht hv=> ?_
      unfold po;rw[dq];simp only[ha,ht',ht.ev at9,ht.ev aEy,hx,hy];unfold aev;simp only[G3,hd,hX];exact aG.2 ⟨hv,bR.2 ⟨h3,ay.2 rfl⟩⟩
     ·exact(aw.1 Ej).elim
    ·rename_i gJ;exact ZA dq rfl ha ht' gJ he
   ·exact(aw.1 he).elim
  ·split at he
   ·rename_i x T ha ht';have at9:x∈o.op.operands.toList:=by rw[dq];simp only[bY,ej,aV,bZ,ha];simp
    split at he
    ·rename_i e hx hT;obtain rfl:=ay.1 he;refine kU λt ht=> ?_
     unfold po;rw[dq];simp only[ha,ht',ht.ev at9,hx,hT];rfl
    ·exact(aw.1 he).elim
   ·exact(aw.1 he).elim
  ·refine nM (F:=λt=>apl aT (args.toList.map t.ev)) (λt=>by unfold po;rw[dq]) (λt ht=> ?_) aaE;congr 1;exact il λx hx=>ht.ev (by rw[dq];simp only[bY,ej,aV,bZ];exact hx)
  ·refine nM (F:=λt=>apl aR (args.toList.map t.ev)) (λt=>by unfold po;rw[dq]) (λt ht=> ?_) aaE;congr 1;exact il λx hx=>ht.ev (by rw[dq];simp only[bY,ej,aV,bZ];exact hx)
  ·split at he
   ·rename_i x ha;have at9:x∈o.op.operands.toList:=by rw[dq];simp only[bY,ej,aV,bZ,ha];simp
    split at he
    ·rename_i id ver len hx;obtain⟨h1,h2⟩:=bR.1 he;obtain rfl:=ay.1 h2;refine kU λt ht=> ?_
     unfold po;rw[dq];simp only[ha,ht.ev at9,hx];exact bR.2 ⟨h1,rfl⟩
    ·exact(aw.1 he).elim
   ·exact(aw.1 he).elim
  ·split at he
   ·rename_i x y T U ha ht';have at9:x∈o.op.operands.toList:=by rw[dq];simp only[bY,ej,aV,bZ,ha];simp
    have aEy:y∈o.op.operands.toList:=by rw[dq];simp only[bY,ej,aV,bZ,ha];simp
    split at he
    ·rename_i id ver n hx hy;have Ej:=he;unfold agL at Ej;split at Ej
     ·rename_i v e l u kk hT;obtain⟨h1,h2⟩:=aG.1 Ej;obtain⟨h3,h4⟩:=bR.1 h2;obtain rfl:=ay.1 h4;refine C2 (dZ kk) ?_ λt ht aeK=> ?_
      ·show id∈writes Γ s o;unfold writes;rw[dq];simp only[ha,hx];simp[aD.ids]
      ·have hob':t.obj id=al (v,aR,.vec e (.int .u8) l):=by simp only[AS.obj,aeK];exact kk
       unfold po;rw[dq];simp only[ha,ht',ht.ev at9,ht.ev aEy,hx,hy];unfold agL;simp only[hob',hT];exact aG.2 ⟨h1,bR.2 ⟨h3,ay.2 rfl⟩⟩
     ·exact(aw.1 Ej).elim
    ·exact(aw.1 he).elim
   ·exact(aw.1 he).elim
  ·rename_i F _;split at he
   ·rename_i f caps hF;split at he
    ·rename_i en aix;obtain⟨jb,he⟩:=aG.1 he;exact ahW dq rfl hF aix jb he
    ·exact(aw.1 he).elim
   ·exact(aw.1 he).elim
  ·exact(aw.1 he).elim
 ·exact(aw.1 he).elim
end
end Go.Ab
namespace Go.Ab
section
variable {P:aN} {Γ:pZ} {bM:List Nat} {ops:Array Oper} {o:Oper} {s t:AS}
def Loc(P:aN)(Γ:pZ)(bM:List Nat)(ops:Array Oper)(o:Oper)(s s':AS):Prop:=∃E,App o.dst E s s'/\Zx (gN Γ ops s o) s E/\∀t,l7 (gN Γ ops s o) s t->∃t',G1 P Γ bM ops o t=al t'/\App o.dst E t t'
theorem SV{s':AS}(he:G1 P Γ bM ops o s=al s'):Loc P Γ bM ops o s s':=by
 unfold G1 at he;split at he
 ·rename_i hg;obtain⟨E,h1,h2,h3⟩:=XB (ops:=ops) he;refine⟨E,h1,h2,λt ht=> ?_⟩;obtain⟨t',h4,h5⟩:=h3 t ht;exact⟨t',by unfold G1;simp only[hg];exact h4,h5⟩
 ·rename_i j want hg;split at he
  ·rename_i q hq;split at he
   ·rename_i b hb;have ary:∀t,l7 (gN Γ ops s o) s t->t.slot q= .d .bool b:=λt ht=>by rw[ht.cr q (bD.2 (.inr (by unfold NH;simp only[hg,hq];simp)))];exact hb
    by_cases e:b=want
    ·rw[if_pos e]at he;obtain⟨E,h1,h2,h3⟩:=XB (ops:=ops) he;refine⟨E,h1,h2,λt ht=> ?_⟩;obtain⟨t',h4,h5⟩:=h3 t ht;exact⟨t',by unfold G1;simp only[hg,hq,ary t ht,if_pos e];exact h4,h5⟩
    ·rw[if_neg e]at he;simp only[az]at he;subst he;exact⟨⟨.nil,λ_=>aJ,[]⟩,App.GI _ _ _,⟨λ_ _ h=>by simp at h,λ_ h=>by simp at h⟩,λt ht=>⟨_,by unfold G1;simp only[hg,hq,ary t ht,if_neg e],App.GI _ _ _⟩⟩
   ·rename_i hb;have ary:∀t,l7 (gN Γ ops s o) s t->t.slot q= .nil:=λt ht=>by rw[ht.cr q (bD.2 (.inr (by unfold NH;simp only[hg,hq];simp)))];exact hb
    simp only[az]at he;subst he;exact⟨⟨.nil,λ_=>aJ,[]⟩,App.GI _ _ _,⟨λ_ _ h=>by simp at h,λ_ h=>by simp at h⟩,λt ht=>⟨_,by unfold G1;simp only[hg,hq,ary t ht],App.GI _ _ _⟩⟩
   ·cases he
  ·cases he
theorem acy(h:l7 (gN Γ ops s o) s t):writes Γ t o=writes Γ s o:=by
 have axT:∀id∈writes Γ s o,t.bS id=s.bS id:=h.ws;unfold writes at axT ⊢;split
 ·rename_i x v dq;rw[h.ev (by rw[dq];simp[bY])]
 ·rename_i m k v dq;rw[h.ev (by rw[dq];simp[bY])]
 ·rename_i m dq;rw[h.ev (by rw[dq];simp[bY])]
 ·rename_i T U x dq;rw[h.ev (by rw[dq];simp[bY])]
 ·rename_i c dq;obtain⟨cal,args,tys⟩:=c;simp only[dq]at axT;simp only;split
  ·split
   ·rename_i x l ha;rw[h.ev (by rw[dq];simp only[bY,ej,aV,bZ,ha];simp)]
   ·rfl
  ·split
   ·rename_i x l ha;rw[h.ev (by rw[dq];simp only[bY,ej,aV,bZ,ha];simp)]
   ·rfl
  ·split
   ·rename_i x l ha;rw[h.ev (by rw[dq];simp only[bY,ej,aV,bZ,ha];simp)]
   ·rfl
  ·split
   ·rename_i x l ha;rw[h.ev (by rw[dq];simp only[bY,ej,aV,bZ,ha];simp)]
   ·rfl
  ·rename_i F;simp only at axT;have hm:∀z,z=F\/z∈args.toList->z∈o.op.operands.toList:=λz hz=>by
    rw[dq];simp only[bY,ej,bZ,bD];rcases hz with rfl | hz
    ·exact .inl (by simp)
    ·exact .inr hz
   have h1:t.ev F=s.ev F:=h.ev (hm F (.inl rfl));have h2:args.toList.map t.ev=args.toList.map s.ev:=il λx hx=>h.ev (hm x (.inr hx))
   rw[h1];split
   ·rename_i f caps hF;simp only[hF]at axT;rw[h2];split
    ·rename_i en aix;simp only[aix]at axT;exact vL _ _ _ λid dg=>by rw[axT id dg]
    ·rfl
   ·rfl
  ·rfl
 ·rfl
theorem SN(h:l7 (gN Γ ops s o) s t):gN Γ ops t o=gN Γ ops s o:=by
 have h1:=acy h;have h2:afu t o=afu s o:=by
  unfold afu;split
  ·rfl
  unfold List.flatMap;congr 1;exact il λi hi=>by rw[h.cr i (bD.2 (.inl hi))]
 unfold gN;rw[h1,h2]
theorem vE{xs ys:List Id}(h:meets xs ys=aR){id:Id}(hx:id∈xs):id ∉ ys:=by
 intro hy;have:meets xs ys=aT:=by unfold meets;exact List.any_eq_true.2 ⟨id,hx,List.any_eq_true.2 ⟨id,hy,by simp⟩⟩
 rw[h]at this;cases this
theorem tp{d:Option Tmp}{ids:List Id}(h:Vq d ids=aR){q:Nat}(hd:d=al q)(j:Nat):Id.new q j ∉ ids:=by
 intro hy;have:Vq d ids=aT:=by subst hd;exact List.any_eq_true.2 ⟨_,hy,by simp⟩
 rw[h]at this;cases this
theorem GA{f g:Ek}(h:f.aFA g=aR){q:Nat}(hd:f.dst=al q):q ∉ g.cr/\g.dst≠al q:=by unfold Ek.aFA at h;rw[hd]at h;simp only[Bool.or_eq_false_iff,jg,aW,gM]at h;exact⟨λhx=>h.1 q hx rfl,h.2⟩
theorem agy(s:AS)(d:Option Tmp)(v:aD)(i:Nat)(h:d≠al i):(s.put d v).slot i=s.slot i:=by
 cases d with
 |none=>rfl
 |some q=>rw[Vt,if_neg];rintro⟨rfl,_⟩;exact h rfl
theorem App.slot{d:Option Tmp}{E:aEm}{s s':AS}(h:App d E s s')(i:Nat)(hi:d≠al i):s'.slot i=s.slot i:=by rw[<-agy s d E.v i hi];simp only[AS.slot,h.cr]
theorem acQ{f f':Ek}{E:aEm}{s s1:AS}(ha:App f.dst E s s1)(hw:Zx f s E)(aIu:∀id∈f'.ws,id∈f'.rs)(h1:f.aFA f'=aR)(h2:meets f.ws f'.rs=aR)(h3:meets f'.ws f.rs=aR)
  (h4:Vq f.dst f'.rs=aR):(∀i∈f'.cr,s1.slot i=s.slot i)/\(∀id∈f'.ws,s1.bS id=s.bS id)/\(∀id∈f'.rs,ym (s1.bS id) (s.bS id))/\∀q,f'.dst=al q->s1.eB q=s.eB q:=by
 have QV:∀id∈f'.rs,E.up id=aJ:=λid dg=>by
  cases hu:E.up id with
  |none=>rfl
  |some e=>
   rcases hw.up id e hu with⟨h,_⟩ | ⟨q,j,hd,rfl⟩
   ·exact absurd dg (vE h2 h)
   ·exact absurd dg (tp h4 hd j)
 refine⟨λi hi=>ha.slot i λhd=>(GA h1 hd).1 hi,λid dg=> ?_,λid dg=> ?_,λq hq=> ?_⟩
 ·rw[ha.bS,QV id (aIu id dg)];have:id ∉ E.fz:=λhz=>vE h3 dg (hw.fz id hz)
  simp only[if_neg this]
 ·rw[ha.bS,QV id dg];simp only;split
  ·exact aqM _
  ·exact aqN _
 ·have gJ:∀j,(s1.bS (.new q j)=aJ↔s.bS (.new q j)=aJ):=λj=>by
   rw[ha.bS];cases hu:E.up (.new q j) with
   |none=>
    simp only;split <;> simp
   |some e=>
    rcases hw.up _ e hu with⟨_,h⟩ | ⟨q',j',hd,he⟩
    ·simp[h]
    ·simp only[Id.new.injEq]at he;obtain⟨rfl,_⟩:=he;exact absurd hq (GA h1 hd).2
  rw[Bool.eq_iff_iff,zT,zT,ha.len];exact and_congr Iff.rfl (forall_congr' gJ)
theorem EO(s:AS)(o:Oper):∀id∈(gN Γ ops s o).ws,id∈(gN Γ ops s o).rs:=λ_ dg=>bD.2 (.inr dg)
theorem swap{o':Oper}{s1 s2:AS}(h1:G1 P Γ bM ops o s=al s1)(h2:G1 P Γ bM ops o' s1=al s2)(hi:(gN Γ ops s o).indep (gN Γ ops s1 o')=aT):
  ∃t1,G1 P Γ bM ops o' s=al t1/\G1 P Γ bM ops o t1=al s2/\gN Γ ops s o'=gN Γ ops s1 o'/\gN Γ ops t1 o=gN Γ ops s o:=by
 unfold Ek.indep at hi;simp only[av,ct]at hi;obtain⟨⟨⟨⟨⟨i1,i2⟩,i3⟩,i4⟩,i5⟩,i6⟩:=hi;obtain⟨E,a1,w1,l1⟩:=SV h1;obtain⟨E',a2,w2,l2⟩:=SV h2;obtain⟨g1,g2,g3,g4⟩:=acQ (f:=gN Γ ops s o) (f':=gN Γ ops s1 o') a1 w1 (EO _ _) i1 i3 i4 i5;have JT:l7 (gN Γ ops s1 o') s1 s:=⟨λi hi=>(g1 i hi).symm,λid dg=>(g2 id dg).symm,λid dg=>by
  have:=g3 id dg
  revert this
  cases s1.bS id <;> cases s.bS id <;> simp only[ym] <;> intro h <;> first | trivial | exact h | skip
  rename_i a b;cases a <;> cases b <;> simp_all [dR.acJ],λq hq=>(g4 q hq).symm⟩
 obtain⟨t1,k1,k2⟩:=l2 s JT;have hf':=SN JT;have w2':Zx (gN Γ ops s1 o') s E':=⟨λid e hu=>by
  rcases w2.up id e hu with⟨h,hn⟩ | h
  ·exact .inl ⟨h,by rw[<-g2 id h];exact hn⟩
  ·exact .inr h,w2.fz⟩
 obtain⟨m1,m2,m3,m4⟩:=acQ (f:=gN Γ ops s1 o') (f':=gN Γ ops s o) k2 w2' (EO _ _) i2 i4 i3 i6;have aFd:l7 (gN Γ ops s o) s t1:=⟨m1,m2,m3,m4⟩;obtain⟨t2,k3,k4⟩:=l1 t1 aFd;refine⟨t1,k1,?_,hf',SN aFd⟩;rw[k3];congr 1;have aFX:∀id e,E.up id=al e->E'.up id=aJ/\id ∉ E'.fz:=λid e hu=>by
  rcases w1.up id e hu with⟨h,hn⟩ | ⟨q,j,hd,rfl⟩
  ·refine⟨?_,λhz=>vE i3 h (w2.fz id hz)⟩;cases hu':E'.up id with
   |none=>rfl
   |some e'=>
    rcases w2.up id e' hu' with⟨h',_⟩ | ⟨q,j,hd,rfl⟩
    ·exact absurd (EO _ _ id h') (vE i3 h)
    ·exact absurd (EO _ _ _ h) (tp i6 hd j)
  ·refine⟨?_,λhz=>tp i5 hd j (w2.fz _ hz)⟩;cases hu':E'.up (.new q j) with
   |none=>rfl
   |some e'=>
    rcases w2.up _ e' hu' with⟨h',_⟩ | ⟨q',j',hd',he⟩
    ·exact absurd (EO _ _ _ h') (tp i5 hd j)
    ·simp only[Id.new.injEq]at he;obtain⟨rfl,_⟩:=he;exact absurd hd' (GA i1 hd).2
 have aIB:∀id e,E'.up id=al e->E.up id=aJ/\id ∉ E.fz:=λid e hu=>by
  have hn:E.up id=aJ:=by
   cases aKQ:E.up id with
   |none=>rfl
   |some e1=>rw[(aFX id e1 aKQ).1]at hu;cases hu
  refine⟨hn,λhz=> ?_⟩;rcases w2.up id e hu with⟨h,_⟩ | ⟨q,j,hd,rfl⟩
  ·exact vE i4 h (w1.fz id hz)
  ·exact tp i6 hd j (w1.fz _ hz)
 refine AS.atE ?_ (by rw[k4.len,k2.len,a2.len,a1.len]) λid=> ?_
 ·have e1:∀(u u':AS) (d:Option Tmp) (v:aD),u.cr=u'.cr->(u.put d v).cr=(u'.put d v).cr:=λu u' d v h=>by cases d <;> simp[AS.put,h]
  rw[k4.cr,a2.cr,e1 t1 (s.put o'.dst E'.v) _ _ k2.cr,e1 s1 (s.put o.dst E.v) _ _ a1.cr];cases hd:o.dst with
  |none=>cases o'.dst <;> rfl
  |some q=>
   cases hd':o'.dst with
   |none=>rfl
   |some q'=>
    have gJ:q'≠q:=λe=>(GA (f:=gN Γ ops s o) i1 hd).2 (by show o'.dst=al q;rw[hd',e])
    simp only[AS.put];exact List.set_comm _ _ gJ
 ·rw[k4.bS,k2.bS,a2.bS,a1.bS];cases hu:E.up id with
  |some e=>
   obtain⟨h3,h4⟩:=aFX id e hu;simp only[h3,if_neg h4]
  |none=>
   simp only;cases hu':E'.up id with
   |some e=>
    obtain⟨_,h4⟩:=aIB id e hu';simp only[if_neg h4]
   |none=>
    simp only;by_cases z1:id∈E.fz <;> by_cases z2:id∈E'.fz <;> simp only[if_pos,if_neg,z1,z2,not_false_eq_true]
end
end Go.Ab
namespace Go.Ab
section
variable {P:aN} {Γ:pZ} {bM:List Nat} {ops:Array Oper}
def acM(P:aN)(Γ:pZ)(bM:List Nat)(ops:Array Oper)(fs:Nat->Ek):List Nat->AS->AS->Prop
 |[],s,sn=>s=sn
 |i::l,s,sn=>∃o,ops[i]? =al o/\gN Γ ops s o=fs i/\∃s',G1 P Γ bM ops o s=al s'/\acM P Γ bM ops fs l s' sn
theorem acM.asr{fs:Nat->Ek}{i:Nat}{l2:List Nat}{sn:AS}:∀(l1:List Nat) {s:AS},acM P Γ bM ops fs (l1++i::l2) s sn->(∀j∈l1,(fs j).indep (fs i)=aT)->acM P Γ bM ops fs (i::(l1++l2)) s sn
 |[],_,h,_=>h
 |j::l1,s,h,hi=>by
  obtain⟨oj,h1,h2,s1,h3,h4⟩:=h;obtain⟨oi,h5,h6,s2,h7,h8⟩:=acM.asr l1 h4 λj hj=>hi j (aK _ hj)
  have hd:=hi j (aL ..);rw[<-h2,<-h6]at hd;obtain⟨t1,k1,k2,k3,k4⟩:=swap h3 h7 hd;exact⟨oi,h5,by rw[k3,h6],t1,k1,oj,h1,by rw[k4,h2],s2,k2,h8⟩
theorem Yg{R:Type}{anc:List Nat}{k:AS->Option R}{r:R}:∀(l:List Oper) (i:Nat) (acc:List (Nat×Ek)) (s:AS) (f0:Nat->Ek),(∀n o,l[n]? =al o->ops[i+n]? =al o)->(∀x∈acc,f0 x.1=x.2/\x.1 < i)->
  Yf P Γ bM ops anc i l acc s k=al r->∃fs sn,(∀j,j < i->fs j=f0 j)/\acM P Γ bM ops fs (List.range' i l.length) s sn/\k sn=al r/\
   (∀x∈acc,∀m,i<=m->m < i+l.length->(anc.getD m 0).testBit x.1=aT\/x.2.indep (fs m)=aT)/\(∀m1 m2,i<=m1->m1 < m2->m2 < i+l.length->(anc.getD m2 0).testBit m1=aT\/(fs m1).indep (fs m2)=aT)
 |[],i,acc,s,f0,_,_,h=>⟨f0,s,λ_ _=>rfl,rfl,h,λ_ _ m h1 h2=>by simp at h2;omega,λ_ _ h1 h2 h3=>by simp at h3;omega⟩
 |o::l,i,acc,s,f0,ho,hf,h=>by
  unfold Yf at h;split at h
  ·rename_i vy;simp only[AS.Mz]at h;obtain⟨s',h1,h2⟩:=aeu (k:=λs'=>Yf P Γ bM ops anc (i+1) l ((i,gN Γ ops s o)::acc) s' k) h;have aHM:∀x∈(i,gN Γ ops s o)::acc,(if x.1=i then gN Γ ops s o else f0 x.1)=x.2/\x.1 < i+1:=λx hx=>by
    rcases cg.1 hx with rfl | hx
    ·simp
    ·obtain⟨q1,q2⟩:=hf x hx;rw[if_neg au];exact⟨q1,au⟩
   obtain⟨fs,sn,g1,g2,g3,g4,g5⟩:=Yg l (i+1) ((i,gN Γ ops s o)::acc) s' (λn=>if n=i then gN Γ ops s o else f0 n)
    (λn o' hn=>by have:=ho (n+1) o' (by simpa using hn);rw[<-this];congr 1;omega) aHM h2
   have gi:fs i=gN Γ ops s o:=by rw[g1 i au,if_pos rfl]
   refine⟨fs,sn,λj hj=>by rw[g1 j au,if_neg au],?_,g3,λx hx m h3 h4=> ?_,λm1 m2 h3 h4 h5=> ?_⟩
   ·rw[aH,List.range'_succ];exact⟨o,ho 0 o rfl,gi.symm,s',h1,g2⟩
   ·rcases Nat.eq_or_lt_of_le h3 with rfl | h3
    ·have:=c7.1 vy x hx;simp only[iq]at this;rcases this with h | h
     ·exact .inl h
     ·right;rw[gi];exact h
    ·exact g4 x (aK _ hx) m au (by simp only[aH]at h4;omega)
   ·rcases Nat.eq_or_lt_of_le h3 with rfl | h3
    ·rw[gi];exact g4 (i,gN Γ ops s o) (aL ..) m2 au (by simp only[aH]at h5;omega)
    ·exact g5 m1 m2 au h4 (by simp only[aH]at h5;omega)
  ·cases h
theorem acU{acc:List Nat}{j:Nat}:∀ {l:List Edge},(l.foldr (λe m=>Nat.lor (Nat.lor (Nat.pow 2 e.on) (acc.getD e.on 0)) m) 0).testBit j=aT->∃e∈l,j=e.on\/(acc.getD e.on 0).testBit j=aT
 |[],h=>by simp at h
 |e::l,h=>by
  rw[List.foldr_cons,show ∀x y,Nat.lor x y=x ||| y from λ_ _=>rfl,show ∀x y,Nat.lor x y=x ||| y from λ_ _=>rfl,Nat.testBit_or,Nat.testBit_or,show Nat.pow 2 e.on=2^e.on from rfl,Nat.testBit_two_pow]at h;simp only[iq,aW]at h;rcases h with(h | h) | h
  ·exact⟨e,aL ..,.inl h.symm⟩
  ·exact⟨e,aL ..,.inr h⟩
  ·obtain⟨e',h1,h2⟩:=acU h;exact⟨e',aK _ h1,h2⟩
theorem XA:∀(l:List Oper) (acc:List Nat),(∀i,i < acc.length->(l.foldl (λacc o=>acc++ [Zy acc o]) acc)[i]? =acc[i]?)/\
  ∀i o,l[i]? =al o->(l.foldl (λacc o=>acc++ [Zy acc o]) acc)[acc.length+i]? =al (Zy ((l.foldl (λacc o=>acc++ [Zy acc o]) acc).take (acc.length+i)) o)
 |[],acc=>⟨λ_ _=>rfl,λi o h=>by simp at h⟩
 |x::l,acc=>by
  obtain⟨h1,h2⟩:=XA l (acc++ [Zy acc x]);simp only[aY];refine⟨λi hi=> ?_,λi o hi=> ?_⟩
  ·rw[h1 i (by simp;omega),fB hi]
  ·cases i with
   |zero=>
    simp only[fX,az]at hi;subst hi;rw[cW,h1 _ (by simp)];have:(l.foldl (λacc o=>acc++ [Zy acc o]) (acc++ [Zy acc x])).take acc.length=acc:=by
     apply kH;intro j;rw[db];split
     ·rename_i hj;rw[h1 j (by simp;omega),fB hj]
     ·rename_i hj;rw[dP au]
    rw[this];simp
   |succ i=>
    have:=h2 i o (by simpa using hi);simp only[aj,aH,bB,ba]at this;rw[show acc.length+(i+1)=acc.length+1+i by omega];exact this
theorem arR{l:List Oper}{i:Nat}{o:Oper}(hi:l[i]? =al o){j:Nat}(hj:((acV l).getD i 0).testBit j=aT):∃e∈o.after.toList,Region.binds .any e=aT/\(j=e.on\/((acV l).getD e.on 0).testBit j=aT):=by
 have h:=(XA l []).2 i o hi;have e:acV l=l.foldl (λacc o=>acc++ [Zy acc o]) []:=rfl;rw[<-e]at h;simp only[bB,ba]at h;rw[aI,h]at hj;obtain⟨e,h1,h3⟩:=acU hj;obtain⟨h1,h2⟩:=nb.1 h1;refine⟨e,h1,h2,h3.imp id λh4=> ?_⟩;rw[aI,db]at h4;split at h4
 ·rw[aI];exact h4
 ·simp at h4
def Zm(n:Nat)(listed:Array Bool):List Nat:=(List.range n).filter λi=> !listed.getD i aT
theorem Lu{n:Nat}{listed:Array Bool}{i:Nat}:i∈Zm n listed↔i < n/\listed.getD i aT=aR:=by simp[Zm]
theorem JP(n:Nat)(listed:Array Bool):(Zm n listed).Pairwise (· < ·):=(List.pairwise_lt_range).filter _
theorem SU{listed:Array Bool}{i j:Nat}(d:Bool)(hi:i < listed.size):(listed.setIfInBounds i aT).getD j d=if j=i then aT else listed.getD j d:=by
 simp only[cQ,ek];by_cases h:i=j
 ·subst h;simp[hi]
 ·simp[h,Ne.symm h]
theorem aA0{listed:Array Bool}{i:Nat}(hi:i < listed.size){l1 l2:List Nat}(h:Zm listed.size listed=l1++i::l2):Zm listed.size (listed.setIfInBounds i aT)=l1++l2:=by
 have hs:=JP listed.size listed;rw[h]at hs;obtain⟨p1,p2,p3⟩:=List.pairwise_append.1 hs;obtain⟨p4,_⟩:=List.pairwise_cons.1 p2;have e:Zm listed.size (listed.setIfInBounds i aT)=(Zm listed.size listed).filter λj=>decide (j≠i):=by
  unfold Zm;rw[List.filter_filter];refine List.filter_congr λj _=> ?_
  rw[SU aT hi];by_cases hj:j=i
  ·simp[hj]
  ·simp[hj]
 rw[e,h,List.filter_append,List.filter_cons];have f1:l1.filter (λj=>decide (j≠i))=l1:=jq.2 λj hj=>by have:=p3 j hj i (aL ..);simp;omega
 have f2:l2.filter (λj=>decide (j≠i))=l2:=jq.2 λj hj=>by have:=p4 j hj;simp;omega
 rw[f1,f2];simp
theorem am7{rd:Option Nat}{n:Nat}{C:Ctx}(hΓ:Sound P Γ){fs:Nat->Ek}{sn:AS}{Q:Exit->Act->bU->Prop}(hE:aak ops.toList=aT)
  (aH4:∀m1 m2,m1 < m2->m2 < ops.size->((acV ops.toList).getD m2 0).testBit m1=aT\/(fs m1).indep (fs m2)=aT) (hQ:∀a w,gT C sn a w->Q .normal a w):
  ∀(fuel:Nat) (listed:Array Bool) (s:AS) (a:Act) (w:bU),listed.size=ops.size->(Zm ops.size listed).length=fuel->
   (∀i,i < ops.size->listed.getD i aT=aT->∀j,((acV ops.toList).getD i 0).testBit j=aT->listed.getD j aR=aT)->acM P Γ bM ops fs (Zm ops.size listed) s sn->gT C s a w->wpAnyIn (Fr rd) n P .any ops Q fuel listed a w:=by
 have aBp:∀i o,ops[i]? =al o->∀e∈o.after.toList,Region.binds .any e=aT->e.on < i:=λi o hi e he hb=>by have:=c7.1 hE (o,i) (List.mem_zipIdx_iff_getElem?.2 (by simpa using hi));have:=c7.1 this e he;simpa[hb]using this
 have aDa:∀(listed:Array Bool),listed.size=ops.size->∀i,i∈Region.ready .any ops listed↔i∈Zm ops.size listed/\∀o,ops[i]? =al o->∀e∈o.after.toList,Region.binds .any e=aT->listed.getD e.on aR=aT:=λlisted _ i=>by
  rw[Lu];unfold Region.ready;simp only[nb,List.mem_range,av,ct];constructor
  ·rintro⟨h1,h2,h3⟩;refine⟨⟨h1,h2⟩,λo ho e he hb=> ?_⟩;rw[ho]at h3;simp only[eo,dB,Array.all_eq_true',iq,ct]at h3;rcases h3 e (by simpa using he) with h | h
   ·rw[hb]at h;cases h
   ·exact h
  ·rintro⟨⟨h1,h2⟩,h3⟩;refine⟨h1,h2,?_⟩;obtain⟨o,ho⟩:∃o,ops[i]? =al o:=⟨ops[i],by simp[h1]⟩
   rw[ho];simp only[eo,dB,Array.all_eq_true',iq,ct];intro e he;cases hb:Region.binds .any e with
   |false=>exact .inl rfl
   |true=>exact .inr (h3 o ho e (by simpa using he) hb)
 have pY:∀(listed:Array Bool),listed.size=ops.size->Region.ready .any ops listed=[]->Zm ops.size listed=[]:=λlisted hs hr=>by
  cases hu:Zm ops.size listed with
  |nil=>rfl
  |cons i l=>
   exfalso;have hi:i∈Zm ops.size listed:=by rw[hu];exact aL ..
   have aFU:=JP ops.size listed;rw[hu]at aFU;have:i∈Region.ready .any ops listed:=(aDa listed hs i).2 ⟨hi,λo ho e he hb=>by
    have jb:=aBp i o ho e he hb;have aeB:=(Lu.1 hi).1;cases hl:listed.getD e.on aT with
    |false=>
     have hm:e.on∈Zm ops.size listed:=Lu.2 ⟨au,hl⟩;rw[hu]at hm;rcases cg.1 hm with h | h
     ·omega
     ·have:=(List.pairwise_cons.1 aFU).1 _ h;omega
    |true=>
     have:e.on < listed.size:=au;simp only[cQ,fA this,dB]at hl ⊢;exact hl⟩
   rw[hr]at this;cases this
 intro fuel
 induction fuel with
 |zero=>
  intro listed s a w hs hl _ hr nG;have hn:Zm ops.size listed=[]:=bw hl;refine⟨?_,?_⟩
  ·cases aEC:Region.ready .any ops listed with
   |nil=>rfl
   |cons i l=>
    have:i∈Region.ready .any ops listed:=by rw[aEC];exact aL ..
    have:=((aDa listed hs i).1 this).1;rw[hn]at this;cases this
  ·rw[hn]at hr;have:s=sn:=hr;subst this;exact hQ a w nG
 |succ fuel ih=>
  intro listed s a w hs hl alC hr nG;refine⟨λaEC=> ?_,λi hi=> ?_⟩
  ·have:=pY listed hs aEC;rw[this]at hl;simp at hl
  ·obtain⟨hu,aFr⟩:=(aDa listed hs i).1 hi;obtain⟨aeB,aLu⟩:=Lu.1 hu;obtain⟨o,ho⟩:∃o,ops[i]? =al o:=⟨ops[i],by simp[aeB]⟩
   obtain⟨l1,l2,aoM⟩:=List.append_of_mem hu;have aFU:=JP ops.size listed;rw[aoM]at aFU;have aFe:∀j,((acV ops.toList).getD i 0).testBit j=aT->listed.getD j aR=aT:=λj hj=>by
    obtain⟨e,he,hb,h | h⟩:=arR (by simpa using ho) hj
    ·rw[h];exact aFr o ho e he hb
    ·have h1:=aFr o ho e he hb;have h2:=aBp i o ho e he hb;refine alC e.on au ?_ j h
     have:e.on < listed.size:=au;simp only[cQ,fA this,dB]at h1 ⊢;exact h1
   rw[aoM]at hr;have hb:=acM.asr l1 hr λj hj=>by
    have jb:j < i:=(List.pairwise_append.1 aFU).2.2 j hj i (aL ..);rcases aH4 j i jb aeB with h | h
    ·have h1:=aFe j h;have aKx:j∈Zm ops.size listed:=by rw[aoM];exact bD.2 (.inl hj)
     have h2:=(Lu.1 aKx).2;have:j < listed.size:=au;simp only[cQ,fA this,dB]at h1 h2;rw[h1]at h2;cases h2
    ·exact h
   obtain⟨o',ho',hf,s',hg,pz⟩:=hb;obtain rfl:o=o':=by rw[ho]at ho';simpa using ho'
   have aaI:Zm ops.size (listed.setIfInBounds i aT)=l1++l2:=by rw[<-hs]at aoM ⊢;exact aA0 au aoM
   refine((Ye hΓ nG hg).mono λa' w' hst'=>ih (listed.setIfInBounds i aT) s' a' w' (by simpa using hs) ?_ ?_ (by rw[aaI];exact pz) hst').wpOpIn ho
   ·rw[aaI];rw[aoM]at hl;simp only[aj,aH]at hl ⊢;omega
   ·intro m hm aG5 j hj;rw[SU aR au];split
    ·rfl
    ·rw[SU aT au]at aG5;split at aG5
     ·rename_i aKD;subst aKD;exact aFe j hj
     ·exact alC m hm aG5 j hj
theorem af7{rd:Option Nat}{n:Nat}{C:Ctx}(hm:P.follows .mixedOrders=aT)(hΓ:Sound P Γ){id:Nat}{R:Type}{Q:Exit->Act->bU->Prop}{s:AS}{a:Act}{w:bU}{k:AS->Option R}{r:R}(h:gT C s a w)(hE:aak ops.toList=aT)
  (he:Yf P Γ bM ops (acV ops.toList) 0 ops.toList [] s k=al r) (hk:∀s' a' w',gT C s' a' w'->k s'=al r->Q .normal a' w'):(Code.region id ops aT).wpIn (Fr rd) n P Q a w:=by
 obtain⟨fs,sn,_,g2,g3,_,g5⟩:=Yg ops.toList 0 [] s (λ_=>⟨aJ,[],[],[]⟩) (λn o hn=>by simpa using hn) (λ_ hx=>by cases hx) he;refine wpIn_region_any hm ?_
 obtain⟨g,β,h⟩:=h;have hu:Zm ops.size (Array.replicate ops.size aR)=List.range' 0 ops.toList.length:=by
  unfold Zm;rw[jq.2]
  ·simp[List.range_eq_range']
  ·intro i hi;have hi:i < ops.size:=by simpa using hi
   simp[cQ,hi]
 refine am7 (bM:=bM) hΓ hE (fs:=fs) (sn:=sn) (λm1 m2 h1 h2=>g5 m1 m2 (aP _) h1 (by simpa using h2)) (λa' w' hs=>hk sn a' w' hs g3) ops.size _ s a _ (by simp) (by rw[hu];simp) (λi hi hl=> ?_) (by rw[hu];exact g2) ⟨g,β,h.drew⟩;simp[cQ,hi]at hl
end
end Go.Ab
namespace Go.Ab
theorem vO{ρ:Ren}{s:AS}(h:∀id,(s.obj id).isSome=aT->∀ver,ρ id ver=al (id,ver)):∀(v:aD),v.there s=aT->v.iK ρ=v
 | .ptr id ver p n,ht=>by simp only[aD.iK];rw[h id ht]
 | .b8 id ver p c i len,ht=>by simp only[aD.iK];rw[h id ht]
 | .pr a b,ht=>by simp only[aD.there,av]at ht;simp only[aD.iK];rw[vO h a ht.1,vO h b ht.2]
 | .cons a b,ht=>by simp only[aD.there,av]at ht;simp only[aD.iK];rw[vO h a ht.1,vO h b ht.2]
 | .fn f c,ht=>by simp only[aD.iK];rw[vO h c ht]
 | .bx e z c,ht=>by simp only[aD.iK];rw[vO h c ht]
 | .cP id ver,ht=>by simp only[aD.iK];rw[h id ht]
 | .yl id ver,ht=>by simp only[aD.iK];rw[h id ht]
 | .yH k f p,ht=>by simp only[aD.iK];rw[vO h f ht]
 | .qh ..,ht=>by cases ht
 | .undef,_ | .gone,_ | .dI,_ | .j7,_ | .vF,_ | .Bd,_ | .d _ _,_ | .eN _ _,_ | .nil,_ | .vec ..,_ | .mp ..,_ | .sb _,_=>rfl
theorem aB6.bu{E E':Env}(hm:sC E E')(hh:∀b:Nat,E'.w.heap[b]? =E.w.heap[b]?){i q:Id}{ver:Nat}{kt vt:Ty}{rest:List (kt.den×vt.den)}{cur:Option (kt.den×vt.den)}(h:aB6 E i q ver kt vt rest cur)(hβ:E'.β i=E.β i)
  (hg:∀pl,E.β i=al pl->E.g pl.b= .own (.id i) 0->E'.g pl.b= .own (.id i) 0)
  (hq:∀vr,ver=vr+1->(E.DL q vr->E'.DL q vr/\(E'.cur q vr->E.cur q vr/\E'.β q=E.β q))/\(∀k v l,E.s q=al (.obj vr aT (.mp k v l))->E'.s q=al (.obj vr aT (.mp k v l)))/\
   ∀pl,E.β q=al pl->E.g pl.b= .own (.id q) 0->E'.g pl.b= .own (.id q) 0):aB6 E' i q ver kt vt rest cur:=by
 obtain⟨pl,mb,since,seen,c0,h1,h2,h3,h4⟩:=h;refine⟨pl,mb,since,seen,c0,by rw[hβ,h1],by rw[hh,h2],hg pl h1 h3,λvr ahb=> ?_⟩;obtain⟨h5,h6⟩:=h4 vr ahb;obtain⟨q1,q2,q3⟩:=hq vr ahb;obtain⟨b1,b2⟩:=q1 h5;refine⟨b1,λhc=> ?_⟩;obtain⟨c1,c2⟩:=b2 hc;obtain⟨⟨k,v,l,k0⟩,plq,es,clock,k1,k2,k3,k4,k5,k6,k7,k8,k9⟩:=h6 c1;exact⟨⟨k,v,l,q2 _ _ _ k0⟩,plq,es,clock,by rw[c2,k1],k2,by rw[hh,k3],q3 _ k1 k4,k5,k6,k7,k8.mono hm,λx hx=>
  let⟨e,se,a1,a2,a3,a4⟩:=k9 x hx
  ⟨e,se,a1,a2,a3,a4.mono hm⟩⟩
theorem aiM(c:aD):(∃q ver k v l cu,c= .qh q ver k v l cu)\/(∀ρ kp,c.aqs ρ kp=c.iK ρ)/\∀s v fr,dR.there s (.obj v fr c)=c.there s:=by cases c <;> first | exact .inl ⟨_,_,_,_,_,_,rfl⟩ | exact .inr ⟨λ_ _=>rfl,λ_ _ _=>rfl⟩
section
variable {P:aN} {C:Ctx} {g:Nat->lQ} {β:Id->Option Pl} {s:AS} {a:Act} {w:bU}
theorem Inv.On(h:Inv C g β s a w)(hC:C.ok){s1:AS}{g1:Nat->lQ}{β1:Id->Option Pl}(ρ:Ren)(hlen:s1.cr.length=s.cr.length)(ht:Trans w w g g1)(hle:yK ρ (s.env w g β) (s1.env w g1 β1))
  (S3:∀i,VS (s1.env w g1 β1) (s1.slot i) (a.tmps.getD i undef))
  (cO:∀id ver fr c,s1.bS id=al (.obj ver fr c)->vi (s1.env w g1 β1) id fr c\/∃id0 v0 c0,s.bS id0=al (.obj v0 fr c0)/\c0.iK ρ=c/\β1 id=β id0/\∀pl,β id0=al pl->(∀k,g pl.b= .own (.id id0) k->g1 pl.b= .own (.id id) k)/\(g pl.b= .free->g1 pl.b= .free))
  (hold:∀k,(s.bS (.bG k)≠aJ->s1.bS (.bG k)≠aJ)/\(∀v fr c,s1.bS (.bG k)=al (.obj v fr c)->∃c0,s.bS (.bG k)=al (.obj v fr c0))/\β1 (.bG k)=β (.bG k)):Inv C g1 β1 s1 a w:=by
 refine⟨h.defers.mono ht,by rw[hlen];exact h.size,S3,λid ver fr c dg=> ?_,h.trans.trans ht,?_⟩
 ·rcases cO id ver fr c dg with ho | ⟨id0,v0,c0,h1,h2,h3,h4⟩
  ·exact ho
  have:=vj hle (h.bM id0 v0 fr c0 h1) (id':=id) h3 λpl hp=>⟨rfl,(h4 pl hp).1,(h4 pl hp).2⟩
  rw[h2]at this;exact this
 ·have hl:=h.le;have ho:∀id ver,C.E.DL id ver->∃k,id= .bG k:=λid ver hb=>by
   cases id with
   |bG k=>exact⟨k,rfl⟩
   |new i j=>exact absurd (hC.1 i j) hb.1
  refine⟨hl.mem.trans (Trans.mem (E:=s.env w g β) (E':=s1.env w g1 β1) ht),λid ver hb=> ?_,λid ver hb hc=> ?_⟩
  ·obtain⟨k,rfl⟩:=ho id ver hb;obtain⟨h1,h2⟩:=hl.DL _ ver hb;obtain⟨e1,e2,_⟩:=hold k;exact⟨e1 h1,λv fr c hh=>let⟨c0,Rp⟩:=e2 v fr c hh;h2 v fr c0 Rp⟩
  ·obtain⟨k,rfl⟩:=ho id ver hb;obtain⟨fr,c,hc⟩:=hc;obtain⟨_,e2,e3⟩:=hold k;obtain⟨c0,Rp⟩:=e2 _ _ _ hc;obtain⟨h1,h2⟩:=hl.cur _ ver hb ⟨fr,c0,Rp⟩;exact⟨h1,e3.trans h2⟩
theorem Inv.renamed(h:Inv C g β s a w)(hC:C.ok){s1:AS}{β1:Id->Option Pl}(ρ:Ren)(hlen:s1.cr.length=s.cr.length)(hle:yK ρ (s.env w g β) (s1.env w g β1))
  (S3:∀i,VS (s1.env w g β1) (s1.slot i) (a.tmps.getD i undef)) (cO:∀id ver fr c,s1.bS id=al (.obj ver fr c)->vi (s1.env w g β1) id fr c\/∃v0,s.bS id=al (.obj v0 fr c)/\c.iK ρ=c/\β1 id=β id)
  (hold:∀k,s1.bS (.bG k)=s.bS (.bG k)/\β1 (.bG k)=β (.bG k)):Inv C g β1 s1 a w:=
 h.On hC ρ hlen (Trans.refl w g) hle S3 (λid ver fr c dg=>(cO id ver fr c dg).imp (λh=>h) λ⟨v0,h1,h2,h3⟩=>⟨id,v0,c,h1,h2,h3,λ_ _=>⟨λ_ h=>h,λh=>h⟩⟩)
  λk=>⟨λhh=>by rw[(hold k).1];exact hh,λv fr c hh=>⟨c,(hold k).1.symm.trans hh⟩,(hold k).2⟩
theorem Inv.aEN(h:Inv C g β s a w)(j:Nat){v:aD}(hv:VS (s.env w g β) v (a.tmps.getD j undef)):Inv C g β (s.put (al j) v) a w:=by
 refine⟨h.defers,by simpa[AS.put]using h.size,λi=> ?_,by simpa using h.bM,h.trans,by simpa using h.le⟩;rw[aam,Vt];split
 ·rename_i aG2;rw[aG2.1];exact hv
 ·exact h.cr i
theorem OE(bu:List Nat):∀(l:List aD) (n i:Nat),(eV bu n l).getD i .undef= .undef\/(eV bu n l).getD i .undef=l.getD i .undef
 |[],n,i=>by simp[eV]
 |v::l,n,0=>by
  simp only[eV,lO];split
  ·exact .inr rfl
  ·exact .inl rfl
 |v::l,n,i+1=>by simp only[eV,List.getD_cons_succ];exact OE bu l (n+1) i
theorem A8(bu:List Nat):∀(l:List aD) (n:Nat),(eV bu n l).length=l.length
 |[],n=>rfl
 |v::l,n=>by simp[eV,A8 bu l]
theorem Y9(bu:List Nat):∀(l:List (List dR)) (n i:Nat),(nv bu n l).getD i []=[]\/(nv bu n l).getD i []=l.getD i []
 |[],n,i=>by simp[nv]
 |v::l,n,0=>by
  simp only[nv,lO];split
  ·exact .inr rfl
  ·exact .inl rfl
 |v::l,n,i+1=>by simp only[nv,List.getD_cons_succ];exact Y9 bu l (n+1) i
theorem apk{s:AS}(i:Nat):s.slot i= .undef\/s.slot i∈s.cr:=by
 unfold AS.slot;rw[aI];cases h:s.cr[i]? with
 |none=>exact .inl rfl
 |some v=>exact .inr (c8 h)
theorem ayN{s:AS}{id:Id}{e:dR}(h:s.bS id=al e):e∈s.cj\/∃es∈s.news,e∈es:=by
 cases id with
 |bG k=>exact .inl (c8 h)
 |new i j=>
  simp only[AS.bS,aI]at h;cases hi:s.news[i]? with
  |none=>rw[hi]at h;simp at h
  |some es=>rw[hi]at h;exact .inr ⟨es,c8 hi,c8 h⟩
theorem Inv.bu(h:Inv C g β s a w)(hC:C.ok){an:nJ}(ht:(Li an s).acR=aT):Inv C g β (Li an s) a w:=by
 obtain⟨ks,kt,_,_,_⟩:=an;obtain⟨s1,M6⟩:∃s1:AS,s1= {cr:=eV ks 0 s.cr,cj:=s.cj,news:=nv kt 0 s.news}:=⟨_,rfl⟩;have e1:s1.cr=eV ks 0 s.cr:=by rw[M6]
 have e2:s1.cj=s.cj:=by rw[M6]
 have e3:s1.news=nv kt 0 s.news:=by rw[M6]
 have ht:(s1.cr.all (aD.there s1) && s1.cj.all (dR.there s1) && s1.news.all λes=>es.all (dR.there s1))=aT:=by rw[M6];exact ht
 show Inv C g β {cr:=eV ks 0 s.cr,cj:=s.cj,news:=nv kt 0 s.news} a w;rw[<-M6];rw[av,av]at ht;obtain⟨⟨t1,t2⟩,t3⟩:=ht;have cO:∀id,s1.bS id=aJ\/s1.bS id=s.bS id:=λid=>by
  cases id with
  |bG k=>right;simp only[AS.bS,e2]
  |new i j=>
   simp only[AS.bS,e3];rcases Y9 kt s.news 0 i with h | h
   ·rw[h];exact .inl rfl
   ·rw[h];exact .inr rfl
 have azc:∀id,(s1.obj id).isSome=aT->s1.bS id=s.bS id:=λid hi=>by
  rcases cO id with h | h
  ·simp[AS.obj,h]at hi
  ·exact h
 let ρ:Ren:=λid ver=>if(s1.obj id).isSome=aT then al (id,ver) else aJ
 have hρ:∀v:aD,v.there s1=aT->v.iK ρ=v:=vO λid dg ver=>if_pos dg
 have hle:yK ρ (s.env w g β) (s1.env w g β):=by
  refine⟨⟨λ_ _ _ h=>h,λ_ _ h h'=>⟨h,h'⟩⟩,λid ver r hr hb=> ?_⟩;by_cases hi:(s1.obj id).isSome=aT
  ·have:ρ id ver=al (id,ver):=if_pos hi;rw[this,az]at hr;subst hr;have e:=azc id hi;obtain⟨b1,b2⟩:=hb;exact⟨⟨by show s1.bS id≠aJ;rw[e];exact b1,λv fr c hh=>b2 v fr c (e.symm.trans hh)⟩,λ⟨fr,c,hc⟩=>⟨⟨fr,c,e.symm.trans hc⟩,rfl⟩⟩
  ·have:ρ id ver=aJ:=if_neg hi;rw[this]at hr;cases hr
 refine h.renamed hC ρ (by rw[e1,A8]) hle (λi=> ?_) (λid ver fr c dg=> ?_) λk=>⟨by simp only[AS.bS,e2],rfl⟩
 ·rcases apk (s:=s1) i with hi | hi
  ·rw[hi];exact VS.undef
  ·have aIy:=c7.1 t1 _ hi;rcases OE ks s.cr 0 i with h1 | h1
   ·have:s1.slot i= .undef:=by simp only[AS.slot,e1,h1]
    rw[this];exact VS.undef
   ·have:s1.slot i=s.slot i:=by simp only[AS.slot,e1,h1]
    have hv:=Em hle (h.cr i);rw[<-this,hρ _ aIy]at hv;exact hv
 ·have:s1.bS id=s.bS id:=by
   rcases cO id with h | h
   ·rw[h]at dg;cases dg
   ·exact h
  have hc:dR.there s1 (.obj ver fr c)=aT:=by
   rcases ayN dg with h | ⟨es,h1,h2⟩
   ·exact c7.1 t2 _ h
   ·exact c7.1 (c7.1 t3 _ h1) _ h2
  rcases aiM c with⟨q,vq,k,v,l,cu,rfl⟩ | ⟨_,aIy⟩
  ·have e:=azc q hc;refine .inl (aB6.bu hle.mem (λ_=>rfl) (h.bM id ver fr _ (this.symm.trans dg)) rfl (λ_ _ h=>h) λvr _=>⟨λhb=>hle.ref q vr (q,vr) (if_pos hc) hb,λk v l hk=>e.trans hk,λ_ _ h=>h⟩)
  ·rw[aIy]at hc;exact .inr ⟨ver,this.symm.trans dg,hρ c hc,rfl⟩
theorem Inv.drop(h:Inv C g β s a w)(ks:List Nat):Inv C g β (s.drop ks) a w:=by
 refine⟨h.defers,by simpa[AS.drop,A8]using h.size,λi=> ?_,h.bM,h.trans,h.le⟩;rcases OE ks s.cr 0 i with h1 | h1
 ·have:(s.drop ks).slot i= .undef:=h1;rw[this];exact VS.undef
 ·have:(s.drop ks).slot i=s.slot i:=h1;rw[this];exact h.cr i
def Dp(b q:Nat):lQ->lQ
 | .own (.id (.new x j)) k=>if x=b then .own (.id (.new q j)) k else .own (.id (.new x j)) k
 |l=>l
theorem Trans.aGn(w:bU)(g:Nat->lQ)(b q:Nat):Trans w w g λx=>Dp b q (g x):=by
 refine⟨rfl,rfl,⟨rfl,aF _⟩,aF _,λy _=> ?_⟩;cases hg:g y with
 |free=>exact⟨by simp[Dp],rfl⟩
 |own o k=>cases o with
  |eM=>exact⟨by simp[Dp],rfl⟩
  |id x=>
   refine⟨.inr ?_,λ_ _ _ h=>h⟩;cases x with
   |bG m=>exact⟨_,_,rfl,aF _⟩
   |new x j=>
    simp only[Dp];split
    ·exact⟨_,_,rfl,aF _⟩
    ·exact⟨_,_,rfl,aF _⟩
theorem Vs(f:aD->aD)(hf:f .undef= .undef)(l:List aD)(i:Nat):(l.map f).getD i .undef=f (l.getD i .undef):=by simp only[aI,eK];cases l[i]? <;> simp[hf]
theorem Inv.FF(h:Inv C g β s a w)(hC:C.ok){b q:Nat}(aCP:b < s.news.length)(aIo:q < s.news.length):
  ∃g1 β1,Inv C g1 β1 (s.FF b q (s.news.getD b [])) a w:=by
 generalize aKo:s.news.getD b []=es;have aFv:∀j,s.bS (.new b j)=es[j]? :=λj=>by rw[<-aKo];rfl
 let ρ:Ren:=Mm es b q
 let s1:=s.FF b q es
 have kS:∀j',s1.bS (.new q j')=(es[j']?).map (dR.ajV ρ):=λj'=>by simp[s1,AS.FF,AS.bS,aI,aIo,ρ]
 have aFz:b≠q->∀j',s1.bS (.new b j')=aJ:=λaCQ j'=>by
  have hbq':¬q=b:=λe=>aCQ e.symm
  simp only[s1,AS.FF,AS.bS,aI];rw[eF hbq',List.getElem?_set,if_pos rfl];split <;> simp
 have G4:∀i,(∀j',i≠ .new q j')->(∀j',i≠ .new b j')->s1.bS i=(s.bS i).map (dR.W3 ρ (GJ b q)):=λi hi hi'=>by
  cases i with
  |bG k=>simp[s1,AS.FF,AS.bS,ρ]
  |new x y=>
   have h1:¬q=x:=λe=>hi y (by rw[e])
   have h2:¬b=x:=λe=>hi' y (by rw[e])
   simp only[s1,AS.FF,AS.bS,aI];rw[eF h1,eF h2,eK];cases s.news[x]? <;> simp[ρ]
 let g1:Nat->lQ:=λx=>Dp b q (g x)
 let β1:Id->Option Pl:=λi=>match i with | .new x j=>if x=q then β (.new b j) else β (.new x j) | .bG k=>β (.bG k)
 have hβ1:∀i,(∀j',i≠ .new q j')->β1 i=β i:=λi hi=>by
  cases i with
  |bG k=>rfl
  |new x y=>exact if_neg λe=>hi y (by rw[e])
 have ht:Trans w w g g1:=Trans.aGn w g _ _;have hρ:∀i ver r,ρ i ver=al r->(∃j fr c,i= .new b j/\es[j]? =al (.obj ver fr c)/\r=(.new q j,0))\/((∀j',i≠ .new q j')/\(∀j',i≠ .new b j')/\r=(i,ver)):=λi ver r hr=>by
  replace hr:Mm es b q i ver=al r:=hr
  cases i with
  |bG k=>exact .inr ⟨λ_=>by simp,λ_=>by simp,(aO hr).symm⟩
  |new x j=>
   unfold Mm at hr;simp only at hr;split at hr
   ·rename_i hx;have hx:x=b:=by simpa using hx
    subst hx;split at hr
    ·rename_i v fr c he;split at hr
     ·rename_i hv;have hv:ver=v:=by simpa using hv
      subst hv;exact .inl ⟨j,fr,c,rfl,he,(aO hr).symm⟩
     ·cases hr
    ·cases hr
   ·rename_i hx;have hx:¬x=b:=by simpa using hx
    split at hr
    ·cases hr
    ·rename_i hx';have hx':¬x=q:=by simpa using hx'
     exact .inr ⟨λ_ e=>hx' (by injection e),λ_ e=>hx (by injection e),(aO hr).symm⟩
 have hle:yK ρ (s.env w g β) (s1.env w g1 β1):=by
  refine⟨Trans.mem (E:=s.env w g β) (E':=s1.env w g1 β1) ht,λi ver r hr aez=> ?_⟩;rcases hρ i ver r hr with⟨j,fr,c,rfl,he,rfl⟩ | ⟨hi,hi',rfl⟩
  ·refine⟨⟨by show s1.bS (.new q j)≠aJ;rw[kS,he];simp,λ_ _ _ _=>aP _⟩,λ_=>⟨⟨fr,c,(aFv j).trans he⟩,if_pos rfl⟩⟩
  ·obtain⟨k1,k2⟩:=aez;have k1:s.bS i≠aJ:=k1;have e:s1.bS i=(s.bS i).map (dR.W3 ρ (GJ b q)):=G4 i hi hi';have back:∀v' fr' c',s1.bS i=al (.obj v' fr' c')->∃c0,s.bS i=al (.obj v' fr' c0):=λv' fr' c' hh=>by
    rw[e]at hh;cases hs:s.bS i with
    |none=>exact absurd hs k1
    |some en=>
     rw[hs]at hh;cases en with
     |dead=>simp[dR.W3]at hh
     |obj v0 fr0 c0=>
      simp only[eo,dR.W3,az,dR.obj.injEq]at hh;obtain⟨rfl,rfl,_⟩:=hh;exact⟨c0,rfl⟩
   refine⟨⟨by
    show s1.bS i≠aJ;rw[e];cases hs:s.bS i with
    |none=>exact absurd hs k1
    |some en=>simp,λv' fr' c' hh=> ?_⟩,λ⟨fr',c',hh⟩=> ?_⟩
   ·obtain⟨c0,Rp⟩:=back v' fr' c' hh;exact k2 v' fr' c0 Rp
   ·obtain⟨c0,Rp⟩:=back ver fr' c' hh;exact⟨⟨fr',c0,Rp⟩,hβ1 i hi⟩
 have aGY:∀(i:Id),(∀j',i≠ .new b j')->∀(x:Nat) (k:Nat),g x= .own (.id i) k->g1 x= .own (.id i) k:=λi hi x k hk=>by
  show Dp b q (g x)=_;rw[hk];cases i with
  |bG m=>rfl
  |new y j=>exact if_neg λe=>hi j (by rw[e])
 refine⟨g1,β1,h.On hC ρ (by simp[AS.FF]) ht hle (λi=> ?_) (λid ver fr' c' dg=> ?_) λk=>⟨λhk=> ?_,λv' fr' c' hh=> ?_,rfl⟩⟩
 ·have:(s.FF b q es).slot i=(s.slot i).iK ρ:=Vs _ rfl _ _;rw[this];exact Em hle (h.cr i)
 ·have dg:s1.bS id=al (.obj ver fr' c'):=dg;by_cases hi:∃j',id= .new q j'
  ·obtain⟨j',rfl⟩:=hi;rw[kS]at dg;cases he:es[j']? with
   |none=>rw[he]at dg;cases dg
   |some en=>
    rw[he]at dg;cases en with
    |dead=>simp[dR.ajV]at dg
    |obj v0 fr0 c0=>
     simp only[eo,dR.ajV,az,dR.obj.injEq]at dg;obtain⟨_,rfl,rfl⟩:=dg;exact .inr ⟨.new b j',v0,c0,(aFv j').trans he,rfl,if_pos rfl,λpl hp=>⟨λk hk=>by
      show Dp b q (g pl.b)=_;rw[hk];exact if_pos rfl,λhk=>by
      show Dp b q (g pl.b)=_;rw[hk];rfl⟩⟩
  ·by_cases hi':∃j',id= .new b j'
   ·obtain⟨j',rfl⟩:=hi';have aCQ:b≠q:=λe=>hi ⟨j',by rw[e]⟩
    rw[aFz aCQ]at dg;cases dg
   ·have aG6:∀j',id≠ .new q j':=λj' e=>hi ⟨j',e⟩
    have hni':∀j',id≠ .new b j':=λj' e=>hi' ⟨j',e⟩
    have e:=G4 id aG6 hni';rw[e]at dg;cases hs:s.bS id with
    |none=>rw[hs]at dg;cases dg
    |some en=>
     rw[hs]at dg;cases en with
     |dead=>simp[dR.W3]at dg
     |obj v0 fr0 c0=>
      simp only[eo,dR.W3,az,dR.obj.injEq]at dg;obtain⟨rfl,rfl,rfl⟩:=dg;rcases aiM c0 with⟨q2,vq,k,v2,l,cu,rfl⟩ | ⟨aDb,_⟩
      ·have h0:=h.bM id v0 fr0 _ hs;left;simp only[aD.aqs];cases aG3:GJ b q q2 with
       |true=>
        have alF:(∀j',q2≠ .new b j')/\(∀j',q2≠ .new q j')/\∀vr,ρ q2 vr=al (q2,vr):=by
         cases q2 with
         |bG k=>exact⟨λ_=>by simp,λ_=>by simp,λ_=>rfl⟩
         |new x y=>
          simp only[GJ,av,ct,gM]at aG3;obtain⟨k1,k2⟩:=aG3;refine⟨λ_ e=>k1 (by injection e),λ_ e=>k2 (by injection e),λvr=> ?_⟩;show Mm es b q (.new x y) vr=_;unfold Mm;simp only[jm k1,jm k2]
        obtain⟨alF,alG,hρq⟩:=alF;refine aB6.bu hle.mem (λ_=>rfl) h0 (hβ1 id aG6) (λpl _ hk=>aGY id hni' _ _ hk) λvr _=>⟨λhb=>hle.ref q2 vr (q2,vr) (hρq vr) hb,λk v l hk=> ?_,λpl _ hk=>aGY q2 alF _ _ hk⟩
        have hk:s.bS q2=al (.obj vr aT (.mp k v l)):=hk;show s1.bS q2=_;rw[G4 q2 alG alF,hk];rfl
       |false=>
        obtain⟨pl,mb,since,seen,c0,h1,h2,h3,h4⟩:=h0;exact⟨pl,mb,since,seen,c0,(hβ1 id aG6).trans h1,h2,aGY id hni' _ _ h3,λvr ahb=>au⟩
      rw[aDb];exact .inr ⟨id,v0,c0,hs,rfl,hβ1 id aG6,λpl hp=>⟨λk hk=>aGY id hni' _ _ hk,λhk=>by
       show Dp b q (g pl.b)=_;rw[hk];rfl⟩⟩
 ·have e:=G4 (.bG k) (λ_=>by simp) (λ_=>by simp);show s1.bS (.bG k)≠aJ;rw[e];cases hs:s.bS (.bG k) with
  |none=>exact absurd hs hk
  |some en=>simp
 ·have e:=G4 (.bG k) (λ_=>by simp) (λ_=>by simp);have hh:s1.bS (.bG k)=al (.obj v' fr' c'):=hh;rw[e]at hh;cases hs:s.bS (.bG k) with
  |none=>rw[hs]at hh;cases hh
  |some en=>
   rw[hs]at hh;cases en with
   |dead=>simp[dR.W3]at hh
   |obj v0 fr0 c0=>
    simp only[eo,dR.W3,az,dR.obj.injEq]at hh;obtain⟨rfl,rfl,_⟩:=hh;exact⟨c0,rfl⟩
theorem We{k t:Ty}{l:List (k.den×t.den)}:∀ {p:List GZ} {x c':aD},¬(wJ (.mp k t l) p x).eval=al c'
 |[],x,c',h=>by simp only[wJ,aw]at h
 | .arr::p,x,c',h=>by simp only[wJ]at h;exact We h
 | .idx i::p,x,c',h=>by simp only[wJ,aw]at h
 | .fst::p,x,c',h=>by simp only[wJ,aw]at h
 | .snd::p,x,c',h=>by simp only[wJ,aw]at h
theorem acw{q:Id}{vq:Nat}{k t:Ty}{l:List (k.den×t.den)}{cu:Option (k.den×t.den)}:∀ {p:List GZ} {x c':aD},¬(wJ (.qh q vq k t l cu) p x).eval=al c'
 |[],x,c',h=>by simp only[wJ,aw]at h
 | .arr::p,x,c',h=>by simp only[wJ]at h;exact acw h
 | .idx i::p,x,c',h=>by simp only[wJ,aw]at h
 | .fst::p,x,c',h=>by simp only[wJ,aw]at h
 | .snd::p,x,c',h=>by simp only[wJ,aw]at h
theorem acx{k:tQ}{f:aD}{m:Nat}:∀ {p:List GZ} {x c':aD},¬(wJ (.yH k f m) p x).eval=al c'
 |[],x,c',h=>by simp only[wJ,aw]at h
 | .arr::p,x,c',h=>by simp only[wJ]at h;exact acx h
 | .idx i::p,x,c',h=>by simp only[wJ,aw]at h
 | .fst::p,x,c',h=>by simp only[wJ,aw]at h
 | .snd::p,x,c',h=>by simp only[wJ,aw]at h
theorem Qx{l:List Value}{n:Nat}{vs:List Value}(h:(l.drop n).take vs.length=vs):dE l n vs=l:=by
 unfold dE;have h2:l.drop n=vs++l.drop (n+vs.length):=by
  conv=>lhs;rw[<-dw vs.length (l.drop n)]
  rw[h,gA]
 have h3:=dw n l;rw[h2]at h3;simpa[aM]using h3
theorem Inv.aGd(h:Inv C g β s a w){j:Nat}{p:List GZ}(M4:(s.at j p).eval=al .dI){q:Nat}(hq:s.eB q=aT){e:TypeId}{t:Ty}(hz:0 < t.size){s':AS}
  (he:((s.born q [.obj 0 aR (.vec e t [])]).putAt j (.b8 (.new q 0) 0 [] 0 0 0) p).eval=al s'):gT C s' a w:=by
 obtain⟨β',h1,h2,h3⟩:=h.avc hq (e:=e) hz;cases p with
 |nil=>
  simp only[AS.at]at M4;have hj:=ay.1 M4;simp only[AS.putAt]at he;obtain rfl:=ay.1 he;refine⟨g,β',h1.aEN j ?_⟩;have:=h.cr j;rw[hj]at this;rw[kZ this];exact h3
 |cons st p=>
  simp only[AS.at]at M4;simp only[AS.putAt]at he;have S3:(s.born q [.obj 0 aR (.vec e t [])]).slot j=s.slot j:=rfl;rw[S3]at he;split at M4
  ·rename_i id ver p0 nn hj;split at M4
   ·rename_i v fr c kk;obtain⟨hv,M4⟩:=aG.1 M4;obtain⟨⟨n,u⟩,hl,M4⟩:=ax.1 M4;have hu:=ay.1 M4;simp only at hu;subst hu;have cO:=dZ kk;have gJ:id≠ .new q 0:=λe=>by rw[e,(ke hq).1 0]at cO;cases cO
    have hne':∀j',id≠ .new q j':=λj' e=>by rw[e,(ke hq).1 j']at cO;cases cO
    have sR:(s.born q [.obj 0 aR (.vec e t [])]).bS id=al (.obj v fr c):=(iZ _ hne').trans cO;have aC6:(s.born q [.obj 0 aR (.vec e t [])]).obj id=al (v,fr,c):=by simp only[AS.obj,sR]
    simp only[hj,aC6]at he;split at he
    ·simp only[aw]at he
    ·rename_i c1 aHS;obtain⟨c',QV,he⟩:=ax.1 he;obtain rfl:=ay.1 he;have hn:c.iu=aR:=by cases c <;> first | rfl | (exact(aHS _ _ _ rfl).elim) | (exact absurd QV We) | (exact absurd QV acw) | (exact absurd QV acx)
     have hO:=h1.bM id v fr c sR;obtain⟨pl,cur,e0,hp,hh,hg,hk,hV⟩:=hO.box hn;have ht:=Trans.refl w g;have hN:=Rh hk;have hle:=cU.aZ (s:=s.born q [.obj 0 aR (.vec e t [])]) (β:=β') (v':=v) (fr':=fr) (c':=c.wrap c') sR (aF _) ht (λ_ _=>rfl) (λ_=>rfl);refine⟨g,β',h1.step (dv _ _ _) ht hle (iP.aZ h1.bM (by rw[sR];simp) hle (λ_ _=>rfl) (λ_ _ _ _ _ _ _ _=>⟨rfl,rfl⟩) ?_ (pF sR λk v1 l e=>by subst e;exact absurd QV We))⟩;obtain⟨cs,k1,k2⟩:=h3;have k2:cs=[.slice aJ 0 0]:=k2;subst k2;obtain⟨u1,u2,u3⟩:=pW (p0++st::p) c.strip (cur.toList.take (c.vl cur.size)) n .dI _ c' [.slice aJ 0 0] (VO.of hV) hl k1 QV;have u4:=u2.to (u3.s8 hV.s8);have BZ:((cur.toList.take (c.vl cur.size)).drop n).take 1=[.slice aJ 0 0]:=by
      rcases rO (p0++st::p) c.strip (cur.toList.take (c.vl cur.size)) n .dI (VO.of hV) hl with⟨aza,Rp⟩ | ⟨q1,q2⟩
      ·rw[<-Rp]at hV;simp only[V]at hV;rw[hV,aza];rfl
      ·simpa only[V,aD.size]using q1
     rw[Qx (vs:=[.slice aJ 0 0]) BZ]at u4;have rM:c'.size=c.strip.size:=by have e1:=u4.size;have e2:=hV.size;omega
     exact Nb.obj ⟨pl,cur,e0,hp,hh,hg,Is hk u4.zo rM,by rw[JD c u4.zo,No u4.zo rM];exact V.mono hle u4⟩
   ·simp only[aw]at M4
  ·simp only[aw]at M4
theorem Ht:∀(ids:List Id) {s:AS} {i:Id} {v:Nat} {fr:Bool} {c:aD},s.bS i=al (.obj v fr c)->∃fr',(s.bp ids).bS i=al (.obj v fr' c)
 |[],s,i,v,fr,c,h=>⟨fr,h⟩
 |id::ids,s,i,v,fr,c,h=>by obtain⟨fr',h'⟩:=SH (id:=id) h;exact Ht ids h'
theorem Inv.aE2(h:Inv C g β s a w){j:Nat}{p:List GZ}{u:aD}(M4:(s.at j p).eval=al u){t:Ty}{x:t.den}(ht:(s.iL t u).eval=al x){s':AS}
  (he:((s.bp u.shared).putAt j (.d t x) p).eval=al s'):gT C s' a w:=by
 cases p with
 |nil=>
  simp only[AS.at]at M4;have hj:=ay.1 M4;simp only[AS.putAt]at he;obtain rfl:=ay.1 he;have hs:=h.cr j;rw[hj]at hs;obtain⟨g',i1,_,_,cs,hR,hO⟩:=zL h hs ht;exact⟨g',β,i1.aEN j (VS.of (a:= .d t x) (cs:=cs) (by simpa only[V]using hR) hO)⟩
 |cons st p=>
  simp only[AS.at]at M4;simp only[AS.putAt]at he;have S3:(s.bp u.shared).slot j=s.slot j:=by simp only[AS.slot,nk]
  rw[S3]at he;split at M4
  ·rename_i id ver p0 nn hj;split at M4
   ·rename_i v fr c kk;obtain⟨hv,M4⟩:=aG.1 M4;obtain⟨⟨n,u'⟩,hl,M4⟩:=ax.1 M4;have hu:=ay.1 M4;simp only at hu;subst hu;have cO:=dZ kk;obtain⟨g',h1,h2,h3,h4⟩:=fi u'.shared h;obtain⟨fr',sR⟩:=Ht u'.shared cO;have aC6:(s.bp u'.shared).obj id=al (v,fr',c):=by simp only[AS.obj,sR]
    simp only[hj,aC6]at he;split at he
    ·simp only[aw]at he
    ·rename_i c1 aHS;obtain⟨c',QV,he⟩:=ax.1 he;obtain rfl:=ay.1 he;have hn:c.iu=aR:=by cases c <;> first | rfl | (exact(aHS _ _ _ rfl).elim) | (exact absurd QV We) | (exact absurd QV acw) | (exact absurd QV acx)
     obtain⟨pl0,cur0,e00,aC8,aCZ,aHY,aFB,hV0⟩:=(h.bM id v fr c cO).box hn;obtain⟨pl,cur,e0,hp,hh,hg,hk,hV⟩:=(h1.bM id v fr' c sR).box hn;have QU:pl0=pl:=by have aC8:β id=al pl0:=aC8;have hp:β id=al pl:=hp;rw[aC8]at hp;exact aO hp
     subst QU;have fH:cur0=cur:=by
      have aCZ:w.heap[pl0.b]? =_:=aCZ
      have hh:w.heap[pl0.b]? =_:=hh
      rw[aCZ]at hh;simpa using(bE (λo=>match o with | some (.cells x _ _)=>x | _=>cur0) hh)
     subst fH;obtain⟨cs,hVu,BZ⟩:∃cs,V (s.env w g β) u' cs/\((cur0.toList.take (c.vl cur0.size)).drop n).take cs.length=cs:=by
      rcases rO (p0++st::p) c.strip (cur0.toList.take (c.vl cur0.size)) n u' (VO.of hV0) hl with⟨aza,Rp⟩ | ⟨q1,q2⟩
      ·refine⟨cur0.toList.take (c.vl cur0.size),by rw[Rp];exact hV0,?_⟩;rw[aza,aQ,cJ]
      ·refine⟨_,q1,?_⟩;rw[cG,de];congr 1;omega
     have hR:=tx rfl h.bM h2 u' t x cs hVu ht h4;have hVx:V ((s.bp u'.shared).env w g' β) (.d t x) cs:=by simpa only[V]using hR
     have ht':=Trans.refl w g';have hle:=cU.aZ (s:=s.bp u'.shared) (β:=β) (v':=v) (fr':=fr') (c':=c.wrap c') sR (aF _) ht' (λ_ _=>rfl) (λ_=>rfl);refine⟨g',β,h1.step (dv _ _ _) ht' hle (iP.aZ h1.bM (by rw[sR];simp) hle (λ_ _=>rfl) (λ_ _ _ _ _ _ _ _=>⟨rfl,rfl⟩) ?_ (pF sR λk v1 l e=>by subst e;exact absurd QV We))⟩;obtain⟨u1,u2,u3⟩:=pW (p0++st::p) c.strip (cur0.toList.take (c.vl cur0.size)) n u' _ c' cs (VO.of hV) hl hVx QV;have u4:=u2.to (u3.s8 hV.s8);rw[Qx (vs:=cs) BZ]at u4;have rM:c'.size=c.strip.size:=by have e1:=u4.size;have e2:=hV.size;omega
     exact Nb.obj ⟨pl0,cur0,e0,hp,hh,hg,Is hk u4.zo rM,by rw[JD c u4.zo,No u4.zo rM];exact V.mono hle u4⟩
   ·simp only[aw]at M4
  ·simp only[aw]at M4
theorem IT{E:Env}:∀(t:Ty) (x:t.den) (u:aD),(IS t x).eval=al u->∀cs,cI E t cs x->V E u cs
 | .fZ t,x,u,h,cs,hr=>by simp only[IS]at h;obtain⟨h1,h2⟩:=bR.1 h;obtain rfl:=ay.1 h2;simp only[cI]at hr;simp only[V];exact hr.1 (Option.isNone_iff_eq_none.1 h1)
 | .pair a b,x,u,h,cs,hr=>by simp only[IS]at h;obtain⟨u1,h1,h2⟩:=ax.1 h;obtain⟨u2,h3,h4⟩:=ax.1 h2;obtain rfl:=ay.1 h4;simp only[cI]at hr;obtain⟨ca,cb,rfl,ha,hb⟩:=hr;exact aho (IT a x.1 u1 h1 ca ha) (IT b x.2 u2 h3 cb hb)
 | .int k,x,u,h,cs,hr=>by simp only[IS]at h;obtain rfl:=ay.1 h;simpa only[V]using hr
 | .bool,x,u,h,cs,hr=>by simp only[IS]at h;obtain rfl:=ay.1 h;simpa only[V]using hr
 | .str,x,u,h,cs,hr=>by simp only[IS]at h;obtain rfl:=ay.1 h;simpa only[V]using hr
 | .slice t,x,u,h,cs,hr=>by simp only[IS]at h;obtain rfl:=ay.1 h;simpa only[V]using hr
 | .unit,x,u,h,cs,hr=>by simp only[IS]at h;obtain rfl:=ay.1 h;simpa only[V]using hr
 | .arr n t,x,u,h,cs,hr=>by simp only[IS]at h;obtain rfl:=ay.1 h;simpa only[V]using hr
 | .nP t,x,u,h,cs,hr=>by simp only[IS]at h;obtain rfl:=ay.1 h;simpa only[V]using hr
 | .gO t,x,u,h,cs,hr=>by simp only[IS]at h;obtain rfl:=ay.1 h;simpa only[V]using hr
theorem anD{e:TypeId}{z:Nat}{c:aD}{pl:Pl}{n:Nat}(hz:0 < z)(h1:n=pl.cap*z)(h2:pl.cap<=maxLen)(h3:c.size<=n):(aD.bx e z c).Ew pl n e:=by
 cases z with
 |zero=>omega
 |succ z=>exact⟨rfl,h1,h2,h3⟩
theorem adq{e:TypeId}{z:Nat}{c:aD}{n:Nat}(hz:0 < z):(aD.bx e z c).vl n=c.size:=by
 cases z with
 |zero=>omega
 |succ z=>rfl
theorem abe{e e':TypeId}{z:Nat}{c:aD}{pl:Pl}{n:Nat}(hz:0 < z)(h:(aD.bx e z c).Ew pl n e'):e'=e/\n=pl.cap*z/\pl.cap<=maxLen/\c.size<=n:=by
 cases z with
 |zero=>omega
 |succ z=>exact h
theorem af0{E:Env}{id:Id}{ver n:Nat}{p p':List GZ}{y:Value}(h:VS E (.ptr id ver p n) y):VS E (.ptr id ver p' n) y:=by obtain⟨cs,h1,h2⟩:=h;exact⟨cs,by simpa only[V]using h1,h2⟩
theorem Inv.aE6(h:Inv C g β s a w){j:Nat}{id:Id}{ver n k v:Nat}{p p':List GZ}(hj:s.slot j= .ptr id ver p n){e:TypeId}{t:Ty}{r:List t.den}(kk:s.obj id=al (v,aR,.vec e t r))
  (hk:k < r.length) {u:aD} (hu:(IS t (nth t r k)).eval=al u):
  gT C ((s.aZ id (.obj v aR (.bx e t.size (.pr (.d (.arr k t) (r.take k)) (.pr u (.d (.arr (r.drop (k+1)).length t) (r.drop (k+1)))))))).put (al j) (.ptr id ver p' n)) a w:=by
 have cO:=dZ kk;obtain⟨hz,hO⟩:vi (s.env w g β) id aR (.vec e t r):=h.bM id v aR _ cO;have hO:(match β id with
  |none=>r=[]
  |some pl=>∃cur k,w.heap[pl.b]? =al (.cells cur e (0,0))/\cur.size=pl.cap*t.size/\r.length<=pl.cap/\pl.cap<=maxLen/\g pl.b= .own (.id id) k/\
    k<=r.length*t.size/\(aR=aR->k=0)/\bo (cI (s.env w g β) t) (cur.toList.take (r.length*t.size)) r):=hO
 have ht:=Trans.refl w g
 have hle:cU (s.env w g β) ((s.aZ id (.obj v aR (.bx e t.size (.pr (.d (.arr k t) (r.take k)) (.pr u (.d (.arr (r.drop (k+1)).length t) (r.drop (k+1)))))))).env w g β):=
  cU.aZ cO (aF _) ht (λ_ _=>rfl) (λ_=>rfl)
 have hI:=h.step (dv _ _ _) ht hle (iP.aZ h.bM (by rw[cO];simp) hle (λ_ _=>rfl) (λ_ _ _ _ _ _ _ _=>⟨rfl,rfl⟩) (acH:=Lo cO) (by
  cases hp:β id with
  |none=>rw[hp]at hO;simp only at hO;subst hO;simp at hk
  |some pl=>
   rw[hp]at hO;obtain⟨cur,k0,q1,q2,q3,q4,q5,q6,q7,q8⟩:=hO;have aFB:=q7 rfl;subst aFB;have ahe:∀c x,cI (s.env w g β) t c x->c.length=t.size:=λc x hx=>hx.size
   have c1:=bo.take ahe k q8;have c2:=(q8.get ahe k hk);have c3:=bo.drop ahe (k+1) q8;have acI:V (s.env w g β) u (((cur.toList.take (r.length*t.size)).drop (k*t.size)).take t.size):=IT t _ u (by rw[Ub hk]at hu;exact hu) _ c2;have aKS:=acI.size;have hlen:(cur.toList.take (r.length*t.size)).length=r.length*t.size:=bo.length ahe q8;have rM:r.length*t.size<=cur.size:=by rw[q2];exact c9 _ q3
   have aLt:(k+1)*t.size<=r.length*t.size:=c9 _ hk;have alF:(k+1)*t.size=k*t.size+t.size:=Nat.succ_mul k t.size;have aDe:u.size=t.size:=by rw[<-aKS,cG,de,hlen];omega
   have hm:(r.drop (k+1)).length*t.size=r.length*t.size - (k+1)*t.size:=by rw[de,Nat.sub_mul]
   have aoH:(aD.pr (.d (.arr k t) (r.take k)) (.pr u (.d (.arr (r.drop (k+1)).length t) (r.drop (k+1))))).size=r.length*t.size:=by simp only[aD.size,Ty.size,aDe,hm];omega
   refine Nb.obj ⟨pl,cur,e,hp,q1,q5,anD hz q2 q4 (by rw[aoH];exact rM),?_⟩;rw[adq hz,aoH];refine V.mono hle ?_
   show V _ (.pr (.d (.arr k t) (r.take k)) (.pr u (.d (.arr (r.drop (k+1)).length t) (r.drop (k+1))))) _;simp only[V];generalize cur.toList.take (r.length*t.size)=R at*;refine⟨R.take (k*t.size),R.drop (k*t.size),(dw _ _).symm,?_,(R.drop (k*t.size)).take t.size,R.drop ((k+1)*t.size),?_,acI,?_⟩
   ·simp only[cI];exact⟨by rw[cG];omega,c1⟩
   ·rw[alF,<-gA,dw]
   ·simp only[cI];exact⟨trivial,c3⟩))
 refine⟨g,β,hI.aEN j ?_⟩;have:=h.cr j;rw[hj]at this;exact af0 (VS.mono hle this)
theorem NC:∀(l:List Nat) {s s1:AS},gT C s a w->(aos s l).eval=al s1->gT C s1 a w
 |[],s,s1,h,he=>by simp only[aos]at he;obtain rfl:=ay.1 he;exact h
 |j::l,s,s1,h,he=>by
  obtain⟨g,β,h⟩:=h;simp only[aos]at he;split at he
  ·rename_i id ver k p n hj;split at he
   ·rename_i v e t r kk;obtain⟨h1,he⟩:=aG.1 he;obtain⟨h2,he⟩:=bR.1 he;obtain⟨u,h3,he⟩:=ax.1 he;exact NC l (h.aE6 hj kk (of_decide_eq_true h2) h3) he
   ·simp only[aw]at he
  ·exact NC l ⟨g,β,h⟩ he
  ·simp only[aw]at he
theorem Nz{s:AS}{id i:Id}(h:i≠id):(s.freeze id).bS i=s.bS i:=by
 unfold AS.freeze;split
 ·exact df s id i _ h
 ·rfl
theorem qa:∀(ids:List Id) {s:AS} {i:Id},i ∉ ids->(s.bp ids).bS i=s.bS i
 |[],_,_,_=>rfl
 |id::ids,s,i,h=>by
  have h1:i≠id:=λe=>h (by rw[e];exact aL)
  exact(qa ids λhi=>h (aK _ hi)).trans (Nz h1)
theorem bo.mem{α:Type}{R:List Value->α->Prop}:∀ {cs:List Value} {l:List α},bo R cs l->∀x∈l,∃c,R c x
 |_,[],_,x,hx=>by cases hx
 |_,_::_,⟨c,cs',_,hc,hr⟩,x,hx=>by
  rcases cg.1 hx with rfl | hx
  ·exact⟨c,hc⟩
  ·exact bo.mem hr x hx
theorem cI.Q0{E:Env}:∀ {t:Ty} {cs:List Value} {x:t.den},cI E t cs x->∀n∈ij t x,E.g n= .free
 | .int _,_,_,_,n,hn=>by simp[ij]at hn
 | .bool,_,_,_,n,hn=>by simp[ij]at hn
 | .str,_,_,_,n,hn=>by simp[ij]at hn
 | .unit,_,_,_,n,hn=>by simp[ij]at hn
 | .slice t,_,x,h,n,hn=>by simp only[cI]at h;obtain⟨_,_,_,_,_,_,_,hc⟩:=h;obtain⟨y,hy,hn⟩:=iN.1 (show n∈(x:List t.den).flatMap (ij t) from hn);obtain⟨c,hc⟩:=hc.mem y hy;exact cI.Q0 hc n hn
 | .arr _ t,_,x,h,n,hn=>by simp only[cI]at h;obtain⟨y,hy,hn⟩:=iN.1 (show n∈(x:List t.den).flatMap (ij t) from hn);obtain⟨c,hc⟩:=h.2.mem y hy;exact cI.Q0 hc n hn
 | .pair a b,_,x,h,n,hn=>by
  simp only[cI]at h;obtain⟨_,_,_,ha,hb⟩:=h;rcases bD.1 (show n∈ij a x.1++ij b x.2 from hn) with hn | hn
  ·exact cI.Q0 ha n hn
  ·exact cI.Q0 hb n hn
 | .fZ t,_,x,h,n,hn=>by
  simp only[cI]at h;obtain⟨y,hy,hn⟩:=iN.1 (show n∈((x:Option (List t.den)).getD []).flatMap (ij t) from hn);cases hx:(x:Option (List t.den)) with
  |none=>rw[hx]at hy;cases hy
  |some l=>
   rw[hx]at hy;obtain⟨_,_,_,_,_,_,_,hc⟩:=h.2 l hx;obtain⟨c,hc⟩:=hc.mem y hy;exact cI.Q0 hc n hn
 | .nP t,_,x,h,n,hn=>by
  simp only[cI]at h;cases hx:(x:Option t.den) with
  |none=>rw[hx]at hn;simp[ij]at hn
  |some y=>
   rw[hx]at hn;obtain⟨_,_,_,_,_,hc⟩:=h.2 y hx;exact cI.Q0 hc n (by simpa only[ij]using hn)
 | .gO t,_,x,h,n,hn=>by
  simp only[cI]at h;cases hx:(x:Option (Nat×t.den)) with
  |none=>rw[hx]at hn;simp[ij]at hn
  |some y=>
   rw[hx]at hn;obtain⟨_,_,_,_,hf,_,hc⟩:=h.2 y hx;rcases cg.1 (show n∈y.1::ij t y.2 by simpa only[ij]using hn) with rfl | hn
   ·exact hf.1
   ·exact cI.Q0 hc n hn
theorem Inv.N4(h:Inv C g β s a w){v:aD}{y:Value}(hv:VS (s.env w g β) v y):∀n∈s.N4 v,g n= .free:=by
 intro n hn;unfold AS.N4 at hn;split at hn
 ·rename_i t x;obtain⟨cs,hV,_⟩:=hv.eQ rfl;simp only[V]at hV;exact cI.Q0 hV n hn
 ·rename_i id _ _ _ _ _;split at hn
  ·rename_i ve fr e t l kk;have hO:=h.bM id ve fr _ (dZ kk);obtain⟨_,hO⟩:=(hO:aCa (s.env w g β) id fr e t l);split at hO
   ·subst hO;simp at hn
   ·obtain⟨_,_,_,_,_,_,_,_,_,hc⟩:=hO;obtain⟨y,hy,hn⟩:=iN.1 hn;obtain⟨c,hc⟩:=hc.mem y hy;exact cI.Q0 hc n hn
  ·cases hn
 ·cases hn
theorem afr{x:aEV}{R:Type}{r:R}{k:AS->Option R}(h:gT C s a w)(he:avh s x k=al r):∃s',gT C s' a w/\k s'=al r:=by
 obtain⟨g,β,h⟩:=h;unfold avh at he;split at he <;> try (cases he;done)
 rename_i id ver hj;split at he <;> try (cases he;done)
 rename_i v c kk;obtain⟨y,h1,Ej⟩:=gS.1 he;obtain⟨y',h2,h3⟩:=ax.1 h1;obtain⟨h4,h5⟩:=aG.1 h3;obtain rfl:=ay.1 h5;simp only[av,dD,ct]at h4;obtain⟨⟨rfl,aHR⟩,aiB⟩:=h4;have azk:c.iu=aR:=by cases c <;> first | rfl | (simp[aD.aEZ]at aHR)
 have aiB:id ∉ c.strip.shared:=by simpa using aiB
 obtain⟨_,vy⟩:=Ny Ej;have cO:=dZ kk;obtain⟨pl,cur,e,hp,hh,aoK,jd,hV⟩:=(h.bM id v aR c cO).box azk;have hp:β id=al pl:=hp;have hh:w.heap[pl.b]? =al (.cells cur e (0,0)):=hh
 have aoK:g pl.b= .own (.id id) 0:=aoK;obtain⟨g1,i1,e1,t1,f1⟩:=fi c.strip.shared h;have hR1:=tx rfl h.bM e1 c.strip x.t y' _ hV h2 f1;have sR:(s.bp c.strip.shared).bS id=al (.obj v aR c):=(qa _ aiB).trans cO;obtain⟨g2,i2,e2,t2,f2⟩:=KU i1 id;have aFu:((s.bp c.strip.shared).freeze id).bS id=al (.obj v aT c):=by unfold AS.freeze;rw[sR];exact eL _ id _ (by rw[sR];simp)
 obtain⟨pl2,cur2,e2',QT,aG0,alH,_,_⟩:=(i2.bM id v aT c aFu).box azk;have QT:β id=al pl2:=QT;rw[hp]at QT;obtain rfl:=aO QT;have alH:g2 pl.b= .free:=alH;have hfresh:pl.b ∉ s.N4 (s.slot x.r):=λhn=>by have:=h.N4 (h.cr x.r) _ hn;rw[aoK]at this;cases this
 refine⟨_,⟨g2,β,i2.aEN x.j ?_⟩,vy pl.b hfresh⟩;have hs:=h.cr x.j;rw[hj]at hs;obtain⟨ad,hy,_,hc⟩:=tl hs;obtain⟨pl',hp',aiu⟩:=hc ⟨aR,c,cO⟩;have hp':β id=al pl':=hp';rw[hp]at hp';obtain rfl:=aO hp';rw[hy,aiu];refine⟨[.pointer (al ⟨pl.b,0,aJ⟩)],?_,rfl⟩;simp only[V,cI];refine⟨λhn=>by simp at hn,λz hz=> ?_⟩;have hz:(pl.b,y')=z:=aO hz;subst hz;refine⟨cur,e,cur.toList.take (c.vl cur.size),rfl,⟨alH,hh⟩,λi u hu=>⟨pl.b,0,rfl,?_,?_⟩,cI.mono e2.mem hR1⟩
 ·rw[db]at hu;split at hu
  ·show w.cell? ⟨pl.b,0+i,aJ⟩=al u;rw[ba];simp[eP,hh];simpa using hu
  ·cases hu
 ·show so g2 pl.b _;unfold so;rw[alH];trivial
theorem PY:∀(l:List aEV) {s:AS} {R:Type} {r:R} {k:AS->Option R},gT C s a w->avi l s k=al r->∃s',gT C s' a w/\k s'=al r
 |[],s,_,_,_,h,he=>⟨s,h,he⟩
 |x::l,s,_,_,_,h,he=>by obtain⟨s',h',he'⟩:=afr h he;exact PY l h' he'
theorem Inv.aGA(h:Inv C g β s a w){j:Nat}{id:Id}{ver n k m v z:Nat}{p p':List GZ}(hj:s.slot j= .ptr id ver p n){e:TypeId}{t:Ty}{l1 l2:List t.den}{u:aD}
  (kk:s.obj id=al (v,aR,.bx e z (.pr (.d (.arr k t) l1) (.pr u (.d (.arr m t) l2))))) (hz:z=t.size) (aDi:0 < z) (dg:id ∉ u.shared) {x:t.den} (hx:(s.iL t u).eval=al x):
  gT C (((s.bp u.shared).aZ id (.obj v aR (.vec e t (l1++x::l2)))).put (al j) (.ptr id ver p' n)) a w:=by
 have cO:=dZ kk;obtain⟨pl0,cur0,e0,aC8,aCZ,aHY,aFB,hV0⟩:=(h.bM id v aR _ cO).box rfl;obtain⟨g',h1,h2,h3,h4⟩:=fi u.shared h;have sR:(s.bp u.shared).bS id=al (.obj v aR (.bx e z (.pr (.d (.arr k t) l1) (.pr u (.d (.arr m t) l2))))):=(qa _ dg).trans cO;obtain⟨pl,cur,e1,hp,hh,hg,hk,hV⟩:=(h1.bM id v aR _ sR).box rfl;have hp:β id=al pl:=hp;have QU:pl0=pl:=by have aC8:β id=al pl0:=aC8;rw[aC8]at hp;exact aO hp
 subst QU;have fH:cur0=cur:=by
  have aCZ:w.heap[pl0.b]? =_:=aCZ
  have hh:w.heap[pl0.b]? =_:=hh
  rw[aCZ]at hh;simpa using(bE (λo=>match o with | some (.cells x _ _)=>x | _=>cur0) hh)
 subst fH;obtain⟨rfl,q2,q4,q3⟩:=abe aDi hk;rw[adq aDi]at hV0;have hV0:V (s.env w g β) (.pr (.d (.arr k t) l1) (.pr u (.d (.arr m t) l2))) _:=hV0;have aKN:=hV0.size;simp only[V]at hV0;obtain⟨ca,cb,hR,hA,cu,cc,aCR,hU,hB⟩:=hV0;subst aCR;simp only[cI]at hA hB;have hX:=tx rfl h.bM h2 u t x cu hU hx h4;have ahe:∀c x,cI ((s.bp u.shared).env w g' β) t c x->c.length=t.size:=λc x hx=>hx.size
 have cA:=hA.2.mono λ_ _ hx=>hx.mono h2.mem
 have cB:=hB.2.mono λ_ _ hx=>hx.mono h2.mem
 have uG:bo (cI ((s.bp u.shared).env w g' β) t) (ca++(cu++cc)) (l1++x::l2):=bo.append cA ⟨cu,cc,rfl,hX,cB⟩;have hlen:=bo.length ahe uG;have aoH:(aD.pr (.d (.arr k t) l1) (.pr u (.d (.arr m t) l2))).size=(l1++x::l2).length*t.size:=by rw[<-hlen,<-hR];exact aKN.symm
 rw[aoH]at hR q3;rw[hz]at q2;have aiA:(l1++x::l2).length<=pl0.cap:=by rw[q2]at q3;exact Nat.le_of_mul_le_mul_right q3 au
 have ht:=Trans.refl w g';have hle:cU ((s.bp u.shared).env w g' β) (((s.bp u.shared).aZ id (.obj v aR (.vec e1 t (l1++x::l2)))).env w g' β):=cU.aZ sR (aF _) ht (λ_ _=>rfl) (λ_=>rfl);have hI:=h1.step (dv _ _ _) ht hle (iP.aZ h1.bM (by rw[sR];simp) hle (λ_ _=>rfl) (λ_ _ _ _ _ _ _ _=>⟨rfl,rfl⟩) (acH:=pF sR λ_ _ _ e=>by cases e) (by
  refine⟨au,?_⟩;show(match β id with
   |none=>l1++x::l2=[]
   |some pl=>_)
  rw[hp];exact⟨cur0,0,hh,q2,aiA,q4,hg,aP _,λ_=>rfl,by rw[hR];exact uG.mono λ_ _ hx=>hx.mono hle.mem⟩))
 refine⟨g',β,hI.aEN j ?_⟩;have:=h.cr j;rw[hj]at this;exact af0 (VS.mono (h2.trans hle) this)
theorem Zl:∀(l:List Nat) {s s1:AS},gT C s a w->(axE s l).eval=al s1->gT C s1 a w
 |[],s,s1,h,he=>by simp only[axE]at he;obtain rfl:=ay.1 he;exact h
 |j::l,s,s1,h,he=>by
  obtain⟨g,β,h⟩:=h;simp only[axE]at he;split at he
  ·rename_i id ver p n hj;split at he
   ·rename_i v e z k t l1 u m t' l2 kk;obtain⟨h1,he⟩:=aG.1 he;obtain⟨l2',h2,he⟩:=ax.1 he;obtain⟨x,h3,he⟩:=ax.1 he;simp only[av,dD,ct,gv]at h1;obtain⟨⟨⟨h5,h6⟩,h7⟩,h8⟩:=h1;obtain⟨et,hl⟩:=iY (ja.1 h2);have et':t'=t:=by simpa using et
    subst et';simp only at hl;subst hl;refine Zl l (h.aGA hj kk h6 au (λhi=> ?_) h3) he;have:(u.shared.any λi=>decide (i=id))=aT:=List.any_eq_true.2 ⟨id,hi,by simp⟩;rw[this]at h8;cases h8
   ·simp only[aw]at he
  ·simp only[aw]at he
theorem y6:∀(l:List aGM) {s s1:AS},gT C s a w->(Po s l).eval=al s1->gT C s1 a w
 |[],s,s1,h,he=>by simp only[Po]at he;obtain rfl:=ay.1 he;exact h
 |o::l,s,s1,h,he=>by
  obtain⟨g,β,h⟩:=h;unfold Po at he;split at he
  ·exact y6 l ⟨g,β,h⟩ he
  obtain⟨u,hu,he⟩:=ax.1 he;obtain⟨x,hx,he⟩:=ax.1 he;obtain⟨s',hs,he⟩:=ax.1 he;exact y6 l (h.aE2 hu hx hs) he
theorem lC(hC:C.ok):∀(l:List arI) {s s1:AS},gT C s a w->(uT P s l).eval=al s1->gT C s1 a w
 |[],s,s1,h,he=>by simp only[uT]at he;obtain rfl:=ay.1 he;exact h
 |o::l,s,s1,h,he=>by
  obtain⟨g,β,h⟩:=h;unfold uT at he;split at he
  ·exact lC hC l ⟨g,β,h⟩ he
  obtain⟨u,hu,he⟩:=ax.1 he;split at he
  ·split at he
   ·rename_i e t b G3 hv;obtain⟨s',h1,h2⟩:=ax.1 he;exact lC hC l (h.aGd hu hv (Wv G3) h1) h2
   ·simp only[aw]at he
  ·split at he
   ·rename_i b j ver aJG;split at he
    ·rename_i v fr c kk hm;split at he
     ·have aCP:b < s.news.length:=by
       have:=dZ kk;simp only[AS.bS,aI]at this;cases hn:s.news[b]? with
       |none=>rw[hn]at this;simp at this
       |some es=>exact(dN.1 hn).1
      obtain⟨g1,β1,h1⟩:=h.FF hC aCP (by simpa using hm);exact lC hC l ⟨g1,β1,h1⟩ he
     ·simp only[aw]at he
    ·simp only[aw]at he
   ·simp only[aw]at he
theorem JN:∀(l:List Nat) {s s1:AS},gT C s a w->(Zk s l).eval=al s1->gT C s1 a w
 |[],s,s1,h,he=>by simp only[Zk]at he;obtain rfl:=ay.1 he;exact h
 |j::l,s,s1,h,he=>by
  obtain⟨g,β,h⟩:=h;simp only[Zk]at he;split at he
  ·rename_i id ver len hj;split at he
   ·rename_i v e t r kk;split at he
    ·obtain⟨h1,h2⟩:=bR.1 he;have h1:len<=r.length:=by simpa using h1
     refine JN l ?_ h2
     have cO:=dZ kk;have hO:vi (s.env w g β) id aR (.vec e t r):=h.bM id v aR _ cO;have ht:=Trans.refl w g;have hle:cU (s.env w g β) ((s.aZ id (.obj v aR (.vec e t (r.take len)))).env w g β):=cU.aZ cO (aF _) ht (λ_ _=>rfl) (λ_=>rfl);refine⟨g,β,h.step (dv _ _ _) ht hle (iP.aZ h.bM (by rw[cO];simp) hle (λ_ _=>rfl) (λ_ _ _ _ _ _ _ _=>⟨rfl,rfl⟩) ?_ (Lo cO))⟩;obtain⟨hz,hO⟩:=hO;refine⟨hz,?_⟩;have hO:(match β id with
      |none=>r=[]
      |some pl=>∃cur k,w.heap[pl.b]? =al (.cells cur e (0,0))/\cur.size=pl.cap*t.size/\r.length<=pl.cap/\pl.cap<=maxLen/\g pl.b= .own (.id id) k/\
        k<=r.length*t.size/\(aR=aR->k=0)/\bo (cI (s.env w g β) t) (cur.toList.take (r.length*t.size)) r):=hO
     show(match β id with
      |none=>r.take len=[]
      |some pl=>_)
     cases hp:β id with
     |none=>rw[hp]at hO;simp only at hO;subst hO;simp
     |some pl=>
      rw[hp]at hO;obtain⟨cur,k,q1,q2,q3,q4,q5,q6,q7,q8⟩:=hO;have hk:=q7 rfl;subst hk;have hlen:(r.take len).length=len:=by simp;omega
      refine⟨cur,0,q1,q2,au,q4,q5,aP _,λ_=>rfl,?_⟩;have:=bo.take (λ_ _ hx=>cI.size hx) len q8;rw[lS,gF (c9 _ h1)]at this;rw[hlen];exact this.mono λ_ _ hx=>hx.mono hle.mem
    ·simp only[aw]at he
   ·simp only[aw]at he
  ·simp only[aw]at he
theorem JZ:∀(l:List (Nat×Ty)) {s s1:AS},gT C s a w->(asData s l).eval=al s1->gT C s1 a w
 |[],s,s1,h,he=>by simp only[asData]at he;obtain rfl:=ay.1 he;exact h
 | (j,t)::l,s,s1,h,he=>by obtain⟨g,β,h⟩:=h;simp only[asData]at he;obtain⟨x,h1,h2⟩:=ax.1 he;obtain⟨g',i1,_,_,cs,hR,hO⟩:=zL h (h.cr j) h1;exact JZ l ⟨g',β,i1.aEN j (VS.of (a:= .d t x) (cs:=cs) (by simpa only[V]using hR) hO)⟩ h2
theorem Inv.still:∀(l:List Nat) {s:AS},Inv C g β s a w->Inv C g β (s.still l) a w
 |[],s,h=>h
 |q::l,s,h=>by
  simp only[AS.still];split
  ·rename_i v fr i ver k t r cu kk;exact Inv.still l (h.aBE (dZ kk) (.inr ⟨rfl,rfl,rfl⟩))
  ·exact Inv.still l h
theorem me{α:Type}(l:List α):(eH l).Perm l:=Quotient.exact (s:=YM α) (p9 (Quotient.mk (YM α) l)).choose_spec
theorem anO{α:Type}{l l':List α}(h:l.Perm l'):eH l=eH l':=by
 have e:Quotient.mk (YM α) l=Quotient.mk (YM α) l':=Quotient.sound h;unfold eH;have:∀q q':Quotient (YM α),q=q'->(p9 q).choose=(p9 q').choose:=λq q' h=>by subst h;rfl
 exact this _ _ e
theorem Inv.canon:∀(l:List Id) {s:AS},Inv C g β s a w->Inv C g β (s.canon l) a w
 |[],s,h=>h
 |id::l,s,h=>by
  simp only[AS.canon];split
  ·rename_i v fr k t r kk;have cO:=dZ kk;have ht:=Trans.refl w g;have hle:cU (s.env w g β) ((s.aZ id (.obj v fr (.mp k t (eH r)))).env w g β):=cU.aZ cO (aF _) ht (λ_ _=>rfl) (λ_=>rfl);obtain⟨pl,es,clock,h1,h2,h3,⟨⟨l',h4,h5⟩,h6⟩,h7⟩:=h.bM id v fr _ cO
   refine Inv.canon l (h.step (dv _ _ _) ht hle (iP.aZ h.bM (by rw[cO];simp) hle (λ_ _=>rfl) (λ_ _ _ _ _ _ _ _=>⟨rfl,rfl⟩)
    ⟨pl,es,clock,h1,h2,h3,⟨⟨l',h4.mono λ_ _ he=>he.mono hle.mem,h5.trans (me r).symm⟩,(((me r).map _).nodup_iff).2 h6⟩,h7⟩ ?_))
   intro ver k' v' l2 hl;rw[cO]at hl;simp only[az,dR.obj.injEq]at hl;obtain⟨rfl,rfl,_⟩:=hl;exact⟨rfl,rfl,⟨_,_,_,rfl⟩,λ_ _=>⟨rfl,rfl⟩⟩
  ·exact Inv.canon l h
theorem OZ(k v n:Nat)(i:Id)(ver:Nat):(i= .bG k/\ver=v/\tN k v n i ver=al (.bG k,n))\/(i= .bG k/\tN k v n i ver=aJ)\/(i≠ .bG k/\tN k v n i ver=al (i,ver)):=by
 cases i with
 |new x j=>exact .inr (.inr ⟨by simp,rfl⟩)
 |bG j=>
  simp only[tN];cases h1:iG j k with
  |false=>exact .inr (.inr ⟨λe=>by injection e with e;subst e;simp at h1,rfl⟩)
  |true=>
   obtain rfl:=fh h1;cases h2:iG ver v with
   |false=>exact .inr (.inl ⟨rfl,rfl⟩)
   |true=>exact .inl ⟨rfl,fh h2,rfl⟩
theorem adv(hC:C.ok){s s1:AS}(h:Inv C g β s a w){k n:Nat}(he:(s.ass k n).eval=al s1):Inv C g β s1 a w:=by
 unfold AS.ass at he;split at he;rotate_left
 ·exact(aw.1 he).elim
 rename_i v fr c hk;obtain⟨aJU,he⟩:=aG.1 he;have aJU:v<=n\/1<=n:=(Bool.or_eq_true_iff.1 aJU).imp dG dG;have hz:∀ver,C.E.DL (.bG k) ver->ver=0:=λver hb=>by
  obtain⟨h1,h2⟩:=hb;cases hs:C.E.s (.bG k) with
  |none=>exact absurd hs h1
  |some en=>
   cases en with
   |dead=>
    have:=(h.le.DL (.bG k) (v+1) ⟨h1,λv' fr' c' hh=>by rw[hs]at hh;cases hh⟩).2 _ _ _ hk;omega
   |obj v0 fr0 c0=>
    have:=hC.2 _ _ _ _ hs;have:=h2 _ _ _ hs;omega
 obtain rfl:=ay.1 he;have aFD:k < s.cj.length:=by
  rcases ph k s.cj.length with h | h
  ·exact h
  ·simp[AS.bS,dP h]at hk
 generalize M6:({cr:=s.cr.map (aD.iK (tN k v n)),cj:=(s.cj.map (dR.ajW (tN k v n) (ES k))).set k (.obj n fr (c.iK (tN k v n))),news:=s.news.map λes=>es.map (dR.ajW (tN k v n) (ES k))}:AS)=s1;have e0:s1.bS (.bG k)=al (.obj n fr (c.iK (tN k v n))):=by rw[<-M6];simp[AS.bS,aFD]
 have e1:∀i,i≠ .bG k->s1.bS i=(s.bS i).map (dR.ajW (tN k v n) (ES k)):=λi hi=>by
  rw[<-M6];cases i with
  |bG j=>
   have:¬k=j:=λe=>hi (by rw[e])
   simp only[AS.bS];rw[eF this,eK]
  |new x j=>
   simp only[AS.bS,aI,eK];cases s.news[x]? <;> simp
 have e2:∀i v' fr' c',i≠ .bG k->s1.bS i=al (.obj v' fr' c')->∃c0,s.bS i=al (.obj v' fr' c0)/\c'=c0.aqs (tN k v n) (ES k):=λi v' fr' c' hi hh=>by
  rw[e1 i hi]at hh;cases hs:s.bS i with
  |none=>rw[hs]at hh;cases hh
  |some en=>
   rw[hs]at hh;cases en with
   |dead=>simp[dR.ajW]at hh
   |obj v0 fr0 c0=>
    simp only[eo,dR.ajW,az,dR.obj.injEq]at hh;obtain⟨rfl,rfl,rfl⟩:=hh;exact⟨c0,rfl,rfl⟩
 have e3:∀i,i≠ .bG k->s.bS i≠aJ->s1.bS i≠aJ:=λi hi hh=>by
  rw[e1 i hi];cases hs:s.bS i with
  |none=>exact absurd hs hh
  |some en=>simp
 have hle:yK (tN k v n) (s.env w g β) (s1.env w g β):=by
  refine⟨Trans.mem (E:=s.env w g β) (E':=s1.env w g β) (Trans.refl w g),λi ver r hr aez=> ?_⟩;rcases OZ k v n i ver with⟨rfl,rfl,e⟩ | ⟨rfl,e⟩ | ⟨hi,e⟩
  ·rw[e]at hr;obtain rfl:=aO hr;refine⟨⟨by show s1.bS (.bG k)≠aJ;rw[e0];simp,λv' fr' c' hh=> ?_⟩,λ_=>⟨⟨fr,c,hk⟩,rfl⟩⟩;have hh:s1.bS (.bG k)=al (.obj v' fr' c'):=hh;rw[e0]at hh;simp only[az,dR.obj.injEq]at hh;exact Nat.le_of_eq hh.1
  ·rw[e]at hr;cases hr
  ·rw[e]at hr;obtain rfl:=aO hr;obtain⟨k1,k2⟩:=aez;have k1:s.bS i≠aJ:=k1;have k2:∀v' fr' c',s.bS i=al (.obj v' fr' c')->ver<=v':=k2;refine⟨⟨e3 i hi k1,λv' fr' c' hh=> ?_⟩,λ⟨fr',c',hh⟩=> ?_⟩
   ·obtain⟨c0,Rp,_⟩:=e2 i v' fr' c' hi hh;exact k2 _ _ _ Rp
   ·obtain⟨c0,Rp,_⟩:=e2 i ver fr' c' hi hh;exact⟨⟨fr',c0,Rp⟩,rfl⟩
 refine⟨h.defers,by rw[<-M6];simpa using h.size,λi=> ?_,λid ver fr' c' dg=> ?_,h.trans,?_⟩
 ·have:s1.slot i=(s.slot i).iK (tN k v n):=by rw[<-M6];exact Vs _ rfl _ _
  rw[this];exact Em hle (h.cr i)
 ·have dg:s1.bS id=al (.obj ver fr' c'):=dg;by_cases hi:id= .bG k
  ·subst hi;rw[e0]at dg;simp only[az,dR.obj.injEq]at dg;obtain⟨rfl,rfl,rfl⟩:=dg;exact vj hle (h.bM (.bG k) v fr c hk) (id':= .bG k) rfl λpl _=>⟨rfl,λ_ h=>h,λh=>h⟩
  ·obtain⟨c0,Rp,rfl⟩:=e2 id ver fr' c' hi dg;have h0:=h.bM id ver fr' c0 Rp;rcases aiM c0 with⟨q2,vq,kt,vt,l,cu,rfl⟩ | ⟨aDb,_⟩
   ·simp only[aD.aqs];cases aG3:ES k q2 with
    |true=>
     have gJ:q2≠ .bG k:=λe=>by subst e;simp[ES]at aG3
     have hρq:∀vr,tN k v n q2 vr=al (q2,vr):=λvr=>by
      rcases OZ k v n q2 vr with⟨e,_⟩ | ⟨e,_⟩ | ⟨_,e⟩
      ·exact absurd e gJ
      ·exact absurd e gJ
      ·exact e
     refine aB6.bu hle.mem (λ_=>rfl) h0 rfl (λ_ _ h=>h) λvr _=>⟨λhb=>hle.ref q2 vr (q2,vr) (hρq vr) hb,λkt vt l alG=> ?_,λ_ _ h=>h⟩
     have alG:s.bS q2=al (.obj vr aT (.mp kt vt l)):=alG;show s1.bS q2=_;rw[e1 q2 gJ,alG];rfl
    |false=>
     obtain⟨pl,mb,since,seen,c0,h1,h2,h3,h4⟩:=h0;exact⟨pl,mb,since,seen,c0,h1,h2,h3,λvr ahb=>au⟩
   ·rw[aDb];exact vj hle h0 (id':=id) rfl λpl _=>⟨rfl,λ_ h=>h,λh=>h⟩
 ·have hl:=h.le;refine⟨hl.mem.trans (Trans.mem (E:=s.env w g β) (E':=s1.env w g β) (Trans.refl w g)),λid ver hb=> ?_,λid ver hb hc=> ?_⟩
  ·obtain⟨h1,h2⟩:=hl.DL _ ver hb;have h1:s.bS id≠aJ:=h1;have h2:∀v' fr' c',s.bS id=al (.obj v' fr' c')->ver<=v':=h2;by_cases hi:id= .bG k
   ·subst hi;obtain rfl:=hz ver hb;exact⟨by show s1.bS (.bG k)≠aJ;rw[e0];simp,λv' fr' c' hh=>aP _⟩
   ·exact⟨e3 id hi h1,λv' fr' c' hh=>let⟨c0,Rp,_⟩:=e2 id v' fr' c' hi hh;h2 _ _ _ Rp⟩
  ·obtain⟨fr',c',hc⟩:=hc;have hc:s1.bS id=al (.obj ver fr' c'):=hc;by_cases hi:id= .bG k
   ·subst hi;obtain rfl:=hz ver hb;rw[e0]at hc;simp only[az,dR.obj.injEq]at hc;have e4:=hc.1;obtain rfl:v=0:=au;exact hl.cur _ _ hb ⟨fr,c,hk⟩
   ·obtain⟨c0,Rp,_⟩:=e2 id ver fr' c' hi hc;exact hl.cur _ _ hb ⟨fr',c0,Rp⟩
theorem CA(hC:C.ok):∀(l:List (Nat×Nat)) {s s1:AS},Inv C g β s a w->(adw s l).eval=al s1->Inv C g β s1 a w
 |[],s,s1,h,he=>by obtain rfl:=ay.1 he;exact h
 |x::l,s,s1,h,he=>by obtain⟨s2,h1,h2⟩:=ax.1 he;exact CA hC l (adv hC h h1) h2
def QX(ids:List Id)(q:Nat):lQ->lQ
 | .own (.id (.new x y)) k=>match idxOf (.new x y) ids with | some m=> .own (.id (.new q m)) k | none=> .free
 |l=>l
def aDM(β:Id->Option Pl)(ids:List Id)(q:Nat):Id->Option Pl
 | .bG k=>β (.bG k)
 | .new x y=>if x=q then(ids[y]?).bind β else aJ
theorem Trans.QX(w:bU)(g:Nat->lQ)(ids:List Id)(q:Nat):Trans w w g λx=>QX ids q (g x):=by
 refine⟨rfl,rfl,⟨rfl,aF _⟩,aF _,λy _=> ?_⟩;cases hg:g y with
 |free=>exact⟨by simp[Ab.QX],rfl⟩
 |own o k=>cases o with
  |eM=>exact⟨by simp[Ab.QX],rfl⟩
  |id x=>
   refine⟨?_,λ_ _ _ h=>h⟩;cases x with
   |bG m=>exact .inr ⟨_,_,rfl,aF _⟩
   |new x j=>
    simp only[Ab.QX];split
    ·exact .inr ⟨_,_,rfl,aF _⟩
    ·exact .inl rfl
theorem Inv.aaB(h:Inv C g β s a w)(hC:C.ok){ids:List Id}{q:Nat}(hn:ids.Nodup)(B1:∀id∈ids,∃i j,id= .new i j)(aIo:q < s.news.length):
  ∃g1 β1,Inv C g1 β1 (s.EP ids q) a w:=by
 let ρ:Ren:=aoA s ids q
 obtain⟨s1,M6⟩:∃s1,s1=s.EP ids q:=⟨_,rfl⟩;have hold:∀k,s1.bS (.bG k)=(s.bS (.bG k)).map (dR.awz ρ):=λk=>by
  rw[M6];show(s.cj.map (dR.awz ρ))[k]? =_
  rw[eK];rfl
 have kS:∀j,s1.bS (.new q j)=(ids[j]?).map λid=>((s.bS id).getD .dead).ajV ρ:=λj=>by rw[M6];simp[AS.EP,AS.bS,aI,aIo,ρ]
 have G4:∀x j,x≠q->s1.bS (.new x j)=aJ:=λx j hx=>by
  have hx':¬q=x:=λe=>hx e.symm
  rw[M6];simp only[AS.EP,AS.bS,aI];rw[eF hx',eK];cases s.news[x]? <;> simp
 let g1:Nat->lQ:=λx=>QX ids q (g x)
 let β1:=aDM β ids q
 have ht:Trans w w g g1:=Trans.QX w g ids q;have hβ:∀j,β1 (.new q j)=(ids[j]?).bind β:=λj=>if_pos rfl
 have hρ:∀i ver r,ρ i ver=al r->(∃k,i= .bG k/\r=(i,ver))\/∃j fr c,ids[j]? =al i/\s.bS i=al (.obj ver fr c)/\r=(.new q j,0):=λi ver r hr=>by
  replace hr:aoA s ids q i ver=al r:=hr
  cases i with
  |bG k=>exact .inl ⟨k,rfl,(aO hr).symm⟩
  |new x y=>
   unfold aoA at hr;simp only at hr;split at hr
   ·rename_i j v fr c hj ho;split at hr
    ·rename_i hv;have hv:ver=v:=by simpa using hv
     subst hv;exact .inr ⟨j,fr,c,oB hj,dZ ho,(aO hr).symm⟩
    ·cases hr
   ·cases hr
 have hrenA:∀e v fr c,dR.awz ρ e= .obj v fr c->∃c0,e= .obj v fr c0/\c0.iK ρ=c:=λe v fr c he=>by
  cases e with
  |dead=>cases he
  |obj v0 fr0 c0=>
   simp only[dR.awz,dR.obj.injEq]at he;obtain⟨rfl,rfl,rfl⟩:=he;exact⟨c0,rfl,rfl⟩
 have hle:yK ρ (s.env w g β) (s1.env w g1 β1):=by
  refine⟨Trans.mem (E:=s.env w g β) (E':=s1.env w g1 β1) ht,λi ver r hr aez=> ?_⟩;rcases hρ i ver r hr with⟨k,rfl,rfl⟩ | ⟨j,fr,c,hj,he,rfl⟩
  ·obtain⟨k1,k2⟩:=aez;have k1:s.bS (.bG k)≠aJ:=k1;refine⟨⟨?_,λv' fr' c' hh=> ?_⟩,λ⟨fr',c',hh⟩=>⟨?_,rfl⟩⟩
   ·show s1.bS (.bG k)≠aJ;rw[hold];cases hs:s.bS (.bG k) with
    |none=>exact absurd hs k1
    |some en=>simp
   ·have hh:s1.bS (.bG k)=al (.obj v' fr' c'):=hh;rw[hold,dz]at hh;obtain⟨e,he,hh⟩:=hh;obtain⟨c0,rfl,_⟩:=hrenA _ _ _ _ hh;exact k2 v' fr' c0 he
   ·have hh:s1.bS (.bG k)=al (.obj ver fr' c'):=hh;rw[hold,dz]at hh;obtain⟨e,he,hh⟩:=hh;obtain⟨c0,rfl,_⟩:=hrenA _ _ _ _ hh;exact⟨fr',c0,he⟩
  ·refine⟨⟨by show s1.bS (.new q j)≠aJ;rw[kS,hj];simp,λ_ _ _ _=>aP _⟩,λ_=>⟨⟨fr,c,he⟩,?_⟩⟩;show β1 (.new q j)=β i;rw[hβ,hj];rfl
 have e1:s1.cr=s.cr.map (aD.iK ρ):=by rw[M6];rfl
 rw[<-M6];refine⟨g1,β1,h.On hC ρ (by rw[e1];simp) ht hle (λi=> ?_) (λid ver fr c dg=> .inr ?_) λk=>⟨λhk=> ?_,λv' fr' c' hh=> ?_,rfl⟩⟩
 ·have:s1.slot i=(s.slot i).iK ρ:=by unfold AS.slot;rw[e1];exact Vs _ rfl _ _
  rw[this];exact Em hle (h.cr i)
 ·cases id with
  |bG k=>
   rw[hold,dz]at dg;obtain⟨e,he,dg⟩:=dg;obtain⟨c0,rfl,hc⟩:=hrenA _ _ _ _ dg;exact⟨.bG k,ver,c0,he,hc,rfl,λpl _=>⟨λn hg=>by show QX ids q (g pl.b)=_;rw[hg];rfl,λhg=>by show QX ids q (g pl.b)=_;rw[hg];rfl⟩⟩
  |new x y=>
   by_cases hx:x=q
   ·subst hx;rw[kS,dz]at dg;obtain⟨i,hi,dg⟩:=dg;obtain⟨i0,j0,rfl⟩:=B1 i (c8 hi);cases hs:s.bS (.new i0 j0) with
    |none=>rw[hs]at dg;cases dg
    |some e=>
     rw[hs]at dg;cases e with
     |dead=>cases dg
     |obj v0 fr0 c0=>
      simp only[dB,dR.ajV,dR.obj.injEq]at dg;obtain⟨_,rfl,hc⟩:=dg;refine⟨.new i0 j0,v0,c0,hs,hc,by rw[hβ,hi];rfl,λpl _=>⟨λn hg=> ?_,λhg=>by show QX ids _ (g pl.b)=_;rw[hg];rfl⟩⟩;show QX ids _ (g pl.b)=_;rw[hg];simp only[QX,vz hn hi]
   ·rw[G4 x y hx]at dg;cases dg
 ·show s1.bS (.bG k)≠aJ;rw[hold];cases hs:s.bS (.bG k) with
  |none=>exact absurd hs hk
  |some en=>simp
 ·have hh:s1.bS (.bG k)=al (.obj v' fr' c'):=hh;rw[hold,dz]at hh;obtain⟨e,he,hh⟩:=hh;obtain⟨c0,rfl,_⟩:=hrenA _ _ _ _ hh;exact⟨c0,he⟩
theorem aaC(hC:C.ok){s s1:AS}{o:Option Nat}(h:gT C s a w)(he:(s.aaB o).eval=al s1):gT C s1 a w:=by
 cases o with
 |none=>
  obtain rfl:=ay.1 he;exact h
 |some q=>
  obtain⟨h1,h2⟩:=aG.1 he;obtain rfl:=ay.1 h2;obtain⟨g,β,h⟩:=h;obtain⟨g1,β1,h3⟩:=h.aaB hC (ids:=s.aE7) ((rV s _ _ _ (by simp)).filter _) (λid dg=>by
   have:=(nb.1 dg).2;cases id with
   |bG k=>cases this
   |new i j=>exact⟨i,j,rfl⟩) (dG h1)
  exact⟨g1,β1,h3⟩
theorem oK(hC:C.ok){an:nJ}{s1:AS}(h:gT C s a w)(he:(norm P an s).eval=al s1):gT C s1 a w:=by unfold norm at he;obtain⟨sb,aKd,he⟩:=ax.1 he;obtain⟨su,aKe,he⟩:=ax.1 he;obtain⟨sd,aHJ,he⟩:=ax.1 he;obtain⟨s0,h1,h2⟩:=ax.1 he;obtain⟨h3,h4⟩:=aG.1 h2;obtain⟨sf,h5,h6⟩:=ax.1 h4;obtain⟨sg,h6,h7⟩:=ax.1 h6;obtain⟨g0,β0,h0⟩:=h;obtain⟨g1,i1,_⟩:=fi an.aly (CA hC _ h0 aKd);obtain⟨g,β,h⟩:=JZ _ (y6 _ (Zl _ ⟨g1,β0,(i1.still an.aDo).canon an.aCr⟩ aKe) aHJ) h1;exact aaC hC (lC hC _ (NC _ ⟨g,β,h.bu hC h3⟩ h5) h6) h7
end
end Go.Ab
end
