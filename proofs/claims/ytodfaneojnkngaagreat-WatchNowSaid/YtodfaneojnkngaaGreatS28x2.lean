/-
  Made short by a program of mine (wip/tools/mini.py).
-/
import Derived.Test.YtodfaneojnkngaaGreatS28x1
import Derived.Lib.Builder
import Derived.Lib.UnsafeStr
import Derived.Lib.AppendZeros
import Derived.Maps.RangeRun
set_option linter.unusedVariables false
set_option linter.unusedSimpArgs false
set_option maxRecDepth 100000
set_option synthInstance.maxSize 5000
open List renaming length->ag,replicate->ab
open Nat renaming beq->iO
open UInt8 renaming ofNat->fm
noncomputable section
namespace Go.Ab
section
variable {P:Program} {C:Ctx} {g:Nat->mz} {β:Id->Option Pl} {s:AS} {a:Act} {w:World} {o:Oper}
theorem C0{b:Builtin}{args:Array Operand}{ts:Array TypeId}{f:Sem Value}{x:Value}{w':World}(ho:o.op= .call {callee:= .builtin b,args,argTypes:=ts})
  (hb:∀ty cs xs,xs=args.map a.eval->builtin b ts ty cs xs=(do pure (.value (<-f)))) (hf:f.run P w= .ok x w'):(execOp a.eval o).run P w= .ok (.value x) w':=by
 simp only[execOp,ho,resolve,Sem.run_bind,Sem.run_pure,Result.andThen_ok,invoke];rw[hb _ _ _ rfl,Sem.run_bind,hf];rfl
theorem aFW(h:Inv C g β s a w){c:Call}{x:Operand}{T:TypeId}(ho:o.op= .call c)(hc:c.callee= .builtin .len)(ha:c.args.toList=[x])(ht:c.argTypes.toList=[T]){v:aB}(he:(aLG P T (s.ev x)).eval=some v):
  fL P o a w (iB C (s.put o.dst v)):=by
 obtain⟨cal,args,tys⟩:=c;simp only at hc ha ht;have ha':args= #[x]:=by apply gC;simpa using ha
 have ht':tys= #[T]:=by apply gC;simpa using ht
 subst hc ha' ht';have hx:=h.ev x;have fin:∀z,(Builtin.len_ #[T] 0 #[a.eval x]).run P w= .ok z w->VS (s.env w g β) v z->fL P o a w (iB C (s.put o.dst v)):=by intro z h1 h2;refine h.value h2 (C0 ho (f:=Builtin.len_ #[T] 0 #[a.eval x]) (λty cs xs aqt=> ?_) h1);subst aqt;have e1:Builtin.len_ #[T] 0 #[a.eval x]=Builtin.len_ #[T] ty #[a.eval x]:=rfl;rw[e1];simp[builtin]
 unfold aLG at he;split at he
 ·rename_i st hT hl;rw[hl]at hx;obtain rfl:=ay.1 he;refine fin (.int .i64 (st.size:Int)) ?_ (l5 _ _)
  rw[JL hx];simp[Builtin.len_,run_underlying hT,goInt]
 ·rename_i e t l hT hl;rw[hl]at hx;obtain rfl:=ay.1 he;obtain⟨ad,cap,vs,hy,_⟩:=u6 hx;refine fin (.int .i64 (l.length:Int)) ?_ (l5 _ _)
  rw[hy];simp[Builtin.len_,run_underlying hT,goInt]
 ·rename_i e hT hl;rw[hl]at hx;obtain rfl:=ay.1 he;refine fin (.int .i64 0) ?_ (l5 _ _)
  rw[lN hx];simp[Builtin.len_,run_underlying hT,goInt]
 ·rename_i e id ver p c i len hT hl;rw[hl]at hx;obtain rfl:=ay.1 he;obtain⟨ad,cap,hy,_⟩:=sM hx;refine fin (.int .i64 (len:Int)) ?_ (l5 _ _)
  rw[hy];simp[Builtin.len_,run_underlying hT,goInt]
 ·rename_i n e hT;obtain rfl:=ay.1 he;refine fin (.int .i64 (n:Int)) ?_ (l5 _ _)
  simp[Builtin.len_,run_underlying hT,goInt]
 ·simp only[av]at he
def Env.open(E:Env):Env:= {E with g:=λ_=> .free}
theorem aL3(E:Env):cM E E.open:=⟨⟨λ_ _ _ h=>⟨h.1,trivial⟩,λ_ _ _ h=>⟨rfl,h⟩⟩,λ_ _ h=>h,λ_ _ _ h=>⟨h,rfl⟩⟩
theorem asY(h:Inv C g β s a w){v:aB}{y:Value}(hv:VS (s.env w g β) v y){t:Ty}{x:t.den}(ht:(s.asX t v).eval=some x):
  ∃cs,df (s.env w g β).open t cs x/\fT t.agg cs y:=by
 obtain⟨cs,hV,hO⟩:=hv.eQ (CP ht);exact⟨cs,xM rfl h.bJ (aL3 _) v t x cs hV ht (λid _ v fr c _ pl _ j x hx _=>⟨hx,trivial⟩),by rw[<-ac6 ht];exact hO⟩
theorem xq{E:Env}{k:IntKind}:∀ {vs:List Value} {l:List Int},bD (df E (.int k)) vs l->vs=l.map (Value.int k)
 |vs,[],h=>h
 |_,x::xs,⟨c,cs',e,hx,hr⟩=>by
  have hx':c=[Value.int k x]:=by simpa only[df]using hx
  rw[e,hx',xq hr];rfl
theorem xx{E:Env}{k:IntKind}:∀(l:List Int),bD (df E (.int k)) (l.map (Value.int k)) l
 |[]=>rfl
 |x::xs=>⟨[.int k x],xs.map (Value.int k),rfl,by simp[df],xx xs⟩
theorem foldl_push(l:List Int):∀b:ByteArray,l.foldl (λr n=>r.push (fm n.toNat)) b=⟨b.data++(l.map λn=>fm n.toNat).toArray⟩:=by
 induction l with
 |nil=>intro b;simp
 |cons n l ih=>
  intro b;rw[bq,ih];simp[ByteArray.push]
theorem aoA{α:Type}(xs:Array α)(x:α)(f:α->α):(xs.push x).modify xs.size f=xs.push (f x):=by
 apply sO;intro i;rw[gH,Array.getElem?_push,Array.getElem?_push];by_cases h:i=xs.size
 ·subst h;simp
 ·have h':¬xs.size=i:=λe=>h e.symm
  simp[h,h']
theorem aiR(w:World)(c:Array Value)(e:TypeId)(n:Nat):(w.alloc (.cells c e)).freeze ⟨w.heap.size,n,none⟩ 1=w.alloc (.cells c e (n,n+1)):=by show({w with heap:=(w.heap.push (.cells c e)).modify w.heap.size _}:World)= {w with heap:=w.heap.push (.cells c e (n,n+1))};rw[aoA];rfl
theorem am6{w:World}{b:Nat}{c:Array Value}{e:TypeId}{n:Nat}(h:w.heap[b]? =some (.cells c e (n,n+1))):w.freeze ⟨b,n,none⟩ 1=w:=by
 unfold World.freeze;rw[if_neg ak];have:∀f:Obj->Obj,f (.cells c e (n,n+1))= .cells c e (n,n+1)->w.heap.modify b f=w.heap:=λf hf=>by
  apply sO;intro i;rw[gH];split
  ·rename_i hi;subst hi;rw[h];simp[hf]
  ·rfl
 rw[this];simp
theorem RJ(e:TypeId)(st:ByteArray)(w:World):∃cap:Nat,st.size<=cap/\∃arr:Array Value,(∀(j:Nat) (v:Value),((bH st).map (Value.int .u8))[j]? =some v->arr[j]? =some v)/\
  (Conv.stringToBytes e st).run P w= .ok (.slice (some ⟨w.heap.size,0,none⟩) st.size cap) (w.drew.alloc (.cells arr e (arr.size,arr.size+1))):=by
 refine⟨(Question.appendCap st.size 0 e).cut (w.tape w.drawn (.appendCap st.size 0 e)),by simp[Question.cut],
  (st.data.map λb=>Value.int .u8 b.toNat)++Array.replicate ((Question.appendCap st.size 0 e).cut (w.tape w.drawn (.appendCap st.size 0 e)) - st.size) (.int .u8 0),?_,?_⟩
 ·intro j v hj;have hl:j < st.data.size:=by have:=(dF.1 hj).1;simpa[bH]using this
  rw[kK,if_pos (by simpa using hl)];simpa[bH,hl]using hj
 ·have hs:∀(arr:Array Value),(markStringish ⟨w.heap.size,0,none⟩).run P (w.drew.alloc (.cells arr e))= .ok () (w.drew.alloc (.cells arr e (arr.size,arr.size+1))):=by
   intro arr;have h1:(w.drew.alloc (.cells arr e)).shape? w.heap.size=some (e,arr.size):=by
    have h2:(w.drew.alloc (.cells arr e)).heap[w.heap.size]? =some (.cells arr e):=ui w.drew _
    simp only[World.shape?,h2]
   have h3:=aiR w.drew arr e arr.size;have h4:w.drew.heap.size=w.heap.size:=rfl;rw[h4]at h3;simp only[markStringish,Sem.run_bind,run_shape,h1,Result.andThen_ok,run_freeze,h3]
  simp[Conv.stringToBytes,Question.forced,newRow,hs]
theorem Inv.kill(h:Inv C g β s a w){id:Id}{v:Nat}{fr:Bool}{c:aB}(hs:s.bW id=some (.obj v fr c)){b:Nat}(hg:g b= .own (.id id) 0){w':World}(aNz:w'.os=w.os)(aUm:w'.tape=w.tape)(ai1:w'.output=w.output/\w.drawn<=w'.drawn)(tW:w'.heap.size=w.heap.size)
  (Lh:∀b',b'≠b->w'.heap[b']? =w.heap[b']?):Inv C (nT g b .free) β (s.bl id .dead) a w':=by
 have ht:Trans w w' g (nT g b .free):=by
  refine⟨aNz,aUm,ai1,ak,λb' hb'=> ?_⟩;by_cases he:b'=b
  ·subst he;rw[hg,fH];exact⟨.inl rfl,λ_ _ hh=>ak⟩
  ·rw[fA _ _ _ he,Lh b' he];cases Xa:g b' with
   |free=>exact⟨rfl,rfl⟩
   |own o k=>cases o with
    |eo=>exact⟨rfl,rfl⟩
    |id i=>exact⟨.inr ⟨i,k,rfl,ax _⟩,λoff v _ hv=>by simp only[World.cell?,Lh b' he]at hv ⊢;exact hv⟩
 have lI:=eH s id .dead (by rw[hs];simp);have hle:cM (s.env w g β) ((s.bl id .dead).env w' (nT g b .free) β):=by
  refine⟨Trans.mem ht,λi ver hb=> ?_,λi ver hb hc=> ?_⟩
  ·by_cases hi:i=id
   ·subst hi;exact⟨by show(s.bl i .dead).bW i≠none;rw[lI];simp,λv fr c hh=>by
     have hh:(s.bl i .dead).bW i=some (.obj v fr c):=hh;rw[lI]at hh;cases hh⟩
   ·have:=cX s id i .dead hi;obtain⟨h1,h2⟩:=hb;exact⟨by show(s.bl id .dead).bW i≠none;rw[this];exact h1,λv fr c hh=>h2 v fr c (this.symm.trans hh)⟩
  ·obtain⟨fr,c,hc⟩:=hc;have hc:(s.bl id .dead).bW i=some (.obj ver fr c):=hc;by_cases hi:i=id
   ·subst hi;rw[lI]at hc;cases hc
   ·rw[cX s id i .dead hi]at hc;exact⟨⟨fr,c,hc⟩,rfl⟩
 refine h.step (dj _ _ _) ht hle λi ver fr c hi=> ?_
 have hi:(s.bl id .dead).bW i=some (.obj ver fr c):=hi;by_cases cY:i=id
 ·subst cY;rw[lI]at hi;cases hi
 ·rw[cX s id i .dead cY]at hi;refine(h.bJ i ver fr c hi).mono hle rfl (λpl hp=> ?_) λq2 vq k2 v2 l2 Tq aTE=> ?_
  ·have gF:=h.apart hg cY hi (pl:=pl) hp;exact⟨Lh pl.b gF,fA _ _ _ gF⟩
  ·have Tq:s.bW q2=some (.obj vq true (.mp k2 v2 l2)):=Tq;have hd:q2≠id:=λe=>by obtain⟨fr3,c3,aE9⟩:=aTE;have aE9:(s.bl id .dead).bW q2=some (.obj vq fr3 c3):=aE9;rw[e,lI]at aE9;cases aE9
   refine⟨⟨k2,v2,l2,by show(s.bl id .dead).bW q2=_;rw[cX s id q2 .dead hd];exact Tq⟩,λpl hp=> ?_⟩;have gF:=h.apart hg hd Tq (pl:=pl) hp;exact⟨Lh pl.b gF,fA _ _ _ gF⟩
theorem arB(h:Inv C g β s a w){src dst:TypeId}{x:Operand}(ho:o.op= .convert src dst x){id:Id}{ver len:Nat}(hx:s.ev x= .bA id ver [] 0 0 len){s':AS}(he:(amm P s o.dst src dst id ver len).eval=some s'):fL P o a w (iB C s'):=by
 unfold amm at he;split at he
 ·rename_i v e0 l e ml hD;split at he
  ·rename_i hE;obtain⟨h1,h2⟩:=aC.1 he;obtain⟨h3,h4⟩:=bS.1 h2;obtain rfl:=ay.1 h4;simp only[au,dv]at h1;obtain⟨rfl,rfl⟩:=h1;simp only[aW]at h3;obtain⟨h5,h6⟩:=h3;have cQ:=ee ml;have hv:=h.ev x;rw[hx]at hv;obtain⟨ad,cap,hy,Qw,_,_,fB⟩:=sM hv;have fB:=fB ⟨false,_,cQ⟩;have hO:xk (s.env w g β) id false (.vec e0 (.int .u8) l):=h.bJ id v false _ cQ;obtain⟨hz,hO⟩:=hO;have hO:(match β id with
    |none=>l=[]
    |some pl=>∃cur k,w.heap[pl.b]? =some (.cells cur e0 (0,0))/\cur.size=pl.cap*(Ty.int .u8).size/\l.length<=pl.cap/\pl.cap<=maxLen/\g pl.b= .own (.id id) k/\
      k<=l.length*(Ty.int .u8).size/\(false=false->k=0)/\bD (df (s.env w g β) (.int .u8)) (cur.toList.take (l.length*(Ty.int .u8).size)) l):=hO
   have fB:(match β id with
    |some pl=>(0 < len\/0=0->ad=some ⟨pl.b,0,none⟩)/\(([]:List La)=[]->0=0->cap=pl.cap)
    |none=>ad=none/\len=0/\cap=0):=fB
   cases hp:β id with
   |none=>rw[hp]at hO;simp only at hO;subst hO;simp at h6;omega
   |some pl=>
    rw[hp]at hO fB;obtain⟨cur,k,q1,q2,q3,q4,q5,q6,q7,q8⟩:=hO;have hk:=q7 rfl;subst hk;have ayN:=fB.1 (.inr rfl);subst ayN;have hb:pl.b < w.heap.size:=(bP.1 q1).1;have aRB:∃w',w.freeze ⟨pl.b,cur.size,none⟩ 1=w'/\w'.heap[pl.b]? =some (.cells cur e0 (cur.size,cur.size+1))/\w'.os=w.os/\w'.tape=w.tape/\(w'.output=w.output/\w.drawn<=w'.drawn)/\w'.heap.size=w.heap.size/\∀b',b'≠pl.b->w'.heap[b']? =w.heap[b']? :=by
     refine⟨_,rfl,?_⟩;unfold World.freeze;rw[if_neg ak];refine⟨?_,rfl,rfl,⟨rfl,ax _⟩,by simp,λb' hb'=> ?_⟩
     ·simp only[gH,bG,q1,dV];rfl
     ·simp only[gH];rw[if_neg (λe=>hb' e.symm)]
    obtain⟨w',hw',f1,f2,f3,f4,f5,f6⟩:=aRB;have avO:w.shape? pl.b=some (e0,cur.size):=by simp only[World.shape?,q1]
    have hm:(markStringish ⟨pl.b,0,none⟩).run P w= .ok () w':=by simp only[markStringish,Sem.run_bind,run_shape,avO,Result.andThen_ok,run_freeze,hw']
    have i1:=h.kill cQ q5 f2 f3 f4 f5 f6;refine .inl ⟨.slice (some ⟨pl.b,0,none⟩) len cap,w',dW (f:=convert src src (a.eval x)) (by simp only[execOp,ho]) ?_,_,β,i1.put o.dst ⟨_,?_,rfl⟩⟩
    ·rw[hy];simp[convert,run_underlying hD,run_underlying hE,hm]
    ·have VF:=xq q8;have aO8:(Ty.int .u8).size=1:=rfl;rw[aO8,gT]at VF;simp only[V,df];refine⟨_,cap,l.map (Value.int .u8),by rw[h6],by rw[<-h6];exact Qw,λ_=>rfl,λj vv hj=>⟨_,_,rfl,?_,?_⟩,xx (E:=(s.bl id .dead).env w' (nT g pl.b .free) β) _⟩
     ·rw[aO];show w'.cell? ⟨pl.b,j,none⟩=some vv;simp only[World.cell?,f1];rw[<-VF,di]at hj;split at hj
      ·simpa using hj
      ·cases hj
     ·show vk (nT g pl.b .free) pl.b (0+j);unfold vk;rw[fH];trivial
  ·simp only[av]at he
 ·simp only[av]at he
theorem aKD(h:Inv C g β s a w){src dst:TypeId}{x:Operand}(ho:o.op= .convert src dst x){l:List Int}(hl:s.ev x= .sb l){v:aB}(he:(aD5 P src dst l).eval=some v):fL P o a w (iB C (s.put o.dst v)):=by
 have hx:=h.ev x;have fin:∀z,(convert src dst (a.eval x)).run P w= .ok z w->VS (s.env w g β) v z->fL P o a w (iB C (s.put o.dst v)):=by intro z h1 h2;exact h.value h2 (dW (f:=convert src dst (a.eval x)) (by simp only[execOp,ho]) h1)
 unfold aD5 at he;split at he
 ·rename_i e e' hD hS;rw[hl]at hx;split at he
  ·rename_i hE;obtain⟨h1,h2⟩:=aC.1 he;obtain rfl:=ay.1 h2;have h1:src=dst:=by simpa using h1
   subst h1;obtain⟨cs,hv,hO⟩:=hx;simp only[V]at hv;obtain⟨b,cap,arr,e2,ani,Qw,aOY,hb,ar1⟩:=hv;have hO':cs=[a.eval x]:=hO;rw[ani]at hO';have hy:a.eval x= .slice (some ⟨b,0,none⟩) l.length cap:=by simpa using hO'.symm
   rw[hD]at hS;obtain rfl:e=e':=by simpa using hS
   refine fin (.slice (some ⟨b,0,none⟩) l.length cap) ?_ ⟨_,?_,rfl⟩
   ·rw[hy];have hb:w.heap[b]? =some (.cells arr e2 (arr.size,arr.size+1)):=hb
    have aRB:=am6 hb;have avO:w.shape? b=some (e2,arr.size):=by simp only[World.shape?,hb]
    have hm:(markStringish ⟨b,0,none⟩).run P w= .ok () w:=by simp only[markStringish,Sem.run_bind,run_shape,avO,Result.andThen_ok,run_freeze,aRB]
    simp[convert,run_underlying hD,run_underlying hE,hm]
   ·simp only[V,df];refine⟨_,cap,l.map (Value.int .u8),rfl,Qw,λ_=>rfl,λj v hj=>⟨_,_,rfl,?_,?_⟩,xx (E:=s.env w g β) _⟩
    ·rw[aO];show w.cell? ⟨b,j,none⟩=some v;have hb:w.heap[b]? =some (.cells arr e2 (arr.size,arr.size+1)):=hb
     simp only[World.cell?,hb];simpa using ar1 j v hj
    ·show vk g b (0+j);unfold vk;have aOY:g b= .free:=aOY;rw[aOY];trivial
  ·simp only[av]at he
 ·simp only[av]at he
theorem aii(h:Inv C g β s a w){obj:Bool}{src dst:TypeId}{x:Operand}(ho:o.op= .convert src dst x){v:aB}(he:(afM P s obj src dst (s.ev x)).eval=some v):fL P o a w (iB C (s.put o.dst v)):=by
 have hx:=h.ev x;have fin:∀z,(convert src dst (a.eval x)).run P w= .ok z w->VS (s.env w g β) v z->fL P o a w (iB C (s.put o.dst v)):=by intro z h1 h2;exact h.value h2 (dW (f:=convert src dst (a.eval x)) (by simp only[execOp,ho]) h1)
 unfold afM at he;split at he
 ·rename_i l hl;exact aKD h ho hl he
 rename_i aRH;unfold aD4 at he;split at he
 ·rename_i k n k' d hl hD hS;rw[hl]at hx;obtain rfl:=ay.1 he;refine fin (.int k' (k'.wrap n)) ?_ (l5 _ _)
  rw[vH hx];simp[convert,run_underlying hD,run_underlying hS,Conv.intToInt]
 ·rename_i st d hl hD hS;rw[hl]at hx;obtain rfl:=ay.1 he;refine fin (.string st) ?_ (ahD _)
  rw[JL hx];simp[convert,run_underlying hD,run_underlying hS]
 ·rename_i st e d hl hD hS;rw[hl]at hx;split at he
  ·rename_i hE;obtain⟨cap,Qw,arr,ar1,gG⟩:=RJ (P:=P) e st w;have i1:=(h.drew).Kj (.cells arr e (arr.size,arr.size+1));have hlen:(bH st).length=st.size:=by simp only[bH,bV,cK];rfl
   have h2:=ui w.drew (.cells arr e (arr.size,arr.size+1));have hex:(execOp a.eval o).run P w= .ok (.value (.slice (some ⟨w.heap.size,0,none⟩) st.size cap)) (w.drew.alloc (.cells arr e (arr.size,arr.size+1))):=by
    refine dW (f:=convert src dst (a.eval x)) (by simp only[execOp,ho]) ?_
    rw[JL hx];simp[convert,run_underlying hD,run_underlying hS,run_underlying hE,gG]
   have avM:nT g w.drew.heap.size .free w.heap.size= .free:=by rw[show w.drew.heap.size=w.heap.size from rfl,fH]
   cases obj with
   |false=>
    obtain rfl:=ay.1 he;refine .inl ⟨_,_,hex,_,β,i1.put o.dst ⟨_,?_,rfl⟩⟩;simp only[V,df];refine⟨_,cap,(bH st).map (Value.int .u8),by rw[hlen],ak,λ_=>rfl,λj v hj=>⟨_,_,rfl,?_,?_⟩,xx (E:=s.env (w.drew.alloc (.cells arr e (arr.size,arr.size+1))) (nT g w.drew.heap.size .free) β) _⟩
    ·have:=ar1 j v hj;rw[aO];show(w.drew.alloc (.cells arr e (arr.size,arr.size+1))).cell? ⟨w.drew.heap.size,j,none⟩=some v;simp only[World.cell?,h2];simpa using this
    ·show vk (nT g w.drew.heap.size .free) w.heap.size (0+j);unfold vk;rw[avM];trivial
   |true=>
    obtain rfl:=ay.1 he;refine .inl ⟨_,_,hex,_,β,i1.put o.dst ⟨_,?_,rfl⟩⟩;simp only[V];exact⟨w.heap.size,cap,arr,e,by rw[hlen],ak,avM,h2,ar1⟩
  ·simp only[av]at he
 ·rename_i e hD hS gF;clear gF;split at he
  ·rename_i hE;obtain⟨l,h1,h2⟩:=aw.1 he;obtain rfl:=ay.1 h2;obtain⟨cs,hR,hO⟩:=asY h hx h1;simp only[df]at hR;obtain⟨ad,cap,vs,rfl,aCg,qX,s9,wB⟩:=hR;have hO': [Value.slice ad (ag l) cap]=[a.eval x]:=hO;have hy:a.eval x= .slice ad (ag l) cap:=by simpa using hO'.symm
   refine fin (.string (fy l)) ?_ (ahD _)
   rw[hy,run_convert_bytes_string w src dst e ad _ _ hS hE hD];have VF:=xq (E:=(s.env w g β).open) (k:= .u8) (vs:=vs) (l:=l) wB;cases ad with
   |none=>
    have aRH:l=[]:=by
     cases l with
     |nil=>rfl
     |cons _ _=>simp at qX
    subst aRH;rfl
   |some ad=>
    have aFd:(loadCells ad (ag l)).run P w= .ok (l.map (Value.int .u8)).toArray w:=by
     have:=run_loadCells_list (P:=P) w ad (l.map (Value.int .u8)) (λj v hj=>by
      rw[<-VF]at hj;obtain⟨bb,off,e1,hh⟩:=s9 j v hj;simp only[az]at e1;subst e1;rw[Addr.add_lit];exact hh.1)
     simpa using this
    rw[run_bytesToString w ad _ _ l aFd,foldl_push];simp[fy]
  ·simp only[av]at he
 ·simp only[av]at he
end
end Go.Ab
namespace Go.Ab
section
variable {P:Program} {C:Ctx} {g:Nat->mz} {β:Id->Option Pl} {s:AS} {a:Act} {w:World} {o:Oper}
theorem af2(off:Nat):∀(vs:List Value) (k:Nat) (cells:Array Value),off+k+vs.length<=cells.size->
  ((vs.zipIdx k).foldl (λcs (c,j)=>cs.setIfInBounds (off+j) c) cells).toList=dA cells.toList (off+k) vs
 |[],k,cells,_=>by simp[dA]
 |v::vs,k,cells,h=>by simp only[aA]at h;rw[List.zipIdx_cons,bq,af2 off vs (k+1) _ (by simpa using(by omega:off+(k+1)+vs.length<=cells.size))];rw[Array.toList_setIfInBounds];have:=list_seg_step cells.toList (off+k) v vs (by simp;omega);unfold dA;simpa[eP]using this
theorem af0{place:Nat->Option (Nat×Nat)}{cells:Array Value}{i off:Nat}{v:Value}{vs:List Value}{rest:List (Nat×Value)}(hp:place i=some (off,vs.length))(hv:v.cells=vs.toArray)(hl:off+vs.length<=cells.size):
  Instr.fill place cells ((i,v)::rest)=Instr.fill place (dA cells.toList off vs).toArray rest:=by
 have h1:v.cells.size=vs.length:=by rw[hv];simp
 have h2:¬(v.cells.size≠vs.length || off+v.cells.size > cells.size)=true:=by simp[h1];omega
 simp only[Instr.fill,hp];rw[if_neg h2];congr 1;apply gC;have:=af2 off vs 0 cells ak;simp only[cq]at this;rw[<-this,hv];rw[<-Array.foldl_toList];simp
theorem DH{E E':Env}(hs:E.s=s.bW)(ho:iZ E)(he:cM E E'){t:Ty}(anj:∀x,VS E (s.ev x) (a.eval x)):
  ∀(ps:List (Nat×Operand)) (l:List t.den) (r:List t.den×List Id) (cells:Array Value),(jB t s ps l).eval=some r->aQX E E' r.2->bD (df E' t) cells.toList l->
   ∃cells',Instr.fill (λi=>some (i*t.size,t.size)) cells (ps.map λ(i,x)=>(i,a.eval x))=some cells'/\bD (df E' t) cells'.toList r.1
 |[],l,r,cells,h,_,hc=>by obtain rfl:=ay.1 h;exact⟨cells,rfl,hc⟩
 | (i,x)::ps,l,r,cells,h,hf,hc=>by
  simp only[jB]at h;obtain⟨h1,h2⟩:=aC.1 h;obtain⟨y,h3,h4⟩:=aw.1 h2;obtain⟨r',h5,h6⟩:=aw.1 h4;obtain rfl:=ay.1 h6;have hi:i < l.length:=by simpa using h1
  obtain⟨cs,hV,hO⟩:=(anj x).eQ (CP h3);have hR:=xM hs ho he _ t y cs hV h3 (λid cY=>hf id (by simp[cY]));have Ed:=hO.cells hV.one;have hlen:=hc.length (λ_ _ hx=>df.size hx);have tW:=hR.size;have hle:i*t.size+cs.length<=cells.size:=by have:=cS t.size (show i+1<=l.length by omega);rw[eE,iE]at this;simp at hlen;omega
  have ai5:=bD.set (λ_ _ hx=>df.size hx) hc i hi hR;obtain⟨cells',q1,q2⟩:=DH hs ho he anj ps (l.set i y) r' (dA cells.toList (i*t.size) cs).toArray h5 (λid cY=>hf id (by simp[cY])) ai5;refine⟨cells',?_,q2⟩;rw[bQ,af0 (by rw[tW]) Ed hle];exact q1
theorem uY{E:Env}{t:Ty}{zc:Array Value}(hz:df E t zc.toList t.zero):∀n:Nat,bD (df E t) (madeCells zc (n*t.size)).toList (ab n t.zero):=by
 have tW:zc.size=t.size:=by have:=hz.size;simpa using this
 intro n
 induction n with
 |zero=>simp[madeCells,bD]
 |succ n ih=>
  have e:(madeCells zc ((n+1)*t.size)).toList=(madeCells zc (n*t.size)).toList++zc.toList:=by
   apply ln;intro j;rw[eE,iE];simp only[madeCells,Array.toList_map,Array.toList_range,eh,List.getElem?_append,bV,List.length_range];by_cases hj:j < n*t.size
   ·have hj':j < n*t.size+t.size:=ak;simp[hj,hj',tW]
   ·by_cases hj':j < n*t.size+t.size
    ·have gQ:j - n*t.size < zc.size:=ak;have hm:j%t.size=j - n*t.size:=by
      have:j=(j - n*t.size)+t.size*n:=by rw[ql t.size n];omega
      rw[this,Nat.add_mul_mod_self_left,kc ak];rw[ql t.size n];omega
     simp[hj,hj',tW,hm];rw[getElem?_pos zc _ gQ,lH zc _ gQ]
    ·have h1:¬j - n*t.size < zc.size:=ak;simp[hj,hj',h1]
  rw[e,List.replicate_succ'];exact bD.append ih (bD.one hz)
theorem rB{nl:Bool}{T:TypeId}{e:TypeId}{t:Ty}{b:Nat}(h:FF P nl T=some (e,t,b)):
  P.underlying T=some (.slice e)/\0 < t.size/\∃i zv,P.info? e=some i/\i.size=t.size/\i.bytes=b/\i.zero=some zv/\∀E,df E t zv.cells.toList t.zero:=by
 unfold FF at h;split at h
 ·rename_i e' hT;split at h
  ·rename_i t' ht;split at h
   ·rename_i hg;simp only[az,cE]at h;obtain⟨rfl,rfl,rfl⟩:=h;simp only[au,cC,dv,gE]at hg;obtain⟨⟨h1,h2⟩,h3⟩:=hg;obtain⟨i,zv,hi,hz,_,_⟩:=wh h3 {w:=default,g:=λ_=> .free,β:=λ_=>none,s:=λ_=>none};refine⟨hT,ak,i,zv,hi,by rw[<-nD hi];exact h1,by simp[Program.bytesOf,hi],hz,λE=> ?_⟩;obtain⟨i',zv',hi',hz',hV,_⟩:=wh h3 E;rw[hi]at hi';obtain rfl:i=i':=by simpa using hi'
    rw[hz]at hz';obtain rfl:zv=zv':=by simpa using hz'
    simpa only[V]using hV
   ·cases h
  ·cases h
 ·cases h
theorem C6{T:TypeId}{e:TypeId}{t:Ty}{b:Nat}(h:XR P T=some (e,t,b)):P.underlying T=some (.slice e)/\0 < t.size/\∃i zv,P.info? e=some i/\i.size=t.size/\i.bytes=b/\i.zero=some zv/\∀E,df E t zv.cells.toList t.zero:=rB h
theorem ad1{T:TypeId}{e:TypeId}{t:Ty}{b:Nat}(h:aiE P T=some (e,t,b)):0 < t.size:=by
 unfold aiE at h;split at h
 ·exact(rB h).2.1
 ·exact(rB h).2.1
theorem Inv.ajA(h:Inv C g β s a w){q:Nat}(hq:s.dY q=true){e:TypeId}{t:Ty}{l:List t.den}{cur:Array Value}{cap:Nat}(hz:0 < t.size)(hc:bD (df (s.env w g β) t) (cur.toList.take (l.length*t.size)) l)
  (hs:cur.size=cap*t.size) (hl:l.length<=cap) (hm:cap<=maxLen):
  ∃g' β',Inv C g' β' (s.born q [.obj 0 false (.vec e t l)]) a (w.alloc (.cells cur e))/\
   VS ((s.born q [.obj 0 false (.vec e t l)]).env (w.alloc (.cells cur e)) g' β') (.bA (.new q 0) 0 [] 0 0 l.length) (.slice (some ⟨w.heap.size,0,none⟩) l.length cap):=by
 have ht:=Trans.alloc w g (.cells cur e) (.own (.id (.new q 0)) 0);obtain⟨h1,h2⟩:=h.SY hq (c:= .vec e t l) (p:=some ⟨w.heap.size,cap⟩) ht (λb hb=>⟨rA w _ hb,fA _ _ _ ak⟩) (λhe=>by
  refine⟨hz,?_⟩;show(match Kb β (.new q 0) (some ⟨w.heap.size,cap⟩) (.new q 0) with
   |none=>l=[]
   |some pl=>_)
  rw[kh];exact⟨cur,0,ui w _,hs,hl,hm,fH _ _ _,aK _,λ_=>rfl,hc.mono λ_ _ hx=>hx.mono he.mem⟩)
 refine⟨_,_,h1,_,?_,rfl⟩;simp only[V];refine⟨_,_,rfl,hl,λ_=>rfl,qs hq _ _ _ _,λ_=> ?_⟩;show(match Kb β (.new q 0) (some ⟨w.heap.size,cap⟩) (.new q 0) with
   |some pl=>_
   |none=>_)
 rw[kh];exact⟨λ_=>rfl,λ_ _=>rfl⟩
theorem Inv.aGv(h:Inv C g β s a w){q:Nat}(hq:s.dY q=true){e:TypeId}{t:Ty}(hz:0 < t.size):
  ∃β',Inv C g β' (s.born q [.obj 0 false (.vec e t [])]) a w/\cM (s.env w g β) ((s.born q [.obj 0 false (.vec e t [])]).env w g β')/\
   VS ((s.born q [.obj 0 false (.vec e t [])]).env w g β') (.bA (.new q 0) 0 [] 0 0 0) (.slice none 0 0):=by
 have ht:=Trans.refl w g;obtain⟨h1,h2⟩:=h.SY hq (c:= .vec e t []) (p:=none) ht (λb hb=>⟨rfl,rfl⟩) (λhe=>by
  refine⟨hz,?_⟩;show(match Kb β (.new q 0) none (.new q 0) with
   |none=>([]:List t.den)=[]
   |some pl=>_)
  rw[kh])
 refine⟨_,h1,h2,_,?_,rfl⟩;simp only[V];refine⟨_,_,rfl,ax _,λhh=>ak,qs hq _ _ _ _,λ_=> ?_⟩;simp[AS.env]
theorem TP(parts:Array (Nat×Operand)):(parts.map λ(i,x)=>(i,a.eval x)).toList=parts.toList.map λ(i,x)=>(i,a.eval x):=by simp
theorem W6(h:Inv C g β s a w){T:TypeId}{n:Nat}{parts:Array (Nat×Operand)}{nl obj:Bool}(ho:o.op= .buildSlice T n parts){s':AS}(he:(mW P s nl obj o.dst T n parts.toList).eval=some s'):fL P o a w (iB C s'):=by
 unfold mW at he;split at he
 ·rename_i e t b q Lg hd;obtain⟨hT,hz,i,zv,hi,ayT,aO2,aqu,ayY⟩:=rB Lg;obtain⟨h1,h2⟩:=aC.1 he;obtain⟨r,h3,h4⟩:=aw.1 h2;simp only[aW]at h1;obtain⟨g1,i1,e1,t1,f1⟩:=fD r.2 h;have aQJ:zv.cells.size=t.size:=by have:=(ayY (s.env w g β)).size;simpa using this
  obtain⟨cells',aRz,wB⟩:=DH (a:=a) rfl h.bJ e1 h.ev parts.toList _ r (madeCells zv.cells (n*t.size)) h3 f1 (uY (ayY _) n);have aRM:r.1.length=n:=by
   have:∀(ps:List (Nat×Operand)) (l:List t.den) (r:List t.den×List Id),(jB t s ps l).eval=some r->r.1.length=l.length:=by
    intro ps
    induction ps with
    |nil=>intro l r hh;obtain rfl:=ay.1 hh;rfl
    |cons p ps ih=>
     intro l r hh;obtain⟨i,x⟩:=p;simp only[jB]at hh;obtain⟨_,h2⟩:=aC.1 hh;obtain⟨y,h3,h4⟩:=aw.1 h2;obtain⟨r',h5,h6⟩:=aw.1 h4;obtain rfl:=ay.1 h6;have:=ih _ _ h5;simpa using this
   rw[this _ _ _ h3];simp
  have aCf:=wB.length (λ_ _ hx=>df.size hx);have gG:(execOp a.eval o).run P w= .ok (.value (.slice (some ⟨w.heap.size,0,none⟩) n n)) (w.alloc (.cells cells' e)):=by
   refine dW (f:=Instr.buildSlice T n (parts.map λ(i,x)=>(i,a.eval x))) (by simp only[execOp,ho]) ?_
   have aRn:¬n*t.size > 2^24:=ak;have hfill':Instr.fill (λi=>some (i*t.size,t.size)) ((Array.range (n*t.size)).map (λx=>(zv.cells)[x%zv.cells.size]!)) (parts.map λ(i,x)=>(i,a.eval x)).toList=some cells':=by rw[TP];exact aRz
   by_cases hn:n*t.size=0
   ·have aLb:n=0:=by
     rcases Nat.mul_eq_zero.1 hn with h' | h'
     ·exact h'
     ·omega
    subst aLb;simp only[nu]at hfill' aRn;have h0:Array.range 0= #[]:=rfl;rw[h0,Array.map_empty]at hfill';simp at hfill';simp[Instr.buildSlice,run_underlying hT,run_sizeOf hi,ayT,newRow,h0,hfill']
   ·simp[Instr.buildSlice,run_underlying hT,run_sizeOf hi,ayT,newRow,hn,aRn,zeroValue,typeInfo,hi,aqu];simp at hfill';simp[hfill']
  cases obj with
  |true=>
   simp only at h4;obtain⟨hq,h5⟩:=aC.1 h4;obtain rfl:=ay.1 h5;rw[<-wc r.2]at hq;have aRA:cells'.toList.take (r.1.length*t.size)=cells'.toList:=aY ak;obtain⟨g2,β2,i2,VE⟩:=i1.ajA hq (e:=e) (l:=r.1) (cur:=cells') (cap:=n) hz (by rw[aRA];exact wB) (by simp at aCf;rw[aCf,aRM]) ak (by
    have:n<=n*t.size:=Nat.le_mul_of_pos_right n hz;unfold maxLen;omega)
   refine .inl ⟨_,_,gG,g2,β2,?_⟩;rw[hd];rw[aRM]at VE ⊢;exact i2.put (some q) VE
  |false=>
   simp only at h4;obtain rfl:=ay.1 h4;have i2:=i1.Kj (.cells cells' e);refine .inl ⟨_,_,gG,nT g1 w.heap.size .free,β,?_⟩;rw[hd];refine i2.put (some q) ⟨[.slice (some ⟨w.heap.size,0,none⟩) n n],?_,rfl⟩;simp only[V,df];refine⟨_,n,cells'.toList,by rw[aRM],ak,λ_=>rfl,λj v hj=>⟨_,_,rfl,?_,?_⟩,wB.mono λ_ _ hx=>hx.mono (Trans.mem (E:=(s.bB r.2).env w g1 β) (E':=(s.bB r.2).env (w.alloc (.cells cells' e)) (nT g1 w.heap.size .free) β) (Trans.alloc w g1 (.cells cells' e) .free))⟩
   ·show(w.alloc (.cells cells' e)).cell? ⟨w.heap.size,0+j,none⟩=some v;rw[World.cell?_alloc_new,aO];simpa using hj
   ·show vk (nT g1 w.heap.size .free) w.heap.size (0+j);unfold vk;rw[fH];trivial
 ·simp only[av]at he
theorem aaF(h:Inv C g β s a w){T:TypeId}{x y:Operand}(ho:o.op= .makeSlice T x y){len cap:Int}(hx:(asInt (s.ev x)).eval=some len)(hy:(asInt (s.ev y)).eval=some cap){s':AS}
  (he:(tg P s o.dst T len cap).eval=some s'):fL P o a w (iB C s'):=by
 obtain⟨k,hx⟩:=AD (h.ev x) hx;obtain⟨k',hy⟩:=AD (h.ev y) hy;unfold tg at he;split at he
 ·rename_i e t b q Lg hd;obtain⟨hT,hz,i,zv,hi,ayT,aO2,aqu,ayY⟩:=C6 Lg;obtain⟨hq,h2⟩:=aC.1 he;obtain⟨h3,h4⟩:=bS.1 h2;obtain rfl:=ay.1 h4;simp only[au,aW,db]at h3;obtain⟨⟨h5,h6⟩,h7,h8⟩:=h3;have hbytes:(i.bytes:Int)*cap<=281474976710656:=by rw[aO2];have:((cap.toNat*b:Nat):Int)<=140737488355328:=ak;rw[kU,show((cap.toNat:Nat):Int)=cap by omega,qc]at this;omega
  have hr:=run_make (P:=P) w T e i zv hT hi aqu k k' len cap h5 h6 hbytes ak;rw[ayT]at hr;have aQJ:zv.cells.size=t.size:=by have:=(ayY (s.env w g β)).size;simpa using this
  have C8:=uY (ayY (s.env w g β)) cap.toNat;have ayX:=bD.take (λ_ _ hx=>df.size hx) len.toNat C8;rw[List.take_replicate,dU ak]at ayX;obtain⟨g2,β2,i2,VE⟩:=h.ajA hq (e:=e) (l:=ab len.toNat t.zero) (cur:=madeCells zv.cells (cap.toNat*t.size)) (cap:=cap.toNat) hz (by rw[cg];exact ayX) (size_madeCells _ _) (by rw[cg];omega) (by unfold maxLen;omega);rw[cg]at VE;refine .inl ⟨_,_,dW (f:=Instr.makeSlice T (a.eval x) (a.eval y)) (by simp only[execOp,ho]) (by rw[hx,hy];exact hr),g2,β2,?_⟩;rw[hd];exact i2.put (some q) VE
 ·simp only[av]at he
end
end Go.Ab
namespace Go.Ab
section
variable {P:Program} {C:Ctx} {g:Nat->mz} {β:Id->Option Pl} {s:AS} {a:Act} {w:World} {o:Oper}
theorem asU:∀(c:aB) (f off:Nat) (v:aB),partOf c f=some (off,v)->(loc c (oz f)).eval=some (off,v):=by
 intro c f
 induction f generalizing c with
 |zero=>
  intro off v h;cases c with
  |d t y=>
   cases t <;> simp only[partOf,reduceCtorEq]at h;simp only[az,cE]at h;obtain⟨rfl,rfl⟩:=h;rfl
  |pr b c=>
   simp only[partOf,az,cE]at h;obtain⟨rfl,rfl⟩:=h;simp only[oz,loc];cases b <;> rfl
  |_=>simp only[partOf,reduceCtorEq]at h
 |succ f ih=>
  intro off v h;cases c with
  |d t y=>
   cases t with
   |pair ta tb=>
    simp only[partOf]at h;cases hp:partOf (.d tb y.2) f with
    |none=>rw[hp]at h;cases h
    |some r=>
     rw[hp]at h;simp only[az,cE]at h;obtain⟨rfl,rfl⟩:=h;simp only[oz,loc,aw];exact⟨_,ih _ _ _ hp,rfl⟩
   |_=>simp only[partOf,reduceCtorEq]at h
  |pr b c=>
   simp only[partOf]at h;cases hp:partOf c f with
   |none=>rw[hp]at h;cases h
   |some r=>
    rw[hp]at h;simp only[az,cE]at h;obtain⟨rfl,rfl⟩:=h;simp only[oz,loc,aw];exact⟨_,ih _ _ _ hp,rfl⟩
  |_=>simp only[partOf,reduceCtorEq]at h
theorem an0(a b:aB):(Q1 a b).agg=true:=by unfold Q1;split <;> rfl
theorem ae5{v x v':aB}{i:Nat}(h:(yy v (oz i) x).eval=some v'):v'.agg=true:=by
 have fin:∀ {o:Out aB} {f:aB->aB},(∀a,(f a).agg=true)->(o.bind λa=>Out.ok (f a)).eval=some v'->v'.agg=true:=by intro o f hf hh;obtain⟨_,_,h2⟩:=aw.1 hh;obtain rfl:=ay.1 h2;exact hf _
 cases i <;> simp only[oz]at h
 all_goals
  cases v with
  |d t y=>cases t <;> first | (simp only[yy,av]at h;done) | (simp only[yy]at h;exact fin (λ_=>an0 _ _) h)
  |pr b c=>simp only[yy]at h;exact fin (λ_=>an0 _ _) h
  |_=>simp only[yy,av]at h
theorem Jz{E:Env}(anj:∀x,VS E (s.ev x) (a.eval x)){fs:Array Field}{places:Array (Nat×Nat)}(Pd:∀(i:Nat) (f:Field),fs[i]? =some f->places[i]? =some (f.offset,P.cellsOf f.type)):
  ∀(ps:List (Nat×Operand)) (v v':aB) (cells:Array Value),(qN P fs s ps v).eval=some v'->V E v cells.toList->v.agg=true->
   ∃cells',Instr.fill (places[·]?) cells (ps.map λ(i,x)=>(i,a.eval x))=some cells'/\V E v' cells'.toList/\v'.agg=true
 |[],v,v',cells,h,hV,Pc=>by obtain rfl:=ay.1 h;exact⟨cells,rfl,hV,Pc⟩
 | (i,x)::ps,v,v',cells,h,hV,Pc=>by
  simp only[qN]at h;split at h
  ·rename_i f off bm hf hp;obtain⟨h1,h2⟩:=aC.1 h;obtain⟨v1,h3,h4⟩:=aw.1 h2;simp only[au,dv]at h1;obtain⟨⟨rfl,aSP⟩,aVv⟩:=h1;obtain⟨ar2,_⟩:=s8 aVv;obtain⟨cs,hVx,hO⟩:=(anj x).eQ ar2;have hcells:=hO.cells hVx.one;have aTT:=asU _ _ _ _ hp;obtain⟨u1,u2,u3⟩:=qU (oz i) v cells.toList f.offset bm (s.ev x) v1 cs (VO.of hV) aTT hVx h3;have aRO:v1.iS=false:=u3.uT hV.uT;have tW:P.cellsOf f.type=cs.length:=by rw[(Im aVv).2.1];exact hVx.size.symm
   obtain⟨cells',q1,q2,q3⟩:=Jz anj Pd ps v1 v' (dA cells.toList f.offset cs).toArray h4 (by simpa using u2.to aRO) (ae5 h3);refine⟨cells',?_,q2,q3⟩;rw[bQ,af0 (by rw[Pd i f hf,tW]) hcells (by simpa using u1)];exact q1
  ·simp only[av]at h
theorem apk{α γ:Type}(f:α->Sem γ)(r:α->γ):∀(l:List α),(∀x∈l,(f x).run P w= .ok (r x) w)->(l.mapM f).run P w= .ok (l.map r) w
 |[],_=>by simp
 |x::xs,h=>by rw[List.mapM_cons];simp only[Sem.run_bind,h x (by simp),Result.andThen_ok,apk f r xs (λy hy=>h y (by simp[hy])),Sem.run_pure,bQ]
theorem arb(h:Inv C g β s a w){T:TypeId}{parts:Array (Nat×Operand)}(ho:o.op= .build T parts){s':AS}(he:(H0 P s o.dst T parts.toList).eval=some s'):fL P o a w (iB C s'):=by
 unfold H0 at he;split at he
 ·rename_i fs hT;split at he
  ·rename_i z aXJ;obtain⟨h1,h2⟩:=aC.1 he;obtain⟨v,h3,h4⟩:=aw.1 h2;obtain rfl:=ay.1 h4;simp only[au,cW]at h1;obtain⟨⟨hz,Pc⟩,aTQ⟩:=h1;obtain⟨i,zv,hi,aqu,hV,hO⟩:=wh hz (s.env w g β)
   let places:Array (Nat×Nat):=fs.map λf=>(f.offset,P.cellsOf f.type)
   have Pd:∀(i:Nat) (f:Field),fs[i]? =some f->places[i]? =some (f.offset,P.cellsOf f.type):=by intro i f hf;simp[places,hf]
   obtain⟨cells',q1,q2,q3⟩:=Jz (a:=a) h.ev Pd parts.toList z v zv.cells h3 hV Pc;have hm:(fs.mapM λf=>(do pure (f.offset,<-sizeOf f.type):Sem (Nat×Nat))).run P w= .ok places w:=by
    rw[Array.mapM_eq_mapM_toList];have:=apk (P:=P) (w:=w) (λf=>(do pure (f.offset,<-sizeOf f.type):Sem (Nat×Nat))) (λf=>(f.offset,P.cellsOf f.type)) fs.toList (by
     intro f hf;obtain⟨j,hj⟩:=bO.1 (aTQ f hf);rw[Sem.run_bind,run_sizeOf hj,nD hj];rfl)
    rw[Sem.run_map,this];show Result.ok _ w=Result.ok _ w;congr 1;apply gC;simp[places]
   refine h.value (x:= .agg cells') (VS.of q2 (by rw[q3];simp[fT])) (dW (f:=Instr.build T (parts.map λ(i,x)=>(i,a.eval x))) (by simp only[execOp,ho]) ?_);have q1':Instr.fill (places[·]?) zv.cells (parts.map λ(i,x)=>(i,a.eval x)).toList=some cells':=by rw[TP];exact q1
   simp only[Instr.build,Sem.run_bind,zeroValue,typeInfo,run_program,hi,Result.andThen_ok,Sem.run_pure,aqu,run_underlying hT,hm,q1']
  ·simp only[av]at he
 ·rename_i n e hT;split at he
  ·rename_i t ht;obtain⟨h1,h2⟩:=aC.1 he;obtain⟨r,h3,h4⟩:=aw.1 h2;obtain rfl:=ay.1 h4;simp only[au,dv]at h1;obtain⟨tW,hz⟩:=h1;obtain⟨g1,i1,e1,t1,f1⟩:=fD r.2 h;obtain⟨i,zv,hi,aqu,hV,hO⟩:=wh hz ((s.bB r.2).env w g1 β);simp only[V,df]at hV;obtain⟨cells',q1,q2⟩:=DH (a:=a) rfl h.bJ e1 h.ev parts.toList _ r zv.cells h3 f1 hV.2;have aRM:r.1.length=n:=by
    have:∀(ps:List (Nat×Operand)) (l:List t.den) (r:List t.den×List Id),(jB t s ps l).eval=some r->r.1.length=l.length:=by
     intro ps
     induction ps with
     |nil=>intro l r hh;obtain rfl:=ay.1 hh;rfl
     |cons p ps ih=>
      intro l r hh;obtain⟨i,x⟩:=p;simp only[jB]at hh;obtain⟨_,h2⟩:=aC.1 hh;obtain⟨y,h3,h4⟩:=aw.1 h2;obtain⟨r',h5,h6⟩:=aw.1 h4;obtain rfl:=ay.1 h6;have:=ih _ _ h5;simpa using this
    rw[this _ _ _ h3];simp
   refine .inl ⟨.agg cells',w,dW (f:=Instr.build T (parts.map λ(i,x)=>(i,a.eval x))) (by simp only[execOp,ho]) ?_,g1,β,i1.put o.dst ⟨cells'.toList,?_,by simp[fT,aB.agg,Ty.agg]⟩⟩
   ·have q1':Instr.fill (λi=>some (i*t.size,t.size)) zv.cells (parts.map λ(i,x)=>(i,a.eval x)).toList=some cells':=by rw[TP];exact q1
    cases aTO:P.info? e with
    |none=>
     exfalso;unfold ap9 adt at ht;simp only[depth]at ht;have:P.underlying e=none:=by simp[Program.underlying,aTO]
     rw[this]at ht;cases ht
    |some ie=>
     have aVK:=run_sizeOf aTO w;rw[<-nD aTO,tW]at aVK;simp only[Instr.build,Sem.run_bind,zeroValue,typeInfo,run_program,hi,Result.andThen_ok,Sem.run_pure,aqu,run_underlying hT,aVK,q1']
   ·simp only[V,df];exact⟨aRM,q2⟩
  ·simp only[av]at he
 ·simp only[av]at he
theorem Uo{T X ty e:TypeId}{i:TypeInfo}(hT:P.underlying T=some (.slice e))(hX:P.underlying X=some .string\/∃e',P.underlying X=some (.slice e'))(hi:P.info? e=some i)
  {b sLen sCap:Nat} {cur:Array Value} (hg:w.heap[b]? =some (.cells cur e (0,0))) {x:Value} {n:Nat} {news:List Value} (h1:∀u∈news,u.oneCell'=true)
  (hlen:(Builtin.lenOf x).run P w= .ok n w) (hf:(Builtin.firstCells i.size n x).run P w= .ok news.toArray w) (Mb:sLen+n<=sCap) (aiZ:sLen*i.size+news.length<=cur.size):
  (Builtin.append_ #[T,X] ty #[.slice (some ⟨b,0,none⟩) sLen sCap,x]).run P w= .ok (.slice (some ⟨b,0,none⟩) (sLen+n) sCap) (w.setRow b (dA cur.toList (sLen*i.size) news).toArray):=by
 have mG:=run_storeCells_at P b (sLen*i.size) e news 0 cur w hg (by simpa using aiZ) h1;simp only[cq]at mG;rcases hX with hX | ⟨e',hX⟩ <;> simp[Builtin.append_,run_underlying hT,run_underlying hX,sizeOf,typeInfo,hi,hlen,Mb,hf,Addr.add_lit,mG,dA]
theorem Hm{T X ty e:TypeId}{i:TypeInfo}(hT:P.underlying T=some (.slice e))(hX:P.underlying X=some .string\/∃e',P.underlying X=some (.slice e'))(hi:P.info? e=some i)
  {x:Value} (hlen:(Builtin.lenOf x).run P w= .ok 0 w) (hf:(Builtin.firstCells i.size 0 x).run P w= .ok #[] w):
  (Builtin.append_ #[T,X] ty #[.slice none 0 0,x]).run P w= .ok (.slice none 0 0) w:=by
 rcases hX with hX | ⟨e',hX⟩ <;> simp[Builtin.append_,run_underlying hT,run_underlying hX,sizeOf,typeInfo,hi,hlen,hf]
theorem Un{T X ty e:TypeId}{i:TypeInfo}{zv:Value}(hT:P.underlying T=some (.slice e))(hX:P.underlying X=some .string\/∃e',P.underlying X=some (.slice e'))(hi:P.info? e=some i)(aqu:i.zero=some zv)
  {ad:Option Addr} {sLen sCap:Nat} {bZ:List Value} (ho:(Builtin.firstCells i.size sLen (.slice ad sLen sCap)).run P w.drew= .ok bZ.toArray w.drew) {x:Value} {n:Nat} {news:List Value}
  (hlen:(Builtin.lenOf x).run P w= .ok n w) (hf:(Builtin.firstCells i.size n x).run P w.drew= .ok news.toArray w.drew) (Mb:sCap < sLen+n)
  (aVn:((sLen+n:Nat):Int)<=9223372036854775807) (aiZ:(sLen+n)*i.bytes<=140737488355328):
  (Builtin.append_ #[T,X] ty #[.slice ad sLen sCap,x]).run P w= .ok (.slice (some ⟨w.heap.size,0,none⟩) (sLen+n) (grownCap w (sLen+n) sCap e))
   (w.drew.alloc (.cells (bZ.toArray++news.toArray++Builtin.zeroCells zv.cells (grownCap w (sLen+n) sCap e - (sLen+n))) e)):=by
 have hn:¬(sLen+n<=sCap):=ak;have h63':¬(9223372036854775807 < ((sLen:Int)+(n:Int))):=ak;have hfit':=growslice_fits (bytes:=i.bytes) Mb aiZ;have h48':¬(281474976710656 < Builtin.nextslicecap (sLen+n) sCap*i.bytes):=ak;rcases hX with hX | ⟨e',hX⟩
 all_goals
  simp[Builtin.append_,run_underlying hT,run_underlying hX,sizeOf,typeInfo,zeroValue,hi,aqu,hlen,hn,h63',h48',Question.forced,hf,ho,newRow,grownCap];congr 2;apply gC;simp[aF]
end
end Go.Ab
namespace Go.Ab
section
variable {P:Program} {C:Ctx} {g:Nat->mz} {β:Id->Option Pl} {s:AS} {a:Act} {w:World} {o:Oper}
theorem aGT(h:Inv C g β s a w){v:aB}{y:Value}(hv:VS (s.env w g β) v y){t:Ty}{m:List t.den}(he:(s.asX (.slice t) v).eval=some m):
  ∃ad cap vs,y= .slice ad m.length cap/\(0 < m.length->ad.isSome=true)/\(∀j u,vs[j]? =some u->∃bb off,ad=some ⟨bb,off,none⟩/\w.cell? ⟨bb,off+j,none⟩=some u)/\bD (df (s.env w g β) t) vs m:=by
 have hp:(s.jq (.slice t) v).eval=some m:=he;cases v <;> first | (simp only[AS.jq,av]at hp;done) | skip
 case de=>
  simp only[AS.jq,ay]at hp;subst hp;exact⟨none,0,[],lN hv,by simp,λj u hj=>by simp at hj,rfl⟩
 case d t' x=>
  simp only[AS.jq]at hp;have hp:=ku.1 hp;have ha:(aB.d t' x).agg=false:=afL hp;have hV:=hv.single rfl ha;simp only[V]at hV;have hv:VS (s.env w g β) (.d (.slice t) m) y:=VS.of (cs:=[y]) (by simp only[V];exact Fi hp hV) rfl;obtain⟨ad,cap,vs,hy,_,hs,hr,hc⟩:=u6 hv;exact⟨ad,cap,vs,hy,hs,λj u hj=>let⟨bb,off,e,hh⟩:=hr j u hj;⟨bb,off,e,hh.1⟩,hc⟩
 case bA id ver p c i len=>
  simp only[AS.jq]at hp;obtain⟨⟨n,t',l⟩,h1,h2⟩:=aw.1 hp;obtain⟨h3,h4⟩:=bS.1 h2;obtain⟨aQA,aWK⟩:=ax6 (E:=s.env w g β) (ku.1 h4);rw[aQA];simp only[aW]at h3;obtain⟨hc,hlen⟩:=h3
  suffices hg:∃ad cap vs,y= .slice ad (cut l i len).length cap/\(0 < (cut l i len).length->ad.isSome=true)/\(∀j u,vs[j]? =some u->∃bb off,ad=some ⟨bb,off,none⟩/\w.cell? ⟨bb,off+j,none⟩=some u)/\bD (df (s.env w g β) t') vs (cut l i len) by obtain⟨ad,cap,vs,e1,e2,e3,e4⟩:=hg;exact⟨ad,cap,vs,e1,e2,e3,aWK _ e4⟩
  obtain⟨fr,c0,cQ,s9⟩:=Ue rfl h.bJ h1;obtain⟨ad,cap,hy,hle,qX,hb,fB⟩:=sM hv;have fB:=fB ⟨fr,c0,cQ⟩;have aJC:(cut l i len).length=len:=Fx hlen;rcases s9 with⟨hp,hl,_⟩ | ⟨pl,cur,e,hp,hh,tW,wB,hbound⟩
  ·rw[hp]at fB;simp only at fB;obtain⟨rfl,rfl,rfl⟩:=fB;have:cut l i 0=[]:=by simp[cut]
   refine⟨none,0,[],by rw[aJC];exact hy,by rw[aJC];omega,λ_ _ hh=>by simp at hh,?_⟩;rw[this];rfl
  ·rw[hp]at fB;simp only at fB;have hmul:(i+len)*t'.size<=l.length*t'.size:=cS _ hlen;rw[eE]at hmul;refine⟨ad,cap,_,by rw[aJC];exact hy,by rw[aJC];exact qX,?_,Nq wB i len⟩;rw[abu _ _ _ _ _ hmul];intro j v hj;rw[di]at hj;split at hj
   ·rename_i aO4;rw[fV,hc]at hj;have aTU:0 < len:=by
     rcases iY len with h0 | h0
     ·subst h0;simp at aO4
     ·exact h0
    refine⟨pl.b,c,fB.1 (.inl aTU),?_⟩;have hh':w.heap[pl.b]? =some (.cells cur e (0,0)):=hh
    rw[cell_of_row w pl.b (c+j) cur e (0,0) hh'];simpa using hj
   ·cases hj
theorem V3(h:Inv C g β s a w){t:Ty}{X:TypeId}{x:aB}{y:Value}(hx:VS (s.env w g β) x y){m:List t.den}(he:(IJ P s t X x).eval=some m):
  (P.underlying X=some .string\/∃e',P.underlying X=some (.slice e'))/\∃news:List Value,bD (df (s.env w g β) t) news m/\(Builtin.lenOf y).run P w= .ok m.length w/\
   ∀w',w'.heap=w.heap->(Builtin.firstCells t.size m.length y).run P w'= .ok news.toArray w':=by
 have sl:∀(x:aB),VS (s.env w g β) x y->(match P.underlying X with
   |some (.slice _)=>s.asX (.slice t) x
   |_=> .fail).eval=some m->(P.underlying X=some .string\/∃e',P.underlying X=some (.slice e'))/\∃news:List Value,bD (df (s.env w g β) t) news m/\(Builtin.lenOf y).run P w= .ok m.length w/\
   ∀w',w'.heap=w.heap->(Builtin.firstCells t.size m.length y).run P w'= .ok news.toArray w':=by
  intro x hx he;split at he
  ·rename_i e' hX;refine⟨.inr ⟨e',hX⟩,?_⟩;obtain⟨ad,cap,vs,rfl,qX,s9,wB⟩:=aGT h hx he;have hlen:=bD.length (λ_ _ hx=>df.size hx) wB;refine⟨vs,wB,rfl,λw' hw'=> ?_⟩;cases ad with
   |none=>
    have aFe:m.length=0:=by
     rcases iY m.length with h0 | h0
     ·exact h0
     ·have:=qX h0;simp at this
    have:vs=[]:=bE (by rw[hlen,aFe,nu]);subst this;rfl
   |some ad=>
    refine run_firstCells_some (P:=P) w' t.size _ ad _ _ vs hlen (λj v hj=> ?_);obtain⟨bb,off,e1,hh⟩:=s9 j v hj;simp only[az]at e1;subst e1;rw[Addr.add_lit];simpa[World.cell?,hw']using hh
  ·simp only[av]at he
 unfold IJ at he;split at he
 ·rename_i st;split at he
  ·rename_i hX;refine⟨.inl hX,?_⟩;obtain⟨e,hm⟩:=jO (ku.1 he);have e':Ty.int .u8=t:=by simpa using e
   subst e';simp only at hm;subst hm;have hy:=JL hx;subst hy;have hlen:(bH st).length=st.size:=by simp only[bH,bV,cK];rfl
   refine⟨(bH st).map (Value.int .u8),xx _,by rw[hlen];rfl,λw' _=> ?_⟩;rw[hlen];simp only[Builtin.firstCells,Sem.run_pure];congr 1;apply gC;rw[ByteArray.extract_zero_size];simp[bH]
  ·simp only[av]at he
 ·exact sl _ hx he
theorem BV(z:Array Value)(n:Nat):(Builtin.zeroCells z n).size=n*z.size:=by simp[Builtin.zeroCells]
theorem ax7(h:Inv C g β s a w){c:Call}{x y:Operand}{T X:TypeId}(ho:o.op= .call c)(hc:c.callee= .builtin .copy)(ha:c.args.toList=[x,y])(ht:c.argTypes.toList=[T,X]){s':AS}
  (he:(Zl P s o.dst T X (s.ev x) (s.ev y)).eval=some s'):fL P o a w (iB C s'):=by
 obtain⟨cal,args,tys⟩:=c;simp only at hc ha ht;have ha':args= #[x,y]:=by apply gC;simpa using ha
 have ht':tys= #[T,X]:=by apply gC;simpa using ht
 subst hc ha' ht';have hx:=h.ev x;have hy:=h.ev y;have fin:∀z w',(Builtin.copy_ #[T,X] 0 #[a.eval x,a.eval y]).run P w= .ok z w'->(∃g' β',Inv C g' β' s' (a.put o.dst z) w')->fL P o a w (iB C s'):=by intro z w' h1 h2;refine .inl ⟨z,w',C0 ho (f:=Builtin.copy_ #[T,X] 0 #[a.eval x,a.eval y]) (λty cs xs aqt=> ?_) h1,h2⟩;subst aqt;have e1:Builtin.copy_ #[T,X] 0 #[a.eval x,a.eval y]=Builtin.copy_ #[T,X] ty #[a.eval x,a.eval y]:=rfl;rw[e1];simp[builtin]
 unfold Zl at he;split at he
 ·rename_i e t b id ver len Lg aqt;obtain⟨hT,hz,i,zv,hi,ayT,aO2,aqu,ayY⟩:=C6 Lg;obtain⟨m,hm,he⟩:=aw.1 he;obtain⟨hX,news,wB,hlen,aNu⟩:=V3 h hy hm;have aLc:=wB.length (λ_ _ hx=>df.size hx);have h1news:∀u∈news,u.oneCell'=true:=bD.all (λ_ _ hx=>hx.one) wB;rw[<-ayT]at aNu;split at he
  ·rename_i ve n t' l ml;obtain⟨h1,Qx⟩:=aC.1 he;simp only[au,dv]at h1;obtain⟨aPf,aWI⟩:=h1;subst aPf aWI;obtain⟨l',hl',adL⟩:=aw.1 Qx;obtain⟨et,hl'⟩:=jO (ku.1 hl');have et':t'=t:=by simpa using et
   subst et';simp only at hl';subst hl';obtain⟨aQA,aQy⟩:=bS.1 adL;have aQA:m.length<=len:=by simpa using aQA
   obtain rfl:=ay.1 aQy;have cQ:=ee ml;rw[aqt]at hx;obtain⟨ad,cap,aCi,aCg,qX,Z1,fB⟩:=sM hx;have fB:=fB ⟨false,_,cQ⟩;obtain⟨pl,cur,e0,hp,hh,hg,hk,hV⟩:=(h.bJ id ve false _ cQ).box rfl;have hp:β id=some pl:=hp;have hh:w.heap[pl.b]? =some (.cells cur e0 (0,0)):=hh
   have hg:g pl.b= .own (.id id) 0:=hg;have hcur':(match β id with
    |some pl=>(0 < len\/0=0->ad=some ⟨pl.b,0,none⟩)/\(([.arr]:List La)=[]->0=0->cap=pl.cap)
    |none=>ad=none/\len=0/\cap=0):=fB
   rw[hp]at hcur';simp only at hcur';have ayN:=hcur'.1 (.inr trivial);subst ayN;have hV:V (s.env w g β) (.d (.arr len t') l) (cur.toList.take cur.size):=hV;rw[<-cK,bK]at hV;simp only[V,df]at hV;obtain⟨aNw,hVc⟩:=hV;have aCf:=hVc.length (λ_ _ hx=>df.size hx);have aiZ:news.length<=cur.size:=by
    rw[aLc];have:cur.size=l.length*t'.size:=by simpa using aCf
    rw[this,aNw];exact cS _ aQA
   have mG:=run_storeCells_at P pl.b 0 e0 news 0 cur w hh (by simpa using aiZ) h1news;have gG:(Builtin.copy_ #[T,X] 0 #[a.eval x,a.eval y]).run P w= .ok (goInt m.length) (w.setRow pl.b (dA cur.toList 0 news).toArray):=by have aTY:Nat.min m.length len=m.length:=dU aQA;rw[aCi];simp only[cq,aO]at mG;simp[Builtin.copy_,run_underlying hT,hlen,sizeOf,typeInfo,hi,aTY,aNu w rfl,mG,dA]
   have asd:=Trans.setRow w hg (dA cur.toList 0 news).toArray;have hle:cM (s.env w g β) ((s.bl id (.obj ve false (.d (.arr len t') (m++l.drop m.length)))).env (w.setRow pl.b (dA cur.toList 0 news).toArray) g β):=cM.bl cQ (ax _) asd (λ_ _=>rfl) (λ_=>rfl);have i1:=h.step (dj _ _ _) asd hle (iZ.bl (ald:=qz cQ λk v1 l e=>by cases e) h.bJ (by rw[cQ];simp) hle (λ_ _=>rfl) (λi ver fr c pl2 hi Z4 XY=>⟨setRow_other w pl.b pl2.b _ (h.apart hg hi Z4 XY),rfl⟩) (SF.obj ⟨pl,_,e0,hp,setRow_heap w pl.b cur _ e0 (0,0) hh,hg,trivial,by
    show V _ (.d (.arr len t') (m++l.drop m.length)) ((dA cur.toList 0 news).toArray.toList.take (dA cur.toList 0 news).toArray.size);rw[<-cK,bK];simp only[V,df];refine⟨by rw[ai,dp];omega,?_⟩;have e2:dA cur.toList 0 news=news++cur.toList.drop (m.length*t'.size):=by simp[dA,aLc]
    have q:bD (df (s.env w g β) t') (dA cur.toList 0 news) (m++l.drop m.length):=by rw[e2];exact bD.append wB (bD.drop (λ_ _ hx=>df.size hx) m.length hVc)
    exact q.mono λ_ _ hx=>hx.mono hle.mem⟩))
   exact fin _ _ gG ⟨g,β,i1.put o.dst ⟨[.int .i64 (m.length:Int)],by simp only[V,df],rfl⟩⟩
  ·exact(av.1 he).elim
 ·exact(av.1 he).elim
theorem alA(h:Inv C g β s a w){c:Call}{x y:Operand}{T X:TypeId}(ho:o.op= .call c)(hc:c.callee= .builtin .append)(ha:c.args.toList=[x,y])(ht:c.argTypes.toList=[T,X]){s':AS}
  {nl dt:Bool} (he:(yC P s nl dt o.dst T X (s.ev x) (s.ev y)).eval=some s'):fL P o a w (iB C s'):=by
 obtain⟨cal,args,tys⟩:=c;simp only at hc ha ht;have ha':args= #[x,y]:=by apply gC;simpa using ha
 have ht':tys= #[T,X]:=by apply gC;simpa using ht
 subst hc ha' ht';have hx:=h.ev x;have hy:=h.ev y;have fin:∀z w',(Builtin.append_ #[T,X] 0 #[a.eval x,a.eval y]).run P w= .ok z w'->(∃g' β',Inv C g' β' s' (a.put o.dst z) w')->fL P o a w (iB C s'):=by intro z w' h1 h2;refine .inl ⟨z,w',C0 ho (f:=Builtin.append_ #[T,X] 0 #[a.eval x,a.eval y]) (λty cs xs aqt=> ?_) h1,h2⟩;subst aqt;have e1:Builtin.append_ #[T,X] 0 #[a.eval x,a.eval y]=Builtin.append_ #[T,X] ty #[a.eval x,a.eval y]:=rfl;rw[e1];simp[builtin]
 unfold yC at he;split at he
 ·rename_i e t b q Lg hd;obtain⟨hT,hz,i,zv,hi,ayT,aO2,aqu,ayY⟩:=rB Lg;obtain⟨m,hm,he⟩:=aw.1 he;obtain⟨hX,news,wB,hlen,aNu⟩:=V3 h hy hm;have aLc:=wB.length (λ_ _ hx=>df.size hx);have h1news:∀u∈news,u.oneCell'=true:=bD.all (λ_ _ hx=>hx.one) wB;rw[<-ayT]at aNu;have aQJ:zv.cells.size=t.size:=by have:=(ayY (s.env w g β)).size;simpa using this
  have aUt:∀n,(Builtin.zeroCells zv.cells n).size=n*t.size:=λn=>by rw[BV,aQJ]
  have grow:∀(ad:Option Addr) (sLen sCap:Nat) (bZ:List Value) (l0:List t.den),a.eval x= .slice ad sLen sCap->bZ.length=sLen*t.size->l0.length=sLen->bD (df (s.env w g β) t) bZ l0->
    (Builtin.firstCells i.size sLen (.slice ad sLen sCap)).run P w.drew= .ok bZ.toArray w.drew->sCap < sLen+m.length->db (sLen+m.length) b=true->
    ∃(cur:Array Value) (cap:Nat),(Builtin.append_ #[T,X] 0 #[a.eval x,a.eval y]).run P w= .ok (.slice (some ⟨w.heap.size,0,none⟩) (sLen+m.length) cap) (w.drew.alloc (.cells cur e))/\
     cur.size=cap*t.size/\sLen+m.length<=cap/\cap<=maxLen/\cur.toList.take ((sLen+m.length)*t.size)=bZ++news:=by
   intro ad sLen sCap bZ l0 aCi XX aRH aRs aSP Mb aqr;simp only[db,aW]at aqr;have hr:=Un (P:=P) (w:=w) (ty:=0) hT hX hi aqu aSP hlen (aNu w.drew rfl) Mb ak (by rw[aO2];exact aqr.1);rw[aCi];refine⟨_,_,hr,?_,grownCap_ge _ _ _ _,grownCap_le_maxLen _ _ _ _ (by unfold maxLen;omega),?_⟩
   ·have aXB:=grownCap_ge w (sLen+m.length) sCap e;simp only[Array.size_append,iu,aUt,XX,aLc,<-eE];congr 1;omega
   ·have ar5:(bZ++news).length=(sLen+m.length)*t.size:=by rw[ai,XX,aLc,eE]
    simp only[bX];rw[<-ar5];exact List.take_left
  split at he
  ·rename_i aW4;rw[aW4]at hx;have aCi:=lN hx;cases dt with
   |true=>
    simp only at he;obtain⟨aqr,he⟩:=bS.1 he;obtain rfl:=ay.1 he;simp only[au,aW]at aqr;obtain⟨aqr,aFe⟩:=aqr;obtain⟨cur,cap,hr,q1,q2,q3,q4⟩:=grow none 0 0 [] [] aCi (by simp) rfl rfl rfl ak (by simpa using aqr);simp only[aO,aT]at hr q2 q4;have aTF:bD (df (s.env w.drew g β) t) news m:=wB.mono λ_ _ hx=>hx.mono (cM.same (s:=s) (β:=β) (Trans.drew w g)).mem
    refine fin _ _ hr ⟨nT g w.heap.size .free,β,(h.drew.Kj (.cells cur e)).put o.dst ⟨[.slice (some ⟨w.heap.size,0,none⟩) m.length cap],?_,rfl⟩⟩;simp only[V,df];refine⟨λh0=>(by cases h0),λm' hm'=> ?_⟩;obtain rfl:m=m':=bf hm';refine⟨_,cap,cur.toList.take (m.length*t.size),rfl,q2,λ_=>rfl,λj v hj=>⟨_,_,rfl,?_,?_⟩,?_⟩
    ·show(w.drew.alloc (.cells cur e)).cell? ⟨w.drew.heap.size,0+j,none⟩=some v;rw[World.cell?_alloc_new,aO];rw[di]at hj;split at hj
     ·simpa using hj
     ·cases hj
    ·show vk (nT g w.heap.size .free) w.heap.size (0+j);unfold vk;rw[fH];trivial
    ·rw[q4];exact aTF.mono λ_ _ hx=>hx.mono (Trans.mem (E:=s.env w.drew g β) (E':=s.env (w.drew.alloc (.cells cur e)) (nT g w.drew.heap.size .free) β) (Trans.alloc w.drew g (.cells cur e) .free))
   |false=>
   simp only at he;obtain⟨hq,he⟩:=aC.1 he;obtain⟨aqr,he⟩:=bS.1 he;obtain rfl:=ay.1 he;by_cases aFe:m.length=0
   ·have aT0:m=[]:=bE aFe;subst aT0;have aT3:news=[]:=bE (by rw[aLc];simp);subst aT3;obtain⟨β',i1,e1,v1⟩:=h.aGv hq (e:=e) hz;refine fin (.slice none 0 0) w ?_ ⟨g,β',?_⟩
    ·rw[aCi];exact Hm (P:=P) hT hX hi hlen (aNu w rfl)
    ·exact i1.put o.dst v1
   ·obtain⟨cur,cap,hr,q1,q2,q3,q4⟩:=grow none 0 0 [] [] aCi (by simp) rfl rfl rfl ak (by simpa using aqr);simp only[aO,aT]at hr q2 q4;obtain⟨g2,β2,i2,v2⟩:=(h.drew).ajA hq (e:=e) (l:=m) (cur:=cur) (cap:=cap) hz (by rw[q4];exact wB.mono λ_ _ hx=>hx.mono (cM.same (s:=s) (β:=β) (Trans.drew w g)).mem) q1 q2 q3;refine fin _ _ hr ⟨g2,β2,?_⟩;exact i2.put o.dst v2
  ·rename_i id ver len aqt;rw[aqt]at hx;obtain⟨ad,cap,aCi,aCg,qX,Z1,fB⟩:=sM hx;split at he
   ·rename_i v fr e' t' l ml;obtain⟨h1,Qx⟩:=aC.1 he;clear he;simp only[au,dv]at h1;obtain⟨aPf,aWs⟩:=h1;subst aPf aWs;obtain⟨l',hl',adL⟩:=aw.1 Qx;obtain⟨et,hl'⟩:=jO (ku.1 hl');have et':t'=t:=by simpa using et
    subst et';simp only at hl';subst hl';obtain⟨aK9,aRw⟩:=bS.1 adL;have aK9:len<=l.length:=by simpa using aK9
    obtain⟨aVu,aQy⟩:=bS.1 aRw;obtain⟨aqr,aVt⟩:=bS.1 aQy;obtain rfl:=ay.1 aVt;clear Qx adL aRw aQy aVt;have cQ:=ee ml;have fB:=fB ⟨fr,_,cQ⟩;obtain⟨_,hO⟩:=h.bJ id v fr _ cQ;have hO':(match β id with
     |none=>l=[]
     |some pl=>∃cur k,w.heap[pl.b]? =some (.cells cur e (0,0))/\cur.size=pl.cap*t'.size/\l.length<=pl.cap/\pl.cap<=maxLen/\g pl.b= .own (.id id) k/\
       k<=l.length*t'.size/\(fr=false->k=0)/\bD (df (s.env w g β) t') (cur.toList.take (l.length*t'.size)) l):=hO
    have hcur':(match β id with
     |some pl=>(0 < len\/0=0->ad=some ⟨pl.b,0,none⟩)/\(([]:List La)=[]->0=0->cap=pl.cap)
     |none=>ad=none/\len=0/\cap=0):=fB
    have aOY:fr=false\/len=l.length:=by simp only[gf,cC,aW]at aVu;exact aVu
    have gF:s.bW id≠none:=by rw[cQ];simp
    have fresh:∀(cur:Array Value) (cp:Nat) (g0:Nat->mz),Trans w (w.drew.alloc (.cells cur e)) g (nT g0 w.heap.size (.own (.id (id)) 0))->
      (∀i ver fr c pl,i≠id->s.bW i=some (.obj ver fr c)->β i=some pl->g0 pl.b=g pl.b)->cur.size=cp*t'.size->len+m.length<=cp->cp<=maxLen->
      bD (df (s.env w g β) t') (cur.toList.take ((len+m.length)*t'.size)) (l.take len++m)->len<=l.length->
      ∃g' β',Inv C g' β' ((s.bl id (.obj (v+1) fr (.vec e t' (l.take len++m)))).put o.dst (.bA id (v+1) [] 0 0 (len+m.length))) (a.put o.dst (.slice (some ⟨w.heap.size,0,none⟩) (len+m.length) cp)) (w.drew.alloc (.cells cur e)):=by
     intro cur cp g0 ht aTJ q1 q2 q3 q4 q5;have aNw:(l.take len++m).length=len+m.length:=by simp;omega
     have hle:cM (s.env w g β) ((s.bl id (.obj (v+1) fr (.vec e t' (l.take len++m)))).env (w.drew.alloc (.cells cur e)) (nT g0 w.heap.size (.own (.id id) 0)) (Kb β id (some ⟨w.heap.size,cp⟩))):=
      cM.bl cQ ak ht (λi hi=>BL _ _ _ hi) (λhh=>ak)
     have i1:=h.step (dj _ _ _) ht hle (iZ.bl (ald:=qz cQ λk v1 l e=>by cases e) h.bJ gF hle (λi hi=>BL _ _ _ hi) (λi ver fr' c' pl hi Z4 XY=>by
       have gQ:pl.b < w.heap.size:=((h.bJ i ver fr' c' Z4).label (pl:=pl) XY).1;exact⟨rA w.drew _ gQ,by rw[fA _ _ _ ak];exact aTJ i ver fr' c' pl hi Z4 XY⟩) (by
      refine⟨hz,?_⟩;show(match Kb β id (some ⟨w.heap.size,cp⟩) id with
       |none=>(l.take len++m)=[]
       |some pl=>_)
      rw[kh];refine⟨cur,0,ui w.drew _,q1,by rw[aNw];exact q2,q3,fH _ _ _,aK _,λ_=>rfl,?_⟩;rw[aNw];exact q4.mono λ_ _ hx=>hx.mono hle.mem))
     refine⟨_,_,i1.put o.dst ⟨_,?_,rfl⟩⟩;simp only[V];have lI:=eH s id (.obj (v+1) fr (.vec e t' (l.take len++m))) gF;refine⟨_,_,rfl,q2,λ_=>rfl,⟨by show(s.bl id _).bW id≠none;rw[lI];simp,λv' fr' c' hh=> ?_⟩,λ_=> ?_⟩
     ·have hh':(s.bl id (.obj (v+1) fr (.vec e t' (l.take len++m)))).bW id=some (.obj v' fr' c'):=hh;rw[lI]at hh';simp only[az,dE.obj.injEq]at hh';omega
     ·show(match Kb β id (some ⟨w.heap.size,cp⟩) id with
       |some pl=>_
       |none=>_)
      rw[kh];exact⟨λ_=>rfl,λ_ _=>rfl⟩
    cases hp:β id with
    |none=>
     rw[hp]at hO' hcur';simp only at hO' hcur';obtain⟨rfl,rfl,rfl⟩:=hcur';subst hO';by_cases aFe:m.length=0
     ·have aT0:m=[]:=bE aFe;subst aT0;have aT3:news=[]:=bE (by rw[aLc];simp);subst aT3;have ht:=Trans.refl w g;have hle:cM (s.env w g β) ((s.bl id (.obj (v+1) fr (.vec e t' []))).env w g β):=cM.bl cQ ak ht (λ_ _=>rfl) (λ_=>rfl);have i1:=h.step (dj _ _ _) ht hle (iZ.bl (ald:=qz cQ λk v1 l e=>by cases e) h.bJ gF hle (λ_ _=>rfl) (λ_ _ _ _ _ _ _ _=>⟨rfl,rfl⟩) (by
       refine⟨hz,?_⟩;show(match β id with
        |none=>([]:List t'.den)=[]
        |some pl=>_)
       rw[hp]))
      refine fin (.slice none 0 0) w ?_ ⟨g,β,i1.put o.dst ⟨_,?_,rfl⟩⟩
      ·rw[aCi];exact Hm (P:=P) hT hX hi hlen (aNu w rfl)
      ·simp only[V];have lI:=eH s id (.obj (v+1) fr (.vec e t' [])) gF;refine⟨_,_,rfl,ax _,λhh=>by simp at hh,⟨by show(s.bl id _).bW id≠none;rw[lI];simp,λv' fr' c' hh=> ?_⟩,λ_=> ?_⟩
       ·have hh':(s.bl id (.obj (v+1) fr (.vec e t' []))).bW id=some (.obj v' fr' c'):=hh;rw[lI]at hh';simp only[az,dE.obj.injEq]at hh';omega
       ·show(match β id with
         |some pl=>_
         |none=>_)
        rw[hp];exact⟨rfl,by simp,rfl⟩
     ·obtain⟨cur,cp,hr,q1,q2,q3,q4⟩:=grow none 0 0 [] [] aCi (by simp) rfl rfl rfl ak aqr;refine fin _ _ hr (fresh cur cp g (Trans.trans (Trans.drew w g) (Trans.alloc w.drew g _ _)) (λ_ _ _ _ _ _ _ _=>rfl) q1 q2 q3 ?_ (by simp));rw[q4];simpa using wB
    |some pl=>
     rw[hp]at hO' hcur';simp only at hO' hcur';obtain⟨ayN,Qw⟩:=hcur';have ayN:=ayN (.inr trivial);have Qw:=Qw trivial trivial;subst ayN Qw;obtain⟨cur,k,p1,p2,p3,p4,p5,p6,p7,p8⟩:=hO';have hk:k<=len*t'.size:=by
      rcases aOY with hf | hf
      ·rw[p7 hf];exact aK _
      ·rw[hf];exact p6
     have hmul:len*t'.size<=l.length*t'.size:=cS _ aK9;have aVF:l.length*t'.size<=cur.size:=by rw[p2];exact cS _ p3
     have ayX:=bD.take (λ_ _ hx=>df.size hx) len p8;rw[eJ,dU hmul]at ayX;have XX:(cur.toList.take (len*t'.size)).length=len*t'.size:=by simp;omega
     by_cases Mb:len+m.length<=pl.cap
     ·have aWU:(len+m.length)*t'.size<=cur.size:=by rw[p2];exact cS _ Mb
      have aiZ:len*i.size+news.length<=cur.size:=by rw[ayT,aLc,<-eE];exact aWU
      have hr:=Uo (P:=P) (w:=w) (ty:=0) hT hX hi p1 h1news hlen (aNu w rfl) Mb aiZ;rw[ayT]at hr aiZ;have ht:Trans w (w.setRow pl.b (dA cur.toList (len*t'.size) news).toArray) g g:=by
       refine⟨by simp,by simp,by simp,by simp,λb' hb=> ?_⟩;by_cases aiX:b'=pl.b
       ·subst aiX;rw[p5];refine⟨.inr ⟨id,k,rfl,ax _⟩,λoff u aLe hu=> ?_⟩;rw[cell_of_row w pl.b off cur e (0,0) p1]at hu;rw[cell_setRow_same w pl.b off cur _ e (0,0) p1];simp only[dA,aF,List.getElem?_toArray];rw[fq (by rw[XX];omega),di,if_pos ak];simpa using hu
       ·rw[setRow_other w pl.b b' _ aiX];cases Xa:g b' with
        |free=>exact⟨rfl,rfl⟩
        |own o' k=>cases o' with
         |eo=>exact⟨rfl,rfl⟩
         |id i'=>exact⟨.inr ⟨i',k,rfl,ax _⟩,λoff v _ hv=>by rw[cell_setRow_other w pl.b _ _ aiX];exact hv⟩
      have hle:cM (s.env w g β) ((s.bl id (.obj (v+1) fr (.vec e t' (l.take len++m)))).env (w.setRow pl.b (dA cur.toList (len*t'.size) news).toArray) g β):=
       cM.bl cQ ak ht (λ_ _=>rfl) (λ_=>rfl)
      have aNw:(l.take len++m).length=len+m.length:=by simp;omega
      have aUf:(dA cur.toList (len*t'.size) news).length=cur.toList.length:=j5 (by simpa using aiZ);have i1:=h.step (dj _ _ _) ht hle (iZ.bl (ald:=qz cQ λk v1 l e=>by cases e) h.bJ gF hle (λ_ _=>rfl) (λi ver fr c pl2 hi Z4 XY=>⟨setRow_other w pl.b pl2.b _ (h.apart p5 hi Z4 XY),rfl⟩) (by
       refine⟨hz,?_⟩;show(match β id with
        |none=>(l.take len++m)=[]
        |some pl=>_)
       rw[hp];refine⟨_,k,setRow_heap w pl.b cur _ e (0,0) p1,by rw[iu,aUf];simpa using p2,by rw[aNw];exact Mb,p4,p5,?_,p7,?_⟩
       ·rw[aNw,eE];omega
       ·rw[aNw,show(dA cur.toList (len*t'.size) news).toArray.toList=dA cur.toList (len*t'.size) news from rfl];have e1:(dA cur.toList (len*t'.size) news).take ((len+m.length)*t'.size)=cur.toList.take (len*t'.size)++news:=by
         unfold dA;have ar5:(cur.toList.take (len*t'.size)++news).length=(len+m.length)*t'.size:=by rw[ai,XX,aLc,eE]
         rw[<-ar5];exact List.take_left
        rw[e1];exact(bD.append ayX wB).mono λ_ _ hx=>hx.mono hle.mem))
      rw[<-aCi]at hr;refine fin _ _ hr ⟨g,β,i1.put o.dst ⟨_,?_,rfl⟩⟩;simp only[V];have lI:=eH s id (.obj (v+1) fr (.vec e t' (l.take len++m))) gF;refine⟨_,_,rfl,Mb,λ_=>rfl,⟨by show(s.bl id _).bW id≠none;rw[lI];simp,λv' fr' c' hh=> ?_⟩,λ_=> ?_⟩
      ·have hh':(s.bl id (.obj (v+1) fr (.vec e t' (l.take len++m)))).bW id=some (.obj v' fr' c'):=hh;rw[lI]at hh';simp only[az,dE.obj.injEq]at hh';omega
      ·show(match β id with
        |some pl=>_
        |none=>_)
       rw[hp];exact⟨λ_=>rfl,λ_ _=>rfl⟩
     ·have aSP:(Builtin.firstCells i.size len (.slice (some ⟨pl.b,0,none⟩) len pl.cap)).run P w.drew= .ok (cur.toList.take (len*t'.size)).toArray w.drew:=by
       refine run_firstCells_some (P:=P) w.drew i.size _ _ _ _ _ (by rw[XX,ayT]) (λj u hj=> ?_);rw[Addr.add_lit,aO];show w.cell? ⟨pl.b,j,none⟩=some u;rw[cell_of_row w pl.b j cur e (0,0) p1];rw[di]at hj;split at hj
       ·simpa using hj
       ·cases hj
      obtain⟨cur2,cp,hr,q1,q2,q3,q4⟩:=grow (some ⟨pl.b,0,none⟩) len pl.cap (cur.toList.take (len*t'.size)) (l.take len) aCi XX (by simp;omega) ayX aSP ak aqr;have gQ:pl.b < w.heap.size:=(bP.1 p1).1;have avM:Trans w w.drew g (nT g pl.b .free):=by
       refine⟨rfl,rfl,⟨rfl,oS _⟩,ax _,λb' hb=> ?_⟩;by_cases aiX:b'=pl.b
       ·subst aiX;rw[p5,fH];exact⟨.inl rfl,λ_ _ _ hh=>hh⟩
       ·rw[fA _ _ _ aiX];exact(Trans.drew w g).SX b' hb
      refine fin _ _ hr (fresh cur2 cp (nT g pl.b .free) (Trans.trans avM (Trans.alloc w.drew _ _ _)) (λi ver fr c pl2 hi Z4 XY=>fA _ _ _ (h.apart p5 hi Z4 XY)) q1 q2 q3 ?_ aK9);rw[q4];exact bD.append ayX wB
   ·simp only[av]at he
  ·simp only[av]at he
 ·simp only[av]at he
end
end Go.Ab
namespace Go.Ab
abbrev Ren:=Id->Nat->Option (Id×Nat)
structure AA(ρ:Ren)(E E':Env):Prop where
 mem:uf E E'
 ref:∀id ver r,ρ id ver=some r->E.G1 id ver->E'.G1 r.1 r.2/\(E'.cur r.1 r.2->E.cur id ver/\E'.β r.1=E.β id)
theorem aww(ρ:Ren)(a:aB):(a.iV ρ).agg=a.agg:=by
 cases a with
 |ptr id v p n=>simp only[aB.iV];cases ρ id v <;> rfl
 |bA id v p c i l=>simp only[aB.iV];cases ρ id v <;> rfl
 |cj id v=>simp only[aB.iV];cases ρ id v <;> rfl
 |yl id v=>simp only[aB.iV];cases ρ id v <;> rfl
 |_=>rfl
mutual
theorem alk{ρ:Ren}{E E':Env}(h:AA ρ E E'):∀ {a:aB} {cs:List Value},V E a cs->V E' (a.iV ρ) cs
 | .undef,_,hv=>by simp only[V]at hv
 | .gone,_,hv=>by simpa only[aB.iV,V]using hv
 | .de,_,hv=>by simpa only[aB.iV,V]using hv
 | .ri,_,hv=>by simpa only[aB.iV,V]using hv
 | .xA,_,hv=>by simpa only[aB.iV,V]using hv
 | .De,_,hv=>by simpa only[aB.iV,V]using hv
 | .sb l,_,hv=>by simp only[aB.iV,V]at hv ⊢;obtain⟨b,cap,arr,e,h1,h2,h3,h4,h5⟩:=hv;obtain⟨h6,h7⟩:=h.mem.fz b _ h3 h4;exact⟨b,cap,arr,e,h1,h2,h6,h7,h5⟩
 | .d t x,_,hv=>by simp only[aB.iV,V]at hv ⊢;exact hv.mono h.mem
 | .pr a b,_,hv=>by simp only[aB.iV,V]at hv ⊢;obtain⟨ca,cb,e,ha,hb⟩:=hv;exact⟨ca,cb,e,alk h ha,alk h hb⟩
 | .ptr id ver p n,_,hv=>by
  have h1:=hv.one;simp only[aB.iV];cases hr:ρ id ver with
  |none=>
   simp only[V]at hv ⊢;obtain⟨a,e,_⟩:=hv;exact⟨_,e,h1 _ (by simp[e])⟩
  |some r=>
   simp only[V]at hv ⊢;obtain⟨a,e,hb,hc⟩:=hv;obtain⟨b1,b2⟩:=h.ref id ver r hr hb;refine⟨a,e,b1,λc=> ?_⟩;obtain⟨c1,e1⟩:=b2 c;rw[e1];exact hc c1
 | .dO t x,_,hv=>by simp only[aB.iV,V]at hv ⊢;obtain⟨b,off,vs,e,hr,hx⟩:=hv;exact⟨b,off,vs,e,hr.mono h.mem,hx.mono h.mem⟩
 | .bA id ver p c i len,_,hv=>by
  have h1:=hv.one;simp only[aB.iV];cases hr:ρ id ver with
  |none=>
   simp only[V]at hv ⊢;obtain⟨a,cap,e,_⟩:=hv;exact⟨_,e,h1 _ (by simp[e])⟩
  |some r=>
   simp only[V]at hv ⊢;obtain⟨a,cap,e,hl,hs,hb,hc⟩:=hv;obtain⟨b1,b2⟩:=h.ref id ver r hr hb;refine⟨a,cap,e,hl,hs,b1,λc=> ?_⟩;obtain⟨c1,e1⟩:=b2 c;rw[e1];exact hc c1
 | .fn f c,_,hv=>by simp only[aB.iV,V]at hv ⊢;obtain⟨vs,e,hc⟩:=hv;exact⟨vs,e,aqB h hc⟩
 | .cons _ _,_,hv=>by simp only[V]at hv
 | .nil,_,hv=>by simp only[V]at hv
 | .vec ..,_,hv=>by simp only[V]at hv
 | .bx ..,_,hv=>by simp only[V]at hv
 | .yl id ver,_,hv=>by
  have h1:=hv.one;simp only[aB.iV];cases hr:ρ id ver with
  |none=>
   simp only[V]at hv ⊢;obtain⟨b,e,_⟩:=hv;exact⟨_,e,h1 _ (by simp[e])⟩
  |some r=>
   simp only[V]at hv ⊢;obtain⟨b,e,hb,hc⟩:=hv;obtain⟨b1,b2⟩:=h.ref id ver r hr hb;refine⟨b,e,b1,λc=> ?_⟩;obtain⟨c1,e1⟩:=b2 c;rw[e1];exact hc c1
 | .cj id ver,_,hv=>by
  have h1:=hv.one;simp only[aB.iV];cases hr:ρ id ver with
  |none=>
   simp only[V]at hv ⊢;obtain⟨b,e,_⟩:=hv;exact⟨_,e,h1 _ (by simp[e])⟩
  |some r=>
   simp only[V]at hv ⊢;obtain⟨b,e,hb,hc⟩:=hv;obtain⟨b1,b2⟩:=h.ref id ver r hr hb;refine⟨b,e,b1,λc=> ?_⟩;obtain⟨c1,e1⟩:=b2 c;rw[e1];exact hc c1
 | .mp ..,_,hv | .tC ..,_,hv | .rP ..,_,hv=>by simp only[V]at hv
theorem aqB{ρ:Ren}{E E':Env}(h:AA ρ E E'):∀ {a:aB} {vs:List Value},VC E a vs->VC E' (a.iV ρ) vs
 | .nil,_,hv=>by simpa only[aB.iV,VC]using hv
 | .cons a b,_,hv=>by simp only[aB.iV,VC]at hv ⊢;obtain⟨v,vs',cs,e,ha,ho,hb⟩:=hv;exact⟨v,vs',cs,e,alk h ha,by rw[aww];exact ho,aqB h hb⟩
 | .undef,_,hv=>by simp only[VC]at hv
 | .gone,_,hv=>by simp only[VC]at hv
 | .de,_,hv=>by simp only[VC]at hv
 | .ri,_,hv=>by simp only[VC]at hv
 | .xA,_,hv=>by simp only[VC]at hv
 | .yl ..,_,hv | .rP ..,_,hv=>by simp only[VC]at hv
 | .De,_,hv=>by simp only[VC]at hv
 | .sb _,_,hv=>by simp only[VC]at hv
 | .d t x,_,hv=>by simp only[VC]at hv
 | .pr a b,_,hv=>by simp only[VC]at hv
 | .ptr ..,_,hv=>by simp only[VC]at hv
 | .dO ..,_,hv=>by simp only[VC]at hv
 | .bA ..,_,hv=>by simp only[VC]at hv
 | .fn ..,_,hv=>by simp only[VC]at hv
 | .vec ..,_,hv=>by simp only[VC]at hv
 | .bx ..,_,hv=>by simp only[VC]at hv
 | .cj ..,_,hv=>by simp only[VC]at hv
 | .mp ..,_,hv | .tC ..,_,hv=>by simp only[VC]at hv
end
theorem HO{ρ:Ren}{E E':Env}(h:AA ρ E E'){a:aB}{v:Value}(hv:VS E a v):VS E' (a.iV ρ) v:=by
 by_cases hc:a.eQ=true
 ·obtain⟨cs,h1,h2⟩:=hv.eQ hc;exact VS.of (alk h h1) (by rw[aww];exact h2)
 ·cases a <;> first | (exact absurd rfl hc) | skip
  ·trivial
  ·obtain⟨vs,e,aQG⟩:=hv;have:=aqB h aQG;simp only[aB.iV]at this ⊢;exact⟨vs,e,this⟩
  ·exact hv
  ·obtain⟨cs,h1,_⟩:=hv;simp only[V]at h1
  ·obtain⟨cs,h1,_⟩:=hv;simp only[V]at h1
  ·obtain⟨cs,h1,_⟩:=hv;simp only[V]at h1
  ·obtain⟨cs,h1,_⟩:=hv;simp only[V]at h1
  ·obtain⟨cs,h1,_⟩:=hv;simp only[V]at h1
theorem ab8(ρ:Ren):∀f:aB,(f.iV ρ).list=f.list.map (aB.iV ρ)
 | .cons a b=>by simp only[aB.iV,aB.list,bQ,ab8 ρ b]
 | .undef | .gone | .de | .ri | .xA | .De | .d _ _ | .dO _ _ | .fn _ _ | .pr _ _ | .nil | .vec .. | .sb _ | .bx .. | .mp .. | .tC .. | .rP .. =>rfl
 | .ptr id ver p n=>by simp only[aB.iV];cases ρ id ver <;> rfl
 | .bA id ver p c i len=>by simp only[aB.iV];cases ρ id ver <;> rfl
 | .cj id ver=>by simp only[aB.iV];cases ρ id ver <;> rfl
 | .yl id ver=>by simp only[aB.iV];cases ρ id ver <;> rfl
theorem aqz{ρ:Ren}{E E':Env}(h:AA ρ E E'){f:aB}{tmps:Array Value}(hs:EY E f tmps):EY E' (f.iV ρ) tmps:=by
 refine⟨by rw[ab8,bV];exact hs.1,λi=> ?_⟩;have:=HO h (hs.2 i);rw[ab8,aH,eh];rw[aH]at this;cases hi:f.list[i]? with
 |none=>exact VS.undef
 |some x=>rw[hi]at this;exact this
theorem aAH(ρ:Ren)(c:aB):(c.iV ρ).strip=c.strip.iV ρ:=by
 cases c <;> first
  |rfl
  | (rename_i id ver p n;simp only[aB.strip,aB.iV];cases ρ id ver <;> rfl)
  | (rename_i id ver p c i len;simp only[aB.strip,aB.iV];cases ρ id ver <;> rfl)
  | (rename_i i v;simp only[aB.strip,aB.iV];cases ρ i v <;> rfl)
theorem RU(ρ:Ren):∀c:aB,(c.iV ρ).size=c.size
 | .pr a b=>by simp only[aB.iV,aB.size,RU ρ a,RU ρ b]
 | .ptr id ver p n=>by simp only[aB.iV];cases ρ id ver <;> rfl
 | .bA id ver p c i len=>by simp only[aB.iV];cases ρ id ver <;> rfl
 | .cj id ver=>by simp only[aB.iV];cases ρ id ver <;> rfl
 | .undef | .gone | .de | .ri | .xA | .De | .d _ _ | .dO _ _ | .fn _ _ | .cons _ _ | .nil | .vec .. | .sb _ | .bx .. | .mp .. | .tC .. | .rP .. =>rfl
 | .yl id ver=>by simp only[aB.iV];cases ρ id ver <;> rfl
theorem aC9(ρ:Ren){c:aB}(n:Nat):(c.iV ρ).xW n=c.xW n:=by
 cases c with
 |bx e z c=>cases z with
  |zero=>rfl
  |succ z=>exact RU ρ c
 |_=>first | rfl | (simp only[aB.iV];split <;> rfl)
theorem axF(ρ:Ren){c:aB}{pl:Pl}{n:Nat}{e:TypeId}(h:c.HZ pl n e):(c.iV ρ).HZ pl n e:=by
  cases c <;> first
    | (rename_i e' z c;cases z with
       |zero=>exact h
       |succ z=>exact⟨h.1,h.2.1,h.2.2.1,by rw[RU];exact h.2.2.2⟩)
    |exact h
    |trivial
    | (rename_i id ver p n;simp only[aB.iV];cases ρ id ver <;> trivial)
    | (rename_i id ver p c i len;simp only[aB.iV];cases ρ id ver <;> trivial)
    | (rename_i i v;simp only[aB.iV];cases ρ i v <;> trivial)
theorem xl{ρ:Ren}{E E':Env}(h:AA ρ E E'){id id':Id}{fr:Bool}{c:aB}(ho:xk E id fr c)(hβ:E'.β id'=E.β id)
  (hb:∀pl,E.β id=some pl->E'.w.heap[pl.b]? =E.w.heap[pl.b]? /\(∀k,E.g pl.b= .own (.id id) k->E'.g pl.b= .own (.id id') k)/\(E.g pl.b= .free->E'.g pl.b= .free)):xk E' id' fr (c.iV ρ):=by
 by_cases hn:c.iS=false
 ·obtain⟨pl,cur,e,h1,h2,h3,h5,h4⟩:=ho.box hn;obtain⟨b1,b2,b3⟩:=hb pl h1;have h6:=alk h h4;refine SF.obj ⟨pl,cur,e,by rw[hβ,h1],by rw[b1,h2],?_,axF ρ h5,by rw[aAH,aC9];exact h6⟩;cases fr with
  |true=>exact b3 h3
  |false=>exact b2 0 h3
 ·cases c <;> first
   | (exact absurd rfl hn)
   |skip
  rotate_left;rotate_left
  ·obtain⟨pl,mb,since,seen,c0,h1,h2,h3,_⟩:=ho;obtain⟨b1,b2,_⟩:=hb pl h1;exact⟨pl,mb,since,seen,c0,by rw[hβ,h1],by rw[b1,h2],b2 0 h3,λvr aqs=>by cases aqs⟩
  ·obtain⟨pl,r,h1,h2,h3,h4,h5,h6⟩:=ho;obtain⟨b1,b2,_⟩:=hb pl h1;exact⟨pl,r,by rw[hβ,h1],by rw[b1,h2],b2 0 h3,h4,aqz h h5,h6⟩
  rotate_left
  ·obtain⟨pl,es,clock,h1,h2,h3,h4⟩:=ho;obtain⟨b1,b2,_⟩:=hb pl h1;exact⟨pl,es,clock,by rw[hβ,h1],by rw[b1,h2],b2 0 h3,⟨h4.1.1.mono h.mem,h4.1.2⟩,h4.2⟩
  rename_i e t l;obtain⟨hz,ho⟩:=ho;refine⟨hz,?_⟩;rw[hβ];cases hp:E.β id with
  |none=>rw[hp]at ho;exact ho
  |some pl=>
   rw[hp]at ho;simp only at ho ⊢;obtain⟨b1,b2,_⟩:=hb pl hp;obtain⟨cur,k,h1,h2,h3,h4,h5,h6,h7,h8⟩:=ho;exact⟨cur,k,by rw[b1,h1],h2,h3,h4,b2 k h5,h6,h7,h8.mono λc x hx=>hx.mono h.mem⟩
def yA(E:Env):List aB->List Value->Prop
 |[],[]=>True
 |a::as,v::vs=>VS E a v/\yA E as vs
 |_,_=>False
def fK.st(G:fK):AS:= {ct:=[],bZ:=G.bZ,news:=[G.news]}
def fN(bZ:List dE):AS:= {ct:=[],bZ,news:=[]}
def ua(E:Env)(G:fK)(v:Value)(w':World):Prop:=∃g' β',VS (G.st.env w' g' β') G.val v/\iZ (G.st.env w' g' β')/\Trans E.w w' E.g g'/\cM E (G.st.env w' g' β')
def ra(P:Program)(f:FuncId)(en:Entry):Prop:=∀w g β args bZ ji x,yA ((fN bZ).env w g β) args ji->iZ ((fN bZ).env w g β)->en.run args bZ=some x->((callFunc f ji.toArray).run P w= .ok (.enter f ji.toArray) w/\Calls P f ji.toArray w λe w'=>∃v,e= .returned v/\ua ((fN bZ).env w g β) (en.out args bZ x) v w')\/(∃v w',(callFunc f ji.toArray).run P w= .ok (.value v) w'/\ua ((fN bZ).env w g β) (en.out args bZ x) v w')
def GU(P:Program)(y:Nat)(en:Entry):Prop:=∀w g β args bZ ji x,yA ((fN bZ).env w g β) args ji->iZ ((fN bZ).env w g β)->en.run args bZ=some x->∀l us ts f rd n,ji= .func (.yield l) #[] #[]::(us++ts)->us.length=(rk P y).ps.size->RoundIn (Fr rd) n P l f (((rk P y).ps.zip us.toArray).foldl (λtmps (t,a)=>tmps.setIfInBounds t a) ts.toArray) (rk P y).as (rk P y).b w λe w'=>∃v,e= .returned v/\ua ((fN bZ).env w g β) (en.out args bZ x) v w'
def Pg(P:Program)(f:FuncId)(en:Entry):Prop:=∀w g β args bZ ji,yA ((fN bZ).env w g β) args ji->iZ ((fN bZ).env w g β)->(∃x,en.set args bZ x)->(callFunc f ji.toArray).run P w= .ok (.enter f ji.toArray) w/\Calls P f ji.toArray w λe w'=>∃v x,e= .returned v/\en.set args bZ x/\ua ((fN bZ).env w g β) (en.out args bZ x) v w'
def vm(P:Program)(f:Nat)(en:Entry):Prop:=(Nat.blt f yB=true->ra P f en)/\(Nat.ble yB f=true->GU P f en)/\(Nat.blt f yB=true->Pg P f en)
theorem vm.no{f:Nat}(h1:Nat.blt f yB=true)(h2:Nat.ble yB f=true):False:=ik _ (Nat.lt_of_lt_of_le (dI h1) (dI h2))
theorem vm.of{P:Program}{f:FuncId}{en:Entry}(h:ra P f en)(hf:Nat.blt f yB=true)(hs:∀a o x,¬en.set a o x:=by exact λ_ _ _ h=>h):vm P f en:=
 ⟨λ_=>h,λh2=>(vm.no hf h2).elim,λ_ _ _ _ _ _ _ _ _ ⟨x,hx⟩=>(hs _ _ x hx).elim⟩
theorem vm.aVR{P:Program}{f:FuncId}{en:Entry}(h:GU P f en)(hf:Nat.ble yB f=true):vm P f en:=⟨λh2=>(vm.no h2 hf).elim,λ_=>h,λh2=>(vm.no h2 hf).elim⟩
theorem vm.aUA{P:Program}{f:FuncId}{en:Entry}(h:Pg P f en)(hf:Nat.blt f yB=true)(hs:∀a o,en.run a o=none:=by exact λ_ _=>rfl):vm P f en:=
 ⟨λ_ _ _ _ _ _ _ _ _ _ hx=>(by rw[hs]at hx;cases hx),λh2=>(vm.no hf h2).elim,λ_=>h⟩
def Sound(P:Program)(Γ:oR):Prop:=∀f vs en,Γ f vs=some en->vm P f en
theorem yA.mono{E E':Env}(h:cM E E'):∀ {as:List aB} {vs:List Value},yA E as vs->yA E' as vs
 |[],[],_=>trivial
 |_::_,_::_,⟨h1,h2⟩=>⟨h1.mono h,yA.mono h h2⟩
theorem yA.iV{ρ:Ren}{E E':Env}(h:AA ρ E E'):∀ {as:List aB} {vs:List Value},yA E as vs->yA E' (as.map (aB.iV ρ)) vs
 |[],[],_=>trivial
 |_::_,_::_,⟨h1,h2⟩=>⟨HO h h1,yA.iV h h2⟩
theorem yA.append{E:Env}:∀ {as:List aB} {vs:List Value} {bs:List aB} {us:List Value},yA E as vs->yA E bs us->yA E (as++bs) (vs++us)
 |[],[],_,_,_,h=>h
 |_::_,_::_,_,_,⟨h1,h2⟩,h=>⟨h1,yA.append h2 h⟩
theorem ahC{E:Env}:∀ {c:aB} {vs:List Value},VC E c vs->yA E c.list vs
 | .cons a b,vs,h=>by simp only[VC]at h;obtain⟨v,vs',cs,rfl,ha,ho,hb⟩:=h;exact⟨VS.of ha ho,ahC hb⟩
 | .nil,vs,h=>by simp only[VC]at h;subst h;trivial
 | .undef,_,hv=>by simp only[VC]at hv
 | .gone,_,hv=>by simp only[VC]at hv
 | .de,_,hv=>by simp only[VC]at hv
 | .ri,_,hv=>by simp only[VC]at hv
 | .xA,_,hv=>by simp only[VC]at hv
 | .yl ..,_,hv | .rP ..,_,hv=>by simp only[VC]at hv
 | .De,_,hv=>by simp only[VC]at hv
 | .sb _,_,hv=>by simp only[VC]at hv
 | .d t x,_,hv=>by simp only[VC]at hv
 | .pr a b,_,hv=>by simp only[VC]at hv
 | .ptr ..,_,hv=>by simp only[VC]at hv
 | .dO ..,_,hv=>by simp only[VC]at hv
 | .bA ..,_,hv=>by simp only[VC]at hv
 | .fn ..,_,hv=>by simp only[VC]at hv
 | .vec ..,_,hv=>by simp only[VC]at hv
 | .bx ..,_,hv=>by simp only[VC]at hv
 | .cj ..,_,hv=>by simp only[VC]at hv
 | .mp ..,_,hv | .tC ..,_,hv=>by simp only[VC]at hv
theorem Inv.avC{C:Ctx}{g:Nat->mz}{β:Id->Option Pl}{s:AS}{a:Act}{w:World}(h:Inv C g β s a w):∀l:List Operand,yA (s.env w g β) (l.map s.ev) (l.map a.eval)
 |[]=>trivial
 |x::l=>⟨h.ev x,h.avC l⟩
theorem D8{E E':Env}{s:AS}(hs:E.s=s.bW)(ho:iZ E)(he:cM E E'):∀(ps:List (Option Ty)) (vs:List aB) (ys:List Value) (r:List aB×List Id),yA E vs ys->(s.conv ps vs).eval=some r->aQX E E' r.2->yA E' r.1 ys
 |[],[],ys,r,hv,h,_=>by
  simp only[AS.conv,ay]at h;subst h;cases ys with
  |nil=>trivial
  |cons _ _=>exact hv.elim
 |some t::ps,v::vs,y::ys,r,⟨hv,VF⟩,h,hf=>by
  simp only[AS.conv]at h;obtain⟨x,h1,h2⟩:=aw.1 h;obtain⟨r',h3,h4⟩:=aw.1 h2;obtain rfl:=ay.1 h4;obtain⟨cs,hV,hO⟩:=hv.eQ (CP h1);refine⟨VS.of (cs:=cs) ?_ ?_,D8 hs ho he ps vs ys r' VF h3 λid cY=>hf id (bz.2 (.inr cY))⟩
  ·simp only[V];exact xM hs ho he v t x cs hV h1 λid cY=>hf id (bz.2 (.inl cY))
  ·show fT t.agg cs y;rw[<-ac6 h1];exact hO
 |none::ps,v::vs,y::ys,r,⟨hv,VF⟩,h,hf=>by simp only[AS.conv]at h;obtain⟨r',h3,h4⟩:=aw.1 h;obtain rfl:=ay.1 h4;exact⟨hv.mono he,D8 hs ho he ps vs ys r' VF h3 hf⟩
 |[],_::_,_,_,_,h,_=>by simp only[AS.conv,av]at h
 |some _::_,[],_,_,_,h,_=>by simp only[AS.conv,av]at h
 |none::_,[],_,_,_,h,_=>by simp only[AS.conv,av]at h
end Go.Ab
namespace Go.Ab
theorem py{id:Id}:∀ {ids:List Id} {k:Nat},idxOf id ids=some k->ids[k]? =some id
 |[],_,h=>by simp[idxOf]at h
 |x::xs,k,h=>by
  simp only[idxOf]at h;split at h
  ·rename_i e;simp only[az]at h;subst h e;rfl
  ·simp only[dd]at h;obtain⟨j,hj,rfl⟩:=h;simpa using py hj
theorem xv{id:Id}:∀ {ids:List Id} {k:Nat},ids.Nodup->ids[k]? =some id->idxOf id ids=some k
 |[],_,_,h=>by simp at h
 |x::xs,0,hn,h=>by simp only[fQ,az]at h;simp[idxOf,h]
 |x::xs,k+1,hn,h=>by
  simp only[mA]at h;obtain⟨h1,h2⟩:=cV.1 hn;have gF:x≠id:=λe=>h1 (e▸cJ h)
  simp[idxOf,gF,xv h2 h]
theorem DJ(s0:AS)(all:List Id)(t:Nat):∀(ids:List Id) (es:List dE) (s:AS),(AS.jK s0 all t s ids es).ct=s.ct
 |[],_,_=>by simp[AS.jK]
 |_::_,[],_=>by simp[AS.jK]
 |id::ids,e::es,s=>by rw[AS.jK,DJ s0 all t ids es,dj]
theorem acI(s:AS)(ids:List Id)(t:Nat)(es:List dE):(s.made ids t es).ct=s.ct:=by cases es <;> rfl
theorem Ij(s0:AS)(all:List Id)(t:Nat):∀(ids:List Id) (es:List dE) (s:AS),ids.Nodup->es.length=ids.length->(∀id∈ids,s.bW id≠none)->
  (∀id,id ∉ ids->(AS.jK s0 all t s ids es).bW id=s.bW id)/\
  ∀(k:Nat) (id:Id) (e:dE),ids[k]? =some id->es[k]? =some e->(AS.jK s0 all t s ids es).bW id=some (s0.sY all t (s0.CS id) e)
 |[],es,s,_,_,_=>⟨λ_ _=>by simp[AS.jK],λk id e h=>by simp at h⟩
 |_::_,[],s,_,hl,_=>by simp at hl
 |i::ids,e::es,s,hn,hl,hp=>by
  obtain⟨h1,h2⟩:=cV.1 hn;have hp':∀id∈ids,(s.bl i (s0.sY all t (s0.CS i) e)).bW id≠none:=λid cY=>by rw[cX s i id _ (λe=>h1 (e▸cY))];exact hp id (aG _ cY)
  obtain⟨r1,r2⟩:=Ij s0 all t ids es (s.bl i (s0.sY all t (s0.CS i) e)) h2 (by simpa using hl) hp';rw[AS.jK];refine⟨λid cY=> ?_,λk id e' hk he=> ?_⟩
  ·simp only[bY,not_or]at cY;rw[r1 id cY.2,cX s i id _ cY.1]
  ·cases k with
   |zero=>
    simp only[fQ,az]at hk he;subst hk he;rw[r1 i h1,eH s i _ (hp i (aI ..))]
   |succ k=>
    simp only[mA]at hk he;exact r2 k id e' hk he
theorem amV(s:AS)(ids:List Id)(t:Nat)(es:List dE)(hv:es=[]\/s.dY t=true):
  (∀id,(es=[]\/∀j,id≠ .new t j)->(s.made ids t es).bW id=s.bW id)/\(es≠ []->∀j,(s.made ids t es).bW (.new t j)=(es[j]?).map (s.sY ids t 0)):=by
 cases es with
 |nil=>exact⟨λ_ _=>rfl,λh=>absurd rfl h⟩
 |cons e es=>
  have hv:s.dY t=true:=by
   rcases hv with h | h
   ·cases h
   ·exact h
  refine⟨λid h=> ?_,λ_ j=> ?_⟩
  ·rcases h with h | h
   ·cases h
   ·exact jm _ h
  ·rw[AS.made,zj (kJ hv).2,eh]
def oh(ids:List Id):mz->mz
 | .free=> .free
 | .own .eo n=> .own .eo n
 | .own (.id i) n=>match idxOf i ids with | some k=> .own (.id (.bm k)) n | none=> .own .eo n
def Cx(β:Id->Option Pl)(ids:List Id):Id->Option Pl
 | .bm k=>(ids[k]?).bind β
 | .new _ _=>none
def oH(g:Nat->mz)(size:Nat)(ids:List Id)(t:Nat)(b:Nat):mz->mz
 | .free=> .free
 | .own .eo n=>if b < size then g b else .own .eo n
 | .own (.id i) n=> .own (.id (aND ids t i)) n
def xD(β β':Id->Option Pl)(ids:List Id)(t:Nat)(some?:Bool)(id:Id):Option Pl:=
 match idxOf id ids with
 |some k=>β' (.bm k)
 |none=>match id with
  | .new i j=>if i=t/\some?=true then β' (.new 0 j) else β (.new i j)
  |id=>β id
theorem aFO{ids:List Id}{l:mz}{off:Nat}(h:vk (λ_=>l) 0 off):vk (λ_=>oh ids l) 0 off:=by
 cases l with
 |free=>trivial
 |own o k=>cases o with
  |eo=>exact h
  |id i=>simp only[oh];cases idxOf i ids <;> exact h
section
variable {P:Program} {C:Ctx} {g:Nat->mz} {β:Id->Option Pl} {s:AS} {a:Act} {w:World} {o:Oper}
theorem aFu(ids:List Id):
  AA (s.xG ids) (s.env w g β) ((fN (ids.map (s.mZ ids))).env w (λb=>oh ids (g b)) (Cx β ids)):=by
 refine⟨⟨λb off v ⟨h1,h2⟩=>⟨h1,?_⟩,λb ob h1 h2=>⟨by show oh ids (g b)= .free;have h1:g b= .free:=h1;rw[h1];rfl,h2⟩⟩,λid ver r hr _=> ?_⟩
 ·exact aFO (l:=g b) h2
 ·unfold AS.xG at hr;split at hr
  ·rename_i k v fr c hk ho;split at hr
   ·rename_i aR1;simp only[az]at hr;subst hr aR1;have cY:=py hk;have cQ:=ee ho;refine⟨⟨?_,λ_ _ _ _=>aK _⟩,λ_=>⟨⟨fr,c,cQ⟩,?_⟩⟩
    ·show(ids.map (s.mZ ids))[k]? ≠none
     simp[cY]
    ·show(ids[k]?).bind β=β id;rw[cY];rfl
   ·cases hr
  ·cases hr
theorem avS(ids:List Id)(hn:ids.Nodup)(h:iZ (s.env w g β)):iZ ((fN (ids.map (s.mZ ids))).env w (λb=>oh ids (g b)) (Cx β ids)):=by
 intro id ver fr c cY;have cY:(fN (ids.map (s.mZ ids))).bW id=some (.obj ver fr c):=cY;cases id with
 |new i j=>simp[fN,AS.bW]at cY
 |bm k=>
  simp only[fN,AS.bW,eh,dd]at cY;obtain⟨id1,hk,he⟩:=cY;unfold AS.mZ at he;split at he
  ·rename_i v fr1 c1 cQ;simp only[dE.obj.injEq]at he;obtain⟨rfl,rfl,rfl⟩:=he;refine xl (aFu ids) (h id1 v fr1 c1 cQ) (by show(ids[k]?).bind β=β id1;rw[hk];rfl) λpl hp=>⟨rfl,λn hg=> ?_,λhg=> ?_⟩
   ·have hg:g pl.b= .own (.id id1) n:=hg;show oh ids (g pl.b)=_;rw[hg];simp[oh,xv hn hk]
   ·have hg:g pl.b= .free:=hg;show oh ids (g pl.b)=_;rw[hg];rfl
  ·cases he
theorem YH(h:Inv C g β s a w){ids:List Id}(hn:ids.Nodup)(hp:∀id∈ids,∃r,s.obj id=some r)(XX:∀id∈ids,s.TK id=true){G:fK}{t:Nat}(hl:G.bZ.length=ids.length)(hv:G.news=[]\/s.dY t=true){v:Value}{w':World}
  (ha:ua ((fN (ids.map (s.mZ ids))).env w (λb=>oh ids (g b)) (Cx β ids)) G v w'):
  ∃g' β',Inv C g' β' (AS.jK s ids t (s.made ids t G.news) ids G.bZ) a w'/\VS ((AS.jK s ids t (s.made ids t G.news) ids G.bZ).env w' g' β') (G.val.iV (s.vY ids t)) v:=by
 obtain⟨g1,β1,A5,aNy,asd,hle⟩:=ha;have asd:Trans w w' (λb=>oh ids (g b)) g1:=asd;obtain⟨m1,m2⟩:=amV s ids t G.news hv;have aT6:∀id∈ids,s.bW id≠none:=λid cY=>by obtain⟨⟨v,fr,c⟩,hr⟩:=hp id cY;rw[ee hr];simp
 have HF:∀id,s.bW id≠none->G.news=[]\/∀j,id≠ .new t j:=λid cY=>by
  rcases hv with hv | hv
  ·exact .inl hv
  ·exact .inr λj e=>cY (by rw[e];exact(kJ hv).1 j)
 obtain⟨n1,n2⟩:=Ij s ids t ids G.bZ (s.made ids t G.news) hn hl (λid cY=>by rw[m1 id (HF id (aT6 id cY))];exact aT6 id cY);have aR2:∀j,G.news≠ []->Id.new t j ∉ ids:=λj gF cY=>by
  rcases hv with hv | hv
  ·exact gF hv
  ·exact aT6 _ cY ((kJ hv).1 j)
 generalize Z4:AS.jK s ids t (s.made ids t G.news) ids G.bZ=s2 at*;have hgO:∀(k:Nat) (id:Id),ids[k]? =some id->∃e,G.bZ[k]? =some e/\s2.bW id=some (s.sY ids t (s.CS id) e):=λk id hk=>by
  have gQ:k < G.bZ.length:=by rw[hl];exact(dF.1 hk).1
  exact⟨_,bU gQ,n2 k id _ hk (bU gQ)⟩
 have hgN:G.news≠ []->∀j,s2.bW (.new t j)=(G.news[j]?).map (s.sY ids t 0):=λgF j=>by rw[n1 _ (aR2 j gF),m2 gF j]
 have hgS:∀id,id ∉ ids->(G.news=[]\/∀j,id≠ .new t j)->s2.bW id=s.bW id:=λid h1 h2=>by rw[n1 id h1,m1 id h2]
 have hverOf:∀id∈ids,∃fr c,s.bW id=some (.obj (s.CS id) fr c):=λid cY=>by obtain⟨⟨v,fr,c⟩,hr⟩:=hp id cY;refine⟨fr,c,?_⟩;rw[ee hr];simp[AS.CS,hr]
 have aTI:∀b n,b < w.heap.size->g1 b= .own .eo n->(g b= .own .eo n\/∃i,g b= .own (.id i) n/\idxOf i ids=none):=λb n hb hg=>by
  have h1:=asd.SX b hb;cases Xa:g b with
  |free=>simp only[Xa,oh]at h1;rw[h1.1]at hg;cases hg
  |own o k=>cases o with
   |eo=>simp only[Xa,oh]at h1;rw[h1.1]at hg;left;exact hg
   |id i=>
    cases hi:idxOf i ids with
    |none=>
     simp only[Xa,oh,hi]at h1;rw[h1.1]at hg;simp only[mz.own.injEq,mQ]at hg;subst hg;exact .inr ⟨i,rfl,hi⟩
    |some k'=>
     simp only[Xa,oh,hi]at h1;rcases h1.1 with h2 | ⟨_,_,h2,_⟩ <;> (rw[h2]at hg;cases hg)
 let g2:Nat->mz:=λb=>oH g w.heap.size ids t b (g1 b)
 let β2:Id->Option Pl:=xD β β1 ids t (!G.news.isEmpty)
 have hβO:∀k id,ids[k]? =some id->β2 id=β1 (.bm k):=λk id hk=>by show xD _ _ _ _ _ id=_;simp[xD,xv hn hk]
 have hβN:G.news≠ []->∀j,β2 (.new t j)=β1 (.new 0 j):=λgF j=>by
  show xD _ _ _ _ _ _=_;have:idxOf (.new t j) ids=none:=by
   cases hi:idxOf (.new t j) ids with
   |none=>rfl
   |some k=>exact absurd (cJ (py hi)) (aR2 j gF)
  have hne':G.news.isEmpty=false:=by cases hh:G.news with
   |nil=>exact absurd hh gF
   |cons _ _=>rfl
  simp[xD,this,hne']
 have hβS:∀id,id ∉ ids->(G.news=[]\/∀j,id≠ .new t j)->β2 id=β id:=λid h1 h2=>by
  show xD _ _ _ _ _ _=_;have:idxOf id ids=none:=by
   cases hi:idxOf id ids with
   |none=>rfl
   |some k=>exact absurd (cJ (py hi)) h1
  cases id with
  |bm k=>simp[xD,this]
  |new i j=>
   have:¬(i=t/\(!G.news.isEmpty)=true):=by
    rintro⟨rfl,h3⟩;rcases h2 with h2 | h2
    ·rw[h2]at h3;cases h3
    ·exact h2 j rfl
   simp only[xD, *,bt]
 have aRX:Trans w w' g g2:=by
  refine⟨asd.os,asd.tape,asd.output,asd.size,λb hb=> ?_⟩;have h1:=asd.SX b hb;show match g b with | .free=>oH g w.heap.size ids t b (g1 b)= .free/\_ | .own .eo k=>oH g w.heap.size ids t b (g1 b)= .own .eo k/\_ | .own (.id _) k=>(oH g w.heap.size ids t b (g1 b)= .free\/∃i k',oH g w.heap.size ids t b (g1 b)= .own (.id i) k'/\k<=k')/\_
  cases Xa:g b with
  |free=>simp only[Xa,oh]at h1 ⊢;rw[h1.1];exact⟨rfl,h1.2⟩
  |own o k=>cases o with
   |eo=>simp only[Xa,oh]at h1 ⊢;rw[h1.1];simp only[oH,hb,bG,Xa];exact⟨trivial,h1.2⟩
   |id i=>
    cases hi:idxOf i ids with
    |none=>
     simp only[Xa,oh,hi]at h1 ⊢;rw[h1.1];simp only[oH,hb,bG,Xa];exact⟨.inr ⟨i,k,rfl,ax _⟩,λoff v _ hv=>by simpa only[World.cell?,h1.2]using hv⟩
    |some k'=>
     simp only[Xa,oh,hi]at h1 ⊢;refine⟨?_,h1.2⟩;rcases h1.1 with h2 | ⟨i',k'',h2,h3⟩
     ·rw[h2];exact .inl rfl
     ·rw[h2];exact .inr ⟨_,k'',rfl,h3⟩
 have FO:uf (G.st.env w' g1 β1) (s2.env w' g2 β2):=by
  refine⟨λb off v ⟨h1,h2⟩=> ?_,λb ob h1 h2=>⟨by show oH g w.heap.size ids t b (g1 b)= .free;have h1:g1 b= .free:=h1;rw[h1];rfl,h2⟩⟩;refine⟨h1,?_⟩;have h2:vk g1 b off:=h2;show vk g2 b off;unfold vk at h2 ⊢;show match oH g w.heap.size ids t b (g1 b) with | .free=>True | .own _ k=>off < k
  cases Xa:g1 b with
  |free=>simp[oH]
  |own o k=>
   rw[Xa]at h2;cases o with
   |eo=>
    simp only[oH];by_cases hb:b < w.heap.size
    ·rw[if_pos hb];rcases aTI b k hb Xa with h3 | ⟨i,h3,_⟩ <;> (rw[h3];exact h2)
    ·rw[if_neg hb];exact h2
   |id i=>exact h2
 have hentOut:∀(base:Nat) (e:dE) (ver:Nat) (fr:Bool) (c:aB),s.sY ids t base e= .obj ver fr c->∃v0 c0,e= .obj v0 fr c0/\ver=base+v0/\c=c0.iV (s.vY ids t):=λbase e ver fr c he=>by
  cases e with
  |dead=>cases he
  |obj v0 fr0 c0=>
   simp only[AS.sY,dE.obj.injEq]at he;obtain⟨rfl,rfl,rfl⟩:=he;exact⟨v0,c0,rfl,rfl,rfl⟩
 have ai1:AA (s.vY ids t) (G.st.env w' g1 β1) (s2.env w' g2 β2):=by
  refine⟨FO,λid ver r hr hb=> ?_⟩;cases id with
  |bm k=>
   obtain⟨SD,XV⟩:=hb;have SD:G.bZ[k]? ≠none:=SD
   have hk:k < ids.length:=by
    rcases qk k ids.length with h' | h'
    ·exact h'
    ·exact absurd (dG ak) SD
   have cY:ids[k]? =some ids[k]:=bU hk
   simp only[AS.vY,cY,az]at hr;subst hr;obtain⟨e,Qx,adL⟩:=hgO k _ cY;refine⟨⟨by show s2.bW _≠none;rw[adL];simp,λv fr c hh=> ?_⟩,λ⟨fr,c,hh⟩=>⟨?_,hβO k _ cY⟩⟩
   ·have hh:s2.bW ids[k]=some (.obj v fr c):=hh;rw[adL,az]at hh;obtain⟨v0,c0,rfl,rfl,_⟩:=hentOut _ _ _ _ _ hh;have:=XV v0 fr c0 Qx;omega
   ·have hh:s2.bW ids[k]=some (.obj (s.CS ids[k]+ver) fr c):=hh;rw[adL,az]at hh;obtain⟨v0,c0,rfl,aQF,_⟩:=hentOut _ _ _ _ _ hh;obtain rfl:ver=v0:=ak;exact⟨fr,c0,Qx⟩
  |new i j=>
   simp only[AS.vY,az]at hr;subst hr;obtain⟨SD,XV⟩:=hb;have SD:([G.news].getD i [])[j]? ≠none:=SD
   have XV:∀v fr c,([G.news].getD i [])[j]? =some (.obj v fr c)->ver<=v:=XV
   cases i with
   |succ i=>simp at SD
   |zero=>
    simp only[jz]at SD XV;have gF:G.news≠ []:=λe=>by rw[e]at SD;simp at SD
    obtain⟨e,he⟩:=Option.ne_none_iff_exists'.1 SD;have adL:=hgN gF j;rw[he,dV]at adL;refine⟨⟨by show s2.bW (.new t j)≠none;rw[adL];simp,λv fr c hh=> ?_⟩,λ⟨fr,c,hh⟩=>⟨?_,hβN gF j⟩⟩
    ·have hh:s2.bW (.new t j)=some (.obj v fr c):=hh;rw[adL,az]at hh;obtain⟨v0,c0,rfl,rfl,_⟩:=hentOut _ _ _ _ _ hh;have:=XV v0 fr c0 he;simp only;omega
    ·have hh:s2.bW (.new t j)=some (.obj ver fr c):=hh;rw[adL,az]at hh;obtain⟨v0,c0,rfl,aQF,_⟩:=hentOut _ _ _ _ _ hh;obtain rfl:ver=v0:=ak;exact⟨fr,c0,he⟩
 have aRJ:cM (s.env w g β) (s2.env w' g2 β2):=by
  refine⟨Trans.mem aRX,λid ver hb=> ?_,λid ver hb hc=> ?_⟩
  ·obtain⟨SD,XV⟩:=hb;have SD:s.bW id≠none:=SD;have XV:∀v fr c,s.bW id=some (.obj v fr c)->ver<=v:=XV;by_cases cY:id∈ids
   ·obtain⟨k,hk⟩:=kN.1 cY;obtain⟨e,Qx,adL⟩:=hgO k id hk;obtain⟨fr1,c1,SE⟩:=hverOf id cY;refine⟨by show s2.bW _≠none;rw[adL];simp,λv fr c hh=> ?_⟩;have hh:s2.bW id=some (.obj v fr c):=hh;rw[adL,az]at hh;obtain⟨v0,c0,rfl,rfl,_⟩:=hentOut _ _ _ _ _ hh;have:=XV _ _ _ SE;omega
   ·have:=hgS id cY (HF id SD);exact⟨by show s2.bW _≠none;rw[this];exact SD,λv fr c hh=>XV v fr c (this.symm.trans hh)⟩
  ·obtain⟨SD,XV⟩:=hb;have SD:s.bW id≠none:=SD;have XV:∀v fr c,s.bW id=some (.obj v fr c)->ver<=v:=XV;obtain⟨fr,c,hh⟩:=hc;have hh:s2.bW id=some (.obj ver fr c):=hh;by_cases cY:id∈ids
   ·obtain⟨k,hk⟩:=kN.1 cY;obtain⟨e,Qx,adL⟩:=hgO k id hk;obtain⟨fr1,c1,SE⟩:=hverOf id cY;rw[adL,az]at hh;obtain⟨v0,c0,rfl,aQF,_⟩:=hentOut _ _ _ _ _ hh;have aR1:=XV _ _ _ SE;obtain rfl:v0=0:=ak;have hver':ver=s.CS id:=ak;refine⟨⟨fr1,c1,by rw[hver'];exact SE⟩,?_⟩;show β2 id=β id;rw[hβO k id hk];have agb:s.mZ ids id= .obj 0 fr1 (c1.iV (s.xG ids)):=by simp[AS.mZ,SE]
    have h0:((fN (ids.map (s.mZ ids))).env w (λb=>oh ids (g b)) (Cx β ids)).G1 (.bm k) 0:=by
     refine⟨?_,λ_ _ _ _=>aK _⟩;show(ids.map (s.mZ ids))[k]? ≠none
     simp[hk]
    have:=(hle.cur (.bm k) 0 h0 ⟨fr,c0,Qx⟩).2;have this:β1 (.bm k)=(ids[k]?).bind β:=this;rw[this,hk];rfl
   ·have:=hgS id cY (HF id SD);exact⟨⟨fr,c,this.symm.trans hh⟩,hβS id cY (HF id SD)⟩
 have aRQ:iZ (s2.env w' g2 β2):=by
  intro id ver fr c hh;have hh:s2.bW id=some (.obj ver fr c):=hh;by_cases cY:id∈ids
  ·obtain⟨k,hk⟩:=kN.1 cY;obtain⟨e,Qx,adL⟩:=hgO k id hk;rw[adL,az]at hh;obtain⟨v0,c0,rfl,_,rfl⟩:=hentOut _ _ _ _ _ hh;refine xl ai1 (aNy (.bm k) v0 fr c0 Qx) (hβO k id hk) λpl _=>⟨rfl,λn hg=> ?_,λhg=> ?_⟩
   ·have hg:g1 pl.b= .own (.id (.bm k)) n:=hg;show oH g w.heap.size ids t pl.b (g1 pl.b)=_;rw[hg];simp[oH,aND,aH,hk]
   ·have hg:g1 pl.b= .free:=hg;show oH g w.heap.size ids t pl.b (g1 pl.b)=_;rw[hg];rfl
  ·by_cases gF:G.news≠ []/\∃j,id= .new t j
   ·obtain⟨gF,j,rfl⟩:=gF;rw[hgN gF j,dd]at hh;obtain⟨e,he,hh⟩:=hh;obtain⟨v0,c0,rfl,_,rfl⟩:=hentOut _ _ _ _ _ hh;refine xl ai1 (aNy (.new 0 j) v0 fr c0 (by show([G.news].getD 0 [])[j]? =_;simpa using he)) (hβN gF j) λpl _=>⟨rfl,λn hg=> ?_,λhg=> ?_⟩
    ·have hg:g1 pl.b= .own (.id (.new 0 j)) n:=hg;show oH g w.heap.size ids t pl.b (g1 pl.b)=_;rw[hg];rfl
    ·have hg:g1 pl.b= .free:=hg;show oH g w.heap.size ids t pl.b (g1 pl.b)=_;rw[hg];rfl
   ·have aVI:G.news=[]\/∀j,id≠ .new t j:=by
     by_cases hh:G.news=[]
     ·exact .inl hh
     ·exact .inr λj e=>gF ⟨hh,j,e⟩
    rw[hgS id cY aVI]at hh;have same:∀id,id ∉ ids->∀ver fr c,s.bW id=some (.obj ver fr c)->∀pl,β id=some pl->w'.heap[pl.b]? =w.heap[pl.b]? /\oH g w.heap.size ids t pl.b (g1 pl.b)=g pl.b:=by
     intro id cY ver fr c hh pl Pd;obtain⟨hb,aRI⟩:=(h.bJ id ver fr c hh).label (pl:=pl) Pd;have hb:pl.b < w.heap.size:=hb;have h1:=asd.SX pl.b hb;have aTN:idxOf id ids=none:=by
      cases hi:idxOf id ids with
      |none=>rfl
      |some k=>exact absurd (cJ (py hi)) cY
     rcases aRI with⟨k,hk⟩ | ⟨_,hk⟩
     ·have hk:g pl.b= .own (.id id) k:=hk;simp only[hk,oh,aTN]at h1;rw[h1.1];simp only[oH,hb,bG];exact⟨h1.2,trivial⟩
     ·have hk:g pl.b= .free:=hk;simp only[hk,oh]at h1;rw[h1.1,hk];exact⟨h1.2,rfl⟩
    have ho:=h.bJ id ver fr c hh;refine ho.mono aRJ (hβS id cY aVI) (λpl Pd=>same id cY ver fr c hh pl Pd) λq2 vq k2 v2 l2 Tq _=> ?_
    have Tq:s.bW q2=some (.obj vq true (.mp k2 v2 l2)):=Tq;have aJz:q2 ∉ ids:=λhm=>by
     have:=XX q2 hm;have e:s.obj q2=some (vq,true,.mp k2 v2 l2):=by simp[AS.obj,Tq]
     unfold AS.TK at this;rw[e]at this;cases this
    refine⟨⟨k2,v2,l2,?_⟩,λpl Pd=>same q2 aJz vq true _ Tq pl Pd⟩;show s2.bW q2=_;rw[hgS q2 aJz (HF q2 (by rw[Tq];simp))];exact Tq
 have avP:s2.ct=s.ct:=by rw[<-Z4,DJ,acI]
 exact⟨g2,β2,h.step avP aRX aRJ aRQ,HO ai1 A5⟩
end
end Go.Ab
namespace Go.Ab
theorem tN(s:AS):∀(n:Nat) (todo acc:List Id),acc.Nodup->(s.reach n todo acc).Nodup
 | 0,_,acc,h=>by simpa[AS.reach]using h
 |_+1,[],acc,h=>by simpa[AS.reach]using h
 |n+1,id::todo,acc,h=>by
  rw[AS.reach];split
  ·exact tN s n todo acc h
  ·rename_i hc;refine tN s n _ _ ?_
   rw[List.nodup_append];refine⟨h,by simp,λx hx y hy e=> ?_⟩;simp only[bk]at hy;subst hy e;exact hc (by simpa using hx)
theorem Ct(s:AS)(vs:List aB):(s.agm vs).Nodup:=tN s _ _ _ (by simp)
section
variable {P:Program} {C:Ctx} {g:Nat->mz} {β:Id->Option Pl} {s:AS} {a:Act} {w:World} {o:Oper}
theorem alC(h:Inv C g β s a w){ids:List Id}(hn:ids.Nodup)(C8:s.av1 ids=true){G:fK}{s':AS}(he:(s.back ids o.dst G).eval=some s'){v:Value}{w':World}
  (ha:ua ((fN (ids.map (s.mZ ids))).env w (λb=>oh ids (g b)) (Cx β ids)) G v w'):iB C s' (a.put o.dst v) w':=by
 have hp:∀id∈ids,∃r,s.obj id=some r:=λid cY=>by have:=cW.1 C8 id cY;rw[au]at this;exact bO.1 this.1
 have XX:∀id∈ids,s.TK id=true:=λid cY=>by have:=cW.1 C8 id cY;rw[au]at this;exact this.2
 unfold AS.back at he;cases aRv:o.dst with
 |some t=>
  rw[aRv]at he;obtain⟨hg,he⟩:=aC.1 he;obtain rfl:=ay.1 he;simp only[au,dv,gf]at hg;obtain⟨hl,hg⟩:=hg;have aFp:G.news=[]\/s.dY t=true:=by
   rcases hg with hg | hg
   ·exact .inl (by simpa using hg)
   ·exact .inr hg
  obtain⟨g2,β2,h1,h2⟩:=YH h hn hp XX hl aFp ha;exact⟨g2,β2,h1.put (some t) h2⟩
 |none=>
  rw[aRv]at he;obtain⟨hg,he⟩:=aC.1 he;obtain rfl:=ay.1 he;simp only[au,dv]at hg;obtain⟨hl,hg⟩:=hg;have HF:G.news=[]:=by simpa using hg
  obtain⟨g2,β2,h1,_⟩:=YH (t:=0) h hn hp XX hl (.inl HF) ha;rw[HF]at h1;exact⟨g2,β2,h1⟩
theorem Tj(h:Inv C g β s a w){en:Entry}{ids:List Id}(hn:ids.Nodup){vs:List aB}{ys:List Value}(hv:yA (s.env w g β) vs ys)
  {s':AS} (he:(s.enter en o.dst ids vs).eval=some s'):∃x,en.run (vs.map (aB.iV (s.xG ids))) (ids.map (s.mZ ids))=some x/\
   yA ((fN (ids.map (s.mZ ids))).env w (λb=>oh ids (g b)) (Cx β ids)) (vs.map (aB.iV (s.xG ids))) ys/\
   iZ ((fN (ids.map (s.mZ ids))).env w (λb=>oh ids (g b)) (Cx β ids))/\
   ∀v w',ua ((fN (ids.map (s.mZ ids))).env w (λb=>oh ids (g b)) (Cx β ids)) (en.out (vs.map (aB.iV (s.xG ids))) (ids.map (s.mZ ids)) x) v w'->iB C s' (a.put o.dst v) w':=by
 unfold AS.enter at he;obtain⟨C8,he⟩:=aC.1 he;obtain⟨x,hx,he⟩:=xu.1 he;obtain⟨x0,aPh,he⟩:=aw.1 he;rw[en.awF _ _ aPh]at he;exact⟨x,hx,yA.iV (aFu ids) hv,avS ids hn h.bJ,λv w' ha=>alC h hn C8 he ha⟩
theorem arN(h:Inv C g β s a w){f:FuncId}{en:Entry}(hd:ra P f en){ids:List Id}(hn:ids.Nodup){vs:List aB}{ys:List Value}(hv:yA (s.env w g β) vs ys)
  (hr:(execOp a.eval o).run P w=(callFunc f ys.toArray).run P w) {s':AS} (he:(s.enter en o.dst ids vs).eval=some s'):fL P o a w (iB C s'):=by
 obtain⟨x,hx,h1,h2,key⟩:=Tj h hn hv he;rcases hd _ _ _ _ _ _ _ h1 h2 hx with⟨ar3,hc⟩ | ⟨v,w',aSX,ha⟩
 ·exact .inr (.inr (.inl ⟨f,ys.toArray,w,hr.trans ar3,hc.mono λe w' ⟨v,he,ha⟩=>⟨v,he,key v w' ha⟩⟩))
 ·exact .inl ⟨v,w',hr.trans aSX,key v w' ha⟩
theorem axM(h:Inv C g β s a w){c:Call}{F:Operand}{f:FuncId}{caps:aB}{en:Entry}(ho:o.op= .call c)(hc:c.callee= .value F)(hF:s.ev F= .fn f caps)(hd:ra P f en){s':AS}
  (he:(s.call en o.dst (c.args.toList.map s.ev++caps.list)).eval=some s'):fL P o a w (iB C s'):=by
 obtain⟨cal,args,tys⟩:=c;simp only at hc he;subst hc;obtain⟨vs,hy,aQG⟩:=ZR (hF▸h.ev F);have L9:=(h.avC args.toList).append (ahC aQG);have hr:(execOp a.eval o).run P w=(callFunc f (args.toList.map a.eval++vs).toArray).run P w:=by
  have e1:execOp a.eval o=(do let d <-resolve a.eval {callee:= .value F,args,argTypes:=tys} o.type;invoke d.target d.args):=by simp only[execOp,ho]
  rw[e1];simp only[resolve,hy,Deferred.ofValue,Sem.run_bind,Sem.run_pure,Result.andThen_ok,invoke];congr 2;simp
 unfold AS.call at he;obtain⟨r,h1,h2⟩:=aw.1 he;obtain⟨g',i1,e1,_,f1⟩:=fD r.2 h;exact arN i1 hd (Ct _ _) (D8 rfl h.bJ e1 _ _ _ r L9 h1 f1) hr h2
theorem afU{X R:Type}{S:X->Prop}{k:X->Option R}{r:R}(h:ZG S k=some r):(∃x,S x)/\∀x,S x->k x=some r:=by
 unfold ZG at h;split at h
 ·rename_i hx;obtain rfl:=bf h;exact hx.choose_spec
 ·cases h
theorem Va(h:Inv C g β s a w){f:FuncId}{en:Entry}(hd:Pg P f en){vs:List aB}{ys:List Value}(L9:yA (s.env w g β) vs ys){R:Type}{k:AS->Option R}{r:R}
  (he:s.al3 en o.dst vs k=some r):(callFunc f ys.toArray).run P w= .ok (.enter f ys.toArray) w/\Calls P f ys.toArray w λe w'=>∃v,e= .returned v/\∃s',iB C s' (a.put o.dst v) w'/\k s'=some r:=by
 unfold AS.al3 at he;obtain⟨r2,h0,he⟩:=iy.1 he;obtain⟨r3,h1,h3⟩:=aw.1 h0;obtain⟨C8,h3⟩:=aC.1 h3;obtain rfl:=ay.1 h3;obtain⟨g',i1,e1,_,f1⟩:=fD r3.2 h;have hn:=Ct (s.bB r3.2) r3.1;have hv:=D8 rfl h.bJ e1 _ _ _ r3 L9 h1 f1;unfold AS.aEE at he;obtain⟨hx,hk⟩:=afU he;obtain⟨c1,c2⟩:=hd _ _ _ _ _ _ (yA.iV (aFu _) hv) (avS _ hn i1.bJ) hx;refine⟨c1,c2.mono λe w' ⟨v,x,anj,hs,ha⟩=>⟨v,anj,?_⟩⟩;obtain⟨s',h4,h5⟩:=iy.1 (hk x hs);obtain⟨x0,aPh,h4⟩:=aw.1 h4;rw[en.awF _ _ aPh]at h4;exact⟨s',alC i1 hn C8 h4 ha,h5⟩
theorem are(h:Inv C g β s a w){c:Call}{F:Operand}{f:FuncId}{caps:aB}{en:Entry}(ho:o.op= .call c)(hc:c.callee= .value F)(hF:s.ev F= .fn f caps)(hd:Pg P f en){R:Type}{k:AS->Option R}{r:R}
  (he:s.al3 en o.dst (c.args.toList.map s.ev++caps.list) k=some r):fL P o a w λa' w'=>∃s',iB C s' a' w'/\k s'=some r:=by
 obtain⟨cal,args,tys⟩:=c;simp only at hc he;subst hc;obtain⟨vs,hy,aQG⟩:=ZR (hF▸h.ev F);obtain⟨c1,c2⟩:=Va h hd ((h.avC args.toList).append (ahC aQG)) he;refine .inr (.inr (.inl ⟨f,(args.toList.map a.eval++vs).toArray,w,Eq.trans ?_ c1,c2⟩));have e1:execOp a.eval o=(do let d <-resolve a.eval {callee:= .value F,args,argTypes:=tys} o.type;invoke d.target d.args):=by simp only[execOp,ho]
 rw[e1];simp only[resolve,hy,Deferred.ofValue,Sem.run_bind,Sem.run_pure,Result.andThen_ok,invoke];congr 2;simp
theorem EY.aXq{E:Env}{f:aB}{tmps:Array Value}(h:EY E f tmps):yA E f.list tmps.toList:=by
 obtain⟨h1,h2⟩:=h;have gen:∀(l:List aB) (ys:List Value),l.length=ys.length->(∀i,VS E (l.getD i .undef) (ys.getD i undef))->yA E l ys:=by
  intro l
  induction l with
  |nil=>intro ys hl _;cases ys with
   |nil=>trivial
   |cons _ _=>simp at hl
  |cons x l ih=>intro ys hl hi;cases ys with
   |nil=>simp at hl
   |cons y ys=>exact⟨by simpa using hi 0,ih ys (by simpa using hl) λi=>by simpa using hi (i+1)⟩
 exact gen _ _ (by simpa using h1) λi=>by simpa[cI,aH]using h2 i
theorem auV(h:Inv C g β s a w){c:Call}{F:Operand}{id:Id}{ver:Nat}{rc:vB}{f:aB}{en:Entry}(ho:o.op= .call c)(hc:c.callee= .value F)
  (hF:s.yielded (s.ev F) c.args.size=some (id,ver,rc,f)) (aSW:rc=rk P rc.y) (hd:vm P rc.y en) {s':AS}
  (he:(s.call en o.dst (.yl id ver::(c.args.toList.map s.ev++f.list))).eval=some s'):fL P o a w (iB C s'):=by
 obtain⟨cal,args,tys⟩:=c;simp only at hc he hF;subst hc;unfold AS.yielded at hF;split at hF;rotate_left
 ·cases hF
 rename_i id' ver' anj;split at hF;rotate_left
 ·cases hF
 rename_i v c0 f0 ml;split at hF;rotate_left
 ·cases hF
 rename_i aFa;simp only[az,cE]at hF;obtain⟨rfl,rfl,rfl,rfl⟩:=hF;simp only[au,dv]at aFa;obtain⟨⟨rfl,tW⟩,hy⟩:=aFa;have cQ:=ee ml;have hv:=h.ev F;rw[anj]at hv;obtain⟨cs,hV,hO⟩:=hv;simp only[V]at hV;obtain⟨l,rfl,hb,fB⟩:=hV;have aR5:a.eval F= .func (.yield l) #[] #[]:=by simpa[fT,aB.agg]using hO.symm
 obtain⟨pl,hp,rfl⟩:=fB ⟨false,_,cQ⟩;obtain⟨pl',r,hp',hh,hg,⟨q1,q2,q3⟩,avP,mG⟩:=h.bJ id' v false _ cQ;have hp':β id'=some pl':=hp';have hp:β id'=some pl:=hp;rw[hp']at hp;obtain rfl:pl'=pl:=by simpa using hp
 have hh:w.heap[pl'.b]? =some (.loop r):=hh
 have L9:yA (s.env w g β) (.yl id' v::(args.toList.map s.ev++f0.list)) (.func (.yield pl'.b) #[] #[]::(args.toList.map a.eval++r.tmps.toList)):=
  ⟨by rw[<-aR5,<-anj];exact h.ev F,(h.avC args.toList).append avP.aXq⟩
 have hr:(execOp a.eval o).run P w= .ok (.round pl'.b r.fn ((c0.ps.zip (args.toList.map a.eval).toArray).foldl (λtmps (t,a)=>tmps.setIfInBounds t a) r.tmps.toList.toArray) c0.as c0.b) w:=by
  have e1:execOp a.eval o=(do let d <-resolve a.eval {callee:= .value F,args,argTypes:=tys} o.type;invoke d.target d.args):=by simp only[execOp,ho]
  have e2:=run_yield (P:=P) (args:=args.map a.eval) hh (by simpa[q1]using tW);rw[q1,q2,q3]at e2;rw[e1];simp only[resolve,aR5,Deferred.ofValue,Sem.run_bind,Sem.run_pure,Result.andThen_ok,invoke];have e3:(args.toList.map a.eval).toArray=args.map a.eval:=by apply gC;simp
  rw[e3];simpa using e2
 unfold AS.call at he;obtain⟨r2,h1,h2⟩:=aw.1 he;obtain⟨g',i1,e1,_,f1⟩:=fD r2.2 h;obtain⟨x,hx,k1,k2,key⟩:=Tj i1 (Ct _ _) (D8 rfl h.bJ e1 _ _ _ r2 L9 h1 f1) h2;refine .inr (.inr (.inr ⟨pl'.b,r.fn,_,c0.as,c0.b,w,hr,λrd n=> ?_⟩));have:=hd.2.1 hy _ _ _ _ _ _ x k1 k2 hx pl'.b (args.toList.map a.eval) r.tmps.toList r.fn rd n rfl (by rw[<-aSW];simpa using tW);rw[<-aSW]at this;exact this.mono λe w' ⟨v,he,ha⟩=>⟨v,he,key v w' ha⟩
end
end Go.Ab
namespace Go.Ab
section
variable {P:Program} {C:Ctx} {g:Nat->mz} {β:Id->Option Pl} {s:AS} {a:Act} {w:World} {o:Oper}
theorem jF{b:Builtin}{args:Array Operand}{ts:Array TypeId}{F:TypeId->Array Value->Sem Value}{x:Value}{w':World}{s':AS}(ho:o.op= .call {callee:= .builtin b,args,argTypes:=ts})
  (hb:∀ty cs xs,builtin b ts ty cs xs=(do pure (.value (<-F ty xs)))) (hf:∀ty,(F ty (args.map a.eval)).run P w= .ok x w') (h2:∃g' β',Inv C g' β' s' (a.put o.dst x) w'):fL P o a w (iB C s'):=by
 refine .inl ⟨x,w',?_,h2⟩;simp only[execOp,ho,resolve,Sem.run_bind,Sem.run_pure,Result.andThen_ok,invoke];rw[hb,Sem.run_bind,hf];rfl
theorem arC(h:Inv C g β s a w){src dst:TypeId}{x:Operand}(ho:o.op= .convert src dst x){id:Id}{ver:Nat}(hx:s.ev x= .ptr id ver [] 0){v:aB}(he:(afN P s src dst id ver).eval=some v):fL P o a w (iB C (s.put o.dst v)):=by
 have hv:=h.ev x;rw[hx]at hv;obtain⟨ad,hy,hb,hc⟩:=vU hv;have fin:v= .ptr id ver [] 0->(convert src dst (a.eval x)).run P w= .ok (a.eval x) w->fL P o a w (iB C (s.put o.dst v)):=by intro h1 h2;subst h1;exact h.value hv (dW (f:=convert src dst (a.eval x)) (by simp only[execOp,ho]) h2)
 unfold afN at he;split at he
 ·rename_i v0 fr e c ml;have cQ:=ee ml;obtain⟨pl',cur,e',hp',hh,hg,hk,hV⟩:=(h.bJ id v0 fr _ cQ).box rfl;have hk:e'=e:=hk;subst hk;have hV:V (s.env w g β) c (cur.toList.take cur.size):=hV;rw[<-cK,bK]at hV;have hh:w.heap[pl'.b]? =some (.cells cur e' (0,0)):=hh
  have tW:=hV.size;have tW:cur.toList.length=c.size:=tW;have avO:w.shape? pl'.b=some (e',c.size):=by simp only[World.shape?,hh];rw[<-tW];simp
  have hp':β id=some pl':=hp';split at he
  ·rename_i t hS hD;obtain⟨h1,h2⟩:=aC.1 he;have h2:=ay.1 h2;simp only[au,dv,cC,gE]at h1;obtain⟨⟨rfl,h3⟩,h4⟩:=h1;obtain⟨pl,hp,rfl⟩:=hc ⟨fr,_,cQ⟩;have hp:β id=some pl:=hp;rw[hp']at hp;obtain rfl:pl'=pl:=by simpa using hp
   refine fin h2.symm ?_
   rw[hy];cases hi:P.info? t with
   |none=>exact absurd (by simp[Program.cellsOf,hi]) h3
   |some j=>
    have hj:j.size≠0:=by rw[<-nD hi]at*;exact h3
    exact Go.Lib.run_to_unsafe w _ hS hD hi hj avO (by show 0 < c.size;omega)
  ·rename_i u hS hD;obtain⟨h1,h2⟩:=aC.1 he;have h2:=ay.1 h2;simp only[au,dv,cC,gE]at h1;obtain⟨⟨rfl,h3⟩,h4⟩:=h1;obtain⟨pl,hp,rfl⟩:=hc ⟨fr,_,cQ⟩;have hp:β id=some pl:=hp;rw[hp']at hp;obtain rfl:pl'=pl:=by simpa using hp
   refine fin h2.symm ?_
   rw[hy];cases hi:P.info? u with
   |none=>exact absurd (by simp[Program.cellsOf,hi]) h3
   |some j=>exact Go.Lib.run_from_unsafe w _ hS hD hi avO h4
  ·simp only[av]at he
 ·simp only[av]at he
theorem aEG(h:Inv C g β s a w){T U:TypeId}{op:BinOp}{x y:Operand}(ho:o.op= .binOp op T x y U){i j:Id}{v1 v2:Nat}(hx:s.ev x= .ptr i v1 [] 0)(hy:s.ev y= .ptr j v2 [] 0){v:aB}(he:(aQu P s T op i v1 j v2).eval=some v):
  fL P o a w (iB C (s.put o.dst v)):=by
 unfold aQu at he;split at he
 ·rename_i v' fr c ml;obtain⟨h1,h2⟩:=aC.1 he;simp only[au,dv,aW]at h1;obtain⟨⟨⟨rfl,rfl⟩,rfl⟩,aQC⟩:=h1;have cQ:=ee ml;have Z6:=h.ev x;have aNC:=h.ev y;rw[hx]at Z6;rw[hy]at aNC;obtain⟨ad,aRl,_,hc⟩:=vU Z6;obtain⟨ad',aRm,_,hc'⟩:=vU aNC;obtain⟨pl,hp,rfl⟩:=hc ⟨fr,c,cQ⟩;obtain⟨pl',hp',rfl⟩:=hc' ⟨fr,c,cQ⟩;rw[hp]at hp';obtain rfl:pl=pl':=by simpa using hp'
  have hT:∃t j,P.underlying T=some (.pointer t)/\P.info? t=some j:=by
   unfold aSi at aQC;split at aQC
   ·rename_i t ht;obtain⟨j,hj⟩:=bO.1 aQC;exact⟨t,j,ht,hj⟩
   ·cases aQC
  obtain⟨t,j,hT,hj⟩:=hT
  have hq:(Op.equal T (.pointer (some ⟨pl.b,0,none⟩)) (.pointer (some ⟨pl.b,0,none⟩))).run P w= .ok true w:=
   fu λd=>by simp[Op.equalIn,run_underlying hT,sizeOf,typeInfo,hj,run_sameAddr_same]
  have aWx:(eqGuard op T x y (a.eval x) (a.eval y)).run P w= .ok () w:=by rw[aRl,aRm];exact ow (by simp) rfl
  have fin:∀z,(binOp op T (a.eval x) (a.eval y)).run P w= .ok z w->VS (s.env w g β) v z->fL P o a w (iB C (s.put o.dst v)):=by
   intro z h1 h3;refine h.value h3 ?_
   simp[execOp,ho,h1,aWx]
  split at h2
  ·obtain rfl:=ay.1 h2;refine fin (.bool true) ?_ (wk true)
   rw[aRl,aRm];simp[binOp,hq]
  ·obtain rfl:=ay.1 h2;refine fin (.bool false) ?_ (wk false)
   rw[aRl,aRm];simp[binOp,hq]
  ·simp only[av]at h2
 ·simp only[av]at he
theorem aNe{c:Call}{b:Builtin}{x:Operand}(hc:c.callee= .builtin b)(ha:c.args.toList=[x]):c= {callee:= .builtin b,args:= #[x],argTypes:=c.argTypes}:=by
 obtain⟨cal,args,tys⟩:=c;simp only at hc ha;have ha':args= #[x]:=by apply gC;simpa using ha
 subst hc ha';rfl
theorem au4{c:Call}{b:Builtin}{x y:Operand}(hc:c.callee= .builtin b)(ha:c.args.toList=[x,y]):c= {callee:= .builtin b,args:= #[x,y],argTypes:=c.argTypes}:=by
 obtain⟨cal,args,tys⟩:=c;simp only at hc ha;have ha':args= #[x,y]:=by apply gC;simpa using ha
 subst hc ha';rfl
theorem aUY{ts:Array TypeId}{T:TypeId}(h:ts.toList=[T]):ts= #[T]:=by apply gC;simpa using h
theorem aQb{ts:Array TypeId}{T U:TypeId}(h:ts.toList=[T,U]):ts= #[T,U]:=by apply gC;simpa using h
theorem aDn(h:Inv C g β s a w){c:Call}{x:Operand}{T e:TypeId}(ho:o.op= .call c)(hc:c.callee= .builtin .cap)(ha:c.args.toList=[x])(ht:c.argTypes.toList=[T])(hx:s.ev x= .de)(hT:P.underlying T=some (.slice e)):
  fL P o a w (iB C (s.put o.dst (.d (.int .i64) (0:Int)))):=by
 rw[aNe hc ha,aUY ht]at ho;have hv:=h.ev x;rw[hx]at hv;have hy:=lN hv;refine jF ho (F:=λty xs=>Builtin.cap_ #[T] ty xs) (λty cs xs=>rfl) (x:= .int .i64 0) (w':=w) (λty=> ?_) ⟨g,β,h.put o.dst (l5 _ _)⟩;simp[Builtin.cap_,run_underlying hT,hy,goInt]
theorem apC(h:Inv C g β s a w){c:Call}{x:Operand}{id:Id}{ver len:Nat}(ho:o.op= .call c)(hc:c.callee= .builtin .unsafeSliceData)(ha:c.args.toList=[x])(hx:s.ev x= .bA id ver [] 0 0 len)(hl:0 < len):
  fL P o a w (iB C (s.put o.dst (.ptr id ver [.idx 0] 0))):=by
 rw[aNe hc ha]at ho;have hv:=h.ev x;rw[hx]at hv;obtain⟨ad,cap,hy,Qw,hs,hb,fB⟩:=sM hv;obtain⟨ad,rfl⟩:=bO.1 (hs hl);refine jF ho (F:=λty xs=>Builtin.unsafeSliceData_ c.argTypes ty xs) (λty cs xs=>rfl) (x:= .pointer (some ad)) (w':=w) (λty=> ?_) ⟨g,β,h.put o.dst ?_⟩
 ·rw[show(#[x].map a.eval)= #[a.eval x] by simp,hy];exact Go.Lib.run_unsafeSliceData_row w _ _ _ _ _ ak
 ·refine⟨[.pointer (some ad)],?_,rfl⟩;simp only[V];refine⟨ad,rfl,hb,λhc=> ?_⟩;have h1:=fB hc;cases hp:(s.env w g β).β id with
  |none=>rw[hp]at h1;simp only at h1;cases h1.1
  |some pl=>
   rw[hp]at h1;simp only at h1;exact⟨pl,rfl,by simpa using h1.1 (.inl hl)⟩
theorem anZ(h:Inv C g β s a w){c:Call}{mx:Bool}(ho:o.op= .call c)(hc:c.callee= .builtin (if mx then .max else .min)){v:aB}(he:(azv mx (c.args.toList.map s.ev)).eval=some v):fL P o a w (iB C (s.put o.dst v)):=by
 unfold azv at he;split at he
 ·rename_i k x k' y VG;obtain⟨h1,h2⟩:=aC.1 he;obtain rfl:=ay.1 h2;have h1:k=k':=by simpa using h1
  subst h1;have aE7:∃p q,c.args.toList=[p,q]/\s.ev p= .d (.int k) x/\s.ev q= .d (.int k) y:=by
   match hh:c.args.toList,VG with
   |[p,q],VG=>simp only[bQ,iq,dh]at VG;exact⟨p,q,rfl,VG.1,VG.2.1⟩
   |[],VG=>simp at VG
   |[_],VG=>simp at VG
   |_::_::_::_,VG=>simp at VG
  obtain⟨p,q,ha,hp,hq⟩:=aE7;rw[au4 hc ha]at ho;have aPg:=h.ev p;have aNB:=h.ev q;rw[hp]at aPg;rw[hq]at aNB;have ep:=vH aPg;have eq:=vH aNB;cases mx with
  |true=>
   refine jF ho (F:=λty xs=>Builtin.max_ c.argTypes ty xs) (λty cs xs=>rfl) (x:= .int k (if x < y then y else x)) (w':=w) (λty=> ?_) ⟨g,β,h.put o.dst (l5 _ _)⟩;rw[show(#[p,q].map a.eval)= #[a.eval p,a.eval q] by simp,ep,eq];simp[Builtin.max_,Builtin.max2]
  |false=>
   refine jF ho (F:=λty xs=>Builtin.min_ c.argTypes ty xs) (λty cs xs=>rfl) (x:= .int k (if y < x then y else x)) (w':=w) (λty=> ?_) ⟨g,β,h.put o.dst (l5 _ _)⟩;rw[show(#[p,q].map a.eval)= #[a.eval p,a.eval q] by simp,ep,eq];simp[Builtin.min_,Builtin.min2]
 ·rename_i k x k' y k2 z VG;obtain⟨h1,h2⟩:=aC.1 he;obtain rfl:=ay.1 h2;simp only[au,aW]at h1;obtain⟨rfl,rfl⟩:=h1;have aE7:∃p q r,c.args.toList=[p,q,r]/\s.ev p= .d (.int k) x/\s.ev q= .d (.int k) y/\s.ev r= .d (.int k) z:=by
   match hh:c.args.toList,VG with
   |[p,q,r],VG=>simp only[bQ,iq,dh]at VG;exact⟨p,q,r,rfl,VG.1,VG.2.1,VG.2.2.1⟩
   |[],VG=>simp at VG
   |[_],VG=>simp at VG
   |[_,_],VG=>simp at VG
   |_::_::_::_::_,VG=>simp at VG
  obtain⟨p,q,r,ha,hp,hq,hr⟩:=aE7;have aE9:c= {callee:= .builtin (if mx then .max else .min),args:= #[p,q,r],argTypes:=c.argTypes}:=by
   obtain⟨cal,args,tys⟩:=c;simp only at hc ha;have ha':args= #[p,q,r]:=by apply gC;simpa using ha
   subst hc ha';rfl
  rw[aE9]at ho;have aPg:=h.ev p;have aNB:=h.ev q;have aqs:=h.ev r;rw[hp]at aPg;rw[hq]at aNB;rw[hr]at aqs;have ep:=vH aPg;have eq:=vH aNB;have er:=vH aqs;cases mx with
  |true=>
   refine jF ho (F:=λty xs=>Builtin.max_ c.argTypes ty xs) (λty cs xs=>rfl) (x:= .int k (if(if x < y then y else x) < z then z else(if x < y then y else x))) (w':=w) (λty=> ?_) ⟨g,β,h.put o.dst (l5 _ _)⟩;rw[show(#[p,q,r].map a.eval)= #[a.eval p,a.eval q,a.eval r] by simp,ep,eq,er];simp[Builtin.max_,Builtin.max2]
  |false=>
   refine jF ho (F:=λty xs=>Builtin.min_ c.argTypes ty xs) (λty cs xs=>rfl) (x:= .int k (if z < (if y < x then y else x) then z else(if y < x then y else x))) (w':=w) (λty=> ?_) ⟨g,β,h.put o.dst (l5 _ _)⟩;rw[show(#[p,q,r].map a.eval)= #[a.eval p,a.eval q,a.eval r] by simp,ep,eq,er];simp[Builtin.min_,Builtin.min2]
 ·simp only[av]at he
theorem adJ(z:Array Value)(n:Nat):Builtin.zeroCells z n=madeCells z (n*z.size):=rfl
theorem ayL(h:Inv C g β s a w){c:Call}{x y:Operand}{T X:TypeId}{k:IntKind}{n:Int}(ho:o.op= .call c)(hc:c.callee= .builtin .append)(ha:c.args.toList=[x,y])(ht:c.argTypes.toList=[T,X])(hx:s.ev x= .de)(hy:s.ev y= .d (.int k) n){s':AS}
  (he:(anb P s o.dst T X n).eval=some s'):fL P o a w (iB C s'):=by
 rw[au4 hc ha,aQb ht]at ho;have Z6:=h.ev x;have aNC:=h.ev y;rw[hx]at Z6;rw[hy]at aNC;have ex:=lN Z6;have ey:=vH aNC;unfold anb at he;split at he
 ·rename_i e t b q kn Lg hd hX;obtain⟨hT,hz,i,zv,hi,ayT,aO2,aqu,ayY⟩:=C6 Lg;obtain⟨hq,h2⟩:=aC.1 he;obtain⟨h3,h4⟩:=bS.1 h2;obtain rfl:=ay.1 h4;simp only[au,aW,db]at h3;obtain⟨h5,h7,h8⟩:=h3;obtain⟨m,rfl⟩:=Int.eq_ofNat_of_zero_le (Int.le_of_lt h5);simp only[aa]at h7 h8 ⊢;have aQJ:zv.cells.size=t.size:=by have:=(ayY (s.env w g β)).size;simpa using this
  have hr:=λty=>Go.Lib.run_append_nil_zeros (P:=P) w T X ty e i zv k kn hT hX hi aqu m ak (by rw[ayT];exact hz) ak (by rw[aO2];omega)
  obtain⟨cap,Qw⟩:∃cap,grownCap w m 0 e=cap:=⟨_,rfl⟩;have c1:m<=cap:=by rw[<-Qw];exact grownCap_ge _ _ _ _
  have c2:cap<=maxLen:=by rw[<-Qw];exact grownCap_le_maxLen _ _ _ _ (by unfold maxLen;omega)
  rw[Qw]at hr;obtain⟨cur,fB⟩:∃cur,Builtin.zeroCells zv.cells m++Builtin.zeroCells zv.cells (cap - m)=cur:=⟨_,rfl⟩;rw[fB]at hr;have s1:cur.size=cap*t.size:=by rw[<-fB,Array.size_append,BV,BV,aQJ,<-eE];congr 1;omega
  have C8:=uY (ayY (s.env w.drew g β)) m;have s2:cur.toList.take (m*t.size)=(madeCells zv.cells (m*t.size)).toList:=by
   rw[<-fB,bX,adJ,aQJ];have hl:(madeCells zv.cells (m*t.size)).toList.length=m*t.size:=by simp[size_madeCells]
   rw[fk ak,aY ak]
  obtain⟨g2,β2,i2,VE⟩:=(h.drew).ajA hq (e:=e) (l:=ab m t.zero) (cur:=cur) (cap:=cap) hz (by rw[cg,s2];exact C8) s1 (by rw[cg];exact c1) c2;rw[cg]at VE;refine jF ho (F:=λty xs=>Builtin.append_ #[T,X] ty xs) (λty cs xs=>rfl) (λty=> ?_) ⟨g2,β2,i2.put o.dst VE⟩;rw[show(#[x,y].map a.eval)= #[a.eval x,a.eval y] by simp,ex,ey];exact hr ty
 ·simp only[av]at he
theorem ag4:∀(xs:List Int) (a:Addr) (acc:ByteArray),(∀j x,xs[j]? =some x->w.cell? (a.add j)=some (.int .u8 x))->
  (loadBytes a acc xs.length).run P w= .ok ⟨acc.data++(xs.map λn=>fm n.toNat).toArray⟩ w
 |[],a,acc,_=>by simp[loadBytes]
 |x::l,a,acc,h=>by
  have h0:w.cell? a=some (.int .u8 x):=by have:=h 0 x rfl;simpa[Addr.add]using this
  have ih:=ag4 l (a.add 1) (acc.push x.toNat.toUInt8) (λj y hy=>by
   have:=h (j+1) y (by simpa using hy);have e:(a.add 1).add j=a.add (j+1):=by
    unfold Addr.add;by_cases hj:j=0
    ·subst hj;simp
    ·simp[hj];omega
   rw[e];exact this)
  simp only[aA,loadBytes,Sem.run_bind,run_load,h0,Result.andThen];rw[ih];congr 1;apply ByteArray.ext;simp[ByteArray.push]
theorem aBs(h:Inv C g β s a w){c:Call}{x y:Operand}{T U:TypeId}{id:Id}{ver:Nat}{n:Int}(ho:o.op= .call c)(hc:c.callee= .builtin .unsafeString)(ha:c.args.toList=[x,y])(ht:c.argTypes.toList=[T,U])
  (hx:s.ev x= .ptr id ver [.idx 0] 0) (hy:s.ev y= .d (.int .i64) n) {s':AS} (he:(apS P s o.dst T id ver n).eval=some s'):fL P o a w (iB C s'):=by
 rw[au4 hc ha,aQb ht]at ho;have Z6:=h.ev x;rw[hx]at Z6;obtain⟨ad,aRl,_,aWo⟩:=vU Z6;have aNC:=h.ev y;rw[hy]at aNC;have aRm:=vH aNC;unfold apS at he;split at he
 ·rename_i v e l u ml hT;obtain⟨h1,h2⟩:=aC.1 he;obtain⟨h3,h4⟩:=bS.1 h2;obtain rfl:=ay.1 h4;simp only[au,dv]at h1;obtain⟨⟨rfl,rfl⟩,aOV⟩:=h1;simp only[aW]at h3;obtain⟨h5,h6⟩:=h3;obtain⟨n,rfl⟩:=Int.eq_ofNat_of_zero_le (Int.le_of_lt h5);have h6:n<=(l:List Int).length:=ak;have cQ:=ee ml;obtain⟨pl,hp,rfl⟩:=aWo ⟨false,_,cQ⟩;have hp:β id=some pl:=hp;have hO:xk (s.env w g β) id false (.vec u (.int .u8) l):=h.bJ id v false _ cQ;obtain⟨hz,hO⟩:=hO;have hO:(match β id with
   |none=>l=[]
   |some pl=>∃cur k,w.heap[pl.b]? =some (.cells cur u (0,0))/\cur.size=pl.cap*(Ty.int .u8).size/\(l:List Int).length<=pl.cap/\pl.cap<=maxLen/\g pl.b= .own (.id id) k/\
     k<=(l:List Int).length*(Ty.int .u8).size/\(false=false->k=0)/\bD (df (s.env w g β) (.int .u8)) (cur.toList.take ((l:List Int).length*(Ty.int .u8).size)) l):=hO
  rw[hp]at hO;obtain⟨cur,k,q1,q2,q3,q4,q5,q6,q7,q8⟩:=hO;have hk:=q7 rfl;subst hk;have aO8:(Ty.int .u8).size=1:=rfl;rw[aO8,gT]at q2 q8;have VF:=xq q8;have avO:w.shape? pl.b=some (u,cur.size):=by simp only[World.shape?,q1]
  have Ed:∀j z,((l:List Int).take n)[j]? =some z->w.cell? ((⟨pl.b,0,none⟩:Addr).add j)=some (.int .u8 z):=λj z hj=>by
   rw[di]at hj;split at hj
   ·rename_i aVB;have aO4:j < (l:List Int).length:=ak;rw[Addr.add_lit,aO];simp only[World.cell?,q1];have:(cur.toList.take (l:List Int).length)[j]? =some (.int .u8 z):=by rw[VF,eh,hj];rfl
    rw[di,if_pos aO4]at this;simpa using this
   ·cases hj
  have hlen:((l:List Int).take n).length=n:=by rw[bp];omega
  have aJy:=ag4 (P:=P) (w:=w) ((l:List Int).take n) ⟨pl.b,0,none⟩ .empty Ed;rw[hlen]at aJy;have aRK:=Go.Lib.liesAt_bytes (P:=P) (e:=u) (by simpa using aOV) (cur.size / P.cellsOf u) n (by
   rw[show P.cellsOf u=1 by simpa using aOV,Nat.div_one];omega)
  have aRB:∃w',w.freeze ⟨pl.b,0,none⟩ n=w'/\w'.os=w.os/\w'.tape=w.tape/\(w'.output=w.output/\w.drawn<=w'.drawn)/\w'.heap.size=w.heap.size/\∀b',b'≠pl.b->w'.heap[b']? =w.heap[b']? :=by refine⟨_,rfl,?_⟩;unfold World.freeze;rw[if_neg ak];refine⟨rfl,rfl,⟨rfl,ax _⟩,by simp,λb' hb'=> ?_⟩;simp only[gH];rw[if_neg (λe=>hb' e.symm)]
  obtain⟨w',hw',f1,f2,f3,f4,f5⟩:=aRB;have i1:=h.kill cQ q5 f1 f2 f3 f4 f5;have aVn:¬(9223372036854775807:Int) < (n:Int):=by unfold maxLen at q4;omega
  have aT1:¬(n:Int) < 0:=ak;have aLb:n≠0:=ak;have aTX:IntKind.i64.max=9223372036854775807:=rfl;refine jF ho (F:=λty xs=>Builtin.unsafeString_ #[T,U] ty xs) (λty cs xs=>rfl) (x:= .string (fy ((l:List Int).take n))) (w':=w') (λty=> ?_) ⟨_,β,i1.put o.dst ⟨[.string (fy ((l:List Int).take n))],by simp only[V,df];rfl,rfl⟩⟩;rw[show(#[x,y].map a.eval)= #[a.eval x,a.eval y] by simp,aRl,aRm]
  have aOW:Builtin.unsafeString_ #[T,U] ty #[.pointer (some ⟨pl.b,0,none⟩),.int .i64 n]=
    (do
     let n <-Go.asInt (.int .i64 n)
     if n < 0 then runtimePanic (.error "unsafe.String: len out of range")
     if n > IntKind.i64.max then unsupported (.unsafePointer "String: a length above the largest int")
     if n=0 then pure (.string .empty)
     else if <-variablesAt ⟨pl.b,0,none⟩ (<-elemOf T) n.toNat then do
      let s <-loadBytes ⟨pl.b,0,none⟩ .empty n.toNat
      freeze ⟨pl.b,0,none⟩ n.toNat
      pure (.string s)
     else unsupported (.unsafePointer "String: not so many bytes at ptr")):=rfl
  rw[aOW];simp[Go.asInt,asIntOf,aTX,aVn,aT1,aLb,variablesAt,avO,elemOf,run_underlying hT,aRK,aJy,hw',fy]
 ·simp only[av]at he
end
end Go.Ab
namespace Go.Ab
section
variable {P:Program} {C:Ctx} {g:Nat->mz} {β:Id->Option Pl} {s:AS} {a:Act} {w:World} {o:Oper}
theorem anW(h:Inv C g β s a w){c:Call}{T T2:TypeId}{m k:Operand}(dm:o.op= .call c)(hc:c.callee= .builtin .delete)(ha:c.args.toList=[m,k])(ht:c.argTypes.toList=[T,T2]){s':AS}(he:(FX P s T (s.ev m) (s.ev k)).eval=some s'):fL P o a w (iB C (s'.put o.dst .nil)):=by
 have dm:o.op= .call {callee:= .builtin .delete,args:= #[m,k],argTypes:= #[T,T2]}:=by rw[dm,au4 hc ha,aQb ht]
 unfold FX at he;split at he
 ·rename_i K V' kt vt id ver hm hx;obtain⟨l,h1,he⟩:=aw.1 he;obtain⟨kx,h2,he⟩:=aw.1 he;obtain⟨aPd,he⟩:=aC.1 he;obtain rfl:=ay.1 he;obtain⟨hT,hK,_⟩:=Cu hm;have Z6:=h.ev m;rw[hx]at Z6;obtain⟨fr,pl,es,clock,g1,g2,g3,g4,g5,g6,g7,gn⟩:=zF h h1 Z6;obtain⟨l0,g6,gp⟩:=g6;have Ma:=AZ depth K kt hK;have hk:=Gj (h.ev k) h2;have aNq:=pa (P:=P) (w:=w) es.isEmpty depth K kt hK 10000 (by decide) _ _ hk;obtain⟨r,hf,hr⟩:=NS (P:=P) (w:=w) hK hk g6
  have fin:∀(es':Array MapEntry) (clock':Nat),(∀ty,(Builtin.delete_ #[T,T2] ty (#[m,k].map a.eval)).run P w= .ok (.tuple #[]) {w with heap:=w.heap.setIfInBounds pl.b (.map es' clock')})->Alike (EX (s.env w g β) kt vt) es'.toList (gY kt kx l0)->oQ es'.toList clock'->
    fL P o a w (iB C ((s.bl id (.obj ver false (.mp kt vt (gY kt kx l)))).put o.dst .nil)):=λes' clock' gG aE7 aRo=>
   jF (F:=λty xs=>Builtin.delete_ #[T,T2] ty xs) dm (λ_ _ _=>rfl) gG ⟨g,β,(h.aHY g1 g2 g4 g5 ⟨_,aE7,aaL Ma gn gp⟩ (Cv Ma gn) aRo aPd).put o.dst rfl⟩
  cases r with
  |none=>
   simp only at hr;refine fin es clock (λty=> ?_) (by simp only[gY,hr];exact g6) g7;simp[Builtin.delete_,run_underlying hT,g3,Go.MapKept.run_getObj_map g4,aNq,hf,Go.MapKept.run_setObj_map _ g4]
  |some u=>
   obtain⟨j,u⟩:=u;obtain⟨e,m1,m2,rfl⟩:=hr;refine fin (es.eraseIdxIfInBounds j) clock (λty=> ?_) ?_ (by rw[Array.toList_eraseIdxIfInBounds];exact g7.erase j)
   ·simp[Builtin.delete_,run_underlying hT,g3,Go.MapKept.run_getObj_map g4,aNq,hf,Go.MapKept.run_setObj_map _ g4]
   ·simp only[gY,m1,Array.toList_eraseIdxIfInBounds];exact g6.erase j
 ·simp only[av]at he
theorem alx{Γ:oR}(hΓ:Sound P Γ){bJ:List Nat}(h:Inv C g β s a w){s':AS}(he:(rh P Γ bJ o s).eval=some s'):fL P o a w (iB C s'):=by
 unfold rh at he;split at he
 ·rename_i x dm;obtain rfl:=ay.1 he;exact agr h (.inl dm)
 ·rename_i x dm;obtain rfl:=ay.1 he;exact agr h (.inr dm)
 ·rename_i c x y dm;obtain⟨v,h1,h2⟩:=aw.1 he;obtain rfl:=ay.1 h2;exact azZ h dm h1
 ·rename_i T dm;split at he
  ·rename_i z q hz hq;obtain⟨h1,h2⟩:=aC.1 he;obtain rfl:=ay.1 h2;simp only[au]at h1;exact aqH h dm h1.1 h1.2
  ·exact(av.1 he).elim
 ·rename_i T x dm;exact aDa h dm he
 ·rename_i T parts dm;exact arb h dm he
 ·rename_i T n parts dm;exact W6 h dm he
 ·rename_i T x dm;obtain⟨v,h1,h2⟩:=aw.1 he;obtain rfl:=ay.1 h2;exact azi h dm h1
 ·rename_i T x v dm;obtain⟨v,h1,h2⟩:=aw.1 he;obtain rfl:=ay.1 h2;exact auj h dm h1
 ·rename_i x dm;exact aei h dm he
 ·rename_i op T x y U dm;split at he
  ·rename_i i v1 j v2 hx hy;obtain⟨v,h1,h2⟩:=aw.1 he;obtain rfl:=ay.1 h2;exact aEG h dm hx hy h1
  ·obtain⟨v,h1,h2⟩:=aw.1 he;obtain rfl:=ay.1 h2;exact aqT h dm h1
 ·rename_i op T x dm;obtain⟨v,h1,h2⟩:=aw.1 he;obtain rfl:=ay.1 h2;exact aBP h dm h1
 ·rename_i T U x dm;split at he
  ·rename_i id ver len hTU hx;exact arB h dm hx he
  ·rename_i id ver hx;obtain⟨v,h1,h2⟩:=aw.1 he;obtain rfl:=ay.1 h2;exact arC h dm hx h1
  ·obtain⟨v,h1,h2⟩:=aw.1 he;obtain rfl:=ay.1 h2;exact aii h dm h1
 ·rename_i T x dm;exact aus h dm he
 ·rename_i f first caps dm
  obtain⟨h1,h2⟩:=aC.1 he;obtain rfl:=ay.1 h2;simp only[au]at h1;exact aeb h dm h1.1 h1.2
 ·rename_i T l c dm;obtain⟨n,h1,h2⟩:=aw.1 he;obtain⟨m,h3,h4⟩:=aw.1 h2;exact aaF h dm h1 h3 h4
 ·rename_i T x lo hi dm;obtain⟨v,h1,h2⟩:=aw.1 he;obtain rfl:=ay.1 h2;exact acF h dm (.inl rfl) h1
 ·rename_i T x lo y m dm;obtain⟨v',h0,h8⟩:=aw.1 he;obtain rfl:=ay.1 h8;obtain⟨hv,h1,h2⟩:=aw.1 h0;obtain⟨mv,h3,h4⟩:=aw.1 h2;obtain⟨h5,h6⟩:=bS.1 h4;obtain⟨v,h7,h9⟩:=aw.1 h6;obtain rfl:=ay.1 h9;simp only[aW]at h5;exact acF h dm (.inr ⟨m,y,hv,mv,rfl,rfl,h1,h3,h5.1,h5.2.1,h5.2.2⟩) h7
 ·rename_i T x f dm;obtain⟨v,h1,h2⟩:=aw.1 he;obtain rfl:=ay.1 h2;exact ZQ h dm h1
 ·rename_i T x f dm;obtain⟨v,h1,h2⟩:=aw.1 he;obtain rfl:=ay.1 h2;exact arR h dm h1
 ·rename_i T x i dm;obtain⟨n,h0,he⟩:=aw.1 he;obtain⟨v,h1,h2⟩:=aw.1 he;obtain rfl:=ay.1 h2;exact aaa h dm h0 h1
 ·rename_i T x i dm;obtain⟨n,h0,he⟩:=aw.1 he;obtain⟨v,h1,h2⟩:=aw.1 he;obtain rfl:=ay.1 h2;exact asg h dm h0 h1
 ·rename_i x i dm;obtain⟨v,h1,h2⟩:=aw.1 he;obtain rfl:=ay.1 h2;exact aiH h dm h1
 ·rename_i T dm;exact ajv h dm he
 ·rename_i T x i ok dm;obtain⟨v,h1,h2⟩:=aw.1 he;obtain rfl:=ay.1 h2;exact anR h dm h1
 ·rename_i T m k x dm;obtain⟨s1,h1,h2⟩:=aw.1 he;obtain rfl:=ay.1 h2;exact anY h dm h1
 ·rename_i c dm;split at he
  ·rename_i hc;split at he
   ·rename_i m k T T2 ha ht;obtain⟨s1,h1,h2⟩:=aw.1 he;obtain rfl:=ay.1 h2;exact anW h dm hc ha ht h1
   ·exact(av.1 he).elim
  ·rename_i hc;split at he
   ·rename_i x y T X ha ht;exact ax7 h dm hc ha ht he
   ·exact(av.1 he).elim
  ·rename_i hc;split at he
   ·rename_i x T ha ht;obtain⟨v,h1,h2⟩:=aw.1 he;obtain rfl:=ay.1 h2;exact aFW h dm hc ha ht h1
   ·exact(av.1 he).elim
  ·rename_i hc;split at he
   ·rename_i x y T X ha ht;split at he
    ·rename_i k n hx hy;exact ayL h dm hc ha ht hx hy he
    ·exact alA h dm hc ha ht he
   ·exact(av.1 he).elim
  ·rename_i hc;split at he
   ·rename_i x T ha ht;split at he
    ·rename_i e hx hT;obtain rfl:=ay.1 he;exact aDn h dm hc ha ht hx hT
    ·exact(av.1 he).elim
   ·exact(av.1 he).elim
  ·rename_i hc;obtain⟨v,h1,h2⟩:=aw.1 he;obtain rfl:=ay.1 h2;exact anZ (mx:=true) h dm hc h1
  ·rename_i hc;obtain⟨v,h1,h2⟩:=aw.1 he;obtain rfl:=ay.1 h2;exact anZ (mx:=false) h dm hc h1
  ·rename_i hc;split at he
   ·rename_i x ha;split at he
    ·rename_i id ver len hx;obtain⟨h1,h2⟩:=bS.1 he;obtain rfl:=ay.1 h2;exact apC h dm hc ha hx (by simpa using h1)
    ·exact(av.1 he).elim
   ·exact(av.1 he).elim
  ·rename_i hc;split at he
   ·rename_i x y T U ha ht;split at he
    ·rename_i id ver n hx hy;exact aBs h dm hc ha ht hx hy he
    ·exact(av.1 he).elim
   ·exact(av.1 he).elim
  ·rename_i F hc;split at he
   ·rename_i f caps hF;split at he
    ·rename_i en ar3;obtain⟨gQ,he⟩:=aC.1 he;exact axM h dm hc hF ((hΓ f _ en ar3).1 gQ) he
    ·exact(av.1 he).elim
   ·exact(av.1 he).elim
  ·exact(av.1 he).elim
 ·exact(av.1 he).elim
end
end Go.Ab
namespace Go.Ab
def rz(P:Program)(ops:Array Oper)(o:Oper)(a:Act)(w:World)(K:Act->World->Prop):Prop:=if Region.wanted o (yielded ops a.tmps) then fL P o a w K else K (a.put o.dst undef) w
theorem rz.mono{P:Program}{ops:Array Oper}{o:Oper}{a:Act}{w:World}{K K':Act->World->Prop}(h:rz P ops o a w K)(hk:∀a w,K a w->K' a w):rz P ops o a w K':=by
 unfold rz at*;split
 ·rename_i hw;rw[if_pos hw]at h;exact h.mono hk
 ·rename_i hw;rw[if_neg hw]at h;exact hk _ _ h
theorem fL.some{P:Program}{o:Oper}{a:Act}{w:World}{K:Act->World->Prop}(h:fL P o a w K):∃a' w',K a' w':=by
 rcases h with⟨x,w',_,h⟩ | ⟨w',_,h⟩ | ⟨f,args,w',_,h⟩ | ⟨l,f,tmps,as,b,w',_,h⟩
 ·exact⟨_,_,h⟩
 ·exact⟨_,_,h⟩
 ·obtain⟨e,w'',_,⟨x,_,hx⟩,_⟩:=h [];exact⟨_,_,hx⟩
 ·obtain⟨e,w'',⟨x,_,hx⟩,_⟩:=(h none 0).2 default [] (room_wide _);exact⟨_,_,hx⟩
theorem rz.some{P:Program}{ops:Array Oper}{o:Oper}{a:Act}{w:World}{K:Act->World->Prop}(h:rz P ops o a w K):∃a' w',K a' w':=by
 unfold rz at h;split at h
 ·exact h.some
 ·exact⟨_,_,h⟩
theorem rz.wpListIn{r:Option Nat}{n:Nat}{P:Program}{ops:Array Oper}{o:Oper}{a:Act}{w:World}{Q:Exit->Act->World->Prop}{l:List Oper}(h:rz P ops o a w (wpListIn (Fr r) n P ops Q l)):Go.wpListIn (Fr r) n P ops Q (o::l) a w:=by
 unfold rz at h;unfold Go.wpListIn;split
 ·rename_i hw;rw[if_pos hw]at h;exact h.wpIn
 ·rename_i hw;rw[if_neg hw]at h;exact⟨λ_ _=>trivial,h⟩
theorem rz.wpOpIn{r:Option Nat}{n:Nat}{P:Program}{ops:Array Oper}{o:Oper}{i:Nat}{a:Act}{w:World}{Q:Exit->Act->World->Prop}{K:Act->World->Prop}(ho:ops[i]? =Option.some o)(h:rz P ops o a w K):Go.wpOpIn (Fr r) n P ops Q i K a w:=by
 unfold rz at h;unfold Go.wpOpIn;simp only[ho];split
 ·rename_i hw;rw[if_pos hw]at h;exact h.wpIn
 ·rename_i hw;rw[if_neg hw]at h;exact⟨λ_ _=>trivial,h⟩
theorem aG2{s:AS}{q:Nat}{v:aB}(h:s.slot q=v)(hq:q < s.ct.length):s.put (some q) v=s:=by
 have hv:s.ct[q]=v:=by simpa[AS.slot,aH,hq]using h
 simp only[AS.put];rw[<-hv,gI]
theorem awE{s:AS}{q:Nat}{t:Ty}{x:t.den}(h:s.slot q= .d t x):q < s.ct.length:=by
 rcases qk q s.ct.length with h' | h'
 ·exact h'
 ·simp[AS.slot,aH,dG h']at h
def Ld(P:Program)(Γ:oR)(bJ:List Nat)(ops:Array Oper)(o:Oper)(s:AS):Option AS:=
 match o.guard with
 |none=>(rh P Γ bJ o s).eval
 |some (j,want)=>match(ops[j]?).bind (·.dst) with
  |some q=>match s.slot q with
   | .d .bool b=>if b=want then(rh P Γ bJ o s).eval else some (s.put o.dst .nil)
   | .nil=>some (s.put o.dst .nil)
   |_=>none
  |none=>none
theorem ana{R:Type}{P:Program}{Γ:oR}{bJ:List Nat}{ops:Array Oper}{o:Oper}{s:AS}{k:AS->Option R}{r:R}(h:aK2 P Γ bJ ops o s k=some r):∃s',Ld P Γ bJ ops o s=some s'/\k s'=some r:=by
 unfold aK2 at h;unfold Ld;split at h
 ·rename_i hg;simp only[hg];exact iy.1 h
 ·rename_i j want hg;simp only[hg];split at h
  ·rename_i q hq;simp only[hq];split at h
   ·rename_i b hb;have e:=aG2 hb (awE hb);simp only[hb];cases want <;> cases b <;> simp only[aJ]at h <;> rw[e]at h
    ·obtain⟨s',h1,h2⟩:=iy.1 h;exact⟨s',by simpa using h1,h2⟩
    ·exact⟨_,by simp,h⟩
    ·exact⟨_,by simp,h⟩
    ·obtain⟨s',h1,h2⟩:=iy.1 h;exact⟨s',by simpa using h1,h2⟩
   ·rename_i hb;simp only[hb];exact⟨_,rfl,h⟩
   ·cases h
  ·cases h
section
variable {P:Program} {C:Ctx} {g:Nat->mz} {β:Id->Option Pl} {s:AS} {a:Act} {w:World} {o:Oper}
theorem auW(h:Inv C g β s a w){ops:Array Oper}{j q:Nat}{b:Bool}(hq:(ops[j]?).bind (·.dst)=some q)(hb:s.slot q= .d .bool b):yielded ops a.tmps j=some b:=by
 have hv:=h.ct q;rw[hb]at hv;have hv:=XN hv;have hl:=awE hb;rw[<-h.size]at hl;unfold yielded;rw[hq,Option.bind_some];have:a.tmps[q]? =some (.bool b):=by rw[fp hl];simpa[Array.getD,hl]using hv
 rw[this]
theorem aqn(h:Inv C g β s a w){ops:Array Oper}{j q:Nat}(hq:(ops[j]?).bind (·.dst)=some q)(hb:s.slot q= .nil):yielded ops a.tmps j=none:=by
 have hv:=h.ct q;rw[hb]at hv;have hv:a.tmps.getD q undef= .tuple #[]:=hv;unfold yielded;rw[hq,Option.bind_some];split
 ·rename_i b hb;rw[cI,hb]at hv;cases hv
 ·rfl
theorem af5{Γ:oR}(hΓ:Sound P Γ){bJ:List Nat}{ops:Array Oper}(h:iB C s a w){s':AS}(he:Ld P Γ bJ ops o s=some s'):rz P ops o a w (iB C s'):=by
 obtain⟨g,β,h⟩:=h;unfold Ld at he;unfold rz;split at he
 ·rename_i hg;have:Region.wanted o (yielded ops a.tmps)=true:=by simp[Region.wanted,hg]
  rw[if_pos this];exact alx hΓ h he
 ·rename_i j want hg;split at he
  ·rename_i q hq;split at he
   ·rename_i b hb;have hy:=auW h hq hb;have hw:Region.wanted o (yielded ops a.tmps)=(b==want):=by simp[Region.wanted,hg,hy]
    rw[hw];by_cases e:b=want
    ·rw[if_pos e]at he;rw[if_pos (by simp[e])];exact alx hΓ h he
    ·rw[if_neg e]at he;rw[if_neg (by simp[e])];simp only[az]at he;subst he;exact⟨g,β,h.put o.dst rfl⟩
   ·rename_i hb;have hy:=aqn h hq hb;have hw:Region.wanted o (yielded ops a.tmps)=false:=by simp[Region.wanted,hg,hy]
    rw[hw,if_neg (by simp)];simp only[az]at he;subst he;exact⟨g,β,h.put o.dst rfl⟩
   ·cases he
  ·cases he
theorem aA4{R:Type}{c c':vB}{x:Option R}{r:R}(h:same c c' x=some r):c=c'/\x=some r:=by
 unfold same at h;split at h
 ·exact⟨‹_›,h⟩
 ·cases h
theorem awc{R:Type}{x y:Option R}{r:R}(h:nd x y=some r):x=some r/\y=some r:=by
 unfold nd at h;split at h
 ·rename_i e;exact⟨h,e▸h⟩
 ·cases h
theorem asL(h:Inv C g β s a w){x y:Operand}{n:Nat}(hn:abe s x y=some n){T:TypeId}(hT:BY.isSl P T=true):∃b,(0 < n->b=false)/\(Op.equal T (a.eval x) (a.eval y)).run P w= .ok b w/\
  te (a.eval x)=false/\a.eval x≠ .nilIface/\∀op,binOp op T (a.eval x) (a.eval y)=(match op with | .eql=>do pure (.bool (<-Op.equal T (a.eval x) (a.eval y))) | .neq=>do pure (.bool (!(<-Op.equal T (a.eval x) (a.eval y)))) | _=>binOp op T (a.eval x) (a.eval y)):=by
 have hx:=h.ev x;have hy:=h.ev y;unfold BY.isSl at hT;split at hT <;> try (cases hT;done)
 rename_i e hU;unfold abe at hn;split at hn
 ·rename_i t l h1 h2;rw[h1]at hx;rw[h2]at hy;obtain⟨ad,cap,vs,hv,_,hs,_⟩:=u6 hx;have VE:=lN hy;rw[hv,VE];refine⟨ad.isNone,λhp=> ?_,?_,rfl,by simp,λop=>by cases op <;> rfl⟩
  ·obtain rfl:=bf hn;obtain⟨ad',rfl⟩:=bO.1 (hs hp);rfl
  ·cases ad with
   |none=>exact fu λd=>by simp[Op.equalIn,run_underlying hU]
   |some ad=>exact fu λd=>by simp[Op.equalIn,run_underlying hU]
 ·rename_i t l h1 h2;rw[h1]at hx;rw[h2]at hy;obtain⟨ad,cap,vs,hv,_,hs,_⟩:=u6 hy;have VE:=lN hx;rw[hv,VE];refine⟨ad.isNone,λhp=> ?_,?_,rfl,by simp,λop=>by cases op <;> rfl⟩
  ·obtain rfl:=bf hn;obtain⟨ad',rfl⟩:=bO.1 (hs hp);rfl
  ·exact fu λd=>by simp[Op.equalIn,run_underlying hU]
 ·rename_i id ver pp c i len h1 h2;rw[h1]at hx;rw[h2]at hy;obtain⟨ad,cap,hv,_,hs,_⟩:=sM hx;have VE:=lN hy;rw[hv,VE];refine⟨ad.isNone,λhp=> ?_,?_,rfl,by simp,λop=>by cases op <;> rfl⟩
  ·obtain rfl:=bf hn;obtain⟨ad',rfl⟩:=bO.1 (hs hp);rfl
  ·cases ad with
   |none=>exact fu λd=>by simp[Op.equalIn,run_underlying hU]
   |some ad=>exact fu λd=>by simp[Op.equalIn,run_underlying hU]
 ·rename_i id ver pp c i len h1 h2;rw[h1]at hx;rw[h2]at hy;obtain⟨ad,cap,hv,_,hs,_⟩:=sM hy;have VE:=lN hx;rw[hv,VE];refine⟨ad.isNone,λhp=> ?_,?_,rfl,by simp,λop=>by cases op <;> rfl⟩
  ·obtain rfl:=bf hn;obtain⟨ad',rfl⟩:=bO.1 (hs hp);rfl
  ·exact fu λd=>by simp[Op.equalIn,run_underlying hU]
 ·cases hn
theorem Q5(h:Inv C g β s a w){x y:Operand}{n:Nat}{T U:TypeId}(hn:abe s x y=some n)(hT:BY.isSl P T=true):
  (o.op= .binOp .eql T x y U->∃b,(0 < n->b=false)/\fL P o a w (iB C (s.put o.dst (.d .bool b))))/\(o.op= .binOp .neq T x y U->∃b,(0 < n->b=true)/\fL P o a w (iB C (s.put o.dst (.d .bool b)))):=by
 obtain⟨b,h1,h2,h3,h4,h5⟩:=asL (w:=w) h hn hT;have hg:∀op,(eqGuard op T x y (a.eval x) (a.eval y)).run P w= .ok () w:=λop=>ow h4 h3
 refine⟨λho=>⟨b,h1,h.value (wk b) ?_⟩,λho=>⟨!b,λhp=>by rw[h1 hp];rfl,h.value (wk (!b)) ?_⟩⟩
 ·have h6:(binOp .eql T (a.eval x) (a.eval y)).run P w= .ok (.bool b) w:=by rw[h5 .eql];simp[h2]
  simp[execOp,ho,hg,h6]
 ·have h6:(binOp .neq T (a.eval x) (a.eval y)).run P w= .ok (.bool (!b)) w:=by rw[h5 .neq];simp[h2]
  simp[execOp,ho,hg,h6]
theorem RN{R:Type}{c:Bool}{x y:Option R}{r:R}(h:aJ c x y=some r):(c=true/\x=some r)\/(c=false/\y=some r):=by
 cases c
 ·exact .inr ⟨rfl,h⟩
 ·exact .inl ⟨rfl,h⟩
theorem aEv{R:Type}{n:Nat}{k:Nat->Option R}{r:R}(h:aEt n k=some r):0 < n/\∀j,j < n->k j=some r:=by
 unfold aEt at h;split at h
 ·rename_i hx;obtain rfl:=bf h;exact hx.choose_spec
 ·cases h
theorem aEu{R:Type}{n:Nat}{k:Nat->Option R}{x:Option R}(hn:0 < n)(h:∀j,j < n->k j=x):aEt n k=x:=by
 unfold aEt;cases x with
 |none=>exact Cg λ⟨r,_,hr⟩=>by have:=h 0 hn;rw[hr 0 hn]at this;cases this
 |some r=>
  have hx:∃r,0 < n/\∀j,j < n->k j=some r:=⟨r,hn,h⟩;rw[ze hx];have:=hx.choose_spec.2 0 hn;rw[h 0 hn]at this;exact this.symm
theorem ae6{s:AS}{id:Id}{e:dE}{q:Nat}(hq:s.dY q=true)(gF:s.bW id≠none):(s.bl id e).dY q=true:=by
 cases id with
 |bm k=>exact hq
 |new i j=>
  by_cases hi:i=q
  ·subst hi;exact absurd ((kJ hq).1 j) gF
  ·unfold AS.dY AS.bl;simp only[ea hi];exact hq
theorem Alike.len{α β:Type}{R:α->β->Prop}:∀ {xs:List α} {ys:List β},Alike R xs ys->xs.length=ys.length
 |[],[],_=>rfl
 |_::_,_::_,⟨_,h⟩=>by simp[h.len]
 |[],_::_,h=>h.elim
 |_::_,[],h=>h.elim
theorem as0{α:Type}:∀ {xs ys:List α} {i j:Nat} {x:α},xs.Perm ys->xs[i]? =some x->ys[j]? =some x->(xs.eraseIdx i).Perm (ys.eraseIdx j):=by
 have key:∀ {xs:List α} {i:Nat} {x:α},xs[i]? =some x->xs.Perm (x::xs.eraseIdx i):=by
  intro xs
  induction xs with
  |nil=>intro i x h;simp at h
  |cons y xs ih=>
   intro i x h;cases i with
   |zero=>simp at h;subst h;exact im _
   |succ i=>
    have h:xs[i]? =some x:=by simpa using h
    exact((ih h).cons y).trans (List.Perm.swap x y _)
 intro xs ys i j x hp hi hj;exact((key hi).symm.trans (hp.trans (key hj))).cons_inv
theorem ats(h:Inv C g β s a w){T:TypeId}{m:Operand}(dm:o.op= .range T m){s':AS}(he:(atr P s o.dst T (s.ev m)).eval=some s'):fL P o a w (iB C s'):=by
 unfold atr at he;split at he
 ·rename_i K V' kt vt id ver q hm hx hd;obtain⟨l,h1,he⟩:=aw.1 he;obtain⟨hq,he⟩:=aC.1 he;obtain rfl:=ay.1 he;rw[au]at hq;obtain⟨hT,_,_⟩:=Cu hm;have Z6:=h.ev m;rw[hx]at Z6;obtain⟨fr,pl,es,clock,g1,g2,g3,g4,g5,g6,g7,gn⟩:=zF h h1 Z6;obtain rfl:=Ka g1 hq.1;have gF:s.bW id≠none:=by rw[g1];simp
  have aUi:=Trans.refl w g;have ar6:cM (s.env w g β) ((s.bl id (.obj ver true (.mp kt vt l))).env w g β):=cM.bl g1 (ax _) aUi (λ_ _=>rfl) (λ_=>rfl)
  have i0:Inv C g β (s.bl id (.obj ver true (.mp kt vt l))) a w:=
   h.step (dj _ _ _) aUi ar6 (iZ.bl h.bJ gF ar6 (λ_ _=>rfl) (λ_ _ _ _ _ _ _ _=>⟨rfl,rfl⟩) ⟨pl,es,clock,g2,g4,g5,⟨g6.mono ar6.mem,gn⟩,g7⟩ (QT g1))
  have cQ:=eH s id (.obj ver true (.mp kt vt l)) gF;have hq':=ae6 (e:= .obj ver true (.mp kt vt l)) hq.2 gF;generalize aXG:s.bl id (.obj ver true (.mp kt vt l))=s0 at i0 cQ hq' ar6;have HF:∀j,id≠ .new q j:=λj e=>by rw[e,(kJ hq').1 j]at cQ;cases cQ
  have gQ:pl.b < w.heap.size:=(bP.1 g4).1;have ht:=Trans.alloc w g (.mapIter (some pl.b) clock #[] clock) (.own (.id (.new q 0)) 0);obtain⟨h3,h4⟩:=i0.SY hq' (c:= .tC id (ver+1) kt vt l none) (p:=some ⟨w.heap.size,0⟩) ht (λb hb=>⟨rA w _ hb,fA _ _ _ ak⟩) (λhE=>
   ⟨⟨w.heap.size,0⟩,pl.b,clock,#[],clock,kh _ _ _,ui w _,fH _ _ _,λvr aqs=>by
    obtain rfl:ver=vr:=ak;have hb:(s0.env w g β).G1 id ver:=⟨by show s0.bW id≠none;rw[cQ];simp,λv2 fr2 c2 h2=>by
     have h2:s0.bW id=some (.obj v2 fr2 c2):=h2;rw[cQ]at h2;simp only[az,dE.obj.injEq]at h2;omega⟩
    refine⟨hE.G1 _ _ hb,λ_=>⟨⟨kt,vt,l,?_⟩,pl,es,clock,?_,rfl,?_,?_,λx hx=>g7.2 x hx,⟨ax _,ax _⟩,g7.1,?_,λx hx=>by cases hx⟩⟩
    ·show(s0.born q _).bW id=_;rw[jm _ HF];exact cQ
    ·show Kb β (.new q 0) _ id=_;rw[BL _ _ _ (HF 0)];exact g2
    ·exact(rA w _ gQ).trans g4
    ·show nT g w.heap.size _ pl.b=_;rw[fA _ _ _ ak];exact g5
    ·have:es.toList.filter (λe=> !(#[]:Array Nat).contains e.born)=es.toList:=iA.2 λx _=>by simp
     rw[this];exact(g6.mono ar6.mem).mono hE.mem⟩)
  refine .inl ⟨.pointer (some ⟨w.heap.size,0,none⟩),w.alloc (.mapIter (some pl.b) clock #[] clock),?_,_,_,h3.put o.dst (v:= .ptr (.new q 0) 0 [] 0) ⟨[.pointer (some ⟨w.heap.size,0,none⟩)],?_,rfl⟩⟩
  ·refine dW (f:=Instr.range T (a.eval m)) (by simp only[execOp,dm]) ?_
   rw[g3];exact run_range_map w T K V' pl.b es clock hT g4
  ·simp only[V];exact⟨_,rfl,qs hq' _ _ _ _,λ_=>⟨_,kh _ _ _,rfl⟩⟩
 ·simp only[av]at he
theorem aak(h:Inv C g β s a w){x:Operand}{t:aw1}(ht:s.aFI (s.ev x)=some t):
  s.bW t.i=some (.obj t.v t.fr (.tC t.q (t.vr+1) t.kt t.vt t.rest t.cur))/\(∃k v l,s.bW t.q=some (.obj t.vr true (.mp k v l)))/\
  ∃pl plq since seen c0 es clock,a.eval x= .pointer (some ⟨pl.b,0,none⟩)/\β t.i=some pl/\w.heap[pl.b]? =some (.mapIter (some plq.b) since seen c0)/\g pl.b= .own (.id t.i) 0/\
   β t.q=some plq/\w.heap[plq.b]? =some (.map es clock)/\g plq.b= .own (.id t.q) 0/\(∀x∈es.toList,x.born < since)/\(since<=c0/\since<=clock)/\(es.toList.map (·.born)).Nodup/\
   ahz (s.env w g β) t.kt t.vt (es.toList.filter λe=> !seen.contains e.born) t.rest/\
   ∀x,t.cur=some x->∃(e:MapEntry) (seen':Array Nat),e∈es.toList/\seen=seen'.push e.born/\c0=clock/\EX (s.env w g β) t.kt t.vt e x:=by
 have Z6:=h.ev x;generalize s.ev x=y at ht Z6;unfold AS.aFI at ht;split at ht
 ·rename_i i ver;split at ht
  ·rename_i v fr q vr kt vt rest cur ml;split at ht
   ·rename_i hv hl;obtain rfl:=bf ht;have hv:v=ver:=by simpa using hv
    subst hv;have cQ:=ee ml;unfold AS.anM at hl;split at hl
    ·rename_i v2 k2 t2 l2 aT5;have hl:v2=vr:=by simpa using hl
     subst hl;have hq:=ee aT5;refine⟨cQ,⟨_,_,_,hq⟩,?_⟩;obtain⟨pl,mb,since,seen,c0,h1,h2,h3,h4⟩:=h.bJ i v fr _ cQ;obtain⟨h5,h6⟩:=h4 v2 rfl;obtain⟨_,plq,es,clock,k1,k2,k3,k4,k5,k6,k7,k8,k9⟩:=h6 ⟨_,_,hq⟩;subst k2;obtain⟨ad,m1,m2,m3⟩:=vU Z6;obtain⟨pl',m4,rfl⟩:=m3 ⟨_,_,cQ⟩;have h1:β i=some pl:=h1;have m4:β i=some pl':=m4;rw[h1]at m4;obtain rfl:pl=pl':=by simpa using m4
     exact⟨pl,plq,since,seen,c0,es,clock,m1,h1,h2,h3,k1,k3,k4,k5,k6,k7,k8,k9⟩
    ·cases hl
   ·cases ht
  ·cases ht
 ·cases ht
theorem EX.aXo{E:Env}{kt vt:Ty}{e:MapEntry}{x:kt.den×vt.den}(h:EX E kt vt e x):VS E (.cons (.d kt x.1) (.cons (.d vt x.2) .nil)) (.tuple #[e.key,e.val]):=by obtain⟨⟨c1,a1,b1⟩,c2,a2,b2⟩:=h;refine⟨[e.key,e.val],rfl,?_⟩;simp only[VC];exact⟨_,_,c1,rfl,by simpa only[V]using a1,b1,_,_,c2,rfl,by simpa only[V]using a2,b2,rfl⟩
theorem EX.aXp{E:Env}{kt vt:Ty}{e:MapEntry}{x:kt.den×vt.den}(h:EX E kt vt e x):VS E (.cons (.d .bool true) (.cons (.d kt x.1) (.cons (.d vt x.2) .nil))) (.tuple #[.bool true,e.key,e.val]):=by obtain⟨⟨c1,a1,b1⟩,c2,a2,b2⟩:=h;refine⟨[.bool true,e.key,e.val],rfl,?_⟩;simp only[VC];exact⟨_,_,[.bool true],rfl,by simp only[V,df],rfl,_,_,c1,rfl,by simpa only[V]using a1,b1,_,_,c2,rfl,by simpa only[V]using a2,b2,rfl⟩
theorem arP(h:Inv C g β s a w){x:Operand}(dm:o.op= .entry x){v:aB}(he:(arO s (s.ev x)).eval=some v):fL P o a w (iB C (s.put o.dst v)):=by
 unfold arO at he;split at he
 ·rename_i i v0 fr q vr kt vt rest c ht;obtain rfl:=ay.1 he;obtain⟨_,_,pl,plq,since,seen,c0,es,clock,m1,m2,m3,_,m5,m6,m7,_,_,m10,_,m12⟩:=aak h ht;obtain⟨e,seen',n1,rfl,rfl,n4⟩:=m12 c rfl;refine h.value n4.aXo (dW (f:=Instr.entry (a.eval x)) (by simp only[execOp,dm]) ?_);rw[m1];exact run_entry_at w pl.b plq.b since seen' es _ e m3 m6 n1 m10
 ·simp only[av]at he
theorem heap_drew{w w1:World}(hw:w1=w\/w1=w.drew):w1.heap=w.heap/\w1.os=w.os/\w1.tape=w.tape/\(w1.output=w.output/\w.drawn<=w1.drawn):=by
 rcases hw with rfl | rfl
 ·exact⟨rfl,rfl,rfl,rfl,ax _⟩
 ·exact⟨rfl,rfl,rfl,rfl,oS _⟩
theorem Inv.aSm(h:Inv C g β s a w){i q:Id}{v vr:Nat}{fr:Bool}{kt vt:Ty}{rest:List (kt.den×vt.den)}{cur:Option (kt.den×vt.den)}(cQ:s.bW i=some (.obj v fr (.tC q (vr+1) kt vt rest cur)))
  {k2 v2:Ty} {l2:List (k2.den×v2.den)} (hq:s.bW q=some (.obj vr true (.mp k2 v2 l2))) {pl plq:Pl} {m0:Option Nat} {since0 c00:Nat} {seen0:Array Nat} (hp:β i=some pl) (hb:w.heap[pl.b]? =some (.mapIter m0 since0 seen0 c00)) (hg:g pl.b= .own (.id i) 0)
  {w1:World} (hw:w1=w\/w1=w.drew) {es:Array MapEntry} {clock since c0:Nat} {seen:Array Nat} (aWT:β q=some plq) (aOT:w.heap[plq.b]? =some (.map es clock)) (aWz:g plq.b= .own (.id q) 0)
  (h1:∀x∈es.toList,x.born < since) (h2:since<=c0/\since<=clock) (h3:(es.toList.map (·.born)).Nodup) {rest':List (kt.den×vt.den)} {cur':Option (kt.den×vt.den)} (h4:ahz (s.env w g β) kt vt (es.toList.filter λe=> !seen.contains e.born) rest')
  (h5:∀x,cur'=some x->∃(e:MapEntry) (seen':Array Nat),e∈es.toList/\seen=seen'.push e.born/\c0=clock/\EX (s.env w g β) kt vt e x):
  Inv C g β (s.bl i (.obj v fr (.tC q (vr+1) kt vt rest' cur'))) a (Go.ChangeMaps.setBlock w1 pl.b (.mapIter (some plq.b) since seen c0))/\
   uf (s.env w g β) ((s.bl i (.obj v fr (.tC q (vr+1) kt vt rest' cur'))).env (Go.ChangeMaps.setBlock w1 pl.b (.mapIter (some plq.b) since seen c0)) g β):=by
 obtain⟨d1,d2,d3,d4⟩:=heap_drew hw;have gQ:pl.b < w.heap.size:=(bP.1 hb).1;have avN:(Go.ChangeMaps.setBlock w1 pl.b (.mapIter (some plq.b) since seen c0)).heap=w.heap.setIfInBounds pl.b (.mapIter (some plq.b) since seen c0):=by show w1.heap.setIfInBounds _ _=_;rw[d1]
 have aNz:(Go.ChangeMaps.setBlock w1 pl.b (.mapIter (some plq.b) since seen c0)).os=w.os/\(Go.ChangeMaps.setBlock w1 pl.b (.mapIter (some plq.b) since seen c0)).tape=w.tape/\((Go.ChangeMaps.setBlock w1 pl.b (.mapIter (some plq.b) since seen c0)).output=w.output/\w.drawn<=(Go.ChangeMaps.setBlock w1 pl.b (.mapIter (some plq.b) since seen c0)).drawn):=⟨d2,d3,d4⟩;generalize Go.ChangeMaps.setBlock w1 pl.b (.mapIter (some plq.b) since seen c0)=w' at avN aNz;have hother:∀b',b'≠pl.b->w'.heap[b']? =w.heap[b']? :=λb' gF=>by rw[avN,dT,if_neg (λe=>gF e.symm)]
 have lI:w'.heap[pl.b]? =some (.mapIter (some plq.b) since seen c0):=by rw[avN,dT,if_pos rfl,if_pos gQ]
 have ht:Trans w w' g g:=by
  refine⟨aNz.1,aNz.2.1,aNz.2.2,by rw[avN];simp,λb' _=> ?_⟩;by_cases he:b'=pl.b
  ·subst he;rw[hg];exact⟨.inr ⟨i,0,rfl,ax _⟩,λ_ _ hh=>ak⟩
  ·rw[hother b' he];cases Xa:g b' with
   |free=>exact⟨rfl,rfl⟩
   |own o' k=>cases o' with
    |eo=>exact⟨rfl,rfl⟩
    |id i'=>exact⟨.inr ⟨i',k,rfl,ax _⟩,λoff v _ hv=>by simpa only[World.cell?,hother b' he]using hv⟩
 have hle:cM (s.env w g β) ((s.bl i (.obj v fr (.tC q (vr+1) kt vt rest' cur'))).env w' g β):=cM.bl cQ (ax _) ht (λ_ _=>rfl) (λ_=>rfl);have aRT:q≠i:=λe=>by rw[e,cQ]at hq;cases hq
 have aWS:plq.b≠pl.b:=λe=>by rw[e,hb]at aOT;cases aOT
 refine⟨h.step (dj _ _ _) ht hle (iZ.bl h.bJ (by rw[cQ];simp) hle (λ_ _=>rfl) (λi' ver' fr' c' pl2 hi Z4 XY=>⟨hother _ (h.apart hg hi Z4 XY),rfl⟩) ?_ (qz cQ λ_ _ _ e=>by cases e)),hle.mem⟩;refine⟨pl,plq.b,since,seen,c0,hp,lI,hg,λvr' aqs=> ?_⟩;obtain rfl:vr=vr':=ak;have anh:(s.env w g β).G1 q vr:=⟨by show s.bW q≠none;rw[hq];simp,λv3 fr3 c3 h3=>by
  have h3:s.bW q=some (.obj v3 fr3 c3):=h3;rw[hq]at h3;simp only[az,dE.obj.injEq]at h3;omega⟩
 refine⟨hle.G1 _ _ anh,λ_=>⟨⟨k2,v2,l2,?_⟩,plq,es,clock,aWT,rfl,(hother _ aWS).trans aOT,aWz,h1,h2,h3,h4.mono hle.mem,λx hx=> ?_⟩⟩
 ·show(s.bl i _).bW q=_;rw[cX s i q _ aRT];exact hq
 ·obtain⟨e,se,a1,a2,a3,a4⟩:=h5 x hx;exact⟨e,se,a1,a2,a3,a4.mono hle.mem⟩
theorem Inv.aNE(h:Inv C g β s a w){i q:Id}{v ver ver':Nat}{fr:Bool}{kt vt:Ty}{rest rest':List (kt.den×vt.den)}{cur cur':Option (kt.den×vt.den)}(cQ:s.bW i=some (.obj v fr (.tC q ver kt vt rest cur)))
  (hk:ver'=0\/(ver'=ver/\rest'=rest/\cur'=none)):Inv C g β (s.bl i (.obj v fr (.tC q ver' kt vt rest' cur'))) a w:=by
 have ht:=Trans.refl w g;have hle:cM (s.env w g β) ((s.bl i (.obj v fr (.tC q ver' kt vt rest' cur'))).env w g β):=cM.bl cQ (ax _) ht (λ_ _=>rfl) (λ_=>rfl);refine h.step (dj _ _ _) ht hle (iZ.bl h.bJ (by rw[cQ];simp) hle (λ_ _=>rfl) (λ_ _ _ _ _ _ _ _=>⟨rfl,rfl⟩) ?_ (qz cQ λ_ _ _ e=>by cases e));obtain⟨pl,mb,since,seen,c0,h1,h2,h3,h4⟩:=h.bJ i v fr _ cQ;refine⟨pl,mb,since,seen,c0,h1,h2,h3,λvr aqs=> ?_⟩;rcases hk with hk | ⟨rfl,rfl,rfl⟩
 ·omega
 ·obtain⟨h5,h6⟩:=h4 vr aqs;refine⟨hle.G1 _ _ h5,λhc=> ?_⟩;obtain⟨c1,_⟩:=hle.cur _ _ h5 hc;obtain⟨⟨k,v1,l,hq⟩,plq,es,clock,k1,k2,k3,k4,k5,k6,k7,k8,_⟩:=h6 c1;have aRT:q≠i:=λe=>by have hq:s.bW q=_:=hq;rw[e,cQ]at hq;cases hq
  exact⟨⟨k,v1,l,by show(s.bl i _).bW q=_;rw[cX s i q _ aRT];exact hq⟩,plq,es,clock,k1,k2,k3,k4,k5,k6,k7,k8.mono hle.mem,λx hx=>by cases hx⟩
theorem att{s:AS}{q i:Id}{e:dE}(h:s.ab2 q=false)(hi:s.bW i=some e):e.aFJ q=false:=by
 unfold AS.ab2 at h;rw[Bool.or_eq_false_iff]at h;cases i with
 |bm k=>simpa using js.1 h.1 _ (cJ hi)
 |new a b=>
  have hi:(s.news.getD a [])[b]? =some e:=hi
  by_cases ha:a < s.news.length
  ·have h2:(s.news.getD a []).any (dE.aFJ q)=false:=by simpa using js.1 h.2 (s.news.getD a []) (by simp[aH,bU ha])
   simpa using js.1 h2 _ (cJ hi)
  ·simp[aH,dG (Nat.le_of_not_lt ha)]at hi
theorem Inv.unlock(h:Inv C g β s a w){q:Id}{vr:Nat}{k v:Ty}{l:List (k.den×v.den)}(cQ:s.bW q=some (.obj vr true (.mp k v l)))(hr:s.ab2 q=false):Inv C g β (s.bl q (.obj vr false (.mp k v l))) a w:=by
 have ht:=Trans.refl w g;have hle:cM (s.env w g β) ((s.bl q (.obj vr false (.mp k v l))).env w g β):=cM.bl cQ (ax _) ht (λ_ _=>rfl) (λ_=>rfl);refine h.step (dj _ _ _) ht hle λi ver fr c hi=> ?_
 have hi:(s.bl q (.obj vr false (.mp k v l))).bW i=some (.obj ver fr c):=hi;by_cases aVz:i=q
 ·subst aVz;rw[eH s i _ (by rw[cQ];simp)]at hi;simp only[az,dE.obj.injEq]at hi;obtain⟨rfl,rfl,rfl⟩:=hi;obtain⟨pl,es,clock,h1,h2,h3,h4,h5⟩:=h.bJ i vr true _ cQ;exact⟨pl,es,clock,h1,h2,h3,⟨h4.1.mono hle.mem,h4.2⟩,h5⟩
 ·rw[cX s q i _ aVz]at hi;refine(h.bJ i ver fr c hi).aNM hle rfl (λ_ _=>⟨rfl,rfl⟩) λq2 v2 k2 v3 l2 hc Tq _=>⟨⟨k2,v3,l2,?_⟩,λ_ _=>⟨rfl,rfl⟩⟩
  obtain⟨kt,vt,rest,cu,rfl⟩:=hc;have hn:=att hr hi;have gF:q2≠q:=λe=>by simp[dE.aFJ,e]at hn
  show(s.bl q _).bW q2=_;rw[cX s q q2 _ gF];exact Tq
theorem asr{es:List MapEntry}{seen:Array Nat}(hn:(es.map (·.born)).Nodup){j:Nat}{e:MapEntry}(hj:(es.filter λe=> !seen.contains e.born)[j]? =some e):
  es.filter (λx=> !(seen.push e.born).contains x.born)=(es.filter λe=> !seen.contains e.born).eraseIdx j:=by
 have h1:es.filter (λx=> !(seen.push e.born).contains x.born)=(es.filter λe=> !seen.contains e.born).filter λx=>x.born !=e.born:=by
  rw[List.filter_filter];refine List.filter_congr λx _=> ?_
  rw[contains_push];cases seen.contains x.born <;> cases hb:x.born==e.born <;> simp[bne,hb]
 rw[h1];have aJz:((es.filter λe=> !seen.contains e.born).map (·.born)).Nodup:=hn.sublist (List.filter_sublist.map _);generalize es.filter (λe=> !seen.contains e.born)=L at hj aJz
 induction L generalizing j with
 |nil=>simp at hj
 |cons x L ih=>
  rw[bQ,cV]at aJz;cases j with
  |zero=>
   simp only[fQ,az]at hj;subst hj;have:L.filter (λy=>y.born !=x.born)=L:=iA.2 λy hy=>by
    have:y.born≠x.born:=λe=>aJz.1 (e▸cT.2 ⟨y,hy,rfl⟩)
    simpa using this
   simp[this]
  |succ j=>
   have hj:L[j]? =some e:=by simpa using hj
   have hx:(x.born !=e.born)=true:=by
    have:x.born≠e.born:=λh=>aJz.1 (h▸cT.2 ⟨e,cJ hj,rfl⟩)
    simpa using this
   rw[List.filter_cons,hx,List.eraseIdx_cons_succ];simp only[bG];rw[ih hj aJz.2]
theorem azG(h:Inv C g β s a w){x:Operand}(dm:o.op= .next x false){t:aw1}(ht:s.aFI (s.ev x)=some t){R:Type}{k:AS->Option R}{r:R}(he:aGu s o.dst t k=some r):
  fL P o a w λa' w'=>∃s',iB C s' a' w'/\k s'=some r:=by
 obtain⟨hi,⟨k2,v2,l2,hq⟩,pl,plq,since,seen,c0,es,clock,m1,m2,m3,m4,m5,m6,m7,m8,m9,m10,m11,_⟩:=aak h ht;have hex:∀ {y:Value} {w':World},(Instr.next (a.eval x) false o.type).run P w= .ok y w'->(execOp a.eval o).run P w= .ok (.value y) w':=λhr=>
  dW (f:=Instr.next (a.eval x) false o.type) (by simp only[execOp,dm]) hr
 have XX:(leftOf es seen).toList=es.toList.filter λe=> !seen.contains e.born:=by unfold leftOf;rw[Array.toList_filter]
 obtain⟨l',m11,ank⟩:=m11;have hlen:=m11.len;rw[ank.length_eq]at hlen;rw[<-XX,cK]at hlen;unfold aGu at he;rcases run_next_at (P:=P) w o.type pl.b plq.b since c0 seen es clock m3 m6 m8 m9.1 with⟨h0,gG⟩ | ⟨e,aQz,w1,hw,gG⟩
 ·rcases RN he with⟨hc,_⟩ | ⟨_,he⟩
  ·have:0 < t.rest.length:=by simpa using hc
   omega
  ·unfold AS.aL7 at he;have i1:=h.aNE (rest':=[]) (cur':=none) hi (.inl rfl);have aRT:t.q≠t.i:=λe=>by rw[e,hi]at hq;simp at hq
   have aQD:(s.bl t.i (.obj t.v t.fr (.tC t.q 0 t.kt t.vt [] none))).bW t.q=some (.obj t.vr true (.mp k2 v2 l2)):=by rw[cX s t.i t.q _ aRT];exact hq
   generalize s.bl t.i (.obj t.v t.fr (.tC t.q 0 t.kt t.vt [] none))=s1 at he i1 aQD;cases hr:s1.ab2 t.q with
   |true=>rw[hr]at he;cases he
   |false=>
    rw[hr]at he;simp only at he;have aW1:s1.unlock t.q=s1.bl t.q (.obj t.vr false (.mp k2 v2 l2)):=by simp only[AS.unlock,AS.obj,aQD]
    rw[aW1]at he;rw[<-m1]at gG;refine .inl ⟨_,w,hex gG,_,⟨g,β,(i1.unlock aQD hr).put o.dst (v:= .cons (.d .bool false) .nil) ⟨[.bool false],rfl,?_⟩⟩,he⟩;simp only[VC];exact⟨_,_,[.bool false],rfl,by simp only[V,df],rfl,rfl⟩
 ·rcases RN he with⟨hc,he⟩ | ⟨hc,_⟩
  ·obtain⟨_,hd⟩:=aEv he;rw[XX]at aQz;obtain⟨i,aK7⟩:=List.getElem?_of_mem aQz;obtain⟨y,aR5,aQI⟩:=m11.get aK7;obtain⟨j,hj⟩:=List.getElem?_of_mem (ank.mem_iff.1 (cJ aR5));have aO4:j < t.rest.length:=(dF.1 hj).1;have hy:zI t.kt t.vt t.rest j=y:=by simp[zI,aH,hj]
   have C8:e∈es.toList:=(nZ.1 aQz).1;have i1:=h.aSm (rest':=t.rest.eraseIdx j) (cur':=some (zI t.kt t.vt t.rest j)) (since:=since) (c0:=clock) (seen:=seen.push e.born) hi hq m2 m3 m4 hw m5 m6 m7 m8 ⟨m9.2,m9.2⟩ m10 ?_ ?_
   rotate_left
   ·rw[asr m10 aK7];exact⟨_,m11.erase i,as0 ank aR5 hj⟩
   ·intro z hz;obtain rfl:=bf hz;exact⟨e,seen,C8,rfl,rfl,by rw[hy];exact aQI⟩
   rw[<-m1]at gG;have hVS:=(hy▸aQI:EX (s.env w g β) t.kt t.vt e (zI t.kt t.vt t.rest j));refine .inl ⟨_,_,hex gG,_,⟨g,β,i1.1.put o.dst (v:= .cons (.d .bool true) (.cons (.d t.kt (zI t.kt t.vt t.rest j).1) (.cons (.d t.vt (zI t.kt t.vt t.rest j).2) .nil))) ?_⟩,hd j aO4⟩;exact EX.aXp (hVS.mono i1.2)
  ·have hc:¬0 < t.rest.length:=by simpa using hc
   have:0 < (leftOf es seen).toList.length:=List.length_pos_of_mem aQz;rw[cK]at this;omega
theorem ayK{Γ:oR}(hΓ:Sound P Γ){bJ:List Nat}{ops:Array Oper}{R:Type}{k:AS->Option R}{r:R}(h:iB C s a w)(he:aK3 P Γ bJ ops o s k=some r):
  rz P ops o a w λa' w'=>∃s',iB C s' a' w'/\k s'=some r:=by
 have plain:aK2 P Γ bJ ops o s k=some r->rz P ops o a w λa' w'=>∃s',iB C s' a' w'/\k s'=some r:=λhe=>by obtain⟨s1,h1,h2⟩:=ana he;exact(af5 hΓ h h1).mono λa' w' hs=>⟨s1,hs,h2⟩
 have stepK:∀(hg:o.guard=none),(fL P o a w λa' w'=>∃s',iB C s' a' w'/\k s'=some r)->rz P ops o a w λa' w'=>∃s',iB C s' a' w'/\k s'=some r:=λhg hr=>by
  unfold rz;have:Region.wanted o (yielded ops a.tmps)=true:=by simp[Region.wanted,hg]
  rw[if_pos this];exact hr
 have step:∀(hg:o.guard=none) (b:Bool),fL P o a w (iB C (s.put o.dst (.d .bool b)))->k (s.put o.dst (.d .bool b))=some r->rz P ops o a w λa' w'=>∃s',iB C s' a' w'/\k s'=some r:=λhg b hr hk=>by
  unfold rz;have:Region.wanted o (yielded ops a.tmps)=true:=by simp[Region.wanted,hg]
  rw[if_pos this];exact hr.mono λa' w' hs=>⟨_,hs,hk⟩
 unfold aK3 at he;split at he
 ·rename_i T x y U hg ho;split at he
  ·rename_i n hn hT;obtain⟨g,β,hi⟩:=h;obtain⟨b,hb,hr⟩:=(Q5 (o:=o) (U:=U) hi hn hT).1 ho;refine step hg b hr ?_
   rcases RN he with⟨hc,hk⟩ | ⟨_,hk⟩
   ·rw[hb (by simpa using hc)];exact hk
   ·obtain⟨k1,k2⟩:=awc hk;cases b
    ·exact k2
    ·exact k1
  ·exact plain he
 ·rename_i T x y U hg ho;split at he
  ·rename_i n hn hT;obtain⟨g,β,hi⟩:=h;obtain⟨b,hb,hr⟩:=(Q5 (o:=o) (U:=U) hi hn hT).2 ho;refine step hg b hr ?_
   rcases RN he with⟨hc,hk⟩ | ⟨_,hk⟩
   ·rw[hb (by simpa using hc)];exact hk
   ·obtain⟨k1,k2⟩:=awc hk;cases b
    ·exact k2
    ·exact k1
  ·exact plain he
 ·rename_i T m hg ho;obtain⟨s1,h1,h2⟩:=iy.1 he;obtain⟨g,β,hi⟩:=h;exact stepK hg ((ats hi ho h1).mono λ_ _ hs=>⟨_,hs,h2⟩)
 ·rename_i x hg ho;obtain⟨s1,h1,h2⟩:=iy.1 he;obtain⟨v,h3,h4⟩:=aw.1 h1;obtain rfl:=ay.1 h4;obtain⟨g,β,hi⟩:=h;exact stepK hg ((arP hi ho h3).mono λ_ _ hs=>⟨_,hs,h2⟩)
 ·rename_i x hg ho;split at he
  ·rename_i t ht;obtain⟨g,β,hi⟩:=h;exact stepK hg (azG hi ho ht he)
  ·cases he
 ·rename_i c hg ho;split at he
  ·rename_i F hc;split at he
   ·rename_i id ver rc f hF;split at he
    ·rename_i en ar3;obtain⟨aSW,he⟩:=aA4 he;obtain⟨s1,h1,h2⟩:=iy.1 he;obtain⟨g,β,hi⟩:=h;exact stepK hg ((auV hi ho hc hF aSW (hΓ _ _ en ar3) h1).mono λ_ _ hs=>⟨_,hs,h2⟩)
    ·cases he
   ·split at he
    ·rename_i en vs hr;unfold aNV at hr;split at hr;rotate_left
     ·cases hr
     rename_i f caps hF;split at hr;rotate_left
     ·cases hr
     rename_i en' ar3;split at hr;rotate_left
     ·cases hr
     rename_i aFa;rw[au]at aFa;simp only[az,cE]at hr;obtain⟨rfl,rfl⟩:=hr;obtain⟨g,β,hi⟩:=h;exact stepK hg (are hi ho hc hF ((hΓ _ _ _ ar3).2.2 aFa.2) he)
    ·exact plain he
  ·exact plain he
 ·exact plain he
theorem Vx{rd:Option Nat}{n:Nat}{Γ:oR}(hΓ:Sound P Γ){bJ:List Nat}{ops:Array Oper}{R:Type}{Q:Exit->Act->World->Prop}:∀(l:List Oper) {s:AS} {a:Act} {w:World} {k:AS->Option R} {r:R},iB C s a w->aK4 P Γ bJ ops l s k=some r->
  (∀s' a' w',iB C s' a' w'->k s'=some r->Q .normal a' w')->wpListIn (Fr rd) n P ops Q l a w
 |[],s,a,w,k,r,h,he,hk=>hk s a w h he
 |o::l,s,a,w,k,r,h,he,hk=>by have he:aK3 P Γ bJ ops o s (λs'=>s'.seen λs'=>aK4 P Γ bJ ops l s' k)=some r:=he;simp only[AS.RM]at he;exact((ayK hΓ h he).mono λa' w' ⟨s',hs,h2⟩=>Vx hΓ l hs h2 hk).wpListIn
end
end Go.Ab
namespace Go.Ab
theorem AS.aEJ{s t:AS}(h1:s.ct=t.ct)(h2:s.news.length=t.news.length)(h3:∀id,s.bW id=t.bW id):s=t:=by
 obtain⟨a,b,c⟩:=s;obtain⟨a',b',c'⟩:=t;simp only at h1 h2;subst h1;have hb:b=b':=ln λk=>h3 (.bm k)
 subst hb;have hc:c=c':=by apply List.ext_getElem h2;intro i h h';apply ln;intro j;have:=h3 (.new i j);simpa[AS.bW,aH,h,h']using this
 rw[hc]
def dE.alh:dE->dE->Prop
 | .obj v _ c,.obj v' _ c'=>v=v'/\c=c'
 | .dead,.dead=>True
 |_,_=>False
def zX:Option dE->Option dE->Prop
 |some a,some b=>a.alh b
 |none,none=>True
 |_,_=>False
def dE.avH:dE->dE
 | .obj v _ c=> .obj v true c
 | .dead=> .dead
theorem dE.aH7(a:dE):a.alh a:=by cases a <;> simp[dE.alh]
theorem aA7(a:Option dE):zX a a:=by cases a <;> simp[zX,dE.aH7]
theorem aA6(a:Option dE):zX (a.map dE.avH) a:=by
 cases a with
 |none=>trivial
 |some x=>cases x <;> simp[zX,dE.alh,dE.avH]
theorem dE.aKZ(a:dE):a.avH.avH=a.avH:=by cases a <;> rfl
structure mU(f:HN)(s t:AS):Prop where
 ct:∀i∈f.ct,t.slot i=s.slot i
 ws:∀id∈f.ws,t.bW id=s.bW id
 rs:∀id∈f.rs,zX (t.bW id) (s.bW id)
 dY:∀q,f.dst=some q->t.dY q=s.dY q
structure aQk where
 v:aB
 up:Id->Option dE
 fz:List Id
structure App(d:Option Tmp)(E:aQk)(s s':AS):Prop where
 ct:s'.ct=(s.put d E.v).ct
 len:s'.news.length=s.news.length
 bW:∀id,s'.bW id=match E.up id with | some e=>some e | none=>if id∈E.fz then(s.bW id).map dE.avH else s.bW id
theorem App.aOy{d:Option Tmp}{E:aQk}{s s1 s2:AS}(h1:App d E s s1)(h2:App d E s s2):s1=s2:=
 AS.aEJ (by rw[h1.ct,h2.ct]) (by rw[h1.len,h2.len]) λid=>by rw[h1.bW,h2.bW]
structure ahE(f:HN)(s:AS)(E:aQk):Prop where
 up:∀id e,E.up id=some e->(id∈f.ws/\s.bW id≠none)\/∃q j,f.dst=some q/\id= .new q j
 fz:∀id∈E.fz,id∈f.rs
theorem N6(s:AS)(id:Id)(e:dE):(s.bl id e).news.length=s.news.length:=by cases id <;> simp[AS.bl]
theorem ad2(s:AS)(id i:Id):(s.freeze id).bW i=if i=id then(s.bW i).map dE.avH else s.bW i:=by
 unfold AS.freeze;cases hs:s.bW id with
 |none=>
  by_cases hi:i=id
  ·subst hi;simp[hs]
  ·simp[hi]
 |some e=>
  cases e with
  |dead=>
   by_cases hi:i=id
   ·subst hi;simp[hs,dE.avH]
   ·simp[hi]
  |obj v fr c=>
   simp only;by_cases hi:i=id
   ·subst hi;rw[eH s i _ (by rw[hs];simp)];simp[hs,dE.avH]
   ·rw[cX s id i _ hi];simp[hi]
theorem fG(i:Id):∀(ids:List Id) (s:AS),(s.bB ids).bW i=if i∈ids then(s.bW i).map dE.avH else s.bW i
 |[],s=>by simp[AS.bB]
 |id::ids,s=>by
  rw[AS.bB,fG i ids,ad2];by_cases h1:i=id
  ·subst h1;by_cases h2:i∈ids
   ·simp[h2,Option.map_map,Function.comp_def,dE.aKZ]
   ·simp[h2]
  ·simp[h1]
theorem ass(s:AS)(id:Id):(s.freeze id).news.length=s.news.length:=by
 unfold AS.freeze;split
 ·exact N6 _ _ _
 ·rfl
theorem rD:∀(ids:List Id) (s:AS),(s.bB ids).news.length=s.news.length
 |[],_=>rfl
 |id::ids,s=>by rw[AS.bB,rD ids,ass]
theorem BM{s:AS}{q:Nat}:s.dY q=true↔q < s.news.length/\∀j,s.bW (.new q j)=none:=by
 refine⟨λh=>⟨(kJ h).2,(kJ h).1⟩,λ⟨h1,h2⟩=> ?_⟩;unfold AS.dY;rw[bU h1];have h0:=h2 0;simp only[AS.bW,aH,bU h1,dN]at h0;cases hh:s.news[q]with
 |nil=>rfl
 |cons x xs=>rw[hh]at h0;simp at h0
theorem App.Tn(d:Option Tmp)(v:aB)(ids:List Id)(s:AS):App d ⟨v,λ_=>none,ids⟩ s ((s.bB ids).put d v):=by
 refine⟨?_,?_,λid=> ?_⟩
 ·cases d <;> simp[AS.put,oo]
 ·cases d <;> simp[AS.put,rD]
 ·rw[Kx,fG]
theorem App.KJ(d:Option Tmp)(v:aB)(s:AS):App d ⟨v,λ_=>none,[]⟩ s (s.put d v):=App.Tn d v [] s
def SZ(q:Nat)(es:List dE):Id->Option dE
 | .new i j=>if i=q then es[j]? else none
 | .bm _=>none
theorem aED(s:AS){q:Nat}(hq:q < s.news.length)(es:List dE)(id:Id):(s.born q es).bW id=match id with | .new i j=>if i=q then es[j]? else s.bW (.new i j) | .bm k=>s.bW (.bm k):=by
 cases id with
 |bm k=>rfl
 |new i j=>
  simp only;by_cases h:i=q
  ·subst h;rw[if_pos rfl];exact zj hq _ j
  ·rw[if_neg h];exact jm _ λj' e=>by simp only[Id.new.injEq]at e;exact h e.1
theorem App.avg{s:AS}{q:Nat}(hv:s.dY q=true)(v:aB)(ids:List Id)(es:List dE):App (some q) ⟨v,SZ q es,ids⟩ s (((s.bB ids).born q es).put (some q) v):=by
 obtain⟨h1,h2⟩:=BM.1 hv;refine⟨?_,?_,λid=> ?_⟩
 ·simp[AS.put,oo]
 ·simp[AS.put,AS.born,rD]
 ·rw[Kx,aED _ (by rw[rD];exact h1)];cases id with
  |bm k=>simp only[SZ];exact fG _ _ _
  |new i j=>
   simp only[SZ];by_cases h:i=q
   ·subst h;rw[if_pos rfl];cases he:es[j]? with
    |none=>simp[h2]
    |some e=>simp
   ·rw[if_neg h];simp only[if_neg h];exact fG _ _ _
theorem App.aHZ{s:AS}{id:Id}{e0:dE}(hs:s.bW id=some e0)(d:Option Tmp)(v:aB)(e:dE):App d ⟨v,λi=>if i=id then some e else none,[]⟩ s ((s.bl id e).put d v):=by
 refine⟨?_,?_,λi=> ?_⟩
 ·cases d <;> simp[AS.put]
 ·cases d <;> simp[AS.put,N6]
 ·rw[Kx];by_cases hi:i=id
  ·subst hi;rw[eH s i _ (by rw[hs];simp)];simp
  ·rw[cX s id i _ hi];simp[hi]
section
variable {P:Program} {Γ:oR} {bJ:List Nat} {ops:Array Oper} {o:Oper} {s t:AS}
def Ph(P:Program)(Γ:oR)(bJ:List Nat)(ops:Array Oper)(o:Oper)(s s':AS):Prop:=∃E,App o.dst E s s'/\ahE (gV Γ ops s o) s E/\∀t,mU (gV Γ ops s o) s t->∃t',(rh P Γ bJ o t).eval=some t'/\App o.dst E t t'
theorem VX{xs:Array Operand}{i:Nat}(h:Operand.tmp i∈xs.toList):i∈Yb xs:=by unfold Yb;exact List.mem_filterMap.2 ⟨_,h,rfl⟩
theorem mU.ev(h:mU (gV Γ ops s o) s t){x:Operand}(hx:x∈o.op.operands.toList):t.ev x=s.ev x:=by
 cases x with
 |tmp i=>exact h.ct i (bz.2 (.inl (VX hx)))
 |_=>rfl
theorem aoe(v:Value):(ofConst v).ids=[]:=by unfold ofConst;split <;> rfl
theorem agD{o:Oper}{x:Op}(h:o.op=x)(hx:agq x=false):agq o.op=false:=by rw[h];exact hx
theorem NZ(hn:agq o.op=false){x:Operand}(hx:x∈o.op.operands.toList){id:Id}(cY:id∈(s.ev x).ids):id∈(gV Γ ops s o).rs:=by
 refine bz.2 (.inl ?_);unfold aog;rw[hn];cases x with
 |tmp i=>exact qh.2 ⟨i,VX hx,cY⟩
 |const v=>simp[AS.ev,aoe]at cY
 |global _=>simp[AS.ev,aB.ids]at cY
 |func f=>simp[AS.ev,aB.ids]at cY
theorem mU.alh(h:mU (gV Γ ops s o) s t)(hn:agq o.op=false){x:Operand}(hx:x∈o.op.operands.toList){id:Id}(cY:id∈(s.ev x).ids):zX (t.bW id) (s.bW id):=h.rs id (NZ hn hx cY)
theorem RR{id:Id}(h:zX (t.bW id) (s.bW id)):(t.obj id=none/\s.obj id=none)\/∃v f f' c,t.obj id=some (v,f,c)/\s.obj id=some (v,f',c):=by
 unfold AS.obj
 revert h
 cases t.bW id with
 |none=>cases s.bW id with
  |none=>intro _;simp
  |some b=>intro h;exact h.elim
 |some a=>cases s.bW id with
  |none=>intro h;exact h.elim
  |some b=>cases a <;> cases b <;> intro h <;> first
    |exact h.elim
    | (left;exact⟨rfl,rfl⟩)
    | (obtain⟨rfl,rfl⟩:=h;right;exact⟨_,_,_,_,rfl,rfl⟩)
theorem Ud{id:Id}(h:zX (t.bW id) (s.bW id))(ver:Nat)(p:List La):t.row id ver p=s.row id ver p:=by unfold AS.row;rcases RR h with⟨h1,h2⟩ | ⟨v,f,f',c,h1,h2⟩ <;> rw[h1,h2]
theorem pU:∀(v:aB) (ty:Ty),(∀id∈v.ids,zX (t.bW id) (s.bW id))->t.jq ty v=s.jq ty v
 | .bA id ver p c i len,ty,h=>by
  cases ty <;> first
   |rfl
   | (simp only[AS.jq];rw[Ud (h id (by simp[aB.ids]))])
 | .pr a b,ty,h=>by
  cases ty <;> first
   |rfl
   | (simp only[AS.jq];rw[pU a _ λid cY=>h id (by simp[aB.ids,cY]),pU b _ λid cY=>h id (by simp[aB.ids,cY])])
 | .undef,ty,_ | .gone,ty,_ | .de,ty,_ | .ri,ty,_ | .xA,ty,_ | .De,ty,_ | .d _ _,ty,_ | .ptr ..,ty,_ | .dO ..,ty,_ | .fn ..,ty,_ | .cons ..,ty,_ | .nil,ty,_ | .vec ..,ty,_ | .bx ..,ty,_ | .cj ..,ty,_ | .mp ..,ty,_ | .tC ..,ty,_ | .yl ..,ty,_ | .rP ..,ty,_ | .sb _,ty,_=>by cases ty <;> simp only[AS.jq]
theorem wb:∀(v:aB),∀id∈v.shared,id∈v.ids
 | .bA ..,id,h=>by simpa[aB.shared,aB.ids]using h
 | .pr a b,id,h=>by
  simp only[aB.shared,bz,aB.ids]at h ⊢;rcases h with h | h
  ·exact .inl (wb a id h)
  ·exact .inr (wb b id h)
 | .undef,_,h | .gone,_,h | .de,_,h | .ri,_,h | .xA,_,h | .De,_,h | .d _ _,_,h | .ptr ..,_,h | .dO ..,_,h | .fn ..,_,h | .cons ..,_,h | .nil,_,h | .vec ..,_,h | .bx ..,_,h | .cj ..,_,h | .mp ..,_,h | .tC ..,_,h | .yl ..,_,h | .rP ..,_,h | .sb _,_,h=>by simp[aB.shared]at h
theorem anL{T:TypeId}{x:aB}(h:∀id∈x.ids,zX (t.bW id) (s.bW id)):QU P t T x=QU P s T x:=by
 unfold QU;split
 ·rename_i id ver p n;rcases RR (h id (by simp[aB.ids])) with⟨h1,h2⟩ | ⟨v,f,f',c,h1,h2⟩ <;> rw[h1,h2]
 ·rfl
 ·rfl
 ·rfl
theorem ahR{n:Nat}{lo hi:Option Operand}(hl:∀x,lo=some x->t.ev x=s.ev x)(hh:∀x,hi=some x->t.ev x=s.ev x):bounds t n lo hi=bounds s n lo hi:=by
 unfold bounds
 cases lo <;> cases hi <;> simp only[] <;> first
  |rfl
  | (rw[hl _ rfl,hh _ rfl])
  |rw[hl _ rfl]
  |rw[hh _ rfl]
theorem RW{T:TypeId}{x:aB}{lo hi:Option Operand}(h:∀id∈x.ids,zX (t.bW id) (s.bW id))(hl:∀x,lo=some x->t.ev x=s.ev x)(hh:∀x,hi=some x->t.ev x=s.ev x):
  JG P t T x lo hi=JG P s T x lo hi:=by
 have hb:∀n,bounds t n lo hi=bounds s n lo hi:=λn=>ahR hl hh
 unfold JG
 split <;> first
  |rfl
  | (rw[Ud (h _ (by simp[aB.ids]))];simp only[hb];done)
  | (simp only[hb];done)
theorem aeM{T:TypeId}{x:aB}{lo:Option Operand}{y m:Operand}(h:∀id∈x.ids,zX (t.bW id) (s.bW id))(hl:∀x,lo=some x->t.ev x=s.ev x)(hh:t.ev y=s.ev y)(hm:t.ev m=s.ev m):
  RV P t T x lo y m=RV P s T x lo y m:=by
 unfold RV;rw[hh,hm,RW h hl λz hz=>by obtain rfl:=bf hz;exact hh]
theorem TA{T:TypeId}{x:aB}{i:Int}(h:∀id∈x.ids,zX (t.bW id) (s.bW id)):tc P t T x i=tc P s T x i:=by
 unfold tc
 split <;> first
  |rfl
  |rw[Ud (h _ (by simp[aB.ids]))]
theorem aml{obj:Bool}{src dst:TypeId}{x:aB}(h:∀id∈x.ids,zX (t.bW id) (s.bW id)):afM P t obj src dst x=afM P s obj src dst x:=by
 unfold afM;split
 ·rfl
 ·unfold aD4
  split <;> first
   |rfl
   | (simp only[AS.asX,pU _ _ h])
theorem ays{T:TypeId}{op:BinOp}{i:Id}{v:Nat}{j:Id}{w:Nat}(h:zX (t.bW i) (s.bW i)):aQu P t T op i v j w=aQu P s T op i v j w:=by unfold aQu;rcases RR h with⟨h1,h2⟩ | ⟨v,f,f',c,h1,h2⟩ <;> rw[h1,h2]
theorem amn{src dst:TypeId}{id:Id}{ver:Nat}(h:zX (t.bW id) (s.bW id)):afN P t src dst id ver=afN P s src dst id ver:=by
 unfold afN;rcases RR h with⟨h1,h2⟩ | ⟨v,f,f',c,h1,h2⟩
 ·rw[h1,h2]
 ·rw[h1,h2]
  cases c <;> first
   |rfl
   | (rename_i e z c;cases z <;> rfl)
theorem BB{ty:Ty}:∀(ps:List (Nat×Operand)) (l:List ty.den),(∀x∈ps,t.ev x.2=s.ev x.2/\∀id∈(s.ev x.2).ids,zX (t.bW id) (s.bW id))->jB ty t ps l=jB ty s ps l
 |[],_,_=>rfl
 | (i,x)::ps,l,h=>by obtain⟨h1,h2⟩:=h (i,x) (aI ..);simp only[jB];simp only at h1 h2;rw[h1,pU _ _ h2];congr 2;funext y;rw[BB ps _ λz hz=>h z (aG _ hz)]
theorem ym{ty:Ty}:∀(ps:List (Nat×Operand)) (l:List ty.den) (r:List ty.den×List Id),(jB ty s ps l).eval=some r->∀id∈r.2,∃x∈ps,id∈(s.ev x.2).ids
 |[],l,r,h,id,cY=>by obtain rfl:=ay.1 h;cases cY
 | (i,x)::ps,l,r,h,id,cY=>by
  simp only[jB]at h;obtain⟨h1,h2⟩:=aC.1 h;obtain⟨y,h3,h4⟩:=aw.1 h2;obtain⟨r',h5,h6⟩:=aw.1 h4;obtain rfl:=ay.1 h6;rcases bz.1 cY with cY | cY
  ·exact⟨(i,x),aI ..,wb _ _ cY⟩
  ·obtain⟨z,hz,Tx⟩:=ym ps _ r' h5 id cY;exact⟨z,aG _ hz,Tx⟩
theorem Hp{fs:Array Field}:∀(ps:List (Nat×Operand)) (v:aB),(∀x∈ps,t.ev x.2=s.ev x.2)->qN P fs t ps v=qN P fs s ps v
 |[],_,_=>rfl
 | (i,x)::ps,v,h=>by
  have h1:=h (i,x) (aI ..);simp only at h1;simp only[qN,h1];have ih:∀v,qN P fs t ps v=qN P fs s ps v:=λv=>Hp ps v λz hz=>h z (aG _ hz)
  simp only[ih]
theorem PI:∀(l:List Operand),(∀x∈l,t.ev x=s.ev x)->sT t l=sT s l
 |[],_=>rfl
 |x::l,h=>by simp only[sT];rw[h x (aI ..),PI l λy hy=>h y (aG _ hy)]
theorem V2{ty:Ty}{X:TypeId}{x:aB}(h:∀id∈x.ids,zX (t.bW id) (s.bW id)):IJ P t ty X x=IJ P s ty X x:=by
 unfold IJ;split
 ·rfl
 ·simp only[AS.asX,pU _ _ h]
theorem mw{v:aB}(h:∀t,mU (gV Γ ops s o) s t->(rh P Γ bJ o t).eval=some (t.put o.dst v)):Ph P Γ bJ ops o s (s.put o.dst v):=
 ⟨⟨v,λ_=>none,[]⟩,App.KJ _ _ _,⟨λ_ _ h=>by simp at h,λ_ h=>by simp at h⟩,λt ht=>⟨_,h t ht,App.KJ _ _ _⟩⟩
theorem oN{F:AS->Out aB}(ho:∀t,rh P Γ bJ o t=(F t).bind λv=> .ok (t.put o.dst v))(hF:∀t,mU (gV Γ ops s o) s t->F t=F s){s':AS}(he:(rh P Γ bJ o s).eval=some s'):Ph P Γ bJ ops o s s':=by
 rw[ho]at he;obtain⟨v,h1,h2⟩:=aw.1 he;obtain rfl:=ay.1 h2;refine mw λt ht=> ?_
 rw[ho,hF t ht,aw];exact⟨v,h1,rfl⟩
theorem X5{v:aB}{ids:List Id}(hi:∀id∈ids,id∈(gV Γ ops s o).rs)(h:∀t,mU (gV Γ ops s o) s t->(rh P Γ bJ o t).eval=some ((t.bB ids).put o.dst v)):Ph P Γ bJ ops o s ((s.bB ids).put o.dst v):=
 ⟨⟨v,λ_=>none,ids⟩,App.Tn _ _ _ _,⟨λ_ _ h=>by simp at h,hi⟩,λt ht=>⟨_,h t ht,App.Tn _ _ _ _⟩⟩
theorem Ba{v:aB}{ids:List Id}{q:Nat}{es:List dE}(hd:o.dst=some q)(hv:s.dY q=true)(hi:∀id∈ids,id∈(gV Γ ops s o).rs)
  (h:∀t,mU (gV Γ ops s o) s t->t.dY q=true->(rh P Γ bJ o t).eval=some (((t.bB ids).born q es).put o.dst v)):Ph P Γ bJ ops o s (((s.bB ids).born q es).put o.dst v):=by
 refine⟨⟨v,SZ q es,ids⟩,by rw[hd];exact App.avg hv _ _ _,⟨λid e h=> .inr ?_,hi⟩,λt ht=> ?_⟩
 ·cases id with
  |bm _=>simp[SZ]at h
  |new i j=>
   simp only[SZ]at h;split at h
   ·rename_i hq;exact⟨q,j,hd,by rw[hq]⟩
   ·cases h
 ·have hv':t.dY q=true:=by rw[ht.dY q hd];exact hv
  exact⟨_,h t ht hv',by rw[hd];exact App.avg hv' _ _ _⟩
theorem FQ{v:aB}{id:Id}{e0 e:dE}(hs:s.bW id=some e0)(hw:id∈(gV Γ ops s o).ws)(h:∀t,mU (gV Γ ops s o) s t->t.bW id=s.bW id->(rh P Γ bJ o t).eval=some ((t.bl id e).put o.dst v)):
  Ph P Γ bJ ops o s ((s.bl id e).put o.dst v):=by
 refine⟨⟨v,λi=>if i=id then some e else none,[]⟩,App.aHZ hs _ _ _,⟨λi e' h=> .inl ?_,λ_ h=>by simp at h⟩,λt ht=> ?_⟩
 ·simp only at h;split at h
  ·rename_i hi;subst hi;exact⟨hw,by rw[hs];simp⟩
  ·cases h
 ·have:=ht.ws id hw;exact⟨_,h t ht this,App.aHZ (this.trans hs) _ _ _⟩
end
end Go.Ab
namespace Go.Ab
section
variable {P:Program} {Γ:oR} {bJ:List Nat} {ops:Array Oper} {o:Oper} {s t:AS}
theorem akw{T:TypeId}{x v:aB}{s':AS}(h:(JK P s T x v).eval=some s'):
  ∃id e0 e,x.ids=[id]/\s.bW id=some e0/\s'=s.bl id e/\∀t:AS,t.bW id=s.bW id->(JK P t T x v).eval=some (t.bl id e):=by
 unfold JK at h;split at h
 ·rename_i id ver p n;cases ml:s.obj id with
  |none=>rw[ml]at h;simp only[av]at h
  |some r=>
   obtain⟨ve,fr,c⟩:=r;rw[ml]at h;obtain⟨h1,h2⟩:=aC.1 h;obtain⟨r,h3,h4⟩:=aw.1 h2;obtain⟨h5,h6⟩:=aC.1 h4;obtain⟨h7,h8⟩:=bS.1 h6;obtain⟨c',h9,aNo⟩:=aw.1 h8;obtain rfl:=ay.1 aNo;refine⟨id,_,_,rfl,ee ml,rfl,λt ht=> ?_⟩;have hob':t.obj id=some (ve,fr,c):=by simp only[AS.obj,ht];exact ml
   unfold JK;simp only[hob'];exact aC.2 ⟨h1,aw.2 ⟨r,h3,aC.2 ⟨h5,bS.2 ⟨h7,aw.2 ⟨c',h9,ay.2 rfl⟩⟩⟩⟩⟩
 ·simp only[av]at h
theorem arD{c:Call}{x y:Operand}{T X:TypeId}(dm:o.op= .call c)(hc:c.callee= .builtin .copy)(ha:c.args.toList=[x,y])(ht:c.argTypes.toList=[T,X]){s':AS}
  (he:(Zl P s o.dst T X (s.ev x) (s.ev y)).eval=some s'):Ph P Γ bJ ops o s s':=by
 have aga:∀t:AS,rh P Γ bJ o t=Zl P t o.dst T X (t.ev x) (t.ev y):=λt=>by unfold rh;rw[dm];simp only[hc,ha,ht]
 have FO:∀z,z=x\/z=y->z∈o.op.operands.toList:=λz hz=>by rw[dm];simp only[Op.operands,Call.operands,hc,aT,bX,ha];simpa using hz
 have hx:∀t,mU (gV Γ ops s o) s t->t.ev x=s.ev x:=λt h=>h.ev (FO x (.inl rfl))
 have hy:∀t,mU (gV Γ ops s o) s t->t.ev y=s.ev y:=λt h=>h.ev (FO y (.inr rfl))
 have hm:∀t,mU (gV Γ ops s o) s t->∀ty,IJ P t ty X (s.ev y)=IJ P s ty X (s.ev y):=λt h ty=>V2 λid cY=>h.alh (agD dm rfl) (FO y (.inr rfl)) cY
 unfold Zl at he;split at he
 ·rename_i e t b id ver len Lg aqt;obtain⟨m,h1,he⟩:=aw.1 he;split at he
  ·rename_i ve n t' l ml;obtain⟨h2,Qx⟩:=aC.1 he;obtain⟨l',h3,adL⟩:=aw.1 Qx;obtain⟨h4,aQy⟩:=bS.1 adL;obtain rfl:=ay.1 aQy;have hw:id∈(gV Γ ops s o).ws:=by show id∈writes Γ s o;unfold writes;rw[dm];simp only[hc,ha,aqt];simp[aB.ids]
   refine FQ (ee ml) hw λt ht ayW=> ?_
   rw[aga t,hx t ht,hy t ht];have hob':t.obj id=some (ve,false,.d (.arr n t') l):=by simp only[AS.obj,ayW];exact ml
   unfold Zl;simp only[Lg,aqt];refine aw.2 ⟨m,by rw[hm t ht];exact h1,?_⟩;simp only[hob'];exact aC.2 ⟨h2,aw.2 ⟨l',h3,bS.2 ⟨h4,ay.2 rfl⟩⟩⟩
  ·exact(av.1 he).elim
 ·exact(av.1 he).elim
theorem ahJ{c:Call}{x y:Operand}{T X:TypeId}(dm:o.op= .call c)(hc:c.callee= .builtin .append)(ha:c.args.toList=[x,y])(ht:c.argTypes.toList=[T,X])(gF:∀k n,s.ev x= .de->s.ev y= .d (.int k) n->False){s':AS}
  (he:(yC P s (ay5 bJ o.dst) (asj bJ o.dst) o.dst T X (s.ev x) (s.ev y)).eval=some s'):Ph P Γ bJ ops o s s':=by
 have aga:∀t:AS,t.ev x=s.ev x->t.ev y=s.ev y->rh P Γ bJ o t=yC P t (ay5 bJ o.dst) (asj bJ o.dst) o.dst T X (t.ev x) (t.ev y):=λt e1 e2=>by
  unfold rh;rw[dm];simp only[hc,ha,ht];split
  ·rename_i k n hx hy;rw[e1]at hx;rw[e2]at hy;exact(gF k n hx hy).elim
  ·rfl
 have FO:∀z,z=x\/z=y->z∈o.op.operands.toList:=λz hz=>by rw[dm];simp only[Op.operands,Call.operands,hc,aT,bX,ha];simpa using hz
 have hx:∀t,mU (gV Γ ops s o) s t->t.ev x=s.ev x:=λt h=>h.ev (FO x (.inl rfl))
 have hy:∀t,mU (gV Γ ops s o) s t->t.ev y=s.ev y:=λt h=>h.ev (FO y (.inr rfl))
 have hm:∀t,mU (gV Γ ops s o) s t->∀ty,IJ P t ty X (s.ev y)=IJ P s ty X (s.ev y):=λt h ty=>V2 λid cY=>h.alh (agD dm rfl) (FO y (.inr rfl)) cY
 unfold yC at he;split at he
 ·rename_i e ty b q Lg hd;obtain⟨m,h1,h2⟩:=aw.1 he;split at h2
  ·rename_i aRP;cases aQx:asj bJ o.dst with
   |true=>
    rw[aQx]at h2;simp only at h2;obtain⟨h5,h6⟩:=bS.1 h2;obtain rfl:=ay.1 h6;refine mw λt ht=> ?_
    rw[aga t (hx t ht) (hy t ht),hx t ht,hy t ht];unfold yC;simp only[hd]at aQx Lg ⊢;simp only[Lg,aRP,aQx];refine aw.2 ⟨m,by rw[hm t ht];exact h1,?_⟩;exact bS.2 ⟨h5,ay.2 rfl⟩
   |false=>
   rw[aQx]at h2;simp only at h2;obtain⟨h3,h4⟩:=aC.1 h2;obtain⟨h5,h6⟩:=bS.1 h4;obtain rfl:=ay.1 h6;refine Ba (ids:=[]) hd h3 (λ_ h=>by cases h) λt ht hv=> ?_
   rw[aga t (hx t ht) (hy t ht),hx t ht,hy t ht];unfold yC;simp only[hd]at aQx Lg ⊢;simp only[Lg,aRP,aQx];refine aw.2 ⟨m,by rw[hm t ht];exact h1,?_⟩;exact aC.2 ⟨hv,bS.2 ⟨h5,ay.2 rfl⟩⟩
  ·rename_i id ver len aRP;split at h2
   ·rename_i v fr e' t' l ml;obtain⟨h3,h4⟩:=aC.1 h2;obtain⟨l',h5,h6⟩:=aw.1 h4;obtain⟨h7,h8⟩:=bS.1 h6;obtain⟨h9,aNo⟩:=bS.1 h8;obtain⟨aWg,af9⟩:=bS.1 aNo;obtain rfl:=ay.1 af9;have hw:id∈(gV Γ ops s o).ws:=by show id∈writes Γ s o;unfold writes;rw[dm];simp only[hc,ha,aRP];simp[aB.ids]
    refine FQ (ee ml) hw λt ht ayW=> ?_
    rw[aga t (hx t ht) (hy t ht),hx t ht,hy t ht];have hob':t.obj id=some (v,fr,.vec e' t' l):=by simp only[AS.obj,ayW];exact ml
    unfold yC;simp only[hd]at Lg ⊢;simp only[Lg,aRP];refine aw.2 ⟨m,by rw[hm t ht];exact h1,?_⟩;simp only[hob'];exact aC.2 ⟨h3,aw.2 ⟨l',h5,bS.2 ⟨h7,bS.2 ⟨h9,bS.2 ⟨aWg,ay.2 rfl⟩⟩⟩⟩⟩
   ·simp only[av]at h2
  ·simp only[av]at h2
 ·simp only[av]at he
theorem T3:∀(n:Nat) (todo acc:List Id),∀id∈acc,id∈s.reach n todo acc
 | 0,_,_,id,h=>h
 |_+1,[],_,id,h=>h
 |n+1,x::todo,acc,id,h=>by
  rw[AS.reach];split
  ·exact T3 n todo acc id h
  ·exact T3 n _ _ id (bz.2 (.inl h))
theorem xE:∀(n:Nat) (todo acc:List Id),(∀id∈s.reach n todo acc,((t.bW id).getD .dead).ids=((s.bW id).getD .dead).ids)->t.reach n todo acc=s.reach n todo acc
 | 0,_,_,_=>rfl
 |_+1,[],_,_=>rfl
 |n+1,x::todo,acc,h=>by
  rw[AS.reach]at h;rw[AS.reach,AS.reach];split
  ·rename_i hc;rw[if_pos hc]at h;exact xE n todo acc h
  ·rename_i hc;rw[if_neg hc]at h;have hx:=h x (T3 n _ _ x (bz.2 (.inr (bk.2 rfl))));rw[hx];exact xE n _ _ h
theorem aLq(e:Option dE):((e.map dE.avH).getD .dead).ids=(e.getD .dead).ids:=by
 cases e with
 |none=>rfl
 |some x=>cases x <;> rfl
theorem XE(ids:List Id)(n:Nat)(todo acc:List Id):(s.bB ids).reach n todo acc=s.reach n todo acc:=by
 refine xE n todo acc λid _=> ?_
 rw[fG];split
 ·exact aLq _
 ·rfl
theorem Nt:∀(ps:List (Option Ty)) (vs:List aB),(∀v∈vs,∀id∈v.ids,zX (t.bW id) (s.bW id))->t.conv ps vs=s.conv ps vs
 |[],[],_=>rfl
 |[],_::_,_=>rfl
 |some _::_,[],_=>rfl
 |none::_,[],_=>rfl
 |some ty::ps,v::vs,h=>by simp only[AS.conv];rw[pU v ty (h v (aI ..)),Nt ps vs λx hx=>h x (aG _ hx)]
 |none::ps,v::vs,h=>by simp only[AS.conv];rw[Nt ps vs λx hx=>h x (aG _ hx)]
theorem Nu:∀(ps:List (Option Ty)) (vs:List aB) (r:List aB×List Id),(s.conv ps vs).eval=some r->r.1.flatMap aB.ids=wE ps vs/\∀id∈r.2,∃v∈vs,id∈v.ids
 |[],[],r,h=>by simp only[AS.conv,ay]at h;subst h;exact⟨rfl,λ_ h=>by cases h⟩
 |some ty::ps,v::vs,r,h=>by
  simp only[AS.conv]at h;obtain⟨x,h1,h2⟩:=aw.1 h;obtain⟨r',h3,h4⟩:=aw.1 h2;obtain rfl:=ay.1 h4;obtain⟨i1,i2⟩:=Nu ps vs r' h3;refine⟨by simp[wE,i1,aB.ids],λid cY=> ?_⟩;rcases bz.1 cY with cY | cY
  ·exact⟨v,aI ..,wb v id cY⟩
  ·obtain⟨u,hu,ale⟩:=i2 id cY;exact⟨u,aG _ hu,ale⟩
 |none::ps,v::vs,r,h=>by simp only[AS.conv]at h;obtain⟨r',h3,h4⟩:=aw.1 h;obtain rfl:=ay.1 h4;obtain⟨i1,i2⟩:=Nu ps vs r' h3;refine⟨by simp[wE,i1],λid cY=> ?_⟩;obtain⟨u,hu,ale⟩:=i2 id cY;exact⟨u,aG _ hu,ale⟩
 |[],_::_,_,h=>by simp only[AS.conv,av]at h
 |some _::_,[],_,h=>by simp only[AS.conv,av]at h
 |none::_,[],_,h=>by simp only[AS.conv,av]at h
theorem anJ:∀(c:aB),∀v∈c.list,∀id∈v.ids,id∈c.ids
 | .cons a b,v,hv,id,cY=>by
  simp only[aB.list,bY]at hv;simp only[aB.ids,bz];rcases hv with rfl | hv
  ·exact .inl cY
  ·exact .inr (anJ b v hv id cY)
 | .sb _,_,h,_,_ | .undef,_,h,_,_ | .gone,_,h,_,_ | .de,_,h,_,_ | .ri,_,h,_,_ | .xA,_,h,_,_ | .De,_,h,_,_ | .d _ _,_,h,_,_ | .ptr ..,_,h,_,_ | .dO ..,_,h,_,_
 | .fn ..,_,h,_,_ | .pr ..,_,h,_,_ | .nil,_,h,_,_ | .vec ..,_,h,_,_ | .bx ..,_,h,_,_ | .cj ..,_,h,_,_ | .mp ..,_,h,_,_ | .tC ..,_,h,_,_ | .yl ..,_,h,_,_ | .rP ..,_,h,_,_ | .bA ..,_,h,_,_=>by simp[aB.list]at h
theorem Wt{ids:List Id}(h:∀id∈ids,t.bW id=s.bW id):t.xG ids=s.xG ids:=by
 funext id ver;unfold AS.xG;cases hi:idxOf id ids with
 |none=>rfl
 |some k=>
  have:t.obj id=s.obj id:=by simp only[AS.obj,h id (cJ (py hi))]
  rw[this]
theorem WY{id:Id}(h:t.bW id=s.bW id):t.CS id=s.CS id:=by simp only[AS.CS,AS.obj,h]
theorem Rp{ids:List Id}(h:∀id∈ids,t.bW id=s.bW id)(q:Nat):t.vY ids q=s.vY ids q:=by
 funext id ver;cases id with
 |new i j=>rfl
 |bm k=>
  simp only[AS.vY];cases hk:ids[k]? with
  |none=>rfl
  |some id=>simp only[WY (h id (cJ hk))]
theorem Qk{ids:List Id}(h:∀id∈ids,t.bW id=s.bW id)(q b:Nat):t.sY ids q b=s.sY ids q b:=by funext e;cases e <;> simp only[AS.sY,Rp h]
theorem amU{ids:List Id}(h:∀id∈ids,t.bW id=s.bW id){id:Id}(cY:id∈ids):t.mZ ids id=s.mZ ids id:=by unfold AS.mZ;rw[h id cY,Wt h]
def oF(s:AS)(ids:List Id)(d:Option Tmp)(G:fK):AS:=(AS.jK s ids (d.getD 0) (s.made ids (d.getD 0) G.news) ids G.bZ).put d (G.val.iV (s.vY ids (d.getD 0)))
theorem afs{ids:List Id}{d:Option Tmp}{G:fK}{s':AS}:(s.back ids d G).eval=some s'↔(G.bZ.length=ids.length/\(G.news=[]\/∃q,d=some q/\s.dY q=true))/\s'=oF s ids d G:=by
 unfold AS.back;cases d with
 |none=>
  rw[aC,ay];simp only[au,dv,List.isEmpty_iff,oF,AS.put,Option.getD_none];constructor
  ·rintro⟨⟨h1,h2⟩,rfl⟩;rw[h2];exact⟨⟨h1,.inl rfl⟩,rfl⟩
  ·rintro⟨⟨h1,h2⟩,rfl⟩;rcases h2 with h2 | ⟨q,hq,_⟩
   ·rw[h2];exact⟨⟨h1,rfl⟩,rfl⟩
   ·cases hq
 |some q=>
  rw[aC,ay];simp only[au,dv,gf,List.isEmpty_iff,oF,dN];constructor
  ·rintro⟨⟨h1,h2⟩,rfl⟩;exact⟨⟨h1,h2.imp id λh=>⟨q,rfl,h⟩⟩,rfl⟩
  ·rintro⟨⟨h1,h2⟩,rfl⟩;refine⟨⟨h1,h2.imp id λ⟨q',hq,h⟩=> ?_⟩,rfl⟩;obtain rfl:q=q':=by simpa using hq
   exact h
theorem VM(s0:AS)(all:List Id)(q:Nat):∀(ids:List Id) (es:List dE) (s:AS),(AS.jK s0 all q s ids es).news.length=s.news.length
 |[],_,_=>by simp[AS.jK]
 |_::_,[],_=>by simp[AS.jK]
 |id::ids,e::es,s=>by rw[AS.jK,VM s0 all q ids es,N6]
theorem aFV(s:AS)(ids:List Id)(q:Nat)(es:List dE):(s.made ids q es).news.length=s.news.length:=by cases es <;> simp[AS.made,AS.born]
def KZ(ids:List Id)(d:Option Tmp)(G:fK)(id:Id):Prop:=id∈ids\/(G.news≠ []/\∃q j,d=some q/\id= .new q j)
theorem YG{ids:List Id}{d:Option Tmp}{G:fK}(hn:ids.Nodup)(hp:∀id∈ids,s.bW id≠none)(hl:G.bZ.length=ids.length)(hv:G.news=[]\/∃q,d=some q/\s.dY q=true):
  (∀id,¬KZ ids d G id->(oF s ids d G).bW id=s.bW id)/\
  (∀(k:Nat) (id:Id) (e:dE),ids[k]? =some id->G.bZ[k]? =some e->(oF s ids d G).bW id=some (s.sY ids (d.getD 0) (s.CS id) e))/\
  (∀q j,G.news≠ []->d=some q->(oF s ids d G).bW (.new q j)=(G.news[j]?).map (s.sY ids q 0))/\
  (∀q j,G.news≠ []->d=some q->s.bW (.new q j)=none):=by
 have hv':G.news=[]\/s.dY (d.getD 0)=true:=by
  rcases hv with h | ⟨q,rfl,h⟩
  ·exact .inl h
  ·exact .inr h
 obtain⟨m1,m2⟩:=amV s ids (d.getD 0) G.news hv';have aNx:∀q j,G.news≠ []->d=some q->s.bW (.new q j)=none:=λq j h1 h2=>by
  rcases hv' with h | h
  ·exact absurd h h1
  ·subst h2;exact(BM.1 h).2 j
 have HF:∀id,s.bW id≠none->G.news=[]\/∀j,id≠ .new (d.getD 0) j:=λid cY=>by
  rcases hv with h | ⟨q,rfl,h⟩
  ·exact .inl h
  ·exact .inr λj e=>cY (by rw[e];exact(BM.1 h).2 j)
 obtain⟨n1,n2⟩:=Ij s ids (d.getD 0) ids G.bZ (s.made ids (d.getD 0) G.news) hn hl (λid cY=>by rw[m1 id (HF id (hp id cY))];exact hp id cY);refine⟨λid cY=> ?_,λk id e h1 h2=> ?_,λq j h1 h2=> ?_,aNx⟩
 ·unfold KZ at cY;simp only[not_or]at cY;rw[oF,Kx,n1 id cY.1];refine m1 id ?_
  by_cases gF:G.news=[]
  ·exact .inl gF
  ·right;intro j e;rcases hv with h | ⟨q,hq,_⟩
   ·exact gF h
   ·exact cY.2 ⟨gF,q,j,hq,by rw[e,hq];rfl⟩
 ·rw[oF,Kx,n2 k id e h1 h2]
 ·subst h2;have aT4:Id.new q j ∉ ids:=λcY=>hp _ cY (aNx q j h1 rfl)
  rw[oF,Kx,n1 _ aT4];exact m2 h1 j
open Classical in
theorem arf{c:Call}{F:Operand}{f:FuncId}{caps:aB}{en:Entry}(dm:o.op= .call c)(hc:c.callee= .value F)(hF:s.ev F= .fn f caps)(hΓ:Γ f (c.args.toList.map s.ev++caps.list)=some en)(gQ:Nat.blt f yB=true){s':AS}
  (he:(s.call en o.dst (c.args.toList.map s.ev++caps.list)).eval=some s'):Ph P Γ bJ ops o s s':=by
 have FO:∀z,z=F\/z∈c.args.toList->z∈o.op.operands.toList:=λz hz=>by
  rw[dm];simp only[Op.operands,Call.operands,hc,bX,bz];rcases hz with rfl | hz
  ·exact .inl (by simp)
  ·exact .inr hz
 have aFo:∀v∈c.args.toList.map s.ev++caps.list,∀id∈v.ids,id∈(gV Γ ops s o).rs:=λv hv id cY=>by
  rcases bz.1 hv with hv | hv
  ·obtain⟨x,hx,rfl⟩:=cT.1 hv;exact NZ (agD dm rfl) (FO x (.inr hx)) cY
  ·refine NZ (agD dm rfl) (FO F (.inl rfl)) ?_
   rw[hF];exact anJ caps v hv id cY
 generalize VF:c.args.toList.map s.ev++caps.list=vs at he aFo hΓ;have aJB:(gV Γ ops s o).ws=s.reach 64 (wE en.params vs) []:=by show writes Γ s o=_;unfold writes;rw[dm];simp only[hc,hF,VF,hΓ]
 have aga:∀t,mU (gV Γ ops s o) s t->rh P Γ bJ o t=t.call en o.dst vs:=λt ht=>by
  unfold rh;rw[dm];have h1:t.ev F= .fn f caps:=by rw[ht.ev (FO F (.inl rfl)),hF]
  have h2:c.args.toList.map t.ev=c.args.toList.map s.ev:=gD λx hx=>ht.ev (FO x (.inr hx))
  obtain⟨cal,args,tys⟩:=c;simp only at hc VF h2;subst hc;simp only[h1,h2,VF,hΓ,gQ,Out.guard]
 unfold AS.call at he;obtain⟨r,h1,h2⟩:=aw.1 he;obtain⟨aFh,ad3⟩:=Nu _ _ r h1;have hlends:∀t:AS,(t.bB r.2).agm r.1=t.reach 64 (wE en.params vs) []:=λt=>by unfold AS.agm;rw[XE,aFh]
 rw[hlends]at h2;generalize hW:s.reach 64 (wE en.params vs) []=W at h2 aJB;have hWn:W.Nodup:=by rw[<-hW];exact tN s _ _ _ (by simp)
 unfold AS.enter at h2;obtain⟨C8,h3⟩:=aC.1 h2;obtain⟨x,hx,h4⟩:=xu.1 h3;obtain⟨x0,aPh,h4⟩:=aw.1 h4;have aUs:=en.awF _ _ aPh;rw[aUs]at h4 aPh;obtain⟨⟨hl,hv⟩,rfl⟩:=afs.1 h4;generalize hG:en.out (r.1.map (aB.iV ((s.bB r.2).xG W))) (W.map ((s.bB r.2).mZ W)) x=G at hl hv h4 ⊢;have hp:∀id∈W,(s.bB r.2).bW id≠none:=λid cY=>by have:=(au _ _▸cW.1 C8 id cY).1;obtain⟨⟨v,fr,c⟩,hr⟩:=bO.1 this;rw[ee hr];simp
 obtain⟨b1,b2,b3,b4⟩:=YG (s:=s.bB r.2) (d:=o.dst) hWn hp hl hv;have hfzent:∀(u:AS) id,u.bW id=none↔(u.bB r.2).bW id=none:=λu id=>by rw[fG];split <;> simp
 let E:aQk:=⟨G.val.iV ((s.bB r.2).vY W (o.dst.getD 0)),λid=>if KZ W o.dst G id then(oF (s.bB r.2) W o.dst G).bW id else none,r.2⟩
 have hslots:∀u:AS,(oF (u.bB r.2) W o.dst G).ct=(u.put o.dst (G.val.iV ((u.bB r.2).vY W (o.dst.getD 0)))).ct:=λu=>by unfold oF;cases o.dst <;> simp[AS.put,DJ,acI,oo]
 have hlen:∀u:AS,(oF (u.bB r.2) W o.dst G).news.length=u.news.length:=λu=>by unfold oF;cases o.dst <;> simp[AS.put,VM,aFV,rD]
 refine⟨E,⟨hslots s,hlen s,λid=> ?_⟩,⟨λid e Xb=> ?_,λid cY=> ?_⟩,λt ht=> ?_⟩
 ·by_cases aCh:KZ W o.dst G id
  ·have Xb:E.up id=(oF (s.bB r.2) W o.dst G).bW id:=if_pos aCh;rw[Xb];cases hb:(oF (s.bB r.2) W o.dst G).bW id with
   |some e=>rfl
   |none=>
    rcases aCh with cY | ⟨gF,q,j,hq,rfl⟩
    ·obtain⟨k,hk⟩:=kN.1 cY;have gQ:k < G.bZ.length:=by rw[hl];exact(dF.1 hk).1
     rw[b2 k id _ hk (bU gQ)]at hb;cases hb
    ·have:=(hfzent s _).2 (b4 q j gF hq);simp[this]
  ·have Xb:E.up id=none:=if_neg aCh;rw[Xb,b1 id aCh,fG]
 ·by_cases aCh:KZ W o.dst G id
  ·rcases aCh with cY | ⟨_,q,j,hq,rfl⟩
   ·left;refine⟨by rw[aJB];exact cY,λh=>hp id cY ((hfzent s id).1 h)⟩
   ·exact .inr ⟨q,j,hq,rfl⟩
  ·have:E.up id=none:=if_neg aCh;rw[this]at Xb;cases Xb
 ·obtain⟨v,hv,cY⟩:=ad3 id cY;exact aFo v hv id cY
 ·have aRs:t.conv en.params vs=s.conv en.params vs:=Nt _ _ λv hv id cY=>ht.rs id (aFo v hv id cY)
  have Pc:∀id∈W,t.bW id=s.bW id:=λid cY=>ht.ws id (by rw[aJB];exact cY)
  have ane:∀id∈W,(t.bB r.2).bW id=(s.bB r.2).bW id:=λid cY=>by rw[fG,fG,Pc id cY]
  have hWt:t.reach 64 (wE en.params vs) []=W:=by
   rw[<-hW];refine xE _ _ _ λid cY=> ?_
   rw[Pc id (by rw[<-hW];exact cY)]
  have aR2:G.news=[]\/∃q,o.dst=some q/\(t.bB r.2).dY q=true:=hv.imp id λ⟨q,hq,h⟩=>⟨q,hq,by
   rw[wc]at h ⊢;rw[ht.dY q hq];exact h⟩
  have aQC:∀id∈W,(t.bB r.2).bW id≠none:=λid cY=>by rw[ane id cY];exact hp id cY
  obtain⟨d1,d2,d3,d4⟩:=YG (s:=t.bB r.2) (d:=o.dst) hWn aQC hl aR2;refine⟨oF (t.bB r.2) W o.dst G,?_,⟨?_,hlen t,λid=> ?_⟩⟩
  ·rw[aga t ht];unfold AS.call;rw[aRs];refine aw.2 ⟨r,h1,?_⟩;rw[hlends,hWt];unfold AS.enter;have hA:(t.bB r.2).xG W=(s.bB r.2).xG W:=Wt ane;have hO:W.map ((t.bB r.2).mZ W)=W.map ((s.bB r.2).mZ W):=gD λid cY=>amU ane cY
   refine aC.2 ⟨?_,xu.2 ⟨x,?_,aw.2 ⟨x,aPh,?_⟩⟩⟩
   ·refine cW.2 λid cY=> ?_
    have:=cW.1 C8 id cY;simp only[AS.obj,AS.TK]at this ⊢;rw[ane id cY];exact this
   ·rw[hA,hO,<-hx]
   ·rw[hA,hO,hG];exact afs.2 ⟨⟨hl,aR2⟩,rfl⟩
  ·rw[hslots t,Rp ane]
  ·by_cases aCh:KZ W o.dst G id
   ·have Xb:E.up id=(oF (s.bB r.2) W o.dst G).bW id:=if_pos aCh;rw[Xb];rcases aCh with cY | ⟨gF,q,j,hq,rfl⟩
    ·obtain⟨k,hk⟩:=kN.1 cY;have gQ:k < G.bZ.length:=by rw[hl];exact(dF.1 hk).1
     rw[b2 k id _ hk (bU gQ),d2 k id _ hk (bU gQ),Qk ane,WY (ane id cY)]
    ·rw[b3 q j gF hq,d3 q j gF hq,Qk ane];cases hn:G.news[j]? with
     |some e=>rfl
     |none=>
      have:=(hfzent t _).2 (d4 q j gF hq);simp[this]
   ·have Xb:E.up id=none:=if_neg aCh;rw[Xb,d1 id aCh,fG]
end
end Go.Ab
namespace Go.Ab
section
variable {P:Program} {Γ:oR} {bJ:List Nat} {ops:Array Oper} {o:Oper} {s t:AS}
theorem Out.bind_assoc{α β γ:Type}(o:Out α)(f:α->Out β)(g:β->Out γ):(o.bind f).bind g=o.bind λa=>(f a).bind g:=by
 induction o with
 |ok a=>rfl
 |fail=>rfl
 |vi c r ih=>simp only[Out.bind,ih]
 |get x h ih=>simp only[Out.bind,ih]
 |br c x y ih1 ih2=>simp only[Out.bind,ih1,ih2]
theorem aos{parts:Array (Nat×Operand)}{x:Nat×Operand}(h:x∈parts.toList):x.2∈(parts.toList.map (·.2)).toArray.toList:=cT.2 ⟨x,h,rfl⟩
theorem axH{T:TypeId}{x:Operand}(dm:o.op= .box T x){s':AS}(he:(alV P s (isObj bJ o.dst) (asj bJ o.dst) o.dst T (s.ev x)).eval=some s'):Ph P Γ bJ ops o s s':=by
 have aga:∀t,rh P Γ bJ o t=alV P t (isObj bJ o.dst) (asj bJ o.dst) o.dst T (t.ev x):=λt=>by unfold rh;rw[dm]
 have hm:x∈o.op.operands.toList:=by rw[dm];simp[Op.operands]
 unfold alV at he;split at he
 ·rename_i q hd;split at he
  ·rename_i ho;obtain⟨h1,h2⟩:=aC.1 he;obtain rfl:=ay.1 h2;simp only[au]at h1;refine Ba (ids:=[]) hd h1.1 (λ_ h=>by cases h) λt ht hv=> ?_
   rw[aga,ht.ev hm];unfold alV;simp only[hd]at ho ⊢;simp only[ho];exact aC.2 ⟨by simp[hv,h1.2],ay.2 rfl⟩
  ·rename_i ho;split at he
   ·rename_i ty aRY;obtain⟨h1,h2⟩:=aC.1 he;obtain⟨y,h3,h4⟩:=aw.1 h2;obtain rfl:=ay.1 h4;refine X5 (λid cY=>NZ (agD dm rfl) hm (wb _ _ cY)) λt ht=> ?_
    rw[aga,ht.ev hm];unfold alV;simp only[hd]at ho ⊢;simp only[ho,aRY];refine aC.2 ⟨h1,aw.2 ⟨y,?_,ay.2 rfl⟩⟩;rw[pU _ _ λid cY=>ht.alh (agD dm rfl) hm cY];exact h3
   ·simp only[av]at he
 ·simp only[av]at he
theorem apX{T:TypeId}{x:Operand}(dm:o.op= .sliceToArrayPointer T x){s':AS}(he:(OW P s o.dst T (s.ev x)).eval=some s'):Ph P Γ bJ ops o s s':=by
 have aga:∀t,rh P Γ bJ o t=OW P t o.dst T (t.ev x):=λt=>by unfold rh;rw[dm]
 have hm:x∈o.op.operands.toList:=by rw[dm];simp[Op.operands]
 unfold OW at he;split at he
 ·rename_i n e hT;split at he
  ·rename_i ty aRY;obtain⟨h1,h2⟩:=aC.1 he;obtain⟨l,h3,h4⟩:=aw.1 h2;obtain⟨h5,h6⟩:=bS.1 h4;obtain rfl:=ay.1 h6;refine X5 (λid cY=>NZ (agD dm rfl) hm (wb _ _ cY)) λt ht=> ?_
   rw[aga,ht.ev hm];unfold OW;simp only[hT,aRY];refine aC.2 ⟨h1,aw.2 ⟨l,?_,bS.2 ⟨h5,ay.2 rfl⟩⟩⟩;rw[pU _ _ λid cY=>ht.alh (agD dm rfl) hm cY];exact h3
  ·simp only[av]at he
 ·simp only[av]at he
theorem alZ{T:TypeId}{parts:Array (Nat×Operand)}(dm:o.op= .build T parts){s':AS}(he:(H0 P s o.dst T parts.toList).eval=some s'):Ph P Γ bJ ops o s s':=by
 have aga:∀t,rh P Γ bJ o t=H0 P t o.dst T parts.toList:=λt=>by unfold rh;rw[dm]
 have hm:∀x∈parts.toList,x.2∈o.op.operands.toList:=λx hx=>by rw[dm];exact aos hx
 unfold H0 at he;split at he
 ·rename_i fs hT;split at he
  ·rename_i z hz;obtain⟨h1,h2⟩:=aC.1 he;obtain⟨v,h3,h4⟩:=aw.1 h2;obtain rfl:=ay.1 h4;refine mw λt ht=> ?_
   rw[aga];unfold H0;simp only[hT,hz];refine aC.2 ⟨h1,aw.2 ⟨v,?_,ay.2 rfl⟩⟩;rw[Hp _ _ λx hx=>ht.ev (hm x hx)];exact h3
  ·simp only[av]at he
 ·rename_i n e hT;split at he
  ·rename_i ty aRY;obtain⟨h1,h2⟩:=aC.1 he;obtain⟨r,h3,h4⟩:=aw.1 h2;obtain rfl:=ay.1 h4;refine X5 (λid cY=> ?_) λt ht=> ?_
   ·obtain⟨x,hx,hi⟩:=ym _ _ _ h3 id cY;exact NZ (agD dm rfl) (hm x hx) hi
   ·rw[aga];unfold H0;simp only[hT,aRY];refine aC.2 ⟨h1,aw.2 ⟨r,?_,ay.2 rfl⟩⟩;rw[BB _ _ λx hx=>⟨ht.ev (hm x hx),λid cY=>ht.alh (agD dm rfl) (hm x hx) cY⟩];exact h3
  ·simp only[av]at he
 ·simp only[av]at he
theorem S4{T:TypeId}{n:Nat}{parts:Array (Nat×Operand)}(dm:o.op= .buildSlice T n parts){s':AS}(he:(mW P s (ay5 bJ o.dst) (isObj bJ o.dst) o.dst T n parts.toList).eval=some s'):Ph P Γ bJ ops o s s':=by
 have aga:∀t,rh P Γ bJ o t=mW P t (ay5 bJ o.dst) (isObj bJ o.dst) o.dst T n parts.toList:=λt=>by unfold rh;rw[dm]
 have hm:∀x∈parts.toList,x.2∈o.op.operands.toList:=λx hx=>by rw[dm];exact aos hx
 unfold mW at he;split at he
 ·rename_i e ty b q Lg hd;obtain⟨h1,h2⟩:=aC.1 he;obtain⟨r,h3,h4⟩:=aw.1 h2;have avO:∀id∈r.2,id∈(gV Γ ops s o).rs:=λid cY=>by obtain⟨x,hx,hi⟩:=ym _ _ _ h3 id cY;exact NZ (agD dm rfl) (hm x hx) hi
  have aRs:∀t,mU (gV Γ ops s o) s t->∀l,jB ty t parts.toList l=jB ty s parts.toList l:=λt ht l=>BB _ _ λx hx=>⟨ht.ev (hm x hx),λid cY=>ht.alh (agD dm rfl) (hm x hx) cY⟩
  split at h4
  ·rename_i ho;obtain⟨h5,h6⟩:=aC.1 h4;obtain rfl:=ay.1 h6;refine Ba hd h5 avO λt ht hv=> ?_
   rw[aga];unfold mW;simp only[hd]at ho Lg ⊢;simp only[Lg,ho];refine aC.2 ⟨h1,aw.2 ⟨r,by rw[aRs t ht];exact h3,aC.2 ⟨hv,ay.2 rfl⟩⟩⟩
  ·rename_i ho;obtain rfl:=ay.1 h4;refine X5 avO λt ht=> ?_
   rw[aga];unfold mW;simp only[hd]at ho Lg ⊢;simp only[Lg,ho];exact aC.2 ⟨h1,aw.2 ⟨r,by rw[aRs t ht];exact h3,ay.2 rfl⟩⟩
 ·simp only[av]at he
theorem Xf{T:TypeId}{x y:Operand}(dm:o.op= .makeSlice T x y){len cap:Int}(hx:(asInt (s.ev x)).eval=some len)(hy:(asInt (s.ev y)).eval=some cap){s':AS}(he:(tg P s o.dst T len cap).eval=some s'):Ph P Γ bJ ops o s s':=by
 have aga:∀t,rh P Γ bJ o t=(asInt (t.ev x)).bind λl=>(asInt (t.ev y)).bind λc=>tg P t o.dst T l c:=λt=>by unfold rh;rw[dm]
 have hm:∀z,z=x\/z=y->z∈o.op.operands.toList:=λz hz=>by rw[dm];simpa[Op.operands]using hz
 unfold tg at he;split at he
 ·rename_i e ty b q Lg hd;obtain⟨h1,h2⟩:=aC.1 he;obtain⟨h3,h4⟩:=bS.1 h2;obtain rfl:=ay.1 h4;refine Ba (ids:=[]) hd h1 (λ_ h=>by cases h) λt ht hv=> ?_
  rw[aga,ht.ev (hm x (.inl rfl)),ht.ev (hm y (.inr rfl))];refine aw.2 ⟨len,hx,aw.2 ⟨cap,hy,?_⟩⟩;unfold tg;simp only[Lg,hd];exact aC.2 ⟨hv,bS.2 ⟨h3,ay.2 rfl⟩⟩
 ·simp only[av]at he
theorem ajw{id:Id}{ver:Nat}{kt vt:Ty}(h:zX (t.bW id) (s.bW id)):t.uQ id ver kt vt=s.uQ id ver kt vt:=by
 unfold AS.uQ;rcases RR h with⟨h1,h2⟩ | ⟨v,f,f',c,h1,h2⟩
 ·rw[h1,h2]
 ·rw[h1,h2];cases c <;> rfl
theorem ad9{T:TypeId}{m k:aB}{ok:Bool}(h:∀id∈m.ids,zX (t.bW id) (s.bW id)):FT P t T m k ok=FT P s T m k ok:=by
 unfold FT;split
 ·rename_i id ver hm;rw[ajw (h id (by simp[aB.ids]))]
 ·rfl
theorem agp{id:Id}{ver:Nat}{kt vt:Ty}{l:List (kt.den×vt.den)}(h:(s.uQ id ver kt vt).eval=some l):∃e,s.bW id=some e:=by
 unfold AS.uQ at h;split at h
 ·rename_i v fr k' v' l' ml;exact⟨_,ee ml⟩
 ·simp only[av]at h
theorem VV{id:Id}{ver:Nat}{kt vt:Ty}(h:t.bW id=s.bW id):t.uQ id ver kt vt=s.uQ id ver kt vt:=by unfold AS.uQ AS.obj;rw[h]
theorem MY{id:Id}(h:t.bW id=s.bW id):t.vg id=s.vg id:=by unfold AS.vg AS.obj;rw[h]
theorem aed{T:TypeId}{m k v:aB}{s':AS}(h:(FY P s T m k v).eval=some s'):
  ∃id e0 e,m.ids=[id]/\s.bW id=some e0/\s'=s.bl id e/\∀t:AS,t.bW id=s.bW id->(FY P t T m k v).eval=some (t.bl id e):=by
 unfold FY at h;split at h
 ·rename_i K V kt vt id ver hm;obtain⟨l,h1,h⟩:=aw.1 h;obtain⟨kx,h2,h⟩:=aw.1 h;obtain⟨vx,h3,h⟩:=aw.1 h;obtain⟨hu,h⟩:=aC.1 h;obtain rfl:=ay.1 h;obtain⟨e0,aiY⟩:=agp h1;refine⟨id,e0,_,rfl,aiY,rfl,λt ht=> ?_⟩;unfold FY;simp only[hm];exact aw.2 ⟨l,by rw[VV ht];exact h1,aw.2 ⟨kx,h2,aw.2 ⟨vx,h3,aC.2 ⟨by rw[MY ht];exact hu,ay.2 rfl⟩⟩⟩⟩
 ·simp only[av]at h
theorem aec{T:TypeId}{m k:aB}{s':AS}(h:(FX P s T m k).eval=some s'):
  ∃id e0 e,m.ids=[id]/\s.bW id=some e0/\s'=s.bl id e/\∀t:AS,t.bW id=s.bW id->(FX P t T m k).eval=some (t.bl id e):=by
 unfold FX at h;split at h
 ·rename_i K V kt vt id ver hm;obtain⟨l,h1,h⟩:=aw.1 h;obtain⟨kx,h2,h⟩:=aw.1 h;obtain⟨hu,h⟩:=aC.1 h;obtain rfl:=ay.1 h;obtain⟨e0,aiY⟩:=agp h1;refine⟨id,e0,_,rfl,aiY,rfl,λt ht=> ?_⟩;unfold FX;simp only[hm];exact aw.2 ⟨l,by rw[VV ht];exact h1,aw.2 ⟨kx,h2,aC.2 ⟨by rw[MY ht];exact hu,ay.2 rfl⟩⟩⟩
 ·simp only[av]at h
theorem afq{s':AS}(he:(rh P Γ bJ o s).eval=some s'):Ph P Γ bJ ops o s s':=by
 have aiY:=he;have one:∀x,o.op.operands= #[x]->∀t,mU (gV Γ ops s o) s t->t.ev x=s.ev x/\(agq o.op=false->∀id∈(s.ev x).ids,zX (t.bW id) (s.bW id)):=λx hx t ht=>
  have hm:x∈o.op.operands.toList:=by rw[hx];simp
  ⟨ht.ev hm,λhn _ cY=>ht.alh hn hm cY⟩
 unfold rh at he;split at he
 ·rename_i x dm;obtain rfl:=ay.1 he;refine mw λt ht=> ?_
  unfold rh;rw[dm];simp only;rw[(one x (by rw[dm];rfl) t ht).1];rfl
 ·rename_i x dm;obtain rfl:=ay.1 he;refine mw λt ht=> ?_
  unfold rh;rw[dm];simp only;rw[(one x (by rw[dm];rfl) t ht).1];rfl
 ·rename_i c x y dm;refine oN (F:=λt=>awn (t.ev c) (t.ev x) (t.ev y)) (λt=>by unfold rh;rw[dm]) (λt ht=> ?_) aiY;rw[ht.ev (by rw[dm];simp[Op.operands]),ht.ev (by rw[dm];simp[Op.operands]),ht.ev (by rw[dm];simp[Op.operands])]
 ·rename_i T dm;split at he
  ·rename_i z q hz hq;obtain⟨h1,h2⟩:=aC.1 he;obtain rfl:=ay.1 h2;simp only[au]at h1;refine Ba (ids:=[]) hq h1.1 (λ_ h=>by cases h) λt ht hv=> ?_
   unfold rh;rw[dm];simp only[hz,hq];exact aC.2 ⟨by simp[hv,h1.2],ay.2 rfl⟩
  ·exact(av.1 he).elim
 ·rename_i T x dm;exact axH dm he
 ·rename_i T parts dm;exact alZ dm he
 ·rename_i T n parts dm;exact S4 dm he
 ·rename_i T x dm;refine oN (F:=λt=>QU P t T (t.ev x)) (λt=>by unfold rh;rw[dm]) (λt ht=> ?_) aiY;obtain⟨h1,h2⟩:=one x (by rw[dm];rfl) t ht;rw[h1,anL (h2 (agD dm rfl))]
 ·rename_i T x v dm;obtain⟨s1,h1,h2⟩:=aw.1 he;obtain rfl:=ay.1 h2;obtain⟨id,e0,e,cY,hs,rfl,hl⟩:=akw h1;refine FQ hs ?_ λt ht ayW=> ?_
  ·show id∈writes Γ s o;unfold writes;rw[dm];simp only[cY,bk]
  ·unfold rh;rw[dm];simp only;rw[ht.ev (x:=x) (by rw[dm];simp[Op.operands]),ht.ev (x:=v) (by rw[dm];simp[Op.operands])];exact aw.2 ⟨_,hl t ayW,ay.2 rfl⟩
 ·rename_i x dm;split at he
  ·rename_i id v p n hx;obtain rfl:=ay.1 he;refine mw λt ht=> ?_
   unfold rh;rw[dm];simp only[(one x (by rw[dm];rfl) t ht).1,hx];rfl
  ·rename_i ty y hx;obtain rfl:=ay.1 he;refine mw λt ht=> ?_
   unfold rh;rw[dm];simp only[(one x (by rw[dm];rfl) t ht).1,hx];rfl
  ·rename_i ty y hx;obtain⟨z,e,he⟩:=xu.1 he;obtain rfl:=ay.1 he;refine mw λt ht=> ?_
   unfold rh;rw[dm];simp only[(one x (by rw[dm];rfl) t ht).1,hx];exact xu.2 ⟨z,e,ay.2 rfl⟩
  ·rename_i f c hx;obtain rfl:=ay.1 he;refine mw λt ht=> ?_
   unfold rh;rw[dm];simp only[(one x (by rw[dm];rfl) t ht).1,hx];rfl
  ·exact(av.1 he).elim
 ·rename_i op T x y U dm;have aFf:x∈o.op.operands.toList:=by rw[dm];simp[Op.operands]
  have aQB:y∈o.op.operands.toList:=by rw[dm];simp[Op.operands]
  split at he
  ·rename_i i v1 j v2 hx hy;obtain⟨v,h1,h2⟩:=aw.1 he;obtain rfl:=ay.1 h2;refine mw λt ht=> ?_
   unfold rh;rw[dm];simp only[ht.ev aFf,ht.ev aQB,hx,hy];exact aw.2 ⟨v,by rw[ays (ht.alh (agD dm rfl) aFf (by rw[hx];simp[aB.ids]))];exact h1,rfl⟩
  ·rename_i gF;obtain⟨v,h1,h2⟩:=aw.1 he;obtain rfl:=ay.1 h2;refine mw λt ht=> ?_
   unfold rh;rw[dm];simp only[ht.ev aFf,ht.ev aQB];exact aw.2 ⟨v,h1,rfl⟩
 ·rename_i op T x dm;refine oN (F:=λt=>aTa op (t.ev x)) (λt=>by unfold rh;rw[dm]) (λt ht=> ?_) aiY;rw[(one x (by rw[dm];rfl) t ht).1]
 ·rename_i T U x dm;split at he
  ·rename_i id ver len hTU hx;unfold amm at he;split at he
   ·rename_i v e0 l e ml hD;split at he
    ·rename_i hE;obtain⟨h1,h2⟩:=aC.1 he;obtain⟨h3,h4⟩:=bS.1 h2;obtain rfl:=ay.1 h4;refine FQ (ee ml) ?_ λt ht ayW=> ?_
     ·show id∈writes Γ s o;unfold writes;rw[dm];simp only[hTU,hx];simp[aB.ids]
     ·have hob':t.obj id=some (v,false,.vec e0 (.int .u8) l):=by simp only[AS.obj,ayW];exact ml
      unfold rh;rw[dm];simp only[hTU,(one x (by rw[dm];rfl) t ht).1,hx];unfold amm;simp only[hob',hD,hE];exact aC.2 ⟨h1,bS.2 ⟨h3,ay.2 rfl⟩⟩
    ·exact(av.1 he).elim
   ·exact(av.1 he).elim
  ·rename_i id ver hx;obtain⟨v,h1,h2⟩:=aw.1 he;obtain rfl:=ay.1 h2;refine mw λt ht=> ?_
   obtain⟨h3,h4⟩:=one x (by rw[dm];rfl) t ht;unfold rh;rw[dm];simp only[h3,hx];exact aw.2 ⟨v,by rw[amn (h4 (agD dm rfl) _ (by rw[hx];simp[aB.ids]))];exact h1,rfl⟩
  ·rename_i gF;obtain⟨v,h1,h2⟩:=aw.1 he;obtain rfl:=ay.1 h2;refine mw λt ht=> ?_
   obtain⟨h3,h4⟩:=one x (by rw[dm];rfl) t ht;unfold rh;rw[dm];simp only[h3];exact aw.2 ⟨v,by rw[aml (h4 (agD dm rfl))];exact h1,rfl⟩
 ·rename_i T x dm;exact apX dm he
 ·rename_i f first caps dm
  obtain⟨h1,h2⟩:=aC.1 he;obtain rfl:=ay.1 h2;refine mw λt ht=> ?_
  have hc:sT t caps.toList=sT s caps.toList:=PI _ λx hx=>ht.ev (by rw[dm];simp only[Op.operands,bX];exact bz.2 (.inr hx))
  unfold rh;rw[dm];simp only[hc];exact aC.2 ⟨h1,ay.2 rfl⟩
 ·rename_i T l c dm;obtain⟨n,h1,h2⟩:=aw.1 he;obtain⟨m,h3,h4⟩:=aw.1 h2;exact Xf dm h1 h3 h4
 ·rename_i T x lo hi dm;refine oN (F:=λt=>JG P t T (t.ev x) lo hi) (λt=>by unfold rh;rw[dm]) (λt ht=> ?_) aiY;have hm:∀z,(z=x\/lo=some z\/hi=some z)->z∈o.op.operands.toList:=λz hz=>by
   rw[dm];simp only[Op.operands,bX,bz];rcases hz with rfl | rfl | rfl
   ·left;left;left;simp
   ·left;left;right;simp
   ·left;right;simp
  have hx:=hm x (.inl rfl);rw[ht.ev hx];exact RW (λid cY=>ht.alh (agD dm rfl) hx cY) (λy hy=>ht.ev (hm y (.inr (.inl hy)))) (λy hy=>ht.ev (hm y (.inr (.inr hy))))
 ·rename_i T x lo y m dm;refine oN (F:=λt=>RV P t T (t.ev x) lo y m) (λt=>by unfold rh;rw[dm]) (λt ht=> ?_) aiY;have hm:∀z,(z=x\/lo=some z\/y=z\/m=z)->z∈o.op.operands.toList:=λz hz=>by
   rw[dm];simp only[Op.operands,bX,bz];rcases hz with rfl | rfl | rfl | rfl
   ·left;left;left;simp
   ·left;left;right;simp
   ·left;right;simp
   ·right;simp
  have hx:=hm x (.inl rfl);rw[ht.ev hx];exact aeM (λid cY=>ht.alh (agD dm rfl) hx cY) (λz hz=>ht.ev (hm z (.inr (.inl hz)))) (ht.ev (hm y (.inr (.inr (.inl rfl))))) (ht.ev (hm m (.inr (.inr (.inr rfl)))))
 ·rename_i T x f dm;refine oN (F:=λt=>FJ P T (t.ev x) f) (λt=>by unfold rh;rw[dm]) (λt ht=> ?_) aiY;rw[(one x (by rw[dm];rfl) t ht).1]
 ·rename_i T x f dm;refine oN (F:=λt=>aiP P T (t.ev x) f) (λt=>by unfold rh;rw[dm]) (λt ht=> ?_) aiY;rw[(one x (by rw[dm];rfl) t ht).1]
 ·rename_i T x i dm;refine oN (F:=λt=>(asInt (t.ev i)).bind λi=>tc P t T (t.ev x) i) (λt=>by unfold rh;rw[dm,Out.bind_assoc]) (λt ht=> ?_) aiY;have hx:x∈o.op.operands.toList:=by rw[dm];simp[Op.operands]
  rw[ht.ev (x:=i) (by rw[dm];simp[Op.operands]),ht.ev hx];congr 1;funext i;exact TA λid cY=>ht.alh (agD dm rfl) hx cY
 ·rename_i T x i dm;refine oN (F:=λt=>(asInt (t.ev i)).bind λi=>aja P T (t.ev x) i) (λt=>by unfold rh;rw[dm,Out.bind_assoc]) (λt ht=> ?_) aiY;rw[ht.ev (x:=i) (by rw[dm];simp[Op.operands]),ht.ev (x:=x) (by rw[dm];simp[Op.operands])]
 ·rename_i x i dm;refine oN (F:=λt=>Out.opt ((t.ev x).list[i]?)) (λt=>by unfold rh;rw[dm]) (λt ht=> ?_) aiY;rw[(one x (by rw[dm];rfl) t ht).1]
 ·rename_i T dm;have Qx:=he;unfold II at Qx;split at Qx
  ·rename_i K V kt vt q hm hd;obtain⟨h1,h2⟩:=aC.1 Qx;obtain rfl:=ay.1 h2;refine Ba (ids:=[]) hd h1 (λ_ h=>by cases h) λt ht hv=> ?_
   unfold rh;rw[dm];simp only;unfold II;simp only[hm,hd];exact aC.2 ⟨hv,ay.2 rfl⟩
  ·exact(av.1 Qx).elim
 ·rename_i T x i ok dm;refine oN (F:=λt=>FT P t T (t.ev x) (t.ev i) ok) (λt=>by unfold rh;rw[dm]) (λt ht=> ?_) aiY;have hx:x∈o.op.operands.toList:=by rw[dm];simp[Op.operands]
  rw[ht.ev (x:=i) (by rw[dm];simp[Op.operands]),ht.ev hx];exact ad9 λid cY=>ht.alh (agD dm rfl) hx cY
 ·rename_i T m k x dm;obtain⟨s1,h1,h2⟩:=aw.1 he;obtain rfl:=ay.1 h2;obtain⟨id,e0,e,cY,hs,rfl,hl⟩:=aed h1;refine FQ hs ?_ λt ht ayW=> ?_
  ·show id∈writes Γ s o;unfold writes;rw[dm];simp only[cY,bk]
  ·unfold rh;rw[dm];simp only;rw[ht.ev (x:=m) (by rw[dm];simp[Op.operands]),ht.ev (x:=k) (by rw[dm];simp[Op.operands]),ht.ev (x:=x) (by rw[dm];simp[Op.operands])];exact aw.2 ⟨_,hl t ayW,ay.2 rfl⟩
 ·rename_i c dm;obtain⟨cal,args,tys⟩:=c;simp only at he;split at he
  ·split at he
   ·rename_i m k T T2 ha ht';have aTZ:m∈o.op.operands.toList:=by rw[dm];simp only[Op.operands,Call.operands,aT,bX,ha];simp
    have aLa:k∈o.op.operands.toList:=by rw[dm];simp only[Op.operands,Call.operands,aT,bX,ha];simp
    obtain⟨s1,h1,h2⟩:=aw.1 he;obtain rfl:=ay.1 h2;obtain⟨id,e0,e,cY,hs,rfl,hl⟩:=aec h1;refine FQ hs ?_ λt ht ayW=> ?_
    ·show id∈writes Γ s o;unfold writes;rw[dm];simp only[ha,cY,bk]
    ·unfold rh;rw[dm];simp only[ha,ht'];rw[ht.ev aTZ,ht.ev aLa];exact aw.2 ⟨_,hl t ayW,ay.2 rfl⟩
   ·exact(av.1 he).elim
  ·split at he
   ·rename_i x y T X ha ht';exact arD dm rfl ha ht' he
   ·exact(av.1 he).elim
  ·split at he
   ·rename_i x T ha ht';refine oN (F:=λt=>aLG P T (t.ev x)) (λt=>by unfold rh;rw[dm];simp only[ha,ht']) (λt ht=> ?_) aiY;rw[ht.ev (by rw[dm];simp only[Op.operands,Call.operands,aT,bX,ha];simp)]
   ·exact(av.1 he).elim
  ·split at he
   ·rename_i x y T X ha ht';have aFf:x∈o.op.operands.toList:=by rw[dm];simp only[Op.operands,Call.operands,aT,bX,ha];simp
    have aQB:y∈o.op.operands.toList:=by rw[dm];simp only[Op.operands,Call.operands,aT,bX,ha];simp
    split at he
    ·rename_i k n hx hy;have Qx:=he;unfold anb at Qx;split at Qx
     ·rename_i e t0 b q kn Lg hd hX;obtain⟨h1,h2⟩:=aC.1 Qx;obtain⟨h3,h4⟩:=bS.1 h2;obtain rfl:=ay.1 h4;refine Ba (ids:=[]) hd h1 (λ_ h=>by cases h) λt ht hv=> ?_
      unfold rh;rw[dm];simp only[ha,ht',ht.ev aFf,ht.ev aQB,hx,hy];unfold anb;simp only[Lg,hd,hX];exact aC.2 ⟨hv,bS.2 ⟨h3,ay.2 rfl⟩⟩
     ·exact(av.1 Qx).elim
    ·rename_i gF;exact ahJ dm rfl ha ht' gF he
   ·exact(av.1 he).elim
  ·split at he
   ·rename_i x T ha ht';have aFf:x∈o.op.operands.toList:=by rw[dm];simp only[Op.operands,Call.operands,aT,bX,ha];simp
    split at he
    ·rename_i e hx hT;obtain rfl:=ay.1 he;refine mw λt ht=> ?_
     unfold rh;rw[dm];simp only[ha,ht',ht.ev aFf,hx,hT];rfl
    ·exact(av.1 he).elim
   ·exact(av.1 he).elim
  ·refine oN (F:=λt=>azv true (args.toList.map t.ev)) (λt=>by unfold rh;rw[dm]) (λt ht=> ?_) aiY;congr 1;exact gD λx hx=>ht.ev (by rw[dm];simp only[Op.operands,Call.operands,aT,bX];exact hx)
  ·refine oN (F:=λt=>azv false (args.toList.map t.ev)) (λt=>by unfold rh;rw[dm]) (λt ht=> ?_) aiY;congr 1;exact gD λx hx=>ht.ev (by rw[dm];simp only[Op.operands,Call.operands,aT,bX];exact hx)
  ·split at he
   ·rename_i x ha;have aFf:x∈o.op.operands.toList:=by rw[dm];simp only[Op.operands,Call.operands,aT,bX,ha];simp
    split at he
    ·rename_i id ver len hx;obtain⟨h1,h2⟩:=bS.1 he;obtain rfl:=ay.1 h2;refine mw λt ht=> ?_
     unfold rh;rw[dm];simp only[ha,ht.ev aFf,hx];exact bS.2 ⟨h1,rfl⟩
    ·exact(av.1 he).elim
   ·exact(av.1 he).elim
  ·split at he
   ·rename_i x y T U ha ht';have aFf:x∈o.op.operands.toList:=by rw[dm];simp only[Op.operands,Call.operands,aT,bX,ha];simp
    have aQB:y∈o.op.operands.toList:=by rw[dm];simp only[Op.operands,Call.operands,aT,bX,ha];simp
    split at he
    ·rename_i id ver n hx hy;have Qx:=he;unfold apS at Qx;split at Qx
     ·rename_i v e l u ml hT;obtain⟨h1,h2⟩:=aC.1 Qx;obtain⟨h3,h4⟩:=bS.1 h2;obtain rfl:=ay.1 h4;refine FQ (ee ml) ?_ λt ht ayW=> ?_
      ·show id∈writes Γ s o;unfold writes;rw[dm];simp only[ha,hx];simp[aB.ids]
      ·have hob':t.obj id=some (v,false,.vec e (.int .u8) l):=by simp only[AS.obj,ayW];exact ml
       unfold rh;rw[dm];simp only[ha,ht',ht.ev aFf,ht.ev aQB,hx,hy];unfold apS;simp only[hob',hT];exact aC.2 ⟨h1,bS.2 ⟨h3,ay.2 rfl⟩⟩
     ·exact(av.1 Qx).elim
    ·exact(av.1 he).elim
   ·exact(av.1 he).elim
  ·rename_i F _;split at he
   ·rename_i f caps hF;split at he
    ·rename_i en ar3;obtain⟨gQ,he⟩:=aC.1 he;exact arf dm rfl hF ar3 gQ he
    ·exact(av.1 he).elim
   ·exact(av.1 he).elim
  ·exact(av.1 he).elim
 ·exact(av.1 he).elim
end
end Go.Ab
namespace Go.Ab
section
variable {P:Program} {Γ:oR} {bJ:List Nat} {ops:Array Oper} {o:Oper} {s t:AS}
def Loc(P:Program)(Γ:oR)(bJ:List Nat)(ops:Array Oper)(o:Oper)(s s':AS):Prop:=∃E,App o.dst E s s'/\ahE (gV Γ ops s o) s E/\∀t,mU (gV Γ ops s o) s t->∃t',Ld P Γ bJ ops o t=some t'/\App o.dst E t t'
theorem ZZ{s':AS}(he:Ld P Γ bJ ops o s=some s'):Loc P Γ bJ ops o s s':=by
 unfold Ld at he;split at he
 ·rename_i hg;obtain⟨E,h1,h2,h3⟩:=afq (ops:=ops) he;refine⟨E,h1,h2,λt ht=> ?_⟩;obtain⟨t',h4,h5⟩:=h3 t ht;exact⟨t',by unfold Ld;simp only[hg];exact h4,h5⟩
 ·rename_i j want hg;split at he
  ·rename_i q hq;split at he
   ·rename_i b hb;have avP:∀t,mU (gV Γ ops s o) s t->t.slot q= .d .bool b:=λt ht=>by rw[ht.ct q (bz.2 (.inr (by unfold Tp;simp only[hg,hq];simp)))];exact hb
    by_cases e:b=want
    ·rw[if_pos e]at he;obtain⟨E,h1,h2,h3⟩:=afq (ops:=ops) he;refine⟨E,h1,h2,λt ht=> ?_⟩;obtain⟨t',h4,h5⟩:=h3 t ht;exact⟨t',by unfold Ld;simp only[hg,hq,avP t ht,if_pos e];exact h4,h5⟩
    ·rw[if_neg e]at he;simp only[az]at he;subst he;exact⟨⟨.nil,λ_=>none,[]⟩,App.KJ _ _ _,⟨λ_ _ h=>by simp at h,λ_ h=>by simp at h⟩,λt ht=>⟨_,by unfold Ld;simp only[hg,hq,avP t ht,if_neg e],App.KJ _ _ _⟩⟩
   ·rename_i hb;have avP:∀t,mU (gV Γ ops s o) s t->t.slot q= .nil:=λt ht=>by rw[ht.ct q (bz.2 (.inr (by unfold Tp;simp only[hg,hq];simp)))];exact hb
    simp only[az]at he;subst he;exact⟨⟨.nil,λ_=>none,[]⟩,App.KJ _ _ _,⟨λ_ _ h=>by simp at h,λ_ h=>by simp at h⟩,λt ht=>⟨_,by unfold Ld;simp only[hg,hq,avP t ht],App.KJ _ _ _⟩⟩
   ·cases he
  ·cases he
theorem ak3(h:mU (gV Γ ops s o) s t):writes Γ t o=writes Γ s o:=by
 have aJB:∀id∈writes Γ s o,t.bW id=s.bW id:=h.ws;unfold writes at aJB ⊢;split
 ·rename_i x v dm;rw[h.ev (by rw[dm];simp[Op.operands])]
 ·rename_i m k v dm;rw[h.ev (by rw[dm];simp[Op.operands])]
 ·rename_i T U x dm;rw[h.ev (by rw[dm];simp[Op.operands])]
 ·rename_i c dm;obtain⟨cal,args,tys⟩:=c;simp only[dm]at aJB;simp only;split
  ·split
   ·rename_i x l ha;rw[h.ev (by rw[dm];simp only[Op.operands,Call.operands,aT,bX,ha];simp)]
   ·rfl
  ·split
   ·rename_i x l ha;rw[h.ev (by rw[dm];simp only[Op.operands,Call.operands,aT,bX,ha];simp)]
   ·rfl
  ·split
   ·rename_i x l ha;rw[h.ev (by rw[dm];simp only[Op.operands,Call.operands,aT,bX,ha];simp)]
   ·rfl
  ·split
   ·rename_i x l ha;rw[h.ev (by rw[dm];simp only[Op.operands,Call.operands,aT,bX,ha];simp)]
   ·rfl
  ·rename_i F;simp only at aJB;have hm:∀z,z=F\/z∈args.toList->z∈o.op.operands.toList:=λz hz=>by
    rw[dm];simp only[Op.operands,Call.operands,bX,bz];rcases hz with rfl | hz
    ·exact .inl (by simp)
    ·exact .inr hz
   have h1:t.ev F=s.ev F:=h.ev (hm F (.inl rfl));have h2:args.toList.map t.ev=args.toList.map s.ev:=gD λx hx=>h.ev (hm x (.inr hx))
   rw[h1];split
   ·rename_i f caps hF;simp only[hF]at aJB;rw[h2];split
    ·rename_i en ar3;simp only[ar3]at aJB;exact xE _ _ _ λid cY=>by rw[aJB id cY]
    ·rfl
   ·rfl
  ·rfl
 ·rfl
theorem ZS(h:mU (gV Γ ops s o) s t):gV Γ ops t o=gV Γ ops s o:=by
 have h1:=ak3 h;have h2:aog t o=aog s o:=by
  unfold aog;split
  ·rfl
  unfold List.flatMap;congr 1;exact gD λi hi=>by rw[h.ct i (bz.2 (.inl hi))]
 unfold gV;rw[h1,h2]
theorem xz{xs ys:List Id}(h:meets xs ys=false){id:Id}(hx:id∈xs):id ∉ ys:=by
 intro hy;have:meets xs ys=true:=by unfold meets;exact List.any_eq_true.2 ⟨id,hx,List.any_eq_true.2 ⟨id,hy,by simp⟩⟩
 rw[h]at this;cases this
theorem u5{d:Option Tmp}{ids:List Id}(h:acE d ids=false){q:Nat}(hd:d=some q)(j:Nat):Id.new q j ∉ ids:=by
 intro hy;have:acE d ids=true:=by subst hd;exact List.any_eq_true.2 ⟨_,hy,by simp⟩
 rw[h]at this;cases this
theorem KB{f g:HN}(h:f.aRD g=false){q:Nat}(hd:f.dst=some q):q ∉ g.ct/\g.dst≠some q:=by unfold HN.aRD at h;rw[hd]at h;simp only[Bool.or_eq_false_iff,js,aW,gU]at h;exact⟨λhx=>h.1 q hx rfl,h.2⟩
theorem apD(s:AS)(d:Option Tmp)(v:aB)(i:Nat)(h:d≠some i):(s.put d v).slot i=s.slot i:=by
 cases d with
 |none=>rfl
 |some q=>rw[acH,if_neg];rintro⟨rfl,_⟩;exact h rfl
theorem App.slot{d:Option Tmp}{E:aQk}{s s':AS}(h:App d E s s')(i:Nat)(hi:d≠some i):s'.slot i=s.slot i:=by rw[<-apD s d E.v i hi];simp only[AS.slot,h.ct]
theorem aln{f f':HN}{E:aQk}{s s1:AS}(ha:App f.dst E s s1)(hw:ahE f s E)(aUh:∀id∈f'.ws,id∈f'.rs)(h1:f.aRD f'=false)(h2:meets f.ws f'.rs=false)(h3:meets f'.ws f.rs=false)
  (h4:acE f.dst f'.rs=false):(∀i∈f'.ct,s1.slot i=s.slot i)/\(∀id∈f'.ws,s1.bW id=s.bW id)/\(∀id∈f'.rs,zX (s1.bW id) (s.bW id))/\∀q,f'.dst=some q->s1.dY q=s.dY q:=by
 have Xb:∀id∈f'.rs,E.up id=none:=λid cY=>by
  cases hu:E.up id with
  |none=>rfl
  |some e=>
   rcases hw.up id e hu with⟨h,_⟩ | ⟨q,j,hd,rfl⟩
   ·exact absurd cY (xz h2 h)
   ·exact absurd cY (u5 h4 hd j)
 refine⟨λi hi=>ha.slot i λhd=>(KB h1 hd).1 hi,λid cY=> ?_,λid cY=> ?_,λq hq=> ?_⟩
 ·rw[ha.bW,Xb id (aUh id cY)];have:id ∉ E.fz:=λhz=>xz h3 cY (hw.fz id hz)
  simp only[if_neg this]
 ·rw[ha.bW,Xb id cY];simp only;split
  ·exact aA6 _
  ·exact aA7 _
 ·have gF:∀j,(s1.bW (.new q j)=none↔s.bW (.new q j)=none):=λj=>by
   rw[ha.bW];cases hu:E.up (.new q j) with
   |none=>
    simp only;split <;> simp
   |some e=>
    rcases hw.up _ e hu with⟨_,h⟩ | ⟨q',j',hd,he⟩
    ·simp[h]
    ·simp only[Id.new.injEq]at he;obtain⟨rfl,_⟩:=he;exact absurd hq (KB h1 hd).2
  rw[Bool.eq_iff_iff,BM,BM,ha.len];exact and_congr Iff.rfl (forall_congr' gF)
theorem Io(s:AS)(o:Oper):∀id∈(gV Γ ops s o).ws,id∈(gV Γ ops s o).rs:=λ_ cY=>bz.2 (.inr cY)
theorem swap{o':Oper}{s1 s2:AS}(h1:Ld P Γ bJ ops o s=some s1)(h2:Ld P Γ bJ ops o' s1=some s2)(hi:(gV Γ ops s o).indep (gV Γ ops s1 o')=true):
  ∃t1,Ld P Γ bJ ops o' s=some t1/\Ld P Γ bJ ops o t1=some s2/\gV Γ ops s o'=gV Γ ops s1 o'/\gV Γ ops t1 o=gV Γ ops s o:=by
 unfold HN.indep at hi;simp only[au,cC]at hi;obtain⟨⟨⟨⟨⟨i1,i2⟩,i3⟩,i4⟩,i5⟩,i6⟩:=hi;obtain⟨E,a1,w1,l1⟩:=ZZ h1;obtain⟨E',a2,w2,l2⟩:=ZZ h2;obtain⟨g1,g2,g3,g4⟩:=aln (f:=gV Γ ops s o) (f':=gV Γ ops s1 o') a1 w1 (Io _ _) i1 i3 i4 i5;have Pc:mU (gV Γ ops s1 o') s1 s:=⟨λi hi=>(g1 i hi).symm,λid cY=>(g2 id cY).symm,λid cY=>by
  have:=g3 id cY
  revert this
  cases s1.bW id <;> cases s.bW id <;> simp only[zX] <;> intro h <;> first | trivial | exact h | skip
  rename_i a b;cases a <;> cases b <;> simp_all [dE.alh],λq hq=>(g4 q hq).symm⟩
 obtain⟨t1,k1,k2⟩:=l2 s Pc;have hf':=ZS Pc;have w2':ahE (gV Γ ops s1 o') s E':=⟨λid e hu=>by
  rcases w2.up id e hu with⟨h,hn⟩ | h
  ·exact .inl ⟨h,by rw[<-g2 id h];exact hn⟩
  ·exact .inr h,w2.fz⟩
 obtain⟨m1,m2,m3,m4⟩:=aln (f:=gV Γ ops s1 o') (f':=gV Γ ops s o) k2 w2' (Io _ _) i2 i4 i3 i6;have aRh:mU (gV Γ ops s o) s t1:=⟨m1,m2,m3,m4⟩;obtain⟨t2,k3,k4⟩:=l1 t1 aRh;refine⟨t1,k1,?_,hf',ZS aRh⟩;rw[k3];congr 1;have aRZ:∀id e,E.up id=some e->E'.up id=none/\id ∉ E'.fz:=λid e hu=>by
  rcases w1.up id e hu with⟨h,hn⟩ | ⟨q,j,hd,rfl⟩
  ·refine⟨?_,λhz=>xz i3 h (w2.fz id hz)⟩;cases hu':E'.up id with
   |none=>rfl
   |some e'=>
    rcases w2.up id e' hu' with⟨h',_⟩ | ⟨q,j,hd,rfl⟩
    ·exact absurd (Io _ _ id h') (xz i3 h)
    ·exact absurd (Io _ _ _ h) (u5 i6 hd j)
  ·refine⟨?_,λhz=>u5 i5 hd j (w2.fz _ hz)⟩;cases hu':E'.up (.new q j) with
   |none=>rfl
   |some e'=>
    rcases w2.up _ e' hu' with⟨h',_⟩ | ⟨q',j',hd',he⟩
    ·exact absurd (Io _ _ _ h') (u5 i5 hd j)
    ·simp only[Id.new.injEq]at he;obtain⟨rfl,_⟩:=he;exact absurd hd' (KB i1 hd).2
 have aUo:∀id e,E'.up id=some e->E.up id=none/\id ∉ E.fz:=λid e hu=>by
  have hn:E.up id=none:=by
   cases aW0:E.up id with
   |none=>rfl
   |some e1=>rw[(aRZ id e1 aW0).1]at hu;cases hu
  refine⟨hn,λhz=> ?_⟩;rcases w2.up id e hu with⟨h,_⟩ | ⟨q,j,hd,rfl⟩
  ·exact xz i4 h (w1.fz id hz)
  ·exact u5 i6 hd j (w1.fz _ hz)
 refine AS.aEJ ?_ (by rw[k4.len,k2.len,a2.len,a1.len]) λid=> ?_
 ·have e1:∀(u u':AS) (d:Option Tmp) (v:aB),u.ct=u'.ct->(u.put d v).ct=(u'.put d v).ct:=λu u' d v h=>by cases d <;> simp[AS.put,h]
  rw[k4.ct,a2.ct,e1 t1 (s.put o'.dst E'.v) _ _ k2.ct,e1 s1 (s.put o.dst E.v) _ _ a1.ct];cases hd:o.dst with
  |none=>cases o'.dst <;> rfl
  |some q=>
   cases hd':o'.dst with
   |none=>rfl
   |some q'=>
    have gF:q'≠q:=λe=>(KB (f:=gV Γ ops s o) i1 hd).2 (by show o'.dst=some q;rw[hd',e])
    simp only[AS.put];exact List.set_comm _ _ gF
 ·rw[k4.bW,k2.bW,a2.bW,a1.bW];cases hu:E.up id with
  |some e=>
   obtain⟨h3,h4⟩:=aRZ id e hu;simp only[h3,if_neg h4]
  |none=>
   simp only;cases hu':E'.up id with
   |some e=>
    obtain⟨_,h4⟩:=aUo id e hu';simp only[if_neg h4]
   |none=>
    simp only;by_cases z1:id∈E.fz <;> by_cases z2:id∈E'.fz <;> simp only[if_pos,if_neg,z1,z2,not_false_eq_true]
end
end Go.Ab
namespace Go.Ab
section
variable {P:Program} {Γ:oR} {bJ:List Nat} {ops:Array Oper}
def ali(P:Program)(Γ:oR)(bJ:List Nat)(ops:Array Oper)(fs:Nat->HN):List Nat->AS->AS->Prop
 |[],s,sn=>s=sn
 |i::l,s,sn=>∃o,ops[i]? =some o/\gV Γ ops s o=fs i/\∃s',Ld P Γ bJ ops o s=some s'/\ali P Γ bJ ops fs l s' sn
theorem ali.aDh{fs:Nat->HN}{i:Nat}{l2:List Nat}{sn:AS}:∀(l1:List Nat) {s:AS},ali P Γ bJ ops fs (l1++i::l2) s sn->(∀j∈l1,(fs j).indep (fs i)=true)->ali P Γ bJ ops fs (i::(l1++l2)) s sn
 |[],_,h,_=>h
 |j::l1,s,h,hi=>by
  obtain⟨oj,h1,h2,s1,h3,h4⟩:=h;obtain⟨oi,h5,h6,s2,h7,h8⟩:=ali.aDh l1 h4 λj hj=>hi j (aG _ hj)
  have hd:=hi j (aI ..);rw[<-h2,<-h6]at hd;obtain⟨t1,k1,k2,k3,k4⟩:=swap h3 h7 hd;exact⟨oi,h5,by rw[k3,h6],t1,k1,oj,h1,by rw[k4,h2],s2,k2,h8⟩
theorem af7{R:Type}{anc:List Nat}{k:AS->Option R}{r:R}:∀(l:List Oper) (i:Nat) (acc:List (Nat×HN)) (s:AS) (f0:Nat->HN),(∀n o,l[n]? =some o->ops[i+n]? =some o)->(∀x∈acc,f0 x.1=x.2/\x.1 < i)->
  af6 P Γ bJ ops anc i l acc s k=some r->∃fs sn,(∀j,j < i->fs j=f0 j)/\ali P Γ bJ ops fs (List.range' i l.length) s sn/\k sn=some r/\
   (∀x∈acc,∀m,i<=m->m < i+l.length->(anc.getD m 0).testBit x.1=true\/x.2.indep (fs m)=true)/\(∀m1 m2,i<=m1->m1 < m2->m2 < i+l.length->(anc.getD m2 0).testBit m1=true\/(fs m1).indep (fs m2)=true)
 |[],i,acc,s,f0,_,_,h=>⟨f0,s,λ_ _=>rfl,rfl,h,λ_ _ m h1 h2=>by simp at h2;omega,λ_ _ h1 h2 h3=>by simp at h3;omega⟩
 |o::l,i,acc,s,f0,ho,hf,h=>by
  unfold af6 at h;split at h
  ·rename_i C8;simp only[AS.RM]at h;obtain⟨s',h1,h2⟩:=ana (k:=λs'=>af6 P Γ bJ ops anc (i+1) l ((i,gV Γ ops s o)::acc) s' k) h;have aTy:∀x∈(i,gV Γ ops s o)::acc,(if x.1=i then gV Γ ops s o else f0 x.1)=x.2/\x.1 < i+1:=λx hx=>by
    rcases bY.1 hx with rfl | hx
    ·simp
    ·obtain⟨q1,q2⟩:=hf x hx;rw[if_neg ak];exact⟨q1,ak⟩
   obtain⟨fs,sn,g1,g2,g3,g4,g5⟩:=af7 l (i+1) ((i,gV Γ ops s o)::acc) s' (λn=>if n=i then gV Γ ops s o else f0 n)
    (λn o' hn=>by have:=ho (n+1) o' (by simpa using hn);rw[<-this];congr 1;omega) aTy h2
   have gi:fs i=gV Γ ops s o:=by rw[g1 i ak,if_pos rfl]
   refine⟨fs,sn,λj hj=>by rw[g1 j ak,if_neg ak],?_,g3,λx hx m h3 h4=> ?_,λm1 m2 h3 h4 h5=> ?_⟩
   ·rw[aA,List.range'_succ];exact⟨o,ho 0 o rfl,gi.symm,s',h1,g2⟩
   ·rcases Nat.eq_or_lt_of_le h3 with rfl | h3
    ·have:=cW.1 C8 x hx;simp only[gf]at this;rcases this with h | h
     ·exact .inl h
     ·right;rw[gi];exact h
    ·exact g4 x (aG _ hx) m ak (by simp only[aA]at h4;omega)
   ·rcases Nat.eq_or_lt_of_le h3 with rfl | h3
    ·rw[gi];exact g4 (i,gV Γ ops s o) (aI ..) m2 ak (by simp only[aA]at h5;omega)
    ·exact g5 m1 m2 ak h4 (by simp only[aA]at h5;omega)
  ·cases h
theorem alu{acc:List Nat}{j:Nat}:∀ {l:List Edge},(l.foldr (λe m=>Nat.lor (Nat.lor (Nat.pow 2 e.on) (acc.getD e.on 0)) m) 0).testBit j=true->∃e∈l,j=e.on\/(acc.getD e.on 0).testBit j=true
 |[],h=>by simp at h
 |e::l,h=>by
  rw[List.foldr_cons,show ∀x y,Nat.lor x y=x ||| y from λ_ _=>rfl,show ∀x y,Nat.lor x y=x ||| y from λ_ _=>rfl,Nat.testBit_or,Nat.testBit_or,show Nat.pow 2 e.on=2^e.on from rfl,Nat.testBit_two_pow]at h;simp only[gf,aW]at h;rcases h with(h | h) | h
  ·exact⟨e,aI ..,.inl h.symm⟩
  ·exact⟨e,aI ..,.inr h⟩
  ·obtain⟨e',h1,h2⟩:=alu h;exact⟨e',aG _ h1,h2⟩
theorem afp:∀(l:List Oper) (acc:List Nat),(∀i,i < acc.length->(l.foldl (λacc o=>acc++ [ahG acc o]) acc)[i]? =acc[i]?)/\
  ∀i o,l[i]? =some o->(l.foldl (λacc o=>acc++ [ahG acc o]) acc)[acc.length+i]? =some (ahG ((l.foldl (λacc o=>acc++ [ahG acc o]) acc).take (acc.length+i)) o)
 |[],acc=>⟨λ_ _=>rfl,λi o h=>by simp at h⟩
 |x::l,acc=>by
  obtain⟨h1,h2⟩:=afp l (acc++ [ahG acc x]);simp only[bq];refine⟨λi hi=> ?_,λi o hi=> ?_⟩
  ·rw[h1 i (by simp;omega),fq hi]
  ·cases i with
   |zero=>
    simp only[fQ,az]at hi;subst hi;rw[cq,h1 _ (by simp)];have:(l.foldl (λacc o=>acc++ [ahG acc o]) (acc++ [ahG acc x])).take acc.length=acc:=by
     apply ln;intro j;rw[di];split
     ·rename_i hj;rw[h1 j (by simp;omega),fq hj]
     ·rename_i hj;rw[dG ak]
    rw[this];simp
   |succ i=>
    have:=h2 i o (by simpa using hi);simp only[ai,aA,ba,aO]at this;rw[show acc.length+(i+1)=acc.length+1+i by omega];exact this
theorem aCB{l:List Oper}{i:Nat}{o:Oper}(hi:l[i]? =some o){j:Nat}(hj:((alv l).getD i 0).testBit j=true):∃e∈o.after.toList,Region.binds .any e=true/\(j=e.on\/((alv l).getD e.on 0).testBit j=true):=by
 have h:=(afp l []).2 i o hi;have e:alv l=l.foldl (λacc o=>acc++ [ahG acc o]) []:=rfl;rw[<-e]at h;simp only[ba,aO]at h;rw[aH,h]at hj;obtain⟨e,h1,h3⟩:=alu hj;obtain⟨h1,h2⟩:=nZ.1 h1;refine⟨e,h1,h2,h3.imp id λh4=> ?_⟩;rw[aH,di]at h4;split at h4
 ·rw[aH];exact h4
 ·simp at h4
def ahq(n:Nat)(listed:Array Bool):List Nat:=(List.range n).filter λi=> !listed.getD i true
theorem QZ{n:Nat}{listed:Array Bool}{i:Nat}:i∈ahq n listed↔i < n/\listed.getD i true=false:=by simp[ahq]
theorem O7(n:Nat)(listed:Array Bool):(ahq n listed).Pairwise (· < ·):=(List.pairwise_lt_range).filter _
theorem ZY{listed:Array Bool}{i j:Nat}(d:Bool)(hi:i < listed.size):(listed.setIfInBounds i true).getD j d=if j=i then true else listed.getD j d:=by
 simp only[cI,dT];by_cases h:i=j
 ·subst h;simp[hi]
 ·simp[h,Ne.symm h]
theorem aMY{listed:Array Bool}{i:Nat}(hi:i < listed.size){l1 l2:List Nat}(h:ahq listed.size listed=l1++i::l2):ahq listed.size (listed.setIfInBounds i true)=l1++l2:=by
 have hs:=O7 listed.size listed;rw[h]at hs;obtain⟨p1,p2,p3⟩:=List.pairwise_append.1 hs;obtain⟨p4,_⟩:=List.pairwise_cons.1 p2;have e:ahq listed.size (listed.setIfInBounds i true)=(ahq listed.size listed).filter λj=>decide (j≠i):=by
  unfold ahq;rw[List.filter_filter];refine List.filter_congr λj _=> ?_
  rw[ZY true hi];by_cases hj:j=i
  ·simp[hj]
  ·simp[hj]
 rw[e,h,List.filter_append,List.filter_cons];have f1:l1.filter (λj=>decide (j≠i))=l1:=iA.2 λj hj=>by have:=p3 j hj i (aI ..);simp;omega
 have f2:l2.filter (λj=>decide (j≠i))=l2:=iA.2 λj hj=>by have:=p4 j hj;simp;omega
 rw[f1,f2];simp
theorem aw5{rd:Option Nat}{n:Nat}{C:Ctx}(hΓ:Sound P Γ){fs:Nat->HN}{sn:AS}{Q:Exit->Act->World->Prop}(hE:aiD ops.toList=true)
  (aTP:∀m1 m2,m1 < m2->m2 < ops.size->((alv ops.toList).getD m2 0).testBit m1=true\/(fs m1).indep (fs m2)=true) (hQ:∀a w,iB C sn a w->Q .normal a w):
  ∀(fuel:Nat) (listed:Array Bool) (s:AS) (a:Act) (w:World),listed.size=ops.size->(ahq ops.size listed).length=fuel->
   (∀i,i < ops.size->listed.getD i true=true->∀j,((alv ops.toList).getD i 0).testBit j=true->listed.getD j false=true)->ali P Γ bJ ops fs (ahq ops.size listed) s sn->iB C s a w->wpAnyIn (Fr rd) n P .any ops Q fuel listed a w:=by
 have aNr:∀i o,ops[i]? =some o->∀e∈o.after.toList,Region.binds .any e=true->e.on < i:=λi o hi e he hb=>by have:=cW.1 hE (o,i) (List.mem_zipIdx_iff_getElem?.2 (by simpa using hi));have:=cW.1 this e he;simpa[hb]using this
 have aPa:∀(listed:Array Bool),listed.size=ops.size->∀i,i∈Region.ready .any ops listed↔i∈ahq ops.size listed/\∀o,ops[i]? =some o->∀e∈o.after.toList,Region.binds .any e=true->listed.getD e.on false=true:=λlisted _ i=>by
  rw[QZ];unfold Region.ready;simp only[nZ,List.mem_range,au,cC];constructor
  ·rintro⟨h1,h2,h3⟩;refine⟨⟨h1,h2⟩,λo ho e he hb=> ?_⟩;rw[ho]at h3;simp only[dV,dN,Array.all_eq_true',gf,cC]at h3;rcases h3 e (by simpa using he) with h | h
   ·rw[hb]at h;cases h
   ·exact h
  ·rintro⟨⟨h1,h2⟩,h3⟩;refine⟨h1,h2,?_⟩;obtain⟨o,ho⟩:∃o,ops[i]? =some o:=⟨ops[i],by simp[h1]⟩
   rw[ho];simp only[dV,dN,Array.all_eq_true',gf,cC];intro e he;cases hb:Region.binds .any e with
   |false=>exact .inl rfl
   |true=>exact .inr (h3 o ho e (by simpa using he) hb)
 have qX:∀(listed:Array Bool),listed.size=ops.size->Region.ready .any ops listed=[]->ahq ops.size listed=[]:=λlisted hs hr=>by
  cases hu:ahq ops.size listed with
  |nil=>rfl
  |cons i l=>
   exfalso;have hi:i∈ahq ops.size listed:=by rw[hu];exact aI ..
   have aRV:=O7 ops.size listed;rw[hu]at aRV;have:i∈Region.ready .any ops listed:=(aPa listed hs i).2 ⟨hi,λo ho e he hb=>by
    have gQ:=aNr i o ho e he hb;have agb:=(QZ.1 hi).1;cases hl:listed.getD e.on true with
    |false=>
     have hm:e.on∈ahq ops.size listed:=QZ.2 ⟨ak,hl⟩;rw[hu]at hm;rcases bY.1 hm with h | h
     ·omega
     ·have:=(List.pairwise_cons.1 aRV).1 _ h;omega
    |true=>
     have:e.on < listed.size:=ak;simp only[cI,fp this,dN]at hl ⊢;exact hl⟩
   rw[hr]at this;cases this
 intro fuel
 induction fuel with
 |zero=>
  intro listed s a w hs hl _ hr mG;have hn:ahq ops.size listed=[]:=bE hl;refine⟨?_,?_⟩
  ·cases aUd:Region.ready .any ops listed with
   |nil=>rfl
   |cons i l=>
    have:i∈Region.ready .any ops listed:=by rw[aUd];exact aI ..
    have:=((aPa listed hs i).1 this).1;rw[hn]at this;cases this
  ·rw[hn]at hr;have:s=sn:=hr;subst this;exact hQ a w mG
 |succ fuel ih=>
  intro listed s a w hs hl aCf hr mG;refine⟨λaUd=> ?_,λi hi=> ?_⟩
  ·have:=qX listed hs aUd;rw[this]at hl;simp at hl
  ·obtain⟨hu,aRu⟩:=(aPa listed hs i).1 hi;obtain⟨agb,aXE⟩:=QZ.1 hu;obtain⟨o,ho⟩:∃o,ops[i]? =some o:=⟨ops[i],by simp[agb]⟩
   obtain⟨l1,l2,aFl⟩:=List.append_of_mem hu;have aRV:=O7 ops.size listed;rw[aFl]at aRV;have aRk:∀j,((alv ops.toList).getD i 0).testBit j=true->listed.getD j false=true:=λj hj=>by
    obtain⟨e,he,hb,h | h⟩:=aCB (by simpa using ho) hj
    ·rw[h];exact aRu o ho e he hb
    ·have h1:=aRu o ho e he hb;have h2:=aNr i o ho e he hb;refine aCf e.on ak ?_ j h
     have:e.on < listed.size:=ak;simp only[cI,fp this,dN]at h1 ⊢;exact h1
   rw[aFl]at hr;have hb:=ali.aDh l1 hr λj hj=>by
    have gQ:j < i:=(List.pairwise_append.1 aRV).2.2 j hj i (aI ..);rcases aTP j i gQ agb with h | h
    ·have h1:=aRk j h;have aWE:j∈ahq ops.size listed:=by rw[aFl];exact bz.2 (.inl hj)
     have h2:=(QZ.1 aWE).2;have:j < listed.size:=ak;simp only[cI,fp this,dN]at h1 h2;rw[h1]at h2;cases h2
    ·exact h
   obtain⟨o',ho',hf,s',hg,gG⟩:=hb;obtain rfl:o=o':=by rw[ho]at ho';simpa using ho'
   have ai5:ahq ops.size (listed.setIfInBounds i true)=l1++l2:=by rw[<-hs]at aFl ⊢;exact aMY ak aFl
   refine((af5 hΓ mG hg).mono λa' w' hst'=>ih (listed.setIfInBounds i true) s' a' w' (by simpa using hs) ?_ ?_ (by rw[ai5];exact gG) hst').wpOpIn ho
   ·rw[ai5];rw[aFl]at hl;simp only[ai,aA]at hl ⊢;omega
   ·intro m hm aRL j hj;rw[ZY false ak];split
    ·rfl
    ·rw[ZY true ak]at aRL;split at aRL
     ·rename_i aWL;subst aWL;exact aRk j hj
     ·exact aCf m hm aRL j hj
theorem ao0{rd:Option Nat}{n:Nat}{C:Ctx}(hm:P.follows .mixedOrders=true)(hΓ:Sound P Γ){id:Nat}{R:Type}{Q:Exit->Act->World->Prop}{s:AS}{a:Act}{w:World}{k:AS->Option R}{r:R}(h:iB C s a w)(hE:aiD ops.toList=true)
  (he:af6 P Γ bJ ops (alv ops.toList) 0 ops.toList [] s k=some r) (hk:∀s' a' w',iB C s' a' w'->k s'=some r->Q .normal a' w'):(Code.region id ops true).wpIn (Fr rd) n P Q a w:=by
 obtain⟨fs,sn,_,g2,g3,_,g5⟩:=af7 ops.toList 0 [] s (λ_=>⟨none,[],[],[]⟩) (λn o hn=>by simpa using hn) (λ_ hx=>by cases hx) he;refine wpIn_region_any hm ?_
 obtain⟨g,β,h⟩:=h;have hu:ahq ops.size (Array.replicate ops.size false)=List.range' 0 ops.toList.length:=by
  unfold ahq;rw[iA.2]
  ·simp[List.range_eq_range']
  ·intro i hi;have hi:i < ops.size:=by simpa using hi
   simp[cI,hi]
 refine aw5 (bJ:=bJ) hΓ hE (fs:=fs) (sn:=sn) (λm1 m2 h1 h2=>g5 m1 m2 (aK _) h1 (by simpa using h2)) (λa' w' hs=>hk sn a' w' hs g3) ops.size _ s a _ (by simp) (by rw[hu];simp) (λi hi hl=> ?_) (by rw[hu];exact g2) ⟨g,β,h.drew⟩;simp[cI,hi]at hl
end
end Go.Ab
namespace Go.Ab
theorem xH{ρ:Ren}{s:AS}(h:∀id,(s.obj id).isSome=true->∀ver,ρ id ver=some (id,ver)):∀(v:aB),v.there s=true->v.iV ρ=v
 | .ptr id ver p n,ht=>by simp only[aB.iV];rw[h id ht]
 | .bA id ver p c i len,ht=>by simp only[aB.iV];rw[h id ht]
 | .pr a b,ht=>by simp only[aB.there,au]at ht;simp only[aB.iV];rw[xH h a ht.1,xH h b ht.2]
 | .cons a b,ht=>by simp only[aB.there,au]at ht;simp only[aB.iV];rw[xH h a ht.1,xH h b ht.2]
 | .fn f c,ht=>by simp only[aB.iV];rw[xH h c ht]
 | .bx e z c,ht=>by simp only[aB.iV];rw[xH h c ht]
 | .cj id ver,ht=>by simp only[aB.iV];rw[h id ht]
 | .yl id ver,ht=>by simp only[aB.iV];rw[h id ht]
 | .rP k f p,ht=>by simp only[aB.iV];rw[xH h f ht]
 | .tC ..,ht=>by cases ht
 | .undef,_ | .gone,_ | .de,_ | .ri,_ | .xA,_ | .De,_ | .d _ _,_ | .dO _ _,_ | .nil,_ | .vec ..,_ | .mp ..,_ | .sb _,_=>rfl
theorem aN2.aV{E E':Env}(hm:uf E E')(hh:∀b:Nat,E'.w.heap[b]? =E.w.heap[b]?){i q:Id}{ver:Nat}{kt vt:Ty}{rest:List (kt.den×vt.den)}{cur:Option (kt.den×vt.den)}(h:aN2 E i q ver kt vt rest cur)(hβ:E'.β i=E.β i)
  (hg:∀pl,E.β i=some pl->E.g pl.b= .own (.id i) 0->E'.g pl.b= .own (.id i) 0)
  (hq:∀vr,ver=vr+1->(E.G1 q vr->E'.G1 q vr/\(E'.cur q vr->E.cur q vr/\E'.β q=E.β q))/\(∀k v l,E.s q=some (.obj vr true (.mp k v l))->E'.s q=some (.obj vr true (.mp k v l)))/\
   ∀pl,E.β q=some pl->E.g pl.b= .own (.id q) 0->E'.g pl.b= .own (.id q) 0):aN2 E' i q ver kt vt rest cur:=by
 obtain⟨pl,mb,since,seen,c0,h1,h2,h3,h4⟩:=h;refine⟨pl,mb,since,seen,c0,by rw[hβ,h1],by rw[hh,h2],hg pl h1 h3,λvr aqs=> ?_⟩;obtain⟨h5,h6⟩:=h4 vr aqs;obtain⟨q1,q2,q3⟩:=hq vr aqs;obtain⟨b1,b2⟩:=q1 h5;refine⟨b1,λhc=> ?_⟩;obtain⟨c1,c2⟩:=b2 hc;obtain⟨⟨k,v,l,k0⟩,plq,es,clock,k1,k2,k3,k4,k5,k6,k7,k8,k9⟩:=h6 c1;exact⟨⟨k,v,l,q2 _ _ _ k0⟩,plq,es,clock,by rw[c2,k1],k2,by rw[hh,k3],q3 _ k1 k4,k5,k6,k7,k8.mono hm,λx hx=>
  let⟨e,se,a1,a2,a3,a4⟩:=k9 x hx
  ⟨e,se,a1,a2,a3,a4.mono hm⟩⟩
theorem asl(c:aB):(∃q ver k v l cu,c= .tC q ver k v l cu)\/(∀ρ kp,c.aAG ρ kp=c.iV ρ)/\∀s v fr,dE.there s (.obj v fr c)=c.there s:=by cases c <;> first | exact .inl ⟨_,_,_,_,_,_,rfl⟩ | exact .inr ⟨λ_ _=>rfl,λ_ _ _=>rfl⟩
section
variable {P:Program} {C:Ctx} {g:Nat->mz} {β:Id->Option Pl} {s:AS} {a:Act} {w:World}
theorem Inv.T7(h:Inv C g β s a w)(hC:C.ok){s1:AS}{g1:Nat->mz}{β1:Id->Option Pl}(ρ:Ren)(hlen:s1.ct.length=s.ct.length)(ht:Trans w w g g1)(hle:AA ρ (s.env w g β) (s1.env w g1 β1))
  (Z5:∀i,VS (s1.env w g1 β1) (s1.slot i) (a.tmps.getD i undef))
  (cQ:∀id ver fr c,s1.bW id=some (.obj ver fr c)->xk (s1.env w g1 β1) id fr c\/∃id0 v0 c0,s.bW id0=some (.obj v0 fr c0)/\c0.iV ρ=c/\β1 id=β id0/\∀pl,β id0=some pl->(∀k,g pl.b= .own (.id id0) k->g1 pl.b= .own (.id id) k)/\(g pl.b= .free->g1 pl.b= .free))
  (hold:∀k,(s.bW (.bm k)≠none->s1.bW (.bm k)≠none)/\(∀v fr c,s1.bW (.bm k)=some (.obj v fr c)->∃c0,s.bW (.bm k)=some (.obj v fr c0))/\β1 (.bm k)=β (.bm k)):Inv C g1 β1 s1 a w:=by
 refine⟨h.defers.mono ht,by rw[hlen];exact h.size,Z5,λid ver fr c cY=> ?_,h.trans.trans ht,?_⟩
 ·rcases cQ id ver fr c cY with ho | ⟨id0,v0,c0,h1,h2,h3,h4⟩
  ·exact ho
  have:=xl hle (h.bJ id0 v0 fr c0 h1) (id':=id) h3 λpl hp=>⟨rfl,(h4 pl hp).1,(h4 pl hp).2⟩
  rw[h2]at this;exact this
 ·have hl:=h.le;have ho:∀id ver,C.E.G1 id ver->∃k,id= .bm k:=λid ver hb=>by
   cases id with
   |bm k=>exact⟨k,rfl⟩
   |new i j=>exact absurd (hC.1 i j) hb.1
  refine⟨hl.mem.trans (Trans.mem (E:=s.env w g β) (E':=s1.env w g1 β1) ht),λid ver hb=> ?_,λid ver hb hc=> ?_⟩
  ·obtain⟨k,rfl⟩:=ho id ver hb;obtain⟨h1,h2⟩:=hl.G1 _ ver hb;obtain⟨e1,e2,_⟩:=hold k;exact⟨e1 h1,λv fr c hh=>let⟨c0,XW⟩:=e2 v fr c hh;h2 v fr c0 XW⟩
  ·obtain⟨k,rfl⟩:=ho id ver hb;obtain⟨fr,c,hc⟩:=hc;obtain⟨_,e2,e3⟩:=hold k;obtain⟨c0,XW⟩:=e2 _ _ _ hc;obtain⟨h1,h2⟩:=hl.cur _ ver hb ⟨fr,c0,XW⟩;exact⟨h1,e3.trans h2⟩
theorem Inv.renamed(h:Inv C g β s a w)(hC:C.ok){s1:AS}{β1:Id->Option Pl}(ρ:Ren)(hlen:s1.ct.length=s.ct.length)(hle:AA ρ (s.env w g β) (s1.env w g β1))
  (Z5:∀i,VS (s1.env w g β1) (s1.slot i) (a.tmps.getD i undef)) (cQ:∀id ver fr c,s1.bW id=some (.obj ver fr c)->xk (s1.env w g β1) id fr c\/∃v0,s.bW id=some (.obj v0 fr c)/\c.iV ρ=c/\β1 id=β id)
  (hold:∀k,s1.bW (.bm k)=s.bW (.bm k)/\β1 (.bm k)=β (.bm k)):Inv C g β1 s1 a w:=
 h.T7 hC ρ hlen (Trans.refl w g) hle Z5 (λid ver fr c cY=>(cQ id ver fr c cY).imp (λh=>h) λ⟨v0,h1,h2,h3⟩=>⟨id,v0,c,h1,h2,h3,λ_ _=>⟨λ_ h=>h,λh=>h⟩⟩)
  λk=>⟨λhh=>by rw[(hold k).1];exact hh,λv fr c hh=>⟨c,(hold k).1.symm.trans hh⟩,(hold k).2⟩
theorem Inv.aSl(h:Inv C g β s a w)(j:Nat){v:aB}(hv:VS (s.env w g β) v (a.tmps.getD j undef)):Inv C g β (s.put (some j) v) a w:=by
 refine⟨h.defers,by simpa[AS.put]using h.size,λi=> ?_,by simpa using h.bJ,h.trans,by simpa using h.le⟩;rw[aiF,acH];split
 ·rename_i aSS;rw[aSS.1];exact hv
 ·exact h.ct i
theorem Uu(aV:List Nat):∀(l:List aB) (n i:Nat),(eI aV n l).getD i .undef= .undef\/(eI aV n l).getD i .undef=l.getD i .undef
 |[],n,i=>by simp[eI]
 |v::l,n,0=>by
  simp only[eI,jz];split
  ·exact .inr rfl
  ·exact .inl rfl
 |v::l,n,i+1=>by simp only[eI,rb];exact Uu aV l (n+1) i
theorem C9(aV:List Nat):∀(l:List aB) (n:Nat),(eI aV n l).length=l.length
 |[],n=>rfl
 |v::l,n=>by simp[eI,C9 aV l]
theorem ahb(aV:List Nat):∀(l:List (List dE)) (n i:Nat),(oA aV n l).getD i []=[]\/(oA aV n l).getD i []=l.getD i []
 |[],n,i=>by simp[oA]
 |v::l,n,0=>by
  simp only[oA,jz];split
  ·exact .inr rfl
  ·exact .inl rfl
 |v::l,n,i+1=>by simp only[oA,rb];exact ahb aV l (n+1) i
theorem azu{s:AS}(i:Nat):s.slot i= .undef\/s.slot i∈s.ct:=by
 unfold AS.slot;rw[aH];cases h:s.ct[i]? with
 |none=>exact .inl rfl
 |some v=>exact .inr (cJ h)
theorem aKO{s:AS}{id:Id}{e:dE}(h:s.bW id=some e):e∈s.bZ\/∃es∈s.news,e∈es:=by
 cases id with
 |bm k=>exact .inl (cJ h)
 |new i j=>
  simp only[AS.bW,aH]at h;cases hi:s.news[i]? with
  |none=>rw[hi]at h;simp at h
  |some es=>rw[hi]at h;exact .inr ⟨es,cJ hi,cJ h⟩
theorem Inv.aV(h:Inv C g β s a w)(hC:C.ok){an:oJ}(ht:(QL an s).alq=true):Inv C g β (QL an s) a w:=by
 obtain⟨ks,kt,_,_,_⟩:=an;obtain⟨s1,SE⟩:∃s1:AS,s1= {ct:=eI ks 0 s.ct,bZ:=s.bZ,news:=oA kt 0 s.news}:=⟨_,rfl⟩;have e1:s1.ct=eI ks 0 s.ct:=by rw[SE]
 have e2:s1.bZ=s.bZ:=by rw[SE]
 have e3:s1.news=oA kt 0 s.news:=by rw[SE]
 have ht:(s1.ct.all (aB.there s1) && s1.bZ.all (dE.there s1) && s1.news.all λes=>es.all (dE.there s1))=true:=by rw[SE];exact ht
 show Inv C g β {ct:=eI ks 0 s.ct,bZ:=s.bZ,news:=oA kt 0 s.news} a w;rw[<-SE];rw[au,au]at ht;obtain⟨⟨t1,t2⟩,t3⟩:=ht;have cQ:∀id,s1.bW id=none\/s1.bW id=s.bW id:=λid=>by
  cases id with
  |bm k=>right;simp only[AS.bW,e2]
  |new i j=>
   simp only[AS.bW,e3];rcases ahb kt s.news 0 i with h | h
   ·rw[h];exact .inl rfl
   ·rw[h];exact .inr rfl
 have aLd:∀id,(s1.obj id).isSome=true->s1.bW id=s.bW id:=λid hi=>by
  rcases cQ id with h | h
  ·simp[AS.obj,h]at hi
  ·exact h
 let ρ:Ren:=λid ver=>if(s1.obj id).isSome=true then some (id,ver) else none
 have hρ:∀v:aB,v.there s1=true->v.iV ρ=v:=xH λid cY ver=>if_pos cY
 have hle:AA ρ (s.env w g β) (s1.env w g β):=by
  refine⟨⟨λ_ _ _ h=>h,λ_ _ h h'=>⟨h,h'⟩⟩,λid ver r hr hb=> ?_⟩;by_cases hi:(s1.obj id).isSome=true
  ·have:ρ id ver=some (id,ver):=if_pos hi;rw[this,az]at hr;subst hr;have e:=aLd id hi;obtain⟨b1,b2⟩:=hb;exact⟨⟨by show s1.bW id≠none;rw[e];exact b1,λv fr c hh=>b2 v fr c (e.symm.trans hh)⟩,λ⟨fr,c,hc⟩=>⟨⟨fr,c,e.symm.trans hc⟩,rfl⟩⟩
  ·have:ρ id ver=none:=if_neg hi;rw[this]at hr;cases hr
 refine h.renamed hC ρ (by rw[e1,C9]) hle (λi=> ?_) (λid ver fr c cY=> ?_) λk=>⟨by simp only[AS.bW,e2],rfl⟩
 ·rcases azu (s:=s1) i with hi | hi
  ·rw[hi];exact VS.undef
  ·have aUl:=cW.1 t1 _ hi;rcases Uu ks s.ct 0 i with h1 | h1
   ·have:s1.slot i= .undef:=by simp only[AS.slot,e1,h1]
    rw[this];exact VS.undef
   ·have:s1.slot i=s.slot i:=by simp only[AS.slot,e1,h1]
    have hv:=HO hle (h.ct i);rw[<-this,hρ _ aUl]at hv;exact hv
 ·have:s1.bW id=s.bW id:=by
   rcases cQ id with h | h
   ·rw[h]at cY;cases cY
   ·exact h
  have hc:dE.there s1 (.obj ver fr c)=true:=by
   rcases aKO cY with h | ⟨es,h1,h2⟩
   ·exact cW.1 t2 _ h
   ·exact cW.1 (cW.1 t3 _ h1) _ h2
  rcases asl c with⟨q,vq,k,v,l,cu,rfl⟩ | ⟨_,aUl⟩
  ·have e:=aLd q hc;refine .inl (aN2.aV hle.mem (λ_=>rfl) (h.bJ id ver fr _ (this.symm.trans cY)) rfl (λ_ _ h=>h) λvr _=>⟨λhb=>hle.ref q vr (q,vr) (if_pos hc) hb,λk v l hk=>e.trans hk,λ_ _ h=>h⟩)
  ·rw[aUl]at hc;exact .inr ⟨ver,this.symm.trans cY,hρ c hc,rfl⟩
theorem Inv.drop(h:Inv C g β s a w)(ks:List Nat):Inv C g β (s.drop ks) a w:=by
 refine⟨h.defers,by simpa[AS.drop,C9]using h.size,λi=> ?_,h.bJ,h.trans,h.le⟩;rcases Uu ks s.ct 0 i with h1 | h1
 ·have:(s.drop ks).slot i= .undef:=h1;rw[this];exact VS.undef
 ·have:(s.drop ks).slot i=s.slot i:=h1;rw[this];exact h.ct i
def Gp(b q:Nat):mz->mz
 | .own (.id (.new x j)) k=>if x=b then .own (.id (.new q j)) k else .own (.id (.new x j)) k
 |l=>l
theorem Trans.aSj(w:World)(g:Nat->mz)(b q:Nat):Trans w w g λx=>Gp b q (g x):=by
 refine⟨rfl,rfl,⟨rfl,ax _⟩,ax _,λy _=> ?_⟩;cases hg:g y with
 |free=>exact⟨by simp[Gp],rfl⟩
 |own o k=>cases o with
  |eo=>exact⟨by simp[Gp],rfl⟩
  |id x=>
   refine⟨.inr ?_,λ_ _ _ h=>h⟩;cases x with
   |bm m=>exact⟨_,_,rfl,ax _⟩
   |new x j=>
    simp only[Gp];split
    ·exact⟨_,_,rfl,ax _⟩
    ·exact⟨_,_,rfl,ax _⟩
theorem acG(f:aB->aB)(hf:f .undef= .undef)(l:List aB)(i:Nat):(l.map f).getD i .undef=f (l.getD i .undef):=by simp only[aH,eh];cases l[i]? <;> simp[hf]
theorem Inv.Jq(h:Inv C g β s a w)(hC:C.ok){b q:Nat}(aQv:b < s.news.length)(aUa:q < s.news.length):
  ∃g1 β1,Inv C g1 β1 (s.Jq b q (s.news.getD b [])) a w:=by
 generalize aWt:s.news.getD b []=es;have aRx:∀j,s.bW (.new b j)=es[j]? :=λj=>by rw[<-aWt];rfl
 let ρ:Ren:=Rs es b q
 let s1:=s.Jq b q es
 have lI:∀j',s1.bW (.new q j')=(es[j']?).map (dE.atz ρ):=λj'=>by simp[s1,AS.Jq,AS.bW,aH,aUa,ρ]
 have aRC:b≠q->∀j',s1.bW (.new b j')=none:=λaOT j'=>by
  have hbq':¬q=b:=λe=>aOT e.symm
  simp only[s1,AS.Jq,AS.bW,aH];rw[ea hbq',List.getElem?_set,if_pos rfl];split <;> simp
 have Lh:∀i,(∀j',i≠ .new q j')->(∀j',i≠ .new b j')->s1.bW i=(s.bW i).map (dE.aeC ρ (KK b q)):=λi hi hi'=>by
  cases i with
  |bm k=>simp[s1,AS.Jq,AS.bW,ρ]
  |new x y=>
   have h1:¬q=x:=λe=>hi y (by rw[e])
   have h2:¬b=x:=λe=>hi' y (by rw[e])
   simp only[s1,AS.Jq,AS.bW,aH];rw[ea h1,ea h2,eh];cases s.news[x]? <;> simp[ρ]
 let g1:Nat->mz:=λx=>Gp b q (g x)
 let β1:Id->Option Pl:=λi=>match i with | .new x j=>if x=q then β (.new b j) else β (.new x j) | .bm k=>β (.bm k)
 have hβ1:∀i,(∀j',i≠ .new q j')->β1 i=β i:=λi hi=>by
  cases i with
  |bm k=>rfl
  |new x y=>exact if_neg λe=>hi y (by rw[e])
 have ht:Trans w w g g1:=Trans.aSj w g _ _;have hρ:∀i ver r,ρ i ver=some r->(∃j fr c,i= .new b j/\es[j]? =some (.obj ver fr c)/\r=(.new q j,0))\/((∀j',i≠ .new q j')/\(∀j',i≠ .new b j')/\r=(i,ver)):=λi ver r hr=>by
  replace hr:Rs es b q i ver=some r:=hr
  cases i with
  |bm k=>exact .inr ⟨λ_=>by simp,λ_=>by simp,(bf hr).symm⟩
  |new x j=>
   unfold Rs at hr;simp only at hr;split at hr
   ·rename_i hx;have hx:x=b:=by simpa using hx
    subst hx;split at hr
    ·rename_i v fr c he;split at hr
     ·rename_i hv;have hv:ver=v:=by simpa using hv
      subst hv;exact .inl ⟨j,fr,c,rfl,he,(bf hr).symm⟩
     ·cases hr
    ·cases hr
   ·rename_i hx;have hx:¬x=b:=by simpa using hx
    split at hr
    ·cases hr
    ·rename_i hx';have hx':¬x=q:=by simpa using hx'
     exact .inr ⟨λ_ e=>hx' (by injection e),λ_ e=>hx (by injection e),(bf hr).symm⟩
 have hle:AA ρ (s.env w g β) (s1.env w g1 β1):=by
  refine⟨Trans.mem (E:=s.env w g β) (E':=s1.env w g1 β1) ht,λi ver r hr anh=> ?_⟩;rcases hρ i ver r hr with⟨j,fr,c,rfl,he,rfl⟩ | ⟨hi,hi',rfl⟩
  ·refine⟨⟨by show s1.bW (.new q j)≠none;rw[lI,he];simp,λ_ _ _ _=>aK _⟩,λ_=>⟨⟨fr,c,(aRx j).trans he⟩,if_pos rfl⟩⟩
  ·obtain⟨k1,k2⟩:=anh;have k1:s.bW i≠none:=k1;have e:s1.bW i=(s.bW i).map (dE.aeC ρ (KK b q)):=Lh i hi hi';have back:∀v' fr' c',s1.bW i=some (.obj v' fr' c')->∃c0,s.bW i=some (.obj v' fr' c0):=λv' fr' c' hh=>by
    rw[e]at hh;cases hs:s.bW i with
    |none=>exact absurd hs k1
    |some en=>
     rw[hs]at hh;cases en with
     |dead=>simp[dE.aeC]at hh
     |obj v0 fr0 c0=>
      simp only[dV,dE.aeC,az,dE.obj.injEq]at hh;obtain⟨rfl,rfl,_⟩:=hh;exact⟨c0,rfl⟩
   refine⟨⟨by
    show s1.bW i≠none;rw[e];cases hs:s.bW i with
    |none=>exact absurd hs k1
    |some en=>simp,λv' fr' c' hh=> ?_⟩,λ⟨fr',c',hh⟩=> ?_⟩
   ·obtain⟨c0,XW⟩:=back v' fr' c' hh;exact k2 v' fr' c0 XW
   ·obtain⟨c0,XW⟩:=back ver fr' c' hh;exact⟨⟨fr',c0,XW⟩,hβ1 i hi⟩
 have aSQ:∀(i:Id),(∀j',i≠ .new b j')->∀(x:Nat) (k:Nat),g x= .own (.id i) k->g1 x= .own (.id i) k:=λi hi x k hk=>by
  show Gp b q (g x)=_;rw[hk];cases i with
  |bm m=>rfl
  |new y j=>exact if_neg λe=>hi j (by rw[e])
 refine⟨g1,β1,h.T7 hC ρ (by simp[AS.Jq]) ht hle (λi=> ?_) (λid ver fr' c' cY=> ?_) λk=>⟨λhk=> ?_,λv' fr' c' hh=> ?_,rfl⟩⟩
 ·have:(s.Jq b q es).slot i=(s.slot i).iV ρ:=acG _ rfl _ _;rw[this];exact HO hle (h.ct i)
 ·have cY:s1.bW id=some (.obj ver fr' c'):=cY;by_cases hi:∃j',id= .new q j'
  ·obtain⟨j',rfl⟩:=hi;rw[lI]at cY;cases he:es[j']? with
   |none=>rw[he]at cY;cases cY
   |some en=>
    rw[he]at cY;cases en with
    |dead=>simp[dE.atz]at cY
    |obj v0 fr0 c0=>
     simp only[dV,dE.atz,az,dE.obj.injEq]at cY;obtain⟨_,rfl,rfl⟩:=cY;exact .inr ⟨.new b j',v0,c0,(aRx j').trans he,rfl,if_pos rfl,λpl hp=>⟨λk hk=>by
      show Gp b q (g pl.b)=_;rw[hk];exact if_pos rfl,λhk=>by
      show Gp b q (g pl.b)=_;rw[hk];rfl⟩⟩
  ·by_cases hi':∃j',id= .new b j'
   ·obtain⟨j',rfl⟩:=hi';have aOT:b≠q:=λe=>hi ⟨j',by rw[e]⟩
    rw[aRC aOT]at cY;cases cY
   ·have aSU:∀j',id≠ .new q j':=λj' e=>hi ⟨j',e⟩
    have hni':∀j',id≠ .new b j':=λj' e=>hi' ⟨j',e⟩
    have e:=Lh id aSU hni';rw[e]at cY;cases hs:s.bW id with
    |none=>rw[hs]at cY;cases cY
    |some en=>
     rw[hs]at cY;cases en with
     |dead=>simp[dE.aeC]at cY
     |obj v0 fr0 c0=>
      simp only[dV,dE.aeC,az,dE.obj.injEq]at cY;obtain⟨rfl,rfl,rfl⟩:=cY;rcases asl c0 with⟨q2,vq,k,v2,l,cu,rfl⟩ | ⟨aPb,_⟩
      ·have h0:=h.bJ id v0 fr0 _ hs;left;simp only[aB.aAG];cases aST:KK b q q2 with
       |true=>
        have ai0:(∀j',q2≠ .new b j')/\(∀j',q2≠ .new q j')/\∀vr,ρ q2 vr=some (q2,vr):=by
         cases q2 with
         |bm k=>exact⟨λ_=>by simp,λ_=>by simp,λ_=>rfl⟩
         |new x y=>
          simp only[KK,au,cC,gU]at aST;obtain⟨k1,k2⟩:=aST;refine⟨λ_ e=>k1 (by injection e),λ_ e=>k2 (by injection e),λvr=> ?_⟩;show Rs es b q (.new x y) vr=_;unfold Rs;simp only[jw k1,jw k2]
        obtain⟨ai0,aqq,hρq⟩:=ai0;refine aN2.aV hle.mem (λ_=>rfl) h0 (hβ1 id aSU) (λpl _ hk=>aSQ id hni' _ _ hk) λvr _=>⟨λhb=>hle.ref q2 vr (q2,vr) (hρq vr) hb,λk v l hk=> ?_,λpl _ hk=>aSQ q2 ai0 _ _ hk⟩
        have hk:s.bW q2=some (.obj vr true (.mp k v l)):=hk;show s1.bW q2=_;rw[Lh q2 aqq ai0,hk];rfl
       |false=>
        obtain⟨pl,mb,since,seen,c0,h1,h2,h3,h4⟩:=h0;exact⟨pl,mb,since,seen,c0,(hβ1 id aSU).trans h1,h2,aSQ id hni' _ _ h3,λvr aqs=>ak⟩
      rw[aPb];exact .inr ⟨id,v0,c0,hs,rfl,hβ1 id aSU,λpl hp=>⟨λk hk=>aSQ id hni' _ _ hk,λhk=>by
       show Gp b q (g pl.b)=_;rw[hk];rfl⟩⟩
 ·have e:=Lh (.bm k) (λ_=>by simp) (λ_=>by simp);show s1.bW (.bm k)≠none;rw[e];cases hs:s.bW (.bm k) with
  |none=>exact absurd hs hk
  |some en=>simp
 ·have e:=Lh (.bm k) (λ_=>by simp) (λ_=>by simp);have hh:s1.bW (.bm k)=some (.obj v' fr' c'):=hh;rw[e]at hh;cases hs:s.bW (.bm k) with
  |none=>rw[hs]at hh;cases hh
  |some en=>
   rw[hs]at hh;cases en with
   |dead=>simp[dE.aeC]at hh
   |obj v0 fr0 c0=>
    simp only[dV,dE.aeC,az,dE.obj.injEq]at hh;obtain⟨rfl,rfl,_⟩:=hh;exact⟨c0,rfl⟩
theorem adx{k t:Ty}{l:List (k.den×t.den)}:∀ {p:List La} {x c':aB},¬(yy (.mp k t l) p x).eval=some c'
 |[],x,c',h=>by simp only[yy,av]at h
 | .arr::p,x,c',h=>by simp only[yy]at h;exact adx h
 | .idx i::p,x,c',h=>by simp only[yy,av]at h
 | .fst::p,x,c',h=>by simp only[yy,av]at h
 | .snd::p,x,c',h=>by simp only[yy,av]at h
theorem akT{q:Id}{vq:Nat}{k t:Ty}{l:List (k.den×t.den)}{cu:Option (k.den×t.den)}:∀ {p:List La} {x c':aB},¬(yy (.tC q vq k t l cu) p x).eval=some c'
 |[],x,c',h=>by simp only[yy,av]at h
 | .arr::p,x,c',h=>by simp only[yy]at h;exact akT h
 | .idx i::p,x,c',h=>by simp only[yy,av]at h
 | .fst::p,x,c',h=>by simp only[yy,av]at h
 | .snd::p,x,c',h=>by simp only[yy,av]at h
theorem akU{k:vB}{f:aB}{m:Nat}:∀ {p:List La} {x c':aB},¬(yy (.rP k f m) p x).eval=some c'
 |[],x,c',h=>by simp only[yy,av]at h
 | .arr::p,x,c',h=>by simp only[yy]at h;exact akU h
 | .idx i::p,x,c',h=>by simp only[yy,av]at h
 | .fst::p,x,c',h=>by simp only[yy,av]at h
 | .snd::p,x,c',h=>by simp only[yy,av]at h
theorem WI{l:List Value}{n:Nat}{vs:List Value}(h:(l.drop n).take vs.length=vs):dA l n vs=l:=by
 unfold dA;have h2:l.drop n=vs++l.drop (n+vs.length):=by
  conv=>lhs;rw[<-dq vs.length (l.drop n)]
  rw[h,fU]
 have h3:=dq n l;rw[h2]at h3;simpa[aF]using h3
theorem Inv.aSd(h:Inv C g β s a w){j:Nat}{p:List La}(SC:(s.at j p).eval=some .de){q:Nat}(hq:s.dY q=true){e:TypeId}{t:Ty}(hz:0 < t.size){s':AS}
  (he:((s.born q [.obj 0 false (.vec e t [])]).putAt j (.bA (.new q 0) 0 [] 0 0 0) p).eval=some s'):iB C s' a w:=by
 obtain⟨β',h1,h2,h3⟩:=h.aGv hq (e:=e) hz;cases p with
 |nil=>
  simp only[AS.at]at SC;have hj:=ay.1 SC;simp only[AS.putAt]at he;obtain rfl:=ay.1 he;refine⟨g,β',h1.aSl j ?_⟩;have:=h.ct j;rw[hj]at this;rw[lN this];exact h3
 |cons st p=>
  simp only[AS.at]at SC;simp only[AS.putAt]at he;have Z5:(s.born q [.obj 0 false (.vec e t [])]).slot j=s.slot j:=rfl;rw[Z5]at he;split at SC
  ·rename_i id ver p0 nn hj;split at SC
   ·rename_i v fr c ml;obtain⟨hv,SC⟩:=aC.1 SC;obtain⟨⟨n,u⟩,hl,SC⟩:=aw.1 SC;have hu:=ay.1 SC;simp only at hu;subst hu;have cQ:=ee ml;have gF:id≠ .new q 0:=λe=>by rw[e,(kJ hq).1 0]at cQ;cases cQ
    have hne':∀j',id≠ .new q j':=λj' e=>by rw[e,(kJ hq).1 j']at cQ;cases cQ
    have yu:(s.born q [.obj 0 false (.vec e t [])]).bW id=some (.obj v fr c):=(jm _ hne').trans cQ;have aO7:(s.born q [.obj 0 false (.vec e t [])]).obj id=some (v,fr,c):=by simp only[AS.obj,yu]
    simp only[hj,aO7]at he;split at he
    ·simp only[av]at he
    ·rename_i c1 aTD;obtain⟨c',Xb,he⟩:=aw.1 he;obtain rfl:=ay.1 he;have hn:c.iS=false:=by cases c <;> first | rfl | (exact(aTD _ _ _ rfl).elim) | (exact absurd Xb adx) | (exact absurd Xb akT) | (exact absurd Xb akU)
     have hO:=h1.bJ id v fr c yu;obtain⟨pl,cur,e0,hp,hh,hg,hk,hV⟩:=hO.box hn;have ht:=Trans.refl w g;have hN:=XO hk;have hle:=cM.bl (s:=s.born q [.obj 0 false (.vec e t [])]) (β:=β') (v':=v) (fr':=fr) (c':=c.wrap c') yu (ax _) ht (λ_ _=>rfl) (λ_=>rfl);refine⟨g,β',h1.step (dj _ _ _) ht hle (iZ.bl h1.bJ (by rw[yu];simp) hle (λ_ _=>rfl) (λ_ _ _ _ _ _ _ _=>⟨rfl,rfl⟩) ?_ (qz yu λk v1 l e=>by subst e;exact absurd Xb adx))⟩;obtain⟨cs,k1,k2⟩:=h3;have k2:cs=[.slice none 0 0]:=k2;subst k2;obtain⟨u1,u2,u3⟩:=qU (p0++st::p) c.strip (cur.toList.take (c.xW cur.size)) n .de _ c' [.slice none 0 0] (VO.of hV) hl k1 Xb;have u4:=u2.to (u3.uT hV.uT);have Ed:((cur.toList.take (c.xW cur.size)).drop n).take 1=[.slice none 0 0]:=by
      rcases tF (p0++st::p) c.strip (cur.toList.take (c.xW cur.size)) n .de (VO.of hV) hl with⟨aLb,XW⟩ | ⟨q1,q2⟩
      ·rw[<-XW]at hV;simp only[V]at hV;rw[hV,aLb];rfl
      ·simpa only[V,aB.size]using q1
     rw[WI (vs:=[.slice none 0 0]) Ed]at u4;have tW:c'.size=c.strip.size:=by have e1:=u4.size;have e2:=hV.size;omega
     exact SF.obj ⟨pl,cur,e0,hp,hh,hg,Nh hk u4.Bh tW,by rw[OU c u4.Bh,S0 u4.Bh tW];exact V.mono hle u4⟩
   ·simp only[av]at SC
  ·simp only[av]at SC
theorem LY:∀(ids:List Id) {s:AS} {i:Id} {v:Nat} {fr:Bool} {c:aB},s.bW i=some (.obj v fr c)->∃fr',(s.bB ids).bW i=some (.obj v fr' c)
 |[],s,i,v,fr,c,h=>⟨fr,h⟩
 |id::ids,s,i,v,fr,c,h=>by obtain⟨fr',h'⟩:=ZJ (id:=id) h;exact LY ids h'
theorem Inv.aQ7(h:Inv C g β s a w){j:Nat}{p:List La}{u:aB}(SC:(s.at j p).eval=some u){t:Ty}{x:t.den}(ht:(s.jq t u).eval=some x){s':AS}
  (he:((s.bB u.shared).putAt j (.d t x) p).eval=some s'):iB C s' a w:=by
 cases p with
 |nil=>
  simp only[AS.at]at SC;have hj:=ay.1 SC;simp only[AS.putAt]at he;obtain rfl:=ay.1 he;have hs:=h.ct j;rw[hj]at hs;obtain⟨g',i1,_,_,cs,hR,hO⟩:=BH h hs ht;exact⟨g',β,i1.aSl j (VS.of (a:= .d t x) (cs:=cs) (by simpa only[V]using hR) hO)⟩
 |cons st p=>
  simp only[AS.at]at SC;simp only[AS.putAt]at he;have Z5:(s.bB u.shared).slot j=s.slot j:=by simp only[AS.slot,oo]
  rw[Z5]at he;split at SC
  ·rename_i id ver p0 nn hj;split at SC
   ·rename_i v fr c ml;obtain⟨hv,SC⟩:=aC.1 SC;obtain⟨⟨n,u'⟩,hl,SC⟩:=aw.1 SC;have hu:=ay.1 SC;simp only at hu;subst hu;have cQ:=ee ml;obtain⟨g',h1,h2,h3,h4⟩:=fD u'.shared h;obtain⟨fr',yu⟩:=LY u'.shared cQ;have aO7:(s.bB u'.shared).obj id=some (v,fr',c):=by simp only[AS.obj,yu]
    simp only[hj,aO7]at he;split at he
    ·simp only[av]at he
    ·rename_i c1 aTD;obtain⟨c',Xb,he⟩:=aw.1 he;obtain rfl:=ay.1 he;have hn:c.iS=false:=by cases c <;> first | rfl | (exact(aTD _ _ _ rfl).elim) | (exact absurd Xb adx) | (exact absurd Xb akT) | (exact absurd Xb akU)
     obtain⟨pl0,cur0,e00,aO9,aO0,aTJ,aRE,hV0⟩:=(h.bJ id v fr c cQ).box hn;obtain⟨pl,cur,e0,hp,hh,hg,hk,hV⟩:=(h1.bJ id v fr' c yu).box hn;have Pd:pl0=pl:=by have aO9:β id=some pl0:=aO9;have hp:β id=some pl:=hp;rw[aO9]at hp;exact bf hp
     subst Pd;have fB:cur0=cur:=by
      have aO0:w.heap[pl0.b]? =_:=aO0
      have hh:w.heap[pl0.b]? =_:=hh
      rw[aO0]at hh;simpa using(bo (λo=>match o with | some (.cells x _ _)=>x | _=>cur0) hh)
     subst fB;obtain⟨cs,hVu,Ed⟩:∃cs,V (s.env w g β) u' cs/\((cur0.toList.take (c.xW cur0.size)).drop n).take cs.length=cs:=by
      rcases tF (p0++st::p) c.strip (cur0.toList.take (c.xW cur0.size)) n u' (VO.of hV0) hl with⟨aLb,XW⟩ | ⟨q1,q2⟩
      ·refine⟨cur0.toList.take (c.xW cur0.size),by rw[XW];exact hV0,?_⟩;rw[aLb,aD,bK]
      ·refine⟨_,q1,?_⟩;rw[bp,dp];congr 1;omega
     have hR:=xM rfl h.bJ h2 u' t x cs hVu ht h4;have hVx:V ((s.bB u'.shared).env w g' β) (.d t x) cs:=by simpa only[V]using hR
     have ht':=Trans.refl w g';have hle:=cM.bl (s:=s.bB u'.shared) (β:=β) (v':=v) (fr':=fr') (c':=c.wrap c') yu (ax _) ht' (λ_ _=>rfl) (λ_=>rfl);refine⟨g',β,h1.step (dj _ _ _) ht' hle (iZ.bl h1.bJ (by rw[yu];simp) hle (λ_ _=>rfl) (λ_ _ _ _ _ _ _ _=>⟨rfl,rfl⟩) ?_ (qz yu λk v1 l e=>by subst e;exact absurd Xb adx))⟩;obtain⟨u1,u2,u3⟩:=qU (p0++st::p) c.strip (cur0.toList.take (c.xW cur0.size)) n u' _ c' cs (VO.of hV) hl hVx Xb;have u4:=u2.to (u3.uT hV.uT);rw[WI (vs:=cs) Ed]at u4;have tW:c'.size=c.strip.size:=by have e1:=u4.size;have e2:=hV.size;omega
     exact SF.obj ⟨pl0,cur0,e0,hp,hh,hg,Nh hk u4.Bh tW,by rw[OU c u4.Bh,S0 u4.Bh tW];exact V.mono hle u4⟩
   ·simp only[av]at SC
  ·simp only[av]at SC
theorem NM{E:Env}:∀(t:Ty) (x:t.den) (u:aB),(Ql t x).eval=some u->∀cs,df E t cs x->V E u cs
 | .ig t,x,u,h,cs,hr=>by simp only[Ql]at h;obtain⟨h1,h2⟩:=bS.1 h;obtain rfl:=ay.1 h2;simp only[df]at hr;simp only[V];exact hr.1 (Option.isNone_iff_eq_none.1 h1)
 | .pair a b,x,u,h,cs,hr=>by simp only[Ql]at h;obtain⟨u1,h1,h2⟩:=aw.1 h;obtain⟨u2,h3,h4⟩:=aw.1 h2;obtain rfl:=ay.1 h4;simp only[df]at hr;obtain⟨ca,cb,rfl,ha,hb⟩:=hr;exact aqC (NM a x.1 u1 h1 ca ha) (NM b x.2 u2 h3 cb hb)
 | .int k,x,u,h,cs,hr=>by simp only[Ql]at h;obtain rfl:=ay.1 h;simpa only[V]using hr
 | .bool,x,u,h,cs,hr=>by simp only[Ql]at h;obtain rfl:=ay.1 h;simpa only[V]using hr
 | .str,x,u,h,cs,hr=>by simp only[Ql]at h;obtain rfl:=ay.1 h;simpa only[V]using hr
 | .slice t,x,u,h,cs,hr=>by simp only[Ql]at h;obtain rfl:=ay.1 h;simpa only[V]using hr
 | .unit,x,u,h,cs,hr=>by simp only[Ql]at h;obtain rfl:=ay.1 h;simpa only[V]using hr
 | .arr n t,x,u,h,cs,hr=>by simp only[Ql]at h;obtain rfl:=ay.1 h;simpa only[V]using hr
 | .uH t,x,u,h,cs,hr=>by simp only[Ql]at h;obtain rfl:=ay.1 h;simpa only[V]using hr
theorem axG{e:TypeId}{z:Nat}{c:aB}{pl:Pl}{n:Nat}(hz:0 < z)(h1:n=pl.cap*z)(h2:pl.cap<=maxLen)(h3:c.size<=n):(aB.bx e z c).HZ pl n e:=by
 cases z with
 |zero=>omega
 |succ z=>exact⟨rfl,h1,h2,h3⟩
theorem alW{e:TypeId}{z:Nat}{c:aB}{n:Nat}(hz:0 < z):(aB.bx e z c).xW n=c.size:=by
 cases z with
 |zero=>omega
 |succ z=>rfl
theorem ajE{e e':TypeId}{z:Nat}{c:aB}{pl:Pl}{n:Nat}(hz:0 < z)(h:(aB.bx e z c).HZ pl n e'):e'=e/\n=pl.cap*z/\pl.cap<=maxLen/\c.size<=n:=by
 cases z with
 |zero=>omega
 |succ z=>exact h
theorem aoz{E:Env}{id:Id}{ver n:Nat}{p p':List La}{y:Value}(h:VS E (.ptr id ver p n) y):VS E (.ptr id ver p' n) y:=by obtain⟨cs,h1,h2⟩:=h;exact⟨cs,by simpa only[V]using h1,h2⟩
theorem Inv.aRb(h:Inv C g β s a w){j:Nat}{id:Id}{ver n k v:Nat}{p p':List La}(hj:s.slot j= .ptr id ver p n){e:TypeId}{t:Ty}{r:List t.den}(ml:s.obj id=some (v,false,.vec e t r))
  (hk:k < r.length) {u:aB} (hu:(Ql t (nth t r k)).eval=some u):
  iB C ((s.bl id (.obj v false (.bx e t.size (.pr (.d (.arr k t) (r.take k)) (.pr u (.d (.arr (r.drop (k+1)).length t) (r.drop (k+1)))))))).put (some j) (.ptr id ver p' n)) a w:=by
 have cQ:=ee ml;obtain⟨hz,hO⟩:xk (s.env w g β) id false (.vec e t r):=h.bJ id v false _ cQ;have hO:(match β id with
  |none=>r=[]
  |some pl=>∃cur k,w.heap[pl.b]? =some (.cells cur e (0,0))/\cur.size=pl.cap*t.size/\r.length<=pl.cap/\pl.cap<=maxLen/\g pl.b= .own (.id id) k/\
    k<=r.length*t.size/\(false=false->k=0)/\bD (df (s.env w g β) t) (cur.toList.take (r.length*t.size)) r):=hO
 have ht:=Trans.refl w g
 have hle:cM (s.env w g β) ((s.bl id (.obj v false (.bx e t.size (.pr (.d (.arr k t) (r.take k)) (.pr u (.d (.arr (r.drop (k+1)).length t) (r.drop (k+1)))))))).env w g β):=
  cM.bl cQ (ax _) ht (λ_ _=>rfl) (λ_=>rfl)
 have hI:=h.step (dj _ _ _) ht hle (iZ.bl h.bJ (by rw[cQ];simp) hle (λ_ _=>rfl) (λ_ _ _ _ _ _ _ _=>⟨rfl,rfl⟩) (ald:=QT cQ) (by
  cases hp:β id with
  |none=>rw[hp]at hO;simp only at hO;subst hO;simp at hk
  |some pl=>
   rw[hp]at hO;obtain⟨cur,k0,q1,q2,q3,q4,q5,q6,q7,q8⟩:=hO;have aRE:=q7 rfl;subst aRE;have aqv:∀c x,df (s.env w g β) t c x->c.length=t.size:=λc x hx=>hx.size
   have c1:=bD.take aqv k q8;have c2:=(q8.get aqv k hk);have c3:=bD.drop aqv (k+1) q8;have ale:V (s.env w g β) u (((cur.toList.take (r.length*t.size)).drop (k*t.size)).take t.size):=NM t _ u (by rw[abf hk]at hu;exact hu) _ c2;have aW2:=ale.size;have hlen:(cur.toList.take (r.length*t.size)).length=r.length*t.size:=bD.length aqv q8;have tW:r.length*t.size<=cur.size:=by rw[q2];exact cS _ q3
   have aXD:(k+1)*t.size<=r.length*t.size:=cS _ hk;have ai0:(k+1)*t.size=k*t.size+t.size:=Nat.succ_mul k t.size;have aPd:u.size=t.size:=by rw[<-aW2,bp,dp,hlen];omega
   have hm:(r.drop (k+1)).length*t.size=r.length*t.size - (k+1)*t.size:=by rw[dp,Nat.sub_mul]
   have ani:(aB.pr (.d (.arr k t) (r.take k)) (.pr u (.d (.arr (r.drop (k+1)).length t) (r.drop (k+1))))).size=r.length*t.size:=by simp only[aB.size,Ty.size,aPd,hm];omega
   refine SF.obj ⟨pl,cur,e,hp,q1,q5,axG hz q2 q4 (by rw[ani];exact tW),?_⟩;rw[alW hz,ani];refine V.mono hle ?_
   show V _ (.pr (.d (.arr k t) (r.take k)) (.pr u (.d (.arr (r.drop (k+1)).length t) (r.drop (k+1))))) _;simp only[V];generalize cur.toList.take (r.length*t.size)=R at*;refine⟨R.take (k*t.size),R.drop (k*t.size),(dq _ _).symm,?_,(R.drop (k*t.size)).take t.size,R.drop ((k+1)*t.size),?_,ale,?_⟩
   ·simp only[df];exact⟨by rw[bp];omega,c1⟩
   ·rw[ai0,<-fU,dq]
   ·simp only[df];exact⟨trivial,c3⟩))
 refine⟨g,β,hI.aSl j ?_⟩;have:=h.ct j;rw[hj]at this;exact aoz (VS.mono hle this)
theorem Tm:∀(l:List Nat) {s s1:AS},iB C s a w->(ayA s l).eval=some s1->iB C s1 a w
 |[],s,s1,h,he=>by simp only[ayA]at he;obtain rfl:=ay.1 he;exact h
 |j::l,s,s1,h,he=>by
  obtain⟨g,β,h⟩:=h;simp only[ayA]at he;split at he
  ·rename_i id ver k p n hj;split at he
   ·rename_i v e t r ml;obtain⟨h1,he⟩:=aC.1 he;obtain⟨h2,he⟩:=bS.1 he;obtain⟨u,h3,he⟩:=aw.1 he;exact Tm l (h.aRb hj ml (of_decide_eq_true h2) h3) he
   ·simp only[av]at he
  ·exact Tm l ⟨g,β,h⟩ he
  ·simp only[av]at he
theorem Ti{s:AS}{id i:Id}(h:i≠id):(s.freeze id).bW i=s.bW i:=by
 unfold AS.freeze;split
 ·exact cX s id i _ h
 ·rfl
theorem yt:∀(ids:List Id) {s:AS} {i:Id},i ∉ ids->(s.bB ids).bW i=s.bW i
 |[],_,_,_=>rfl
 |id::ids,s,i,h=>by
  have h1:i≠id:=λe=>h (by rw[e];exact aI)
  exact(yt ids λhi=>h (aG _ hi)).trans (Ti h1)
theorem Inv.aSy(h:Inv C g β s a w){j:Nat}{id:Id}{ver n k m v z:Nat}{p p':List La}(hj:s.slot j= .ptr id ver p n){e:TypeId}{t:Ty}{l1 l2:List t.den}{u:aB}
  (ml:s.obj id=some (v,false,.bx e z (.pr (.d (.arr k t) l1) (.pr u (.d (.arr m t) l2))))) (hz:z=t.size) (aPj:0 < z) (cY:id ∉ u.shared) {x:t.den} (hx:(s.jq t u).eval=some x):
  iB C (((s.bB u.shared).bl id (.obj v false (.vec e t (l1++x::l2)))).put (some j) (.ptr id ver p' n)) a w:=by
 have cQ:=ee ml;obtain⟨pl0,cur0,e0,aO9,aO0,aTJ,aRE,hV0⟩:=(h.bJ id v false _ cQ).box rfl;obtain⟨g',h1,h2,h3,h4⟩:=fD u.shared h;have yu:(s.bB u.shared).bW id=some (.obj v false (.bx e z (.pr (.d (.arr k t) l1) (.pr u (.d (.arr m t) l2))))):=(yt _ cY).trans cQ;obtain⟨pl,cur,e1,hp,hh,hg,hk,hV⟩:=(h1.bJ id v false _ yu).box rfl;have hp:β id=some pl:=hp;have Pd:pl0=pl:=by have aO9:β id=some pl0:=aO9;rw[aO9]at hp;exact bf hp
 subst Pd;have fB:cur0=cur:=by
  have aO0:w.heap[pl0.b]? =_:=aO0
  have hh:w.heap[pl0.b]? =_:=hh
  rw[aO0]at hh;simpa using(bo (λo=>match o with | some (.cells x _ _)=>x | _=>cur0) hh)
 subst fB;obtain⟨rfl,q2,q4,q3⟩:=ajE aPj hk;rw[alW aPj]at hV0;have hV0:V (s.env w g β) (.pr (.d (.arr k t) l1) (.pr u (.d (.arr m t) l2))) _:=hV0;have aWY:=hV0.size;simp only[V]at hV0;obtain⟨ca,cb,hR,hA,cu,cc,aOU,hU,hB⟩:=hV0;subst aOU;simp only[df]at hA hB;have hX:=xM rfl h.bJ h2 u t x cu hU hx h4;have aqv:∀c x,df ((s.bB u.shared).env w g' β) t c x->c.length=t.size:=λc x hx=>hx.size
 have cA:=hA.2.mono λ_ _ hx=>hx.mono h2.mem
 have cB:=hB.2.mono λ_ _ hx=>hx.mono h2.mem
 have wB:bD (df ((s.bB u.shared).env w g' β) t) (ca++(cu++cc)) (l1++x::l2):=bD.append cA ⟨cu,cc,rfl,hX,cB⟩;have hlen:=bD.length aqv wB;have ani:(aB.pr (.d (.arr k t) l1) (.pr u (.d (.arr m t) l2))).size=(l1++x::l2).length*t.size:=by rw[<-hlen,<-hR];exact aWY.symm
 rw[ani]at hR q3;rw[hz]at q2;have ar6:(l1++x::l2).length<=pl0.cap:=by rw[q2]at q3;exact Nat.le_of_mul_le_mul_right q3 ak
 have ht:=Trans.refl w g';have hle:cM ((s.bB u.shared).env w g' β) (((s.bB u.shared).bl id (.obj v false (.vec e1 t (l1++x::l2)))).env w g' β):=cM.bl yu (ax _) ht (λ_ _=>rfl) (λ_=>rfl);have hI:=h1.step (dj _ _ _) ht hle (iZ.bl h1.bJ (by rw[yu];simp) hle (λ_ _=>rfl) (λ_ _ _ _ _ _ _ _=>⟨rfl,rfl⟩) (ald:=qz yu λ_ _ _ e=>by cases e) (by
  refine⟨ak,?_⟩;show(match β id with
   |none=>l1++x::l2=[]
   |some pl=>_)
  rw[hp];exact⟨cur0,0,hh,q2,ar6,q4,hg,aK _,λ_=>rfl,by rw[hR];exact wB.mono λ_ _ hx=>hx.mono hle.mem⟩))
 refine⟨g',β,hI.aSl j ?_⟩;have:=h.ct j;rw[hj]at this;exact aoz (VS.mono (h2.trans hle) this)
theorem ahp:∀(l:List Nat) {s s1:AS},iB C s a w->(aIS s l).eval=some s1->iB C s1 a w
 |[],s,s1,h,he=>by simp only[aIS]at he;obtain rfl:=ay.1 he;exact h
 |j::l,s,s1,h,he=>by
  obtain⟨g,β,h⟩:=h;simp only[aIS]at he;split at he
  ·rename_i id ver p n hj;split at he
   ·rename_i v e z k t l1 u m t' l2 ml;obtain⟨h1,he⟩:=aC.1 he;obtain⟨l2',h2,he⟩:=aw.1 he;obtain⟨x,h3,he⟩:=aw.1 he;simp only[au,dv,cC,gE]at h1;obtain⟨⟨⟨h5,h6⟩,h7⟩,h8⟩:=h1;obtain⟨et,hl⟩:=jO (ku.1 h2);have et':t'=t:=by simpa using et
    subst et';simp only at hl;subst hl;refine ahp l (h.aSy hj ml h6 ak (λhi=> ?_) h3) he;have:(u.shared.any λi=>decide (i=id))=true:=List.any_eq_true.2 ⟨id,hi,by simp⟩;rw[this]at h8;cases h8
   ·simp only[av]at he
  ·simp only[av]at he
theorem AX:∀(l:List aSF) {s s1:AS},iB C s a w->(Vq s l).eval=some s1->iB C s1 a w
 |[],s,s1,h,he=>by simp only[Vq]at he;obtain rfl:=ay.1 he;exact h
 |o::l,s,s1,h,he=>by
  obtain⟨g,β,h⟩:=h;unfold Vq at he;split at he
  ·exact AX l ⟨g,β,h⟩ he
  obtain⟨u,hu,he⟩:=aw.1 he;obtain⟨x,hx,he⟩:=aw.1 he;obtain⟨s',hs,he⟩:=aw.1 he;exact AX l (h.aQ7 hu hx hs) he
theorem ma(hC:C.ok):∀(l:List aCp) {s s1:AS},iB C s a w->(wO P s l).eval=some s1->iB C s1 a w
 |[],s,s1,h,he=>by simp only[wO]at he;obtain rfl:=ay.1 he;exact h
 |o::l,s,s1,h,he=>by
  obtain⟨g,β,h⟩:=h;unfold wO at he;split at he
  ·exact ma hC l ⟨g,β,h⟩ he
  obtain⟨u,hu,he⟩:=aw.1 he;split at he
  ·split at he
   ·rename_i e t b Lg hv;obtain⟨s',h1,h2⟩:=aw.1 he;exact ma hC l (h.aSd hu hv (ad1 Lg) h1) h2
   ·simp only[av]at he
  ·split at he
   ·rename_i b j ver aVx;split at he
    ·rename_i v fr c ml hm;split at he
     ·have aQv:b < s.news.length:=by
       have:=ee ml;simp only[AS.bW,aH]at this;cases hn:s.news[b]? with
       |none=>rw[hn]at this;simp at this
       |some es=>exact(dF.1 hn).1
      obtain⟨g1,β1,h1⟩:=h.Jq hC aQv (by simpa using hm);exact ma hC l ⟨g1,β1,h1⟩ he
     ·simp only[av]at he
    ·simp only[av]at he
   ·simp only[av]at he
theorem O5:∀(l:List Nat) {s s1:AS},iB C s a w->(ahn s l).eval=some s1->iB C s1 a w
 |[],s,s1,h,he=>by simp only[ahn]at he;obtain rfl:=ay.1 he;exact h
 |j::l,s,s1,h,he=>by
  obtain⟨g,β,h⟩:=h;simp only[ahn]at he;split at he
  ·rename_i id ver len hj;split at he
   ·rename_i v e t r ml;split at he
    ·obtain⟨h1,h2⟩:=bS.1 he;have h1:len<=r.length:=by simpa using h1
     refine O5 l ?_ h2
     have cQ:=ee ml;have hO:xk (s.env w g β) id false (.vec e t r):=h.bJ id v false _ cQ;have ht:=Trans.refl w g;have hle:cM (s.env w g β) ((s.bl id (.obj v false (.vec e t (r.take len)))).env w g β):=cM.bl cQ (ax _) ht (λ_ _=>rfl) (λ_=>rfl);refine⟨g,β,h.step (dj _ _ _) ht hle (iZ.bl h.bJ (by rw[cQ];simp) hle (λ_ _=>rfl) (λ_ _ _ _ _ _ _ _=>⟨rfl,rfl⟩) ?_ (QT cQ))⟩;obtain⟨hz,hO⟩:=hO;refine⟨hz,?_⟩;have hO:(match β id with
      |none=>r=[]
      |some pl=>∃cur k,w.heap[pl.b]? =some (.cells cur e (0,0))/\cur.size=pl.cap*t.size/\r.length<=pl.cap/\pl.cap<=maxLen/\g pl.b= .own (.id id) k/\
        k<=r.length*t.size/\(false=false->k=0)/\bD (df (s.env w g β) t) (cur.toList.take (r.length*t.size)) r):=hO
     show(match β id with
      |none=>r.take len=[]
      |some pl=>_)
     cases hp:β id with
     |none=>rw[hp]at hO;simp only at hO;subst hO;simp
     |some pl=>
      rw[hp]at hO;obtain⟨cur,k,q1,q2,q3,q4,q5,q6,q7,q8⟩:=hO;have hk:=q7 rfl;subst hk;have hlen:(r.take len).length=len:=by simp;omega
      refine⟨cur,0,q1,q2,ak,q4,q5,aK _,λ_=>rfl,?_⟩;have:=bD.take (λ_ _ hx=>df.size hx) len q8;rw[eJ,dU (cS _ h1)]at this;rw[hlen];exact this.mono λ_ _ hx=>hx.mono hle.mem
    ·simp only[av]at he
   ·simp only[av]at he
  ·simp only[av]at he
theorem Pr:∀(l:List (Nat×Ty)) {s s1:AS},iB C s a w->(asData s l).eval=some s1->iB C s1 a w
 |[],s,s1,h,he=>by simp only[asData]at he;obtain rfl:=ay.1 he;exact h
 | (j,t)::l,s,s1,h,he=>by obtain⟨g,β,h⟩:=h;simp only[asData]at he;obtain⟨x,h1,h2⟩:=aw.1 he;obtain⟨g',i1,_,_,cs,hR,hO⟩:=BH h (h.ct j) h1;exact Pr l ⟨g',β,i1.aSl j (VS.of (a:= .d t x) (cs:=cs) (by simpa only[V]using hR) hO)⟩ h2
theorem Inv.still:∀(l:List Nat) {s:AS},Inv C g β s a w->Inv C g β (s.still l) a w
 |[],s,h=>h
 |q::l,s,h=>by
  simp only[AS.still];split
  ·rename_i v fr i ver k t r cu ml;exact Inv.still l (h.aNE (ee ml) (.inr ⟨rfl,rfl,rfl⟩))
  ·exact Inv.still l h
theorem xo{α:Type}(l:List α):(ja l).Perm l:=Quotient.exact (s:=agJ α) (re (Quotient.mk (agJ α) l)).choose_spec
theorem axN{α:Type}{l l':List α}(h:l.Perm l'):ja l=ja l':=by
 have e:Quotient.mk (agJ α) l=Quotient.mk (agJ α) l':=Quotient.sound h;unfold ja;have:∀q q':Quotient (agJ α),q=q'->(re q).choose=(re q').choose:=λq q' h=>by subst h;rfl
 exact this _ _ e
theorem Inv.canon:∀(l:List Id) {s:AS},Inv C g β s a w->Inv C g β (s.canon l) a w
 |[],s,h=>h
 |id::l,s,h=>by
  simp only[AS.canon];split
  ·rename_i v fr k t r ml;have cQ:=ee ml;have ht:=Trans.refl w g;have hle:cM (s.env w g β) ((s.bl id (.obj v fr (.mp k t (ja r)))).env w g β):=cM.bl cQ (ax _) ht (λ_ _=>rfl) (λ_=>rfl);obtain⟨pl,es,clock,h1,h2,h3,⟨⟨l',h4,h5⟩,h6⟩,h7⟩:=h.bJ id v fr _ cQ
   refine Inv.canon l (h.step (dj _ _ _) ht hle (iZ.bl h.bJ (by rw[cQ];simp) hle (λ_ _=>rfl) (λ_ _ _ _ _ _ _ _=>⟨rfl,rfl⟩)
    ⟨pl,es,clock,h1,h2,h3,⟨⟨l',h4.mono λ_ _ he=>he.mono hle.mem,h5.trans (xo r).symm⟩,(((xo r).map _).nodup_iff).2 h6⟩,h7⟩ ?_))
   intro ver k' v' l2 hl;rw[cQ]at hl;simp only[az,dE.obj.injEq]at hl;obtain⟨rfl,rfl,_⟩:=hl;exact⟨rfl,rfl,⟨_,_,_,rfl⟩,λ_ _=>⟨rfl,rfl⟩⟩
  ·exact Inv.canon l h
theorem U9(k v n:Nat)(i:Id)(ver:Nat):(i= .bm k/\ver=v/\vn k v n i ver=some (.bm k,n))\/(i= .bm k/\vn k v n i ver=none)\/(i≠ .bm k/\vn k v n i ver=some (i,ver)):=by
 cases i with
 |new x j=>exact .inr (.inr ⟨by simp,rfl⟩)
 |bm j=>
  simp only[vn];cases h1:iO j k with
  |false=>exact .inr (.inr ⟨λe=>by injection e with e;subst e;simp at h1,rfl⟩)
  |true=>
   obtain rfl:=eW h1;cases h2:iO ver v with
   |false=>exact .inr (.inl ⟨rfl,rfl⟩)
   |true=>exact .inl ⟨rfl,eW h2,rfl⟩
theorem al0(hC:C.ok){s s1:AS}(h:Inv C g β s a w){k n:Nat}(he:(s.aDi k n).eval=some s1):Inv C g β s1 a w:=by
 unfold AS.aDi at he;split at he;rotate_left
 ·exact(av.1 he).elim
 rename_i v fr c hk;obtain⟨aVM,he⟩:=aC.1 he;have aVM:v<=n\/1<=n:=(Bool.or_eq_true_iff.1 aVM).imp dI dI;have hz:∀ver,C.E.G1 (.bm k) ver->ver=0:=λver hb=>by
  obtain⟨h1,h2⟩:=hb;cases hs:C.E.s (.bm k) with
  |none=>exact absurd hs h1
  |some en=>
   cases en with
   |dead=>
    have:=(h.le.G1 (.bm k) (v+1) ⟨h1,λv' fr' c' hh=>by rw[hs]at hh;cases hh⟩).2 _ _ _ hk;omega
   |obj v0 fr0 c0=>
    have:=hC.2 _ _ _ _ hs;have:=h2 _ _ _ hs;omega
 obtain rfl:=ay.1 he;have aRG:k < s.bZ.length:=by
  rcases qk k s.bZ.length with h | h
  ·exact h
  ·simp[AS.bW,dG h]at hk
 generalize SE:({ct:=s.ct.map (aB.iV (vn k v n)),bZ:=(s.bZ.map (dE.atA (vn k v n) (Ix k))).set k (.obj n fr (c.iV (vn k v n))),news:=s.news.map λes=>es.map (dE.atA (vn k v n) (Ix k))}:AS)=s1;have e0:s1.bW (.bm k)=some (.obj n fr (c.iV (vn k v n))):=by rw[<-SE];simp[AS.bW,aRG]
 have e1:∀i,i≠ .bm k->s1.bW i=(s.bW i).map (dE.atA (vn k v n) (Ix k)):=λi hi=>by
  rw[<-SE];cases i with
  |bm j=>
   have:¬k=j:=λe=>hi (by rw[e])
   simp only[AS.bW];rw[ea this,eh]
  |new x j=>
   simp only[AS.bW,aH,eh];cases s.news[x]? <;> simp
 have e2:∀i v' fr' c',i≠ .bm k->s1.bW i=some (.obj v' fr' c')->∃c0,s.bW i=some (.obj v' fr' c0)/\c'=c0.aAG (vn k v n) (Ix k):=λi v' fr' c' hi hh=>by
  rw[e1 i hi]at hh;cases hs:s.bW i with
  |none=>rw[hs]at hh;cases hh
  |some en=>
   rw[hs]at hh;cases en with
   |dead=>simp[dE.atA]at hh
   |obj v0 fr0 c0=>
    simp only[dV,dE.atA,az,dE.obj.injEq]at hh;obtain⟨rfl,rfl,rfl⟩:=hh;exact⟨c0,rfl,rfl⟩
 have e3:∀i,i≠ .bm k->s.bW i≠none->s1.bW i≠none:=λi hi hh=>by
  rw[e1 i hi];cases hs:s.bW i with
  |none=>exact absurd hs hh
  |some en=>simp
 have hle:AA (vn k v n) (s.env w g β) (s1.env w g β):=by
  refine⟨Trans.mem (E:=s.env w g β) (E':=s1.env w g β) (Trans.refl w g),λi ver r hr anh=> ?_⟩;rcases U9 k v n i ver with⟨rfl,rfl,e⟩ | ⟨rfl,e⟩ | ⟨hi,e⟩
  ·rw[e]at hr;obtain rfl:=bf hr;refine⟨⟨by show s1.bW (.bm k)≠none;rw[e0];simp,λv' fr' c' hh=> ?_⟩,λ_=>⟨⟨fr,c,hk⟩,rfl⟩⟩;have hh:s1.bW (.bm k)=some (.obj v' fr' c'):=hh;rw[e0]at hh;simp only[az,dE.obj.injEq]at hh;exact ug hh.1
  ·rw[e]at hr;cases hr
  ·rw[e]at hr;obtain rfl:=bf hr;obtain⟨k1,k2⟩:=anh;have k1:s.bW i≠none:=k1;have k2:∀v' fr' c',s.bW i=some (.obj v' fr' c')->ver<=v':=k2;refine⟨⟨e3 i hi k1,λv' fr' c' hh=> ?_⟩,λ⟨fr',c',hh⟩=> ?_⟩
   ·obtain⟨c0,XW,_⟩:=e2 i v' fr' c' hi hh;exact k2 _ _ _ XW
   ·obtain⟨c0,XW,_⟩:=e2 i ver fr' c' hi hh;exact⟨⟨fr',c0,XW⟩,rfl⟩
 refine⟨h.defers,by rw[<-SE];simpa using h.size,λi=> ?_,λid ver fr' c' cY=> ?_,h.trans,?_⟩
 ·have:s1.slot i=(s.slot i).iV (vn k v n):=by rw[<-SE];exact acG _ rfl _ _
  rw[this];exact HO hle (h.ct i)
 ·have cY:s1.bW id=some (.obj ver fr' c'):=cY;by_cases hi:id= .bm k
  ·subst hi;rw[e0]at cY;simp only[az,dE.obj.injEq]at cY;obtain⟨rfl,rfl,rfl⟩:=cY;exact xl hle (h.bJ (.bm k) v fr c hk) (id':= .bm k) rfl λpl _=>⟨rfl,λ_ h=>h,λh=>h⟩
  ·obtain⟨c0,XW,rfl⟩:=e2 id ver fr' c' hi cY;have h0:=h.bJ id ver fr' c0 XW;rcases asl c0 with⟨q2,vq,kt,vt,l,cu,rfl⟩ | ⟨aPb,_⟩
   ·simp only[aB.aAG];cases aST:Ix k q2 with
    |true=>
     have gF:q2≠ .bm k:=λe=>by subst e;simp[Ix]at aST
     have hρq:∀vr,vn k v n q2 vr=some (q2,vr):=λvr=>by
      rcases U9 k v n q2 vr with⟨e,_⟩ | ⟨e,_⟩ | ⟨_,e⟩
      ·exact absurd e gF
      ·exact absurd e gF
      ·exact e
     refine aN2.aV hle.mem (λ_=>rfl) h0 rfl (λ_ _ h=>h) λvr _=>⟨λhb=>hle.ref q2 vr (q2,vr) (hρq vr) hb,λkt vt l aqq=> ?_,λ_ _ h=>h⟩
     have aqq:s.bW q2=some (.obj vr true (.mp kt vt l)):=aqq;show s1.bW q2=_;rw[e1 q2 gF,aqq];rfl
    |false=>
     obtain⟨pl,mb,since,seen,c0,h1,h2,h3,h4⟩:=h0;exact⟨pl,mb,since,seen,c0,h1,h2,h3,λvr aqs=>ak⟩
   ·rw[aPb];exact xl hle h0 (id':=id) rfl λpl _=>⟨rfl,λ_ h=>h,λh=>h⟩
 ·have hl:=h.le;refine⟨hl.mem.trans (Trans.mem (E:=s.env w g β) (E':=s1.env w g β) (Trans.refl w g)),λid ver hb=> ?_,λid ver hb hc=> ?_⟩
  ·obtain⟨h1,h2⟩:=hl.G1 _ ver hb;have h1:s.bW id≠none:=h1;have h2:∀v' fr' c',s.bW id=some (.obj v' fr' c')->ver<=v':=h2;by_cases hi:id= .bm k
   ·subst hi;obtain rfl:=hz ver hb;exact⟨by show s1.bW (.bm k)≠none;rw[e0];simp,λv' fr' c' hh=>aK _⟩
   ·exact⟨e3 id hi h1,λv' fr' c' hh=>let⟨c0,XW,_⟩:=e2 id v' fr' c' hi hh;h2 _ _ _ XW⟩
  ·obtain⟨fr',c',hc⟩:=hc;have hc:s1.bW id=some (.obj ver fr' c'):=hc;by_cases hi:id= .bm k
   ·subst hi;obtain rfl:=hz ver hb;rw[e0]at hc;simp only[az,dE.obj.injEq]at hc;have e4:=hc.1;obtain rfl:v=0:=ak;exact hl.cur _ _ hb ⟨fr,c,hk⟩
   ·obtain⟨c0,XW,_⟩:=e2 id ver fr' c' hi hc;exact hl.cur _ _ hb ⟨fr',c0,XW⟩
theorem E8(hC:C.ok):∀(l:List (Nat×Nat)) {s s1:AS},Inv C g β s a w->(al1 s l).eval=some s1->Inv C g β s1 a w
 |[],s,s1,h,he=>by obtain rfl:=ay.1 he;exact h
 |x::l,s,s1,h,he=>by obtain⟨s2,h1,h2⟩:=aw.1 he;exact E8 hC l (al0 hC h h1) h2
def Xe(ids:List Id)(q:Nat):mz->mz
 | .own (.id (.new x y)) k=>match idxOf (.new x y) ids with | some m=> .own (.id (.new q m)) k | none=> .free
 |l=>l
def aPO(β:Id->Option Pl)(ids:List Id)(q:Nat):Id->Option Pl
 | .bm k=>β (.bm k)
 | .new x y=>if x=q then(ids[y]?).bind β else none
theorem Trans.Xe(w:World)(g:Nat->mz)(ids:List Id)(q:Nat):Trans w w g λx=>Xe ids q (g x):=by
 refine⟨rfl,rfl,⟨rfl,ax _⟩,ax _,λy _=> ?_⟩;cases hg:g y with
 |free=>exact⟨by simp[Ab.Xe],rfl⟩
 |own o k=>cases o with
  |eo=>exact⟨by simp[Ab.Xe],rfl⟩
  |id x=>
   refine⟨?_,λ_ _ _ h=>h⟩;cases x with
   |bm m=>exact .inr ⟨_,_,rfl,ax _⟩
   |new x j=>
    simp only[Ab.Xe];split
    ·exact .inr ⟨_,_,rfl,ax _⟩
    ·exact .inl rfl
theorem Inv.aiU(h:Inv C g β s a w)(hC:C.ok){ids:List Id}{q:Nat}(hn:ids.Nodup)(HF:∀id∈ids,∃i j,id= .new i j)(aUa:q < s.news.length):
  ∃g1 β1,Inv C g1 β1 (s.Ip ids q) a w:=by
 let ρ:Ren:=ayI s ids q
 obtain⟨s1,SE⟩:∃s1,s1=s.Ip ids q:=⟨_,rfl⟩;have hold:∀k,s1.bW (.bm k)=(s.bW (.bm k)).map (dE.aHp ρ):=λk=>by
  rw[SE];show(s.bZ.map (dE.aHp ρ))[k]? =_
  rw[eh];rfl
 have lI:∀j,s1.bW (.new q j)=(ids[j]?).map λid=>((s.bW id).getD .dead).atz ρ:=λj=>by rw[SE];simp[AS.Ip,AS.bW,aH,aUa,ρ]
 have Lh:∀x j,x≠q->s1.bW (.new x j)=none:=λx j hx=>by
  have hx':¬q=x:=λe=>hx e.symm
  rw[SE];simp only[AS.Ip,AS.bW,aH];rw[ea hx',eh];cases s.news[x]? <;> simp
 let g1:Nat->mz:=λx=>Xe ids q (g x)
 let β1:=aPO β ids q
 have ht:Trans w w g g1:=Trans.Xe w g ids q;have hβ:∀j,β1 (.new q j)=(ids[j]?).bind β:=λj=>if_pos rfl
 have hρ:∀i ver r,ρ i ver=some r->(∃k,i= .bm k/\r=(i,ver))\/∃j fr c,ids[j]? =some i/\s.bW i=some (.obj ver fr c)/\r=(.new q j,0):=λi ver r hr=>by
  replace hr:ayI s ids q i ver=some r:=hr
  cases i with
  |bm k=>exact .inl ⟨k,rfl,(bf hr).symm⟩
  |new x y=>
   unfold ayI at hr;simp only at hr;split at hr
   ·rename_i j v fr c hj ho;split at hr
    ·rename_i hv;have hv:ver=v:=by simpa using hv
     subst hv;exact .inr ⟨j,fr,c,py hj,ee ho,(bf hr).symm⟩
    ·cases hr
   ·cases hr
 have hrenA:∀e v fr c,dE.aHp ρ e= .obj v fr c->∃c0,e= .obj v fr c0/\c0.iV ρ=c:=λe v fr c he=>by
  cases e with
  |dead=>cases he
  |obj v0 fr0 c0=>
   simp only[dE.aHp,dE.obj.injEq]at he;obtain⟨rfl,rfl,rfl⟩:=he;exact⟨c0,rfl,rfl⟩
 have hle:AA ρ (s.env w g β) (s1.env w g1 β1):=by
  refine⟨Trans.mem (E:=s.env w g β) (E':=s1.env w g1 β1) ht,λi ver r hr anh=> ?_⟩;rcases hρ i ver r hr with⟨k,rfl,rfl⟩ | ⟨j,fr,c,hj,he,rfl⟩
  ·obtain⟨k1,k2⟩:=anh;have k1:s.bW (.bm k)≠none:=k1;refine⟨⟨?_,λv' fr' c' hh=> ?_⟩,λ⟨fr',c',hh⟩=>⟨?_,rfl⟩⟩
   ·show s1.bW (.bm k)≠none;rw[hold];cases hs:s.bW (.bm k) with
    |none=>exact absurd hs k1
    |some en=>simp
   ·have hh:s1.bW (.bm k)=some (.obj v' fr' c'):=hh;rw[hold,dd]at hh;obtain⟨e,he,hh⟩:=hh;obtain⟨c0,rfl,_⟩:=hrenA _ _ _ _ hh;exact k2 v' fr' c0 he
   ·have hh:s1.bW (.bm k)=some (.obj ver fr' c'):=hh;rw[hold,dd]at hh;obtain⟨e,he,hh⟩:=hh;obtain⟨c0,rfl,_⟩:=hrenA _ _ _ _ hh;exact⟨fr',c0,he⟩
  ·refine⟨⟨by show s1.bW (.new q j)≠none;rw[lI,hj];simp,λ_ _ _ _=>aK _⟩,λ_=>⟨⟨fr,c,he⟩,?_⟩⟩;show β1 (.new q j)=β i;rw[hβ,hj];rfl
 have e1:s1.ct=s.ct.map (aB.iV ρ):=by rw[SE];rfl
 rw[<-SE];refine⟨g1,β1,h.T7 hC ρ (by rw[e1];simp) ht hle (λi=> ?_) (λid ver fr c cY=> .inr ?_) λk=>⟨λhk=> ?_,λv' fr' c' hh=> ?_,rfl⟩⟩
 ·have:s1.slot i=(s.slot i).iV ρ:=by unfold AS.slot;rw[e1];exact acG _ rfl _ _
  rw[this];exact HO hle (h.ct i)
 ·cases id with
  |bm k=>
   rw[hold,dd]at cY;obtain⟨e,he,cY⟩:=cY;obtain⟨c0,rfl,hc⟩:=hrenA _ _ _ _ cY;exact⟨.bm k,ver,c0,he,hc,rfl,λpl _=>⟨λn hg=>by show Xe ids q (g pl.b)=_;rw[hg];rfl,λhg=>by show Xe ids q (g pl.b)=_;rw[hg];rfl⟩⟩
  |new x y=>
   by_cases hx:x=q
   ·subst hx;rw[lI,dd]at cY;obtain⟨i,hi,cY⟩:=cY;obtain⟨i0,j0,rfl⟩:=HF i (cJ hi);cases hs:s.bW (.new i0 j0) with
    |none=>rw[hs]at cY;cases cY
    |some e=>
     rw[hs]at cY;cases e with
     |dead=>cases cY
     |obj v0 fr0 c0=>
      simp only[dN,dE.atz,dE.obj.injEq]at cY;obtain⟨_,rfl,hc⟩:=cY;refine⟨.new i0 j0,v0,c0,hs,hc,by rw[hβ,hi];rfl,λpl _=>⟨λn hg=> ?_,λhg=>by show Xe ids _ (g pl.b)=_;rw[hg];rfl⟩⟩;show Xe ids _ (g pl.b)=_;rw[hg];simp only[Xe,xv hn hi]
   ·rw[Lh x y hx]at cY;cases cY
 ·show s1.bW (.bm k)≠none;rw[hold];cases hs:s.bW (.bm k) with
  |none=>exact absurd hs hk
  |some en=>simp
 ·have hh:s1.bW (.bm k)=some (.obj v' fr' c'):=hh;rw[hold,dd]at hh;obtain⟨e,he,hh⟩:=hh;obtain⟨c0,rfl,_⟩:=hrenA _ _ _ _ hh;exact⟨c0,he⟩
theorem aiV(hC:C.ok){s s1:AS}{o:Option Nat}(h:iB C s a w)(he:(s.aiU o).eval=some s1):iB C s1 a w:=by
 cases o with
 |none=>
  obtain rfl:=ay.1 he;exact h
 |some q=>
  obtain⟨h1,h2⟩:=aC.1 he;obtain rfl:=ay.1 h2;obtain⟨g,β,h⟩:=h;obtain⟨g1,β1,h3⟩:=h.aiU hC (ids:=s.aRc) ((tN s _ _ _ (by simp)).filter _) (λid cY=>by
   have:=(nZ.1 cY).2;cases id with
   |bm k=>cases this
   |new i j=>exact⟨i,j,rfl⟩) (dI h1)
  exact⟨g1,β1,h3⟩
theorem pH(hC:C.ok){an:oJ}{s1:AS}(h:iB C s a w)(he:(norm P an s).eval=some s1):iB C s1 a w:=by unfold norm at he;obtain⟨sb,aWe,he⟩:=aw.1 he;obtain⟨su,aWf,he⟩:=aw.1 he;obtain⟨sd,aTv,he⟩:=aw.1 he;obtain⟨s0,h1,h2⟩:=aw.1 he;obtain⟨h3,h4⟩:=aC.1 h2;obtain⟨sf,h5,h6⟩:=aw.1 h4;obtain⟨sg,h6,h7⟩:=aw.1 h6;obtain⟨g0,β0,h0⟩:=h;obtain⟨g1,i1,_⟩:=fD an.avH (E8 hC _ h0 aWe);obtain⟨g,β,h⟩:=Pr _ (AX _ (ahp _ ⟨g1,β0,(i1.still an.aS0).canon an.aOr⟩ aWf) aTv) h1;exact aiV hC (ma hC _ (Tm _ ⟨g,β,h.aV hC h3⟩ h5) h6) h7
end
end Go.Ab
end
