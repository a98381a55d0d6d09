/-
  Made short by a program of mine (wip/tools/mini.py).
-/
import Derived.Test.YtodfaneojnkngaaGreatS27x1
import Derived.Lib.Builder
import Derived.Lib.UnsafeStr
import Derived.Lib.AppendZeros
import Derived.Maps.RangeRun
set_option linter.unusedVariables false
set_option linter.unusedSimpArgs false
set_option maxRecDepth 100000
set_option synthInstance.maxSize 5000
open List renaming length->ag,replicate->ab
open Nat renaming beq->iJ
open UInt8 renaming ofNat->fi
noncomputable section
namespace Go.Ab
section
variable {P:Program} {C:Ctx} {g:Nat->mr} {β:Id->Option Pl} {s:AS} {a:Act} {w:World} {o:Oper}
theorem C0{b:Builtin}{args:Array Operand}{ts:Array TypeId}{f:Sem Value}{x:Value}{w':World}(ho:o.op= .call {callee:= .builtin b,args,argTypes:=ts})
  (hb:∀ty cs xs,xs=args.map a.eval->builtin b ts ty cs xs=(do pure (.value (<-f)))) (hf:f.run P w= .ok x w'):(execOp a.eval o).run P w= .ok (.value x) w':=by
 simp only[execOp,ho,resolve,Sem.run_bind,Sem.run_pure,Result.andThen_ok,invoke];rw[hb _ _ _ rfl,Sem.run_bind,hf];rfl
theorem aFJ(h:Inv C g β s a w){c:Call}{x:Operand}{T:TypeId}(ho:o.op= .call c)(hc:c.callee= .builtin .len)(ha:c.args.toList=[x])(ht:c.argTypes.toList=[T]){v:aB}(he:(aLz P T (s.ev x)).eval=some v):
  fH P o a w (iw C (s.put o.dst v)):=by
 obtain⟨cal,args,tys⟩:=c;simp only at hc ha ht;have ha':args= #[x]:=by apply gw;simpa using ha
 have ht':tys= #[T]:=by apply gw;simpa using ht
 subst hc ha' ht';have hx:=h.ev x;have fin:∀z,(Builtin.len_ #[T] 0 #[a.eval x]).run P w= .ok z w->VS (s.env w g β) v z->fH P o a w (iw C (s.put o.dst v)):=by intro z h1 h2;refine h.value h2 (C0 ho (f:=Builtin.len_ #[T] 0 #[a.eval x]) (λty cs xs ap8=> ?_) h1);subst ap8;have e1:Builtin.len_ #[T] 0 #[a.eval x]=Builtin.len_ #[T] ty #[a.eval x]:=rfl;rw[e1];simp[builtin]
 unfold aLz at he;split at he
 ·rename_i st hT hl;rw[hl]at hx;obtain rfl:=ay.1 he;refine fin (.int .i64 (st.size:Int)) ?_ (lW _ _)
  rw[JC hx];simp[Builtin.len_,run_underlying hT,goInt]
 ·rename_i e t l hT hl;rw[hl]at hx;obtain rfl:=ay.1 he;obtain⟨ad,cap,vs,hy,_⟩:=uY hx;refine fin (.int .i64 (l.length:Int)) ?_ (lW _ _)
  rw[hy];simp[Builtin.len_,run_underlying hT,goInt]
 ·rename_i e hT hl;rw[hl]at hx;obtain rfl:=ay.1 he;refine fin (.int .i64 0) ?_ (lW _ _)
  rw[lI hx];simp[Builtin.len_,run_underlying hT,goInt]
 ·rename_i e id ver p c i len hT hl;rw[hl]at hx;obtain rfl:=ay.1 he;obtain⟨ad,cap,hy,_⟩:=sH hx;refine fin (.int .i64 (len:Int)) ?_ (lW _ _)
  rw[hy];simp[Builtin.len_,run_underlying hT,goInt]
 ·rename_i n e hT;obtain rfl:=ay.1 he;refine fin (.int .i64 (n:Int)) ?_ (lW _ _)
  simp[Builtin.len_,run_underlying hT,goInt]
 ·simp only[av]at he
def Env.open(E:Env):Env:= {E with g:=λ_=> .free}
theorem aLW(E:Env):cK E E.open:=⟨⟨λ_ _ _ h=>⟨h.1,trivial⟩,λ_ _ _ h=>⟨rfl,h⟩⟩,λ_ _ h=>h,λ_ _ _ h=>⟨h,rfl⟩⟩
theorem asI(h:Inv C g β s a w){v:aB}{y:Value}(hv:VS (s.env w g β) v y){t:Ty}{x:t.den}(ht:(s.asH t v).eval=some x):
  ∃cs,de (s.env w g β).open t cs x/\fO t.agg cs y:=by
 obtain⟨cs,hV,hO⟩:=hv.eP (CQ ht);exact⟨cs,xN rfl h.bJ (aLW _) v t x cs hV ht (λid _ v fr c _ pl _ j x hx _=>⟨hx,trivial⟩),by rw[<-acV ht];exact hO⟩
theorem xq{E:Env}{k:IntKind}:∀ {vs:List Value} {l:List Int},bC (de E (.int k)) vs l->vs=l.map (Value.int k)
 |vs,[],h=>h
 |_,x::xs,⟨c,cs',e,hx,hr⟩=>by
  have hx':c=[Value.int k x]:=by simpa only[de]using hx
  rw[e,hx',xq hr];rfl
theorem xy{E:Env}{k:IntKind}:∀(l:List Int),bC (de E (.int k)) (l.map (Value.int k)) l
 |[]=>rfl
 |x::xs=>⟨[.int k x],xs.map (Value.int k),rfl,by simp[de],xy xs⟩
theorem foldl_push(l:List Int):∀b:ByteArray,l.foldl (λr n=>r.push (fi n.toNat)) b=⟨b.data++(l.map λn=>fi n.toNat).toArray⟩:=by
 induction l with
 |nil=>intro b;simp
 |cons n l ih=>
  intro b;rw[bA,ih];simp[ByteArray.push]
theorem aoh{α:Type}(xs:Array α)(x:α)(f:α->α):(xs.push x).modify xs.size f=xs.push (f x):=by
 apply sJ;intro i;rw[gD,Array.getElem?_push,Array.getElem?_push];by_cases h:i=xs.size
 ·subst h;simp
 ·have h':¬xs.size=i:=λe=>h e.symm
  simp[h,h']
theorem aiD(w:World)(c:Array Value)(e:TypeId)(n:Nat):(w.alloc (.cells c e)).freeze ⟨w.heap.size,n,none⟩ 1=w.alloc (.cells c e (n,n+1)):=by show({w with heap:=(w.heap.push (.cells c e)).modify w.heap.size _}:World)= {w with heap:=w.heap.push (.cells c e (n,n+1))};rw[aoh];rfl
theorem amR{w:World}{b:Nat}{c:Array Value}{e:TypeId}{n:Nat}(h:w.heap[b]? =some (.cells c e (n,n+1))):w.freeze ⟨b,n,none⟩ 1=w:=by
 unfold World.freeze;rw[if_neg ak];have:∀f:Obj->Obj,f (.cells c e (n,n+1))= .cells c e (n,n+1)->w.heap.modify b f=w.heap:=λf hf=>by
  apply sJ;intro i;rw[gD];split
  ·rename_i hi;subst hi;rw[h];simp[hf]
  ·rfl
 rw[this];simp
theorem Rv(e:TypeId)(st:ByteArray)(w:World):∃cap:Nat,st.size<=cap/\∃arr:Array Value,(∀(j:Nat) (v:Value),((bH st).map (Value.int .u8))[j]? =some v->arr[j]? =some v)/\
  (Conv.stringToBytes e st).run P w= .ok (.slice (some ⟨w.heap.size,0,none⟩) st.size cap) (w.drew.alloc (.cells arr e (arr.size,arr.size+1))):=by
 refine⟨(Question.appendCap st.size 0 e).cut (w.tape w.drawn (.appendCap st.size 0 e)),by simp[Question.cut],
  (st.data.map λb=>Value.int .u8 b.toNat)++Array.replicate ((Question.appendCap st.size 0 e).cut (w.tape w.drawn (.appendCap st.size 0 e)) - st.size) (.int .u8 0),?_,?_⟩
 ·intro j v hj;have hl:j < st.data.size:=by have:=(dF.1 hj).1;simpa[bH]using this
  rw[kH,if_pos (by simpa using hl)];simpa[bH,hl]using hj
 ·have hs:∀(arr:Array Value),(markStringish ⟨w.heap.size,0,none⟩).run P (w.drew.alloc (.cells arr e))= .ok () (w.drew.alloc (.cells arr e (arr.size,arr.size+1))):=by
   intro arr;have h1:(w.drew.alloc (.cells arr e)).shape? w.heap.size=some (e,arr.size):=by
    have h2:(w.drew.alloc (.cells arr e)).heap[w.heap.size]? =some (.cells arr e):=uf w.drew _
    simp only[World.shape?,h2]
   have h3:=aiD w.drew arr e arr.size;have h4:w.drew.heap.size=w.heap.size:=rfl;rw[h4]at h3;simp only[markStringish,Sem.run_bind,run_shape,h1,Result.andThen_ok,run_freeze,h3]
  simp[Conv.stringToBytes,Question.forced,newRow,hs]
theorem Inv.kill(h:Inv C g β s a w){id:Id}{v:Nat}{fr:Bool}{c:aB}(hs:s.bV id=some (.obj v fr c)){b:Nat}(hg:g b= .own (.id id) 0){w':World}(aNq:w'.os=w.os)(aUa:w'.tape=w.tape)(aiO:w'.output=w.output/\w.drawn<=w'.drawn)(tT:w'.heap.size=w.heap.size)
  (K7:∀b',b'≠b->w'.heap[b']? =w.heap[b']?):Inv C (nR g b .free) β (s.bj id .dead) a w':=by
 have ht:Trans w w' g (nR g b .free):=by
  refine⟨aNq,aUa,aiO,ak,λb' hb'=> ?_⟩;by_cases he:b'=b
  ·subst he;rw[hg,fE];exact⟨.inl rfl,λ_ _ hh=>ak⟩
  ·rw[fw _ _ _ he,K7 b' he];cases WY:g b' with
   |free=>exact⟨rfl,rfl⟩
   |own o k=>cases o with
    |eh=>exact⟨rfl,rfl⟩
    |id i=>exact⟨.inr ⟨i,k,rfl,ax _⟩,λoff v _ hv=>by simp only[World.cell?,K7 b' he]at hv ⊢;exact hv⟩
 have lE:=eG s id .dead (by rw[hs];simp);have hle:cK (s.env w g β) ((s.bj id .dead).env w' (nR g b .free) β):=by
  refine⟨Trans.mem ht,λi ver hb=> ?_,λi ver hb hc=> ?_⟩
  ·by_cases hi:i=id
   ·subst hi;exact⟨by show(s.bj i .dead).bV i≠none;rw[lE];simp,λv fr c hh=>by
     have hh:(s.bj i .dead).bV i=some (.obj v fr c):=hh;rw[lE]at hh;cases hh⟩
   ·have:=cW s id i .dead hi;obtain⟨h1,h2⟩:=hb;exact⟨by show(s.bj id .dead).bV i≠none;rw[this];exact h1,λv fr c hh=>h2 v fr c (this.symm.trans hh)⟩
  ·obtain⟨fr,c,hc⟩:=hc;have hc:(s.bj id .dead).bV i=some (.obj ver fr c):=hc;by_cases hi:i=id
   ·subst hi;rw[lE]at hc;cases hc
   ·rw[cW s id i .dead hi]at hc;exact⟨⟨fr,c,hc⟩,rfl⟩
 refine h.step (dj _ _ _) ht hle λi ver fr c hi=> ?_
 have hi:(s.bj id .dead).bV i=some (.obj ver fr c):=hi;by_cases cX:i=id
 ·subst cX;rw[lE]at hi;cases hi
 ·rw[cW s id i .dead cX]at hi;refine(h.bJ i ver fr c hi).mono hle rfl (λpl hp=> ?_) λq2 vq k2 v2 l2 Ta aTs=> ?_
  ·have gC:=h.apart hg cX hi (pl:=pl) hp;exact⟨K7 pl.b gC,fw _ _ _ gC⟩
  ·have Ta:s.bV q2=some (.obj vq true (.mp k2 v2 l2)):=Ta;have hd:q2≠id:=λe=>by obtain⟨fr3,c3,aEU⟩:=aTs;have aEU:(s.bj id .dead).bV q2=some (.obj vq fr3 c3):=aEU;rw[e,lE]at aEU;cases aEU
   refine⟨⟨k2,v2,l2,by show(s.bj id .dead).bV q2=_;rw[cW s id q2 .dead hd];exact Ta⟩,λpl hp=> ?_⟩;have gC:=h.apart hg hd Ta (pl:=pl) hp;exact⟨K7 pl.b gC,fw _ _ _ gC⟩
theorem ard(h:Inv C g β s a w){src dst:TypeId}{x:Operand}(ho:o.op= .convert src dst x){id:Id}{ver len:Nat}(hx:s.ev x= .bz id ver [] 0 0 len){s':AS}(he:(al6 P s o.dst src dst id ver len).eval=some s'):fH P o a w (iw C s'):=by
 unfold al6 at he;split at he
 ·rename_i v e0 l e mf hD;split at he
  ·rename_i hE;obtain⟨h1,h2⟩:=aC.1 he;obtain⟨h3,h4⟩:=bS.1 h2;obtain rfl:=ay.1 h4;simp only[au,dw]at h1;obtain⟨rfl,rfl⟩:=h1;simp only[aW]at h3;obtain⟨h5,h6⟩:=h3;have cO:=ed mf;have hv:=h.ev x;rw[hx]at hv;obtain⟨ad,cap,hy,Qi,_,_,fx⟩:=sH hv;have fx:=fx ⟨false,_,cO⟩;have hO:xk (s.env w g β) id false (.vec e0 (.int .u8) l):=h.bJ id v false _ cO;obtain⟨hz,hO⟩:=hO;have hO:(match β id with
    |none=>l=[]
    |some pl=>∃cur k,w.heap[pl.b]? =some (.cells cur e0 (0,0))/\cur.size=pl.cap*(Ty.int .u8).size/\l.length<=pl.cap/\pl.cap<=maxLen/\g pl.b= .own (.id id) k/\
      k<=l.length*(Ty.int .u8).size/\(false=false->k=0)/\bC (de (s.env w g β) (.int .u8)) (cur.toList.take (l.length*(Ty.int .u8).size)) l):=hO
   have fx:(match β id with
    |some pl=>(0 < len\/0=0->ad=some ⟨pl.b,0,none⟩)/\(([]:List KX)=[]->0=0->cap=pl.cap)
    |none=>ad=none/\len=0/\cap=0):=fx
   cases hp:β id with
   |none=>rw[hp]at hO;simp only at hO;subst hO;simp at h6;omega
   |some pl=>
    rw[hp]at hO fx;obtain⟨cur,k,q1,q2,q3,q4,q5,q6,q7,q8⟩:=hO;have hk:=q7 rfl;subst hk;have ayv:=fx.1 (.inr rfl);subst ayv;have hb:pl.b < w.heap.size:=(bO.1 q1).1;have aRr:∃w',w.freeze ⟨pl.b,cur.size,none⟩ 1=w'/\w'.heap[pl.b]? =some (.cells cur e0 (cur.size,cur.size+1))/\w'.os=w.os/\w'.tape=w.tape/\(w'.output=w.output/\w.drawn<=w'.drawn)/\w'.heap.size=w.heap.size/\∀b',b'≠pl.b->w'.heap[b']? =w.heap[b']? :=by
     refine⟨_,rfl,?_⟩;unfold World.freeze;rw[if_neg ak];refine⟨?_,rfl,rfl,⟨rfl,ax _⟩,by simp,λb' hb'=> ?_⟩
     ·simp only[gD,bG,q1,dV];rfl
     ·simp only[gD];rw[if_neg (λe=>hb' e.symm)]
    obtain⟨w',hw',f1,f2,f3,f4,f5,f6⟩:=aRr;have aE5:w.shape? pl.b=some (e0,cur.size):=by simp only[World.shape?,q1]
    have hm:(markStringish ⟨pl.b,0,none⟩).run P w= .ok () w':=by simp only[markStringish,Sem.run_bind,run_shape,aE5,Result.andThen_ok,run_freeze,hw']
    have i1:=h.kill cO q5 f2 f3 f4 f5 f6;refine .inl ⟨.slice (some ⟨pl.b,0,none⟩) len cap,w',dW (f:=convert src src (a.eval x)) (by simp only[execOp,ho]) ?_,_,β,i1.put o.dst ⟨_,?_,rfl⟩⟩
    ·rw[hy];simp[convert,run_underlying hD,run_underlying hE,hm]
    ·have Vr:=xq q8;have aOY:(Ty.int .u8).size=1:=rfl;rw[aOY,gO]at Vr;simp only[V,de];refine⟨_,cap,l.map (Value.int .u8),by rw[h6],by rw[<-h6];exact Qi,λ_=>rfl,λj vv hj=>⟨_,_,rfl,?_,?_⟩,xy (E:=(s.bj id .dead).env w' (nR g pl.b .free) β) _⟩
     ·rw[aN];show w'.cell? ⟨pl.b,j,none⟩=some vv;simp only[World.cell?,f1];rw[<-Vr,di]at hj;split at hj
      ·simpa using hj
      ·cases hj
     ·show vh (nR g pl.b .free) pl.b (0+j);unfold vh;rw[fE];trivial
  ·simp only[av]at he
 ·simp only[av]at he
theorem aKv(h:Inv C g β s a w){src dst:TypeId}{x:Operand}(ho:o.op= .convert src dst x){l:List Int}(hl:s.ev x= .sb l){v:aB}(he:(aDQ P src dst l).eval=some v):fH P o a w (iw C (s.put o.dst v)):=by
 have hx:=h.ev x;have fin:∀z,(convert src dst (a.eval x)).run P w= .ok z w->VS (s.env w g β) v z->fH P o a w (iw C (s.put o.dst v)):=by intro z h1 h2;exact h.value h2 (dW (f:=convert src dst (a.eval x)) (by simp only[execOp,ho]) h1)
 unfold aDQ at he;split at he
 ·rename_i e e' hD hS;rw[hl]at hx;split at he
  ·rename_i hE;obtain⟨h1,h2⟩:=aC.1 he;obtain rfl:=ay.1 h2;have h1:src=dst:=by simpa using h1
   subst h1;obtain⟨cs,hv,hO⟩:=hx;simp only[V]at hv;obtain⟨b,cap,arr,e2,ayz,Qi,aOO,hb,arH⟩:=hv;have hO':cs=[a.eval x]:=hO;rw[ayz]at hO';have hy:a.eval x= .slice (some ⟨b,0,none⟩) l.length cap:=by simpa using hO'.symm
   rw[hD]at hS;obtain rfl:e=e':=by simpa using hS
   refine fin (.slice (some ⟨b,0,none⟩) l.length cap) ?_ ⟨_,?_,rfl⟩
   ·rw[hy];have hb:w.heap[b]? =some (.cells arr e2 (arr.size,arr.size+1)):=hb
    have aRr:=amR hb;have aE5:w.shape? b=some (e2,arr.size):=by simp only[World.shape?,hb]
    have hm:(markStringish ⟨b,0,none⟩).run P w= .ok () w:=by simp only[markStringish,Sem.run_bind,run_shape,aE5,Result.andThen_ok,run_freeze,aRr]
    simp[convert,run_underlying hD,run_underlying hE,hm]
   ·simp only[V,de];refine⟨_,cap,l.map (Value.int .u8),rfl,Qi,λ_=>rfl,λj v hj=>⟨_,_,rfl,?_,?_⟩,xy (E:=s.env w g β) _⟩
    ·rw[aN];show w.cell? ⟨b,j,none⟩=some v;have hb:w.heap[b]? =some (.cells arr e2 (arr.size,arr.size+1)):=hb
     simp only[World.cell?,hb];simpa using arH j v hj
    ·show vh g b (0+j);unfold vh;have aOO:g b= .free:=aOO;rw[aOO];trivial
  ·simp only[av]at he
 ·simp only[av]at he
theorem ah3(h:Inv C g β s a w){obj:Bool}{src dst:TypeId}{x:Operand}(ho:o.op= .convert src dst x){v:aB}(he:(afA P s obj src dst (s.ev x)).eval=some v):fH P o a w (iw C (s.put o.dst v)):=by
 have hx:=h.ev x;have fin:∀z,(convert src dst (a.eval x)).run P w= .ok z w->VS (s.env w g β) v z->fH P o a w (iw C (s.put o.dst v)):=by intro z h1 h2;exact h.value h2 (dW (f:=convert src dst (a.eval x)) (by simp only[execOp,ho]) h1)
 unfold afA at he;split at he
 ·rename_i l hl;exact aKv h ho hl he
 rename_i aRx;unfold aDP at he;split at he
 ·rename_i k n k' d hl hD hS;rw[hl]at hx;obtain rfl:=ay.1 he;refine fin (.int k' (k'.wrap n)) ?_ (lW _ _)
  rw[vE hx];simp[convert,run_underlying hD,run_underlying hS,Conv.intToInt]
 ·rename_i st d hl hD hS;rw[hl]at hx;obtain rfl:=ay.1 he;refine fin (.string st) ?_ (ahp _)
  rw[JC hx];simp[convert,run_underlying hD,run_underlying hS]
 ·rename_i st e d hl hD hS;rw[hl]at hx;split at he
  ·rename_i hE;obtain⟨cap,Qi,arr,arH,iO⟩:=Rv (P:=P) e st w;have i1:=(h.drew).Kc (.cells arr e (arr.size,arr.size+1));have hlen:(bH st).length=st.size:=by simp only[bH,bU,cJ];rfl
   have h2:=uf w.drew (.cells arr e (arr.size,arr.size+1));have hex:(execOp a.eval o).run P w= .ok (.value (.slice (some ⟨w.heap.size,0,none⟩) st.size cap)) (w.drew.alloc (.cells arr e (arr.size,arr.size+1))):=by
    refine dW (f:=convert src dst (a.eval x)) (by simp only[execOp,ho]) ?_
    rw[JC hx];simp[convert,run_underlying hD,run_underlying hS,run_underlying hE,iO]
   have avt:nR g w.drew.heap.size .free w.heap.size= .free:=by rw[show w.drew.heap.size=w.heap.size from rfl,fE]
   cases obj with
   |false=>
    obtain rfl:=ay.1 he;refine .inl ⟨_,_,hex,_,β,i1.put o.dst ⟨_,?_,rfl⟩⟩;simp only[V,de];refine⟨_,cap,(bH st).map (Value.int .u8),by rw[hlen],ak,λ_=>rfl,λj v hj=>⟨_,_,rfl,?_,?_⟩,xy (E:=s.env (w.drew.alloc (.cells arr e (arr.size,arr.size+1))) (nR g w.drew.heap.size .free) β) _⟩
    ·have:=arH j v hj;rw[aN];show(w.drew.alloc (.cells arr e (arr.size,arr.size+1))).cell? ⟨w.drew.heap.size,j,none⟩=some v;simp only[World.cell?,h2];simpa using this
    ·show vh (nR g w.drew.heap.size .free) w.heap.size (0+j);unfold vh;rw[avt];trivial
   |true=>
    obtain rfl:=ay.1 he;refine .inl ⟨_,_,hex,_,β,i1.put o.dst ⟨_,?_,rfl⟩⟩;simp only[V];exact⟨w.heap.size,cap,arr,e,by rw[hlen],ak,avt,h2,arH⟩
  ·simp only[av]at he
 ·rename_i e hD hS gC;clear gC;split at he
  ·rename_i hE;obtain⟨l,h1,h2⟩:=aw.1 he;obtain rfl:=ay.1 h2;obtain⟨cs,hR,hO⟩:=asI h hx h1;simp only[de]at hR;obtain⟨ad,cap,vs,rfl,aBY,qX,sV,wu⟩:=hR;have hO': [Value.slice ad (ag l) cap]=[a.eval x]:=hO;have hy:a.eval x= .slice ad (ag l) cap:=by simpa using hO'.symm
   refine fin (.string (fv l)) ?_ (ahp _)
   rw[hy,run_convert_bytes_string w src dst e ad _ _ hS hE hD];have Vr:=xq (E:=(s.env w g β).open) (k:= .u8) (vs:=vs) (l:=l) wu;cases ad with
   |none=>
    have aRx:l=[]:=by
     cases l with
     |nil=>rfl
     |cons _ _=>simp at qX
    subst aRx;rfl
   |some ad=>
    have aEY:(loadCells ad (ag l)).run P w= .ok (l.map (Value.int .u8)).toArray w:=by
     have:=run_loadCells_list (P:=P) w ad (l.map (Value.int .u8)) (λj v hj=>by
      rw[<-Vr]at hj;obtain⟨bb,off,e1,hh⟩:=sV j v hj;simp only[az]at e1;subst e1;rw[Addr.add_lit];exact hh.1)
     simpa using this
    rw[run_bytesToString w ad _ _ l aEY,foldl_push];simp[fv]
  ·simp only[av]at he
 ·simp only[av]at he
end
end Go.Ab
namespace Go.Ab
section
variable {P:Program} {C:Ctx} {g:Nat->mr} {β:Id->Option Pl} {s:AS} {a:Act} {w:World} {o:Oper}
theorem afQ(off:Nat):∀(vs:List Value) (k:Nat) (cells:Array Value),off+k+vs.length<=cells.size->
  ((vs.zipIdx k).foldl (λcs (c,j)=>cs.setIfInBounds (off+j) c) cells).toList=dA cells.toList (off+k) vs
 |[],k,cells,_=>by simp[dA]
 |v::vs,k,cells,h=>by simp only[aA]at h;rw[List.zipIdx_cons,bA,afQ off vs (k+1) _ (by simpa using(by omega:off+(k+1)+vs.length<=cells.size))];rw[Array.toList_setIfInBounds];have:=list_seg_step cells.toList (off+k) v vs (by simp;omega);unfold dA;simpa[eO]using this
theorem afO{place:Nat->Option (Nat×Nat)}{cells:Array Value}{i off:Nat}{v:Value}{vs:List Value}{rest:List (Nat×Value)}(hp:place i=some (off,vs.length))(hv:v.cells=vs.toArray)(hl:off+vs.length<=cells.size):
  Instr.fill place cells ((i,v)::rest)=Instr.fill place (dA cells.toList off vs).toArray rest:=by
 have h1:v.cells.size=vs.length:=by rw[hv];simp
 have h2:¬(v.cells.size≠vs.length || off+v.cells.size > cells.size)=true:=by simp[h1];omega
 simp only[Instr.fill,hp];rw[if_neg h2];congr 1;apply gw;have:=afQ off vs 0 cells ak;simp only[cm]at this;rw[<-this,hv];rw[<-Array.foldl_toList];simp
theorem DM{E E':Env}(hs:E.s=s.bV)(ho:iV E)(he:cK E E'){t:Ty}(am1:∀x,VS E (s.ev x) (a.eval x)):
  ∀(ps:List (Nat×Operand)) (l:List t.den) (r:List t.den×List Id) (cells:Array Value),(jz t s ps l).eval=some r->aQM E E' r.2->bC (de E' t) cells.toList l->
   ∃cells',Instr.fill (λi=>some (i*t.size,t.size)) cells (ps.map λ(i,x)=>(i,a.eval x))=some cells'/\bC (de E' t) cells'.toList r.1
 |[],l,r,cells,h,_,hc=>by obtain rfl:=ay.1 h;exact⟨cells,rfl,hc⟩
 | (i,x)::ps,l,r,cells,h,hf,hc=>by
  simp only[jz]at h;obtain⟨h1,h2⟩:=aC.1 h;obtain⟨y,h3,h4⟩:=aw.1 h2;obtain⟨r',h5,h6⟩:=aw.1 h4;obtain rfl:=ay.1 h6;have hi:i < l.length:=by simpa using h1
  obtain⟨cs,hV,hO⟩:=(am1 x).eP (CQ h3);have hR:=xN hs ho he _ t y cs hV h3 (λid cX=>hf id (by simp[cX]));have Eh:=hO.cells hV.one;have hlen:=hc.length (λ_ _ hx=>de.size hx);have tT:=hR.size;have hle:i*t.size+cs.length<=cells.size:=by have:=cQ t.size (show i+1<=l.length by omega);rw[eD,iy]at this;simp at hlen;omega
  have aiS:=bC.set (λ_ _ hx=>de.size hx) hc i hi hR;obtain⟨cells',q1,q2⟩:=DM hs ho he am1 ps (l.set i y) r' (dA cells.toList (i*t.size) cs).toArray h5 (λid cX=>hf id (by simp[cX])) aiS;refine⟨cells',?_,q2⟩;rw[bP,afO (by rw[tT]) Eh hle];exact q1
theorem uV{E:Env}{t:Ty}{zc:Array Value}(hz:de E t zc.toList t.zero):∀n:Nat,bC (de E t) (madeCells zc (n*t.size)).toList (ab n t.zero):=by
 have tT:zc.size=t.size:=by have:=hz.size;simpa using this
 intro n
 induction n with
 |zero=>simp[madeCells,bC]
 |succ n ih=>
  have e:(madeCells zc ((n+1)*t.size)).toList=(madeCells zc (n*t.size)).toList++zc.toList:=by
   apply lg;intro j;rw[eD,iy];simp only[madeCells,Array.toList_map,Array.toList_range,eg,List.getElem?_append,bU,List.length_range];by_cases hj:j < n*t.size
   ·have hj':j < n*t.size+t.size:=ak;simp[hj,hj',tT]
   ·by_cases hj':j < n*t.size+t.size
    ·have gJ:j - n*t.size < zc.size:=ak;have hm:j%t.size=j - n*t.size:=by
      have:j=(j - n*t.size)+t.size*n:=by rw[qm t.size n];omega
      rw[this,Nat.add_mul_mod_self_left,j6 ak];rw[qm t.size n];omega
     simp[hj,hj',tT,hm];rw[getElem?_pos zc _ gJ,lD zc _ gJ]
    ·have h1:¬j - n*t.size < zc.size:=ak;simp[hj,hj',h1]
  rw[e,List.replicate_succ'];exact bC.append ih (bC.one hz)
theorem rv{nl:Bool}{T:TypeId}{e:TypeId}{t:Ty}{b:Nat}(h:FJ P nl T=some (e,t,b)):
  P.underlying T=some (.slice e)/\0 < t.size/\∃i zv,P.info? e=some i/\i.size=t.size/\i.bytes=b/\i.zero=some zv/\∀E,de E t zv.cells.toList t.zero:=by
 unfold FJ at h;split at h
 ·rename_i e' hT;split at h
  ·rename_i t' ht;split at h
   ·rename_i hg;simp only[az,cE]at h;obtain⟨rfl,rfl,rfl⟩:=h;simp only[au,cC,dw,gA]at hg;obtain⟨⟨h1,h2⟩,h3⟩:=hg;obtain⟨i,zv,hi,hz,_,_⟩:=wb h3 {w:=default,g:=λ_=> .free,β:=λ_=>none,s:=λ_=>none};refine⟨hT,ak,i,zv,hi,by rw[<-nE hi];exact h1,by simp[Program.bytesOf,hi],hz,λE=> ?_⟩;obtain⟨i',zv',hi',hz',hV,_⟩:=wb h3 E;rw[hi]at hi';obtain rfl:i=i':=by simpa using hi'
    rw[hz]at hz';obtain rfl:zv=zv':=by simpa using hz'
    simpa only[V]using hV
   ·cases h
  ·cases h
 ·cases h
theorem C6{T:TypeId}{e:TypeId}{t:Ty}{b:Nat}(h:XG P T=some (e,t,b)):P.underlying T=some (.slice e)/\0 < t.size/\∃i zv,P.info? e=some i/\i.size=t.size/\i.bytes=b/\i.zero=some zv/\∀E,de E t zv.cells.toList t.zero:=rv h
theorem adR{T:TypeId}{e:TypeId}{t:Ty}{b:Nat}(h:aiq P T=some (e,t,b)):0 < t.size:=by
 unfold aiq at h;split at h
 ·exact(rv h).2.1
 ·exact(rv h).2.1
theorem Inv.ajn(h:Inv C g β s a w){q:Nat}(hq:s.dY q=true){e:TypeId}{t:Ty}{l:List t.den}{cur:Array Value}{cap:Nat}(hz:0 < t.size)(hc:bC (de (s.env w g β) t) (cur.toList.take (l.length*t.size)) l)
  (hs:cur.size=cap*t.size) (hl:l.length<=cap) (hm:cap<=maxLen):
  ∃g' β',Inv C g' β' (s.born q [.obj 0 false (.vec e t l)]) a (w.alloc (.cells cur e))/\
   VS ((s.born q [.obj 0 false (.vec e t l)]).env (w.alloc (.cells cur e)) g' β') (.bz (.new q 0) 0 [] 0 0 l.length) (.slice (some ⟨w.heap.size,0,none⟩) l.length cap):=by
 have ht:=Trans.alloc w g (.cells cur e) (.own (.id (.new q 0)) 0);obtain⟨h1,h2⟩:=h.SF hq (c:= .vec e t l) (p:=some ⟨w.heap.size,cap⟩) ht (λb hb=>⟨ru w _ hb,fw _ _ _ ak⟩) (λhe=>by
  refine⟨hz,?_⟩;show(match J1 β (.new q 0) (some ⟨w.heap.size,cap⟩) (.new q 0) with
   |none=>l=[]
   |some pl=>_)
  rw[kc];exact⟨cur,0,uf w _,hs,hl,hm,fE _ _ _,aJ _,λ_=>rfl,hc.mono λ_ _ hx=>hx.mono he.mem⟩)
 refine⟨_,_,h1,_,?_,rfl⟩;simp only[V];refine⟨_,_,rfl,hl,λ_=>rfl,qu hq _ _ _ _,λ_=> ?_⟩;show(match J1 β (.new q 0) (some ⟨w.heap.size,cap⟩) (.new q 0) with
   |some pl=>_
   |none=>_)
 rw[kc];exact⟨λ_=>rfl,λ_ _=>rfl⟩
theorem Inv.aGi(h:Inv C g β s a w){q:Nat}(hq:s.dY q=true){e:TypeId}{t:Ty}(hz:0 < t.size):
  ∃β',Inv C g β' (s.born q [.obj 0 false (.vec e t [])]) a w/\cK (s.env w g β) ((s.born q [.obj 0 false (.vec e t [])]).env w g β')/\
   VS ((s.born q [.obj 0 false (.vec e t [])]).env w g β') (.bz (.new q 0) 0 [] 0 0 0) (.slice none 0 0):=by
 have ht:=Trans.refl w g;obtain⟨h1,h2⟩:=h.SF hq (c:= .vec e t []) (p:=none) ht (λb hb=>⟨rfl,rfl⟩) (λhe=>by
  refine⟨hz,?_⟩;show(match J1 β (.new q 0) none (.new q 0) with
   |none=>([]:List t.den)=[]
   |some pl=>_)
  rw[kc])
 refine⟨_,h1,h2,_,?_,rfl⟩;simp only[V];refine⟨_,_,rfl,ax _,λhh=>ak,qu hq _ _ _ _,λ_=> ?_⟩;simp[AS.env]
theorem TB(parts:Array (Nat×Operand)):(parts.map λ(i,x)=>(i,a.eval x)).toList=parts.toList.map λ(i,x)=>(i,a.eval x):=by simp
theorem WU(h:Inv C g β s a w){T:TypeId}{n:Nat}{parts:Array (Nat×Operand)}{nl obj:Bool}(ho:o.op= .buildSlice T n parts){s':AS}(he:(mV P s nl obj o.dst T n parts.toList).eval=some s'):fH P o a w (iw C s'):=by
 unfold mV at he;split at he
 ·rename_i e t b q K6 hd;obtain⟨hT,hz,i,zv,hi,ayB,aOS,ap9,ayF⟩:=rv K6;obtain⟨h1,h2⟩:=aC.1 he;obtain⟨r,h3,h4⟩:=aw.1 h2;simp only[aW]at h1;obtain⟨g1,i1,e1,t1,f1⟩:=fA r.2 h;have aQw:zv.cells.size=t.size:=by have:=(ayF (s.env w g β)).size;simpa using this
  obtain⟨cells',aRp,wu⟩:=DM (a:=a) rfl h.bJ e1 h.ev parts.toList _ r (madeCells zv.cells (n*t.size)) h3 f1 (uV (ayF _) n);have aRB:r.1.length=n:=by
   have:∀(ps:List (Nat×Operand)) (l:List t.den) (r:List t.den×List Id),(jz t s ps l).eval=some r->r.1.length=l.length:=by
    intro ps
    induction ps with
    |nil=>intro l r hh;obtain rfl:=ay.1 hh;rfl
    |cons p ps ih=>
     intro l r hh;obtain⟨i,x⟩:=p;simp only[jz]at hh;obtain⟨_,h2⟩:=aC.1 hh;obtain⟨y,h3,h4⟩:=aw.1 h2;obtain⟨r',h5,h6⟩:=aw.1 h4;obtain rfl:=ay.1 h6;have:=ih _ _ h5;simpa using this
   rw[this _ _ _ h3];simp
  have aBX:=wu.length (λ_ _ hx=>de.size hx);have iO:(execOp a.eval o).run P w= .ok (.value (.slice (some ⟨w.heap.size,0,none⟩) n n)) (w.alloc (.cells cells' e)):=by
   refine dW (f:=Instr.buildSlice T n (parts.map λ(i,x)=>(i,a.eval x))) (by simp only[execOp,ho]) ?_
   have aRd:¬n*t.size > 2^24:=ak;have hfill':Instr.fill (λi=>some (i*t.size,t.size)) ((Array.range (n*t.size)).map (λx=>(zv.cells)[x%zv.cells.size]!)) (parts.map λ(i,x)=>(i,a.eval x)).toList=some cells':=by rw[TB];exact aRp
   by_cases hn:n*t.size=0
   ·have aK4:n=0:=by
     rcases Nat.mul_eq_zero.1 hn with h' | h'
     ·exact h'
     ·omega
    subst aK4;simp only[nu]at hfill' aRd;have h0:Array.range 0= #[]:=rfl;rw[h0,Array.map_empty]at hfill';simp at hfill';simp[Instr.buildSlice,run_underlying hT,run_sizeOf hi,ayB,newRow,h0,hfill']
   ·simp[Instr.buildSlice,run_underlying hT,run_sizeOf hi,ayB,newRow,hn,aRd,zeroValue,typeInfo,hi,ap9];simp at hfill';simp[hfill']
  cases obj with
  |true=>
   simp only at h4;obtain⟨hq,h5⟩:=aC.1 h4;obtain rfl:=ay.1 h5;rw[<-v8 r.2]at hq;have aRq:cells'.toList.take (r.1.length*t.size)=cells'.toList:=aY ak;obtain⟨g2,β2,i2,Vq⟩:=i1.ajn hq (e:=e) (l:=r.1) (cur:=cells') (cap:=n) hz (by rw[aRq];exact wu) (by simp at aBX;rw[aBX,aRB]) ak (by
    have:n<=n*t.size:=Nat.le_mul_of_pos_right n hz;unfold maxLen;omega)
   refine .inl ⟨_,_,iO,g2,β2,?_⟩;rw[hd];rw[aRB]at Vq ⊢;exact i2.put (some q) Vq
  |false=>
   simp only at h4;obtain rfl:=ay.1 h4;have i2:=i1.Kc (.cells cells' e);refine .inl ⟨_,_,iO,nR g1 w.heap.size .free,β,?_⟩;rw[hd];refine i2.put (some q) ⟨[.slice (some ⟨w.heap.size,0,none⟩) n n],?_,rfl⟩;simp only[V,de];refine⟨_,n,cells'.toList,by rw[aRB],ak,λ_=>rfl,λj v hj=>⟨_,_,rfl,?_,?_⟩,wu.mono λ_ _ hx=>hx.mono (Trans.mem (E:=(s.bw r.2).env w g1 β) (E':=(s.bw r.2).env (w.alloc (.cells cells' e)) (nR g1 w.heap.size .free) β) (Trans.alloc w g1 (.cells cells' e) .free))⟩
   ·show(w.alloc (.cells cells' e)).cell? ⟨w.heap.size,0+j,none⟩=some v;rw[World.cell?_alloc_new,aN];simpa using hj
   ·show vh (nR g1 w.heap.size .free) w.heap.size (0+j);unfold vh;rw[fE];trivial
 ·simp only[av]at he
theorem aav(h:Inv C g β s a w){T:TypeId}{x y:Operand}(ho:o.op= .makeSlice T x y){len cap:Int}(hx:(asInt (s.ev x)).eval=some len)(hy:(asInt (s.ev y)).eval=some cap){s':AS}
  (he:(tc P s o.dst T len cap).eval=some s'):fH P o a w (iw C s'):=by
 obtain⟨k,hx⟩:=AD (h.ev x) hx;obtain⟨k',hy⟩:=AD (h.ev y) hy;unfold tc at he;split at he
 ·rename_i e t b q K6 hd;obtain⟨hT,hz,i,zv,hi,ayB,aOS,ap9,ayF⟩:=C6 K6;obtain⟨hq,h2⟩:=aC.1 he;obtain⟨h3,h4⟩:=bS.1 h2;obtain rfl:=ay.1 h4;simp only[au,aW,da]at h3;obtain⟨⟨h5,h6⟩,h7,h8⟩:=h3;have hbytes:(i.bytes:Int)*cap<=281474976710656:=by rw[aOS];have:((cap.toNat*b:Nat):Int)<=140737488355328:=ak;rw[kR,show((cap.toNat:Nat):Int)=cap by omega,qe]at this;omega
  have hr:=run_make (P:=P) w T e i zv hT hi ap9 k k' len cap h5 h6 hbytes ak;rw[ayB]at hr;have aQw:zv.cells.size=t.size:=by have:=(ayF (s.env w g β)).size;simpa using this
  have C8:=uV (ayF (s.env w g β)) cap.toNat;have ayE:=bC.take (λ_ _ hx=>de.size hx) len.toNat C8;rw[List.take_replicate,dU ak]at ayE;obtain⟨g2,β2,i2,Vq⟩:=h.ajn hq (e:=e) (l:=ab len.toNat t.zero) (cur:=madeCells zv.cells (cap.toNat*t.size)) (cap:=cap.toNat) hz (by rw[b8];exact ayE) (size_madeCells _ _) (by rw[b8];omega) (by unfold maxLen;omega);rw[b8]at Vq;refine .inl ⟨_,_,dW (f:=Instr.makeSlice T (a.eval x) (a.eval y)) (by simp only[execOp,ho]) (by rw[hx,hy];exact hr),g2,β2,?_⟩;rw[hd];exact i2.put (some q) Vq
 ·simp only[av]at he
end
end Go.Ab
namespace Go.Ab
section
variable {P:Program} {C:Ctx} {g:Nat->mr} {β:Id->Option Pl} {s:AS} {a:Act} {w:World} {o:Oper}
theorem asE:∀(c:aB) (f off:Nat) (v:aB),partOf c f=some (off,v)->(loc c (ow f)).eval=some (off,v):=by
 intro c f
 induction f generalizing c with
 |zero=>
  intro off v h;cases c with
  |d t y=>
   cases t <;> simp only[partOf,reduceCtorEq]at h;simp only[az,cE]at h;obtain⟨rfl,rfl⟩:=h;rfl
  |pr b c=>
   simp only[partOf,az,cE]at h;obtain⟨rfl,rfl⟩:=h;simp only[ow,loc];cases b <;> rfl
  |_=>simp only[partOf,reduceCtorEq]at h
 |succ f ih=>
  intro off v h;cases c with
  |d t y=>
   cases t with
   |pair ta tb=>
    simp only[partOf]at h;cases hp:partOf (.d tb y.2) f with
    |none=>rw[hp]at h;cases h
    |some r=>
     rw[hp]at h;simp only[az,cE]at h;obtain⟨rfl,rfl⟩:=h;simp only[ow,loc,aw];exact⟨_,ih _ _ _ hp,rfl⟩
   |_=>simp only[partOf,reduceCtorEq]at h
  |pr b c=>
   simp only[partOf]at h;cases hp:partOf c f with
   |none=>rw[hp]at h;cases h
   |some r=>
    rw[hp]at h;simp only[az,cE]at h;obtain⟨rfl,rfl⟩:=h;simp only[ow,loc,aw];exact⟨_,ih _ _ _ hp,rfl⟩
  |_=>simp only[partOf,reduceCtorEq]at h
theorem anK(a b:aB):(QN a b).agg=true:=by unfold QN;split <;> rfl
theorem aeX{v x v':aB}{i:Nat}(h:(yA v (ow i) x).eval=some v'):v'.agg=true:=by
 have fin:∀ {o:Out aB} {f:aB->aB},(∀a,(f a).agg=true)->(o.bind λa=>Out.ok (f a)).eval=some v'->v'.agg=true:=by intro o f hf hh;obtain⟨_,_,h2⟩:=aw.1 hh;obtain rfl:=ay.1 h2;exact hf _
 cases i <;> simp only[ow]at h
 all_goals
  cases v with
  |d t y=>cases t <;> first | (simp only[yA,av]at h;done) | (simp only[yA]at h;exact fin (λ_=>anK _ _) h)
  |pr b c=>simp only[yA]at h;exact fin (λ_=>anK _ _) h
  |_=>simp only[yA,av]at h
theorem Jq{E:Env}(am1:∀x,VS E (s.ev x) (a.eval x)){fs:Array Field}{places:Array (Nat×Nat)}(OY:∀(i:Nat) (f:Field),fs[i]? =some f->places[i]? =some (f.offset,P.cellsOf f.type)):
  ∀(ps:List (Nat×Operand)) (v v':aB) (cells:Array Value),(qP P fs s ps v).eval=some v'->V E v cells.toList->v.agg=true->
   ∃cells',Instr.fill (places[·]?) cells (ps.map λ(i,x)=>(i,a.eval x))=some cells'/\V E v' cells'.toList/\v'.agg=true
 |[],v,v',cells,h,hV,OX=>by obtain rfl:=ay.1 h;exact⟨cells,rfl,hV,OX⟩
 | (i,x)::ps,v,v',cells,h,hV,OX=>by
  simp only[qP]at h;split at h
  ·rename_i f off bm hf hp;obtain⟨h1,h2⟩:=aC.1 h;obtain⟨v1,h3,h4⟩:=aw.1 h2;simp only[au,dw]at h1;obtain⟨⟨rfl,aSB⟩,aVj⟩:=h1;obtain⟨arI,_⟩:=sU aVj;obtain⟨cs,hVx,hO⟩:=(am1 x).eP arI;have hcells:=hO.cells hVx.one;have aTH:=asE _ _ _ _ hp;obtain⟨u1,u2,u3⟩:=qW (ow i) v cells.toList f.offset bm (s.ev x) v1 cs (VO.of hV) aTH hVx h3;have aRD:v1.iP=false:=u3.uQ hV.uQ;have tT:P.cellsOf f.type=cs.length:=by rw[(Ib aVj).2.1];exact hVx.size.symm
   obtain⟨cells',q1,q2,q3⟩:=Jq am1 OY ps v1 v' (dA cells.toList f.offset cs).toArray h4 (by simpa using u2.to aRD) (aeX h3);refine⟨cells',?_,q2,q3⟩;rw[bP,afO (by rw[OY i f hf,tT]) hcells (by simpa using u1)];exact q1
  ·simp only[av]at h
theorem ao2{α γ:Type}(f:α->Sem γ)(r:α->γ):∀(l:List α),(∀x∈l,(f x).run P w= .ok (r x) w)->(l.mapM f).run P w= .ok (l.map r) w
 |[],_=>by simp
 |x::xs,h=>by rw[List.mapM_cons];simp only[Sem.run_bind,h x (by simp),Result.andThen_ok,ao2 f r xs (λy hy=>h y (by simp[hy])),Sem.run_pure,bP]
theorem aqQ(h:Inv C g β s a w){T:TypeId}{parts:Array (Nat×Operand)}(ho:o.op= .build T parts){s':AS}(he:(HR P s o.dst T parts.toList).eval=some s'):fH P o a w (iw C s'):=by
 unfold HR at he;split at he
 ·rename_i fs hT;split at he
  ·rename_i z aXu;obtain⟨h1,h2⟩:=aC.1 he;obtain⟨v,h3,h4⟩:=aw.1 h2;obtain rfl:=ay.1 h4;simp only[au,cV]at h1;obtain⟨⟨hz,OX⟩,aTE⟩:=h1;obtain⟨i,zv,hi,ap9,hV,hO⟩:=wb hz (s.env w g β)
   let places:Array (Nat×Nat):=fs.map λf=>(f.offset,P.cellsOf f.type)
   have OY:∀(i:Nat) (f:Field),fs[i]? =some f->places[i]? =some (f.offset,P.cellsOf f.type):=by intro i f hf;simp[places,hf]
   obtain⟨cells',q1,q2,q3⟩:=Jq (a:=a) h.ev OY parts.toList z v zv.cells h3 hV OX;have hm:(fs.mapM λf=>(do pure (f.offset,<-sizeOf f.type):Sem (Nat×Nat))).run P w= .ok places w:=by
    rw[Array.mapM_eq_mapM_toList];have:=ao2 (P:=P) (w:=w) (λf=>(do pure (f.offset,<-sizeOf f.type):Sem (Nat×Nat))) (λf=>(f.offset,P.cellsOf f.type)) fs.toList (by
     intro f hf;obtain⟨j,hj⟩:=bN.1 (aTE f hf);rw[Sem.run_bind,run_sizeOf hj,nE hj];rfl)
    rw[Sem.run_map,this];show Result.ok _ w=Result.ok _ w;congr 1;apply gw;simp[places]
   refine h.value (x:= .agg cells') (VS.of q2 (by rw[q3];simp[fO])) (dW (f:=Instr.build T (parts.map λ(i,x)=>(i,a.eval x))) (by simp only[execOp,ho]) ?_);have q1':Instr.fill (places[·]?) zv.cells (parts.map λ(i,x)=>(i,a.eval x)).toList=some cells':=by rw[TB];exact q1
   simp only[Instr.build,Sem.run_bind,zeroValue,typeInfo,run_program,hi,Result.andThen_ok,Sem.run_pure,ap9,run_underlying hT,hm,q1']
  ·simp only[av]at he
 ·rename_i n e hT;split at he
  ·rename_i t ht;obtain⟨h1,h2⟩:=aC.1 he;obtain⟨r,h3,h4⟩:=aw.1 h2;obtain rfl:=ay.1 h4;simp only[au,dw]at h1;obtain⟨tT,hz⟩:=h1;obtain⟨g1,i1,e1,t1,f1⟩:=fA r.2 h;obtain⟨i,zv,hi,ap9,hV,hO⟩:=wb hz ((s.bw r.2).env w g1 β);simp only[V,de]at hV;obtain⟨cells',q1,q2⟩:=DM (a:=a) rfl h.bJ e1 h.ev parts.toList _ r zv.cells h3 f1 hV.2;have aRB:r.1.length=n:=by
    have:∀(ps:List (Nat×Operand)) (l:List t.den) (r:List t.den×List Id),(jz t s ps l).eval=some r->r.1.length=l.length:=by
     intro ps
     induction ps with
     |nil=>intro l r hh;obtain rfl:=ay.1 hh;rfl
     |cons p ps ih=>
      intro l r hh;obtain⟨i,x⟩:=p;simp only[jz]at hh;obtain⟨_,h2⟩:=aC.1 hh;obtain⟨y,h3,h4⟩:=aw.1 h2;obtain⟨r',h5,h6⟩:=aw.1 h4;obtain rfl:=ay.1 h6;have:=ih _ _ h5;simpa using this
    rw[this _ _ _ h3];simp
   refine .inl ⟨.agg cells',w,dW (f:=Instr.build T (parts.map λ(i,x)=>(i,a.eval x))) (by simp only[execOp,ho]) ?_,g1,β,i1.put o.dst ⟨cells'.toList,?_,by simp[fO,aB.agg,Ty.agg]⟩⟩
   ·have q1':Instr.fill (λi=>some (i*t.size,t.size)) zv.cells (parts.map λ(i,x)=>(i,a.eval x)).toList=some cells':=by rw[TB];exact q1
    cases aTC:P.info? e with
    |none=>
     exfalso;unfold apN adi at ht;simp only[depth]at ht;have:P.underlying e=none:=by simp[Program.underlying,aTC]
     rw[this]at ht;cases ht
    |some ie=>
     have aVz:=run_sizeOf aTC w;rw[<-nE aTC,tT]at aVz;simp only[Instr.build,Sem.run_bind,zeroValue,typeInfo,run_program,hi,Result.andThen_ok,Sem.run_pure,ap9,run_underlying hT,aVz,q1']
   ·simp only[V,de];exact⟨aRB,q2⟩
  ·simp only[av]at he
 ·simp only[av]at he
theorem Ua{T X ty e:TypeId}{i:TypeInfo}(hT:P.underlying T=some (.slice e))(hX:P.underlying X=some .string\/∃e',P.underlying X=some (.slice e'))(hi:P.info? e=some i)
  {b sLen sCap:Nat} {cur:Array Value} (hg:w.heap[b]? =some (.cells cur e (0,0))) {x:Value} {n:Nat} {news:List Value} (h1:∀u∈news,u.oneCell'=true)
  (hlen:(Builtin.lenOf x).run P w= .ok n w) (hf:(Builtin.firstCells i.size n x).run P w= .ok news.toArray w) (LY:sLen+n<=sCap) (aiM:sLen*i.size+news.length<=cur.size):
  (Builtin.append_ #[T,X] ty #[.slice (some ⟨b,0,none⟩) sLen sCap,x]).run P w= .ok (.slice (some ⟨b,0,none⟩) (sLen+n) sCap) (w.setRow b (dA cur.toList (sLen*i.size) news).toArray):=by
 have mB:=run_storeCells_at P b (sLen*i.size) e news 0 cur w hg (by simpa using aiM) h1;simp only[cm]at mB;rcases hX with hX | ⟨e',hX⟩ <;> simp[Builtin.append_,run_underlying hT,run_underlying hX,sizeOf,typeInfo,hi,hlen,LY,hf,Addr.add_lit,mB,dA]
theorem Hd{T X ty e:TypeId}{i:TypeInfo}(hT:P.underlying T=some (.slice e))(hX:P.underlying X=some .string\/∃e',P.underlying X=some (.slice e'))(hi:P.info? e=some i)
  {x:Value} (hlen:(Builtin.lenOf x).run P w= .ok 0 w) (hf:(Builtin.firstCells i.size 0 x).run P w= .ok #[] w):
  (Builtin.append_ #[T,X] ty #[.slice none 0 0,x]).run P w= .ok (.slice none 0 0) w:=by
 rcases hX with hX | ⟨e',hX⟩ <;> simp[Builtin.append_,run_underlying hT,run_underlying hX,sizeOf,typeInfo,hi,hlen,hf]
theorem T9{T X ty e:TypeId}{i:TypeInfo}{zv:Value}(hT:P.underlying T=some (.slice e))(hX:P.underlying X=some .string\/∃e',P.underlying X=some (.slice e'))(hi:P.info? e=some i)(ap9:i.zero=some zv)
  {ad:Option Addr} {sLen sCap:Nat} {bZ:List Value} (ho:(Builtin.firstCells i.size sLen (.slice ad sLen sCap)).run P w.drew= .ok bZ.toArray w.drew) {x:Value} {n:Nat} {news:List Value}
  (hlen:(Builtin.lenOf x).run P w= .ok n w) (hf:(Builtin.firstCells i.size n x).run P w.drew= .ok news.toArray w.drew) (LY:sCap < sLen+n)
  (aVb:((sLen+n:Nat):Int)<=9223372036854775807) (aiM:(sLen+n)*i.bytes<=140737488355328):
  (Builtin.append_ #[T,X] ty #[.slice ad sLen sCap,x]).run P w= .ok (.slice (some ⟨w.heap.size,0,none⟩) (sLen+n) (grownCap w (sLen+n) sCap e))
   (w.drew.alloc (.cells (bZ.toArray++news.toArray++Builtin.zeroCells zv.cells (grownCap w (sLen+n) sCap e - (sLen+n))) e)):=by
 have hn:¬(sLen+n<=sCap):=ak;have h63':¬(9223372036854775807 < ((sLen:Int)+(n:Int))):=ak;have hfit':=growslice_fits (bytes:=i.bytes) LY aiM;have h48':¬(281474976710656 < Builtin.nextslicecap (sLen+n) sCap*i.bytes):=ak;rcases hX with hX | ⟨e',hX⟩
 all_goals
  simp[Builtin.append_,run_underlying hT,run_underlying hX,sizeOf,typeInfo,zeroValue,hi,ap9,hlen,hn,h63',h48',Question.forced,hf,ho,newRow,grownCap];congr 2;apply gw;simp[aF]
end
end Go.Ab
namespace Go.Ab
section
variable {P:Program} {C:Ctx} {g:Nat->mr} {β:Id->Option Pl} {s:AS} {a:Act} {w:World} {o:Oper}
theorem aGH(h:Inv C g β s a w){v:aB}{y:Value}(hv:VS (s.env w g β) v y){t:Ty}{m:List t.den}(he:(s.asH (.slice t) v).eval=some m):
  ∃ad cap vs,y= .slice ad m.length cap/\(0 < m.length->ad.isSome=true)/\(∀j u,vs[j]? =some u->∃bb off,ad=some ⟨bb,off,none⟩/\w.cell? ⟨bb,off+j,none⟩=some u)/\bC (de (s.env w g β) t) vs m:=by
 have hp:(s.jm (.slice t) v).eval=some m:=he;cases v <;> first | (simp only[AS.jm,av]at hp;done) | skip
 case dd=>
  simp only[AS.jm,ay]at hp;subst hp;exact⟨none,0,[],lI hv,by simp,λj u hj=>by simp at hj,rfl⟩
 case d t' x=>
  simp only[AS.jm]at hp;have hp:=ko.1 hp;have ha:(aB.d t' x).agg=false:=afz hp;have hV:=hv.single rfl ha;simp only[V]at hV;have hv:VS (s.env w g β) (.d (.slice t) m) y:=VS.of (cs:=[y]) (by simp only[V];exact Fo hp hV) rfl;obtain⟨ad,cap,vs,hy,_,hs,hr,hc⟩:=uY hv;exact⟨ad,cap,vs,hy,hs,λj u hj=>let⟨bb,off,e,hh⟩:=hr j u hj;⟨bb,off,e,hh.1⟩,hc⟩
 case bz id ver p c i len=>
  simp only[AS.jm]at hp;obtain⟨⟨n,t',l⟩,h1,h2⟩:=aw.1 hp;obtain⟨h3,h4⟩:=bS.1 h2;obtain⟨aK3,aWw⟩:=axM (E:=s.env w g β) (ko.1 h4);rw[aK3];simp only[aW]at h3;obtain⟨hc,hlen⟩:=h3
  suffices hg:∃ad cap vs,y= .slice ad (cut l i len).length cap/\(0 < (cut l i len).length->ad.isSome=true)/\(∀j u,vs[j]? =some u->∃bb off,ad=some ⟨bb,off,none⟩/\w.cell? ⟨bb,off+j,none⟩=some u)/\bC (de (s.env w g β) t') vs (cut l i len) by obtain⟨ad,cap,vs,e1,e2,e3,e4⟩:=hg;exact⟨ad,cap,vs,e1,e2,e3,aWw _ e4⟩
  obtain⟨fr,c0,cO,sV⟩:=TZ rfl h.bJ h1;obtain⟨ad,cap,hy,hle,qX,hb,fx⟩:=sH hv;have fx:=fx ⟨fr,c0,cO⟩;have aJs:(cut l i len).length=len:=FB hlen;rcases sV with⟨hp,hl,_⟩ | ⟨pl,cur,e,hp,hh,tT,wu,hbound⟩
  ·rw[hp]at fx;simp only at fx;obtain⟨rfl,rfl,rfl⟩:=fx;have:cut l i 0=[]:=by simp[cut]
   refine⟨none,0,[],by rw[aJs];exact hy,by rw[aJs];omega,λ_ _ hh=>by simp at hh,?_⟩;rw[this];rfl
  ·rw[hp]at fx;simp only at fx;have hmul:(i+len)*t'.size<=l.length*t'.size:=cQ _ hlen;rw[eD]at hmul;refine⟨ad,cap,_,by rw[aJs];exact hy,by rw[aJs];exact qX,?_,Nh wu i len⟩;rw[abi _ _ _ _ _ hmul];intro j v hj;rw[di]at hj;split at hj
   ·rename_i aOU;rw[fR,hc]at hj;have aTI:0 < len:=by
     rcases iU len with h0 | h0
     ·subst h0;simp at aOU
     ·exact h0
    refine⟨pl.b,c,fx.1 (.inl aTI),?_⟩;have hh':w.heap[pl.b]? =some (.cells cur e (0,0)):=hh
    rw[cell_of_row w pl.b (c+j) cur e (0,0) hh'];simpa using hj
   ·cases hj
theorem VN(h:Inv C g β s a w){t:Ty}{X:TypeId}{x:aB}{y:Value}(hx:VS (s.env w g β) x y){m:List t.den}(he:(Iz P s t X x).eval=some m):
  (P.underlying X=some .string\/∃e',P.underlying X=some (.slice e'))/\∃news:List Value,bC (de (s.env w g β) t) news m/\(Builtin.lenOf y).run P w= .ok m.length w/\
   ∀w',w'.heap=w.heap->(Builtin.firstCells t.size m.length y).run P w'= .ok news.toArray w':=by
 have sl:∀(x:aB),VS (s.env w g β) x y->(match P.underlying X with
   |some (.slice _)=>s.asH (.slice t) x
   |_=> .fail).eval=some m->(P.underlying X=some .string\/∃e',P.underlying X=some (.slice e'))/\∃news:List Value,bC (de (s.env w g β) t) news m/\(Builtin.lenOf y).run P w= .ok m.length w/\
   ∀w',w'.heap=w.heap->(Builtin.firstCells t.size m.length y).run P w'= .ok news.toArray w':=by
  intro x hx he;split at he
  ·rename_i e' hX;refine⟨.inr ⟨e',hX⟩,?_⟩;obtain⟨ad,cap,vs,rfl,qX,sV,wu⟩:=aGH h hx he;have hlen:=bC.length (λ_ _ hx=>de.size hx) wu;refine⟨vs,wu,rfl,λw' hw'=> ?_⟩;cases ad with
   |none=>
    have aEZ:m.length=0:=by
     rcases iU m.length with h0 | h0
     ·exact h0
     ·have:=qX h0;simp at this
    have:vs=[]:=bD (by rw[hlen,aEZ,nu]);subst this;rfl
   |some ad=>
    refine run_firstCells_some (P:=P) w' t.size _ ad _ _ vs hlen (λj v hj=> ?_);obtain⟨bb,off,e1,hh⟩:=sV j v hj;simp only[az]at e1;subst e1;rw[Addr.add_lit];simpa[World.cell?,hw']using hh
  ·simp only[av]at he
 unfold Iz at he;split at he
 ·rename_i st;split at he
  ·rename_i hX;refine⟨.inl hX,?_⟩;obtain⟨e,hm⟩:=jJ (ko.1 he);have e':Ty.int .u8=t:=by simpa using e
   subst e';simp only at hm;subst hm;have hy:=JC hx;subst hy;have hlen:(bH st).length=st.size:=by simp only[bH,bU,cJ];rfl
   refine⟨(bH st).map (Value.int .u8),xy _,by rw[hlen];rfl,λw' _=> ?_⟩;rw[hlen];simp only[Builtin.firstCells,Sem.run_pure];congr 1;apply gw;rw[ByteArray.extract_zero_size];simp[bH]
  ·simp only[av]at he
 ·exact sl _ hx he
theorem BU(z:Array Value)(n:Nat):(Builtin.zeroCells z n).size=n*z.size:=by simp[Builtin.zeroCells]
theorem axN(h:Inv C g β s a w){c:Call}{x y:Operand}{T X:TypeId}(ho:o.op= .call c)(hc:c.callee= .builtin .copy)(ha:c.args.toList=[x,y])(ht:c.argTypes.toList=[T,X]){s':AS}
  (he:(Zc P s o.dst T X (s.ev x) (s.ev y)).eval=some s'):fH P o a w (iw C s'):=by
 obtain⟨cal,args,tys⟩:=c;simp only at hc ha ht;have ha':args= #[x,y]:=by apply gw;simpa using ha
 have ht':tys= #[T,X]:=by apply gw;simpa using ht
 subst hc ha' ht';have hx:=h.ev x;have hy:=h.ev y;have fin:∀z w',(Builtin.copy_ #[T,X] 0 #[a.eval x,a.eval y]).run P w= .ok z w'->(∃g' β',Inv C g' β' s' (a.put o.dst z) w')->fH P o a w (iw C s'):=by intro z w' h1 h2;refine .inl ⟨z,w',C0 ho (f:=Builtin.copy_ #[T,X] 0 #[a.eval x,a.eval y]) (λty cs xs ap8=> ?_) h1,h2⟩;subst ap8;have e1:Builtin.copy_ #[T,X] 0 #[a.eval x,a.eval y]=Builtin.copy_ #[T,X] ty #[a.eval x,a.eval y]:=rfl;rw[e1];simp[builtin]
 unfold Zc at he;split at he
 ·rename_i e t b id ver len K6 ap8;obtain⟨hT,hz,i,zv,hi,ayB,aOS,ap9,ayF⟩:=C6 K6;obtain⟨m,hm,he⟩:=aw.1 he;obtain⟨hX,news,wu,hlen,aNl⟩:=VN h hy hm;have aK5:=wu.length (λ_ _ hx=>de.size hx);have h1news:∀u∈news,u.oneCell'=true:=bC.all (λ_ _ hx=>hx.one) wu;rw[<-ayB]at aNl;split at he
  ·rename_i ve n t' l mf;obtain⟨h1,Qj⟩:=aC.1 he;simp only[au,dw]at h1;obtain⟨aO5,aWu⟩:=h1;subst aO5 aWu;obtain⟨l',hl',adE⟩:=aw.1 Qj;obtain⟨et,hl'⟩:=jJ (ko.1 hl');have et':t'=t:=by simpa using et
   subst et';simp only at hl';subst hl';obtain⟨aK3,aQn⟩:=bS.1 adE;have aK3:m.length<=len:=by simpa using aK3
   obtain rfl:=ay.1 aQn;have cO:=ed mf;rw[ap8]at hx;obtain⟨ad,cap,aB1,aBY,qX,ZS,fx⟩:=sH hx;have fx:=fx ⟨false,_,cO⟩;obtain⟨pl,cur,e0,hp,hh,hg,hk,hV⟩:=(h.bJ id ve false _ cO).box rfl;have hp:β id=some pl:=hp;have hh:w.heap[pl.b]? =some (.cells cur e0 (0,0)):=hh
   have hg:g pl.b= .own (.id id) 0:=hg;have hcur':(match β id with
    |some pl=>(0 < len\/0=0->ad=some ⟨pl.b,0,none⟩)/\(([.arr]:List KX)=[]->0=0->cap=pl.cap)
    |none=>ad=none/\len=0/\cap=0):=fx
   rw[hp]at hcur';simp only at hcur';have ayv:=hcur'.1 (.inr trivial);subst ayv;have hV:V (s.env w g β) (.d (.arr len t') l) (cur.toList.take cur.size):=hV;rw[<-cJ,bK]at hV;simp only[V,de]at hV;obtain⟨aNn,hVc⟩:=hV;have aBX:=hVc.length (λ_ _ hx=>de.size hx);have aiM:news.length<=cur.size:=by
    rw[aK5];have:cur.size=l.length*t'.size:=by simpa using aBX
    rw[this,aNn];exact cQ _ aK3
   have mB:=run_storeCells_at P pl.b 0 e0 news 0 cur w hh (by simpa using aiM) h1news;have iO:(Builtin.copy_ #[T,X] 0 #[a.eval x,a.eval y]).run P w= .ok (goInt m.length) (w.setRow pl.b (dA cur.toList 0 news).toArray):=by have aTM:Nat.min m.length len=m.length:=dU aK3;rw[aB1];simp only[cm,aN]at mB;simp[Builtin.copy_,run_underlying hT,hlen,sizeOf,typeInfo,hi,aTM,aNl w rfl,mB,dA]
   have arT:=Trans.setRow w hg (dA cur.toList 0 news).toArray;have hle:cK (s.env w g β) ((s.bj id (.obj ve false (.d (.arr len t') (m++l.drop m.length)))).env (w.setRow pl.b (dA cur.toList 0 news).toArray) g β):=cK.bj cO (ax _) arT (λ_ _=>rfl) (λ_=>rfl);have i1:=h.step (dj _ _ _) arT hle (iV.bj (akW:=qB cO λk v1 l e=>by cases e) h.bJ (by rw[cO];simp) hle (λ_ _=>rfl) (λi ver fr c pl2 hi ZV XN=>⟨setRow_other w pl.b pl2.b _ (h.apart hg hi ZV XN),rfl⟩) (Sl.obj ⟨pl,_,e0,hp,setRow_heap w pl.b cur _ e0 (0,0) hh,hg,trivial,by
    show V _ (.d (.arr len t') (m++l.drop m.length)) ((dA cur.toList 0 news).toArray.toList.take (dA cur.toList 0 news).toArray.size);rw[<-cJ,bK];simp only[V,de];refine⟨by rw[ai,dp];omega,?_⟩;have e2:dA cur.toList 0 news=news++cur.toList.drop (m.length*t'.size):=by simp[dA,aK5]
    have q:bC (de (s.env w g β) t') (dA cur.toList 0 news) (m++l.drop m.length):=by rw[e2];exact bC.append wu (bC.drop (λ_ _ hx=>de.size hx) m.length hVc)
    exact q.mono λ_ _ hx=>hx.mono hle.mem⟩))
   exact fin _ _ iO ⟨g,β,i1.put o.dst ⟨[.int .i64 (m.length:Int)],by simp only[V,de],rfl⟩⟩
  ·exact(av.1 he).elim
 ·exact(av.1 he).elim
theorem ali(h:Inv C g β s a w){c:Call}{x y:Operand}{T X:TypeId}(ho:o.op= .call c)(hc:c.callee= .builtin .append)(ha:c.args.toList=[x,y])(ht:c.argTypes.toList=[T,X]){s':AS}
  {nl dt:Bool} (he:(yD P s nl dt o.dst T X (s.ev x) (s.ev y)).eval=some s'):fH P o a w (iw C s'):=by
 obtain⟨cal,args,tys⟩:=c;simp only at hc ha ht;have ha':args= #[x,y]:=by apply gw;simpa using ha
 have ht':tys= #[T,X]:=by apply gw;simpa using ht
 subst hc ha' ht';have hx:=h.ev x;have hy:=h.ev y;have fin:∀z w',(Builtin.append_ #[T,X] 0 #[a.eval x,a.eval y]).run P w= .ok z w'->(∃g' β',Inv C g' β' s' (a.put o.dst z) w')->fH P o a w (iw C s'):=by intro z w' h1 h2;refine .inl ⟨z,w',C0 ho (f:=Builtin.append_ #[T,X] 0 #[a.eval x,a.eval y]) (λty cs xs ap8=> ?_) h1,h2⟩;subst ap8;have e1:Builtin.append_ #[T,X] 0 #[a.eval x,a.eval y]=Builtin.append_ #[T,X] ty #[a.eval x,a.eval y]:=rfl;rw[e1];simp[builtin]
 unfold yD at he;split at he
 ·rename_i e t b q K6 hd;obtain⟨hT,hz,i,zv,hi,ayB,aOS,ap9,ayF⟩:=rv K6;obtain⟨m,hm,he⟩:=aw.1 he;obtain⟨hX,news,wu,hlen,aNl⟩:=VN h hy hm;have aK5:=wu.length (λ_ _ hx=>de.size hx);have h1news:∀u∈news,u.oneCell'=true:=bC.all (λ_ _ hx=>hx.one) wu;rw[<-ayB]at aNl;have aQw:zv.cells.size=t.size:=by have:=(ayF (s.env w g β)).size;simpa using this
  have aUh:∀n,(Builtin.zeroCells zv.cells n).size=n*t.size:=λn=>by rw[BU,aQw]
  have grow:∀(ad:Option Addr) (sLen sCap:Nat) (bZ:List Value) (l0:List t.den),a.eval x= .slice ad sLen sCap->bZ.length=sLen*t.size->l0.length=sLen->bC (de (s.env w g β) t) bZ l0->
    (Builtin.firstCells i.size sLen (.slice ad sLen sCap)).run P w.drew= .ok bZ.toArray w.drew->sCap < sLen+m.length->da (sLen+m.length) b=true->
    ∃(cur:Array Value) (cap:Nat),(Builtin.append_ #[T,X] 0 #[a.eval x,a.eval y]).run P w= .ok (.slice (some ⟨w.heap.size,0,none⟩) (sLen+m.length) cap) (w.drew.alloc (.cells cur e))/\
     cur.size=cap*t.size/\sLen+m.length<=cap/\cap<=maxLen/\cur.toList.take ((sLen+m.length)*t.size)=bZ++news:=by
   intro ad sLen sCap bZ l0 aB1 XM aRx aRi aSB LY ap6;simp only[da,aW]at ap6;have hr:=T9 (P:=P) (w:=w) (ty:=0) hT hX hi ap9 aSB hlen (aNl w.drew rfl) LY ak (by rw[aOS];exact ap6.1);rw[aB1];refine⟨_,_,hr,?_,grownCap_ge _ _ _ _,grownCap_le_maxLen _ _ _ _ (by unfold maxLen;omega),?_⟩
   ·have aXm:=grownCap_ge w (sLen+m.length) sCap e;simp only[Array.size_append,ij,aUh,XM,aK5,<-eD];congr 1;omega
   ·have arL:(bZ++news).length=(sLen+m.length)*t.size:=by rw[ai,XM,aK5,eD]
    simp only[bX];rw[<-arL];exact List.take_left
  split at he
  ·rename_i aWR;rw[aWR]at hx;have aB1:=lI hx;cases dt with
   |true=>
    simp only at he;obtain⟨ap6,he⟩:=bS.1 he;obtain rfl:=ay.1 he;simp only[au,aW]at ap6;obtain⟨ap6,aEZ⟩:=ap6;obtain⟨cur,cap,hr,q1,q2,q3,q4⟩:=grow none 0 0 [] [] aB1 (by simp) rfl rfl rfl ak (by simpa using ap6);simp only[aN,aT]at hr q2 q4;have aTt:bC (de (s.env w.drew g β) t) news m:=wu.mono λ_ _ hx=>hx.mono (cK.same (s:=s) (β:=β) (Trans.drew w g)).mem
    refine fin _ _ hr ⟨nR g w.heap.size .free,β,(h.drew.Kc (.cells cur e)).put o.dst ⟨[.slice (some ⟨w.heap.size,0,none⟩) m.length cap],?_,rfl⟩⟩;simp only[V,de];refine⟨λh0=>(by cases h0),λm' hm'=> ?_⟩;obtain rfl:m=m':=bk hm';refine⟨_,cap,cur.toList.take (m.length*t.size),rfl,q2,λ_=>rfl,λj v hj=>⟨_,_,rfl,?_,?_⟩,?_⟩
    ·show(w.drew.alloc (.cells cur e)).cell? ⟨w.drew.heap.size,0+j,none⟩=some v;rw[World.cell?_alloc_new,aN];rw[di]at hj;split at hj
     ·simpa using hj
     ·cases hj
    ·show vh (nR g w.heap.size .free) w.heap.size (0+j);unfold vh;rw[fE];trivial
    ·rw[q4];exact aTt.mono λ_ _ hx=>hx.mono (Trans.mem (E:=s.env w.drew g β) (E':=s.env (w.drew.alloc (.cells cur e)) (nR g w.drew.heap.size .free) β) (Trans.alloc w.drew g (.cells cur e) .free))
   |false=>
   simp only at he;obtain⟨hq,he⟩:=aC.1 he;obtain⟨ap6,he⟩:=bS.1 he;obtain rfl:=ay.1 he;by_cases aEZ:m.length=0
   ·have aTO:m=[]:=bD aEZ;subst aTO;have aTR:news=[]:=bD (by rw[aK5];simp);subst aTR;obtain⟨β',i1,e1,v1⟩:=h.aGi hq (e:=e) hz;refine fin (.slice none 0 0) w ?_ ⟨g,β',?_⟩
    ·rw[aB1];exact Hd (P:=P) hT hX hi hlen (aNl w rfl)
    ·exact i1.put o.dst v1
   ·obtain⟨cur,cap,hr,q1,q2,q3,q4⟩:=grow none 0 0 [] [] aB1 (by simp) rfl rfl rfl ak (by simpa using ap6);simp only[aN,aT]at hr q2 q4;obtain⟨g2,β2,i2,v2⟩:=(h.drew).ajn hq (e:=e) (l:=m) (cur:=cur) (cap:=cap) hz (by rw[q4];exact wu.mono λ_ _ hx=>hx.mono (cK.same (s:=s) (β:=β) (Trans.drew w g)).mem) q1 q2 q3;refine fin _ _ hr ⟨g2,β2,?_⟩;exact i2.put o.dst v2
  ·rename_i id ver len ap8;rw[ap8]at hx;obtain⟨ad,cap,aB1,aBY,qX,ZS,fx⟩:=sH hx;split at he
   ·rename_i v fr e' t' l mf;obtain⟨h1,Qj⟩:=aC.1 he;clear he;simp only[au,dw]at h1;obtain⟨aO5,aWf⟩:=h1;subst aO5 aWf;obtain⟨l',hl',adE⟩:=aw.1 Qj;obtain⟨et,hl'⟩:=jJ (ko.1 hl');have et':t'=t:=by simpa using et
    subst et';simp only at hl';subst hl';obtain⟨aK1,aRm⟩:=bS.1 adE;have aK1:len<=l.length:=by simpa using aK1
    obtain⟨aVi,aQn⟩:=bS.1 aRm;obtain⟨ap6,aVh⟩:=bS.1 aQn;obtain rfl:=ay.1 aVh;clear Qj adE aRm aQn aVh;have cO:=ed mf;have fx:=fx ⟨fr,_,cO⟩;obtain⟨_,hO⟩:=h.bJ id v fr _ cO;have hO':(match β id with
     |none=>l=[]
     |some pl=>∃cur k,w.heap[pl.b]? =some (.cells cur e (0,0))/\cur.size=pl.cap*t'.size/\l.length<=pl.cap/\pl.cap<=maxLen/\g pl.b= .own (.id id) k/\
       k<=l.length*t'.size/\(fr=false->k=0)/\bC (de (s.env w g β) t') (cur.toList.take (l.length*t'.size)) l):=hO
    have hcur':(match β id with
     |some pl=>(0 < len\/0=0->ad=some ⟨pl.b,0,none⟩)/\(([]:List KX)=[]->0=0->cap=pl.cap)
     |none=>ad=none/\len=0/\cap=0):=fx
    have aOO:fr=false\/len=l.length:=by simp only[fW,cC,aW]at aVi;exact aVi
    have gC:s.bV id≠none:=by rw[cO];simp
    have fresh:∀(cur:Array Value) (cp:Nat) (g0:Nat->mr),Trans w (w.drew.alloc (.cells cur e)) g (nR g0 w.heap.size (.own (.id (id)) 0))->
      (∀i ver fr c pl,i≠id->s.bV i=some (.obj ver fr c)->β i=some pl->g0 pl.b=g pl.b)->cur.size=cp*t'.size->len+m.length<=cp->cp<=maxLen->
      bC (de (s.env w g β) t') (cur.toList.take ((len+m.length)*t'.size)) (l.take len++m)->len<=l.length->
      ∃g' β',Inv C g' β' ((s.bj id (.obj (v+1) fr (.vec e t' (l.take len++m)))).put o.dst (.bz id (v+1) [] 0 0 (len+m.length))) (a.put o.dst (.slice (some ⟨w.heap.size,0,none⟩) (len+m.length) cp)) (w.drew.alloc (.cells cur e)):=by
     intro cur cp g0 ht aTx q1 q2 q3 q4 q5;have aNn:(l.take len++m).length=len+m.length:=by simp;omega
     have hle:cK (s.env w g β) ((s.bj id (.obj (v+1) fr (.vec e t' (l.take len++m)))).env (w.drew.alloc (.cells cur e)) (nR g0 w.heap.size (.own (.id id) 0)) (J1 β id (some ⟨w.heap.size,cp⟩))):=
      cK.bj cO ak ht (λi hi=>BK _ _ _ hi) (λhh=>ak)
     have i1:=h.step (dj _ _ _) ht hle (iV.bj (akW:=qB cO λk v1 l e=>by cases e) h.bJ gC hle (λi hi=>BK _ _ _ hi) (λi ver fr' c' pl hi ZV XN=>by
       have gJ:pl.b < w.heap.size:=((h.bJ i ver fr' c' ZV).label (pl:=pl) XN).1;exact⟨ru w.drew _ gJ,by rw[fw _ _ _ ak];exact aTx i ver fr' c' pl hi ZV XN⟩) (by
      refine⟨hz,?_⟩;show(match J1 β id (some ⟨w.heap.size,cp⟩) id with
       |none=>(l.take len++m)=[]
       |some pl=>_)
      rw[kc];refine⟨cur,0,uf w.drew _,q1,by rw[aNn];exact q2,q3,fE _ _ _,aJ _,λ_=>rfl,?_⟩;rw[aNn];exact q4.mono λ_ _ hx=>hx.mono hle.mem))
     refine⟨_,_,i1.put o.dst ⟨_,?_,rfl⟩⟩;simp only[V];have lE:=eG s id (.obj (v+1) fr (.vec e t' (l.take len++m))) gC;refine⟨_,_,rfl,q2,λ_=>rfl,⟨by show(s.bj id _).bV id≠none;rw[lE];simp,λv' fr' c' hh=> ?_⟩,λ_=> ?_⟩
     ·have hh':(s.bj id (.obj (v+1) fr (.vec e t' (l.take len++m)))).bV id=some (.obj v' fr' c'):=hh;rw[lE]at hh';simp only[az,dE.obj.injEq]at hh';omega
     ·show(match J1 β id (some ⟨w.heap.size,cp⟩) id with
       |some pl=>_
       |none=>_)
      rw[kc];exact⟨λ_=>rfl,λ_ _=>rfl⟩
    cases hp:β id with
    |none=>
     rw[hp]at hO' hcur';simp only at hO' hcur';obtain⟨rfl,rfl,rfl⟩:=hcur';subst hO';by_cases aEZ:m.length=0
     ·have aTO:m=[]:=bD aEZ;subst aTO;have aTR:news=[]:=bD (by rw[aK5];simp);subst aTR;have ht:=Trans.refl w g;have hle:cK (s.env w g β) ((s.bj id (.obj (v+1) fr (.vec e t' []))).env w g β):=cK.bj cO ak ht (λ_ _=>rfl) (λ_=>rfl);have i1:=h.step (dj _ _ _) ht hle (iV.bj (akW:=qB cO λk v1 l e=>by cases e) h.bJ gC hle (λ_ _=>rfl) (λ_ _ _ _ _ _ _ _=>⟨rfl,rfl⟩) (by
       refine⟨hz,?_⟩;show(match β id with
        |none=>([]:List t'.den)=[]
        |some pl=>_)
       rw[hp]))
      refine fin (.slice none 0 0) w ?_ ⟨g,β,i1.put o.dst ⟨_,?_,rfl⟩⟩
      ·rw[aB1];exact Hd (P:=P) hT hX hi hlen (aNl w rfl)
      ·simp only[V];have lE:=eG s id (.obj (v+1) fr (.vec e t' [])) gC;refine⟨_,_,rfl,ax _,λhh=>by simp at hh,⟨by show(s.bj id _).bV id≠none;rw[lE];simp,λv' fr' c' hh=> ?_⟩,λ_=> ?_⟩
       ·have hh':(s.bj id (.obj (v+1) fr (.vec e t' []))).bV id=some (.obj v' fr' c'):=hh;rw[lE]at hh';simp only[az,dE.obj.injEq]at hh';omega
       ·show(match β id with
         |some pl=>_
         |none=>_)
        rw[hp];exact⟨rfl,by simp,rfl⟩
     ·obtain⟨cur,cp,hr,q1,q2,q3,q4⟩:=grow none 0 0 [] [] aB1 (by simp) rfl rfl rfl ak ap6;refine fin _ _ hr (fresh cur cp g (Trans.trans (Trans.drew w g) (Trans.alloc w.drew g _ _)) (λ_ _ _ _ _ _ _ _=>rfl) q1 q2 q3 ?_ (by simp));rw[q4];simpa using wu
    |some pl=>
     rw[hp]at hO' hcur';simp only at hO' hcur';obtain⟨ayv,Qi⟩:=hcur';have ayv:=ayv (.inr trivial);have Qi:=Qi trivial trivial;subst ayv Qi;obtain⟨cur,k,p1,p2,p3,p4,p5,p6,p7,p8⟩:=hO';have hk:k<=len*t'.size:=by
      rcases aOO with hf | hf
      ·rw[p7 hf];exact aJ _
      ·rw[hf];exact p6
     have hmul:len*t'.size<=l.length*t'.size:=cQ _ aK1;have aVu:l.length*t'.size<=cur.size:=by rw[p2];exact cQ _ p3
     have ayE:=bC.take (λ_ _ hx=>de.size hx) len p8;rw[eJ,dU hmul]at ayE;have XM:(cur.toList.take (len*t'.size)).length=len*t'.size:=by simp;omega
     by_cases LY:len+m.length<=pl.cap
     ·have aWG:(len+m.length)*t'.size<=cur.size:=by rw[p2];exact cQ _ LY
      have aiM:len*i.size+news.length<=cur.size:=by rw[ayB,aK5,<-eD];exact aWG
      have hr:=Ua (P:=P) (w:=w) (ty:=0) hT hX hi p1 h1news hlen (aNl w rfl) LY aiM;rw[ayB]at hr aiM;have ht:Trans w (w.setRow pl.b (dA cur.toList (len*t'.size) news).toArray) g g:=by
       refine⟨by simp,by simp,by simp,by simp,λb' hb=> ?_⟩;by_cases aiJ:b'=pl.b
       ·subst aiJ;rw[p5];refine⟨.inr ⟨id,k,rfl,ax _⟩,λoff u aK7 hu=> ?_⟩;rw[cell_of_row w pl.b off cur e (0,0) p1]at hu;rw[cell_setRow_same w pl.b off cur _ e (0,0) p1];simp only[dA,aF,List.getElem?_toArray];rw[fm (by rw[XM];omega),di,if_pos ak];simpa using hu
       ·rw[setRow_other w pl.b b' _ aiJ];cases WY:g b' with
        |free=>exact⟨rfl,rfl⟩
        |own o' k=>cases o' with
         |eh=>exact⟨rfl,rfl⟩
         |id i'=>exact⟨.inr ⟨i',k,rfl,ax _⟩,λoff v _ hv=>by rw[cell_setRow_other w pl.b _ _ aiJ];exact hv⟩
      have hle:cK (s.env w g β) ((s.bj id (.obj (v+1) fr (.vec e t' (l.take len++m)))).env (w.setRow pl.b (dA cur.toList (len*t'.size) news).toArray) g β):=
       cK.bj cO ak ht (λ_ _=>rfl) (λ_=>rfl)
      have aNn:(l.take len++m).length=len+m.length:=by simp;omega
      have aT3:(dA cur.toList (len*t'.size) news).length=cur.toList.length:=jW (by simpa using aiM);have i1:=h.step (dj _ _ _) ht hle (iV.bj (akW:=qB cO λk v1 l e=>by cases e) h.bJ gC hle (λ_ _=>rfl) (λi ver fr c pl2 hi ZV XN=>⟨setRow_other w pl.b pl2.b _ (h.apart p5 hi ZV XN),rfl⟩) (by
       refine⟨hz,?_⟩;show(match β id with
        |none=>(l.take len++m)=[]
        |some pl=>_)
       rw[hp];refine⟨_,k,setRow_heap w pl.b cur _ e (0,0) p1,by rw[ij,aT3];simpa using p2,by rw[aNn];exact LY,p4,p5,?_,p7,?_⟩
       ·rw[aNn,eD];omega
       ·rw[aNn,show(dA cur.toList (len*t'.size) news).toArray.toList=dA cur.toList (len*t'.size) news from rfl];have e1:(dA cur.toList (len*t'.size) news).take ((len+m.length)*t'.size)=cur.toList.take (len*t'.size)++news:=by
         unfold dA;have arL:(cur.toList.take (len*t'.size)++news).length=(len+m.length)*t'.size:=by rw[ai,XM,aK5,eD]
         rw[<-arL];exact List.take_left
        rw[e1];exact(bC.append ayE wu).mono λ_ _ hx=>hx.mono hle.mem))
      rw[<-aB1]at hr;refine fin _ _ hr ⟨g,β,i1.put o.dst ⟨_,?_,rfl⟩⟩;simp only[V];have lE:=eG s id (.obj (v+1) fr (.vec e t' (l.take len++m))) gC;refine⟨_,_,rfl,LY,λ_=>rfl,⟨by show(s.bj id _).bV id≠none;rw[lE];simp,λv' fr' c' hh=> ?_⟩,λ_=> ?_⟩
      ·have hh':(s.bj id (.obj (v+1) fr (.vec e t' (l.take len++m)))).bV id=some (.obj v' fr' c'):=hh;rw[lE]at hh';simp only[az,dE.obj.injEq]at hh';omega
      ·show(match β id with
        |some pl=>_
        |none=>_)
       rw[hp];exact⟨λ_=>rfl,λ_ _=>rfl⟩
     ·have aSB:(Builtin.firstCells i.size len (.slice (some ⟨pl.b,0,none⟩) len pl.cap)).run P w.drew= .ok (cur.toList.take (len*t'.size)).toArray w.drew:=by
       refine run_firstCells_some (P:=P) w.drew i.size _ _ _ _ _ (by rw[XM,ayB]) (λj u hj=> ?_);rw[Addr.add_lit,aN];show w.cell? ⟨pl.b,j,none⟩=some u;rw[cell_of_row w pl.b j cur e (0,0) p1];rw[di]at hj;split at hj
       ·simpa using hj
       ·cases hj
      obtain⟨cur2,cp,hr,q1,q2,q3,q4⟩:=grow (some ⟨pl.b,0,none⟩) len pl.cap (cur.toList.take (len*t'.size)) (l.take len) aB1 XM (by simp;omega) ayE aSB ak ap6;have gJ:pl.b < w.heap.size:=(bO.1 p1).1;have avt:Trans w w.drew g (nR g pl.b .free):=by
       refine⟨rfl,rfl,⟨rfl,oV _⟩,ax _,λb' hb=> ?_⟩;by_cases aiJ:b'=pl.b
       ·subst aiJ;rw[p5,fE];exact⟨.inl rfl,λ_ _ _ hh=>hh⟩
       ·rw[fw _ _ _ aiJ];exact(Trans.drew w g).SE b' hb
      refine fin _ _ hr (fresh cur2 cp (nR g pl.b .free) (Trans.trans avt (Trans.alloc w.drew _ _ _)) (λi ver fr c pl2 hi ZV XN=>fw _ _ _ (h.apart p5 hi ZV XN)) q1 q2 q3 ?_ aK1);rw[q4];exact bC.append ayE wu
   ·simp only[av]at he
  ·simp only[av]at he
 ·simp only[av]at he
end
end Go.Ab
namespace Go.Ab
abbrev Ren:=Id->Nat->Option (Id×Nat)
structure Az(ρ:Ren)(E E':Env):Prop where
 mem:uc E E'
 ref:∀id ver r,ρ id ver=some r->E.GS id ver->E'.GS r.1 r.2/\(E'.cur r.1 r.2->E.cur id ver/\E'.β r.1=E.β id)
theorem awc(ρ:Ren)(a:aB):(a.iS ρ).agg=a.agg:=by
 cases a with
 |ptr id v p n=>simp only[aB.iS];cases ρ id v <;> rfl
 |bz id v p c i l=>simp only[aB.iS];cases ρ id v <;> rfl
 |ct id v=>simp only[aB.iS];cases ρ id v <;> rfl
 |yl id v=>simp only[aB.iS];cases ρ id v <;> rfl
 |_=>rfl
mutual
theorem ak4{ρ:Ren}{E E':Env}(h:Az ρ E E'):∀ {a:aB} {cs:List Value},V E a cs->V E' (a.iS ρ) cs
 | .undef,_,hv=>by simp only[V]at hv
 | .gone,_,hv=>by simpa only[aB.iS,V]using hv
 | .dd,_,hv=>by simpa only[aB.iS,V]using hv
 | .re,_,hv=>by simpa only[aB.iS,V]using hv
 | .xC,_,hv=>by simpa only[aB.iS,V]using hv
 | .Dj,_,hv=>by simpa only[aB.iS,V]using hv
 | .sb l,_,hv=>by simp only[aB.iS,V]at hv ⊢;obtain⟨b,cap,arr,e,h1,h2,h3,h4,h5⟩:=hv;obtain⟨h6,h7⟩:=h.mem.fz b _ h3 h4;exact⟨b,cap,arr,e,h1,h2,h6,h7,h5⟩
 | .d t x,_,hv=>by simp only[aB.iS,V]at hv ⊢;exact hv.mono h.mem
 | .pr a b,_,hv=>by simp only[aB.iS,V]at hv ⊢;obtain⟨ca,cb,e,ha,hb⟩:=hv;exact⟨ca,cb,e,ak4 h ha,ak4 h hb⟩
 | .ptr id ver p n,_,hv=>by
  have h1:=hv.one;simp only[aB.iS];cases hr:ρ id ver with
  |none=>
   simp only[V]at hv ⊢;obtain⟨a,e,_⟩:=hv;exact⟨_,e,h1 _ (by simp[e])⟩
  |some r=>
   simp only[V]at hv ⊢;obtain⟨a,e,hb,hc⟩:=hv;obtain⟨b1,b2⟩:=h.ref id ver r hr hb;refine⟨a,e,b1,λc=> ?_⟩;obtain⟨c1,e1⟩:=b2 c;rw[e1];exact hc c1
 | .dD t x,_,hv=>by simp only[aB.iS,V]at hv ⊢;obtain⟨b,off,vs,e,hr,hx⟩:=hv;exact⟨b,off,vs,e,hr.mono h.mem,hx.mono h.mem⟩
 | .bz id ver p c i len,_,hv=>by
  have h1:=hv.one;simp only[aB.iS];cases hr:ρ id ver with
  |none=>
   simp only[V]at hv ⊢;obtain⟨a,cap,e,_⟩:=hv;exact⟨_,e,h1 _ (by simp[e])⟩
  |some r=>
   simp only[V]at hv ⊢;obtain⟨a,cap,e,hl,hs,hb,hc⟩:=hv;obtain⟨b1,b2⟩:=h.ref id ver r hr hb;refine⟨a,cap,e,hl,hs,b1,λc=> ?_⟩;obtain⟨c1,e1⟩:=b2 c;rw[e1];exact hc c1
 | .fn f c,_,hv=>by simp only[aB.iS,V]at hv ⊢;obtain⟨vs,e,hc⟩:=hv;exact⟨vs,e,aqg h hc⟩
 | .cons _ _,_,hv=>by simp only[V]at hv
 | .nil,_,hv=>by simp only[V]at hv
 | .vec ..,_,hv=>by simp only[V]at hv
 | .bx ..,_,hv=>by simp only[V]at hv
 | .yl id ver,_,hv=>by
  have h1:=hv.one;simp only[aB.iS];cases hr:ρ id ver with
  |none=>
   simp only[V]at hv ⊢;obtain⟨b,e,_⟩:=hv;exact⟨_,e,h1 _ (by simp[e])⟩
  |some r=>
   simp only[V]at hv ⊢;obtain⟨b,e,hb,hc⟩:=hv;obtain⟨b1,b2⟩:=h.ref id ver r hr hb;refine⟨b,e,b1,λc=> ?_⟩;obtain⟨c1,e1⟩:=b2 c;rw[e1];exact hc c1
 | .ct id ver,_,hv=>by
  have h1:=hv.one;simp only[aB.iS];cases hr:ρ id ver with
  |none=>
   simp only[V]at hv ⊢;obtain⟨b,e,_⟩:=hv;exact⟨_,e,h1 _ (by simp[e])⟩
  |some r=>
   simp only[V]at hv ⊢;obtain⟨b,e,hb,hc⟩:=hv;obtain⟨b1,b2⟩:=h.ref id ver r hr hb;refine⟨b,e,b1,λc=> ?_⟩;obtain⟨c1,e1⟩:=b2 c;rw[e1];exact hc c1
 | .mp ..,_,hv | .tx ..,_,hv | .rN ..,_,hv=>by simp only[V]at hv
theorem aqg{ρ:Ren}{E E':Env}(h:Az ρ E E'):∀ {a:aB} {vs:List Value},VC E a vs->VC E' (a.iS ρ) vs
 | .nil,_,hv=>by simpa only[aB.iS,VC]using hv
 | .cons a b,_,hv=>by simp only[aB.iS,VC]at hv ⊢;obtain⟨v,vs',cs,e,ha,ho,hb⟩:=hv;exact⟨v,vs',cs,e,ak4 h ha,by rw[awc];exact ho,aqg h hb⟩
 | .undef,_,hv=>by simp only[VC]at hv
 | .gone,_,hv=>by simp only[VC]at hv
 | .dd,_,hv=>by simp only[VC]at hv
 | .re,_,hv=>by simp only[VC]at hv
 | .xC,_,hv=>by simp only[VC]at hv
 | .yl ..,_,hv | .rN ..,_,hv=>by simp only[VC]at hv
 | .Dj,_,hv=>by simp only[VC]at hv
 | .sb _,_,hv=>by simp only[VC]at hv
 | .d t x,_,hv=>by simp only[VC]at hv
 | .pr a b,_,hv=>by simp only[VC]at hv
 | .ptr ..,_,hv=>by simp only[VC]at hv
 | .dD ..,_,hv=>by simp only[VC]at hv
 | .bz ..,_,hv=>by simp only[VC]at hv
 | .fn ..,_,hv=>by simp only[VC]at hv
 | .vec ..,_,hv=>by simp only[VC]at hv
 | .bx ..,_,hv=>by simp only[VC]at hv
 | .ct ..,_,hv=>by simp only[VC]at hv
 | .mp ..,_,hv | .tx ..,_,hv=>by simp only[VC]at hv
end
theorem HF{ρ:Ren}{E E':Env}(h:Az ρ E E'){a:aB}{v:Value}(hv:VS E a v):VS E' (a.iS ρ) v:=by
 by_cases hc:a.eP=true
 ·obtain⟨cs,h1,h2⟩:=hv.eP hc;exact VS.of (ak4 h h1) (by rw[awc];exact h2)
 ·cases a <;> first | (exact absurd rfl hc) | skip
  ·trivial
  ·obtain⟨vs,e,aQt⟩:=hv;have:=aqg h aQt;simp only[aB.iS]at this ⊢;exact⟨vs,e,this⟩
  ·exact hv
  ·obtain⟨cs,h1,_⟩:=hv;simp only[V]at h1
  ·obtain⟨cs,h1,_⟩:=hv;simp only[V]at h1
  ·obtain⟨cs,h1,_⟩:=hv;simp only[V]at h1
  ·obtain⟨cs,h1,_⟩:=hv;simp only[V]at h1
  ·obtain⟨cs,h1,_⟩:=hv;simp only[V]at h1
theorem abX(ρ:Ren):∀f:aB,(f.iS ρ).list=f.list.map (aB.iS ρ)
 | .cons a b=>by simp only[aB.iS,aB.list,bP,abX ρ b]
 | .undef | .gone | .dd | .re | .xC | .Dj | .d _ _ | .dD _ _ | .fn _ _ | .pr _ _ | .nil | .vec .. | .sb _ | .bx .. | .mp .. | .tx .. | .rN .. =>rfl
 | .ptr id ver p n=>by simp only[aB.iS];cases ρ id ver <;> rfl
 | .bz id ver p c i len=>by simp only[aB.iS];cases ρ id ver <;> rfl
 | .ct id ver=>by simp only[aB.iS];cases ρ id ver <;> rfl
 | .yl id ver=>by simp only[aB.iS];cases ρ id ver <;> rfl
theorem aqe{ρ:Ren}{E E':Env}(h:Az ρ E E'){f:aB}{tmps:Array Value}(hs:E3 E f tmps):E3 E' (f.iS ρ) tmps:=by
 refine⟨by rw[abX,bU];exact hs.1,λi=> ?_⟩;have:=HF h (hs.2 i);rw[abX,aG,eg];rw[aG]at this;cases hi:f.list[i]? with
 |none=>exact VS.undef
 |some x=>rw[hi]at this;exact this
theorem aAn(ρ:Ren)(c:aB):(c.iS ρ).strip=c.strip.iS ρ:=by
 cases c <;> first
  |rfl
  | (rename_i id ver p n;simp only[aB.strip,aB.iS];cases ρ id ver <;> rfl)
  | (rename_i id ver p c i len;simp only[aB.strip,aB.iS];cases ρ id ver <;> rfl)
  | (rename_i i v;simp only[aB.strip,aB.iS];cases ρ i v <;> rfl)
theorem RF(ρ:Ren):∀c:aB,(c.iS ρ).size=c.size
 | .pr a b=>by simp only[aB.iS,aB.size,RF ρ a,RF ρ b]
 | .ptr id ver p n=>by simp only[aB.iS];cases ρ id ver <;> rfl
 | .bz id ver p c i len=>by simp only[aB.iS];cases ρ id ver <;> rfl
 | .ct id ver=>by simp only[aB.iS];cases ρ id ver <;> rfl
 | .undef | .gone | .dd | .re | .xC | .Dj | .d _ _ | .dD _ _ | .fn _ _ | .cons _ _ | .nil | .vec .. | .sb _ | .bx .. | .mp .. | .tx .. | .rN .. =>rfl
 | .yl id ver=>by simp only[aB.iS];cases ρ id ver <;> rfl
theorem aCU(ρ:Ren){c:aB}(n:Nat):(c.iS ρ).xV n=c.xV n:=by
 cases c with
 |bx e z c=>cases z with
  |zero=>rfl
  |succ z=>exact RF ρ c
 |_=>first | rfl | (simp only[aB.iS];split <;> rfl)
theorem axl(ρ:Ren){c:aB}{pl:Pl}{n:Nat}{e:TypeId}(h:c.HQ pl n e):(c.iS ρ).HQ pl n e:=by
  cases c <;> first
    | (rename_i e' z c;cases z with
       |zero=>exact h
       |succ z=>exact⟨h.1,h.2.1,h.2.2.1,by rw[RF];exact h.2.2.2⟩)
    |exact h
    |trivial
    | (rename_i id ver p n;simp only[aB.iS];cases ρ id ver <;> trivial)
    | (rename_i id ver p c i len;simp only[aB.iS];cases ρ id ver <;> trivial)
    | (rename_i i v;simp only[aB.iS];cases ρ i v <;> trivial)
theorem xl{ρ:Ren}{E E':Env}(h:Az ρ E E'){id id':Id}{fr:Bool}{c:aB}(ho:xk E id fr c)(hβ:E'.β id'=E.β id)
  (hb:∀pl,E.β id=some pl->E'.w.heap[pl.b]? =E.w.heap[pl.b]? /\(∀k,E.g pl.b= .own (.id id) k->E'.g pl.b= .own (.id id') k)/\(E.g pl.b= .free->E'.g pl.b= .free)):xk E' id' fr (c.iS ρ):=by
 by_cases hn:c.iP=false
 ·obtain⟨pl,cur,e,h1,h2,h3,h5,h4⟩:=ho.box hn;obtain⟨b1,b2,b3⟩:=hb pl h1;have h6:=ak4 h h4;refine Sl.obj ⟨pl,cur,e,by rw[hβ,h1],by rw[b1,h2],?_,axl ρ h5,by rw[aAn,aCU];exact h6⟩;cases fr with
  |true=>exact b3 h3
  |false=>exact b2 0 h3
 ·cases c <;> first
   | (exact absurd rfl hn)
   |skip
  rotate_left;rotate_left
  ·obtain⟨pl,mb,since,seen,c0,h1,h2,h3,_⟩:=ho;obtain⟨b1,b2,_⟩:=hb pl h1;exact⟨pl,mb,since,seen,c0,by rw[hβ,h1],by rw[b1,h2],b2 0 h3,λvr ap7=>by cases ap7⟩
  ·obtain⟨pl,r,h1,h2,h3,h4,h5,h6⟩:=ho;obtain⟨b1,b2,_⟩:=hb pl h1;exact⟨pl,r,by rw[hβ,h1],by rw[b1,h2],b2 0 h3,h4,aqe h h5,h6⟩
  rotate_left
  ·obtain⟨pl,es,clock,h1,h2,h3,h4⟩:=ho;obtain⟨b1,b2,_⟩:=hb pl h1;exact⟨pl,es,clock,by rw[hβ,h1],by rw[b1,h2],b2 0 h3,⟨h4.1.1.mono h.mem,h4.1.2⟩,h4.2⟩
  rename_i e t l;obtain⟨hz,ho⟩:=ho;refine⟨hz,?_⟩;rw[hβ];cases hp:E.β id with
  |none=>rw[hp]at ho;exact ho
  |some pl=>
   rw[hp]at ho;simp only at ho ⊢;obtain⟨b1,b2,_⟩:=hb pl hp;obtain⟨cur,k,h1,h2,h3,h4,h5,h6,h7,h8⟩:=ho;exact⟨cur,k,by rw[b1,h1],h2,h3,h4,b2 k h5,h6,h7,h8.mono λc x hx=>hx.mono h.mem⟩
def yC(E:Env):List aB->List Value->Prop
 |[],[]=>True
 |a::as,v::vs=>VS E a v/\yC E as vs
 |_,_=>False
def fG.st(G:fG):AS:= {cq:=[],bZ:=G.bZ,news:=[G.news]}
def fI(bZ:List dE):AS:= {cq:=[],bZ,news:=[]}
def tX(E:Env)(G:fG)(v:Value)(w':World):Prop:=∃g' β',VS (G.st.env w' g' β') G.val v/\iV (G.st.env w' g' β')/\Trans E.w w' E.g g'/\cK E (G.st.env w' g' β')
def qZ(P:Program)(f:FuncId)(en:Entry):Prop:=∀w g β args bZ jd x,yC ((fI bZ).env w g β) args jd->iV ((fI bZ).env w g β)->en.run args bZ=some x->((callFunc f jd.toArray).run P w= .ok (.enter f jd.toArray) w/\Calls P f jd.toArray w λe w'=>∃v,e= .returned v/\tX ((fI bZ).env w g β) (en.out args bZ x) v w')\/(∃v w',(callFunc f jd.toArray).run P w= .ok (.value v) w'/\tX ((fI bZ).env w g β) (en.out args bZ x) v w')
def GL(P:Program)(y:Nat)(en:Entry):Prop:=∀w g β args bZ jd x,yC ((fI bZ).env w g β) args jd->iV ((fI bZ).env w g β)->en.run args bZ=some x->∀l us ts f rd n,jd= .func (.yield l) #[] #[]::(us++ts)->us.length=(ri P y).ps.size->RoundIn (Fr rd) n P l f (((ri P y).ps.zip us.toArray).foldl (λtmps (t,a)=>tmps.setIfInBounds t a) ts.toArray) (ri P y).as (ri P y).b w λe w'=>∃v,e= .returned v/\tX ((fI bZ).env w g β) (en.out args bZ x) v w'
def O0(P:Program)(f:FuncId)(en:Entry):Prop:=∀w g β args bZ jd,yC ((fI bZ).env w g β) args jd->iV ((fI bZ).env w g β)->(∃x,en.set args bZ x)->(callFunc f jd.toArray).run P w= .ok (.enter f jd.toArray) w/\Calls P f jd.toArray w λe w'=>∃v x,e= .returned v/\en.set args bZ x/\tX ((fI bZ).env w g β) (en.out args bZ x) v w'
def vj(P:Program)(f:Nat)(en:Entry):Prop:=(Nat.blt f yB=true->qZ P f en)/\(Nat.ble yB f=true->GL P f en)/\(Nat.blt f yB=true->O0 P f en)
theorem vj.no{f:Nat}(h1:Nat.blt f yB=true)(h2:Nat.ble yB f=true):False:=hJ _ (Nat.lt_of_lt_of_le (dI h1) (dI h2))
theorem vj.of{P:Program}{f:FuncId}{en:Entry}(h:qZ P f en)(hf:Nat.blt f yB=true)(hs:∀a o x,¬en.set a o x:=by exact λ_ _ _ h=>h):vj P f en:=
 ⟨λ_=>h,λh2=>(vj.no hf h2).elim,λ_ _ _ _ _ _ _ _ _ ⟨x,hx⟩=>(hs _ _ x hx).elim⟩
theorem vj.aVF{P:Program}{f:FuncId}{en:Entry}(h:GL P f en)(hf:Nat.ble yB f=true):vj P f en:=⟨λh2=>(vj.no h2 hf).elim,λ_=>h,λh2=>(vj.no h2 hf).elim⟩
theorem vj.aUo{P:Program}{f:FuncId}{en:Entry}(h:O0 P f en)(hf:Nat.blt f yB=true)(hs:∀a o,en.run a o=none:=by exact λ_ _=>rfl):vj P f en:=
 ⟨λ_ _ _ _ _ _ _ _ _ _ hx=>(by rw[hs]at hx;cases hx),λh2=>(vj.no hf h2).elim,λ_=>h⟩
def Sound(P:Program)(Γ:oT):Prop:=∀f vs en,Γ f vs=some en->vj P f en
theorem yC.mono{E E':Env}(h:cK E E'):∀ {as:List aB} {vs:List Value},yC E as vs->yC E' as vs
 |[],[],_=>trivial
 |_::_,_::_,⟨h1,h2⟩=>⟨h1.mono h,yC.mono h h2⟩
theorem yC.iS{ρ:Ren}{E E':Env}(h:Az ρ E E'):∀ {as:List aB} {vs:List Value},yC E as vs->yC E' (as.map (aB.iS ρ)) vs
 |[],[],_=>trivial
 |_::_,_::_,⟨h1,h2⟩=>⟨HF h h1,yC.iS h h2⟩
theorem yC.append{E:Env}:∀ {as:List aB} {vs:List Value} {bs:List aB} {us:List Value},yC E as vs->yC E bs us->yC E (as++bs) (vs++us)
 |[],[],_,_,_,h=>h
 |_::_,_::_,_,_,⟨h1,h2⟩,h=>⟨h1,yC.append h2 h⟩
theorem aho{E:Env}:∀ {c:aB} {vs:List Value},VC E c vs->yC E c.list vs
 | .cons a b,vs,h=>by simp only[VC]at h;obtain⟨v,vs',cs,rfl,ha,ho,hb⟩:=h;exact⟨VS.of ha ho,aho hb⟩
 | .nil,vs,h=>by simp only[VC]at h;subst h;trivial
 | .undef,_,hv=>by simp only[VC]at hv
 | .gone,_,hv=>by simp only[VC]at hv
 | .dd,_,hv=>by simp only[VC]at hv
 | .re,_,hv=>by simp only[VC]at hv
 | .xC,_,hv=>by simp only[VC]at hv
 | .yl ..,_,hv | .rN ..,_,hv=>by simp only[VC]at hv
 | .Dj,_,hv=>by simp only[VC]at hv
 | .sb _,_,hv=>by simp only[VC]at hv
 | .d t x,_,hv=>by simp only[VC]at hv
 | .pr a b,_,hv=>by simp only[VC]at hv
 | .ptr ..,_,hv=>by simp only[VC]at hv
 | .dD ..,_,hv=>by simp only[VC]at hv
 | .bz ..,_,hv=>by simp only[VC]at hv
 | .fn ..,_,hv=>by simp only[VC]at hv
 | .vec ..,_,hv=>by simp only[VC]at hv
 | .bx ..,_,hv=>by simp only[VC]at hv
 | .ct ..,_,hv=>by simp only[VC]at hv
 | .mp ..,_,hv | .tx ..,_,hv=>by simp only[VC]at hv
theorem Inv.arv{C:Ctx}{g:Nat->mr}{β:Id->Option Pl}{s:AS}{a:Act}{w:World}(h:Inv C g β s a w):∀l:List Operand,yC (s.env w g β) (l.map s.ev) (l.map a.eval)
 |[]=>trivial
 |x::l=>⟨h.ev x,h.arv l⟩
theorem Ec{E E':Env}{s:AS}(hs:E.s=s.bV)(ho:iV E)(he:cK E E'):∀(ps:List (Option Ty)) (vs:List aB) (ys:List Value) (r:List aB×List Id),yC E vs ys->(s.conv ps vs).eval=some r->aQM E E' r.2->yC E' r.1 ys
 |[],[],ys,r,hv,h,_=>by
  simp only[AS.conv,ay]at h;subst h;cases ys with
  |nil=>trivial
  |cons _ _=>exact hv.elim
 |some t::ps,v::vs,y::ys,r,⟨hv,Vr⟩,h,hf=>by
  simp only[AS.conv]at h;obtain⟨x,h1,h2⟩:=aw.1 h;obtain⟨r',h3,h4⟩:=aw.1 h2;obtain rfl:=ay.1 h4;obtain⟨cs,hV,hO⟩:=hv.eP (CQ h1);refine⟨VS.of (cs:=cs) ?_ ?_,Ec hs ho he ps vs ys r' Vr h3 λid cX=>hf id (bB.2 (.inr cX))⟩
  ·simp only[V];exact xN hs ho he v t x cs hV h1 λid cX=>hf id (bB.2 (.inl cX))
  ·show fO t.agg cs y;rw[<-acV h1];exact hO
 |none::ps,v::vs,y::ys,r,⟨hv,Vr⟩,h,hf=>by simp only[AS.conv]at h;obtain⟨r',h3,h4⟩:=aw.1 h;obtain rfl:=ay.1 h4;exact⟨hv.mono he,Ec hs ho he ps vs ys r' Vr h3 hf⟩
 |[],_::_,_,_,_,h,_=>by simp only[AS.conv,av]at h
 |some _::_,[],_,_,_,h,_=>by simp only[AS.conv,av]at h
 |none::_,[],_,_,_,h,_=>by simp only[AS.conv,av]at h
end Go.Ab
namespace Go.Ab
theorem pB{id:Id}:∀ {ids:List Id} {k:Nat},idxOf id ids=some k->ids[k]? =some id
 |[],_,h=>by simp[idxOf]at h
 |x::xs,k,h=>by
  simp only[idxOf]at h;split at h
  ·rename_i e;simp only[az]at h;subst h e;rfl
  ·simp only[db]at h;obtain⟨j,hj,rfl⟩:=h;simpa using pB hj
theorem xw{id:Id}:∀ {ids:List Id} {k:Nat},ids.Nodup->ids[k]? =some id->idxOf id ids=some k
 |[],_,_,h=>by simp at h
 |x::xs,0,hn,h=>by simp only[fM,az]at h;simp[idxOf,h]
 |x::xs,k+1,hn,h=>by
  simp only[mu]at h;obtain⟨h1,h2⟩:=cU.1 hn;have gC:x≠id:=λe=>h1 (e▸cI h)
  simp[idxOf,gC,xw h2 h]
theorem DO(s0:AS)(all:List Id)(t:Nat):∀(ids:List Id) (es:List dE) (s:AS),(AS.jG s0 all t s ids es).cq=s.cq
 |[],_,_=>by simp[AS.jG]
 |_::_,[],_=>by simp[AS.jG]
 |id::ids,e::es,s=>by rw[AS.jG,DO s0 all t ids es,dj]
theorem acx(s:AS)(ids:List Id)(t:Nat)(es:List dE):(s.made ids t es).cq=s.cq:=by cases es <;> rfl
theorem H8(s0:AS)(all:List Id)(t:Nat):∀(ids:List Id) (es:List dE) (s:AS),ids.Nodup->es.length=ids.length->(∀id∈ids,s.bV id≠none)->
  (∀id,id ∉ ids->(AS.jG s0 all t s ids es).bV id=s.bV id)/\
  ∀(k:Nat) (id:Id) (e:dE),ids[k]? =some id->es[k]? =some e->(AS.jG s0 all t s ids es).bV id=some (s0.sS all t (s0.CT id) e)
 |[],es,s,_,_,_=>⟨λ_ _=>by simp[AS.jG],λk id e h=>by simp at h⟩
 |_::_,[],s,_,hl,_=>by simp at hl
 |i::ids,e::es,s,hn,hl,hp=>by
  obtain⟨h1,h2⟩:=cU.1 hn;have hp':∀id∈ids,(s.bj i (s0.sS all t (s0.CT i) e)).bV id≠none:=λid cX=>by rw[cW s i id _ (λe=>h1 (e▸cX))];exact hp id (aI _ cX)
  obtain⟨r1,r2⟩:=H8 s0 all t ids es (s.bj i (s0.sS all t (s0.CT i) e)) h2 (by simpa using hl) hp';rw[AS.jG];refine⟨λid cX=> ?_,λk id e' hk he=> ?_⟩
  ·simp only[cd,not_or]at cX;rw[r1 id cX.2,cW s i id _ cX.1]
  ·cases k with
   |zero=>
    simp only[fM,az]at hk he;subst hk he;rw[r1 i h1,eG s i _ (hp i (aL ..))]
   |succ k=>
    simp only[mu]at hk he;exact r2 k id e' hk he
theorem amF(s:AS)(ids:List Id)(t:Nat)(es:List dE)(hv:es=[]\/s.dY t=true):
  (∀id,(es=[]\/∀j,id≠ .new t j)->(s.made ids t es).bV id=s.bV id)/\(es≠ []->∀j,(s.made ids t es).bV (.new t j)=(es[j]?).map (s.sS ids t 0)):=by
 cases es with
 |nil=>exact⟨λ_ _=>rfl,λh=>absurd rfl h⟩
 |cons e es=>
  have hv:s.dY t=true:=by
   rcases hv with h | h
   ·cases h
   ·exact h
  refine⟨λid h=> ?_,λ_ j=> ?_⟩
  ·rcases h with h | h
   ·cases h
   ·exact ji _ h
  ·rw[AS.made,zj (kG hv).2,eg]
def og(ids:List Id):mr->mr
 | .free=> .free
 | .own .eh n=> .own .eh n
 | .own (.id i) n=>match idxOf i ids with | some k=> .own (.id (.bm k)) n | none=> .own .eh n
def Cy(β:Id->Option Pl)(ids:List Id):Id->Option Pl
 | .bm k=>(ids[k]?).bind β
 | .new _ _=>none
def oI(g:Nat->mr)(size:Nat)(ids:List Id)(t:Nat)(b:Nat):mr->mr
 | .free=> .free
 | .own .eh n=>if b < size then g b else .own .eh n
 | .own (.id i) n=> .own (.id (aNu ids t i)) n
def xF(β β':Id->Option Pl)(ids:List Id)(t:Nat)(some?:Bool)(id:Id):Option Pl:=
 match idxOf id ids with
 |some k=>β' (.bm k)
 |none=>match id with
  | .new i j=>if i=t/\some?=true then β' (.new 0 j) else β (.new i j)
  |id=>β id
theorem aFB{ids:List Id}{l:mr}{off:Nat}(h:vh (λ_=>l) 0 off):vh (λ_=>og ids l) 0 off:=by
 cases l with
 |free=>trivial
 |own o k=>cases o with
  |eh=>exact h
  |id i=>simp only[og];cases idxOf i ids <;> exact h
section
variable {P:Program} {C:Ctx} {g:Nat->mr} {β:Id->Option Pl} {s:AS} {a:Act} {w:World} {o:Oper}
theorem aFh(ids:List Id):
  Az (s.xI ids) (s.env w g β) ((fI (ids.map (s.mY ids))).env w (λb=>og ids (g b)) (Cy β ids)):=by
 refine⟨⟨λb off v ⟨h1,h2⟩=>⟨h1,?_⟩,λb ob h1 h2=>⟨by show og ids (g b)= .free;have h1:g b= .free:=h1;rw[h1];rfl,h2⟩⟩,λid ver r hr _=> ?_⟩
 ·exact aFB (l:=g b) h2
 ·unfold AS.xI at hr;split at hr
  ·rename_i k v fr c hk ho;split at hr
   ·rename_i aRP;simp only[az]at hr;subst hr aRP;have cX:=pB hk;have cO:=ed ho;refine⟨⟨?_,λ_ _ _ _=>aJ _⟩,λ_=>⟨⟨fr,c,cO⟩,?_⟩⟩
    ·show(ids.map (s.mY ids))[k]? ≠none
     simp[cX]
    ·show(ids[k]?).bind β=β id;rw[cX];rfl
   ·cases hr
  ·cases hr
theorem avy(ids:List Id)(hn:ids.Nodup)(h:iV (s.env w g β)):iV ((fI (ids.map (s.mY ids))).env w (λb=>og ids (g b)) (Cy β ids)):=by
 intro id ver fr c cX;have cX:(fI (ids.map (s.mY ids))).bV id=some (.obj ver fr c):=cX;cases id with
 |new i j=>simp[fI,AS.bV]at cX
 |bm k=>
  simp only[fI,AS.bV,eg,db]at cX;obtain⟨id1,hk,he⟩:=cX;unfold AS.mY at he;split at he
  ·rename_i v fr1 c1 cO;simp only[dE.obj.injEq]at he;obtain⟨rfl,rfl,rfl⟩:=he;refine xl (aFh ids) (h id1 v fr1 c1 cO) (by show(ids[k]?).bind β=β id1;rw[hk];rfl) λpl hp=>⟨rfl,λn hg=> ?_,λhg=> ?_⟩
   ·have hg:g pl.b= .own (.id id1) n:=hg;show og ids (g pl.b)=_;rw[hg];simp[og,xw hn hk]
   ·have hg:g pl.b= .free:=hg;show og ids (g pl.b)=_;rw[hg];rfl
  ·cases he
theorem Yy(h:Inv C g β s a w){ids:List Id}(hn:ids.Nodup)(hp:∀id∈ids,∃r,s.obj id=some r)(XM:∀id∈ids,s.Tt id=true){G:fG}{t:Nat}(hl:G.bZ.length=ids.length)(hv:G.news=[]\/s.dY t=true){v:Value}{w':World}
  (ha:tX ((fI (ids.map (s.mY ids))).env w (λb=>og ids (g b)) (Cy β ids)) G v w'):
  ∃g' β',Inv C g' β' (AS.jG s ids t (s.made ids t G.news) ids G.bZ) a w'/\VS ((AS.jG s ids t (s.made ids t G.news) ids G.bZ).env w' g' β') (G.val.iS (s.vV ids t)) v:=by
 obtain⟨g1,β1,A5,aNp,arT,hle⟩:=ha;have arT:Trans w w' (λb=>og ids (g b)) g1:=arT;obtain⟨m1,m2⟩:=amF s ids t G.news hv;have aTU:∀id∈ids,s.bV id≠none:=λid cX=>by obtain⟨⟨v,fr,c⟩,hr⟩:=hp id cX;rw[ed hr];simp
 have Hv:∀id,s.bV id≠none->G.news=[]\/∀j,id≠ .new t j:=λid cX=>by
  rcases hv with hv | hv
  ·exact .inl hv
  ·exact .inr λj e=>cX (by rw[e];exact(kG hv).1 j)
 obtain⟨n1,n2⟩:=H8 s ids t ids G.bZ (s.made ids t G.news) hn hl (λid cX=>by rw[m1 id (Hv id (aTU id cX))];exact aTU id cX);have aRQ:∀j,G.news≠ []->Id.new t j ∉ ids:=λj gC cX=>by
  rcases hv with hv | hv
  ·exact gC hv
  ·exact aTU _ cX ((kG hv).1 j)
 generalize ZV:AS.jG s ids t (s.made ids t G.news) ids G.bZ=s2 at*;have hgO:∀(k:Nat) (id:Id),ids[k]? =some id->∃e,G.bZ[k]? =some e/\s2.bV id=some (s.sS ids t (s.CT id) e):=λk id hk=>by
  have gJ:k < G.bZ.length:=by rw[hl];exact(dF.1 hk).1
  exact⟨_,bT gJ,n2 k id _ hk (bT gJ)⟩
 have hgN:G.news≠ []->∀j,s2.bV (.new t j)=(G.news[j]?).map (s.sS ids t 0):=λgC j=>by rw[n1 _ (aRQ j gC),m2 gC j]
 have hgS:∀id,id ∉ ids->(G.news=[]\/∀j,id≠ .new t j)->s2.bV id=s.bV id:=λid h1 h2=>by rw[n1 id h1,m1 id h2]
 have hverOf:∀id∈ids,∃fr c,s.bV id=some (.obj (s.CT id) fr c):=λid cX=>by obtain⟨⟨v,fr,c⟩,hr⟩:=hp id cX;refine⟨fr,c,?_⟩;rw[ed hr];simp[AS.CT,hr]
 have aTw:∀b n,b < w.heap.size->g1 b= .own .eh n->(g b= .own .eh n\/∃i,g b= .own (.id i) n/\idxOf i ids=none):=λb n hb hg=>by
  have h1:=arT.SE b hb;cases WY:g b with
  |free=>simp only[WY,og]at h1;rw[h1.1]at hg;cases hg
  |own o k=>cases o with
   |eh=>simp only[WY,og]at h1;rw[h1.1]at hg;left;exact hg
   |id i=>
    cases hi:idxOf i ids with
    |none=>
     simp only[WY,og,hi]at h1;rw[h1.1]at hg;simp only[mr.own.injEq,mM]at hg;subst hg;exact .inr ⟨i,rfl,hi⟩
    |some k'=>
     simp only[WY,og,hi]at h1;rcases h1.1 with h2 | ⟨_,_,h2,_⟩ <;> (rw[h2]at hg;cases hg)
 let g2:Nat->mr:=λb=>oI g w.heap.size ids t b (g1 b)
 let β2:Id->Option Pl:=xF β β1 ids t (!G.news.isEmpty)
 have hβO:∀k id,ids[k]? =some id->β2 id=β1 (.bm k):=λk id hk=>by show xF _ _ _ _ _ id=_;simp[xF,xw hn hk]
 have hβN:G.news≠ []->∀j,β2 (.new t j)=β1 (.new 0 j):=λgC j=>by
  show xF _ _ _ _ _ _=_;have:idxOf (.new t j) ids=none:=by
   cases hi:idxOf (.new t j) ids with
   |none=>rfl
   |some k=>exact absurd (cI (pB hi)) (aRQ j gC)
  have hne':G.news.isEmpty=false:=by cases hh:G.news with
   |nil=>exact absurd hh gC
   |cons _ _=>rfl
  simp[xF,this,hne']
 have hβS:∀id,id ∉ ids->(G.news=[]\/∀j,id≠ .new t j)->β2 id=β id:=λid h1 h2=>by
  show xF _ _ _ _ _ _=_;have:idxOf id ids=none:=by
   cases hi:idxOf id ids with
   |none=>rfl
   |some k=>exact absurd (cI (pB hi)) h1
  cases id with
  |bm k=>simp[xF,this]
  |new i j=>
   have:¬(i=t/\(!G.news.isEmpty)=true):=by
    rintro⟨rfl,h3⟩;rcases h2 with h2 | h2
    ·rw[h2]at h3;cases h3
    ·exact h2 j rfl
   simp only[xF, *,bq]
 have aRL:Trans w w' g g2:=by
  refine⟨arT.os,arT.tape,arT.output,arT.size,λb hb=> ?_⟩;have h1:=arT.SE b hb;show match g b with | .free=>oI g w.heap.size ids t b (g1 b)= .free/\_ | .own .eh k=>oI g w.heap.size ids t b (g1 b)= .own .eh k/\_ | .own (.id _) k=>(oI g w.heap.size ids t b (g1 b)= .free\/∃i k',oI g w.heap.size ids t b (g1 b)= .own (.id i) k'/\k<=k')/\_
  cases WY:g b with
  |free=>simp only[WY,og]at h1 ⊢;rw[h1.1];exact⟨rfl,h1.2⟩
  |own o k=>cases o with
   |eh=>simp only[WY,og]at h1 ⊢;rw[h1.1];simp only[oI,hb,bG,WY];exact⟨trivial,h1.2⟩
   |id i=>
    cases hi:idxOf i ids with
    |none=>
     simp only[WY,og,hi]at h1 ⊢;rw[h1.1];simp only[oI,hb,bG,WY];exact⟨.inr ⟨i,k,rfl,ax _⟩,λoff v _ hv=>by simpa only[World.cell?,h1.2]using hv⟩
    |some k'=>
     simp only[WY,og,hi]at h1 ⊢;refine⟨?_,h1.2⟩;rcases h1.1 with h2 | ⟨i',k'',h2,h3⟩
     ·rw[h2];exact .inl rfl
     ·rw[h2];exact .inr ⟨_,k'',rfl,h3⟩
 have FQ:uc (G.st.env w' g1 β1) (s2.env w' g2 β2):=by
  refine⟨λb off v ⟨h1,h2⟩=> ?_,λb ob h1 h2=>⟨by show oI g w.heap.size ids t b (g1 b)= .free;have h1:g1 b= .free:=h1;rw[h1];rfl,h2⟩⟩;refine⟨h1,?_⟩;have h2:vh g1 b off:=h2;show vh g2 b off;unfold vh at h2 ⊢;show match oI g w.heap.size ids t b (g1 b) with | .free=>True | .own _ k=>off < k
  cases WY:g1 b with
  |free=>simp[oI]
  |own o k=>
   rw[WY]at h2;cases o with
   |eh=>
    simp only[oI];by_cases hb:b < w.heap.size
    ·rw[if_pos hb];rcases aTw b k hb WY with h3 | ⟨i,h3,_⟩ <;> (rw[h3];exact h2)
    ·rw[if_neg hb];exact h2
   |id i=>exact h2
 have hentOut:∀(base:Nat) (e:dE) (ver:Nat) (fr:Bool) (c:aB),s.sS ids t base e= .obj ver fr c->∃v0 c0,e= .obj v0 fr c0/\ver=base+v0/\c=c0.iS (s.vV ids t):=λbase e ver fr c he=>by
  cases e with
  |dead=>cases he
  |obj v0 fr0 c0=>
   simp only[AS.sS,dE.obj.injEq]at he;obtain⟨rfl,rfl,rfl⟩:=he;exact⟨v0,c0,rfl,rfl,rfl⟩
 have aiO:Az (s.vV ids t) (G.st.env w' g1 β1) (s2.env w' g2 β2):=by
  refine⟨FQ,λid ver r hr hb=> ?_⟩;cases id with
  |bm k=>
   obtain⟨Sj,XK⟩:=hb;have Sj:G.bZ[k]? ≠none:=Sj
   have hk:k < ids.length:=by
    rcases ql k ids.length with h' | h'
    ·exact h'
    ·exact absurd (dG ak) Sj
   have cX:ids[k]? =some ids[k]:=bT hk
   simp only[AS.vV,cX,az]at hr;subst hr;obtain⟨e,Qj,adE⟩:=hgO k _ cX;refine⟨⟨by show s2.bV _≠none;rw[adE];simp,λv fr c hh=> ?_⟩,λ⟨fr,c,hh⟩=>⟨?_,hβO k _ cX⟩⟩
   ·have hh:s2.bV ids[k]=some (.obj v fr c):=hh;rw[adE,az]at hh;obtain⟨v0,c0,rfl,rfl,_⟩:=hentOut _ _ _ _ _ hh;have:=XK v0 fr c0 Qj;omega
   ·have hh:s2.bV ids[k]=some (.obj (s.CT ids[k]+ver) fr c):=hh;rw[adE,az]at hh;obtain⟨v0,c0,rfl,aQs,_⟩:=hentOut _ _ _ _ _ hh;obtain rfl:ver=v0:=ak;exact⟨fr,c0,Qj⟩
  |new i j=>
   simp only[AS.vV,az]at hr;subst hr;obtain⟨Sj,XK⟩:=hb;have Sj:([G.news].getD i [])[j]? ≠none:=Sj
   have XK:∀v fr c,([G.news].getD i [])[j]? =some (.obj v fr c)->ver<=v:=XK
   cases i with
   |succ i=>simp at Sj
   |zero=>
    simp only[jw]at Sj XK;have gC:G.news≠ []:=λe=>by rw[e]at Sj;simp at Sj
    obtain⟨e,he⟩:=Option.ne_none_iff_exists'.1 Sj;have adE:=hgN gC j;rw[he,dV]at adE;refine⟨⟨by show s2.bV (.new t j)≠none;rw[adE];simp,λv fr c hh=> ?_⟩,λ⟨fr,c,hh⟩=>⟨?_,hβN gC j⟩⟩
    ·have hh:s2.bV (.new t j)=some (.obj v fr c):=hh;rw[adE,az]at hh;obtain⟨v0,c0,rfl,rfl,_⟩:=hentOut _ _ _ _ _ hh;have:=XK v0 fr c0 he;simp only;omega
    ·have hh:s2.bV (.new t j)=some (.obj ver fr c):=hh;rw[adE,az]at hh;obtain⟨v0,c0,rfl,aQs,_⟩:=hentOut _ _ _ _ _ hh;obtain rfl:ver=v0:=ak;exact⟨fr,c0,he⟩
 have aRz:cK (s.env w g β) (s2.env w' g2 β2):=by
  refine⟨Trans.mem aRL,λid ver hb=> ?_,λid ver hb hc=> ?_⟩
  ·obtain⟨Sj,XK⟩:=hb;have Sj:s.bV id≠none:=Sj;have XK:∀v fr c,s.bV id=some (.obj v fr c)->ver<=v:=XK;by_cases cX:id∈ids
   ·obtain⟨k,hk⟩:=kI.1 cX;obtain⟨e,Qj,adE⟩:=hgO k id hk;obtain⟨fr1,c1,Sk⟩:=hverOf id cX;refine⟨by show s2.bV _≠none;rw[adE];simp,λv fr c hh=> ?_⟩;have hh:s2.bV id=some (.obj v fr c):=hh;rw[adE,az]at hh;obtain⟨v0,c0,rfl,rfl,_⟩:=hentOut _ _ _ _ _ hh;have:=XK _ _ _ Sk;omega
   ·have:=hgS id cX (Hv id Sj);exact⟨by show s2.bV _≠none;rw[this];exact Sj,λv fr c hh=>XK v fr c (this.symm.trans hh)⟩
  ·obtain⟨Sj,XK⟩:=hb;have Sj:s.bV id≠none:=Sj;have XK:∀v fr c,s.bV id=some (.obj v fr c)->ver<=v:=XK;obtain⟨fr,c,hh⟩:=hc;have hh:s2.bV id=some (.obj ver fr c):=hh;by_cases cX:id∈ids
   ·obtain⟨k,hk⟩:=kI.1 cX;obtain⟨e,Qj,adE⟩:=hgO k id hk;obtain⟨fr1,c1,Sk⟩:=hverOf id cX;rw[adE,az]at hh;obtain⟨v0,c0,rfl,aQs,_⟩:=hentOut _ _ _ _ _ hh;have aRP:=XK _ _ _ Sk;obtain rfl:v0=0:=ak;have hver':ver=s.CT id:=ak;refine⟨⟨fr1,c1,by rw[hver'];exact Sk⟩,?_⟩;show β2 id=β id;rw[hβO k id hk];have am2:s.mY ids id= .obj 0 fr1 (c1.iS (s.xI ids)):=by simp[AS.mY,Sk]
    have h0:((fI (ids.map (s.mY ids))).env w (λb=>og ids (g b)) (Cy β ids)).GS (.bm k) 0:=by
     refine⟨?_,λ_ _ _ _=>aJ _⟩;show(ids.map (s.mY ids))[k]? ≠none
     simp[hk]
    have:=(hle.cur (.bm k) 0 h0 ⟨fr,c0,Qj⟩).2;have this:β1 (.bm k)=(ids[k]?).bind β:=this;rw[this,hk];rfl
   ·have:=hgS id cX (Hv id Sj);exact⟨⟨fr,c,this.symm.trans hh⟩,hβS id cX (Hv id Sj)⟩
 have aRF:iV (s2.env w' g2 β2):=by
  intro id ver fr c hh;have hh:s2.bV id=some (.obj ver fr c):=hh;by_cases cX:id∈ids
  ·obtain⟨k,hk⟩:=kI.1 cX;obtain⟨e,Qj,adE⟩:=hgO k id hk;rw[adE,az]at hh;obtain⟨v0,c0,rfl,_,rfl⟩:=hentOut _ _ _ _ _ hh;refine xl aiO (aNp (.bm k) v0 fr c0 Qj) (hβO k id hk) λpl _=>⟨rfl,λn hg=> ?_,λhg=> ?_⟩
   ·have hg:g1 pl.b= .own (.id (.bm k)) n:=hg;show oI g w.heap.size ids t pl.b (g1 pl.b)=_;rw[hg];simp[oI,aNu,aG,hk]
   ·have hg:g1 pl.b= .free:=hg;show oI g w.heap.size ids t pl.b (g1 pl.b)=_;rw[hg];rfl
  ·by_cases gC:G.news≠ []/\∃j,id= .new t j
   ·obtain⟨gC,j,rfl⟩:=gC;rw[hgN gC j,db]at hh;obtain⟨e,he,hh⟩:=hh;obtain⟨v0,c0,rfl,_,rfl⟩:=hentOut _ _ _ _ _ hh;refine xl aiO (aNp (.new 0 j) v0 fr c0 (by show([G.news].getD 0 [])[j]? =_;simpa using he)) (hβN gC j) λpl _=>⟨rfl,λn hg=> ?_,λhg=> ?_⟩
    ·have hg:g1 pl.b= .own (.id (.new 0 j)) n:=hg;show oI g w.heap.size ids t pl.b (g1 pl.b)=_;rw[hg];rfl
    ·have hg:g1 pl.b= .free:=hg;show oI g w.heap.size ids t pl.b (g1 pl.b)=_;rw[hg];rfl
   ·have aVx:G.news=[]\/∀j,id≠ .new t j:=by
     by_cases hh:G.news=[]
     ·exact .inl hh
     ·exact .inr λj e=>gC ⟨hh,j,e⟩
    rw[hgS id cX aVx]at hh;have same:∀id,id ∉ ids->∀ver fr c,s.bV id=some (.obj ver fr c)->∀pl,β id=some pl->w'.heap[pl.b]? =w.heap[pl.b]? /\oI g w.heap.size ids t pl.b (g1 pl.b)=g pl.b:=by
     intro id cX ver fr c hh pl OY;obtain⟨hb,aRy⟩:=(h.bJ id ver fr c hh).label (pl:=pl) OY;have hb:pl.b < w.heap.size:=hb;have h1:=arT.SE pl.b hb;have aTB:idxOf id ids=none:=by
      cases hi:idxOf id ids with
      |none=>rfl
      |some k=>exact absurd (cI (pB hi)) cX
     rcases aRy with⟨k,hk⟩ | ⟨_,hk⟩
     ·have hk:g pl.b= .own (.id id) k:=hk;simp only[hk,og,aTB]at h1;rw[h1.1];simp only[oI,hb,bG];exact⟨h1.2,trivial⟩
     ·have hk:g pl.b= .free:=hk;simp only[hk,og]at h1;rw[h1.1,hk];exact⟨h1.2,rfl⟩
    have ho:=h.bJ id ver fr c hh;refine ho.mono aRz (hβS id cX aVx) (λpl OY=>same id cX ver fr c hh pl OY) λq2 vq k2 v2 l2 Ta _=> ?_
    have Ta:s.bV q2=some (.obj vq true (.mp k2 v2 l2)):=Ta;have aJp:q2 ∉ ids:=λhm=>by
     have:=XM q2 hm;have e:s.obj q2=some (vq,true,.mp k2 v2 l2):=by simp[AS.obj,Ta]
     unfold AS.Tt at this;rw[e]at this;cases this
    refine⟨⟨k2,v2,l2,?_⟩,λpl OY=>same q2 aJp vq true _ Ta pl OY⟩;show s2.bV q2=_;rw[hgS q2 aJp (Hv q2 (by rw[Ta];simp))];exact Ta
 have avv:s2.cq=s.cq:=by rw[<-ZV,DO,acx]
 exact⟨g2,β2,h.step avv aRL aRz aRF,HF aiO A5⟩
end
end Go.Ab
namespace Go.Ab
theorem tJ(s:AS):∀(n:Nat) (todo acc:List Id),acc.Nodup->(s.reach n todo acc).Nodup
 | 0,_,acc,h=>by simpa[AS.reach]using h
 |_+1,[],acc,h=>by simpa[AS.reach]using h
 |n+1,id::todo,acc,h=>by
  rw[AS.reach];split
  ·exact tJ s n todo acc h
  ·rename_i hc;refine tJ s n _ _ ?_
   rw[List.nodup_append];refine⟨h,by simp,λx hx y hy e=> ?_⟩;simp only[bh]at hy;subst hy e;exact hc (by simpa using hx)
theorem Cs(s:AS)(vs:List aB):(s.af7 vs).Nodup:=tJ s _ _ _ (by simp)
section
variable {P:Program} {C:Ctx} {g:Nat->mr} {β:Id->Option Pl} {s:AS} {a:Act} {w:World} {o:Oper}
theorem alk(h:Inv C g β s a w){ids:List Id}(hn:ids.Nodup)(C8:s.avH ids=true){G:fG}{s':AS}(he:(s.back ids o.dst G).eval=some s'){v:Value}{w':World}
  (ha:tX ((fI (ids.map (s.mY ids))).env w (λb=>og ids (g b)) (Cy β ids)) G v w'):iw C s' (a.put o.dst v) w':=by
 have hp:∀id∈ids,∃r,s.obj id=some r:=λid cX=>by have:=cV.1 C8 id cX;rw[au]at this;exact bN.1 this.1
 have XM:∀id∈ids,s.Tt id=true:=λid cX=>by have:=cV.1 C8 id cX;rw[au]at this;exact this.2
 unfold AS.back at he;cases aRl:o.dst with
 |some t=>
  rw[aRl]at he;obtain⟨hg,he⟩:=aC.1 he;obtain rfl:=ay.1 he;simp only[au,dw,fW]at hg;obtain⟨hl,hg⟩:=hg;have aFc:G.news=[]\/s.dY t=true:=by
   rcases hg with hg | hg
   ·exact .inl (by simpa using hg)
   ·exact .inr hg
  obtain⟨g2,β2,h1,h2⟩:=Yy h hn hp XM hl aFc ha;exact⟨g2,β2,h1.put (some t) h2⟩
 |none=>
  rw[aRl]at he;obtain⟨hg,he⟩:=aC.1 he;obtain rfl:=ay.1 he;simp only[au,dw]at hg;obtain⟨hl,hg⟩:=hg;have Hv:G.news=[]:=by simpa using hg
  obtain⟨g2,β2,h1,_⟩:=Yy (t:=0) h hn hp XM hl (.inl Hv) ha;rw[Hv]at h1;exact⟨g2,β2,h1⟩
theorem S3(h:Inv C g β s a w){en:Entry}{ids:List Id}(hn:ids.Nodup){vs:List aB}{ys:List Value}(hv:yC (s.env w g β) vs ys)
  {s':AS} (he:(s.enter en o.dst ids vs).eval=some s'):∃x,en.run (vs.map (aB.iS (s.xI ids))) (ids.map (s.mY ids))=some x/\
   yC ((fI (ids.map (s.mY ids))).env w (λb=>og ids (g b)) (Cy β ids)) (vs.map (aB.iS (s.xI ids))) ys/\
   iV ((fI (ids.map (s.mY ids))).env w (λb=>og ids (g b)) (Cy β ids))/\
   ∀v w',tX ((fI (ids.map (s.mY ids))).env w (λb=>og ids (g b)) (Cy β ids)) (en.out (vs.map (aB.iS (s.xI ids))) (ids.map (s.mY ids)) x) v w'->iw C s' (a.put o.dst v) w':=by
 unfold AS.enter at he;obtain⟨C8,he⟩:=aC.1 he;obtain⟨x,hx,he⟩:=xu.1 he;obtain⟨x0,aO7,he⟩:=aw.1 he;rw[en.awk _ _ aO7]at he;exact⟨x,hx,yC.iS (aFh ids) hv,avy ids hn h.bJ,λv w' ha=>alk h hn C8 he ha⟩
theorem ars(h:Inv C g β s a w){f:FuncId}{en:Entry}(hd:qZ P f en){ids:List Id}(hn:ids.Nodup){vs:List aB}{ys:List Value}(hv:yC (s.env w g β) vs ys)
  (hr:(execOp a.eval o).run P w=(callFunc f ys.toArray).run P w) {s':AS} (he:(s.enter en o.dst ids vs).eval=some s'):fH P o a w (iw C s'):=by
 obtain⟨x,hx,h1,h2,key⟩:=S3 h hn hv he;rcases hd _ _ _ _ _ _ _ h1 h2 hx with⟨arJ,hc⟩ | ⟨v,w',aSK,ha⟩
 ·exact .inr (.inr (.inl ⟨f,ys.toArray,w,hr.trans arJ,hc.mono λe w' ⟨v,he,ha⟩=>⟨v,he,key v w' ha⟩⟩))
 ·exact .inl ⟨v,w',hr.trans aSK,key v w' ha⟩
theorem axs(h:Inv C g β s a w){c:Call}{F:Operand}{f:FuncId}{caps:aB}{en:Entry}(ho:o.op= .call c)(hc:c.callee= .value F)(hF:s.ev F= .fn f caps)(hd:qZ P f en){s':AS}
  (he:(s.call en o.dst (c.args.toList.map s.ev++caps.list)).eval=some s'):fH P o a w (iw C s'):=by
 obtain⟨cal,args,tys⟩:=c;simp only at hc he;subst hc;obtain⟨vs,hy,aQt⟩:=ZI (hF▸h.ev F);have LV:=(h.arv args.toList).append (aho aQt);have hr:(execOp a.eval o).run P w=(callFunc f (args.toList.map a.eval++vs).toArray).run P w:=by
  have e1:execOp a.eval o=(do let d <-resolve a.eval {callee:= .value F,args,argTypes:=tys} o.type;invoke d.target d.args):=by simp only[execOp,ho]
  rw[e1];simp only[resolve,hy,Deferred.ofValue,Sem.run_bind,Sem.run_pure,Result.andThen_ok,invoke];congr 2;simp
 unfold AS.call at he;obtain⟨r,h1,h2⟩:=aw.1 he;obtain⟨g',i1,e1,_,f1⟩:=fA r.2 h;exact ars i1 hd (Cs _ _) (Ec rfl h.bJ e1 _ _ _ r LV h1 f1) hr h2
theorem afI{X R:Type}{S:X->Prop}{k:X->Option R}{r:R}(h:Zx S k=some r):(∃x,S x)/\∀x,S x->k x=some r:=by
 unfold Zx at h;split at h
 ·rename_i hx;obtain rfl:=bk h;exact hx.choose_spec
 ·cases h
theorem UU(h:Inv C g β s a w){f:FuncId}{en:Entry}(hd:O0 P f en){vs:List aB}{ys:List Value}(LV:yC (s.env w g β) vs ys){R:Type}{k:AS->Option R}{r:R}
  (he:s.alN en o.dst vs k=some r):(callFunc f ys.toArray).run P w= .ok (.enter f ys.toArray) w/\Calls P f ys.toArray w λe w'=>∃v,e= .returned v/\∃s',iw C s' (a.put o.dst v) w'/\k s'=some r:=by
 unfold AS.alN at he;obtain⟨r2,h0,he⟩:=iq.1 he;obtain⟨r3,h1,h3⟩:=aw.1 h0;obtain⟨C8,h3⟩:=aC.1 h3;obtain rfl:=ay.1 h3;obtain⟨g',i1,e1,_,f1⟩:=fA r3.2 h;have hn:=Cs (s.bw r3.2) r3.1;have hv:=Ec rfl h.bJ e1 _ _ _ r3 LV h1 f1;unfold AS.aEp at he;obtain⟨hx,hk⟩:=afI he;obtain⟨c1,c2⟩:=hd _ _ _ _ _ _ (yC.iS (aFh _) hv) (avy _ hn i1.bJ) hx;refine⟨c1,c2.mono λe w' ⟨v,x,am1,hs,ha⟩=>⟨v,am1,?_⟩⟩;obtain⟨s',h4,h5⟩:=iq.1 (hk x hs);obtain⟨x0,aO7,h4⟩:=aw.1 h4;rw[en.awk _ _ aO7]at h4;exact⟨s',alk i1 hn C8 h4 ha,h5⟩
theorem aqT(h:Inv C g β s a w){c:Call}{F:Operand}{f:FuncId}{caps:aB}{en:Entry}(ho:o.op= .call c)(hc:c.callee= .value F)(hF:s.ev F= .fn f caps)(hd:O0 P f en){R:Type}{k:AS->Option R}{r:R}
  (he:s.alN en o.dst (c.args.toList.map s.ev++caps.list) k=some r):fH P o a w λa' w'=>∃s',iw C s' a' w'/\k s'=some r:=by
 obtain⟨cal,args,tys⟩:=c;simp only at hc he;subst hc;obtain⟨vs,hy,aQt⟩:=ZI (hF▸h.ev F);obtain⟨c1,c2⟩:=UU h hd ((h.arv args.toList).append (aho aQt)) he;refine .inr (.inr (.inl ⟨f,(args.toList.map a.eval++vs).toArray,w,Eq.trans ?_ c1,c2⟩));have e1:execOp a.eval o=(do let d <-resolve a.eval {callee:= .value F,args,argTypes:=tys} o.type;invoke d.target d.args):=by simp only[execOp,ho]
 rw[e1];simp only[resolve,hy,Deferred.ofValue,Sem.run_bind,Sem.run_pure,Result.andThen_ok,invoke];congr 2;simp
theorem E3.aXd{E:Env}{f:aB}{tmps:Array Value}(h:E3 E f tmps):yC E f.list tmps.toList:=by
 obtain⟨h1,h2⟩:=h;have gen:∀(l:List aB) (ys:List Value),l.length=ys.length->(∀i,VS E (l.getD i .undef) (ys.getD i undef))->yC E l ys:=by
  intro l
  induction l with
  |nil=>intro ys hl _;cases ys with
   |nil=>trivial
   |cons _ _=>simp at hl
  |cons x l ih=>intro ys hl hi;cases ys with
   |nil=>simp at hl
   |cons y ys=>exact⟨by simpa using hi 0,ih ys (by simpa using hl) λi=>by simpa using hi (i+1)⟩
 exact gen _ _ (by simpa using h1) λi=>by simpa[cH,aG]using h2 i
theorem auD(h:Inv C g β s a w){c:Call}{F:Operand}{id:Id}{ver:Nat}{rc:vy}{f:aB}{en:Entry}(ho:o.op= .call c)(hc:c.callee= .value F)
  (hF:s.yielded (s.ev F) c.args.size=some (id,ver,rc,f)) (aSJ:rc=ri P rc.y) (hd:vj P rc.y en) {s':AS}
  (he:(s.call en o.dst (.yl id ver::(c.args.toList.map s.ev++f.list))).eval=some s'):fH P o a w (iw C s'):=by
 obtain⟨cal,args,tys⟩:=c;simp only at hc he hF;subst hc;unfold AS.yielded at hF;split at hF;rotate_left
 ·cases hF
 rename_i id' ver' am1;split at hF;rotate_left
 ·cases hF
 rename_i v c0 f0 mf;split at hF;rotate_left
 ·cases hF
 rename_i aEV;simp only[az,cE]at hF;obtain⟨rfl,rfl,rfl,rfl⟩:=hF;simp only[au,dw]at aEV;obtain⟨⟨rfl,tT⟩,hy⟩:=aEV;have cO:=ed mf;have hv:=h.ev F;rw[am1]at hv;obtain⟨cs,hV,hO⟩:=hv;simp only[V]at hV;obtain⟨l,rfl,hb,fx⟩:=hV;have aRS:a.eval F= .func (.yield l) #[] #[]:=by simpa[fO,aB.agg]using hO.symm
 obtain⟨pl,hp,rfl⟩:=fx ⟨false,_,cO⟩;obtain⟨pl',r,hp',hh,hg,⟨q1,q2,q3⟩,avv,mB⟩:=h.bJ id' v false _ cO;have hp':β id'=some pl':=hp';have hp:β id'=some pl:=hp;rw[hp']at hp;obtain rfl:pl'=pl:=by simpa using hp
 have hh:w.heap[pl'.b]? =some (.loop r):=hh
 have LV:yC (s.env w g β) (.yl id' v::(args.toList.map s.ev++f0.list)) (.func (.yield pl'.b) #[] #[]::(args.toList.map a.eval++r.tmps.toList)):=
  ⟨by rw[<-aRS,<-am1];exact h.ev F,(h.arv args.toList).append avv.aXd⟩
 have hr:(execOp a.eval o).run P w= .ok (.round pl'.b r.fn ((c0.ps.zip (args.toList.map a.eval).toArray).foldl (λtmps (t,a)=>tmps.setIfInBounds t a) r.tmps.toList.toArray) c0.as c0.b) w:=by
  have e1:execOp a.eval o=(do let d <-resolve a.eval {callee:= .value F,args,argTypes:=tys} o.type;invoke d.target d.args):=by simp only[execOp,ho]
  have e2:=run_yield (P:=P) (args:=args.map a.eval) hh (by simpa[q1]using tT);rw[q1,q2,q3]at e2;rw[e1];simp only[resolve,aRS,Deferred.ofValue,Sem.run_bind,Sem.run_pure,Result.andThen_ok,invoke];have e3:(args.toList.map a.eval).toArray=args.map a.eval:=by apply gw;simp
  rw[e3];simpa using e2
 unfold AS.call at he;obtain⟨r2,h1,h2⟩:=aw.1 he;obtain⟨g',i1,e1,_,f1⟩:=fA r2.2 h;obtain⟨x,hx,k1,k2,key⟩:=S3 i1 (Cs _ _) (Ec rfl h.bJ e1 _ _ _ r2 LV h1 f1) h2;refine .inr (.inr (.inr ⟨pl'.b,r.fn,_,c0.as,c0.b,w,hr,λrd n=> ?_⟩));have:=hd.2.1 hy _ _ _ _ _ _ x k1 k2 hx pl'.b (args.toList.map a.eval) r.tmps.toList r.fn rd n rfl (by rw[<-aSJ];simpa using tT);rw[<-aSJ]at this;exact this.mono λe w' ⟨v,he,ha⟩=>⟨v,he,key v w' ha⟩
end
end Go.Ab
namespace Go.Ab
section
variable {P:Program} {C:Ctx} {g:Nat->mr} {β:Id->Option Pl} {s:AS} {a:Act} {w:World} {o:Oper}
theorem jC{b:Builtin}{args:Array Operand}{ts:Array TypeId}{F:TypeId->Array Value->Sem Value}{x:Value}{w':World}{s':AS}(ho:o.op= .call {callee:= .builtin b,args,argTypes:=ts})
  (hb:∀ty cs xs,builtin b ts ty cs xs=(do pure (.value (<-F ty xs)))) (hf:∀ty,(F ty (args.map a.eval)).run P w= .ok x w') (h2:∃g' β',Inv C g' β' s' (a.put o.dst x) w'):fH P o a w (iw C s'):=by
 refine .inl ⟨x,w',?_,h2⟩;simp only[execOp,ho,resolve,Sem.run_bind,Sem.run_pure,Result.andThen_ok,invoke];rw[hb,Sem.run_bind,hf];rfl
theorem are(h:Inv C g β s a w){src dst:TypeId}{x:Operand}(ho:o.op= .convert src dst x){id:Id}{ver:Nat}(hx:s.ev x= .ptr id ver [] 0){v:aB}(he:(afB P s src dst id ver).eval=some v):fH P o a w (iw C (s.put o.dst v)):=by
 have hv:=h.ev x;rw[hx]at hv;obtain⟨ad,hy,hb,hc⟩:=vR hv;have fin:v= .ptr id ver [] 0->(convert src dst (a.eval x)).run P w= .ok (a.eval x) w->fH P o a w (iw C (s.put o.dst v)):=by intro h1 h2;subst h1;exact h.value hv (dW (f:=convert src dst (a.eval x)) (by simp only[execOp,ho]) h2)
 unfold afB at he;split at he
 ·rename_i v0 fr e c mf;have cO:=ed mf;obtain⟨pl',cur,e',hp',hh,hg,hk,hV⟩:=(h.bJ id v0 fr _ cO).box rfl;have hk:e'=e:=hk;subst hk;have hV:V (s.env w g β) c (cur.toList.take cur.size):=hV;rw[<-cJ,bK]at hV;have hh:w.heap[pl'.b]? =some (.cells cur e' (0,0)):=hh
  have tT:=hV.size;have tT:cur.toList.length=c.size:=tT;have aE5:w.shape? pl'.b=some (e',c.size):=by simp only[World.shape?,hh];rw[<-tT];simp
  have hp':β id=some pl':=hp';split at he
  ·rename_i t hS hD;obtain⟨h1,h2⟩:=aC.1 he;have h2:=ay.1 h2;simp only[au,dw,cC,gA]at h1;obtain⟨⟨rfl,h3⟩,h4⟩:=h1;obtain⟨pl,hp,rfl⟩:=hc ⟨fr,_,cO⟩;have hp:β id=some pl:=hp;rw[hp']at hp;obtain rfl:pl'=pl:=by simpa using hp
   refine fin h2.symm ?_
   rw[hy];cases hi:P.info? t with
   |none=>exact absurd (by simp[Program.cellsOf,hi]) h3
   |some j=>
    have hj:j.size≠0:=by rw[<-nE hi]at*;exact h3
    exact Go.Lib.run_to_unsafe w _ hS hD hi hj aE5 (by show 0 < c.size;omega)
  ·rename_i u hS hD;obtain⟨h1,h2⟩:=aC.1 he;have h2:=ay.1 h2;simp only[au,dw,cC,gA]at h1;obtain⟨⟨rfl,h3⟩,h4⟩:=h1;obtain⟨pl,hp,rfl⟩:=hc ⟨fr,_,cO⟩;have hp:β id=some pl:=hp;rw[hp']at hp;obtain rfl:pl'=pl:=by simpa using hp
   refine fin h2.symm ?_
   rw[hy];cases hi:P.info? u with
   |none=>exact absurd (by simp[Program.cellsOf,hi]) h3
   |some j=>exact Go.Lib.run_from_unsafe w _ hS hD hi aE5 h4
  ·simp only[av]at he
 ·simp only[av]at he
theorem aEr(h:Inv C g β s a w){T U:TypeId}{op:BinOp}{x y:Operand}(ho:o.op= .binOp op T x y U){i j:Id}{v1 v2:Nat}(hx:s.ev x= .ptr i v1 [] 0)(hy:s.ev y= .ptr j v2 [] 0){v:aB}(he:(aQj P s T op i v1 j v2).eval=some v):
  fH P o a w (iw C (s.put o.dst v)):=by
 unfold aQj at he;split at he
 ·rename_i v' fr c mf;obtain⟨h1,h2⟩:=aC.1 he;simp only[au,dw,aW]at h1;obtain⟨⟨⟨rfl,rfl⟩,rfl⟩,aQq⟩:=h1;have cO:=ed mf;have ZX:=h.ev x;have aNt:=h.ev y;rw[hx]at ZX;rw[hy]at aNt;obtain⟨ad,aRb,_,hc⟩:=vR ZX;obtain⟨ad',aRc,_,hc'⟩:=vR aNt;obtain⟨pl,hp,rfl⟩:=hc ⟨fr,c,cO⟩;obtain⟨pl',hp',rfl⟩:=hc' ⟨fr,c,cO⟩;rw[hp]at hp';obtain rfl:pl=pl':=by simpa using hp'
  have hT:∃t j,P.underlying T=some (.pointer t)/\P.info? t=some j:=by
   unfold aR4 at aQq;split at aQq
   ·rename_i t ht;obtain⟨j,hj⟩:=bN.1 aQq;exact⟨t,j,ht,hj⟩
   ·cases aQq
  obtain⟨t,j,hT,hj⟩:=hT
  have hq:(Op.equal T (.pointer (some ⟨pl.b,0,none⟩)) (.pointer (some ⟨pl.b,0,none⟩))).run P w= .ok true w:=
   fo λd=>by simp[Op.equalIn,run_underlying hT,sizeOf,typeInfo,hj,run_sameAddr_same]
  have aWk:(eqGuard op T x y (a.eval x) (a.eval y)).run P w= .ok () w:=by rw[aRb,aRc];exact ov (by simp) rfl
  have fin:∀z,(binOp op T (a.eval x) (a.eval y)).run P w= .ok z w->VS (s.env w g β) v z->fH P o a w (iw C (s.put o.dst v)):=by
   intro z h1 h3;refine h.value h3 ?_
   simp[execOp,ho,h1,aWk]
  split at h2
  ·obtain rfl:=ay.1 h2;refine fin (.bool true) ?_ (wg true)
   rw[aRb,aRc];simp[binOp,hq]
  ·obtain rfl:=ay.1 h2;refine fin (.bool false) ?_ (wg false)
   rw[aRb,aRc];simp[binOp,hq]
  ·simp only[av]at h2
 ·simp only[av]at he
theorem aM6{c:Call}{b:Builtin}{x:Operand}(hc:c.callee= .builtin b)(ha:c.args.toList=[x]):c= {callee:= .builtin b,args:= #[x],argTypes:=c.argTypes}:=by
 obtain⟨cal,args,tys⟩:=c;simp only at hc ha;have ha':args= #[x]:=by apply gw;simpa using ha
 subst hc ha';rfl
theorem auM{c:Call}{b:Builtin}{x y:Operand}(hc:c.callee= .builtin b)(ha:c.args.toList=[x,y]):c= {callee:= .builtin b,args:= #[x,y],argTypes:=c.argTypes}:=by
 obtain⟨cal,args,tys⟩:=c;simp only at hc ha;have ha':args= #[x,y]:=by apply gw;simpa using ha
 subst hc ha';rfl
theorem aUL{ts:Array TypeId}{T:TypeId}(h:ts.toList=[T]):ts= #[T]:=by apply gw;simpa using h
theorem aP0{ts:Array TypeId}{T U:TypeId}(h:ts.toList=[T,U]):ts= #[T,U]:=by apply gw;simpa using h
theorem aC8(h:Inv C g β s a w){c:Call}{x:Operand}{T e:TypeId}(ho:o.op= .call c)(hc:c.callee= .builtin .cap)(ha:c.args.toList=[x])(ht:c.argTypes.toList=[T])(hx:s.ev x= .dd)(hT:P.underlying T=some (.slice e)):
  fH P o a w (iw C (s.put o.dst (.d (.int .i64) (0:Int)))):=by
 rw[aM6 hc ha,aUL ht]at ho;have hv:=h.ev x;rw[hx]at hv;have hy:=lI hv;refine jC ho (F:=λty xs=>Builtin.cap_ #[T] ty xs) (λty cs xs=>rfl) (x:= .int .i64 0) (w':=w) (λty=> ?_) ⟨g,β,h.put o.dst (lW _ _)⟩;simp[Builtin.cap_,run_underlying hT,hy,goInt]
theorem api(h:Inv C g β s a w){c:Call}{x:Operand}{id:Id}{ver len:Nat}(ho:o.op= .call c)(hc:c.callee= .builtin .unsafeSliceData)(ha:c.args.toList=[x])(hx:s.ev x= .bz id ver [] 0 0 len)(hl:0 < len):
  fH P o a w (iw C (s.put o.dst (.ptr id ver [.idx 0] 0))):=by
 rw[aM6 hc ha]at ho;have hv:=h.ev x;rw[hx]at hv;obtain⟨ad,cap,hy,Qi,hs,hb,fx⟩:=sH hv;obtain⟨ad,rfl⟩:=bN.1 (hs hl);refine jC ho (F:=λty xs=>Builtin.unsafeSliceData_ c.argTypes ty xs) (λty cs xs=>rfl) (x:= .pointer (some ad)) (w':=w) (λty=> ?_) ⟨g,β,h.put o.dst ?_⟩
 ·rw[show(#[x].map a.eval)= #[a.eval x] by simp,hy];exact Go.Lib.run_unsafeSliceData_row w _ _ _ _ _ ak
 ·refine⟨[.pointer (some ad)],?_,rfl⟩;simp only[V];refine⟨ad,rfl,hb,λhc=> ?_⟩;have h1:=fx hc;cases hp:(s.env w g β).β id with
  |none=>rw[hp]at h1;simp only at h1;cases h1.1
  |some pl=>
   rw[hp]at h1;simp only at h1;exact⟨pl,rfl,by simpa using h1.1 (.inl hl)⟩
theorem anJ(h:Inv C g β s a w){c:Call}{mx:Bool}(ho:o.op= .call c)(hc:c.callee= .builtin (if mx then .max else .min)){v:aB}(he:(azc mx (c.args.toList.map s.ev)).eval=some v):fH P o a w (iw C (s.put o.dst v)):=by
 unfold azc at he;split at he
 ·rename_i k x k' y Vs;obtain⟨h1,h2⟩:=aC.1 he;obtain rfl:=ay.1 h2;have h1:k=k':=by simpa using h1
  subst h1;have aES:∃p q,c.args.toList=[p,q]/\s.ev p= .d (.int k) x/\s.ev q= .d (.int k) y:=by
   match hh:c.args.toList,Vs with
   |[p,q],Vs=>simp only[bP,ig,df]at Vs;exact⟨p,q,rfl,Vs.1,Vs.2.1⟩
   |[],Vs=>simp at Vs
   |[_],Vs=>simp at Vs
   |_::_::_::_,Vs=>simp at Vs
  obtain⟨p,q,ha,hp,hq⟩:=aES;rw[auM hc ha]at ho;have aO6:=h.ev p;have aNs:=h.ev q;rw[hp]at aO6;rw[hq]at aNs;have ep:=vE aO6;have eq:=vE aNs;cases mx with
  |true=>
   refine jC ho (F:=λty xs=>Builtin.max_ c.argTypes ty xs) (λty cs xs=>rfl) (x:= .int k (if x < y then y else x)) (w':=w) (λty=> ?_) ⟨g,β,h.put o.dst (lW _ _)⟩;rw[show(#[p,q].map a.eval)= #[a.eval p,a.eval q] by simp,ep,eq];simp[Builtin.max_,Builtin.max2]
  |false=>
   refine jC ho (F:=λty xs=>Builtin.min_ c.argTypes ty xs) (λty cs xs=>rfl) (x:= .int k (if y < x then y else x)) (w':=w) (λty=> ?_) ⟨g,β,h.put o.dst (lW _ _)⟩;rw[show(#[p,q].map a.eval)= #[a.eval p,a.eval q] by simp,ep,eq];simp[Builtin.min_,Builtin.min2]
 ·rename_i k x k' y k2 z Vs;obtain⟨h1,h2⟩:=aC.1 he;obtain rfl:=ay.1 h2;simp only[au,aW]at h1;obtain⟨rfl,rfl⟩:=h1;have aES:∃p q r,c.args.toList=[p,q,r]/\s.ev p= .d (.int k) x/\s.ev q= .d (.int k) y/\s.ev r= .d (.int k) z:=by
   match hh:c.args.toList,Vs with
   |[p,q,r],Vs=>simp only[bP,ig,df]at Vs;exact⟨p,q,r,rfl,Vs.1,Vs.2.1,Vs.2.2.1⟩
   |[],Vs=>simp at Vs
   |[_],Vs=>simp at Vs
   |[_,_],Vs=>simp at Vs
   |_::_::_::_::_,Vs=>simp at Vs
  obtain⟨p,q,r,ha,hp,hq,hr⟩:=aES;have aEU:c= {callee:= .builtin (if mx then .max else .min),args:= #[p,q,r],argTypes:=c.argTypes}:=by
   obtain⟨cal,args,tys⟩:=c;simp only at hc ha;have ha':args= #[p,q,r]:=by apply gw;simpa using ha
   subst hc ha';rfl
  rw[aEU]at ho;have aO6:=h.ev p;have aNs:=h.ev q;have ap7:=h.ev r;rw[hp]at aO6;rw[hq]at aNs;rw[hr]at ap7;have ep:=vE aO6;have eq:=vE aNs;have er:=vE ap7;cases mx with
  |true=>
   refine jC ho (F:=λty xs=>Builtin.max_ c.argTypes ty xs) (λty cs xs=>rfl) (x:= .int k (if(if x < y then y else x) < z then z else(if x < y then y else x))) (w':=w) (λty=> ?_) ⟨g,β,h.put o.dst (lW _ _)⟩;rw[show(#[p,q,r].map a.eval)= #[a.eval p,a.eval q,a.eval r] by simp,ep,eq,er];simp[Builtin.max_,Builtin.max2]
  |false=>
   refine jC ho (F:=λty xs=>Builtin.min_ c.argTypes ty xs) (λty cs xs=>rfl) (x:= .int k (if z < (if y < x then y else x) then z else(if y < x then y else x))) (w':=w) (λty=> ?_) ⟨g,β,h.put o.dst (lW _ _)⟩;rw[show(#[p,q,r].map a.eval)= #[a.eval p,a.eval q,a.eval r] by simp,ep,eq,er];simp[Builtin.min_,Builtin.min2]
 ·simp only[av]at he
theorem adC(z:Array Value)(n:Nat):Builtin.zeroCells z n=madeCells z (n*z.size):=rfl
theorem ayt(h:Inv C g β s a w){c:Call}{x y:Operand}{T X:TypeId}{k:IntKind}{n:Int}(ho:o.op= .call c)(hc:c.callee= .builtin .append)(ha:c.args.toList=[x,y])(ht:c.argTypes.toList=[T,X])(hx:s.ev x= .dd)(hy:s.ev y= .d (.int k) n){s':AS}
  (he:(amW P s o.dst T X n).eval=some s'):fH P o a w (iw C s'):=by
 rw[auM hc ha,aP0 ht]at ho;have ZX:=h.ev x;have aNt:=h.ev y;rw[hx]at ZX;rw[hy]at aNt;have ex:=lI ZX;have ey:=vE aNt;unfold amW at he;split at he
 ·rename_i e t b q kn K6 hd hX;obtain⟨hT,hz,i,zv,hi,ayB,aOS,ap9,ayF⟩:=C6 K6;obtain⟨hq,h2⟩:=aC.1 he;obtain⟨h3,h4⟩:=bS.1 h2;obtain rfl:=ay.1 h4;simp only[au,aW,da]at h3;obtain⟨h5,h7,h8⟩:=h3;obtain⟨m,rfl⟩:=Int.eq_ofNat_of_zero_le (Int.le_of_lt h5);simp only[aa]at h7 h8 ⊢;have aQw:zv.cells.size=t.size:=by have:=(ayF (s.env w g β)).size;simpa using this
  have hr:=λty=>Go.Lib.run_append_nil_zeros (P:=P) w T X ty e i zv k kn hT hX hi ap9 m ak (by rw[ayB];exact hz) ak (by rw[aOS];omega)
  obtain⟨cap,Qi⟩:∃cap,grownCap w m 0 e=cap:=⟨_,rfl⟩;have c1:m<=cap:=by rw[<-Qi];exact grownCap_ge _ _ _ _
  have c2:cap<=maxLen:=by rw[<-Qi];exact grownCap_le_maxLen _ _ _ _ (by unfold maxLen;omega)
  rw[Qi]at hr;obtain⟨cur,fx⟩:∃cur,Builtin.zeroCells zv.cells m++Builtin.zeroCells zv.cells (cap - m)=cur:=⟨_,rfl⟩;rw[fx]at hr;have s1:cur.size=cap*t.size:=by rw[<-fx,Array.size_append,BU,BU,aQw,<-eD];congr 1;omega
  have C8:=uV (ayF (s.env w.drew g β)) m;have s2:cur.toList.take (m*t.size)=(madeCells zv.cells (m*t.size)).toList:=by
   rw[<-fx,bX,adC,aQw];have hl:(madeCells zv.cells (m*t.size)).toList.length=m*t.size:=by simp[size_madeCells]
   rw[fh ak,aY ak]
  obtain⟨g2,β2,i2,Vq⟩:=(h.drew).ajn hq (e:=e) (l:=ab m t.zero) (cur:=cur) (cap:=cap) hz (by rw[b8,s2];exact C8) s1 (by rw[b8];exact c1) c2;rw[b8]at Vq;refine jC ho (F:=λty xs=>Builtin.append_ #[T,X] ty xs) (λty cs xs=>rfl) (λty=> ?_) ⟨g2,β2,i2.put o.dst Vq⟩;rw[show(#[x,y].map a.eval)= #[a.eval x,a.eval y] by simp,ex,ey];exact hr ty
 ·simp only[av]at he
theorem agO:∀(xs:List Int) (a:Addr) (acc:ByteArray),(∀j x,xs[j]? =some x->w.cell? (a.add j)=some (.int .u8 x))->
  (loadBytes a acc xs.length).run P w= .ok ⟨acc.data++(xs.map λn=>fi n.toNat).toArray⟩ w
 |[],a,acc,_=>by simp[loadBytes]
 |x::l,a,acc,h=>by
  have h0:w.cell? a=some (.int .u8 x):=by have:=h 0 x rfl;simpa[Addr.add]using this
  have ih:=agO l (a.add 1) (acc.push x.toNat.toUInt8) (λj y hy=>by
   have:=h (j+1) y (by simpa using hy);have e:(a.add 1).add j=a.add (j+1):=by
    unfold Addr.add;by_cases hj:j=0
    ·subst hj;simp
    ·simp[hj];omega
   rw[e];exact this)
  simp only[aA,loadBytes,Sem.run_bind,run_load,h0,Result.andThen];rw[ih];congr 1;apply ByteArray.ext;simp[ByteArray.push]
theorem aA8(h:Inv C g β s a w){c:Call}{x y:Operand}{T U:TypeId}{id:Id}{ver:Nat}{n:Int}(ho:o.op= .call c)(hc:c.callee= .builtin .unsafeString)(ha:c.args.toList=[x,y])(ht:c.argTypes.toList=[T,U])
  (hx:s.ev x= .ptr id ver [.idx 0] 0) (hy:s.ev y= .d (.int .i64) n) {s':AS} (he:(apy P s o.dst T id ver n).eval=some s'):fH P o a w (iw C s'):=by
 rw[auM hc ha,aP0 ht]at ho;have ZX:=h.ev x;rw[hx]at ZX;obtain⟨ad,aRb,_,aWb⟩:=vR ZX;have aNt:=h.ev y;rw[hy]at aNt;have aRc:=vE aNt;unfold apy at he;split at he
 ·rename_i v e l u mf hT;obtain⟨h1,h2⟩:=aC.1 he;obtain⟨h3,h4⟩:=bS.1 h2;obtain rfl:=ay.1 h4;simp only[au,dw]at h1;obtain⟨⟨rfl,rfl⟩,aOL⟩:=h1;simp only[aW]at h3;obtain⟨h5,h6⟩:=h3;obtain⟨n,rfl⟩:=Int.eq_ofNat_of_zero_le (Int.le_of_lt h5);have h6:n<=(l:List Int).length:=ak;have cO:=ed mf;obtain⟨pl,hp,rfl⟩:=aWb ⟨false,_,cO⟩;have hp:β id=some pl:=hp;have hO:xk (s.env w g β) id false (.vec u (.int .u8) l):=h.bJ id v false _ cO;obtain⟨hz,hO⟩:=hO;have hO:(match β id with
   |none=>l=[]
   |some pl=>∃cur k,w.heap[pl.b]? =some (.cells cur u (0,0))/\cur.size=pl.cap*(Ty.int .u8).size/\(l:List Int).length<=pl.cap/\pl.cap<=maxLen/\g pl.b= .own (.id id) k/\
     k<=(l:List Int).length*(Ty.int .u8).size/\(false=false->k=0)/\bC (de (s.env w g β) (.int .u8)) (cur.toList.take ((l:List Int).length*(Ty.int .u8).size)) l):=hO
  rw[hp]at hO;obtain⟨cur,k,q1,q2,q3,q4,q5,q6,q7,q8⟩:=hO;have hk:=q7 rfl;subst hk;have aOY:(Ty.int .u8).size=1:=rfl;rw[aOY,gO]at q2 q8;have Vr:=xq q8;have aE5:w.shape? pl.b=some (u,cur.size):=by simp only[World.shape?,q1]
  have Eh:∀j z,((l:List Int).take n)[j]? =some z->w.cell? ((⟨pl.b,0,none⟩:Addr).add j)=some (.int .u8 z):=λj z hj=>by
   rw[di]at hj;split at hj
   ·rename_i aVq;have aOU:j < (l:List Int).length:=ak;rw[Addr.add_lit,aN];simp only[World.cell?,q1];have:(cur.toList.take (l:List Int).length)[j]? =some (.int .u8 z):=by rw[Vr,eg,hj];rfl
    rw[di,if_pos aOU]at this;simpa using this
   ·cases hj
  have hlen:((l:List Int).take n).length=n:=by rw[bp];omega
  have aJo:=agO (P:=P) (w:=w) ((l:List Int).take n) ⟨pl.b,0,none⟩ .empty Eh;rw[hlen]at aJo;have aRA:=Go.Lib.liesAt_bytes (P:=P) (e:=u) (by simpa using aOL) (cur.size / P.cellsOf u) n (by
   rw[show P.cellsOf u=1 by simpa using aOL,Nat.div_one];omega)
  have aRr:∃w',w.freeze ⟨pl.b,0,none⟩ n=w'/\w'.os=w.os/\w'.tape=w.tape/\(w'.output=w.output/\w.drawn<=w'.drawn)/\w'.heap.size=w.heap.size/\∀b',b'≠pl.b->w'.heap[b']? =w.heap[b']? :=by refine⟨_,rfl,?_⟩;unfold World.freeze;rw[if_neg ak];refine⟨rfl,rfl,⟨rfl,ax _⟩,by simp,λb' hb'=> ?_⟩;simp only[gD];rw[if_neg (λe=>hb' e.symm)]
  obtain⟨w',hw',f1,f2,f3,f4,f5⟩:=aRr;have i1:=h.kill cO q5 f1 f2 f3 f4 f5;have aVb:¬(9223372036854775807:Int) < (n:Int):=by unfold maxLen at q4;omega
  have aTP:¬(n:Int) < 0:=ak;have aK4:n≠0:=ak;have aTL:IntKind.i64.max=9223372036854775807:=rfl;refine jC ho (F:=λty xs=>Builtin.unsafeString_ #[T,U] ty xs) (λty cs xs=>rfl) (x:= .string (fv ((l:List Int).take n))) (w':=w') (λty=> ?_) ⟨_,β,i1.put o.dst ⟨[.string (fv ((l:List Int).take n))],by simp only[V,de];rfl,rfl⟩⟩;rw[show(#[x,y].map a.eval)= #[a.eval x,a.eval y] by simp,aRb,aRc]
  have aOM:Builtin.unsafeString_ #[T,U] ty #[.pointer (some ⟨pl.b,0,none⟩),.int .i64 n]=
    (do
     let n <-Go.asInt (.int .i64 n)
     if n < 0 then runtimePanic (.error "unsafe.String: len out of range")
     if n > IntKind.i64.max then unsupported (.unsafePointer "String: a length above the largest int")
     if n=0 then pure (.string .empty)
     else if <-variablesAt ⟨pl.b,0,none⟩ (<-elemOf T) n.toNat then do
      let s <-loadBytes ⟨pl.b,0,none⟩ .empty n.toNat
      freeze ⟨pl.b,0,none⟩ n.toNat
      pure (.string s)
     else unsupported (.unsafePointer "String: not so many bytes at ptr")):=rfl
  rw[aOM];simp[Go.asInt,asIntOf,aTL,aVb,aTP,aK4,variablesAt,aE5,elemOf,run_underlying hT,aRA,aJo,hw',fv]
 ·simp only[av]at he
end
end Go.Ab
namespace Go.Ab
section
variable {P:Program} {C:Ctx} {g:Nat->mr} {β:Id->Option Pl} {s:AS} {a:Act} {w:World} {o:Oper}
theorem anG(h:Inv C g β s a w){c:Call}{T T2:TypeId}{m k:Operand}(dm:o.op= .call c)(hc:c.callee= .builtin .delete)(ha:c.args.toList=[m,k])(ht:c.argTypes.toList=[T,T2]){s':AS}(he:(FY P s T (s.ev m) (s.ev k)).eval=some s'):fH P o a w (iw C (s'.put o.dst .nil)):=by
 have dm:o.op= .call {callee:= .builtin .delete,args:= #[m,k],argTypes:= #[T,T2]}:=by rw[dm,auM hc ha,aP0 ht]
 unfold FY at he;split at he
 ·rename_i K V' kt vt id ver hm hx;obtain⟨l,h1,he⟩:=aw.1 he;obtain⟨kx,h2,he⟩:=aw.1 he;obtain⟨aO3,he⟩:=aC.1 he;obtain rfl:=ay.1 he;obtain⟨hT,hK,_⟩:=Ct hm;have ZX:=h.ev m;rw[hx]at ZX;obtain⟨fr,pl,es,clock,g1,g2,g3,g4,g5,g6,g7,gn⟩:=zH h h1 ZX;obtain⟨l0,g6,gp⟩:=g6;have LX:=AZ depth K kt hK;have hk:=Gc (h.ev k) h2;have aNh:=pd (P:=P) (w:=w) es.isEmpty depth K kt hK 10000 (by decide) _ _ hk;obtain⟨r,hf,hr⟩:=NK (P:=P) (w:=w) hK hk g6
  have fin:∀(es':Array MapEntry) (clock':Nat),(∀ty,(Builtin.delete_ #[T,T2] ty (#[m,k].map a.eval)).run P w= .ok (.tuple #[]) {w with heap:=w.heap.setIfInBounds pl.b (.map es' clock')})->Alike (E2 (s.env w g β) kt vt) es'.toList (gT kt kx l0)->oS es'.toList clock'->
    fH P o a w (iw C ((s.bj id (.obj ver false (.mp kt vt (gT kt kx l)))).put o.dst .nil)):=λes' clock' iO aES aRe=>
   jC (F:=λty xs=>Builtin.delete_ #[T,T2] ty xs) dm (λ_ _ _=>rfl) iO ⟨g,β,(h.aHM g1 g2 g4 g5 ⟨_,aES,aaB LX gn gp⟩ (Cu LX gn) aRe aO3).put o.dst rfl⟩
  cases r with
  |none=>
   simp only at hr;refine fin es clock (λty=> ?_) (by simp only[gT,hr];exact g6) g7;simp[Builtin.delete_,run_underlying hT,g3,Go.MapKept.run_getObj_map g4,aNh,hf,Go.MapKept.run_setObj_map _ g4]
  |some u=>
   obtain⟨j,u⟩:=u;obtain⟨e,m1,m2,rfl⟩:=hr;refine fin (es.eraseIdxIfInBounds j) clock (λty=> ?_) ?_ (by rw[Array.toList_eraseIdxIfInBounds];exact g7.erase j)
   ·simp[Builtin.delete_,run_underlying hT,g3,Go.MapKept.run_getObj_map g4,aNh,hf,Go.MapKept.run_setObj_map _ g4]
   ·simp only[gT,m1,Array.toList_eraseIdxIfInBounds];exact g6.erase j
 ·simp only[av]at he
theorem alf{Γ:oT}(hΓ:Sound P Γ){bJ:List Nat}(h:Inv C g β s a w){s':AS}(he:(rb P Γ bJ o s).eval=some s'):fH P o a w (iw C s'):=by
 unfold rb at he;split at he
 ·rename_i x dm;obtain rfl:=ay.1 he;exact agb h (.inl dm)
 ·rename_i x dm;obtain rfl:=ay.1 he;exact agb h (.inr dm)
 ·rename_i c x y dm;obtain⟨v,h1,h2⟩:=aw.1 he;obtain rfl:=ay.1 h2;exact azF h dm h1
 ·rename_i T dm;split at he
  ·rename_i z q hz hq;obtain⟨h1,h2⟩:=aC.1 he;obtain rfl:=ay.1 h2;simp only[au]at h1;exact aqm h dm h1.1 h1.2
  ·exact(av.1 he).elim
 ·rename_i T x dm;exact aCV h dm he
 ·rename_i T parts dm;exact aqQ h dm he
 ·rename_i T n parts dm;exact WU h dm he
 ·rename_i T x dm;obtain⟨v,h1,h2⟩:=aw.1 he;obtain rfl:=ay.1 h2;exact ayY h dm h1
 ·rename_i T x v dm;obtain⟨v,h1,h2⟩:=aw.1 he;obtain rfl:=ay.1 h2;exact at4 h dm h1
 ·rename_i x dm;exact aea h dm he
 ·rename_i op T x y U dm;split at he
  ·rename_i i v1 j v2 hx hy;obtain⟨v,h1,h2⟩:=aw.1 he;obtain rfl:=ay.1 h2;exact aEr h dm hx hy h1
  ·obtain⟨v,h1,h2⟩:=aw.1 he;obtain rfl:=ay.1 h2;exact aqy h dm h1
 ·rename_i op T x dm;obtain⟨v,h1,h2⟩:=aw.1 he;obtain rfl:=ay.1 h2;exact aBw h dm h1
 ·rename_i T U x dm;split at he
  ·rename_i id ver len hTU hx;exact ard h dm hx he
  ·rename_i id ver hx;obtain⟨v,h1,h2⟩:=aw.1 he;obtain rfl:=ay.1 h2;exact are h dm hx h1
  ·obtain⟨v,h1,h2⟩:=aw.1 he;obtain rfl:=ay.1 h2;exact ah3 h dm h1
 ·rename_i T x dm;exact aud h dm he
 ·rename_i f first caps dm
  obtain⟨h1,h2⟩:=aC.1 he;obtain rfl:=ay.1 h2;simp only[au]at h1;exact ad3 h dm h1.1 h1.2
 ·rename_i T l c dm;obtain⟨n,h1,h2⟩:=aw.1 he;obtain⟨m,h3,h4⟩:=aw.1 h2;exact aav h dm h1 h3 h4
 ·rename_i T x lo hi dm;obtain⟨v,h1,h2⟩:=aw.1 he;obtain rfl:=ay.1 h2;exact acu h dm (.inl rfl) h1
 ·rename_i T x lo y m dm;obtain⟨v',h0,h8⟩:=aw.1 he;obtain rfl:=ay.1 h8;obtain⟨hv,h1,h2⟩:=aw.1 h0;obtain⟨mv,h3,h4⟩:=aw.1 h2;obtain⟨h5,h6⟩:=bS.1 h4;obtain⟨v,h7,h9⟩:=aw.1 h6;obtain rfl:=ay.1 h9;simp only[aW]at h5;exact acu h dm (.inr ⟨m,y,hv,mv,rfl,rfl,h1,h3,h5.1,h5.2.1,h5.2.2⟩) h7
 ·rename_i T x f dm;obtain⟨v,h1,h2⟩:=aw.1 he;obtain rfl:=ay.1 h2;exact ZH h dm h1
 ·rename_i T x f dm;obtain⟨v,h1,h2⟩:=aw.1 he;obtain rfl:=ay.1 h2;exact arx h dm h1
 ·rename_i T x i dm;obtain⟨n,h0,he⟩:=aw.1 he;obtain⟨v,h1,h2⟩:=aw.1 he;obtain rfl:=ay.1 h2;exact Z1 h dm h0 h1
 ·rename_i T x i dm;obtain⟨n,h0,he⟩:=aw.1 he;obtain⟨v,h1,h2⟩:=aw.1 he;obtain rfl:=ay.1 h2;exact arV h dm h0 h1
 ·rename_i x i dm;obtain⟨v,h1,h2⟩:=aw.1 he;obtain rfl:=ay.1 h2;exact ait h dm h1
 ·rename_i T dm;exact aji h dm he
 ·rename_i T x i ok dm;obtain⟨v,h1,h2⟩:=aw.1 he;obtain rfl:=ay.1 h2;exact anB h dm h1
 ·rename_i T m k x dm;obtain⟨s1,h1,h2⟩:=aw.1 he;obtain rfl:=ay.1 h2;exact anI h dm h1
 ·rename_i c dm;split at he
  ·rename_i hc;split at he
   ·rename_i m k T T2 ha ht;obtain⟨s1,h1,h2⟩:=aw.1 he;obtain rfl:=ay.1 h2;exact anG h dm hc ha ht h1
   ·exact(av.1 he).elim
  ·rename_i hc;split at he
   ·rename_i x y T X ha ht;exact axN h dm hc ha ht he
   ·exact(av.1 he).elim
  ·rename_i hc;split at he
   ·rename_i x T ha ht;obtain⟨v,h1,h2⟩:=aw.1 he;obtain rfl:=ay.1 h2;exact aFJ h dm hc ha ht h1
   ·exact(av.1 he).elim
  ·rename_i hc;split at he
   ·rename_i x y T X ha ht;split at he
    ·rename_i k n hx hy;exact ayt h dm hc ha ht hx hy he
    ·exact ali h dm hc ha ht he
   ·exact(av.1 he).elim
  ·rename_i hc;split at he
   ·rename_i x T ha ht;split at he
    ·rename_i e hx hT;obtain rfl:=ay.1 he;exact aC8 h dm hc ha ht hx hT
    ·exact(av.1 he).elim
   ·exact(av.1 he).elim
  ·rename_i hc;obtain⟨v,h1,h2⟩:=aw.1 he;obtain rfl:=ay.1 h2;exact anJ (mx:=true) h dm hc h1
  ·rename_i hc;obtain⟨v,h1,h2⟩:=aw.1 he;obtain rfl:=ay.1 h2;exact anJ (mx:=false) h dm hc h1
  ·rename_i hc;split at he
   ·rename_i x ha;split at he
    ·rename_i id ver len hx;obtain⟨h1,h2⟩:=bS.1 he;obtain rfl:=ay.1 h2;exact api h dm hc ha hx (by simpa using h1)
    ·exact(av.1 he).elim
   ·exact(av.1 he).elim
  ·rename_i hc;split at he
   ·rename_i x y T U ha ht;split at he
    ·rename_i id ver n hx hy;exact aA8 h dm hc ha ht hx hy he
    ·exact(av.1 he).elim
   ·exact(av.1 he).elim
  ·rename_i F hc;split at he
   ·rename_i f caps hF;split at he
    ·rename_i en arJ;obtain⟨gJ,he⟩:=aC.1 he;exact axs h dm hc hF ((hΓ f _ en arJ).1 gJ) he
    ·exact(av.1 he).elim
   ·exact(av.1 he).elim
  ·exact(av.1 he).elim
 ·exact(av.1 he).elim
end
end Go.Ab
namespace Go.Ab
def rr(P:Program)(ops:Array Oper)(o:Oper)(a:Act)(w:World)(K:Act->World->Prop):Prop:=if Region.wanted o (yielded ops a.tmps) then fH P o a w K else K (a.put o.dst undef) w
theorem rr.mono{P:Program}{ops:Array Oper}{o:Oper}{a:Act}{w:World}{K K':Act->World->Prop}(h:rr P ops o a w K)(hk:∀a w,K a w->K' a w):rr P ops o a w K':=by
 unfold rr at*;split
 ·rename_i hw;rw[if_pos hw]at h;exact h.mono hk
 ·rename_i hw;rw[if_neg hw]at h;exact hk _ _ h
theorem fH.some{P:Program}{o:Oper}{a:Act}{w:World}{K:Act->World->Prop}(h:fH P o a w K):∃a' w',K a' w':=by
 rcases h with⟨x,w',_,h⟩ | ⟨w',_,h⟩ | ⟨f,args,w',_,h⟩ | ⟨l,f,tmps,as,b,w',_,h⟩
 ·exact⟨_,_,h⟩
 ·exact⟨_,_,h⟩
 ·obtain⟨e,w'',_,⟨x,_,hx⟩,_⟩:=h [];exact⟨_,_,hx⟩
 ·obtain⟨e,w'',⟨x,_,hx⟩,_⟩:=(h none 0).2 default [] (room_wide _);exact⟨_,_,hx⟩
theorem rr.some{P:Program}{ops:Array Oper}{o:Oper}{a:Act}{w:World}{K:Act->World->Prop}(h:rr P ops o a w K):∃a' w',K a' w':=by
 unfold rr at h;split at h
 ·exact h.some
 ·exact⟨_,_,h⟩
theorem rr.wpListIn{r:Option Nat}{n:Nat}{P:Program}{ops:Array Oper}{o:Oper}{a:Act}{w:World}{Q:Exit->Act->World->Prop}{l:List Oper}(h:rr P ops o a w (wpListIn (Fr r) n P ops Q l)):Go.wpListIn (Fr r) n P ops Q (o::l) a w:=by
 unfold rr at h;unfold Go.wpListIn;split
 ·rename_i hw;rw[if_pos hw]at h;exact h.wpIn
 ·rename_i hw;rw[if_neg hw]at h;exact⟨λ_ _=>trivial,h⟩
theorem rr.wpOpIn{r:Option Nat}{n:Nat}{P:Program}{ops:Array Oper}{o:Oper}{i:Nat}{a:Act}{w:World}{Q:Exit->Act->World->Prop}{K:Act->World->Prop}(ho:ops[i]? =Option.some o)(h:rr P ops o a w K):Go.wpOpIn (Fr r) n P ops Q i K a w:=by
 unfold rr at h;unfold Go.wpOpIn;simp only[ho];split
 ·rename_i hw;rw[if_pos hw]at h;exact h.wpIn
 ·rename_i hw;rw[if_neg hw]at h;exact⟨λ_ _=>trivial,h⟩
theorem aGQ{s:AS}{q:Nat}{v:aB}(h:s.slot q=v)(hq:q < s.cq.length):s.put (some q) v=s:=by
 have hv:s.cq[q]=v:=by simpa[AS.slot,aG,hq]using h
 simp only[AS.put];rw[<-hv,gE]
theorem awj{s:AS}{q:Nat}{t:Ty}{x:t.den}(h:s.slot q= .d t x):q < s.cq.length:=by
 rcases ql q s.cq.length with h' | h'
 ·exact h'
 ·simp[AS.slot,aG,dG h']at h
def K4(P:Program)(Γ:oT)(bJ:List Nat)(ops:Array Oper)(o:Oper)(s:AS):Option AS:=
 match o.guard with
 |none=>(rb P Γ bJ o s).eval
 |some (j,want)=>match(ops[j]?).bind (·.dst) with
  |some q=>match s.slot q with
   | .d .bool b=>if b=want then(rb P Γ bJ o s).eval else some (s.put o.dst .nil)
   | .nil=>some (s.put o.dst .nil)
   |_=>none
  |none=>none
theorem amV{R:Type}{P:Program}{Γ:oT}{bJ:List Nat}{ops:Array Oper}{o:Oper}{s:AS}{k:AS->Option R}{r:R}(h:aKU P Γ bJ ops o s k=some r):∃s',K4 P Γ bJ ops o s=some s'/\k s'=some r:=by
 unfold aKU at h;unfold K4;split at h
 ·rename_i hg;simp only[hg];exact iq.1 h
 ·rename_i j want hg;simp only[hg];split at h
  ·rename_i q hq;simp only[hq];split at h
   ·rename_i b hb;have e:=aGQ hb (awj hb);simp only[hb];cases want <;> cases b <;> simp only[aH]at h <;> rw[e]at h
    ·obtain⟨s',h1,h2⟩:=iq.1 h;exact⟨s',by simpa using h1,h2⟩
    ·exact⟨_,by simp,h⟩
    ·exact⟨_,by simp,h⟩
    ·obtain⟨s',h1,h2⟩:=iq.1 h;exact⟨s',by simpa using h1,h2⟩
   ·rename_i hb;simp only[hb];exact⟨_,rfl,h⟩
   ·cases h
  ·cases h
section
variable {P:Program} {C:Ctx} {g:Nat->mr} {β:Id->Option Pl} {s:AS} {a:Act} {w:World} {o:Oper}
theorem auE(h:Inv C g β s a w){ops:Array Oper}{j q:Nat}{b:Bool}(hq:(ops[j]?).bind (·.dst)=some q)(hb:s.slot q= .d .bool b):yielded ops a.tmps j=some b:=by
 have hv:=h.cq q;rw[hb]at hv;have hv:=XC hv;have hl:=awj hb;rw[<-h.size]at hl;unfold yielded;rw[hq,Option.bind_some];have:a.tmps[q]? =some (.bool b):=by rw[fk hl];simpa[Array.getD,hl]using hv
 rw[this]
theorem ap2(h:Inv C g β s a w){ops:Array Oper}{j q:Nat}(hq:(ops[j]?).bind (·.dst)=some q)(hb:s.slot q= .nil):yielded ops a.tmps j=none:=by
 have hv:=h.cq q;rw[hb]at hv;have hv:a.tmps.getD q undef= .tuple #[]:=hv;unfold yielded;rw[hq,Option.bind_some];split
 ·rename_i b hb;rw[cH,hb]at hv;cases hv
 ·rfl
theorem afT{Γ:oT}(hΓ:Sound P Γ){bJ:List Nat}{ops:Array Oper}(h:iw C s a w){s':AS}(he:K4 P Γ bJ ops o s=some s'):rr P ops o a w (iw C s'):=by
 obtain⟨g,β,h⟩:=h;unfold K4 at he;unfold rr;split at he
 ·rename_i hg;have:Region.wanted o (yielded ops a.tmps)=true:=by simp[Region.wanted,hg]
  rw[if_pos this];exact alf hΓ h he
 ·rename_i j want hg;split at he
  ·rename_i q hq;split at he
   ·rename_i b hb;have hy:=auE h hq hb;have hw:Region.wanted o (yielded ops a.tmps)=(b==want):=by simp[Region.wanted,hg,hy]
    rw[hw];by_cases e:b=want
    ·rw[if_pos e]at he;rw[if_pos (by simp[e])];exact alf hΓ h he
    ·rw[if_neg e]at he;rw[if_neg (by simp[e])];simp only[az]at he;subst he;exact⟨g,β,h.put o.dst rfl⟩
   ·rename_i hb;have hy:=ap2 h hq hb;have hw:Region.wanted o (yielded ops a.tmps)=false:=by simp[Region.wanted,hg,hy]
    rw[hw,if_neg (by simp)];simp only[az]at he;subst he;exact⟨g,β,h.put o.dst rfl⟩
   ·cases he
  ·cases he
theorem aAK{R:Type}{c c':vy}{x:Option R}{r:R}(h:same c c' x=some r):c=c'/\x=some r:=by
 unfold same at h;split at h
 ·exact⟨‹_›,h⟩
 ·cases h
theorem avS{R:Type}{x y:Option R}{r:R}(h:nd x y=some r):x=some r/\y=some r:=by
 unfold nd at h;split at h
 ·rename_i e;exact⟨h,e▸h⟩
 ·cases h
theorem ast(h:Inv C g β s a w){x y:Operand}{n:Nat}(hn:aa3 s x y=some n){T:TypeId}(hT:BX.isSl P T=true):∃b,(0 < n->b=false)/\(Op.equal T (a.eval x) (a.eval y)).run P w= .ok b w/\
  sZ (a.eval x)=false/\a.eval x≠ .nilIface/\∀op,binOp op T (a.eval x) (a.eval y)=(match op with | .eql=>do pure (.bool (<-Op.equal T (a.eval x) (a.eval y))) | .neq=>do pure (.bool (!(<-Op.equal T (a.eval x) (a.eval y)))) | _=>binOp op T (a.eval x) (a.eval y)):=by
 have hx:=h.ev x;have hy:=h.ev y;unfold BX.isSl at hT;split at hT <;> try (cases hT;done)
 rename_i e hU;unfold aa3 at hn;split at hn
 ·rename_i t l h1 h2;rw[h1]at hx;rw[h2]at hy;obtain⟨ad,cap,vs,hv,_,hs,_⟩:=uY hx;have Vq:=lI hy;rw[hv,Vq];refine⟨ad.isNone,λhp=> ?_,?_,rfl,by simp,λop=>by cases op <;> rfl⟩
  ·obtain rfl:=bk hn;obtain⟨ad',rfl⟩:=bN.1 (hs hp);rfl
  ·cases ad with
   |none=>exact fo λd=>by simp[Op.equalIn,run_underlying hU]
   |some ad=>exact fo λd=>by simp[Op.equalIn,run_underlying hU]
 ·rename_i t l h1 h2;rw[h1]at hx;rw[h2]at hy;obtain⟨ad,cap,vs,hv,_,hs,_⟩:=uY hy;have Vq:=lI hx;rw[hv,Vq];refine⟨ad.isNone,λhp=> ?_,?_,rfl,by simp,λop=>by cases op <;> rfl⟩
  ·obtain rfl:=bk hn;obtain⟨ad',rfl⟩:=bN.1 (hs hp);rfl
  ·exact fo λd=>by simp[Op.equalIn,run_underlying hU]
 ·rename_i id ver pp c i len h1 h2;rw[h1]at hx;rw[h2]at hy;obtain⟨ad,cap,hv,_,hs,_⟩:=sH hx;have Vq:=lI hy;rw[hv,Vq];refine⟨ad.isNone,λhp=> ?_,?_,rfl,by simp,λop=>by cases op <;> rfl⟩
  ·obtain rfl:=bk hn;obtain⟨ad',rfl⟩:=bN.1 (hs hp);rfl
  ·cases ad with
   |none=>exact fo λd=>by simp[Op.equalIn,run_underlying hU]
   |some ad=>exact fo λd=>by simp[Op.equalIn,run_underlying hU]
 ·rename_i id ver pp c i len h1 h2;rw[h1]at hx;rw[h2]at hy;obtain⟨ad,cap,hv,_,hs,_⟩:=sH hy;have Vq:=lI hx;rw[hv,Vq];refine⟨ad.isNone,λhp=> ?_,?_,rfl,by simp,λop=>by cases op <;> rfl⟩
  ·obtain rfl:=bk hn;obtain⟨ad',rfl⟩:=bN.1 (hs hp);rfl
  ·exact fo λd=>by simp[Op.equalIn,run_underlying hU]
 ·cases hn
theorem QR(h:Inv C g β s a w){x y:Operand}{n:Nat}{T U:TypeId}(hn:aa3 s x y=some n)(hT:BX.isSl P T=true):
  (o.op= .binOp .eql T x y U->∃b,(0 < n->b=false)/\fH P o a w (iw C (s.put o.dst (.d .bool b))))/\(o.op= .binOp .neq T x y U->∃b,(0 < n->b=true)/\fH P o a w (iw C (s.put o.dst (.d .bool b)))):=by
 obtain⟨b,h1,h2,h3,h4,h5⟩:=ast (w:=w) h hn hT;have hg:∀op,(eqGuard op T x y (a.eval x) (a.eval y)).run P w= .ok () w:=λop=>ov h4 h3
 refine⟨λho=>⟨b,h1,h.value (wg b) ?_⟩,λho=>⟨!b,λhp=>by rw[h1 hp];rfl,h.value (wg (!b)) ?_⟩⟩
 ·have h6:(binOp .eql T (a.eval x) (a.eval y)).run P w= .ok (.bool b) w:=by rw[h5 .eql];simp[h2]
  simp[execOp,ho,hg,h6]
 ·have h6:(binOp .neq T (a.eval x) (a.eval y)).run P w= .ok (.bool (!b)) w:=by rw[h5 .neq];simp[h2]
  simp[execOp,ho,hg,h6]
theorem Rz{R:Type}{c:Bool}{x y:Option R}{r:R}(h:aH c x y=some r):(c=true/\x=some r)\/(c=false/\y=some r):=by
 cases c
 ·exact .inr ⟨rfl,h⟩
 ·exact .inl ⟨rfl,h⟩
theorem aEg{R:Type}{n:Nat}{k:Nat->Option R}{r:R}(h:aEe n k=some r):0 < n/\∀j,j < n->k j=some r:=by
 unfold aEe at h;split at h
 ·rename_i hx;obtain rfl:=bk h;exact hx.choose_spec
 ·cases h
theorem aEf{R:Type}{n:Nat}{k:Nat->Option R}{x:Option R}(hn:0 < n)(h:∀j,j < n->k j=x):aEe n k=x:=by
 unfold aEe;cases x with
 |none=>exact Cg λ⟨r,_,hr⟩=>by have:=h 0 hn;rw[hr 0 hn]at this;cases this
 |some r=>
  have hx:∃r,0 < n/\∀j,j < n->k j=some r:=⟨r,hn,h⟩;rw[ze hx];have:=hx.choose_spec.2 0 hn;rw[h 0 hn]at this;exact this.symm
theorem aeY{s:AS}{id:Id}{e:dE}{q:Nat}(hq:s.dY q=true)(gC:s.bV id≠none):(s.bj id e).dY q=true:=by
 cases id with
 |bm k=>exact hq
 |new i j=>
  by_cases hi:i=q
  ·subst hi;exact absurd ((kG hq).1 j) gC
  ·unfold AS.dY AS.bj;simp only[ea hi];exact hq
theorem Alike.len{α β:Type}{R:α->β->Prop}:∀ {xs:List α} {ys:List β},Alike R xs ys->xs.length=ys.length
 |[],[],_=>rfl
 |_::_,_::_,⟨_,h⟩=>by simp[h.len]
 |[],_::_,h=>h.elim
 |_::_,[],h=>h.elim
theorem asK{α:Type}:∀ {xs ys:List α} {i j:Nat} {x:α},xs.Perm ys->xs[i]? =some x->ys[j]? =some x->(xs.eraseIdx i).Perm (ys.eraseIdx j):=by
 have key:∀ {xs:List α} {i:Nat} {x:α},xs[i]? =some x->xs.Perm (x::xs.eraseIdx i):=by
  intro xs
  induction xs with
  |nil=>intro i x h;simp at h
  |cons y xs ih=>
   intro i x h;cases i with
   |zero=>simp at h;subst h;exact ia _
   |succ i=>
    have h:xs[i]? =some x:=by simpa using h
    exact((ih h).cons y).trans (List.Perm.swap x y _)
 intro xs ys i j x hp hi hj;exact((key hi).symm.trans (hp.trans (key hj))).cons_inv
theorem atb(h:Inv C g β s a w){T:TypeId}{m:Operand}(dm:o.op= .range T m){s':AS}(he:(ata P s o.dst T (s.ev m)).eval=some s'):fH P o a w (iw C s'):=by
 unfold ata at he;split at he
 ·rename_i K V' kt vt id ver q hm hx hd;obtain⟨l,h1,he⟩:=aw.1 he;obtain⟨hq,he⟩:=aC.1 he;obtain rfl:=ay.1 he;rw[au]at hq;obtain⟨hT,_,_⟩:=Ct hm;have ZX:=h.ev m;rw[hx]at ZX;obtain⟨fr,pl,es,clock,g1,g2,g3,g4,g5,g6,g7,gn⟩:=zH h h1 ZX;obtain rfl:=J0 g1 hq.1;have gC:s.bV id≠none:=by rw[g1];simp
  have aT6:=Trans.refl w g;have arM:cK (s.env w g β) ((s.bj id (.obj ver true (.mp kt vt l))).env w g β):=cK.bj g1 (ax _) aT6 (λ_ _=>rfl) (λ_=>rfl)
  have i0:Inv C g β (s.bj id (.obj ver true (.mp kt vt l))) a w:=
   h.step (dj _ _ _) aT6 arM (iV.bj h.bJ gC arM (λ_ _=>rfl) (λ_ _ _ _ _ _ _ _=>⟨rfl,rfl⟩) ⟨pl,es,clock,g2,g4,g5,⟨g6.mono arM.mem,gn⟩,g7⟩ (QG g1))
  have cO:=eG s id (.obj ver true (.mp kt vt l)) gC;have hq':=aeY (e:= .obj ver true (.mp kt vt l)) hq.2 gC;generalize aXr:s.bj id (.obj ver true (.mp kt vt l))=s0 at i0 cO hq' arM;have Hv:∀j,id≠ .new q j:=λj e=>by rw[e,(kG hq').1 j]at cO;cases cO
  have gJ:pl.b < w.heap.size:=(bO.1 g4).1;have ht:=Trans.alloc w g (.mapIter (some pl.b) clock #[] clock) (.own (.id (.new q 0)) 0);obtain⟨h3,h4⟩:=i0.SF hq' (c:= .tx id (ver+1) kt vt l none) (p:=some ⟨w.heap.size,0⟩) ht (λb hb=>⟨ru w _ hb,fw _ _ _ ak⟩) (λhE=>
   ⟨⟨w.heap.size,0⟩,pl.b,clock,#[],clock,kc _ _ _,uf w _,fE _ _ _,λvr ap7=>by
    obtain rfl:ver=vr:=ak;have hb:(s0.env w g β).GS id ver:=⟨by show s0.bV id≠none;rw[cO];simp,λv2 fr2 c2 h2=>by
     have h2:s0.bV id=some (.obj v2 fr2 c2):=h2;rw[cO]at h2;simp only[az,dE.obj.injEq]at h2;omega⟩
    refine⟨hE.GS _ _ hb,λ_=>⟨⟨kt,vt,l,?_⟩,pl,es,clock,?_,rfl,?_,?_,λx hx=>g7.2 x hx,⟨ax _,ax _⟩,g7.1,?_,λx hx=>by cases hx⟩⟩
    ·show(s0.born q _).bV id=_;rw[ji _ Hv];exact cO
    ·show J1 β (.new q 0) _ id=_;rw[BK _ _ _ (Hv 0)];exact g2
    ·exact(ru w _ gJ).trans g4
    ·show nR g w.heap.size _ pl.b=_;rw[fw _ _ _ ak];exact g5
    ·have:es.toList.filter (λe=> !(#[]:Array Nat).contains e.born)=es.toList:=iv.2 λx _=>by simp
     rw[this];exact(g6.mono arM.mem).mono hE.mem⟩)
  refine .inl ⟨.pointer (some ⟨w.heap.size,0,none⟩),w.alloc (.mapIter (some pl.b) clock #[] clock),?_,_,_,h3.put o.dst (v:= .ptr (.new q 0) 0 [] 0) ⟨[.pointer (some ⟨w.heap.size,0,none⟩)],?_,rfl⟩⟩
  ·refine dW (f:=Instr.range T (a.eval m)) (by simp only[execOp,dm]) ?_
   rw[g3];exact run_range_map w T K V' pl.b es clock hT g4
  ·simp only[V];exact⟨_,rfl,qu hq' _ _ _ _,λ_=>⟨_,kc _ _ _,rfl⟩⟩
 ·simp only[av]at he
theorem aab(h:Inv C g β s a w){x:Operand}{t:awI}(ht:s.aFv (s.ev x)=some t):
  s.bV t.i=some (.obj t.v t.fr (.tx t.q (t.vr+1) t.kt t.vt t.rest t.cur))/\(∃k v l,s.bV t.q=some (.obj t.vr true (.mp k v l)))/\
  ∃pl plq since seen c0 es clock,a.eval x= .pointer (some ⟨pl.b,0,none⟩)/\β t.i=some pl/\w.heap[pl.b]? =some (.mapIter (some plq.b) since seen c0)/\g pl.b= .own (.id t.i) 0/\
   β t.q=some plq/\w.heap[plq.b]? =some (.map es clock)/\g plq.b= .own (.id t.q) 0/\(∀x∈es.toList,x.born < since)/\(since<=c0/\since<=clock)/\(es.toList.map (·.born)).Nodup/\
   ahm (s.env w g β) t.kt t.vt (es.toList.filter λe=> !seen.contains e.born) t.rest/\
   ∀x,t.cur=some x->∃(e:MapEntry) (seen':Array Nat),e∈es.toList/\seen=seen'.push e.born/\c0=clock/\E2 (s.env w g β) t.kt t.vt e x:=by
 have ZX:=h.ev x;generalize s.ev x=y at ht ZX;unfold AS.aFv at ht;split at ht
 ·rename_i i ver;split at ht
  ·rename_i v fr q vr kt vt rest cur mf;split at ht
   ·rename_i hv hl;obtain rfl:=bk ht;have hv:v=ver:=by simpa using hv
    subst hv;have cO:=ed mf;unfold AS.anx at hl;split at hl
    ·rename_i v2 k2 t2 l2 aTT;have hl:v2=vr:=by simpa using hl
     subst hl;have hq:=ed aTT;refine⟨cO,⟨_,_,_,hq⟩,?_⟩;obtain⟨pl,mb,since,seen,c0,h1,h2,h3,h4⟩:=h.bJ i v fr _ cO;obtain⟨h5,h6⟩:=h4 v2 rfl;obtain⟨_,plq,es,clock,k1,k2,k3,k4,k5,k6,k7,k8,k9⟩:=h6 ⟨_,_,hq⟩;subst k2;obtain⟨ad,m1,m2,m3⟩:=vR ZX;obtain⟨pl',m4,rfl⟩:=m3 ⟨_,_,cO⟩;have h1:β i=some pl:=h1;have m4:β i=some pl':=m4;rw[h1]at m4;obtain rfl:pl=pl':=by simpa using m4
     exact⟨pl,plq,since,seen,c0,es,clock,m1,h1,h2,h3,k1,k3,k4,k5,k6,k7,k8,k9⟩
    ·cases hl
   ·cases ht
  ·cases ht
 ·cases ht
theorem E2.aXb{E:Env}{kt vt:Ty}{e:MapEntry}{x:kt.den×vt.den}(h:E2 E kt vt e x):VS E (.cons (.d kt x.1) (.cons (.d vt x.2) .nil)) (.tuple #[e.key,e.val]):=by obtain⟨⟨c1,a1,b1⟩,c2,a2,b2⟩:=h;refine⟨[e.key,e.val],rfl,?_⟩;simp only[VC];exact⟨_,_,c1,rfl,by simpa only[V]using a1,b1,_,_,c2,rfl,by simpa only[V]using a2,b2,rfl⟩
theorem E2.aXc{E:Env}{kt vt:Ty}{e:MapEntry}{x:kt.den×vt.den}(h:E2 E kt vt e x):VS E (.cons (.d .bool true) (.cons (.d kt x.1) (.cons (.d vt x.2) .nil))) (.tuple #[.bool true,e.key,e.val]):=by obtain⟨⟨c1,a1,b1⟩,c2,a2,b2⟩:=h;refine⟨[.bool true,e.key,e.val],rfl,?_⟩;simp only[VC];exact⟨_,_,[.bool true],rfl,by simp only[V,de],rfl,_,_,c1,rfl,by simpa only[V]using a1,b1,_,_,c2,rfl,by simpa only[V]using a2,b2,rfl⟩
theorem aru(h:Inv C g β s a w){x:Operand}(dm:o.op= .entry x){v:aB}(he:(art s (s.ev x)).eval=some v):fH P o a w (iw C (s.put o.dst v)):=by
 unfold art at he;split at he
 ·rename_i i v0 fr q vr kt vt rest c ht;obtain rfl:=ay.1 he;obtain⟨_,_,pl,plq,since,seen,c0,es,clock,m1,m2,m3,_,m5,m6,m7,_,_,m10,_,m12⟩:=aab h ht;obtain⟨e,seen',n1,rfl,rfl,n4⟩:=m12 c rfl;refine h.value n4.aXb (dW (f:=Instr.entry (a.eval x)) (by simp only[execOp,dm]) ?_);rw[m1];exact run_entry_at w pl.b plq.b since seen' es _ e m3 m6 n1 m10
 ·simp only[av]at he
theorem heap_drew{w w1:World}(hw:w1=w\/w1=w.drew):w1.heap=w.heap/\w1.os=w.os/\w1.tape=w.tape/\(w1.output=w.output/\w.drawn<=w1.drawn):=by
 rcases hw with rfl | rfl
 ·exact⟨rfl,rfl,rfl,rfl,ax _⟩
 ·exact⟨rfl,rfl,rfl,rfl,oV _⟩
theorem Inv.aR8(h:Inv C g β s a w){i q:Id}{v vr:Nat}{fr:Bool}{kt vt:Ty}{rest:List (kt.den×vt.den)}{cur:Option (kt.den×vt.den)}(cO:s.bV i=some (.obj v fr (.tx q (vr+1) kt vt rest cur)))
  {k2 v2:Ty} {l2:List (k2.den×v2.den)} (hq:s.bV q=some (.obj vr true (.mp k2 v2 l2))) {pl plq:Pl} {m0:Option Nat} {since0 c00:Nat} {seen0:Array Nat} (hp:β i=some pl) (hb:w.heap[pl.b]? =some (.mapIter m0 since0 seen0 c00)) (hg:g pl.b= .own (.id i) 0)
  {w1:World} (hw:w1=w\/w1=w.drew) {es:Array MapEntry} {clock since c0:Nat} {seen:Array Nat} (aWF:β q=some plq) (aOJ:w.heap[plq.b]? =some (.map es clock)) (aWl:g plq.b= .own (.id q) 0)
  (h1:∀x∈es.toList,x.born < since) (h2:since<=c0/\since<=clock) (h3:(es.toList.map (·.born)).Nodup) {rest':List (kt.den×vt.den)} {cur':Option (kt.den×vt.den)} (h4:ahm (s.env w g β) kt vt (es.toList.filter λe=> !seen.contains e.born) rest')
  (h5:∀x,cur'=some x->∃(e:MapEntry) (seen':Array Nat),e∈es.toList/\seen=seen'.push e.born/\c0=clock/\E2 (s.env w g β) kt vt e x):
  Inv C g β (s.bj i (.obj v fr (.tx q (vr+1) kt vt rest' cur'))) a (Go.ChangeMaps.setBlock w1 pl.b (.mapIter (some plq.b) since seen c0))/\
   uc (s.env w g β) ((s.bj i (.obj v fr (.tx q (vr+1) kt vt rest' cur'))).env (Go.ChangeMaps.setBlock w1 pl.b (.mapIter (some plq.b) since seen c0)) g β):=by
 obtain⟨d1,d2,d3,d4⟩:=heap_drew hw;have gJ:pl.b < w.heap.size:=(bO.1 hb).1;have avu:(Go.ChangeMaps.setBlock w1 pl.b (.mapIter (some plq.b) since seen c0)).heap=w.heap.setIfInBounds pl.b (.mapIter (some plq.b) since seen c0):=by show w1.heap.setIfInBounds _ _=_;rw[d1]
 have aNq:(Go.ChangeMaps.setBlock w1 pl.b (.mapIter (some plq.b) since seen c0)).os=w.os/\(Go.ChangeMaps.setBlock w1 pl.b (.mapIter (some plq.b) since seen c0)).tape=w.tape/\((Go.ChangeMaps.setBlock w1 pl.b (.mapIter (some plq.b) since seen c0)).output=w.output/\w.drawn<=(Go.ChangeMaps.setBlock w1 pl.b (.mapIter (some plq.b) since seen c0)).drawn):=⟨d2,d3,d4⟩;generalize Go.ChangeMaps.setBlock w1 pl.b (.mapIter (some plq.b) since seen c0)=w' at avu aNq;have hother:∀b',b'≠pl.b->w'.heap[b']? =w.heap[b']? :=λb' gC=>by rw[avu,dT,if_neg (λe=>gC e.symm)]
 have lE:w'.heap[pl.b]? =some (.mapIter (some plq.b) since seen c0):=by rw[avu,dT,if_pos rfl,if_pos gJ]
 have ht:Trans w w' g g:=by
  refine⟨aNq.1,aNq.2.1,aNq.2.2,by rw[avu];simp,λb' _=> ?_⟩;by_cases he:b'=pl.b
  ·subst he;rw[hg];exact⟨.inr ⟨i,0,rfl,ax _⟩,λ_ _ hh=>ak⟩
  ·rw[hother b' he];cases WY:g b' with
   |free=>exact⟨rfl,rfl⟩
   |own o' k=>cases o' with
    |eh=>exact⟨rfl,rfl⟩
    |id i'=>exact⟨.inr ⟨i',k,rfl,ax _⟩,λoff v _ hv=>by simpa only[World.cell?,hother b' he]using hv⟩
 have hle:cK (s.env w g β) ((s.bj i (.obj v fr (.tx q (vr+1) kt vt rest' cur'))).env w' g β):=cK.bj cO (ax _) ht (λ_ _=>rfl) (λ_=>rfl);have aRI:q≠i:=λe=>by rw[e,cO]at hq;cases hq
 have aWE:plq.b≠pl.b:=λe=>by rw[e,hb]at aOJ;cases aOJ
 refine⟨h.step (dj _ _ _) ht hle (iV.bj h.bJ (by rw[cO];simp) hle (λ_ _=>rfl) (λi' ver' fr' c' pl2 hi ZV XN=>⟨hother _ (h.apart hg hi ZV XN),rfl⟩) ?_ (qB cO λ_ _ _ e=>by cases e)),hle.mem⟩;refine⟨pl,plq.b,since,seen,c0,hp,lE,hg,λvr' ap7=> ?_⟩;obtain rfl:vr=vr':=ak;have am0:(s.env w g β).GS q vr:=⟨by show s.bV q≠none;rw[hq];simp,λv3 fr3 c3 h3=>by
  have h3:s.bV q=some (.obj v3 fr3 c3):=h3;rw[hq]at h3;simp only[az,dE.obj.injEq]at h3;omega⟩
 refine⟨hle.GS _ _ am0,λ_=>⟨⟨k2,v2,l2,?_⟩,plq,es,clock,aWF,rfl,(hother _ aWE).trans aOJ,aWl,h1,h2,h3,h4.mono hle.mem,λx hx=> ?_⟩⟩
 ·show(s.bj i _).bV q=_;rw[cW s i q _ aRI];exact hq
 ·obtain⟨e,se,a1,a2,a3,a4⟩:=h5 x hx;exact⟨e,se,a1,a2,a3,a4.mono hle.mem⟩
theorem Inv.aNv(h:Inv C g β s a w){i q:Id}{v ver ver':Nat}{fr:Bool}{kt vt:Ty}{rest rest':List (kt.den×vt.den)}{cur cur':Option (kt.den×vt.den)}(cO:s.bV i=some (.obj v fr (.tx q ver kt vt rest cur)))
  (hk:ver'=0\/(ver'=ver/\rest'=rest/\cur'=none)):Inv C g β (s.bj i (.obj v fr (.tx q ver' kt vt rest' cur'))) a w:=by
 have ht:=Trans.refl w g;have hle:cK (s.env w g β) ((s.bj i (.obj v fr (.tx q ver' kt vt rest' cur'))).env w g β):=cK.bj cO (ax _) ht (λ_ _=>rfl) (λ_=>rfl);refine h.step (dj _ _ _) ht hle (iV.bj h.bJ (by rw[cO];simp) hle (λ_ _=>rfl) (λ_ _ _ _ _ _ _ _=>⟨rfl,rfl⟩) ?_ (qB cO λ_ _ _ e=>by cases e));obtain⟨pl,mb,since,seen,c0,h1,h2,h3,h4⟩:=h.bJ i v fr _ cO;refine⟨pl,mb,since,seen,c0,h1,h2,h3,λvr ap7=> ?_⟩;rcases hk with hk | ⟨rfl,rfl,rfl⟩
 ·omega
 ·obtain⟨h5,h6⟩:=h4 vr ap7;refine⟨hle.GS _ _ h5,λhc=> ?_⟩;obtain⟨c1,_⟩:=hle.cur _ _ h5 hc;obtain⟨⟨k,v1,l,hq⟩,plq,es,clock,k1,k2,k3,k4,k5,k6,k7,k8,_⟩:=h6 c1;have aRI:q≠i:=λe=>by have hq:s.bV q=_:=hq;rw[e,cO]at hq;cases hq
  exact⟨⟨k,v1,l,by show(s.bj i _).bV q=_;rw[cW s i q _ aRI];exact hq⟩,plq,es,clock,k1,k2,k3,k4,k5,k6,k7,k8.mono hle.mem,λx hx=>by cases hx⟩
theorem atc{s:AS}{q i:Id}{e:dE}(h:s.abR q=false)(hi:s.bV i=some e):e.aFw q=false:=by
 unfold AS.abR at h;rw[Bool.or_eq_false_iff]at h;cases i with
 |bm k=>simpa using jq.1 h.1 _ (cI hi)
 |new a b=>
  have hi:(s.news.getD a [])[b]? =some e:=hi
  by_cases ha:a < s.news.length
  ·have h2:(s.news.getD a []).any (dE.aFw q)=false:=by simpa using jq.1 h.2 (s.news.getD a []) (by simp[aG,bT ha])
   simpa using jq.1 h2 _ (cI hi)
  ·simp[aG,dG (Nat.le_of_not_lt ha)]at hi
theorem Inv.unlock(h:Inv C g β s a w){q:Id}{vr:Nat}{k v:Ty}{l:List (k.den×v.den)}(cO:s.bV q=some (.obj vr true (.mp k v l)))(hr:s.abR q=false):Inv C g β (s.bj q (.obj vr false (.mp k v l))) a w:=by
 have ht:=Trans.refl w g;have hle:cK (s.env w g β) ((s.bj q (.obj vr false (.mp k v l))).env w g β):=cK.bj cO (ax _) ht (λ_ _=>rfl) (λ_=>rfl);refine h.step (dj _ _ _) ht hle λi ver fr c hi=> ?_
 have hi:(s.bj q (.obj vr false (.mp k v l))).bV i=some (.obj ver fr c):=hi;by_cases aVo:i=q
 ·subst aVo;rw[eG s i _ (by rw[cO];simp)]at hi;simp only[az,dE.obj.injEq]at hi;obtain⟨rfl,rfl,rfl⟩:=hi;obtain⟨pl,es,clock,h1,h2,h3,h4,h5⟩:=h.bJ i vr true _ cO;exact⟨pl,es,clock,h1,h2,h3,⟨h4.1.mono hle.mem,h4.2⟩,h5⟩
 ·rw[cW s q i _ aVo]at hi;refine(h.bJ i ver fr c hi).aNC hle rfl (λ_ _=>⟨rfl,rfl⟩) λq2 v2 k2 v3 l2 hc Ta _=>⟨⟨k2,v3,l2,?_⟩,λ_ _=>⟨rfl,rfl⟩⟩
  obtain⟨kt,vt,rest,cu,rfl⟩:=hc;have hn:=atc hr hi;have gC:q2≠q:=λe=>by simp[dE.aFw,e]at hn
  show(s.bj q _).bV q2=_;rw[cW s q q2 _ gC];exact Ta
theorem ar5{es:List MapEntry}{seen:Array Nat}(hn:(es.map (·.born)).Nodup){j:Nat}{e:MapEntry}(hj:(es.filter λe=> !seen.contains e.born)[j]? =some e):
  es.filter (λx=> !(seen.push e.born).contains x.born)=(es.filter λe=> !seen.contains e.born).eraseIdx j:=by
 have h1:es.filter (λx=> !(seen.push e.born).contains x.born)=(es.filter λe=> !seen.contains e.born).filter λx=>x.born !=e.born:=by
  rw[List.filter_filter];refine List.filter_congr λx _=> ?_
  rw[contains_push];cases seen.contains x.born <;> cases hb:x.born==e.born <;> simp[bne,hb]
 rw[h1];have aJp:((es.filter λe=> !seen.contains e.born).map (·.born)).Nodup:=hn.sublist (List.filter_sublist.map _);generalize es.filter (λe=> !seen.contains e.born)=L at hj aJp
 induction L generalizing j with
 |nil=>simp at hj
 |cons x L ih=>
  rw[bP,cU]at aJp;cases j with
  |zero=>
   simp only[fM,az]at hj;subst hj;have:L.filter (λy=>y.born !=x.born)=L:=iv.2 λy hy=>by
    have:y.born≠x.born:=λe=>aJp.1 (e▸cS.2 ⟨y,hy,rfl⟩)
    simpa using this
   simp[this]
  |succ j=>
   have hj:L[j]? =some e:=by simpa using hj
   have hx:(x.born !=e.born)=true:=by
    have:x.born≠e.born:=λh=>aJp.1 (h▸cS.2 ⟨e,cI hj,rfl⟩)
    simpa using this
   rw[List.filter_cons,hx,List.eraseIdx_cons_succ];simp only[bG];rw[ih hj aJp.2]
theorem azn(h:Inv C g β s a w){x:Operand}(dm:o.op= .next x false){t:awI}(ht:s.aFv (s.ev x)=some t){R:Type}{k:AS->Option R}{r:R}(he:aGh s o.dst t k=some r):
  fH P o a w λa' w'=>∃s',iw C s' a' w'/\k s'=some r:=by
 obtain⟨hi,⟨k2,v2,l2,hq⟩,pl,plq,since,seen,c0,es,clock,m1,m2,m3,m4,m5,m6,m7,m8,m9,m10,m11,_⟩:=aab h ht;have hex:∀ {y:Value} {w':World},(Instr.next (a.eval x) false o.type).run P w= .ok y w'->(execOp a.eval o).run P w= .ok (.value y) w':=λhr=>
  dW (f:=Instr.next (a.eval x) false o.type) (by simp only[execOp,dm]) hr
 have XM:(leftOf es seen).toList=es.toList.filter λe=> !seen.contains e.born:=by unfold leftOf;rw[Array.toList_filter]
 obtain⟨l',m11,am3⟩:=m11;have hlen:=m11.len;rw[am3.length_eq]at hlen;rw[<-XM,cJ]at hlen;unfold aGh at he;rcases run_next_at (P:=P) w o.type pl.b plq.b since c0 seen es clock m3 m6 m8 m9.1 with⟨h0,iO⟩ | ⟨e,aQo,w1,hw,iO⟩
 ·rcases Rz he with⟨hc,_⟩ | ⟨_,he⟩
  ·have:0 < t.rest.length:=by simpa using hc
   omega
  ·unfold AS.aL0 at he;have i1:=h.aNv (rest':=[]) (cur':=none) hi (.inl rfl);have aRI:t.q≠t.i:=λe=>by rw[e,hi]at hq;simp at hq
   have aQr:(s.bj t.i (.obj t.v t.fr (.tx t.q 0 t.kt t.vt [] none))).bV t.q=some (.obj t.vr true (.mp k2 v2 l2)):=by rw[cW s t.i t.q _ aRI];exact hq
   generalize s.bj t.i (.obj t.v t.fr (.tx t.q 0 t.kt t.vt [] none))=s1 at he i1 aQr;cases hr:s1.abR t.q with
   |true=>rw[hr]at he;cases he
   |false=>
    rw[hr]at he;simp only at he;have aWN:s1.unlock t.q=s1.bj t.q (.obj t.vr false (.mp k2 v2 l2)):=by simp only[AS.unlock,AS.obj,aQr]
    rw[aWN]at he;rw[<-m1]at iO;refine .inl ⟨_,w,hex iO,_,⟨g,β,(i1.unlock aQr hr).put o.dst (v:= .cons (.d .bool false) .nil) ⟨[.bool false],rfl,?_⟩⟩,he⟩;simp only[VC];exact⟨_,_,[.bool false],rfl,by simp only[V,de],rfl,rfl⟩
 ·rcases Rz he with⟨hc,he⟩ | ⟨hc,_⟩
  ·obtain⟨_,hd⟩:=aEg he;rw[XM]at aQo;obtain⟨i,aKZ⟩:=List.getElem?_of_mem aQo;obtain⟨y,aRS,aQv⟩:=m11.get aKZ;obtain⟨j,hj⟩:=List.getElem?_of_mem (am3.mem_iff.1 (cI aRS));have aOU:j < t.rest.length:=(dF.1 hj).1;have hy:zJ t.kt t.vt t.rest j=y:=by simp[zJ,aG,hj]
   have C8:e∈es.toList:=(nY.1 aQo).1;have i1:=h.aR8 (rest':=t.rest.eraseIdx j) (cur':=some (zJ t.kt t.vt t.rest j)) (since:=since) (c0:=clock) (seen:=seen.push e.born) hi hq m2 m3 m4 hw m5 m6 m7 m8 ⟨m9.2,m9.2⟩ m10 ?_ ?_
   rotate_left
   ·rw[ar5 m10 aKZ];exact⟨_,m11.erase i,asK am3 aRS hj⟩
   ·intro z hz;obtain rfl:=bk hz;exact⟨e,seen,C8,rfl,rfl,by rw[hy];exact aQv⟩
   rw[<-m1]at iO;have hVS:=(hy▸aQv:E2 (s.env w g β) t.kt t.vt e (zJ t.kt t.vt t.rest j));refine .inl ⟨_,_,hex iO,_,⟨g,β,i1.1.put o.dst (v:= .cons (.d .bool true) (.cons (.d t.kt (zJ t.kt t.vt t.rest j).1) (.cons (.d t.vt (zJ t.kt t.vt t.rest j).2) .nil))) ?_⟩,hd j aOU⟩;exact E2.aXc (hVS.mono i1.2)
  ·have hc:¬0 < t.rest.length:=by simpa using hc
   have:0 < (leftOf es seen).toList.length:=List.length_pos_of_mem aQo;rw[cJ]at this;omega
theorem ays{Γ:oT}(hΓ:Sound P Γ){bJ:List Nat}{ops:Array Oper}{R:Type}{k:AS->Option R}{r:R}(h:iw C s a w)(he:aKV P Γ bJ ops o s k=some r):
  rr P ops o a w λa' w'=>∃s',iw C s' a' w'/\k s'=some r:=by
 have plain:aKU P Γ bJ ops o s k=some r->rr P ops o a w λa' w'=>∃s',iw C s' a' w'/\k s'=some r:=λhe=>by obtain⟨s1,h1,h2⟩:=amV he;exact(afT hΓ h h1).mono λa' w' hs=>⟨s1,hs,h2⟩
 have stepK:∀(hg:o.guard=none),(fH P o a w λa' w'=>∃s',iw C s' a' w'/\k s'=some r)->rr P ops o a w λa' w'=>∃s',iw C s' a' w'/\k s'=some r:=λhg hr=>by
  unfold rr;have:Region.wanted o (yielded ops a.tmps)=true:=by simp[Region.wanted,hg]
  rw[if_pos this];exact hr
 have step:∀(hg:o.guard=none) (b:Bool),fH P o a w (iw C (s.put o.dst (.d .bool b)))->k (s.put o.dst (.d .bool b))=some r->rr P ops o a w λa' w'=>∃s',iw C s' a' w'/\k s'=some r:=λhg b hr hk=>by
  unfold rr;have:Region.wanted o (yielded ops a.tmps)=true:=by simp[Region.wanted,hg]
  rw[if_pos this];exact hr.mono λa' w' hs=>⟨_,hs,hk⟩
 unfold aKV at he;split at he
 ·rename_i T x y U hg ho;split at he
  ·rename_i n hn hT;obtain⟨g,β,hi⟩:=h;obtain⟨b,hb,hr⟩:=(QR (o:=o) (U:=U) hi hn hT).1 ho;refine step hg b hr ?_
   rcases Rz he with⟨hc,hk⟩ | ⟨_,hk⟩
   ·rw[hb (by simpa using hc)];exact hk
   ·obtain⟨k1,k2⟩:=avS hk;cases b
    ·exact k2
    ·exact k1
  ·exact plain he
 ·rename_i T x y U hg ho;split at he
  ·rename_i n hn hT;obtain⟨g,β,hi⟩:=h;obtain⟨b,hb,hr⟩:=(QR (o:=o) (U:=U) hi hn hT).2 ho;refine step hg b hr ?_
   rcases Rz he with⟨hc,hk⟩ | ⟨_,hk⟩
   ·rw[hb (by simpa using hc)];exact hk
   ·obtain⟨k1,k2⟩:=avS hk;cases b
    ·exact k2
    ·exact k1
  ·exact plain he
 ·rename_i T m hg ho;obtain⟨s1,h1,h2⟩:=iq.1 he;obtain⟨g,β,hi⟩:=h;exact stepK hg ((atb hi ho h1).mono λ_ _ hs=>⟨_,hs,h2⟩)
 ·rename_i x hg ho;obtain⟨s1,h1,h2⟩:=iq.1 he;obtain⟨v,h3,h4⟩:=aw.1 h1;obtain rfl:=ay.1 h4;obtain⟨g,β,hi⟩:=h;exact stepK hg ((aru hi ho h3).mono λ_ _ hs=>⟨_,hs,h2⟩)
 ·rename_i x hg ho;split at he
  ·rename_i t ht;obtain⟨g,β,hi⟩:=h;exact stepK hg (azn hi ho ht he)
  ·cases he
 ·rename_i c hg ho;split at he
  ·rename_i F hc;split at he
   ·rename_i id ver rc f hF;split at he
    ·rename_i en arJ;obtain⟨aSJ,he⟩:=aAK he;obtain⟨s1,h1,h2⟩:=iq.1 he;obtain⟨g,β,hi⟩:=h;exact stepK hg ((auD hi ho hc hF aSJ (hΓ _ _ en arJ) h1).mono λ_ _ hs=>⟨_,hs,h2⟩)
    ·cases he
   ·split at he
    ·rename_i en vs hr;unfold aNK at hr;split at hr;rotate_left
     ·cases hr
     rename_i f caps hF;split at hr;rotate_left
     ·cases hr
     rename_i en' arJ;split at hr;rotate_left
     ·cases hr
     rename_i aEV;rw[au]at aEV;simp only[az,cE]at hr;obtain⟨rfl,rfl⟩:=hr;obtain⟨g,β,hi⟩:=h;exact stepK hg (aqT hi ho hc hF ((hΓ _ _ _ arJ).2.2 aEV.2) he)
    ·exact plain he
  ·exact plain he
 ·exact plain he
theorem Vk{rd:Option Nat}{n:Nat}{Γ:oT}(hΓ:Sound P Γ){bJ:List Nat}{ops:Array Oper}{R:Type}{Q:Exit->Act->World->Prop}:∀(l:List Oper) {s:AS} {a:Act} {w:World} {k:AS->Option R} {r:R},iw C s a w->aKW P Γ bJ ops l s k=some r->
  (∀s' a' w',iw C s' a' w'->k s'=some r->Q .normal a' w')->wpListIn (Fr rd) n P ops Q l a w
 |[],s,a,w,k,r,h,he,hk=>hk s a w h he
 |o::l,s,a,w,k,r,h,he,hk=>by have he:aKV P Γ bJ ops o s (λs'=>s'.seen λs'=>aKW P Γ bJ ops l s' k)=some r:=he;simp only[AS.Ry]at he;exact((ays hΓ h he).mono λa' w' ⟨s',hs,h2⟩=>Vk hΓ l hs h2 hk).wpListIn
end
end Go.Ab
namespace Go.Ab
theorem AS.aEu{s t:AS}(h1:s.cq=t.cq)(h2:s.news.length=t.news.length)(h3:∀id,s.bV id=t.bV id):s=t:=by
 obtain⟨a,b,c⟩:=s;obtain⟨a',b',c'⟩:=t;simp only at h1 h2;subst h1;have hb:b=b':=lg λk=>h3 (.bm k)
 subst hb;have hc:c=c':=by apply List.ext_getElem h2;intro i h h';apply lg;intro j;have:=h3 (.new i j);simpa[AS.bV,aG,h,h']using this
 rw[hc]
def dE.ak0:dE->dE->Prop
 | .obj v _ c,.obj v' _ c'=>v=v'/\c=c'
 | .dead,.dead=>True
 |_,_=>False
def zY:Option dE->Option dE->Prop
 |some a,some b=>a.ak0 b
 |none,none=>True
 |_,_=>False
def dE.avo:dE->dE
 | .obj v _ c=> .obj v true c
 | .dead=> .dead
theorem dE.aHW(a:dE):a.ak0 a:=by cases a <;> simp[dE.ak0]
theorem aAN(a:Option dE):zY a a:=by cases a <;> simp[zY,dE.aHW]
theorem aAM(a:Option dE):zY (a.map dE.avo) a:=by
 cases a with
 |none=>trivial
 |some x=>cases x <;> simp[zY,dE.ak0,dE.avo]
theorem dE.aKR(a:dE):a.avo.avo=a.avo:=by cases a <;> rfl
structure mS(f:HE)(s t:AS):Prop where
 cq:∀i∈f.cq,t.slot i=s.slot i
 ws:∀id∈f.ws,t.bV id=s.bV id
 rs:∀id∈f.rs,zY (t.bV id) (s.bV id)
 dY:∀q,f.dst=some q->t.dY q=s.dY q
structure aP9 where
 v:aB
 up:Id->Option dE
 fz:List Id
structure App(d:Option Tmp)(E:aP9)(s s':AS):Prop where
 cq:s'.cq=(s.put d E.v).cq
 len:s'.news.length=s.news.length
 bV:∀id,s'.bV id=match E.up id with | some e=>some e | none=>if id∈E.fz then(s.bV id).map dE.avo else s.bV id
theorem App.aOo{d:Option Tmp}{E:aP9}{s s1 s2:AS}(h1:App d E s s1)(h2:App d E s s2):s1=s2:=
 AS.aEu (by rw[h1.cq,h2.cq]) (by rw[h1.len,h2.len]) λid=>by rw[h1.bV,h2.bV]
structure ahq(f:HE)(s:AS)(E:aP9):Prop where
 up:∀id e,E.up id=some e->(id∈f.ws/\s.bV id≠none)\/∃q j,f.dst=some q/\id= .new q j
 fz:∀id∈E.fz,id∈f.rs
theorem NW(s:AS)(id:Id)(e:dE):(s.bj id e).news.length=s.news.length:=by cases id <;> simp[AS.bj]
theorem adS(s:AS)(id i:Id):(s.freeze id).bV i=if i=id then(s.bV i).map dE.avo else s.bV i:=by
 unfold AS.freeze;cases hs:s.bV id with
 |none=>
  by_cases hi:i=id
  ·subst hi;simp[hs]
  ·simp[hi]
 |some e=>
  cases e with
  |dead=>
   by_cases hi:i=id
   ·subst hi;simp[hs,dE.avo]
   ·simp[hi]
  |obj v fr c=>
   simp only;by_cases hi:i=id
   ·subst hi;rw[eG s i _ (by rw[hs];simp)];simp[hs,dE.avo]
   ·rw[cW s id i _ hi];simp[hi]
theorem fD(i:Id):∀(ids:List Id) (s:AS),(s.bw ids).bV i=if i∈ids then(s.bV i).map dE.avo else s.bV i
 |[],s=>by simp[AS.bw]
 |id::ids,s=>by
  rw[AS.bw,fD i ids,adS];by_cases h1:i=id
  ·subst h1;by_cases h2:i∈ids
   ·simp[h2,Option.map_map,Function.comp_def,dE.aKR]
   ·simp[h2]
  ·simp[h1]
theorem ar6(s:AS)(id:Id):(s.freeze id).news.length=s.news.length:=by
 unfold AS.freeze;split
 ·exact NW _ _ _
 ·rfl
theorem rB:∀(ids:List Id) (s:AS),(s.bw ids).news.length=s.news.length
 |[],_=>rfl
 |id::ids,s=>by rw[AS.bw,rB ids,ar6]
theorem BL{s:AS}{q:Nat}:s.dY q=true↔q < s.news.length/\∀j,s.bV (.new q j)=none:=by
 refine⟨λh=>⟨(kG h).2,(kG h).1⟩,λ⟨h1,h2⟩=> ?_⟩;unfold AS.dY;rw[bT h1];have h0:=h2 0;simp only[AS.bV,aG,bT h1,dO]at h0;cases hh:s.news[q]with
 |nil=>rfl
 |cons x xs=>rw[hh]at h0;simp at h0
theorem App.S7(d:Option Tmp)(v:aB)(ids:List Id)(s:AS):App d ⟨v,λ_=>none,ids⟩ s ((s.bw ids).put d v):=by
 refine⟨?_,?_,λid=> ?_⟩
 ·cases d <;> simp[AS.put,om]
 ·cases d <;> simp[AS.put,rB]
 ·rw[Kq,fD]
theorem App.KC(d:Option Tmp)(v:aB)(s:AS):App d ⟨v,λ_=>none,[]⟩ s (s.put d v):=App.S7 d v [] s
def SH(q:Nat)(es:List dE):Id->Option dE
 | .new i j=>if i=q then es[j]? else none
 | .bm _=>none
theorem aEo(s:AS){q:Nat}(hq:q < s.news.length)(es:List dE)(id:Id):(s.born q es).bV id=match id with | .new i j=>if i=q then es[j]? else s.bV (.new i j) | .bm k=>s.bV (.bm k):=by
 cases id with
 |bm k=>rfl
 |new i j=>
  simp only;by_cases h:i=q
  ·subst h;rw[if_pos rfl];exact zj hq _ j
  ·rw[if_neg h];exact ji _ λj' e=>by simp only[Id.new.injEq]at e;exact h e.1
theorem App.auY{s:AS}{q:Nat}(hv:s.dY q=true)(v:aB)(ids:List Id)(es:List dE):App (some q) ⟨v,SH q es,ids⟩ s (((s.bw ids).born q es).put (some q) v):=by
 obtain⟨h1,h2⟩:=BL.1 hv;refine⟨?_,?_,λid=> ?_⟩
 ·simp[AS.put,om]
 ·simp[AS.put,AS.born,rB]
 ·rw[Kq,aEo _ (by rw[rB];exact h1)];cases id with
  |bm k=>simp only[SH];exact fD _ _ _
  |new i j=>
   simp only[SH];by_cases h:i=q
   ·subst h;rw[if_pos rfl];cases he:es[j]? with
    |none=>simp[h2]
    |some e=>simp
   ·rw[if_neg h];simp only[if_neg h];exact fD _ _ _
theorem App.aHN{s:AS}{id:Id}{e0:dE}(hs:s.bV id=some e0)(d:Option Tmp)(v:aB)(e:dE):App d ⟨v,λi=>if i=id then some e else none,[]⟩ s ((s.bj id e).put d v):=by
 refine⟨?_,?_,λi=> ?_⟩
 ·cases d <;> simp[AS.put]
 ·cases d <;> simp[AS.put,NW]
 ·rw[Kq];by_cases hi:i=id
  ·subst hi;rw[eG s i _ (by rw[hs];simp)];simp
  ·rw[cW s id i _ hi];simp[hi]
section
variable {P:Program} {Γ:oT} {bJ:List Nat} {ops:Array Oper} {o:Oper} {s t:AS}
def O1(P:Program)(Γ:oT)(bJ:List Nat)(ops:Array Oper)(o:Oper)(s s':AS):Prop:=∃E,App o.dst E s s'/\ahq (gR Γ ops s o) s E/\∀t,mS (gR Γ ops s o) s t->∃t',(rb P Γ bJ o t).eval=some t'/\App o.dst E t t'
theorem VI{xs:Array Operand}{i:Nat}(h:Operand.tmp i∈xs.toList):i∈X0 xs:=by unfold X0;exact List.mem_filterMap.2 ⟨_,h,rfl⟩
theorem mS.ev(h:mS (gR Γ ops s o) s t){x:Operand}(hx:x∈o.op.operands.toList):t.ev x=s.ev x:=by
 cases x with
 |tmp i=>exact h.cq i (bB.2 (.inl (VI hx)))
 |_=>rfl
theorem anW(v:Value):(ofConst v).ids=[]:=by unfold ofConst;split <;> rfl
theorem ago{o:Oper}{x:Op}(h:o.op=x)(hx:aga x=false):aga o.op=false:=by rw[h];exact hx
theorem NR(hn:aga o.op=false){x:Operand}(hx:x∈o.op.operands.toList){id:Id}(cX:id∈(s.ev x).ids):id∈(gR Γ ops s o).rs:=by
 refine bB.2 (.inl ?_);unfold anY;rw[hn];cases x with
 |tmp i=>exact qj.2 ⟨i,VI hx,cX⟩
 |const v=>simp[AS.ev,anW]at cX
 |global _=>simp[AS.ev,aB.ids]at cX
 |func f=>simp[AS.ev,aB.ids]at cX
theorem mS.ak0(h:mS (gR Γ ops s o) s t)(hn:aga o.op=false){x:Operand}(hx:x∈o.op.operands.toList){id:Id}(cX:id∈(s.ev x).ids):zY (t.bV id) (s.bV id):=h.rs id (NR hn hx cX)
theorem RD{id:Id}(h:zY (t.bV id) (s.bV id)):(t.obj id=none/\s.obj id=none)\/∃v f f' c,t.obj id=some (v,f,c)/\s.obj id=some (v,f',c):=by
 unfold AS.obj
 revert h
 cases t.bV id with
 |none=>cases s.bV id with
  |none=>intro _;simp
  |some b=>intro h;exact h.elim
 |some a=>cases s.bV id with
  |none=>intro h;exact h.elim
  |some b=>cases a <;> cases b <;> intro h <;> first
    |exact h.elim
    | (left;exact⟨rfl,rfl⟩)
    | (obtain⟨rfl,rfl⟩:=h;right;exact⟨_,_,_,_,rfl,rfl⟩)
theorem TY{id:Id}(h:zY (t.bV id) (s.bV id))(ver:Nat)(p:List KX):t.row id ver p=s.row id ver p:=by unfold AS.row;rcases RD h with⟨h1,h2⟩ | ⟨v,f,f',c,h1,h2⟩ <;> rw[h1,h2]
theorem pX:∀(v:aB) (ty:Ty),(∀id∈v.ids,zY (t.bV id) (s.bV id))->t.jm ty v=s.jm ty v
 | .bz id ver p c i len,ty,h=>by
  cases ty <;> first
   |rfl
   | (simp only[AS.jm];rw[TY (h id (by simp[aB.ids]))])
 | .pr a b,ty,h=>by
  cases ty <;> first
   |rfl
   | (simp only[AS.jm];rw[pX a _ λid cX=>h id (by simp[aB.ids,cX]),pX b _ λid cX=>h id (by simp[aB.ids,cX])])
 | .undef,ty,_ | .gone,ty,_ | .dd,ty,_ | .re,ty,_ | .xC,ty,_ | .Dj,ty,_ | .d _ _,ty,_ | .ptr ..,ty,_ | .dD ..,ty,_ | .fn ..,ty,_ | .cons ..,ty,_ | .nil,ty,_ | .vec ..,ty,_ | .bx ..,ty,_ | .ct ..,ty,_ | .mp ..,ty,_ | .tx ..,ty,_ | .yl ..,ty,_ | .rN ..,ty,_ | .sb _,ty,_=>by cases ty <;> simp only[AS.jm]
theorem v7:∀(v:aB),∀id∈v.shared,id∈v.ids
 | .bz ..,id,h=>by simpa[aB.shared,aB.ids]using h
 | .pr a b,id,h=>by
  simp only[aB.shared,bB,aB.ids]at h ⊢;rcases h with h | h
  ·exact .inl (v7 a id h)
  ·exact .inr (v7 b id h)
 | .undef,_,h | .gone,_,h | .dd,_,h | .re,_,h | .xC,_,h | .Dj,_,h | .d _ _,_,h | .ptr ..,_,h | .dD ..,_,h | .fn ..,_,h | .cons ..,_,h | .nil,_,h | .vec ..,_,h | .bx ..,_,h | .ct ..,_,h | .mp ..,_,h | .tx ..,_,h | .yl ..,_,h | .rN ..,_,h | .sb _,_,h=>by simp[aB.shared]at h
theorem anw{T:TypeId}{x:aB}(h:∀id∈x.ids,zY (t.bV id) (s.bV id)):QH P t T x=QH P s T x:=by
 unfold QH;split
 ·rename_i id ver p n;rcases RD (h id (by simp[aB.ids])) with⟨h1,h2⟩ | ⟨v,f,f',c,h1,h2⟩ <;> rw[h1,h2]
 ·rfl
 ·rfl
 ·rfl
theorem ahD{n:Nat}{lo hi:Option Operand}(hl:∀x,lo=some x->t.ev x=s.ev x)(hh:∀x,hi=some x->t.ev x=s.ev x):bounds t n lo hi=bounds s n lo hi:=by
 unfold bounds
 cases lo <;> cases hi <;> simp only[] <;> first
  |rfl
  | (rw[hl _ rfl,hh _ rfl])
  |rw[hl _ rfl]
  |rw[hh _ rfl]
theorem RH{T:TypeId}{x:aB}{lo hi:Option Operand}(h:∀id∈x.ids,zY (t.bV id) (s.bV id))(hl:∀x,lo=some x->t.ev x=s.ev x)(hh:∀x,hi=some x->t.ev x=s.ev x):
  Jx P t T x lo hi=Jx P s T x lo hi:=by
 have hb:∀n,bounds t n lo hi=bounds s n lo hi:=λn=>ahD hl hh
 unfold Jx
 split <;> first
  |rfl
  | (rw[TY (h _ (by simp[aB.ids]))];simp only[hb];done)
  | (simp only[hb];done)
theorem aeE{T:TypeId}{x:aB}{lo:Option Operand}{y m:Operand}(h:∀id∈x.ids,zY (t.bV id) (s.bV id))(hl:∀x,lo=some x->t.ev x=s.ev x)(hh:t.ev y=s.ev y)(hm:t.ev m=s.ev m):
  RG P t T x lo y m=RG P s T x lo y m:=by
 unfold RG;rw[hh,hm,RH h hl λz hz=>by obtain rfl:=bk hz;exact hh]
theorem Ti{T:TypeId}{x:aB}{i:Int}(h:∀id∈x.ids,zY (t.bV id) (s.bV id)):sX P t T x i=sX P s T x i:=by
 unfold sX
 split <;> first
  |rfl
  |rw[TY (h _ (by simp[aB.ids]))]
theorem al5{obj:Bool}{src dst:TypeId}{x:aB}(h:∀id∈x.ids,zY (t.bV id) (s.bV id)):afA P t obj src dst x=afA P s obj src dst x:=by
 unfold afA;split
 ·rfl
 ·unfold aDP
  split <;> first
   |rfl
   | (simp only[AS.asH,pX _ _ h])
theorem ax8{T:TypeId}{op:BinOp}{i:Id}{v:Nat}{j:Id}{w:Nat}(h:zY (t.bV i) (s.bV i)):aQj P t T op i v j w=aQj P s T op i v j w:=by unfold aQj;rcases RD h with⟨h1,h2⟩ | ⟨v,f,f',c,h1,h2⟩ <;> rw[h1,h2]
theorem al7{src dst:TypeId}{id:Id}{ver:Nat}(h:zY (t.bV id) (s.bV id)):afB P t src dst id ver=afB P s src dst id ver:=by
 unfold afB;rcases RD h with⟨h1,h2⟩ | ⟨v,f,f',c,h1,h2⟩
 ·rw[h1,h2]
 ·rw[h1,h2]
  cases c <;> first
   |rfl
   | (rename_i e z c;cases z <;> rfl)
theorem BA{ty:Ty}:∀(ps:List (Nat×Operand)) (l:List ty.den),(∀x∈ps,t.ev x.2=s.ev x.2/\∀id∈(s.ev x.2).ids,zY (t.bV id) (s.bV id))->jz ty t ps l=jz ty s ps l
 |[],_,_=>rfl
 | (i,x)::ps,l,h=>by obtain⟨h1,h2⟩:=h (i,x) (aL ..);simp only[jz];simp only at h1 h2;rw[h1,pX _ _ h2];congr 2;funext y;rw[BA ps _ λz hz=>h z (aI _ hz)]
theorem yk{ty:Ty}:∀(ps:List (Nat×Operand)) (l:List ty.den) (r:List ty.den×List Id),(jz ty s ps l).eval=some r->∀id∈r.2,∃x∈ps,id∈(s.ev x.2).ids
 |[],l,r,h,id,cX=>by obtain rfl:=ay.1 h;cases cX
 | (i,x)::ps,l,r,h,id,cX=>by
  simp only[jz]at h;obtain⟨h1,h2⟩:=aC.1 h;obtain⟨y,h3,h4⟩:=aw.1 h2;obtain⟨r',h5,h6⟩:=aw.1 h4;obtain rfl:=ay.1 h6;rcases bB.1 cX with cX | cX
  ·exact⟨(i,x),aL ..,v7 _ _ cX⟩
  ·obtain⟨z,hz,Tg⟩:=yk ps _ r' h5 id cX;exact⟨z,aI _ hz,Tg⟩
theorem Hg{fs:Array Field}:∀(ps:List (Nat×Operand)) (v:aB),(∀x∈ps,t.ev x.2=s.ev x.2)->qP P fs t ps v=qP P fs s ps v
 |[],_,_=>rfl
 | (i,x)::ps,v,h=>by
  have h1:=h (i,x) (aL ..);simp only at h1;simp only[qP,h1];have ih:∀v,qP P fs t ps v=qP P fs s ps v:=λv=>Hg ps v λz hz=>h z (aI _ hz)
  simp only[ih]
theorem Pt:∀(l:List Operand),(∀x∈l,t.ev x=s.ev x)->sO t l=sO s l
 |[],_=>rfl
 |x::l,h=>by simp only[sO];rw[h x (aL ..),Pt l λy hy=>h y (aI _ hy)]
theorem VM{ty:Ty}{X:TypeId}{x:aB}(h:∀id∈x.ids,zY (t.bV id) (s.bV id)):Iz P t ty X x=Iz P s ty X x:=by
 unfold Iz;split
 ·rfl
 ·simp only[AS.asH,pX _ _ h]
theorem mn{v:aB}(h:∀t,mS (gR Γ ops s o) s t->(rb P Γ bJ o t).eval=some (t.put o.dst v)):O1 P Γ bJ ops o s (s.put o.dst v):=
 ⟨⟨v,λ_=>none,[]⟩,App.KC _ _ _,⟨λ_ _ h=>by simp at h,λ_ h=>by simp at h⟩,λt ht=>⟨_,h t ht,App.KC _ _ _⟩⟩
theorem oP{F:AS->Out aB}(ho:∀t,rb P Γ bJ o t=(F t).bind λv=> .ok (t.put o.dst v))(hF:∀t,mS (gR Γ ops s o) s t->F t=F s){s':AS}(he:(rb P Γ bJ o s).eval=some s'):O1 P Γ bJ ops o s s':=by
 rw[ho]at he;obtain⟨v,h1,h2⟩:=aw.1 he;obtain rfl:=ay.1 h2;refine mn λt ht=> ?_
 rw[ho,hF t ht,aw];exact⟨v,h1,rfl⟩
theorem XU{v:aB}{ids:List Id}(hi:∀id∈ids,id∈(gR Γ ops s o).rs)(h:∀t,mS (gR Γ ops s o) s t->(rb P Γ bJ o t).eval=some ((t.bw ids).put o.dst v)):O1 P Γ bJ ops o s ((s.bw ids).put o.dst v):=
 ⟨⟨v,λ_=>none,ids⟩,App.S7 _ _ _ _,⟨λ_ _ h=>by simp at h,hi⟩,λt ht=>⟨_,h t ht,App.S7 _ _ _ _⟩⟩
theorem A9{v:aB}{ids:List Id}{q:Nat}{es:List dE}(hd:o.dst=some q)(hv:s.dY q=true)(hi:∀id∈ids,id∈(gR Γ ops s o).rs)
  (h:∀t,mS (gR Γ ops s o) s t->t.dY q=true->(rb P Γ bJ o t).eval=some (((t.bw ids).born q es).put o.dst v)):O1 P Γ bJ ops o s (((s.bw ids).born q es).put o.dst v):=by
 refine⟨⟨v,SH q es,ids⟩,by rw[hd];exact App.auY hv _ _ _,⟨λid e h=> .inr ?_,hi⟩,λt ht=> ?_⟩
 ·cases id with
  |bm _=>simp[SH]at h
  |new i j=>
   simp only[SH]at h;split at h
   ·rename_i hq;exact⟨q,j,hd,by rw[hq]⟩
   ·cases h
 ·have hv':t.dY q=true:=by rw[ht.dY q hd];exact hv
  exact⟨_,h t ht hv',by rw[hd];exact App.auY hv' _ _ _⟩
theorem FT{v:aB}{id:Id}{e0 e:dE}(hs:s.bV id=some e0)(hw:id∈(gR Γ ops s o).ws)(h:∀t,mS (gR Γ ops s o) s t->t.bV id=s.bV id->(rb P Γ bJ o t).eval=some ((t.bj id e).put o.dst v)):
  O1 P Γ bJ ops o s ((s.bj id e).put o.dst v):=by
 refine⟨⟨v,λi=>if i=id then some e else none,[]⟩,App.aHN hs _ _ _,⟨λi e' h=> .inl ?_,λ_ h=>by simp at h⟩,λt ht=> ?_⟩
 ·simp only at h;split at h
  ·rename_i hi;subst hi;exact⟨hw,by rw[hs];simp⟩
  ·cases h
 ·have:=ht.ws id hw;exact⟨_,h t ht this,App.aHN (this.trans hs) _ _ _⟩
end
end Go.Ab
namespace Go.Ab
section
variable {P:Program} {Γ:oT} {bJ:List Nat} {ops:Array Oper} {o:Oper} {s t:AS}
theorem akj{T:TypeId}{x v:aB}{s':AS}(h:(JB P s T x v).eval=some s'):
  ∃id e0 e,x.ids=[id]/\s.bV id=some e0/\s'=s.bj id e/\∀t:AS,t.bV id=s.bV id->(JB P t T x v).eval=some (t.bj id e):=by
 unfold JB at h;split at h
 ·rename_i id ver p n;cases mf:s.obj id with
  |none=>rw[mf]at h;simp only[av]at h
  |some r=>
   obtain⟨ve,fr,c⟩:=r;rw[mf]at h;obtain⟨h1,h2⟩:=aC.1 h;obtain⟨r,h3,h4⟩:=aw.1 h2;obtain⟨h5,h6⟩:=aC.1 h4;obtain⟨h7,h8⟩:=bS.1 h6;obtain⟨c',h9,aQ5⟩:=aw.1 h8;obtain rfl:=ay.1 aQ5;refine⟨id,_,_,rfl,ed mf,rfl,λt ht=> ?_⟩;have hob':t.obj id=some (ve,fr,c):=by simp only[AS.obj,ht];exact mf
   unfold JB;simp only[hob'];exact aC.2 ⟨h1,aw.2 ⟨r,h3,aC.2 ⟨h5,bS.2 ⟨h7,aw.2 ⟨c',h9,ay.2 rfl⟩⟩⟩⟩⟩
 ·simp only[av]at h
theorem arf{c:Call}{x y:Operand}{T X:TypeId}(dm:o.op= .call c)(hc:c.callee= .builtin .copy)(ha:c.args.toList=[x,y])(ht:c.argTypes.toList=[T,X]){s':AS}
  (he:(Zc P s o.dst T X (s.ev x) (s.ev y)).eval=some s'):O1 P Γ bJ ops o s s':=by
 have afY:∀t:AS,rb P Γ bJ o t=Zc P t o.dst T X (t.ev x) (t.ev y):=λt=>by unfold rb;rw[dm];simp only[hc,ha,ht]
 have FQ:∀z,z=x\/z=y->z∈o.op.operands.toList:=λz hz=>by rw[dm];simp only[Op.operands,Call.operands,hc,aT,bX,ha];simpa using hz
 have hx:∀t,mS (gR Γ ops s o) s t->t.ev x=s.ev x:=λt h=>h.ev (FQ x (.inl rfl))
 have hy:∀t,mS (gR Γ ops s o) s t->t.ev y=s.ev y:=λt h=>h.ev (FQ y (.inr rfl))
 have hm:∀t,mS (gR Γ ops s o) s t->∀ty,Iz P t ty X (s.ev y)=Iz P s ty X (s.ev y):=λt h ty=>VM λid cX=>h.ak0 (ago dm rfl) (FQ y (.inr rfl)) cX
 unfold Zc at he;split at he
 ·rename_i e t b id ver len K6 ap8;obtain⟨m,h1,he⟩:=aw.1 he;split at he
  ·rename_i ve n t' l mf;obtain⟨h2,Qj⟩:=aC.1 he;obtain⟨l',h3,adE⟩:=aw.1 Qj;obtain⟨h4,aQn⟩:=bS.1 adE;obtain rfl:=ay.1 aQn;have hw:id∈(gR Γ ops s o).ws:=by show id∈writes Γ s o;unfold writes;rw[dm];simp only[hc,ha,ap8];simp[aB.ids]
   refine FT (ed mf) hw λt ht ayD=> ?_
   rw[afY t,hx t ht,hy t ht];have hob':t.obj id=some (ve,false,.d (.arr n t') l):=by simp only[AS.obj,ayD];exact mf
   unfold Zc;simp only[K6,ap8];refine aw.2 ⟨m,by rw[hm t ht];exact h1,?_⟩;simp only[hob'];exact aC.2 ⟨h2,aw.2 ⟨l',h3,bS.2 ⟨h4,ay.2 rfl⟩⟩⟩
  ·exact(av.1 he).elim
 ·exact(av.1 he).elim
theorem ahv{c:Call}{x y:Operand}{T X:TypeId}(dm:o.op= .call c)(hc:c.callee= .builtin .append)(ha:c.args.toList=[x,y])(ht:c.argTypes.toList=[T,X])(gC:∀k n,s.ev x= .dd->s.ev y= .d (.int k) n->False){s':AS}
  (he:(yD P s (ayL bJ o.dst) (arY bJ o.dst) o.dst T X (s.ev x) (s.ev y)).eval=some s'):O1 P Γ bJ ops o s s':=by
 have afY:∀t:AS,t.ev x=s.ev x->t.ev y=s.ev y->rb P Γ bJ o t=yD P t (ayL bJ o.dst) (arY bJ o.dst) o.dst T X (t.ev x) (t.ev y):=λt e1 e2=>by
  unfold rb;rw[dm];simp only[hc,ha,ht];split
  ·rename_i k n hx hy;rw[e1]at hx;rw[e2]at hy;exact(gC k n hx hy).elim
  ·rfl
 have FQ:∀z,z=x\/z=y->z∈o.op.operands.toList:=λz hz=>by rw[dm];simp only[Op.operands,Call.operands,hc,aT,bX,ha];simpa using hz
 have hx:∀t,mS (gR Γ ops s o) s t->t.ev x=s.ev x:=λt h=>h.ev (FQ x (.inl rfl))
 have hy:∀t,mS (gR Γ ops s o) s t->t.ev y=s.ev y:=λt h=>h.ev (FQ y (.inr rfl))
 have hm:∀t,mS (gR Γ ops s o) s t->∀ty,Iz P t ty X (s.ev y)=Iz P s ty X (s.ev y):=λt h ty=>VM λid cX=>h.ak0 (ago dm rfl) (FQ y (.inr rfl)) cX
 unfold yD at he;split at he
 ·rename_i e ty b q K6 hd;obtain⟨m,h1,h2⟩:=aw.1 he;split at h2
  ·rename_i aRE;cases aQm:arY bJ o.dst with
   |true=>
    rw[aQm]at h2;simp only at h2;obtain⟨h5,h6⟩:=bS.1 h2;obtain rfl:=ay.1 h6;refine mn λt ht=> ?_
    rw[afY t (hx t ht) (hy t ht),hx t ht,hy t ht];unfold yD;simp only[hd]at aQm K6 ⊢;simp only[K6,aRE,aQm];refine aw.2 ⟨m,by rw[hm t ht];exact h1,?_⟩;exact bS.2 ⟨h5,ay.2 rfl⟩
   |false=>
   rw[aQm]at h2;simp only at h2;obtain⟨h3,h4⟩:=aC.1 h2;obtain⟨h5,h6⟩:=bS.1 h4;obtain rfl:=ay.1 h6;refine A9 (ids:=[]) hd h3 (λ_ h=>by cases h) λt ht hv=> ?_
   rw[afY t (hx t ht) (hy t ht),hx t ht,hy t ht];unfold yD;simp only[hd]at aQm K6 ⊢;simp only[K6,aRE,aQm];refine aw.2 ⟨m,by rw[hm t ht];exact h1,?_⟩;exact aC.2 ⟨hv,bS.2 ⟨h5,ay.2 rfl⟩⟩
  ·rename_i id ver len aRE;split at h2
   ·rename_i v fr e' t' l mf;obtain⟨h3,h4⟩:=aC.1 h2;obtain⟨l',h5,h6⟩:=aw.1 h4;obtain⟨h7,h8⟩:=bS.1 h6;obtain⟨h9,aQ5⟩:=bS.1 h8;obtain⟨aV3,afX⟩:=bS.1 aQ5;obtain rfl:=ay.1 afX;have hw:id∈(gR Γ ops s o).ws:=by show id∈writes Γ s o;unfold writes;rw[dm];simp only[hc,ha,aRE];simp[aB.ids]
    refine FT (ed mf) hw λt ht ayD=> ?_
    rw[afY t (hx t ht) (hy t ht),hx t ht,hy t ht];have hob':t.obj id=some (v,fr,.vec e' t' l):=by simp only[AS.obj,ayD];exact mf
    unfold yD;simp only[hd]at K6 ⊢;simp only[K6,aRE];refine aw.2 ⟨m,by rw[hm t ht];exact h1,?_⟩;simp only[hob'];exact aC.2 ⟨h3,aw.2 ⟨l',h5,bS.2 ⟨h7,bS.2 ⟨h9,bS.2 ⟨aV3,ay.2 rfl⟩⟩⟩⟩⟩
   ·simp only[av]at h2
  ·simp only[av]at h2
 ·simp only[av]at he
theorem TN:∀(n:Nat) (todo acc:List Id),∀id∈acc,id∈s.reach n todo acc
 | 0,_,_,id,h=>h
 |_+1,[],_,id,h=>h
 |n+1,x::todo,acc,id,h=>by
  rw[AS.reach];split
  ·exact TN n todo acc id h
  ·exact TN n _ _ id (bB.2 (.inl h))
theorem xG:∀(n:Nat) (todo acc:List Id),(∀id∈s.reach n todo acc,((t.bV id).getD .dead).ids=((s.bV id).getD .dead).ids)->t.reach n todo acc=s.reach n todo acc
 | 0,_,_,_=>rfl
 |_+1,[],_,_=>rfl
 |n+1,x::todo,acc,h=>by
  rw[AS.reach]at h;rw[AS.reach,AS.reach];split
  ·rename_i hc;rw[if_pos hc]at h;exact xG n todo acc h
  ·rename_i hc;rw[if_neg hc]at h;have hx:=h x (TN n _ _ x (bB.2 (.inr (bh.2 rfl))));rw[hx];exact xG n _ _ h
theorem aLj(e:Option dE):((e.map dE.avo).getD .dead).ids=(e.getD .dead).ids:=by
 cases e with
 |none=>rfl
 |some x=>cases x <;> rfl
theorem Xt(ids:List Id)(n:Nat)(todo acc:List Id):(s.bw ids).reach n todo acc=s.reach n todo acc:=by
 refine xG n todo acc λid _=> ?_
 rw[fD];split
 ·exact aLj _
 ·rfl
theorem Nk:∀(ps:List (Option Ty)) (vs:List aB),(∀v∈vs,∀id∈v.ids,zY (t.bV id) (s.bV id))->t.conv ps vs=s.conv ps vs
 |[],[],_=>rfl
 |[],_::_,_=>rfl
 |some _::_,[],_=>rfl
 |none::_,[],_=>rfl
 |some ty::ps,v::vs,h=>by simp only[AS.conv];rw[pX v ty (h v (aL ..)),Nk ps vs λx hx=>h x (aI _ hx)]
 |none::ps,v::vs,h=>by simp only[AS.conv];rw[Nk ps vs λx hx=>h x (aI _ hx)]
theorem Nl:∀(ps:List (Option Ty)) (vs:List aB) (r:List aB×List Id),(s.conv ps vs).eval=some r->r.1.flatMap aB.ids=wz ps vs/\∀id∈r.2,∃v∈vs,id∈v.ids
 |[],[],r,h=>by simp only[AS.conv,ay]at h;subst h;exact⟨rfl,λ_ h=>by cases h⟩
 |some ty::ps,v::vs,r,h=>by
  simp only[AS.conv]at h;obtain⟨x,h1,h2⟩:=aw.1 h;obtain⟨r',h3,h4⟩:=aw.1 h2;obtain rfl:=ay.1 h4;obtain⟨i1,i2⟩:=Nl ps vs r' h3;refine⟨by simp[wz,i1,aB.ids],λid cX=> ?_⟩;rcases bB.1 cX with cX | cX
  ·exact⟨v,aL ..,v7 v id cX⟩
  ·obtain⟨u,hu,akX⟩:=i2 id cX;exact⟨u,aI _ hu,akX⟩
 |none::ps,v::vs,r,h=>by simp only[AS.conv]at h;obtain⟨r',h3,h4⟩:=aw.1 h;obtain rfl:=ay.1 h4;obtain⟨i1,i2⟩:=Nl ps vs r' h3;refine⟨by simp[wz,i1],λid cX=> ?_⟩;obtain⟨u,hu,akX⟩:=i2 id cX;exact⟨u,aI _ hu,akX⟩
 |[],_::_,_,h=>by simp only[AS.conv,av]at h
 |some _::_,[],_,h=>by simp only[AS.conv,av]at h
 |none::_,[],_,h=>by simp only[AS.conv,av]at h
theorem anu:∀(c:aB),∀v∈c.list,∀id∈v.ids,id∈c.ids
 | .cons a b,v,hv,id,cX=>by
  simp only[aB.list,cd]at hv;simp only[aB.ids,bB];rcases hv with rfl | hv
  ·exact .inl cX
  ·exact .inr (anu b v hv id cX)
 | .sb _,_,h,_,_ | .undef,_,h,_,_ | .gone,_,h,_,_ | .dd,_,h,_,_ | .re,_,h,_,_ | .xC,_,h,_,_ | .Dj,_,h,_,_ | .d _ _,_,h,_,_ | .ptr ..,_,h,_,_ | .dD ..,_,h,_,_
 | .fn ..,_,h,_,_ | .pr ..,_,h,_,_ | .nil,_,h,_,_ | .vec ..,_,h,_,_ | .bx ..,_,h,_,_ | .ct ..,_,h,_,_ | .mp ..,_,h,_,_ | .tx ..,_,h,_,_ | .yl ..,_,h,_,_ | .rN ..,_,h,_,_ | .bz ..,_,h,_,_=>by simp[aB.list]at h
theorem Wg{ids:List Id}(h:∀id∈ids,t.bV id=s.bV id):t.xI ids=s.xI ids:=by
 funext id ver;unfold AS.xI;cases hi:idxOf id ids with
 |none=>rfl
 |some k=>
  have:t.obj id=s.obj id:=by simp only[AS.obj,h id (cI (pB hi))]
  rw[this]
theorem WL{id:Id}(h:t.bV id=s.bV id):t.CT id=s.CT id:=by simp only[AS.CT,AS.obj,h]
theorem Q9{ids:List Id}(h:∀id∈ids,t.bV id=s.bV id)(q:Nat):t.vV ids q=s.vV ids q:=by
 funext id ver;cases id with
 |new i j=>rfl
 |bm k=>
  simp only[AS.vV];cases hk:ids[k]? with
  |none=>rfl
  |some id=>simp only[WL (h id (cI hk))]
theorem P5{ids:List Id}(h:∀id∈ids,t.bV id=s.bV id)(q b:Nat):t.sS ids q b=s.sS ids q b:=by funext e;cases e <;> simp only[AS.sS,Q9 h]
theorem amE{ids:List Id}(h:∀id∈ids,t.bV id=s.bV id){id:Id}(cX:id∈ids):t.mY ids id=s.mY ids id:=by unfold AS.mY;rw[h id cX,Wg h]
def oG(s:AS)(ids:List Id)(d:Option Tmp)(G:fG):AS:=(AS.jG s ids (d.getD 0) (s.made ids (d.getD 0) G.news) ids G.bZ).put d (G.val.iS (s.vV ids (d.getD 0)))
theorem afg{ids:List Id}{d:Option Tmp}{G:fG}{s':AS}:(s.back ids d G).eval=some s'↔(G.bZ.length=ids.length/\(G.news=[]\/∃q,d=some q/\s.dY q=true))/\s'=oG s ids d G:=by
 unfold AS.back;cases d with
 |none=>
  rw[aC,ay];simp only[au,dw,List.isEmpty_iff,oG,AS.put,Option.getD_none];constructor
  ·rintro⟨⟨h1,h2⟩,rfl⟩;rw[h2];exact⟨⟨h1,.inl rfl⟩,rfl⟩
  ·rintro⟨⟨h1,h2⟩,rfl⟩;rcases h2 with h2 | ⟨q,hq,_⟩
   ·rw[h2];exact⟨⟨h1,rfl⟩,rfl⟩
   ·cases hq
 |some q=>
  rw[aC,ay];simp only[au,dw,fW,List.isEmpty_iff,oG,dO];constructor
  ·rintro⟨⟨h1,h2⟩,rfl⟩;exact⟨⟨h1,h2.imp id λh=>⟨q,rfl,h⟩⟩,rfl⟩
  ·rintro⟨⟨h1,h2⟩,rfl⟩;refine⟨⟨h1,h2.imp id λ⟨q',hq,h⟩=> ?_⟩,rfl⟩;obtain rfl:q=q':=by simpa using hq
   exact h
theorem Vy(s0:AS)(all:List Id)(q:Nat):∀(ids:List Id) (es:List dE) (s:AS),(AS.jG s0 all q s ids es).news.length=s.news.length
 |[],_,_=>by simp[AS.jG]
 |_::_,[],_=>by simp[AS.jG]
 |id::ids,e::es,s=>by rw[AS.jG,Vy s0 all q ids es,NW]
theorem aFI(s:AS)(ids:List Id)(q:Nat)(es:List dE):(s.made ids q es).news.length=s.news.length:=by cases es <;> simp[AS.made,AS.born]
def KQ(ids:List Id)(d:Option Tmp)(G:fG)(id:Id):Prop:=id∈ids\/(G.news≠ []/\∃q j,d=some q/\id= .new q j)
theorem Yx{ids:List Id}{d:Option Tmp}{G:fG}(hn:ids.Nodup)(hp:∀id∈ids,s.bV id≠none)(hl:G.bZ.length=ids.length)(hv:G.news=[]\/∃q,d=some q/\s.dY q=true):
  (∀id,¬KQ ids d G id->(oG s ids d G).bV id=s.bV id)/\
  (∀(k:Nat) (id:Id) (e:dE),ids[k]? =some id->G.bZ[k]? =some e->(oG s ids d G).bV id=some (s.sS ids (d.getD 0) (s.CT id) e))/\
  (∀q j,G.news≠ []->d=some q->(oG s ids d G).bV (.new q j)=(G.news[j]?).map (s.sS ids q 0))/\
  (∀q j,G.news≠ []->d=some q->s.bV (.new q j)=none):=by
 have hv':G.news=[]\/s.dY (d.getD 0)=true:=by
  rcases hv with h | ⟨q,rfl,h⟩
  ·exact .inl h
  ·exact .inr h
 obtain⟨m1,m2⟩:=amF s ids (d.getD 0) G.news hv';have aNo:∀q j,G.news≠ []->d=some q->s.bV (.new q j)=none:=λq j h1 h2=>by
  rcases hv' with h | h
  ·exact absurd h h1
  ·subst h2;exact(BL.1 h).2 j
 have Hv:∀id,s.bV id≠none->G.news=[]\/∀j,id≠ .new (d.getD 0) j:=λid cX=>by
  rcases hv with h | ⟨q,rfl,h⟩
  ·exact .inl h
  ·exact .inr λj e=>cX (by rw[e];exact(BL.1 h).2 j)
 obtain⟨n1,n2⟩:=H8 s ids (d.getD 0) ids G.bZ (s.made ids (d.getD 0) G.news) hn hl (λid cX=>by rw[m1 id (Hv id (hp id cX))];exact hp id cX);refine⟨λid cX=> ?_,λk id e h1 h2=> ?_,λq j h1 h2=> ?_,aNo⟩
 ·unfold KQ at cX;simp only[not_or]at cX;rw[oG,Kq,n1 id cX.1];refine m1 id ?_
  by_cases gC:G.news=[]
  ·exact .inl gC
  ·right;intro j e;rcases hv with h | ⟨q,hq,_⟩
   ·exact gC h
   ·exact cX.2 ⟨gC,q,j,hq,by rw[e,hq];rfl⟩
 ·rw[oG,Kq,n2 k id e h1 h2]
 ·subst h2;have aTS:Id.new q j ∉ ids:=λcX=>hp _ cX (aNo q j h1 rfl)
  rw[oG,Kq,n1 _ aTS];exact m2 h1 j
open Classical in
theorem aqU{c:Call}{F:Operand}{f:FuncId}{caps:aB}{en:Entry}(dm:o.op= .call c)(hc:c.callee= .value F)(hF:s.ev F= .fn f caps)(hΓ:Γ f (c.args.toList.map s.ev++caps.list)=some en)(gJ:Nat.blt f yB=true){s':AS}
  (he:(s.call en o.dst (c.args.toList.map s.ev++caps.list)).eval=some s'):O1 P Γ bJ ops o s s':=by
 have FQ:∀z,z=F\/z∈c.args.toList->z∈o.op.operands.toList:=λz hz=>by
  rw[dm];simp only[Op.operands,Call.operands,hc,bX,bB];rcases hz with rfl | hz
  ·exact .inl (by simp)
  ·exact .inr hz
 have aFb:∀v∈c.args.toList.map s.ev++caps.list,∀id∈v.ids,id∈(gR Γ ops s o).rs:=λv hv id cX=>by
  rcases bB.1 hv with hv | hv
  ·obtain⟨x,hx,rfl⟩:=cS.1 hv;exact NR (ago dm rfl) (FQ x (.inr hx)) cX
  ·refine NR (ago dm rfl) (FQ F (.inl rfl)) ?_
   rw[hF];exact anu caps v hv id cX
 generalize Vr:c.args.toList.map s.ev++caps.list=vs at he aFb hΓ;have aJr:(gR Γ ops s o).ws=s.reach 64 (wz en.params vs) []:=by show writes Γ s o=_;unfold writes;rw[dm];simp only[hc,hF,Vr,hΓ]
 have afY:∀t,mS (gR Γ ops s o) s t->rb P Γ bJ o t=t.call en o.dst vs:=λt ht=>by
  unfold rb;rw[dm];have h1:t.ev F= .fn f caps:=by rw[ht.ev (FQ F (.inl rfl)),hF]
  have h2:c.args.toList.map t.ev=c.args.toList.map s.ev:=gz λx hx=>ht.ev (FQ x (.inr hx))
  obtain⟨cal,args,tys⟩:=c;simp only at hc Vr h2;subst hc;simp only[h1,h2,Vr,hΓ,gJ,Out.guard]
 unfold AS.call at he;obtain⟨r,h1,h2⟩:=aw.1 he;obtain⟨aE3,adT⟩:=Nl _ _ r h1;have hlends:∀t:AS,(t.bw r.2).af7 r.1=t.reach 64 (wz en.params vs) []:=λt=>by unfold AS.af7;rw[Xt,aE3]
 rw[hlends]at h2;generalize hW:s.reach 64 (wz en.params vs) []=W at h2 aJr;have hWn:W.Nodup:=by rw[<-hW];exact tJ s _ _ _ (by simp)
 unfold AS.enter at h2;obtain⟨C8,h3⟩:=aC.1 h2;obtain⟨x,hx,h4⟩:=xu.1 h3;obtain⟨x0,aO7,h4⟩:=aw.1 h4;have aUg:=en.awk _ _ aO7;rw[aUg]at h4 aO7;obtain⟨⟨hl,hv⟩,rfl⟩:=afg.1 h4;generalize hG:en.out (r.1.map (aB.iS ((s.bw r.2).xI W))) (W.map ((s.bw r.2).mY W)) x=G at hl hv h4 ⊢;have hp:∀id∈W,(s.bw r.2).bV id≠none:=λid cX=>by have:=(au _ _▸cV.1 C8 id cX).1;obtain⟨⟨v,fr,c⟩,hr⟩:=bN.1 this;rw[ed hr];simp
 obtain⟨b1,b2,b3,b4⟩:=Yx (s:=s.bw r.2) (d:=o.dst) hWn hp hl hv;have hfzent:∀(u:AS) id,u.bV id=none↔(u.bw r.2).bV id=none:=λu id=>by rw[fD];split <;> simp
 let E:aP9:=⟨G.val.iS ((s.bw r.2).vV W (o.dst.getD 0)),λid=>if KQ W o.dst G id then(oG (s.bw r.2) W o.dst G).bV id else none,r.2⟩
 have hslots:∀u:AS,(oG (u.bw r.2) W o.dst G).cq=(u.put o.dst (G.val.iS ((u.bw r.2).vV W (o.dst.getD 0)))).cq:=λu=>by unfold oG;cases o.dst <;> simp[AS.put,DO,acx,om]
 have hlen:∀u:AS,(oG (u.bw r.2) W o.dst G).news.length=u.news.length:=λu=>by unfold oG;cases o.dst <;> simp[AS.put,Vy,aFI,rB]
 refine⟨E,⟨hslots s,hlen s,λid=> ?_⟩,⟨λid e WZ=> ?_,λid cX=> ?_⟩,λt ht=> ?_⟩
 ·by_cases aBZ:KQ W o.dst G id
  ·have WZ:E.up id=(oG (s.bw r.2) W o.dst G).bV id:=if_pos aBZ;rw[WZ];cases hb:(oG (s.bw r.2) W o.dst G).bV id with
   |some e=>rfl
   |none=>
    rcases aBZ with cX | ⟨gC,q,j,hq,rfl⟩
    ·obtain⟨k,hk⟩:=kI.1 cX;have gJ:k < G.bZ.length:=by rw[hl];exact(dF.1 hk).1
     rw[b2 k id _ hk (bT gJ)]at hb;cases hb
    ·have:=(hfzent s _).2 (b4 q j gC hq);simp[this]
  ·have WZ:E.up id=none:=if_neg aBZ;rw[WZ,b1 id aBZ,fD]
 ·by_cases aBZ:KQ W o.dst G id
  ·rcases aBZ with cX | ⟨_,q,j,hq,rfl⟩
   ·left;refine⟨by rw[aJr];exact cX,λh=>hp id cX ((hfzent s id).1 h)⟩
   ·exact .inr ⟨q,j,hq,rfl⟩
  ·have:E.up id=none:=if_neg aBZ;rw[this]at WZ;cases WZ
 ·obtain⟨v,hv,cX⟩:=adT id cX;exact aFb v hv id cX
 ·have aRi:t.conv en.params vs=s.conv en.params vs:=Nk _ _ λv hv id cX=>ht.rs id (aFb v hv id cX)
  have OX:∀id∈W,t.bV id=s.bV id:=λid cX=>ht.ws id (by rw[aJr];exact cX)
  have amX:∀id∈W,(t.bw r.2).bV id=(s.bw r.2).bV id:=λid cX=>by rw[fD,fD,OX id cX]
  have hWt:t.reach 64 (wz en.params vs) []=W:=by
   rw[<-hW];refine xG _ _ _ λid cX=> ?_
   rw[OX id (by rw[<-hW];exact cX)]
  have aRQ:G.news=[]\/∃q,o.dst=some q/\(t.bw r.2).dY q=true:=hv.imp id λ⟨q,hq,h⟩=>⟨q,hq,by
   rw[v8]at h ⊢;rw[ht.dY q hq];exact h⟩
  have aQq:∀id∈W,(t.bw r.2).bV id≠none:=λid cX=>by rw[amX id cX];exact hp id cX
  obtain⟨d1,d2,d3,d4⟩:=Yx (s:=t.bw r.2) (d:=o.dst) hWn aQq hl aRQ;refine⟨oG (t.bw r.2) W o.dst G,?_,⟨?_,hlen t,λid=> ?_⟩⟩
  ·rw[afY t ht];unfold AS.call;rw[aRi];refine aw.2 ⟨r,h1,?_⟩;rw[hlends,hWt];unfold AS.enter;have hA:(t.bw r.2).xI W=(s.bw r.2).xI W:=Wg amX;have hO:W.map ((t.bw r.2).mY W)=W.map ((s.bw r.2).mY W):=gz λid cX=>amE amX cX
   refine aC.2 ⟨?_,xu.2 ⟨x,?_,aw.2 ⟨x,aO7,?_⟩⟩⟩
   ·refine cV.2 λid cX=> ?_
    have:=cV.1 C8 id cX;simp only[AS.obj,AS.Tt]at this ⊢;rw[amX id cX];exact this
   ·rw[hA,hO,<-hx]
   ·rw[hA,hO,hG];exact afg.2 ⟨⟨hl,aRQ⟩,rfl⟩
  ·rw[hslots t,Q9 amX]
  ·by_cases aBZ:KQ W o.dst G id
   ·have WZ:E.up id=(oG (s.bw r.2) W o.dst G).bV id:=if_pos aBZ;rw[WZ];rcases aBZ with cX | ⟨gC,q,j,hq,rfl⟩
    ·obtain⟨k,hk⟩:=kI.1 cX;have gJ:k < G.bZ.length:=by rw[hl];exact(dF.1 hk).1
     rw[b2 k id _ hk (bT gJ),d2 k id _ hk (bT gJ),P5 amX,WL (amX id cX)]
    ·rw[b3 q j gC hq,d3 q j gC hq,P5 amX];cases hn:G.news[j]? with
     |some e=>rfl
     |none=>
      have:=(hfzent t _).2 (d4 q j gC hq);simp[this]
   ·have WZ:E.up id=none:=if_neg aBZ;rw[WZ,d1 id aBZ,fD]
end
end Go.Ab
namespace Go.Ab
section
variable {P:Program} {Γ:oT} {bJ:List Nat} {ops:Array Oper} {o:Oper} {s t:AS}
theorem Out.bind_assoc{α β γ:Type}(o:Out α)(f:α->Out β)(g:β->Out γ):(o.bind f).bind g=o.bind λa=>(f a).bind g:=by
 induction o with
 |ok a=>rfl
 |fail=>rfl
 |vf c r ih=>simp only[Out.bind,ih]
 |get x h ih=>simp only[Out.bind,ih]
 |br c x y ih1 ih2=>simp only[Out.bind,ih1,ih2]
theorem an9{parts:Array (Nat×Operand)}{x:Nat×Operand}(h:x∈parts.toList):x.2∈(parts.toList.map (·.2)).toArray.toList:=cS.2 ⟨x,h,rfl⟩
theorem axn{T:TypeId}{x:Operand}(dm:o.op= .box T x){s':AS}(he:(alF P s (isObj bJ o.dst) (arY bJ o.dst) o.dst T (s.ev x)).eval=some s'):O1 P Γ bJ ops o s s':=by
 have afY:∀t,rb P Γ bJ o t=alF P t (isObj bJ o.dst) (arY bJ o.dst) o.dst T (t.ev x):=λt=>by unfold rb;rw[dm]
 have hm:x∈o.op.operands.toList:=by rw[dm];simp[Op.operands]
 unfold alF at he;split at he
 ·rename_i q hd;split at he
  ·rename_i ho;obtain⟨h1,h2⟩:=aC.1 he;obtain rfl:=ay.1 h2;simp only[au]at h1;refine A9 (ids:=[]) hd h1.1 (λ_ h=>by cases h) λt ht hv=> ?_
   rw[afY,ht.ev hm];unfold alF;simp only[hd]at ho ⊢;simp only[ho];exact aC.2 ⟨by simp[hv,h1.2],ay.2 rfl⟩
  ·rename_i ho;split at he
   ·rename_i ty aRM;obtain⟨h1,h2⟩:=aC.1 he;obtain⟨y,h3,h4⟩:=aw.1 h2;obtain rfl:=ay.1 h4;refine XU (λid cX=>NR (ago dm rfl) hm (v7 _ _ cX)) λt ht=> ?_
    rw[afY,ht.ev hm];unfold alF;simp only[hd]at ho ⊢;simp only[ho,aRM];refine aC.2 ⟨h1,aw.2 ⟨y,?_,ay.2 rfl⟩⟩;rw[pX _ _ λid cX=>ht.ak0 (ago dm rfl) hm cX];exact h3
   ·simp only[av]at he
 ·simp only[av]at he
theorem apC{T:TypeId}{x:Operand}(dm:o.op= .sliceToArrayPointer T x){s':AS}(he:(OG P s o.dst T (s.ev x)).eval=some s'):O1 P Γ bJ ops o s s':=by
 have afY:∀t,rb P Γ bJ o t=OG P t o.dst T (t.ev x):=λt=>by unfold rb;rw[dm]
 have hm:x∈o.op.operands.toList:=by rw[dm];simp[Op.operands]
 unfold OG at he;split at he
 ·rename_i n e hT;split at he
  ·rename_i ty aRM;obtain⟨h1,h2⟩:=aC.1 he;obtain⟨l,h3,h4⟩:=aw.1 h2;obtain⟨h5,h6⟩:=bS.1 h4;obtain rfl:=ay.1 h6;refine XU (λid cX=>NR (ago dm rfl) hm (v7 _ _ cX)) λt ht=> ?_
   rw[afY,ht.ev hm];unfold OG;simp only[hT,aRM];refine aC.2 ⟨h1,aw.2 ⟨l,?_,bS.2 ⟨h5,ay.2 rfl⟩⟩⟩;rw[pX _ _ λid cX=>ht.ak0 (ago dm rfl) hm cX];exact h3
  ·simp only[av]at he
 ·simp only[av]at he
theorem alJ{T:TypeId}{parts:Array (Nat×Operand)}(dm:o.op= .build T parts){s':AS}(he:(HR P s o.dst T parts.toList).eval=some s'):O1 P Γ bJ ops o s s':=by
 have afY:∀t,rb P Γ bJ o t=HR P t o.dst T parts.toList:=λt=>by unfold rb;rw[dm]
 have hm:∀x∈parts.toList,x.2∈o.op.operands.toList:=λx hx=>by rw[dm];exact an9 hx
 unfold HR at he;split at he
 ·rename_i fs hT;split at he
  ·rename_i z hz;obtain⟨h1,h2⟩:=aC.1 he;obtain⟨v,h3,h4⟩:=aw.1 h2;obtain rfl:=ay.1 h4;refine mn λt ht=> ?_
   rw[afY];unfold HR;simp only[hT,hz];refine aC.2 ⟨h1,aw.2 ⟨v,?_,ay.2 rfl⟩⟩;rw[Hg _ _ λx hx=>ht.ev (hm x hx)];exact h3
  ·simp only[av]at he
 ·rename_i n e hT;split at he
  ·rename_i ty aRM;obtain⟨h1,h2⟩:=aC.1 he;obtain⟨r,h3,h4⟩:=aw.1 h2;obtain rfl:=ay.1 h4;refine XU (λid cX=> ?_) λt ht=> ?_
   ·obtain⟨x,hx,hi⟩:=yk _ _ _ h3 id cX;exact NR (ago dm rfl) (hm x hx) hi
   ·rw[afY];unfold HR;simp only[hT,aRM];refine aC.2 ⟨h1,aw.2 ⟨r,?_,ay.2 rfl⟩⟩;rw[BA _ _ λx hx=>⟨ht.ev (hm x hx),λid cX=>ht.ak0 (ago dm rfl) (hm x hx) cX⟩];exact h3
  ·simp only[av]at he
 ·simp only[av]at he
theorem SK{T:TypeId}{n:Nat}{parts:Array (Nat×Operand)}(dm:o.op= .buildSlice T n parts){s':AS}(he:(mV P s (ayL bJ o.dst) (isObj bJ o.dst) o.dst T n parts.toList).eval=some s'):O1 P Γ bJ ops o s s':=by
 have afY:∀t,rb P Γ bJ o t=mV P t (ayL bJ o.dst) (isObj bJ o.dst) o.dst T n parts.toList:=λt=>by unfold rb;rw[dm]
 have hm:∀x∈parts.toList,x.2∈o.op.operands.toList:=λx hx=>by rw[dm];exact an9 hx
 unfold mV at he;split at he
 ·rename_i e ty b q K6 hd;obtain⟨h1,h2⟩:=aC.1 he;obtain⟨r,h3,h4⟩:=aw.1 h2;have aE5:∀id∈r.2,id∈(gR Γ ops s o).rs:=λid cX=>by obtain⟨x,hx,hi⟩:=yk _ _ _ h3 id cX;exact NR (ago dm rfl) (hm x hx) hi
  have aRi:∀t,mS (gR Γ ops s o) s t->∀l,jz ty t parts.toList l=jz ty s parts.toList l:=λt ht l=>BA _ _ λx hx=>⟨ht.ev (hm x hx),λid cX=>ht.ak0 (ago dm rfl) (hm x hx) cX⟩
  split at h4
  ·rename_i ho;obtain⟨h5,h6⟩:=aC.1 h4;obtain rfl:=ay.1 h6;refine A9 hd h5 aE5 λt ht hv=> ?_
   rw[afY];unfold mV;simp only[hd]at ho K6 ⊢;simp only[K6,ho];refine aC.2 ⟨h1,aw.2 ⟨r,by rw[aRi t ht];exact h3,aC.2 ⟨hv,ay.2 rfl⟩⟩⟩
  ·rename_i ho;obtain rfl:=ay.1 h4;refine XU aE5 λt ht=> ?_
   rw[afY];unfold mV;simp only[hd]at ho K6 ⊢;simp only[K6,ho];exact aC.2 ⟨h1,aw.2 ⟨r,by rw[aRi t ht];exact h3,ay.2 rfl⟩⟩
 ·simp only[av]at he
theorem W4{T:TypeId}{x y:Operand}(dm:o.op= .makeSlice T x y){len cap:Int}(hx:(asInt (s.ev x)).eval=some len)(hy:(asInt (s.ev y)).eval=some cap){s':AS}(he:(tc P s o.dst T len cap).eval=some s'):O1 P Γ bJ ops o s s':=by
 have afY:∀t,rb P Γ bJ o t=(asInt (t.ev x)).bind λl=>(asInt (t.ev y)).bind λc=>tc P t o.dst T l c:=λt=>by unfold rb;rw[dm]
 have hm:∀z,z=x\/z=y->z∈o.op.operands.toList:=λz hz=>by rw[dm];simpa[Op.operands]using hz
 unfold tc at he;split at he
 ·rename_i e ty b q K6 hd;obtain⟨h1,h2⟩:=aC.1 he;obtain⟨h3,h4⟩:=bS.1 h2;obtain rfl:=ay.1 h4;refine A9 (ids:=[]) hd h1 (λ_ h=>by cases h) λt ht hv=> ?_
  rw[afY,ht.ev (hm x (.inl rfl)),ht.ev (hm y (.inr rfl))];refine aw.2 ⟨len,hx,aw.2 ⟨cap,hy,?_⟩⟩;unfold tc;simp only[K6,hd];exact aC.2 ⟨hv,bS.2 ⟨h3,ay.2 rfl⟩⟩
 ·simp only[av]at he
theorem ajj{id:Id}{ver:Nat}{kt vt:Ty}(h:zY (t.bV id) (s.bV id)):t.uN id ver kt vt=s.uN id ver kt vt:=by
 unfold AS.uN;rcases RD h with⟨h1,h2⟩ | ⟨v,f,f',c,h1,h2⟩
 ·rw[h1,h2]
 ·rw[h1,h2];cases c <;> rfl
theorem ad1{T:TypeId}{m k:aB}{ok:Bool}(h:∀id∈m.ids,zY (t.bV id) (s.bV id)):FU P t T m k ok=FU P s T m k ok:=by
 unfold FU;split
 ·rename_i id ver hm;rw[ajj (h id (by simp[aB.ids]))]
 ·rfl
theorem af9{id:Id}{ver:Nat}{kt vt:Ty}{l:List (kt.den×vt.den)}(h:(s.uN id ver kt vt).eval=some l):∃e,s.bV id=some e:=by
 unfold AS.uN at h;split at h
 ·rename_i v fr k' v' l' mf;exact⟨_,ed mf⟩
 ·simp only[av]at h
theorem VG{id:Id}{ver:Nat}{kt vt:Ty}(h:t.bV id=s.bV id):t.uN id ver kt vt=s.uN id ver kt vt:=by unfold AS.uN AS.obj;rw[h]
theorem MP{id:Id}(h:t.bV id=s.bV id):t.vc id=s.vc id:=by unfold AS.vc AS.obj;rw[h]
theorem ad5{T:TypeId}{m k v:aB}{s':AS}(h:(FZ P s T m k v).eval=some s'):
  ∃id e0 e,m.ids=[id]/\s.bV id=some e0/\s'=s.bj id e/\∀t:AS,t.bV id=s.bV id->(FZ P t T m k v).eval=some (t.bj id e):=by
 unfold FZ at h;split at h
 ·rename_i K V kt vt id ver hm;obtain⟨l,h1,h⟩:=aw.1 h;obtain⟨kx,h2,h⟩:=aw.1 h;obtain⟨vx,h3,h⟩:=aw.1 h;obtain⟨hu,h⟩:=aC.1 h;obtain rfl:=ay.1 h;obtain⟨e0,aiK⟩:=af9 h1;refine⟨id,e0,_,rfl,aiK,rfl,λt ht=> ?_⟩;unfold FZ;simp only[hm];exact aw.2 ⟨l,by rw[VG ht];exact h1,aw.2 ⟨kx,h2,aw.2 ⟨vx,h3,aC.2 ⟨by rw[MP ht];exact hu,ay.2 rfl⟩⟩⟩⟩
 ·simp only[av]at h
theorem ad4{T:TypeId}{m k:aB}{s':AS}(h:(FY P s T m k).eval=some s'):
  ∃id e0 e,m.ids=[id]/\s.bV id=some e0/\s'=s.bj id e/\∀t:AS,t.bV id=s.bV id->(FY P t T m k).eval=some (t.bj id e):=by
 unfold FY at h;split at h
 ·rename_i K V kt vt id ver hm;obtain⟨l,h1,h⟩:=aw.1 h;obtain⟨kx,h2,h⟩:=aw.1 h;obtain⟨hu,h⟩:=aC.1 h;obtain rfl:=ay.1 h;obtain⟨e0,aiK⟩:=af9 h1;refine⟨id,e0,_,rfl,aiK,rfl,λt ht=> ?_⟩;unfold FY;simp only[hm];exact aw.2 ⟨l,by rw[VG ht];exact h1,aw.2 ⟨kx,h2,aC.2 ⟨by rw[MP ht];exact hu,ay.2 rfl⟩⟩⟩
 ·simp only[av]at h
theorem afe{s':AS}(he:(rb P Γ bJ o s).eval=some s'):O1 P Γ bJ ops o s s':=by
 have aiK:=he;have one:∀x,o.op.operands= #[x]->∀t,mS (gR Γ ops s o) s t->t.ev x=s.ev x/\(aga o.op=false->∀id∈(s.ev x).ids,zY (t.bV id) (s.bV id)):=λx hx t ht=>
  have hm:x∈o.op.operands.toList:=by rw[hx];simp
  ⟨ht.ev hm,λhn _ cX=>ht.ak0 hn hm cX⟩
 unfold rb at he;split at he
 ·rename_i x dm;obtain rfl:=ay.1 he;refine mn λt ht=> ?_
  unfold rb;rw[dm];simp only;rw[(one x (by rw[dm];rfl) t ht).1];rfl
 ·rename_i x dm;obtain rfl:=ay.1 he;refine mn λt ht=> ?_
  unfold rb;rw[dm];simp only;rw[(one x (by rw[dm];rfl) t ht).1];rfl
 ·rename_i c x y dm;refine oP (F:=λt=>av3 (t.ev c) (t.ev x) (t.ev y)) (λt=>by unfold rb;rw[dm]) (λt ht=> ?_) aiK;rw[ht.ev (by rw[dm];simp[Op.operands]),ht.ev (by rw[dm];simp[Op.operands]),ht.ev (by rw[dm];simp[Op.operands])]
 ·rename_i T dm;split at he
  ·rename_i z q hz hq;obtain⟨h1,h2⟩:=aC.1 he;obtain rfl:=ay.1 h2;simp only[au]at h1;refine A9 (ids:=[]) hq h1.1 (λ_ h=>by cases h) λt ht hv=> ?_
   unfold rb;rw[dm];simp only[hz,hq];exact aC.2 ⟨by simp[hv,h1.2],ay.2 rfl⟩
  ·exact(av.1 he).elim
 ·rename_i T x dm;exact axn dm he
 ·rename_i T parts dm;exact alJ dm he
 ·rename_i T n parts dm;exact SK dm he
 ·rename_i T x dm;refine oP (F:=λt=>QH P t T (t.ev x)) (λt=>by unfold rb;rw[dm]) (λt ht=> ?_) aiK;obtain⟨h1,h2⟩:=one x (by rw[dm];rfl) t ht;rw[h1,anw (h2 (ago dm rfl))]
 ·rename_i T x v dm;obtain⟨s1,h1,h2⟩:=aw.1 he;obtain rfl:=ay.1 h2;obtain⟨id,e0,e,cX,hs,rfl,hl⟩:=akj h1;refine FT hs ?_ λt ht ayD=> ?_
  ·show id∈writes Γ s o;unfold writes;rw[dm];simp only[cX,bh]
  ·unfold rb;rw[dm];simp only;rw[ht.ev (x:=x) (by rw[dm];simp[Op.operands]),ht.ev (x:=v) (by rw[dm];simp[Op.operands])];exact aw.2 ⟨_,hl t ayD,ay.2 rfl⟩
 ·rename_i x dm;split at he
  ·rename_i id v p n hx;obtain rfl:=ay.1 he;refine mn λt ht=> ?_
   unfold rb;rw[dm];simp only[(one x (by rw[dm];rfl) t ht).1,hx];rfl
  ·rename_i ty y hx;obtain rfl:=ay.1 he;refine mn λt ht=> ?_
   unfold rb;rw[dm];simp only[(one x (by rw[dm];rfl) t ht).1,hx];rfl
  ·rename_i ty y hx;obtain⟨z,e,he⟩:=xu.1 he;obtain rfl:=ay.1 he;refine mn λt ht=> ?_
   unfold rb;rw[dm];simp only[(one x (by rw[dm];rfl) t ht).1,hx];exact xu.2 ⟨z,e,ay.2 rfl⟩
  ·rename_i f c hx;obtain rfl:=ay.1 he;refine mn λt ht=> ?_
   unfold rb;rw[dm];simp only[(one x (by rw[dm];rfl) t ht).1,hx];rfl
  ·exact(av.1 he).elim
 ·rename_i op T x y U dm;have aE0:x∈o.op.operands.toList:=by rw[dm];simp[Op.operands]
  have aQp:y∈o.op.operands.toList:=by rw[dm];simp[Op.operands]
  split at he
  ·rename_i i v1 j v2 hx hy;obtain⟨v,h1,h2⟩:=aw.1 he;obtain rfl:=ay.1 h2;refine mn λt ht=> ?_
   unfold rb;rw[dm];simp only[ht.ev aE0,ht.ev aQp,hx,hy];exact aw.2 ⟨v,by rw[ax8 (ht.ak0 (ago dm rfl) aE0 (by rw[hx];simp[aB.ids]))];exact h1,rfl⟩
  ·rename_i gC;obtain⟨v,h1,h2⟩:=aw.1 he;obtain rfl:=ay.1 h2;refine mn λt ht=> ?_
   unfold rb;rw[dm];simp only[ht.ev aE0,ht.ev aQp];exact aw.2 ⟨v,h1,rfl⟩
 ·rename_i op T x dm;refine oP (F:=λt=>aSZ op (t.ev x)) (λt=>by unfold rb;rw[dm]) (λt ht=> ?_) aiK;rw[(one x (by rw[dm];rfl) t ht).1]
 ·rename_i T U x dm;split at he
  ·rename_i id ver len hTU hx;unfold al6 at he;split at he
   ·rename_i v e0 l e mf hD;split at he
    ·rename_i hE;obtain⟨h1,h2⟩:=aC.1 he;obtain⟨h3,h4⟩:=bS.1 h2;obtain rfl:=ay.1 h4;refine FT (ed mf) ?_ λt ht ayD=> ?_
     ·show id∈writes Γ s o;unfold writes;rw[dm];simp only[hTU,hx];simp[aB.ids]
     ·have hob':t.obj id=some (v,false,.vec e0 (.int .u8) l):=by simp only[AS.obj,ayD];exact mf
      unfold rb;rw[dm];simp only[hTU,(one x (by rw[dm];rfl) t ht).1,hx];unfold al6;simp only[hob',hD,hE];exact aC.2 ⟨h1,bS.2 ⟨h3,ay.2 rfl⟩⟩
    ·exact(av.1 he).elim
   ·exact(av.1 he).elim
  ·rename_i id ver hx;obtain⟨v,h1,h2⟩:=aw.1 he;obtain rfl:=ay.1 h2;refine mn λt ht=> ?_
   obtain⟨h3,h4⟩:=one x (by rw[dm];rfl) t ht;unfold rb;rw[dm];simp only[h3,hx];exact aw.2 ⟨v,by rw[al7 (h4 (ago dm rfl) _ (by rw[hx];simp[aB.ids]))];exact h1,rfl⟩
  ·rename_i gC;obtain⟨v,h1,h2⟩:=aw.1 he;obtain rfl:=ay.1 h2;refine mn λt ht=> ?_
   obtain⟨h3,h4⟩:=one x (by rw[dm];rfl) t ht;unfold rb;rw[dm];simp only[h3];exact aw.2 ⟨v,by rw[al5 (h4 (ago dm rfl))];exact h1,rfl⟩
 ·rename_i T x dm;exact apC dm he
 ·rename_i f first caps dm
  obtain⟨h1,h2⟩:=aC.1 he;obtain rfl:=ay.1 h2;refine mn λt ht=> ?_
  have hc:sO t caps.toList=sO s caps.toList:=Pt _ λx hx=>ht.ev (by rw[dm];simp only[Op.operands,bX];exact bB.2 (.inr hx))
  unfold rb;rw[dm];simp only[hc];exact aC.2 ⟨h1,ay.2 rfl⟩
 ·rename_i T l c dm;obtain⟨n,h1,h2⟩:=aw.1 he;obtain⟨m,h3,h4⟩:=aw.1 h2;exact W4 dm h1 h3 h4
 ·rename_i T x lo hi dm;refine oP (F:=λt=>Jx P t T (t.ev x) lo hi) (λt=>by unfold rb;rw[dm]) (λt ht=> ?_) aiK;have hm:∀z,(z=x\/lo=some z\/hi=some z)->z∈o.op.operands.toList:=λz hz=>by
   rw[dm];simp only[Op.operands,bX,bB];rcases hz with rfl | rfl | rfl
   ·left;left;left;simp
   ·left;left;right;simp
   ·left;right;simp
  have hx:=hm x (.inl rfl);rw[ht.ev hx];exact RH (λid cX=>ht.ak0 (ago dm rfl) hx cX) (λy hy=>ht.ev (hm y (.inr (.inl hy)))) (λy hy=>ht.ev (hm y (.inr (.inr hy))))
 ·rename_i T x lo y m dm;refine oP (F:=λt=>RG P t T (t.ev x) lo y m) (λt=>by unfold rb;rw[dm]) (λt ht=> ?_) aiK;have hm:∀z,(z=x\/lo=some z\/y=z\/m=z)->z∈o.op.operands.toList:=λz hz=>by
   rw[dm];simp only[Op.operands,bX,bB];rcases hz with rfl | rfl | rfl | rfl
   ·left;left;left;simp
   ·left;left;right;simp
   ·left;right;simp
   ·right;simp
  have hx:=hm x (.inl rfl);rw[ht.ev hx];exact aeE (λid cX=>ht.ak0 (ago dm rfl) hx cX) (λz hz=>ht.ev (hm z (.inr (.inl hz)))) (ht.ev (hm y (.inr (.inr (.inl rfl))))) (ht.ev (hm m (.inr (.inr (.inr rfl)))))
 ·rename_i T x f dm;refine oP (F:=λt=>FN P T (t.ev x) f) (λt=>by unfold rb;rw[dm]) (λt ht=> ?_) aiK;rw[(one x (by rw[dm];rfl) t ht).1]
 ·rename_i T x f dm;refine oP (F:=λt=>aiB P T (t.ev x) f) (λt=>by unfold rb;rw[dm]) (λt ht=> ?_) aiK;rw[(one x (by rw[dm];rfl) t ht).1]
 ·rename_i T x i dm;refine oP (F:=λt=>(asInt (t.ev i)).bind λi=>sX P t T (t.ev x) i) (λt=>by unfold rb;rw[dm,Out.bind_assoc]) (λt ht=> ?_) aiK;have hx:x∈o.op.operands.toList:=by rw[dm];simp[Op.operands]
  rw[ht.ev (x:=i) (by rw[dm];simp[Op.operands]),ht.ev hx];congr 1;funext i;exact Ti λid cX=>ht.ak0 (ago dm rfl) hx cX
 ·rename_i T x i dm;refine oP (F:=λt=>(asInt (t.ev i)).bind λi=>aiX P T (t.ev x) i) (λt=>by unfold rb;rw[dm,Out.bind_assoc]) (λt ht=> ?_) aiK;rw[ht.ev (x:=i) (by rw[dm];simp[Op.operands]),ht.ev (x:=x) (by rw[dm];simp[Op.operands])]
 ·rename_i x i dm;refine oP (F:=λt=>Out.opt ((t.ev x).list[i]?)) (λt=>by unfold rb;rw[dm]) (λt ht=> ?_) aiK;rw[(one x (by rw[dm];rfl) t ht).1]
 ·rename_i T dm;have Qj:=he;unfold Iy at Qj;split at Qj
  ·rename_i K V kt vt q hm hd;obtain⟨h1,h2⟩:=aC.1 Qj;obtain rfl:=ay.1 h2;refine A9 (ids:=[]) hd h1 (λ_ h=>by cases h) λt ht hv=> ?_
   unfold rb;rw[dm];simp only;unfold Iy;simp only[hm,hd];exact aC.2 ⟨hv,ay.2 rfl⟩
  ·exact(av.1 Qj).elim
 ·rename_i T x i ok dm;refine oP (F:=λt=>FU P t T (t.ev x) (t.ev i) ok) (λt=>by unfold rb;rw[dm]) (λt ht=> ?_) aiK;have hx:x∈o.op.operands.toList:=by rw[dm];simp[Op.operands]
  rw[ht.ev (x:=i) (by rw[dm];simp[Op.operands]),ht.ev hx];exact ad1 λid cX=>ht.ak0 (ago dm rfl) hx cX
 ·rename_i T m k x dm;obtain⟨s1,h1,h2⟩:=aw.1 he;obtain rfl:=ay.1 h2;obtain⟨id,e0,e,cX,hs,rfl,hl⟩:=ad5 h1;refine FT hs ?_ λt ht ayD=> ?_
  ·show id∈writes Γ s o;unfold writes;rw[dm];simp only[cX,bh]
  ·unfold rb;rw[dm];simp only;rw[ht.ev (x:=m) (by rw[dm];simp[Op.operands]),ht.ev (x:=k) (by rw[dm];simp[Op.operands]),ht.ev (x:=x) (by rw[dm];simp[Op.operands])];exact aw.2 ⟨_,hl t ayD,ay.2 rfl⟩
 ·rename_i c dm;obtain⟨cal,args,tys⟩:=c;simp only at he;split at he
  ·split at he
   ·rename_i m k T T2 ha ht';have aTN:m∈o.op.operands.toList:=by rw[dm];simp only[Op.operands,Call.operands,aT,bX,ha];simp
    have aK2:k∈o.op.operands.toList:=by rw[dm];simp only[Op.operands,Call.operands,aT,bX,ha];simp
    obtain⟨s1,h1,h2⟩:=aw.1 he;obtain rfl:=ay.1 h2;obtain⟨id,e0,e,cX,hs,rfl,hl⟩:=ad4 h1;refine FT hs ?_ λt ht ayD=> ?_
    ·show id∈writes Γ s o;unfold writes;rw[dm];simp only[ha,cX,bh]
    ·unfold rb;rw[dm];simp only[ha,ht'];rw[ht.ev aTN,ht.ev aK2];exact aw.2 ⟨_,hl t ayD,ay.2 rfl⟩
   ·exact(av.1 he).elim
  ·split at he
   ·rename_i x y T X ha ht';exact arf dm rfl ha ht' he
   ·exact(av.1 he).elim
  ·split at he
   ·rename_i x T ha ht';refine oP (F:=λt=>aLz P T (t.ev x)) (λt=>by unfold rb;rw[dm];simp only[ha,ht']) (λt ht=> ?_) aiK;rw[ht.ev (by rw[dm];simp only[Op.operands,Call.operands,aT,bX,ha];simp)]
   ·exact(av.1 he).elim
  ·split at he
   ·rename_i x y T X ha ht';have aE0:x∈o.op.operands.toList:=by rw[dm];simp only[Op.operands,Call.operands,aT,bX,ha];simp
    have aQp:y∈o.op.operands.toList:=by rw[dm];simp only[Op.operands,Call.operands,aT,bX,ha];simp
    split at he
    ·rename_i k n hx hy;have Qj:=he;unfold amW at Qj;split at Qj
     ·rename_i e t0 b q kn K6 hd hX;obtain⟨h1,h2⟩:=aC.1 Qj;obtain⟨h3,h4⟩:=bS.1 h2;obtain rfl:=ay.1 h4;refine A9 (ids:=[]) hd h1 (λ_ h=>by cases h) λt ht hv=> ?_
      unfold rb;rw[dm];simp only[ha,ht',ht.ev aE0,ht.ev aQp,hx,hy];unfold amW;simp only[K6,hd,hX];exact aC.2 ⟨hv,bS.2 ⟨h3,ay.2 rfl⟩⟩
     ·exact(av.1 Qj).elim
    ·rename_i gC;exact ahv dm rfl ha ht' gC he
   ·exact(av.1 he).elim
  ·split at he
   ·rename_i x T ha ht';have aE0:x∈o.op.operands.toList:=by rw[dm];simp only[Op.operands,Call.operands,aT,bX,ha];simp
    split at he
    ·rename_i e hx hT;obtain rfl:=ay.1 he;refine mn λt ht=> ?_
     unfold rb;rw[dm];simp only[ha,ht',ht.ev aE0,hx,hT];rfl
    ·exact(av.1 he).elim
   ·exact(av.1 he).elim
  ·refine oP (F:=λt=>azc true (args.toList.map t.ev)) (λt=>by unfold rb;rw[dm]) (λt ht=> ?_) aiK;congr 1;exact gz λx hx=>ht.ev (by rw[dm];simp only[Op.operands,Call.operands,aT,bX];exact hx)
  ·refine oP (F:=λt=>azc false (args.toList.map t.ev)) (λt=>by unfold rb;rw[dm]) (λt ht=> ?_) aiK;congr 1;exact gz λx hx=>ht.ev (by rw[dm];simp only[Op.operands,Call.operands,aT,bX];exact hx)
  ·split at he
   ·rename_i x ha;have aE0:x∈o.op.operands.toList:=by rw[dm];simp only[Op.operands,Call.operands,aT,bX,ha];simp
    split at he
    ·rename_i id ver len hx;obtain⟨h1,h2⟩:=bS.1 he;obtain rfl:=ay.1 h2;refine mn λt ht=> ?_
     unfold rb;rw[dm];simp only[ha,ht.ev aE0,hx];exact bS.2 ⟨h1,rfl⟩
    ·exact(av.1 he).elim
   ·exact(av.1 he).elim
  ·split at he
   ·rename_i x y T U ha ht';have aE0:x∈o.op.operands.toList:=by rw[dm];simp only[Op.operands,Call.operands,aT,bX,ha];simp
    have aQp:y∈o.op.operands.toList:=by rw[dm];simp only[Op.operands,Call.operands,aT,bX,ha];simp
    split at he
    ·rename_i id ver n hx hy;have Qj:=he;unfold apy at Qj;split at Qj
     ·rename_i v e l u mf hT;obtain⟨h1,h2⟩:=aC.1 Qj;obtain⟨h3,h4⟩:=bS.1 h2;obtain rfl:=ay.1 h4;refine FT (ed mf) ?_ λt ht ayD=> ?_
      ·show id∈writes Γ s o;unfold writes;rw[dm];simp only[ha,hx];simp[aB.ids]
      ·have hob':t.obj id=some (v,false,.vec e (.int .u8) l):=by simp only[AS.obj,ayD];exact mf
       unfold rb;rw[dm];simp only[ha,ht',ht.ev aE0,ht.ev aQp,hx,hy];unfold apy;simp only[hob',hT];exact aC.2 ⟨h1,bS.2 ⟨h3,ay.2 rfl⟩⟩
     ·exact(av.1 Qj).elim
    ·exact(av.1 he).elim
   ·exact(av.1 he).elim
  ·rename_i F _;split at he
   ·rename_i f caps hF;split at he
    ·rename_i en arJ;obtain⟨gJ,he⟩:=aC.1 he;exact aqU dm rfl hF arJ gJ he
    ·exact(av.1 he).elim
   ·exact(av.1 he).elim
  ·exact(av.1 he).elim
 ·exact(av.1 he).elim
end
end Go.Ab
namespace Go.Ab
section
variable {P:Program} {Γ:oT} {bJ:List Nat} {ops:Array Oper} {o:Oper} {s t:AS}
def Loc(P:Program)(Γ:oT)(bJ:List Nat)(ops:Array Oper)(o:Oper)(s s':AS):Prop:=∃E,App o.dst E s s'/\ahq (gR Γ ops s o) s E/\∀t,mS (gR Γ ops s o) s t->∃t',K4 P Γ bJ ops o t=some t'/\App o.dst E t t'
theorem ZQ{s':AS}(he:K4 P Γ bJ ops o s=some s'):Loc P Γ bJ ops o s s':=by
 unfold K4 at he;split at he
 ·rename_i hg;obtain⟨E,h1,h2,h3⟩:=afe (ops:=ops) he;refine⟨E,h1,h2,λt ht=> ?_⟩;obtain⟨t',h4,h5⟩:=h3 t ht;exact⟨t',by unfold K4;simp only[hg];exact h4,h5⟩
 ·rename_i j want hg;split at he
  ·rename_i q hq;split at he
   ·rename_i b hb;have avv:∀t,mS (gR Γ ops s o) s t->t.slot q= .d .bool b:=λt ht=>by rw[ht.cq q (bB.2 (.inr (by unfold S9;simp only[hg,hq];simp)))];exact hb
    by_cases e:b=want
    ·rw[if_pos e]at he;obtain⟨E,h1,h2,h3⟩:=afe (ops:=ops) he;refine⟨E,h1,h2,λt ht=> ?_⟩;obtain⟨t',h4,h5⟩:=h3 t ht;exact⟨t',by unfold K4;simp only[hg,hq,avv t ht,if_pos e];exact h4,h5⟩
    ·rw[if_neg e]at he;simp only[az]at he;subst he;exact⟨⟨.nil,λ_=>none,[]⟩,App.KC _ _ _,⟨λ_ _ h=>by simp at h,λ_ h=>by simp at h⟩,λt ht=>⟨_,by unfold K4;simp only[hg,hq,avv t ht,if_neg e],App.KC _ _ _⟩⟩
   ·rename_i hb;have avv:∀t,mS (gR Γ ops s o) s t->t.slot q= .nil:=λt ht=>by rw[ht.cq q (bB.2 (.inr (by unfold S9;simp only[hg,hq];simp)))];exact hb
    simp only[az]at he;subst he;exact⟨⟨.nil,λ_=>none,[]⟩,App.KC _ _ _,⟨λ_ _ h=>by simp at h,λ_ h=>by simp at h⟩,λt ht=>⟨_,by unfold K4;simp only[hg,hq,avv t ht],App.KC _ _ _⟩⟩
   ·cases he
  ·cases he
theorem akO(h:mS (gR Γ ops s o) s t):writes Γ t o=writes Γ s o:=by
 have aJr:∀id∈writes Γ s o,t.bV id=s.bV id:=h.ws;unfold writes at aJr ⊢;split
 ·rename_i x v dm;rw[h.ev (by rw[dm];simp[Op.operands])]
 ·rename_i m k v dm;rw[h.ev (by rw[dm];simp[Op.operands])]
 ·rename_i T U x dm;rw[h.ev (by rw[dm];simp[Op.operands])]
 ·rename_i c dm;obtain⟨cal,args,tys⟩:=c;simp only[dm]at aJr;simp only;split
  ·split
   ·rename_i x l ha;rw[h.ev (by rw[dm];simp only[Op.operands,Call.operands,aT,bX,ha];simp)]
   ·rfl
  ·split
   ·rename_i x l ha;rw[h.ev (by rw[dm];simp only[Op.operands,Call.operands,aT,bX,ha];simp)]
   ·rfl
  ·split
   ·rename_i x l ha;rw[h.ev (by rw[dm];simp only[Op.operands,Call.operands,aT,bX,ha];simp)]
   ·rfl
  ·split
   ·rename_i x l ha;rw[h.ev (by rw[dm];simp only[Op.operands,Call.operands,aT,bX,ha];simp)]
   ·rfl
  ·rename_i F;simp only at aJr;have hm:∀z,z=F\/z∈args.toList->z∈o.op.operands.toList:=λz hz=>by
    rw[dm];simp only[Op.operands,Call.operands,bX,bB];rcases hz with rfl | hz
    ·exact .inl (by simp)
    ·exact .inr hz
   have h1:t.ev F=s.ev F:=h.ev (hm F (.inl rfl));have h2:args.toList.map t.ev=args.toList.map s.ev:=gz λx hx=>h.ev (hm x (.inr hx))
   rw[h1];split
   ·rename_i f caps hF;simp only[hF]at aJr;rw[h2];split
    ·rename_i en arJ;simp only[arJ]at aJr;exact xG _ _ _ λid cX=>by rw[aJr id cX]
    ·rfl
   ·rfl
  ·rfl
 ·rfl
theorem ZJ(h:mS (gR Γ ops s o) s t):gR Γ ops t o=gR Γ ops s o:=by
 have h1:=akO h;have h2:anY t o=anY s o:=by
  unfold anY;split
  ·rfl
  unfold List.flatMap;congr 1;exact gz λi hi=>by rw[h.cq i (bB.2 (.inl hi))]
 unfold gR;rw[h1,h2]
theorem xA{xs ys:List Id}(h:meets xs ys=false){id:Id}(hx:id∈xs):id ∉ ys:=by
 intro hy;have:meets xs ys=true:=by unfold meets;exact List.any_eq_true.2 ⟨id,hx,List.any_eq_true.2 ⟨id,hy,by simp⟩⟩
 rw[h]at this;cases this
theorem uX{d:Option Tmp}{ids:List Id}(h:acs d ids=false){q:Nat}(hd:d=some q)(j:Nat):Id.new q j ∉ ids:=by
 intro hy;have:acs d ids=true:=by subst hd;exact List.any_eq_true.2 ⟨_,hy,by simp⟩
 rw[h]at this;cases this
theorem Ku{f g:HE}(h:f.aRt g=false){q:Nat}(hd:f.dst=some q):q ∉ g.cq/\g.dst≠some q:=by unfold HE.aRt at h;rw[hd]at h;simp only[Bool.or_eq_false_iff,jq,aW,gQ]at h;exact⟨λhx=>h.1 q hx rfl,h.2⟩
theorem apj(s:AS)(d:Option Tmp)(v:aB)(i:Nat)(h:d≠some i):(s.put d v).slot i=s.slot i:=by
 cases d with
 |none=>rfl
 |some q=>rw[acw,if_neg];rintro⟨rfl,_⟩;exact h rfl
theorem App.slot{d:Option Tmp}{E:aP9}{s s':AS}(h:App d E s s')(i:Nat)(hi:d≠some i):s'.slot i=s.slot i:=by rw[<-apj s d E.v i hi];simp only[AS.slot,h.cq]
theorem ak6{f f':HE}{E:aP9}{s s1:AS}(ha:App f.dst E s s1)(hw:ahq f s E)(aT5:∀id∈f'.ws,id∈f'.rs)(h1:f.aRt f'=false)(h2:meets f.ws f'.rs=false)(h3:meets f'.ws f.rs=false)
  (h4:acs f.dst f'.rs=false):(∀i∈f'.cq,s1.slot i=s.slot i)/\(∀id∈f'.ws,s1.bV id=s.bV id)/\(∀id∈f'.rs,zY (s1.bV id) (s.bV id))/\∀q,f'.dst=some q->s1.dY q=s.dY q:=by
 have WZ:∀id∈f'.rs,E.up id=none:=λid cX=>by
  cases hu:E.up id with
  |none=>rfl
  |some e=>
   rcases hw.up id e hu with⟨h,_⟩ | ⟨q,j,hd,rfl⟩
   ·exact absurd cX (xA h2 h)
   ·exact absurd cX (uX h4 hd j)
 refine⟨λi hi=>ha.slot i λhd=>(Ku h1 hd).1 hi,λid cX=> ?_,λid cX=> ?_,λq hq=> ?_⟩
 ·rw[ha.bV,WZ id (aT5 id cX)];have:id ∉ E.fz:=λhz=>xA h3 cX (hw.fz id hz)
  simp only[if_neg this]
 ·rw[ha.bV,WZ id cX];simp only;split
  ·exact aAM _
  ·exact aAN _
 ·have gC:∀j,(s1.bV (.new q j)=none↔s.bV (.new q j)=none):=λj=>by
   rw[ha.bV];cases hu:E.up (.new q j) with
   |none=>
    simp only;split <;> simp
   |some e=>
    rcases hw.up _ e hu with⟨_,h⟩ | ⟨q',j',hd,he⟩
    ·simp[h]
    ·simp only[Id.new.injEq]at he;obtain⟨rfl,_⟩:=he;exact absurd hq (Ku h1 hd).2
  rw[Bool.eq_iff_iff,BL,BL,ha.len];exact and_congr Iff.rfl (forall_congr' gC)
theorem Ic(s:AS)(o:Oper):∀id∈(gR Γ ops s o).ws,id∈(gR Γ ops s o).rs:=λ_ cX=>bB.2 (.inr cX)
theorem swap{o':Oper}{s1 s2:AS}(h1:K4 P Γ bJ ops o s=some s1)(h2:K4 P Γ bJ ops o' s1=some s2)(hi:(gR Γ ops s o).indep (gR Γ ops s1 o')=true):
  ∃t1,K4 P Γ bJ ops o' s=some t1/\K4 P Γ bJ ops o t1=some s2/\gR Γ ops s o'=gR Γ ops s1 o'/\gR Γ ops t1 o=gR Γ ops s o:=by
 unfold HE.indep at hi;simp only[au,cC]at hi;obtain⟨⟨⟨⟨⟨i1,i2⟩,i3⟩,i4⟩,i5⟩,i6⟩:=hi;obtain⟨E,a1,w1,l1⟩:=ZQ h1;obtain⟨E',a2,w2,l2⟩:=ZQ h2;obtain⟨g1,g2,g3,g4⟩:=ak6 (f:=gR Γ ops s o) (f':=gR Γ ops s1 o') a1 w1 (Ic _ _) i1 i3 i4 i5;have OX:mS (gR Γ ops s1 o') s1 s:=⟨λi hi=>(g1 i hi).symm,λid cX=>(g2 id cX).symm,λid cX=>by
  have:=g3 id cX
  revert this
  cases s1.bV id <;> cases s.bV id <;> simp only[zY] <;> intro h <;> first | trivial | exact h | skip
  rename_i a b;cases a <;> cases b <;> simp_all [dE.ak0],λq hq=>(g4 q hq).symm⟩
 obtain⟨t1,k1,k2⟩:=l2 s OX;have hf':=ZJ OX;have w2':ahq (gR Γ ops s1 o') s E':=⟨λid e hu=>by
  rcases w2.up id e hu with⟨h,hn⟩ | h
  ·exact .inl ⟨h,by rw[<-g2 id h];exact hn⟩
  ·exact .inr h,w2.fz⟩
 obtain⟨m1,m2,m3,m4⟩:=ak6 (f:=gR Γ ops s1 o') (f':=gR Γ ops s o) k2 w2' (Ic _ _) i2 i4 i3 i6;have aQ7:mS (gR Γ ops s o) s t1:=⟨m1,m2,m3,m4⟩;obtain⟨t2,k3,k4⟩:=l1 t1 aQ7;refine⟨t1,k1,?_,hf',ZJ aQ7⟩;rw[k3];congr 1;have aRN:∀id e,E.up id=some e->E'.up id=none/\id ∉ E'.fz:=λid e hu=>by
  rcases w1.up id e hu with⟨h,hn⟩ | ⟨q,j,hd,rfl⟩
  ·refine⟨?_,λhz=>xA i3 h (w2.fz id hz)⟩;cases hu':E'.up id with
   |none=>rfl
   |some e'=>
    rcases w2.up id e' hu' with⟨h',_⟩ | ⟨q,j,hd,rfl⟩
    ·exact absurd (Ic _ _ id h') (xA i3 h)
    ·exact absurd (Ic _ _ _ h) (uX i6 hd j)
  ·refine⟨?_,λhz=>uX i5 hd j (w2.fz _ hz)⟩;cases hu':E'.up (.new q j) with
   |none=>rfl
   |some e'=>
    rcases w2.up _ e' hu' with⟨h',_⟩ | ⟨q',j',hd',he⟩
    ·exact absurd (Ic _ _ _ h') (uX i5 hd j)
    ·simp only[Id.new.injEq]at he;obtain⟨rfl,_⟩:=he;exact absurd hd' (Ku i1 hd).2
 have aUc:∀id e,E'.up id=some e->E.up id=none/\id ∉ E.fz:=λid e hu=>by
  have hn:E.up id=none:=by
   cases aWM:E.up id with
   |none=>rfl
   |some e1=>rw[(aRN id e1 aWM).1]at hu;cases hu
  refine⟨hn,λhz=> ?_⟩;rcases w2.up id e hu with⟨h,_⟩ | ⟨q,j,hd,rfl⟩
  ·exact xA i4 h (w1.fz id hz)
  ·exact uX i6 hd j (w1.fz _ hz)
 refine AS.aEu ?_ (by rw[k4.len,k2.len,a2.len,a1.len]) λid=> ?_
 ·have e1:∀(u u':AS) (d:Option Tmp) (v:aB),u.cq=u'.cq->(u.put d v).cq=(u'.put d v).cq:=λu u' d v h=>by cases d <;> simp[AS.put,h]
  rw[k4.cq,a2.cq,e1 t1 (s.put o'.dst E'.v) _ _ k2.cq,e1 s1 (s.put o.dst E.v) _ _ a1.cq];cases hd:o.dst with
  |none=>cases o'.dst <;> rfl
  |some q=>
   cases hd':o'.dst with
   |none=>rfl
   |some q'=>
    have gC:q'≠q:=λe=>(Ku (f:=gR Γ ops s o) i1 hd).2 (by show o'.dst=some q;rw[hd',e])
    simp only[AS.put];exact List.set_comm _ _ gC
 ·rw[k4.bV,k2.bV,a2.bV,a1.bV];cases hu:E.up id with
  |some e=>
   obtain⟨h3,h4⟩:=aRN id e hu;simp only[h3,if_neg h4]
  |none=>
   simp only;cases hu':E'.up id with
   |some e=>
    obtain⟨_,h4⟩:=aUc id e hu';simp only[if_neg h4]
   |none=>
    simp only;by_cases z1:id∈E.fz <;> by_cases z2:id∈E'.fz <;> simp only[if_pos,if_neg,z1,z2,not_false_eq_true]
end
end Go.Ab
namespace Go.Ab
section
variable {P:Program} {Γ:oT} {bJ:List Nat} {ops:Array Oper}
def ak2(P:Program)(Γ:oT)(bJ:List Nat)(ops:Array Oper)(fs:Nat->HE):List Nat->AS->AS->Prop
 |[],s,sn=>s=sn
 |i::l,s,sn=>∃o,ops[i]? =some o/\gR Γ ops s o=fs i/\∃s',K4 P Γ bJ ops o s=some s'/\ak2 P Γ bJ ops fs l s' sn
theorem ak2.aC2{fs:Nat->HE}{i:Nat}{l2:List Nat}{sn:AS}:∀(l1:List Nat) {s:AS},ak2 P Γ bJ ops fs (l1++i::l2) s sn->(∀j∈l1,(fs j).indep (fs i)=true)->ak2 P Γ bJ ops fs (i::(l1++l2)) s sn
 |[],_,h,_=>h
 |j::l1,s,h,hi=>by
  obtain⟨oj,h1,h2,s1,h3,h4⟩:=h;obtain⟨oi,h5,h6,s2,h7,h8⟩:=ak2.aC2 l1 h4 λj hj=>hi j (aI _ hj)
  have hd:=hi j (aL ..);rw[<-h2,<-h6]at hd;obtain⟨t1,k1,k2,k3,k4⟩:=swap h3 h7 hd;exact⟨oi,h5,by rw[k3,h6],t1,k1,oj,h1,by rw[k4,h2],s2,k2,h8⟩
theorem afV{R:Type}{anc:List Nat}{k:AS->Option R}{r:R}:∀(l:List Oper) (i:Nat) (acc:List (Nat×HE)) (s:AS) (f0:Nat->HE),(∀n o,l[n]? =some o->ops[i+n]? =some o)->(∀x∈acc,f0 x.1=x.2/\x.1 < i)->
  afU P Γ bJ ops anc i l acc s k=some r->∃fs sn,(∀j,j < i->fs j=f0 j)/\ak2 P Γ bJ ops fs (List.range' i l.length) s sn/\k sn=some r/\
   (∀x∈acc,∀m,i<=m->m < i+l.length->(anc.getD m 0).testBit x.1=true\/x.2.indep (fs m)=true)/\(∀m1 m2,i<=m1->m1 < m2->m2 < i+l.length->(anc.getD m2 0).testBit m1=true\/(fs m1).indep (fs m2)=true)
 |[],i,acc,s,f0,_,_,h=>⟨f0,s,λ_ _=>rfl,rfl,h,λ_ _ m h1 h2=>by simp at h2;omega,λ_ _ h1 h2 h3=>by simp at h3;omega⟩
 |o::l,i,acc,s,f0,ho,hf,h=>by
  unfold afU at h;split at h
  ·rename_i C8;simp only[AS.Ry]at h;obtain⟨s',h1,h2⟩:=amV (k:=λs'=>afU P Γ bJ ops anc (i+1) l ((i,gR Γ ops s o)::acc) s' k) h;have aTm:∀x∈(i,gR Γ ops s o)::acc,(if x.1=i then gR Γ ops s o else f0 x.1)=x.2/\x.1 < i+1:=λx hx=>by
    rcases cd.1 hx with rfl | hx
    ·simp
    ·obtain⟨q1,q2⟩:=hf x hx;rw[if_neg ak];exact⟨q1,ak⟩
   obtain⟨fs,sn,g1,g2,g3,g4,g5⟩:=afV l (i+1) ((i,gR Γ ops s o)::acc) s' (λn=>if n=i then gR Γ ops s o else f0 n)
    (λn o' hn=>by have:=ho (n+1) o' (by simpa using hn);rw[<-this];congr 1;omega) aTm h2
   have gi:fs i=gR Γ ops s o:=by rw[g1 i ak,if_pos rfl]
   refine⟨fs,sn,λj hj=>by rw[g1 j ak,if_neg ak],?_,g3,λx hx m h3 h4=> ?_,λm1 m2 h3 h4 h5=> ?_⟩
   ·rw[aA,List.range'_succ];exact⟨o,ho 0 o rfl,gi.symm,s',h1,g2⟩
   ·rcases Nat.eq_or_lt_of_le h3 with rfl | h3
    ·have:=cV.1 C8 x hx;simp only[fW]at this;rcases this with h | h
     ·exact .inl h
     ·right;rw[gi];exact h
    ·exact g4 x (aI _ hx) m ak (by simp only[aA]at h4;omega)
   ·rcases Nat.eq_or_lt_of_le h3 with rfl | h3
    ·rw[gi];exact g4 (i,gR Γ ops s o) (aL ..) m2 ak (by simp only[aA]at h5;omega)
    ·exact g5 m1 m2 ak h4 (by simp only[aA]at h5;omega)
  ·cases h
theorem alc{acc:List Nat}{j:Nat}:∀ {l:List Edge},(l.foldr (λe m=>Nat.lor (Nat.lor (Nat.pow 2 e.on) (acc.getD e.on 0)) m) 0).testBit j=true->∃e∈l,j=e.on\/(acc.getD e.on 0).testBit j=true
 |[],h=>by simp at h
 |e::l,h=>by
  rw[List.foldr_cons,show ∀x y,Nat.lor x y=x ||| y from λ_ _=>rfl,show ∀x y,Nat.lor x y=x ||| y from λ_ _=>rfl,Nat.testBit_or,Nat.testBit_or,show Nat.pow 2 e.on=2^e.on from rfl,Nat.testBit_two_pow]at h;simp only[fW,aW]at h;rcases h with(h | h) | h
  ·exact⟨e,aL ..,.inl h.symm⟩
  ·exact⟨e,aL ..,.inr h⟩
  ·obtain⟨e',h1,h2⟩:=alc h;exact⟨e',aI _ h1,h2⟩
theorem afd:∀(l:List Oper) (acc:List Nat),(∀i,i < acc.length->(l.foldl (λacc o=>acc++ [ahs acc o]) acc)[i]? =acc[i]?)/\
  ∀i o,l[i]? =some o->(l.foldl (λacc o=>acc++ [ahs acc o]) acc)[acc.length+i]? =some (ahs ((l.foldl (λacc o=>acc++ [ahs acc o]) acc).take (acc.length+i)) o)
 |[],acc=>⟨λ_ _=>rfl,λi o h=>by simp at h⟩
 |x::l,acc=>by
  obtain⟨h1,h2⟩:=afd l (acc++ [ahs acc x]);simp only[bA];refine⟨λi hi=> ?_,λi o hi=> ?_⟩
  ·rw[h1 i (by simp;omega),fm hi]
  ·cases i with
   |zero=>
    simp only[fM,az]at hi;subst hi;rw[cm,h1 _ (by simp)];have:(l.foldl (λacc o=>acc++ [ahs acc o]) (acc++ [ahs acc x])).take acc.length=acc:=by
     apply lg;intro j;rw[di];split
     ·rename_i hj;rw[h1 j (by simp;omega),fm hj]
     ·rename_i hj;rw[dG ak]
    rw[this];simp
   |succ i=>
    have:=h2 i o (by simpa using hi);simp only[ai,aA,aZ,aN]at this;rw[show acc.length+(i+1)=acc.length+1+i by omega];exact this
theorem aCm{l:List Oper}{i:Nat}{o:Oper}(hi:l[i]? =some o){j:Nat}(hj:((ald l).getD i 0).testBit j=true):∃e∈o.after.toList,Region.binds .any e=true/\(j=e.on\/((ald l).getD e.on 0).testBit j=true):=by
 have h:=(afd l []).2 i o hi;have e:ald l=l.foldl (λacc o=>acc++ [ahs acc o]) []:=rfl;rw[<-e]at h;simp only[aZ,aN]at h;rw[aG,h]at hj;obtain⟨e,h1,h3⟩:=alc hj;obtain⟨h1,h2⟩:=nY.1 h1;refine⟨e,h1,h2,h3.imp id λh4=> ?_⟩;rw[aG,di]at h4;split at h4
 ·rw[aG];exact h4
 ·simp at h4
def aha(n:Nat)(listed:Array Bool):List Nat:=(List.range n).filter λi=> !listed.getD i true
theorem QL{n:Nat}{listed:Array Bool}{i:Nat}:i∈aha n listed↔i < n/\listed.getD i true=false:=by simp[aha]
theorem OR(n:Nat)(listed:Array Bool):(aha n listed).Pairwise (· < ·):=(List.pairwise_lt_range).filter _
theorem ZP{listed:Array Bool}{i j:Nat}(d:Bool)(hi:i < listed.size):(listed.setIfInBounds i true).getD j d=if j=i then true else listed.getD j d:=by
 simp only[cH,dT];by_cases h:i=j
 ·subst h;simp[hi]
 ·simp[h,Ne.symm h]
theorem aMR{listed:Array Bool}{i:Nat}(hi:i < listed.size){l1 l2:List Nat}(h:aha listed.size listed=l1++i::l2):aha listed.size (listed.setIfInBounds i true)=l1++l2:=by
 have hs:=OR listed.size listed;rw[h]at hs;obtain⟨p1,p2,p3⟩:=List.pairwise_append.1 hs;obtain⟨p4,_⟩:=List.pairwise_cons.1 p2;have e:aha listed.size (listed.setIfInBounds i true)=(aha listed.size listed).filter λj=>decide (j≠i):=by
  unfold aha;rw[List.filter_filter];refine List.filter_congr λj _=> ?_
  rw[ZP true hi];by_cases hj:j=i
  ·simp[hj]
  ·simp[hj]
 rw[e,h,List.filter_append,List.filter_cons];have f1:l1.filter (λj=>decide (j≠i))=l1:=iv.2 λj hj=>by have:=p3 j hj i (aL ..);simp;omega
 have f2:l2.filter (λj=>decide (j≠i))=l2:=iv.2 λj hj=>by have:=p4 j hj;simp;omega
 rw[f1,f2];simp
theorem awL{rd:Option Nat}{n:Nat}{C:Ctx}(hΓ:Sound P Γ){fs:Nat->HE}{sn:AS}{Q:Exit->Act->World->Prop}(hE:aip ops.toList=true)
  (aTD:∀m1 m2,m1 < m2->m2 < ops.size->((ald ops.toList).getD m2 0).testBit m1=true\/(fs m1).indep (fs m2)=true) (hQ:∀a w,iw C sn a w->Q .normal a w):
  ∀(fuel:Nat) (listed:Array Bool) (s:AS) (a:Act) (w:World),listed.size=ops.size->(aha ops.size listed).length=fuel->
   (∀i,i < ops.size->listed.getD i true=true->∀j,((ald ops.toList).getD i 0).testBit j=true->listed.getD j false=true)->ak2 P Γ bJ ops fs (aha ops.size listed) s sn->iw C s a w->wpAnyIn (Fr rd) n P .any ops Q fuel listed a w:=by
 have aNi:∀i o,ops[i]? =some o->∀e∈o.after.toList,Region.binds .any e=true->e.on < i:=λi o hi e he hb=>by have:=cV.1 hE (o,i) (List.mem_zipIdx_iff_getElem?.2 (by simpa using hi));have:=cV.1 this e he;simpa[hb]using this
 have aO0:∀(listed:Array Bool),listed.size=ops.size->∀i,i∈Region.ready .any ops listed↔i∈aha ops.size listed/\∀o,ops[i]? =some o->∀e∈o.after.toList,Region.binds .any e=true->listed.getD e.on false=true:=λlisted _ i=>by
  rw[QL];unfold Region.ready;simp only[nY,List.mem_range,au,cC];constructor
  ·rintro⟨h1,h2,h3⟩;refine⟨⟨h1,h2⟩,λo ho e he hb=> ?_⟩;rw[ho]at h3;simp only[dV,dO,Array.all_eq_true',fW,cC]at h3;rcases h3 e (by simpa using he) with h | h
   ·rw[hb]at h;cases h
   ·exact h
  ·rintro⟨⟨h1,h2⟩,h3⟩;refine⟨h1,h2,?_⟩;obtain⟨o,ho⟩:∃o,ops[i]? =some o:=⟨ops[i],by simp[h1]⟩
   rw[ho];simp only[dV,dO,Array.all_eq_true',fW,cC];intro e he;cases hb:Region.binds .any e with
   |false=>exact .inl rfl
   |true=>exact .inr (h3 o ho e (by simpa using he) hb)
 have qX:∀(listed:Array Bool),listed.size=ops.size->Region.ready .any ops listed=[]->aha ops.size listed=[]:=λlisted hs hr=>by
  cases hu:aha ops.size listed with
  |nil=>rfl
  |cons i l=>
   exfalso;have hi:i∈aha ops.size listed:=by rw[hu];exact aL ..
   have aRK:=OR ops.size listed;rw[hu]at aRK;have:i∈Region.ready .any ops listed:=(aO0 listed hs i).2 ⟨hi,λo ho e he hb=>by
    have gJ:=aNi i o ho e he hb;have am2:=(QL.1 hi).1;cases hl:listed.getD e.on true with
    |false=>
     have hm:e.on∈aha ops.size listed:=QL.2 ⟨ak,hl⟩;rw[hu]at hm;rcases cd.1 hm with h | h
     ·omega
     ·have:=(List.pairwise_cons.1 aRK).1 _ h;omega
    |true=>
     have:e.on < listed.size:=ak;simp only[cH,fk this,dO]at hl ⊢;exact hl⟩
   rw[hr]at this;cases this
 intro fuel
 induction fuel with
 |zero=>
  intro listed s a w hs hl _ hr mB;have hn:aha ops.size listed=[]:=bD hl;refine⟨?_,?_⟩
  ·cases aT1:Region.ready .any ops listed with
   |nil=>rfl
   |cons i l=>
    have:i∈Region.ready .any ops listed:=by rw[aT1];exact aL ..
    have:=((aO0 listed hs i).1 this).1;rw[hn]at this;cases this
  ·rw[hn]at hr;have:s=sn:=hr;subst this;exact hQ a w mB
 |succ fuel ih=>
  intro listed s a w hs hl aBX hr mB;refine⟨λaT1=> ?_,λi hi=> ?_⟩
  ·have:=qX listed hs aT1;rw[this]at hl;simp at hl
  ·obtain⟨hu,aRk⟩:=(aO0 listed hs i).1 hi;obtain⟨am2,aXp⟩:=QL.1 hu;obtain⟨o,ho⟩:∃o,ops[i]? =some o:=⟨ops[i],by simp[am2]⟩
   obtain⟨l1,l2,aE8⟩:=List.append_of_mem hu;have aRK:=OR ops.size listed;rw[aE8]at aRK;have aRa:∀j,((ald ops.toList).getD i 0).testBit j=true->listed.getD j false=true:=λj hj=>by
    obtain⟨e,he,hb,h | h⟩:=aCm (by simpa using ho) hj
    ·rw[h];exact aRk o ho e he hb
    ·have h1:=aRk o ho e he hb;have h2:=aNi i o ho e he hb;refine aBX e.on ak ?_ j h
     have:e.on < listed.size:=ak;simp only[cH,fk this,dO]at h1 ⊢;exact h1
   rw[aE8]at hr;have hb:=ak2.aC2 l1 hr λj hj=>by
    have gJ:j < i:=(List.pairwise_append.1 aRK).2.2 j hj i (aL ..);rcases aTD j i gJ am2 with h | h
    ·have h1:=aRa j h;have aWq:j∈aha ops.size listed:=by rw[aE8];exact bB.2 (.inl hj)
     have h2:=(QL.1 aWq).2;have:j < listed.size:=ak;simp only[cH,fk this,dO]at h1 h2;rw[h1]at h2;cases h2
    ·exact h
   obtain⟨o',ho',hf,s',hg,iO⟩:=hb;obtain rfl:o=o':=by rw[ho]at ho';simpa using ho'
   have aiS:aha ops.size (listed.setIfInBounds i true)=l1++l2:=by rw[<-hs]at aE8 ⊢;exact aMR ak aE8
   refine((afT hΓ mB hg).mono λa' w' hst'=>ih (listed.setIfInBounds i true) s' a' w' (by simpa using hs) ?_ ?_ (by rw[aiS];exact iO) hst').wpOpIn ho
   ·rw[aiS];rw[aE8]at hl;simp only[ai,aA]at hl ⊢;omega
   ·intro m hm aSG j hj;rw[ZP false ak];split
    ·rfl
    ·rw[ZP true ak]at aSG;split at aSG
     ·rename_i aWx;subst aWx;exact aRa j hj
     ·exact aBX m hm aSG j hj
theorem aoI{rd:Option Nat}{n:Nat}{C:Ctx}(hm:P.follows .mixedOrders=true)(hΓ:Sound P Γ){id:Nat}{R:Type}{Q:Exit->Act->World->Prop}{s:AS}{a:Act}{w:World}{k:AS->Option R}{r:R}(h:iw C s a w)(hE:aip ops.toList=true)
  (he:afU P Γ bJ ops (ald ops.toList) 0 ops.toList [] s k=some r) (hk:∀s' a' w',iw C s' a' w'->k s'=some r->Q .normal a' w'):(Code.region id ops true).wpIn (Fr rd) n P Q a w:=by
 obtain⟨fs,sn,_,g2,g3,_,g5⟩:=afV ops.toList 0 [] s (λ_=>⟨none,[],[],[]⟩) (λn o hn=>by simpa using hn) (λ_ hx=>by cases hx) he;refine wpIn_region_any hm ?_
 obtain⟨g,β,h⟩:=h;have hu:aha ops.size (Array.replicate ops.size false)=List.range' 0 ops.toList.length:=by
  unfold aha;rw[iv.2]
  ·simp[List.range_eq_range']
  ·intro i hi;have hi:i < ops.size:=by simpa using hi
   simp[cH,hi]
 refine awL (bJ:=bJ) hΓ hE (fs:=fs) (sn:=sn) (λm1 m2 h1 h2=>g5 m1 m2 (aJ _) h1 (by simpa using h2)) (λa' w' hs=>hk sn a' w' hs g3) ops.size _ s a _ (by simp) (by rw[hu];simp) (λi hi hl=> ?_) (by rw[hu];exact g2) ⟨g,β,h.drew⟩;simp[cH,hi]at hl
end
end Go.Ab
namespace Go.Ab
theorem xJ{ρ:Ren}{s:AS}(h:∀id,(s.obj id).isSome=true->∀ver,ρ id ver=some (id,ver)):∀(v:aB),v.there s=true->v.iS ρ=v
 | .ptr id ver p n,ht=>by simp only[aB.iS];rw[h id ht]
 | .bz id ver p c i len,ht=>by simp only[aB.iS];rw[h id ht]
 | .pr a b,ht=>by simp only[aB.there,au]at ht;simp only[aB.iS];rw[xJ h a ht.1,xJ h b ht.2]
 | .cons a b,ht=>by simp only[aB.there,au]at ht;simp only[aB.iS];rw[xJ h a ht.1,xJ h b ht.2]
 | .fn f c,ht=>by simp only[aB.iS];rw[xJ h c ht]
 | .bx e z c,ht=>by simp only[aB.iS];rw[xJ h c ht]
 | .ct id ver,ht=>by simp only[aB.iS];rw[h id ht]
 | .yl id ver,ht=>by simp only[aB.iS];rw[h id ht]
 | .rN k f p,ht=>by simp only[aB.iS];rw[xJ h f ht]
 | .tx ..,ht=>by cases ht
 | .undef,_ | .gone,_ | .dd,_ | .re,_ | .xC,_ | .Dj,_ | .d _ _,_ | .dD _ _,_ | .nil,_ | .vec ..,_ | .mp ..,_ | .sb _,_=>rfl
theorem aNR.aV{E E':Env}(hm:uc E E')(hh:∀b:Nat,E'.w.heap[b]? =E.w.heap[b]?){i q:Id}{ver:Nat}{kt vt:Ty}{rest:List (kt.den×vt.den)}{cur:Option (kt.den×vt.den)}(h:aNR E i q ver kt vt rest cur)(hβ:E'.β i=E.β i)
  (hg:∀pl,E.β i=some pl->E.g pl.b= .own (.id i) 0->E'.g pl.b= .own (.id i) 0)
  (hq:∀vr,ver=vr+1->(E.GS q vr->E'.GS q vr/\(E'.cur q vr->E.cur q vr/\E'.β q=E.β q))/\(∀k v l,E.s q=some (.obj vr true (.mp k v l))->E'.s q=some (.obj vr true (.mp k v l)))/\
   ∀pl,E.β q=some pl->E.g pl.b= .own (.id q) 0->E'.g pl.b= .own (.id q) 0):aNR E' i q ver kt vt rest cur:=by
 obtain⟨pl,mb,since,seen,c0,h1,h2,h3,h4⟩:=h;refine⟨pl,mb,since,seen,c0,by rw[hβ,h1],by rw[hh,h2],hg pl h1 h3,λvr ap7=> ?_⟩;obtain⟨h5,h6⟩:=h4 vr ap7;obtain⟨q1,q2,q3⟩:=hq vr ap7;obtain⟨b1,b2⟩:=q1 h5;refine⟨b1,λhc=> ?_⟩;obtain⟨c1,c2⟩:=b2 hc;obtain⟨⟨k,v,l,k0⟩,plq,es,clock,k1,k2,k3,k4,k5,k6,k7,k8,k9⟩:=h6 c1;exact⟨⟨k,v,l,q2 _ _ _ k0⟩,plq,es,clock,by rw[c2,k1],k2,by rw[hh,k3],q3 _ k1 k4,k5,k6,k7,k8.mono hm,λx hx=>
  let⟨e,se,a1,a2,a3,a4⟩:=k9 x hx
  ⟨e,se,a1,a2,a3,a4.mono hm⟩⟩
theorem arZ(c:aB):(∃q ver k v l cu,c= .tx q ver k v l cu)\/(∀ρ kp,c.aAm ρ kp=c.iS ρ)/\∀s v fr,dE.there s (.obj v fr c)=c.there s:=by cases c <;> first | exact .inl ⟨_,_,_,_,_,_,rfl⟩ | exact .inr ⟨λ_ _=>rfl,λ_ _ _=>rfl⟩
section
variable {P:Program} {C:Ctx} {g:Nat->mr} {β:Id->Option Pl} {s:AS} {a:Act} {w:World}
theorem Inv.TR(h:Inv C g β s a w)(hC:C.ok){s1:AS}{g1:Nat->mr}{β1:Id->Option Pl}(ρ:Ren)(hlen:s1.cq.length=s.cq.length)(ht:Trans w w g g1)(hle:Az ρ (s.env w g β) (s1.env w g1 β1))
  (ZW:∀i,VS (s1.env w g1 β1) (s1.slot i) (a.tmps.getD i undef))
  (cO:∀id ver fr c,s1.bV id=some (.obj ver fr c)->xk (s1.env w g1 β1) id fr c\/∃id0 v0 c0,s.bV id0=some (.obj v0 fr c0)/\c0.iS ρ=c/\β1 id=β id0/\∀pl,β id0=some pl->(∀k,g pl.b= .own (.id id0) k->g1 pl.b= .own (.id id) k)/\(g pl.b= .free->g1 pl.b= .free))
  (hold:∀k,(s.bV (.bm k)≠none->s1.bV (.bm k)≠none)/\(∀v fr c,s1.bV (.bm k)=some (.obj v fr c)->∃c0,s.bV (.bm k)=some (.obj v fr c0))/\β1 (.bm k)=β (.bm k)):Inv C g1 β1 s1 a w:=by
 refine⟨h.defers.mono ht,by rw[hlen];exact h.size,ZW,λid ver fr c cX=> ?_,h.trans.trans ht,?_⟩
 ·rcases cO id ver fr c cX with ho | ⟨id0,v0,c0,h1,h2,h3,h4⟩
  ·exact ho
  have:=xl hle (h.bJ id0 v0 fr c0 h1) (id':=id) h3 λpl hp=>⟨rfl,(h4 pl hp).1,(h4 pl hp).2⟩
  rw[h2]at this;exact this
 ·have hl:=h.le;have ho:∀id ver,C.E.GS id ver->∃k,id= .bm k:=λid ver hb=>by
   cases id with
   |bm k=>exact⟨k,rfl⟩
   |new i j=>exact absurd (hC.1 i j) hb.1
  refine⟨hl.mem.trans (Trans.mem (E:=s.env w g β) (E':=s1.env w g1 β1) ht),λid ver hb=> ?_,λid ver hb hc=> ?_⟩
  ·obtain⟨k,rfl⟩:=ho id ver hb;obtain⟨h1,h2⟩:=hl.GS _ ver hb;obtain⟨e1,e2,_⟩:=hold k;exact⟨e1 h1,λv fr c hh=>let⟨c0,XL⟩:=e2 v fr c hh;h2 v fr c0 XL⟩
  ·obtain⟨k,rfl⟩:=ho id ver hb;obtain⟨fr,c,hc⟩:=hc;obtain⟨_,e2,e3⟩:=hold k;obtain⟨c0,XL⟩:=e2 _ _ _ hc;obtain⟨h1,h2⟩:=hl.cur _ ver hb ⟨fr,c0,XL⟩;exact⟨h1,e3.trans h2⟩
theorem Inv.renamed(h:Inv C g β s a w)(hC:C.ok){s1:AS}{β1:Id->Option Pl}(ρ:Ren)(hlen:s1.cq.length=s.cq.length)(hle:Az ρ (s.env w g β) (s1.env w g β1))
  (ZW:∀i,VS (s1.env w g β1) (s1.slot i) (a.tmps.getD i undef)) (cO:∀id ver fr c,s1.bV id=some (.obj ver fr c)->xk (s1.env w g β1) id fr c\/∃v0,s.bV id=some (.obj v0 fr c)/\c.iS ρ=c/\β1 id=β id)
  (hold:∀k,s1.bV (.bm k)=s.bV (.bm k)/\β1 (.bm k)=β (.bm k)):Inv C g β1 s1 a w:=
 h.TR hC ρ hlen (Trans.refl w g) hle ZW (λid ver fr c cX=>(cO id ver fr c cX).imp (λh=>h) λ⟨v0,h1,h2,h3⟩=>⟨id,v0,c,h1,h2,h3,λ_ _=>⟨λ_ h=>h,λh=>h⟩⟩)
  λk=>⟨λhh=>by rw[(hold k).1];exact hh,λv fr c hh=>⟨c,(hold k).1.symm.trans hh⟩,(hold k).2⟩
theorem Inv.aR7(h:Inv C g β s a w)(j:Nat){v:aB}(hv:VS (s.env w g β) v (a.tmps.getD j undef)):Inv C g β (s.put (some j) v) a w:=by
 refine⟨h.defers,by simpa[AS.put]using h.size,λi=> ?_,by simpa using h.bJ,h.trans,by simpa using h.le⟩;rw[air,acw];split
 ·rename_i aSE;rw[aSE.1];exact hv
 ·exact h.cq i
theorem Ug(aV:List Nat):∀(l:List aB) (n i:Nat),(eI aV n l).getD i .undef= .undef\/(eI aV n l).getD i .undef=l.getD i .undef
 |[],n,i=>by simp[eI]
 |v::l,n,0=>by
  simp only[eI,jw];split
  ·exact .inr rfl
  ·exact .inl rfl
 |v::l,n,i+1=>by simp only[eI,q9];exact Ug aV l (n+1) i
theorem Da(aV:List Nat):∀(l:List aB) (n:Nat),(eI aV n l).length=l.length
 |[],n=>rfl
 |v::l,n=>by simp[eI,Da aV l]
theorem agV(aV:List Nat):∀(l:List (List dE)) (n i:Nat),(oz aV n l).getD i []=[]\/(oz aV n l).getD i []=l.getD i []
 |[],n,i=>by simp[oz]
 |v::l,n,0=>by
  simp only[oz,jw];split
  ·exact .inr rfl
  ·exact .inl rfl
 |v::l,n,i+1=>by simp only[oz,q9];exact agV aV l (n+1) i
theorem azb{s:AS}(i:Nat):s.slot i= .undef\/s.slot i∈s.cq:=by
 unfold AS.slot;rw[aG];cases h:s.cq[i]? with
 |none=>exact .inl rfl
 |some v=>exact .inr (cI h)
theorem aKG{s:AS}{id:Id}{e:dE}(h:s.bV id=some e):e∈s.bZ\/∃es∈s.news,e∈es:=by
 cases id with
 |bm k=>exact .inl (cI h)
 |new i j=>
  simp only[AS.bV,aG]at h;cases hi:s.news[i]? with
  |none=>rw[hi]at h;simp at h
  |some es=>rw[hi]at h;exact .inr ⟨es,cI hi,cI h⟩
theorem Inv.aV(h:Inv C g β s a w)(hC:C.ok){an:oM}(ht:(Qy an s).ak9=true):Inv C g β (Qy an s) a w:=by
 obtain⟨ks,kt,_,_,_⟩:=an;obtain⟨s1,Sk⟩:∃s1:AS,s1= {cq:=eI ks 0 s.cq,bZ:=s.bZ,news:=oz kt 0 s.news}:=⟨_,rfl⟩;have e1:s1.cq=eI ks 0 s.cq:=by rw[Sk]
 have e2:s1.bZ=s.bZ:=by rw[Sk]
 have e3:s1.news=oz kt 0 s.news:=by rw[Sk]
 have ht:(s1.cq.all (aB.there s1) && s1.bZ.all (dE.there s1) && s1.news.all λes=>es.all (dE.there s1))=true:=by rw[Sk];exact ht
 show Inv C g β {cq:=eI ks 0 s.cq,bZ:=s.bZ,news:=oz kt 0 s.news} a w;rw[<-Sk];rw[au,au]at ht;obtain⟨⟨t1,t2⟩,t3⟩:=ht;have cO:∀id,s1.bV id=none\/s1.bV id=s.bV id:=λid=>by
  cases id with
  |bm k=>right;simp only[AS.bV,e2]
  |new i j=>
   simp only[AS.bV,e3];rcases agV kt s.news 0 i with h | h
   ·rw[h];exact .inl rfl
   ·rw[h];exact .inr rfl
 have aK6:∀id,(s1.obj id).isSome=true->s1.bV id=s.bV id:=λid hi=>by
  rcases cO id with h | h
  ·simp[AS.obj,h]at hi
  ·exact h
 let ρ:Ren:=λid ver=>if(s1.obj id).isSome=true then some (id,ver) else none
 have hρ:∀v:aB,v.there s1=true->v.iS ρ=v:=xJ λid cX ver=>if_pos cX
 have hle:Az ρ (s.env w g β) (s1.env w g β):=by
  refine⟨⟨λ_ _ _ h=>h,λ_ _ h h'=>⟨h,h'⟩⟩,λid ver r hr hb=> ?_⟩;by_cases hi:(s1.obj id).isSome=true
  ·have:ρ id ver=some (id,ver):=if_pos hi;rw[this,az]at hr;subst hr;have e:=aK6 id hi;obtain⟨b1,b2⟩:=hb;exact⟨⟨by show s1.bV id≠none;rw[e];exact b1,λv fr c hh=>b2 v fr c (e.symm.trans hh)⟩,λ⟨fr,c,hc⟩=>⟨⟨fr,c,e.symm.trans hc⟩,rfl⟩⟩
  ·have:ρ id ver=none:=if_neg hi;rw[this]at hr;cases hr
 refine h.renamed hC ρ (by rw[e1,Da]) hle (λi=> ?_) (λid ver fr c cX=> ?_) λk=>⟨by simp only[AS.bV,e2],rfl⟩
 ·rcases azb (s:=s1) i with hi | hi
  ·rw[hi];exact VS.undef
  ·have aT9:=cV.1 t1 _ hi;rcases Ug ks s.cq 0 i with h1 | h1
   ·have:s1.slot i= .undef:=by simp only[AS.slot,e1,h1]
    rw[this];exact VS.undef
   ·have:s1.slot i=s.slot i:=by simp only[AS.slot,e1,h1]
    have hv:=HF hle (h.cq i);rw[<-this,hρ _ aT9]at hv;exact hv
 ·have:s1.bV id=s.bV id:=by
   rcases cO id with h | h
   ·rw[h]at cX;cases cX
   ·exact h
  have hc:dE.there s1 (.obj ver fr c)=true:=by
   rcases aKG cX with h | ⟨es,h1,h2⟩
   ·exact cV.1 t2 _ h
   ·exact cV.1 (cV.1 t3 _ h1) _ h2
  rcases arZ c with⟨q,vq,k,v,l,cu,rfl⟩ | ⟨_,aT9⟩
  ·have e:=aK6 q hc;refine .inl (aNR.aV hle.mem (λ_=>rfl) (h.bJ id ver fr _ (this.symm.trans cX)) rfl (λ_ _ h=>h) λvr _=>⟨λhb=>hle.ref q vr (q,vr) (if_pos hc) hb,λk v l hk=>e.trans hk,λ_ _ h=>h⟩)
  ·rw[aT9]at hc;exact .inr ⟨ver,this.symm.trans cX,hρ c hc,rfl⟩
theorem Inv.drop(h:Inv C g β s a w)(ks:List Nat):Inv C g β (s.drop ks) a w:=by
 refine⟨h.defers,by simpa[AS.drop,Da]using h.size,λi=> ?_,h.bJ,h.trans,h.le⟩;rcases Ug ks s.cq 0 i with h1 | h1
 ·have:(s.drop ks).slot i= .undef:=h1;rw[this];exact VS.undef
 ·have:(s.drop ks).slot i=s.slot i:=h1;rw[this];exact h.cq i
def Gh(b q:Nat):mr->mr
 | .own (.id (.new x j)) k=>if x=b then .own (.id (.new q j)) k else .own (.id (.new x j)) k
 |l=>l
theorem Trans.aR5(w:World)(g:Nat->mr)(b q:Nat):Trans w w g λx=>Gh b q (g x):=by
 refine⟨rfl,rfl,⟨rfl,ax _⟩,ax _,λy _=> ?_⟩;cases hg:g y with
 |free=>exact⟨by simp[Gh],rfl⟩
 |own o k=>cases o with
  |eh=>exact⟨by simp[Gh],rfl⟩
  |id x=>
   refine⟨.inr ?_,λ_ _ _ h=>h⟩;cases x with
   |bm m=>exact⟨_,_,rfl,ax _⟩
   |new x j=>
    simp only[Gh];split
    ·exact⟨_,_,rfl,ax _⟩
    ·exact⟨_,_,rfl,ax _⟩
theorem acv(f:aB->aB)(hf:f .undef= .undef)(l:List aB)(i:Nat):(l.map f).getD i .undef=f (l.getD i .undef):=by simp only[aG,eg];cases l[i]? <;> simp[hf]
theorem Inv.Jh(h:Inv C g β s a w)(hC:C.ok){b q:Nat}(aQk:b < s.news.length)(aTY:q < s.news.length):
  ∃g1 β1,Inv C g1 β1 (s.Jh b q (s.news.getD b [])) a w:=by
 generalize aWg:s.news.getD b []=es;have aRn:∀j,s.bV (.new b j)=es[j]? :=λj=>by rw[<-aWg];rfl
 let ρ:Ren:=Rc es b q
 let s1:=s.Jh b q es
 have lE:∀j',s1.bV (.new q j')=(es[j']?).map (dE.atj ρ):=λj'=>by simp[s1,AS.Jh,AS.bV,aG,aTY,ρ]
 have aRs:b≠q->∀j',s1.bV (.new b j')=none:=λaOJ j'=>by
  have hbq':¬q=b:=λe=>aOJ e.symm
  simp only[s1,AS.Jh,AS.bV,aG];rw[ea hbq',List.getElem?_set,if_pos rfl];split <;> simp
 have K7:∀i,(∀j',i≠ .new q j')->(∀j',i≠ .new b j')->s1.bV i=(s.bV i).map (dE.aeu ρ (KD b q)):=λi hi hi'=>by
  cases i with
  |bm k=>simp[s1,AS.Jh,AS.bV,ρ]
  |new x y=>
   have h1:¬q=x:=λe=>hi y (by rw[e])
   have h2:¬b=x:=λe=>hi' y (by rw[e])
   simp only[s1,AS.Jh,AS.bV,aG];rw[ea h1,ea h2,eg];cases s.news[x]? <;> simp[ρ]
 let g1:Nat->mr:=λx=>Gh b q (g x)
 let β1:Id->Option Pl:=λi=>match i with | .new x j=>if x=q then β (.new b j) else β (.new x j) | .bm k=>β (.bm k)
 have hβ1:∀i,(∀j',i≠ .new q j')->β1 i=β i:=λi hi=>by
  cases i with
  |bm k=>rfl
  |new x y=>exact if_neg λe=>hi y (by rw[e])
 have ht:Trans w w g g1:=Trans.aR5 w g _ _;have hρ:∀i ver r,ρ i ver=some r->(∃j fr c,i= .new b j/\es[j]? =some (.obj ver fr c)/\r=(.new q j,0))\/((∀j',i≠ .new q j')/\(∀j',i≠ .new b j')/\r=(i,ver)):=λi ver r hr=>by
  replace hr:Rc es b q i ver=some r:=hr
  cases i with
  |bm k=>exact .inr ⟨λ_=>by simp,λ_=>by simp,(bk hr).symm⟩
  |new x j=>
   unfold Rc at hr;simp only at hr;split at hr
   ·rename_i hx;have hx:x=b:=by simpa using hx
    subst hx;split at hr
    ·rename_i v fr c he;split at hr
     ·rename_i hv;have hv:ver=v:=by simpa using hv
      subst hv;exact .inl ⟨j,fr,c,rfl,he,(bk hr).symm⟩
     ·cases hr
    ·cases hr
   ·rename_i hx;have hx:¬x=b:=by simpa using hx
    split at hr
    ·cases hr
    ·rename_i hx';have hx':¬x=q:=by simpa using hx'
     exact .inr ⟨λ_ e=>hx' (by injection e),λ_ e=>hx (by injection e),(bk hr).symm⟩
 have hle:Az ρ (s.env w g β) (s1.env w g1 β1):=by
  refine⟨Trans.mem (E:=s.env w g β) (E':=s1.env w g1 β1) ht,λi ver r hr am0=> ?_⟩;rcases hρ i ver r hr with⟨j,fr,c,rfl,he,rfl⟩ | ⟨hi,hi',rfl⟩
  ·refine⟨⟨by show s1.bV (.new q j)≠none;rw[lE,he];simp,λ_ _ _ _=>aJ _⟩,λ_=>⟨⟨fr,c,(aRn j).trans he⟩,if_pos rfl⟩⟩
  ·obtain⟨k1,k2⟩:=am0;have k1:s.bV i≠none:=k1;have e:s1.bV i=(s.bV i).map (dE.aeu ρ (KD b q)):=K7 i hi hi';have back:∀v' fr' c',s1.bV i=some (.obj v' fr' c')->∃c0,s.bV i=some (.obj v' fr' c0):=λv' fr' c' hh=>by
    rw[e]at hh;cases hs:s.bV i with
    |none=>exact absurd hs k1
    |some en=>
     rw[hs]at hh;cases en with
     |dead=>simp[dE.aeu]at hh
     |obj v0 fr0 c0=>
      simp only[dV,dE.aeu,az,dE.obj.injEq]at hh;obtain⟨rfl,rfl,_⟩:=hh;exact⟨c0,rfl⟩
   refine⟨⟨by
    show s1.bV i≠none;rw[e];cases hs:s.bV i with
    |none=>exact absurd hs k1
    |some en=>simp,λv' fr' c' hh=> ?_⟩,λ⟨fr',c',hh⟩=> ?_⟩
   ·obtain⟨c0,XL⟩:=back v' fr' c' hh;exact k2 v' fr' c0 XL
   ·obtain⟨c0,XL⟩:=back ver fr' c' hh;exact⟨⟨fr',c0,XL⟩,hβ1 i hi⟩
 have aSC:∀(i:Id),(∀j',i≠ .new b j')->∀(x:Nat) (k:Nat),g x= .own (.id i) k->g1 x= .own (.id i) k:=λi hi x k hk=>by
  show Gh b q (g x)=_;rw[hk];cases i with
  |bm m=>rfl
  |new y j=>exact if_neg λe=>hi j (by rw[e])
 refine⟨g1,β1,h.TR hC ρ (by simp[AS.Jh]) ht hle (λi=> ?_) (λid ver fr' c' cX=> ?_) λk=>⟨λhk=> ?_,λv' fr' c' hh=> ?_,rfl⟩⟩
 ·have:(s.Jh b q es).slot i=(s.slot i).iS ρ:=acv _ rfl _ _;rw[this];exact HF hle (h.cq i)
 ·have cX:s1.bV id=some (.obj ver fr' c'):=cX;by_cases hi:∃j',id= .new q j'
  ·obtain⟨j',rfl⟩:=hi;rw[lE]at cX;cases he:es[j']? with
   |none=>rw[he]at cX;cases cX
   |some en=>
    rw[he]at cX;cases en with
    |dead=>simp[dE.atj]at cX
    |obj v0 fr0 c0=>
     simp only[dV,dE.atj,az,dE.obj.injEq]at cX;obtain⟨_,rfl,rfl⟩:=cX;exact .inr ⟨.new b j',v0,c0,(aRn j').trans he,rfl,if_pos rfl,λpl hp=>⟨λk hk=>by
      show Gh b q (g pl.b)=_;rw[hk];exact if_pos rfl,λhk=>by
      show Gh b q (g pl.b)=_;rw[hk];rfl⟩⟩
  ·by_cases hi':∃j',id= .new b j'
   ·obtain⟨j',rfl⟩:=hi';have aOJ:b≠q:=λe=>hi ⟨j',by rw[e]⟩
    rw[aRs aOJ]at cX;cases cX
   ·have aSH:∀j',id≠ .new q j':=λj' e=>hi ⟨j',e⟩
    have hni':∀j',id≠ .new b j':=λj' e=>hi' ⟨j',e⟩
    have e:=K7 id aSH hni';rw[e]at cX;cases hs:s.bV id with
    |none=>rw[hs]at cX;cases cX
    |some en=>
     rw[hs]at cX;cases en with
     |dead=>simp[dE.aeu]at cX
     |obj v0 fr0 c0=>
      simp only[dV,dE.aeu,az,dE.obj.injEq]at cX;obtain⟨rfl,rfl,rfl⟩:=cX;rcases arZ c0 with⟨q2,vq,k,v2,l,cu,rfl⟩ | ⟨aO1,_⟩
      ·have h0:=h.bJ id v0 fr0 _ hs;left;simp only[aB.aAm];cases aSF:KD b q q2 with
       |true=>
        have aiN:(∀j',q2≠ .new b j')/\(∀j',q2≠ .new q j')/\∀vr,ρ q2 vr=some (q2,vr):=by
         cases q2 with
         |bm k=>exact⟨λ_=>by simp,λ_=>by simp,λ_=>rfl⟩
         |new x y=>
          simp only[KD,au,cC,gQ]at aSF;obtain⟨k1,k2⟩:=aSF;refine⟨λ_ e=>k1 (by injection e),λ_ e=>k2 (by injection e),λvr=> ?_⟩;show Rc es b q (.new x y) vr=_;unfold Rc;simp only[ju k1,ju k2]
        obtain⟨aiN,ap5,hρq⟩:=aiN;refine aNR.aV hle.mem (λ_=>rfl) h0 (hβ1 id aSH) (λpl _ hk=>aSC id hni' _ _ hk) λvr _=>⟨λhb=>hle.ref q2 vr (q2,vr) (hρq vr) hb,λk v l hk=> ?_,λpl _ hk=>aSC q2 aiN _ _ hk⟩
        have hk:s.bV q2=some (.obj vr true (.mp k v l)):=hk;show s1.bV q2=_;rw[K7 q2 ap5 aiN,hk];rfl
       |false=>
        obtain⟨pl,mb,since,seen,c0,h1,h2,h3,h4⟩:=h0;exact⟨pl,mb,since,seen,c0,(hβ1 id aSH).trans h1,h2,aSC id hni' _ _ h3,λvr ap7=>ak⟩
      rw[aO1];exact .inr ⟨id,v0,c0,hs,rfl,hβ1 id aSH,λpl hp=>⟨λk hk=>aSC id hni' _ _ hk,λhk=>by
       show Gh b q (g pl.b)=_;rw[hk];rfl⟩⟩
 ·have e:=K7 (.bm k) (λ_=>by simp) (λ_=>by simp);show s1.bV (.bm k)≠none;rw[e];cases hs:s.bV (.bm k) with
  |none=>exact absurd hs hk
  |some en=>simp
 ·have e:=K7 (.bm k) (λ_=>by simp) (λ_=>by simp);have hh:s1.bV (.bm k)=some (.obj v' fr' c'):=hh;rw[e]at hh;cases hs:s.bV (.bm k) with
  |none=>rw[hs]at hh;cases hh
  |some en=>
   rw[hs]at hh;cases en with
   |dead=>simp[dE.aeu]at hh
   |obj v0 fr0 c0=>
    simp only[dV,dE.aeu,az,dE.obj.injEq]at hh;obtain⟨rfl,rfl,_⟩:=hh;exact⟨c0,rfl⟩
theorem adm{k t:Ty}{l:List (k.den×t.den)}:∀ {p:List KX} {x c':aB},¬(yA (.mp k t l) p x).eval=some c'
 |[],x,c',h=>by simp only[yA,av]at h
 | .arr::p,x,c',h=>by simp only[yA]at h;exact adm h
 | .idx i::p,x,c',h=>by simp only[yA,av]at h
 | .fst::p,x,c',h=>by simp only[yA,av]at h
 | .snd::p,x,c',h=>by simp only[yA,av]at h
theorem akF{q:Id}{vq:Nat}{k t:Ty}{l:List (k.den×t.den)}{cu:Option (k.den×t.den)}:∀ {p:List KX} {x c':aB},¬(yA (.tx q vq k t l cu) p x).eval=some c'
 |[],x,c',h=>by simp only[yA,av]at h
 | .arr::p,x,c',h=>by simp only[yA]at h;exact akF h
 | .idx i::p,x,c',h=>by simp only[yA,av]at h
 | .fst::p,x,c',h=>by simp only[yA,av]at h
 | .snd::p,x,c',h=>by simp only[yA,av]at h
theorem akG{k:vy}{f:aB}{m:Nat}:∀ {p:List KX} {x c':aB},¬(yA (.rN k f m) p x).eval=some c'
 |[],x,c',h=>by simp only[yA,av]at h
 | .arr::p,x,c',h=>by simp only[yA]at h;exact akG h
 | .idx i::p,x,c',h=>by simp only[yA,av]at h
 | .fst::p,x,c',h=>by simp only[yA,av]at h
 | .snd::p,x,c',h=>by simp only[yA,av]at h
theorem Wu{l:List Value}{n:Nat}{vs:List Value}(h:(l.drop n).take vs.length=vs):dA l n vs=l:=by
 unfold dA;have h2:l.drop n=vs++l.drop (n+vs.length):=by
  conv=>lhs;rw[<-dq vs.length (l.drop n)]
  rw[h,fQ]
 have h3:=dq n l;rw[h2]at h3;simpa[aF]using h3
theorem Inv.aRZ(h:Inv C g β s a w){j:Nat}{p:List KX}(Si:(s.at j p).eval=some .dd){q:Nat}(hq:s.dY q=true){e:TypeId}{t:Ty}(hz:0 < t.size){s':AS}
  (he:((s.born q [.obj 0 false (.vec e t [])]).putAt j (.bz (.new q 0) 0 [] 0 0 0) p).eval=some s'):iw C s' a w:=by
 obtain⟨β',h1,h2,h3⟩:=h.aGi hq (e:=e) hz;cases p with
 |nil=>
  simp only[AS.at]at Si;have hj:=ay.1 Si;simp only[AS.putAt]at he;obtain rfl:=ay.1 he;refine⟨g,β',h1.aR7 j ?_⟩;have:=h.cq j;rw[hj]at this;rw[lI this];exact h3
 |cons st p=>
  simp only[AS.at]at Si;simp only[AS.putAt]at he;have ZW:(s.born q [.obj 0 false (.vec e t [])]).slot j=s.slot j:=rfl;rw[ZW]at he;split at Si
  ·rename_i id ver p0 nn hj;split at Si
   ·rename_i v fr c mf;obtain⟨hv,Si⟩:=aC.1 Si;obtain⟨⟨n,u⟩,hl,Si⟩:=aw.1 Si;have hu:=ay.1 Si;simp only at hu;subst hu;have cO:=ed mf;have gC:id≠ .new q 0:=λe=>by rw[e,(kG hq).1 0]at cO;cases cO
    have hne':∀j',id≠ .new q j':=λj' e=>by rw[e,(kG hq).1 j']at cO;cases cO
    have yw:(s.born q [.obj 0 false (.vec e t [])]).bV id=some (.obj v fr c):=(ji _ hne').trans cO;have aOX:(s.born q [.obj 0 false (.vec e t [])]).obj id=some (v,fr,c):=by simp only[AS.obj,yw]
    simp only[hj,aOX]at he;split at he
    ·simp only[av]at he
    ·rename_i c1 aTr;obtain⟨c',WZ,he⟩:=aw.1 he;obtain rfl:=ay.1 he;have hn:c.iP=false:=by cases c <;> first | rfl | (exact(aTr _ _ _ rfl).elim) | (exact absurd WZ adm) | (exact absurd WZ akF) | (exact absurd WZ akG)
     have hO:=h1.bJ id v fr c yw;obtain⟨pl,cur,e0,hp,hh,hg,hk,hV⟩:=hO.box hn;have ht:=Trans.refl w g;have hN:=XD hk;have hle:=cK.bj (s:=s.born q [.obj 0 false (.vec e t [])]) (β:=β') (v':=v) (fr':=fr) (c':=c.wrap c') yw (ax _) ht (λ_ _=>rfl) (λ_=>rfl);refine⟨g,β',h1.step (dj _ _ _) ht hle (iV.bj h1.bJ (by rw[yw];simp) hle (λ_ _=>rfl) (λ_ _ _ _ _ _ _ _=>⟨rfl,rfl⟩) ?_ (qB yw λk v1 l e=>by subst e;exact absurd WZ adm))⟩;obtain⟨cs,k1,k2⟩:=h3;have k2:cs=[.slice none 0 0]:=k2;subst k2;obtain⟨u1,u2,u3⟩:=qW (p0++st::p) c.strip (cur.toList.take (c.xV cur.size)) n .dd _ c' [.slice none 0 0] (VO.of hV) hl k1 WZ;have u4:=u2.to (u3.uQ hV.uQ);have Eh:((cur.toList.take (c.xV cur.size)).drop n).take 1=[.slice none 0 0]:=by
      rcases tC (p0++st::p) c.strip (cur.toList.take (c.xV cur.size)) n .dd (VO.of hV) hl with⟨aK4,XL⟩ | ⟨q1,q2⟩
      ·rw[<-XL]at hV;simp only[V]at hV;rw[hV,aK4];rfl
      ·simpa only[V,aB.size]using q1
     rw[Wu (vs:=[.slice none 0 0]) Eh]at u4;have tT:c'.size=c.strip.size:=by have e1:=u4.size;have e2:=hV.size;omega
     exact Sl.obj ⟨pl,cur,e0,hp,hh,hg,M8 hk u4.Bg tT,by rw[OE c u4.Bg,SI u4.Bg tT];exact V.mono hle u4⟩
   ·simp only[av]at Si
  ·simp only[av]at Si
theorem LN:∀(ids:List Id) {s:AS} {i:Id} {v:Nat} {fr:Bool} {c:aB},s.bV i=some (.obj v fr c)->∃fr',(s.bw ids).bV i=some (.obj v fr' c)
 |[],s,i,v,fr,c,h=>⟨fr,h⟩
 |id::ids,s,i,v,fr,c,h=>by obtain⟨fr',h'⟩:=ZA (id:=id) h;exact LN ids h'
theorem Inv.aQW(h:Inv C g β s a w){j:Nat}{p:List KX}{u:aB}(Si:(s.at j p).eval=some u){t:Ty}{x:t.den}(ht:(s.jm t u).eval=some x){s':AS}
  (he:((s.bw u.shared).putAt j (.d t x) p).eval=some s'):iw C s' a w:=by
 cases p with
 |nil=>
  simp only[AS.at]at Si;have hj:=ay.1 Si;simp only[AS.putAt]at he;obtain rfl:=ay.1 he;have hs:=h.cq j;rw[hj]at hs;obtain⟨g',i1,_,_,cs,hR,hO⟩:=BG h hs ht;exact⟨g',β,i1.aR7 j (VS.of (a:= .d t x) (cs:=cs) (by simpa only[V]using hR) hO)⟩
 |cons st p=>
  simp only[AS.at]at Si;simp only[AS.putAt]at he;have ZW:(s.bw u.shared).slot j=s.slot j:=by simp only[AS.slot,om]
  rw[ZW]at he;split at Si
  ·rename_i id ver p0 nn hj;split at Si
   ·rename_i v fr c mf;obtain⟨hv,Si⟩:=aC.1 Si;obtain⟨⟨n,u'⟩,hl,Si⟩:=aw.1 Si;have hu:=ay.1 Si;simp only at hu;subst hu;have cO:=ed mf;obtain⟨g',h1,h2,h3,h4⟩:=fA u'.shared h;obtain⟨fr',yw⟩:=LN u'.shared cO;have aOX:(s.bw u'.shared).obj id=some (v,fr',c):=by simp only[AS.obj,yw]
    simp only[hj,aOX]at he;split at he
    ·simp only[av]at he
    ·rename_i c1 aTr;obtain⟨c',WZ,he⟩:=aw.1 he;obtain rfl:=ay.1 he;have hn:c.iP=false:=by cases c <;> first | rfl | (exact(aTr _ _ _ rfl).elim) | (exact absurd WZ adm) | (exact absurd WZ akF) | (exact absurd WZ akG)
     obtain⟨pl0,cur0,e00,aOZ,aOQ,aTx,aRu,hV0⟩:=(h.bJ id v fr c cO).box hn;obtain⟨pl,cur,e0,hp,hh,hg,hk,hV⟩:=(h1.bJ id v fr' c yw).box hn;have OY:pl0=pl:=by have aOZ:β id=some pl0:=aOZ;have hp:β id=some pl:=hp;rw[aOZ]at hp;exact bk hp
     subst OY;have fx:cur0=cur:=by
      have aOQ:w.heap[pl0.b]? =_:=aOQ
      have hh:w.heap[pl0.b]? =_:=hh
      rw[aOQ]at hh;simpa using(bo (λo=>match o with | some (.cells x _ _)=>x | _=>cur0) hh)
     subst fx;obtain⟨cs,hVu,Eh⟩:∃cs,V (s.env w g β) u' cs/\((cur0.toList.take (c.xV cur0.size)).drop n).take cs.length=cs:=by
      rcases tC (p0++st::p) c.strip (cur0.toList.take (c.xV cur0.size)) n u' (VO.of hV0) hl with⟨aK4,XL⟩ | ⟨q1,q2⟩
      ·refine⟨cur0.toList.take (c.xV cur0.size),by rw[XL];exact hV0,?_⟩;rw[aK4,aD,bK]
      ·refine⟨_,q1,?_⟩;rw[bp,dp];congr 1;omega
     have hR:=xN rfl h.bJ h2 u' t x cs hVu ht h4;have hVx:V ((s.bw u'.shared).env w g' β) (.d t x) cs:=by simpa only[V]using hR
     have ht':=Trans.refl w g';have hle:=cK.bj (s:=s.bw u'.shared) (β:=β) (v':=v) (fr':=fr') (c':=c.wrap c') yw (ax _) ht' (λ_ _=>rfl) (λ_=>rfl);refine⟨g',β,h1.step (dj _ _ _) ht' hle (iV.bj h1.bJ (by rw[yw];simp) hle (λ_ _=>rfl) (λ_ _ _ _ _ _ _ _=>⟨rfl,rfl⟩) ?_ (qB yw λk v1 l e=>by subst e;exact absurd WZ adm))⟩;obtain⟨u1,u2,u3⟩:=qW (p0++st::p) c.strip (cur0.toList.take (c.xV cur0.size)) n u' _ c' cs (VO.of hV) hl hVx WZ;have u4:=u2.to (u3.uQ hV.uQ);rw[Wu (vs:=cs) Eh]at u4;have tT:c'.size=c.strip.size:=by have e1:=u4.size;have e2:=hV.size;omega
     exact Sl.obj ⟨pl0,cur0,e0,hp,hh,hg,M8 hk u4.Bg tT,by rw[OE c u4.Bg,SI u4.Bg tT];exact V.mono hle u4⟩
   ·simp only[av]at Si
  ·simp only[av]at Si
theorem ND{E:Env}:∀(t:Ty) (x:t.den) (u:aB),(P6 t x).eval=some u->∀cs,de E t cs x->V E u cs
 | .gY t,x,u,h,cs,hr=>by simp only[P6]at h;obtain⟨h1,h2⟩:=bS.1 h;obtain rfl:=ay.1 h2;simp only[de]at hr;simp only[V];exact hr.1 (Option.isNone_iff_eq_none.1 h1)
 | .pair a b,x,u,h,cs,hr=>by simp only[P6]at h;obtain⟨u1,h1,h2⟩:=aw.1 h;obtain⟨u2,h3,h4⟩:=aw.1 h2;obtain rfl:=ay.1 h4;simp only[de]at hr;obtain⟨ca,cb,rfl,ha,hb⟩:=hr;exact aqh (ND a x.1 u1 h1 ca ha) (ND b x.2 u2 h3 cb hb)
 | .int k,x,u,h,cs,hr=>by simp only[P6]at h;obtain rfl:=ay.1 h;simpa only[V]using hr
 | .bool,x,u,h,cs,hr=>by simp only[P6]at h;obtain rfl:=ay.1 h;simpa only[V]using hr
 | .str,x,u,h,cs,hr=>by simp only[P6]at h;obtain rfl:=ay.1 h;simpa only[V]using hr
 | .slice t,x,u,h,cs,hr=>by simp only[P6]at h;obtain rfl:=ay.1 h;simpa only[V]using hr
 | .unit,x,u,h,cs,hr=>by simp only[P6]at h;obtain rfl:=ay.1 h;simpa only[V]using hr
 | .arr n t,x,u,h,cs,hr=>by simp only[P6]at h;obtain rfl:=ay.1 h;simpa only[V]using hr
 | .uE t,x,u,h,cs,hr=>by simp only[P6]at h;obtain rfl:=ay.1 h;simpa only[V]using hr
theorem axm{e:TypeId}{z:Nat}{c:aB}{pl:Pl}{n:Nat}(hz:0 < z)(h1:n=pl.cap*z)(h2:pl.cap<=maxLen)(h3:c.size<=n):(aB.bx e z c).HQ pl n e:=by
 cases z with
 |zero=>omega
 |succ z=>exact⟨rfl,h1,h2,h3⟩
theorem alG{e:TypeId}{z:Nat}{c:aB}{n:Nat}(hz:0 < z):(aB.bx e z c).xV n=c.size:=by
 cases z with
 |zero=>omega
 |succ z=>rfl
theorem ajr{e e':TypeId}{z:Nat}{c:aB}{pl:Pl}{n:Nat}(hz:0 < z)(h:(aB.bx e z c).HQ pl n e'):e'=e/\n=pl.cap*z/\pl.cap<=maxLen/\c.size<=n:=by
 cases z with
 |zero=>omega
 |succ z=>exact h
theorem aog{E:Env}{id:Id}{ver n:Nat}{p p':List KX}{y:Value}(h:VS E (.ptr id ver p n) y):VS E (.ptr id ver p' n) y:=by obtain⟨cs,h1,h2⟩:=h;exact⟨cs,by simpa only[V]using h1,h2⟩
theorem Inv.aQ0(h:Inv C g β s a w){j:Nat}{id:Id}{ver n k v:Nat}{p p':List KX}(hj:s.slot j= .ptr id ver p n){e:TypeId}{t:Ty}{r:List t.den}(mf:s.obj id=some (v,false,.vec e t r))
  (hk:k < r.length) {u:aB} (hu:(P6 t (nth t r k)).eval=some u):
  iw C ((s.bj id (.obj v false (.bx e t.size (.pr (.d (.arr k t) (r.take k)) (.pr u (.d (.arr (r.drop (k+1)).length t) (r.drop (k+1)))))))).put (some j) (.ptr id ver p' n)) a w:=by
 have cO:=ed mf;obtain⟨hz,hO⟩:xk (s.env w g β) id false (.vec e t r):=h.bJ id v false _ cO;have hO:(match β id with
  |none=>r=[]
  |some pl=>∃cur k,w.heap[pl.b]? =some (.cells cur e (0,0))/\cur.size=pl.cap*t.size/\r.length<=pl.cap/\pl.cap<=maxLen/\g pl.b= .own (.id id) k/\
    k<=r.length*t.size/\(false=false->k=0)/\bC (de (s.env w g β) t) (cur.toList.take (r.length*t.size)) r):=hO
 have ht:=Trans.refl w g
 have hle:cK (s.env w g β) ((s.bj id (.obj v false (.bx e t.size (.pr (.d (.arr k t) (r.take k)) (.pr u (.d (.arr (r.drop (k+1)).length t) (r.drop (k+1)))))))).env w g β):=
  cK.bj cO (ax _) ht (λ_ _=>rfl) (λ_=>rfl)
 have hI:=h.step (dj _ _ _) ht hle (iV.bj h.bJ (by rw[cO];simp) hle (λ_ _=>rfl) (λ_ _ _ _ _ _ _ _=>⟨rfl,rfl⟩) (akW:=QG cO) (by
  cases hp:β id with
  |none=>rw[hp]at hO;simp only at hO;subst hO;simp at hk
  |some pl=>
   rw[hp]at hO;obtain⟨cur,k0,q1,q2,q3,q4,q5,q6,q7,q8⟩:=hO;have aRu:=q7 rfl;subst aRu;have aqa:∀c x,de (s.env w g β) t c x->c.length=t.size:=λc x hx=>hx.size
   have c1:=bC.take aqa k q8;have c2:=(q8.get aqa k hk);have c3:=bC.drop aqa (k+1) q8;have akX:V (s.env w g β) u (((cur.toList.take (r.length*t.size)).drop (k*t.size)).take t.size):=ND t _ u (by rw[aa4 hk]at hu;exact hu) _ c2;have aWO:=akX.size;have hlen:(cur.toList.take (r.length*t.size)).length=r.length*t.size:=bC.length aqa q8;have tT:r.length*t.size<=cur.size:=by rw[q2];exact cQ _ q3
   have aXo:(k+1)*t.size<=r.length*t.size:=cQ _ hk;have aiN:(k+1)*t.size=k*t.size+t.size:=Nat.succ_mul k t.size;have aO3:u.size=t.size:=by rw[<-aWO,bp,dp,hlen];omega
   have hm:(r.drop (k+1)).length*t.size=r.length*t.size - (k+1)*t.size:=by rw[dp,Nat.sub_mul]
   have ayz:(aB.pr (.d (.arr k t) (r.take k)) (.pr u (.d (.arr (r.drop (k+1)).length t) (r.drop (k+1))))).size=r.length*t.size:=by simp only[aB.size,Ty.size,aO3,hm];omega
   refine Sl.obj ⟨pl,cur,e,hp,q1,q5,axm hz q2 q4 (by rw[ayz];exact tT),?_⟩;rw[alG hz,ayz];refine V.mono hle ?_
   show V _ (.pr (.d (.arr k t) (r.take k)) (.pr u (.d (.arr (r.drop (k+1)).length t) (r.drop (k+1))))) _;simp only[V];generalize cur.toList.take (r.length*t.size)=R at*;refine⟨R.take (k*t.size),R.drop (k*t.size),(dq _ _).symm,?_,(R.drop (k*t.size)).take t.size,R.drop ((k+1)*t.size),?_,akX,?_⟩
   ·simp only[de];exact⟨by rw[bp];omega,c1⟩
   ·rw[aiN,<-fQ,dq]
   ·simp only[de];exact⟨trivial,c3⟩))
 refine⟨g,β,hI.aR7 j ?_⟩;have:=h.cq j;rw[hj]at this;exact aog (VS.mono hle this)
theorem S6:∀(l:List Nat) {s s1:AS},iw C s a w->(ayi s l).eval=some s1->iw C s1 a w
 |[],s,s1,h,he=>by simp only[ayi]at he;obtain rfl:=ay.1 he;exact h
 |j::l,s,s1,h,he=>by
  obtain⟨g,β,h⟩:=h;simp only[ayi]at he;split at he
  ·rename_i id ver k p n hj;split at he
   ·rename_i v e t r mf;obtain⟨h1,he⟩:=aC.1 he;obtain⟨h2,he⟩:=bS.1 he;obtain⟨u,h3,he⟩:=aw.1 he;exact S6 l (h.aQ0 hj mf (of_decide_eq_true h2) h3) he
   ·simp only[av]at he
  ·exact S6 l ⟨g,β,h⟩ he
  ·simp only[av]at he
theorem S0{s:AS}{id i:Id}(h:i≠id):(s.freeze id).bV i=s.bV i:=by
 unfold AS.freeze;split
 ·exact cW s id i _ h
 ·rfl
theorem yu:∀(ids:List Id) {s:AS} {i:Id},i ∉ ids->(s.bw ids).bV i=s.bV i
 |[],_,_,_=>rfl
 |id::ids,s,i,h=>by
  have h1:i≠id:=λe=>h (by rw[e];exact aL)
  exact(yu ids λhi=>h (aI _ hi)).trans (S0 h1)
theorem Inv.aSk(h:Inv C g β s a w){j:Nat}{id:Id}{ver n k m v z:Nat}{p p':List KX}(hj:s.slot j= .ptr id ver p n){e:TypeId}{t:Ty}{l1 l2:List t.den}{u:aB}
  (mf:s.obj id=some (v,false,.bx e z (.pr (.d (.arr k t) l1) (.pr u (.d (.arr m t) l2))))) (hz:z=t.size) (aO9:0 < z) (cX:id ∉ u.shared) {x:t.den} (hx:(s.jm t u).eval=some x):
  iw C (((s.bw u.shared).bj id (.obj v false (.vec e t (l1++x::l2)))).put (some j) (.ptr id ver p' n)) a w:=by
 have cO:=ed mf;obtain⟨pl0,cur0,e0,aOZ,aOQ,aTx,aRu,hV0⟩:=(h.bJ id v false _ cO).box rfl;obtain⟨g',h1,h2,h3,h4⟩:=fA u.shared h;have yw:(s.bw u.shared).bV id=some (.obj v false (.bx e z (.pr (.d (.arr k t) l1) (.pr u (.d (.arr m t) l2))))):=(yu _ cX).trans cO;obtain⟨pl,cur,e1,hp,hh,hg,hk,hV⟩:=(h1.bJ id v false _ yw).box rfl;have hp:β id=some pl:=hp;have OY:pl0=pl:=by have aOZ:β id=some pl0:=aOZ;rw[aOZ]at hp;exact bk hp
 subst OY;have fx:cur0=cur:=by
  have aOQ:w.heap[pl0.b]? =_:=aOQ
  have hh:w.heap[pl0.b]? =_:=hh
  rw[aOQ]at hh;simpa using(bo (λo=>match o with | some (.cells x _ _)=>x | _=>cur0) hh)
 subst fx;obtain⟨rfl,q2,q4,q3⟩:=ajr aO9 hk;rw[alG aO9]at hV0;have hV0:V (s.env w g β) (.pr (.d (.arr k t) l1) (.pr u (.d (.arr m t) l2))) _:=hV0;have aWK:=hV0.size;simp only[V]at hV0;obtain⟨ca,cb,hR,hA,cu,cc,aOK,hU,hB⟩:=hV0;subst aOK;simp only[de]at hA hB;have hX:=xN rfl h.bJ h2 u t x cu hU hx h4;have aqa:∀c x,de ((s.bw u.shared).env w g' β) t c x->c.length=t.size:=λc x hx=>hx.size
 have cA:=hA.2.mono λ_ _ hx=>hx.mono h2.mem
 have cB:=hB.2.mono λ_ _ hx=>hx.mono h2.mem
 have wu:bC (de ((s.bw u.shared).env w g' β) t) (ca++(cu++cc)) (l1++x::l2):=bC.append cA ⟨cu,cc,rfl,hX,cB⟩;have hlen:=bC.length aqa wu;have ayz:(aB.pr (.d (.arr k t) l1) (.pr u (.d (.arr m t) l2))).size=(l1++x::l2).length*t.size:=by rw[<-hlen,<-hR];exact aWK.symm
 rw[ayz]at hR q3;rw[hz]at q2;have arM:(l1++x::l2).length<=pl0.cap:=by rw[q2]at q3;exact Nat.le_of_mul_le_mul_right q3 ak
 have ht:=Trans.refl w g';have hle:cK ((s.bw u.shared).env w g' β) (((s.bw u.shared).bj id (.obj v false (.vec e1 t (l1++x::l2)))).env w g' β):=cK.bj yw (ax _) ht (λ_ _=>rfl) (λ_=>rfl);have hI:=h1.step (dj _ _ _) ht hle (iV.bj h1.bJ (by rw[yw];simp) hle (λ_ _=>rfl) (λ_ _ _ _ _ _ _ _=>⟨rfl,rfl⟩) (akW:=qB yw λ_ _ _ e=>by cases e) (by
  refine⟨ak,?_⟩;show(match β id with
   |none=>l1++x::l2=[]
   |some pl=>_)
  rw[hp];exact⟨cur0,0,hh,q2,arM,q4,hg,aJ _,λ_=>rfl,by rw[hR];exact wu.mono λ_ _ hx=>hx.mono hle.mem⟩))
 refine⟨g',β,hI.aR7 j ?_⟩;have:=h.cq j;rw[hj]at this;exact aog (VS.mono (h2.trans hle) this)
theorem ag9:∀(l:List Nat) {s s1:AS},iw C s a w->(aII s l).eval=some s1->iw C s1 a w
 |[],s,s1,h,he=>by simp only[aII]at he;obtain rfl:=ay.1 he;exact h
 |j::l,s,s1,h,he=>by
  obtain⟨g,β,h⟩:=h;simp only[aII]at he;split at he
  ·rename_i id ver p n hj;split at he
   ·rename_i v e z k t l1 u m t' l2 mf;obtain⟨h1,he⟩:=aC.1 he;obtain⟨l2',h2,he⟩:=aw.1 he;obtain⟨x,h3,he⟩:=aw.1 he;simp only[au,dw,cC,gA]at h1;obtain⟨⟨⟨h5,h6⟩,h7⟩,h8⟩:=h1;obtain⟨et,hl⟩:=jJ (ko.1 h2);have et':t'=t:=by simpa using et
    subst et';simp only at hl;subst hl;refine ag9 l (h.aSk hj mf h6 ak (λhi=> ?_) h3) he;have:(u.shared.any λi=>decide (i=id))=true:=List.any_eq_true.2 ⟨id,hi,by simp⟩;rw[this]at h8;cases h8
   ·simp only[av]at he
  ·simp only[av]at he
theorem AX:∀(l:List aSr) {s s1:AS},iw C s a w->(Vc s l).eval=some s1->iw C s1 a w
 |[],s,s1,h,he=>by simp only[Vc]at he;obtain rfl:=ay.1 he;exact h
 |o::l,s,s1,h,he=>by
  obtain⟨g,β,h⟩:=h;unfold Vc at he;split at he
  ·exact AX l ⟨g,β,h⟩ he
  obtain⟨u,hu,he⟩:=aw.1 he;obtain⟨x,hx,he⟩:=aw.1 he;obtain⟨s',hs,he⟩:=aw.1 he;exact AX l (h.aQW hu hx hs) he
theorem lY(hC:C.ok):∀(l:List aCa) {s s1:AS},iw C s a w->(wK P s l).eval=some s1->iw C s1 a w
 |[],s,s1,h,he=>by simp only[wK]at he;obtain rfl:=ay.1 he;exact h
 |o::l,s,s1,h,he=>by
  obtain⟨g,β,h⟩:=h;unfold wK at he;split at he
  ·exact lY hC l ⟨g,β,h⟩ he
  obtain⟨u,hu,he⟩:=aw.1 he;split at he
  ·split at he
   ·rename_i e t b K6 hv;obtain⟨s',h1,h2⟩:=aw.1 he;exact lY hC l (h.aRZ hu hv (adR K6) h1) h2
   ·simp only[av]at he
  ·split at he
   ·rename_i b j ver aVm;split at he
    ·rename_i v fr c mf hm;split at he
     ·have aQk:b < s.news.length:=by
       have:=ed mf;simp only[AS.bV,aG]at this;cases hn:s.news[b]? with
       |none=>rw[hn]at this;simp at this
       |some es=>exact(dF.1 hn).1
      obtain⟨g1,β1,h1⟩:=h.Jh hC aQk (by simpa using hm);exact lY hC l ⟨g1,β1,h1⟩ he
     ·simp only[av]at he
    ·simp only[av]at he
   ·simp only[av]at he
theorem OP:∀(l:List Nat) {s s1:AS},iw C s a w->(ag8 s l).eval=some s1->iw C s1 a w
 |[],s,s1,h,he=>by simp only[ag8]at he;obtain rfl:=ay.1 he;exact h
 |j::l,s,s1,h,he=>by
  obtain⟨g,β,h⟩:=h;simp only[ag8]at he;split at he
  ·rename_i id ver len hj;split at he
   ·rename_i v e t r mf;split at he
    ·obtain⟨h1,h2⟩:=bS.1 he;have h1:len<=r.length:=by simpa using h1
     refine OP l ?_ h2
     have cO:=ed mf;have hO:xk (s.env w g β) id false (.vec e t r):=h.bJ id v false _ cO;have ht:=Trans.refl w g;have hle:cK (s.env w g β) ((s.bj id (.obj v false (.vec e t (r.take len)))).env w g β):=cK.bj cO (ax _) ht (λ_ _=>rfl) (λ_=>rfl);refine⟨g,β,h.step (dj _ _ _) ht hle (iV.bj h.bJ (by rw[cO];simp) hle (λ_ _=>rfl) (λ_ _ _ _ _ _ _ _=>⟨rfl,rfl⟩) ?_ (QG cO))⟩;obtain⟨hz,hO⟩:=hO;refine⟨hz,?_⟩;have hO:(match β id with
      |none=>r=[]
      |some pl=>∃cur k,w.heap[pl.b]? =some (.cells cur e (0,0))/\cur.size=pl.cap*t.size/\r.length<=pl.cap/\pl.cap<=maxLen/\g pl.b= .own (.id id) k/\
        k<=r.length*t.size/\(false=false->k=0)/\bC (de (s.env w g β) t) (cur.toList.take (r.length*t.size)) r):=hO
     show(match β id with
      |none=>r.take len=[]
      |some pl=>_)
     cases hp:β id with
     |none=>rw[hp]at hO;simp only at hO;subst hO;simp
     |some pl=>
      rw[hp]at hO;obtain⟨cur,k,q1,q2,q3,q4,q5,q6,q7,q8⟩:=hO;have hk:=q7 rfl;subst hk;have hlen:(r.take len).length=len:=by simp;omega
      refine⟨cur,0,q1,q2,ak,q4,q5,aJ _,λ_=>rfl,?_⟩;have:=bC.take (λ_ _ hx=>de.size hx) len q8;rw[eJ,dU (cQ _ h1)]at this;rw[hlen];exact this.mono λ_ _ hx=>hx.mono hle.mem
    ·simp only[av]at he
   ·simp only[av]at he
  ·simp only[av]at he
theorem O9:∀(l:List (Nat×Ty)) {s s1:AS},iw C s a w->(asData s l).eval=some s1->iw C s1 a w
 |[],s,s1,h,he=>by simp only[asData]at he;obtain rfl:=ay.1 he;exact h
 | (j,t)::l,s,s1,h,he=>by obtain⟨g,β,h⟩:=h;simp only[asData]at he;obtain⟨x,h1,h2⟩:=aw.1 he;obtain⟨g',i1,_,_,cs,hR,hO⟩:=BG h (h.cq j) h1;exact O9 l ⟨g',β,i1.aR7 j (VS.of (a:= .d t x) (cs:=cs) (by simpa only[V]using hR) hO)⟩ h2
theorem Inv.still:∀(l:List Nat) {s:AS},Inv C g β s a w->Inv C g β (s.still l) a w
 |[],s,h=>h
 |q::l,s,h=>by
  simp only[AS.still];split
  ·rename_i v fr i ver k t r cu mf;exact Inv.still l (h.aNv (ed mf) (.inr ⟨rfl,rfl,rfl⟩))
  ·exact Inv.still l h
theorem xo{α:Type}(l:List α):(iX l).Perm l:=Quotient.exact (s:=agu α) (ra (Quotient.mk (agu α) l)).choose_spec
theorem axt{α:Type}{l l':List α}(h:l.Perm l'):iX l=iX l':=by
 have e:Quotient.mk (agu α) l=Quotient.mk (agu α) l':=Quotient.sound h;unfold iX;have:∀q q':Quotient (agu α),q=q'->(ra q).choose=(ra q').choose:=λq q' h=>by subst h;rfl
 exact this _ _ e
theorem Inv.canon:∀(l:List Id) {s:AS},Inv C g β s a w->Inv C g β (s.canon l) a w
 |[],s,h=>h
 |id::l,s,h=>by
  simp only[AS.canon];split
  ·rename_i v fr k t r mf;have cO:=ed mf;have ht:=Trans.refl w g;have hle:cK (s.env w g β) ((s.bj id (.obj v fr (.mp k t (iX r)))).env w g β):=cK.bj cO (ax _) ht (λ_ _=>rfl) (λ_=>rfl);obtain⟨pl,es,clock,h1,h2,h3,⟨⟨l',h4,h5⟩,h6⟩,h7⟩:=h.bJ id v fr _ cO
   refine Inv.canon l (h.step (dj _ _ _) ht hle (iV.bj h.bJ (by rw[cO];simp) hle (λ_ _=>rfl) (λ_ _ _ _ _ _ _ _=>⟨rfl,rfl⟩)
    ⟨pl,es,clock,h1,h2,h3,⟨⟨l',h4.mono λ_ _ he=>he.mono hle.mem,h5.trans (xo r).symm⟩,(((xo r).map _).nodup_iff).2 h6⟩,h7⟩ ?_))
   intro ver k' v' l2 hl;rw[cO]at hl;simp only[az,dE.obj.injEq]at hl;obtain⟨rfl,rfl,_⟩:=hl;exact⟨rfl,rfl,⟨_,_,_,rfl⟩,λ_ _=>⟨rfl,rfl⟩⟩
  ·exact Inv.canon l h
theorem UT(k v n:Nat)(i:Id)(ver:Nat):(i= .bm k/\ver=v/\vk k v n i ver=some (.bm k,n))\/(i= .bm k/\vk k v n i ver=none)\/(i≠ .bm k/\vk k v n i ver=some (i,ver)):=by
 cases i with
 |new x j=>exact .inr (.inr ⟨by simp,rfl⟩)
 |bm j=>
  simp only[vk];cases h1:iJ j k with
  |false=>exact .inr (.inr ⟨λe=>by injection e with e;subst e;simp at h1,rfl⟩)
  |true=>
   obtain rfl:=eU h1;cases h2:iJ ver v with
   |false=>exact .inr (.inl ⟨rfl,rfl⟩)
   |true=>exact .inl ⟨rfl,eU h2,rfl⟩
theorem alK(hC:C.ok){s s1:AS}(h:Inv C g β s a w){k n:Nat}(he:(s.aC3 k n).eval=some s1):Inv C g β s1 a w:=by
 unfold AS.aC3 at he;split at he;rotate_left
 ·exact(av.1 he).elim
 rename_i v fr c hk;obtain⟨aVA,he⟩:=aC.1 he;have aVA:v<=n\/1<=n:=(Bool.or_eq_true_iff.1 aVA).imp dI dI;have hz:∀ver,C.E.GS (.bm k) ver->ver=0:=λver hb=>by
  obtain⟨h1,h2⟩:=hb;cases hs:C.E.s (.bm k) with
  |none=>exact absurd hs h1
  |some en=>
   cases en with
   |dead=>
    have:=(h.le.GS (.bm k) (v+1) ⟨h1,λv' fr' c' hh=>by rw[hs]at hh;cases hh⟩).2 _ _ _ hk;omega
   |obj v0 fr0 c0=>
    have:=hC.2 _ _ _ _ hs;have:=h2 _ _ _ hs;omega
 obtain rfl:=ay.1 he;have aRw:k < s.bZ.length:=by
  rcases ql k s.bZ.length with h | h
  ·exact h
  ·simp[AS.bV,dG h]at hk
 generalize Sk:({cq:=s.cq.map (aB.iS (vk k v n)),bZ:=(s.bZ.map (dE.atk (vk k v n) (Im k))).set k (.obj n fr (c.iS (vk k v n))),news:=s.news.map λes=>es.map (dE.atk (vk k v n) (Im k))}:AS)=s1;have e0:s1.bV (.bm k)=some (.obj n fr (c.iS (vk k v n))):=by rw[<-Sk];simp[AS.bV,aRw]
 have e1:∀i,i≠ .bm k->s1.bV i=(s.bV i).map (dE.atk (vk k v n) (Im k)):=λi hi=>by
  rw[<-Sk];cases i with
  |bm j=>
   have:¬k=j:=λe=>hi (by rw[e])
   simp only[AS.bV];rw[ea this,eg]
  |new x j=>
   simp only[AS.bV,aG,eg];cases s.news[x]? <;> simp
 have e2:∀i v' fr' c',i≠ .bm k->s1.bV i=some (.obj v' fr' c')->∃c0,s.bV i=some (.obj v' fr' c0)/\c'=c0.aAm (vk k v n) (Im k):=λi v' fr' c' hi hh=>by
  rw[e1 i hi]at hh;cases hs:s.bV i with
  |none=>rw[hs]at hh;cases hh
  |some en=>
   rw[hs]at hh;cases en with
   |dead=>simp[dE.atk]at hh
   |obj v0 fr0 c0=>
    simp only[dV,dE.atk,az,dE.obj.injEq]at hh;obtain⟨rfl,rfl,rfl⟩:=hh;exact⟨c0,rfl,rfl⟩
 have e3:∀i,i≠ .bm k->s.bV i≠none->s1.bV i≠none:=λi hi hh=>by
  rw[e1 i hi];cases hs:s.bV i with
  |none=>exact absurd hs hh
  |some en=>simp
 have hle:Az (vk k v n) (s.env w g β) (s1.env w g β):=by
  refine⟨Trans.mem (E:=s.env w g β) (E':=s1.env w g β) (Trans.refl w g),λi ver r hr am0=> ?_⟩;rcases UT k v n i ver with⟨rfl,rfl,e⟩ | ⟨rfl,e⟩ | ⟨hi,e⟩
  ·rw[e]at hr;obtain rfl:=bk hr;refine⟨⟨by show s1.bV (.bm k)≠none;rw[e0];simp,λv' fr' c' hh=> ?_⟩,λ_=>⟨⟨fr,c,hk⟩,rfl⟩⟩;have hh:s1.bV (.bm k)=some (.obj v' fr' c'):=hh;rw[e0]at hh;simp only[az,dE.obj.injEq]at hh;exact ud hh.1
  ·rw[e]at hr;cases hr
  ·rw[e]at hr;obtain rfl:=bk hr;obtain⟨k1,k2⟩:=am0;have k1:s.bV i≠none:=k1;have k2:∀v' fr' c',s.bV i=some (.obj v' fr' c')->ver<=v':=k2;refine⟨⟨e3 i hi k1,λv' fr' c' hh=> ?_⟩,λ⟨fr',c',hh⟩=> ?_⟩
   ·obtain⟨c0,XL,_⟩:=e2 i v' fr' c' hi hh;exact k2 _ _ _ XL
   ·obtain⟨c0,XL,_⟩:=e2 i ver fr' c' hi hh;exact⟨⟨fr',c0,XL⟩,rfl⟩
 refine⟨h.defers,by rw[<-Sk];simpa using h.size,λi=> ?_,λid ver fr' c' cX=> ?_,h.trans,?_⟩
 ·have:s1.slot i=(s.slot i).iS (vk k v n):=by rw[<-Sk];exact acv _ rfl _ _
  rw[this];exact HF hle (h.cq i)
 ·have cX:s1.bV id=some (.obj ver fr' c'):=cX;by_cases hi:id= .bm k
  ·subst hi;rw[e0]at cX;simp only[az,dE.obj.injEq]at cX;obtain⟨rfl,rfl,rfl⟩:=cX;exact xl hle (h.bJ (.bm k) v fr c hk) (id':= .bm k) rfl λpl _=>⟨rfl,λ_ h=>h,λh=>h⟩
  ·obtain⟨c0,XL,rfl⟩:=e2 id ver fr' c' hi cX;have h0:=h.bJ id ver fr' c0 XL;rcases arZ c0 with⟨q2,vq,kt,vt,l,cu,rfl⟩ | ⟨aO1,_⟩
   ·simp only[aB.aAm];cases aSF:Im k q2 with
    |true=>
     have gC:q2≠ .bm k:=λe=>by subst e;simp[Im]at aSF
     have hρq:∀vr,vk k v n q2 vr=some (q2,vr):=λvr=>by
      rcases UT k v n q2 vr with⟨e,_⟩ | ⟨e,_⟩ | ⟨_,e⟩
      ·exact absurd e gC
      ·exact absurd e gC
      ·exact e
     refine aNR.aV hle.mem (λ_=>rfl) h0 rfl (λ_ _ h=>h) λvr _=>⟨λhb=>hle.ref q2 vr (q2,vr) (hρq vr) hb,λkt vt l ap5=> ?_,λ_ _ h=>h⟩
     have ap5:s.bV q2=some (.obj vr true (.mp kt vt l)):=ap5;show s1.bV q2=_;rw[e1 q2 gC,ap5];rfl
    |false=>
     obtain⟨pl,mb,since,seen,c0,h1,h2,h3,h4⟩:=h0;exact⟨pl,mb,since,seen,c0,h1,h2,h3,λvr ap7=>ak⟩
   ·rw[aO1];exact xl hle h0 (id':=id) rfl λpl _=>⟨rfl,λ_ h=>h,λh=>h⟩
 ·have hl:=h.le;refine⟨hl.mem.trans (Trans.mem (E:=s.env w g β) (E':=s1.env w g β) (Trans.refl w g)),λid ver hb=> ?_,λid ver hb hc=> ?_⟩
  ·obtain⟨h1,h2⟩:=hl.GS _ ver hb;have h1:s.bV id≠none:=h1;have h2:∀v' fr' c',s.bV id=some (.obj v' fr' c')->ver<=v':=h2;by_cases hi:id= .bm k
   ·subst hi;obtain rfl:=hz ver hb;exact⟨by show s1.bV (.bm k)≠none;rw[e0];simp,λv' fr' c' hh=>aJ _⟩
   ·exact⟨e3 id hi h1,λv' fr' c' hh=>let⟨c0,XL,_⟩:=e2 id v' fr' c' hi hh;h2 _ _ _ XL⟩
  ·obtain⟨fr',c',hc⟩:=hc;have hc:s1.bV id=some (.obj ver fr' c'):=hc;by_cases hi:id= .bm k
   ·subst hi;obtain rfl:=hz ver hb;rw[e0]at hc;simp only[az,dE.obj.injEq]at hc;have e4:=hc.1;obtain rfl:v=0:=ak;exact hl.cur _ _ hb ⟨fr,c,hk⟩
   ·obtain⟨c0,XL,_⟩:=e2 id ver fr' c' hi hc;exact hl.cur _ _ hb ⟨fr',c0,XL⟩
theorem Fe(hC:C.ok):∀(l:List (Nat×Nat)) {s s1:AS},Inv C g β s a w->(alL s l).eval=some s1->Inv C g β s1 a w
 |[],s,s1,h,he=>by obtain rfl:=ay.1 he;exact h
 |x::l,s,s1,h,he=>by obtain⟨s2,h1,h2⟩:=aw.1 he;exact Fe hC l (alK hC h h1) h2
def W3(ids:List Id)(q:Nat):mr->mr
 | .own (.id (.new x y)) k=>match idxOf (.new x y) ids with | some m=> .own (.id (.new q m)) k | none=> .free
 |l=>l
def aPD(β:Id->Option Pl)(ids:List Id)(q:Nat):Id->Option Pl
 | .bm k=>β (.bm k)
 | .new x y=>if x=q then(ids[y]?).bind β else none
theorem Trans.W3(w:World)(g:Nat->mr)(ids:List Id)(q:Nat):Trans w w g λx=>W3 ids q (g x):=by
 refine⟨rfl,rfl,⟨rfl,ax _⟩,ax _,λy _=> ?_⟩;cases hg:g y with
 |free=>exact⟨by simp[Ab.W3],rfl⟩
 |own o k=>cases o with
  |eh=>exact⟨by simp[Ab.W3],rfl⟩
  |id x=>
   refine⟨?_,λ_ _ _ h=>h⟩;cases x with
   |bm m=>exact .inr ⟨_,_,rfl,ax _⟩
   |new x j=>
    simp only[Ab.W3];split
    ·exact .inr ⟨_,_,rfl,ax _⟩
    ·exact .inl rfl
theorem Inv.aiG(h:Inv C g β s a w)(hC:C.ok){ids:List Id}{q:Nat}(hn:ids.Nodup)(Hv:∀id∈ids,∃i j,id= .new i j)(aTY:q < s.news.length):
  ∃g1 β1,Inv C g1 β1 (s.Ie ids q) a w:=by
 let ρ:Ren:=ayq s ids q
 obtain⟨s1,Sk⟩:∃s1,s1=s.Ie ids q:=⟨_,rfl⟩;have hold:∀k,s1.bV (.bm k)=(s.bV (.bm k)).map (dE.aHd ρ):=λk=>by
  rw[Sk];show(s.bZ.map (dE.aHd ρ))[k]? =_
  rw[eg];rfl
 have lE:∀j,s1.bV (.new q j)=(ids[j]?).map λid=>((s.bV id).getD .dead).atj ρ:=λj=>by rw[Sk];simp[AS.Ie,AS.bV,aG,aTY,ρ]
 have K7:∀x j,x≠q->s1.bV (.new x j)=none:=λx j hx=>by
  have hx':¬q=x:=λe=>hx e.symm
  rw[Sk];simp only[AS.Ie,AS.bV,aG];rw[ea hx',eg];cases s.news[x]? <;> simp
 let g1:Nat->mr:=λx=>W3 ids q (g x)
 let β1:=aPD β ids q
 have ht:Trans w w g g1:=Trans.W3 w g ids q;have hβ:∀j,β1 (.new q j)=(ids[j]?).bind β:=λj=>if_pos rfl
 have hρ:∀i ver r,ρ i ver=some r->(∃k,i= .bm k/\r=(i,ver))\/∃j fr c,ids[j]? =some i/\s.bV i=some (.obj ver fr c)/\r=(.new q j,0):=λi ver r hr=>by
  replace hr:ayq s ids q i ver=some r:=hr
  cases i with
  |bm k=>exact .inl ⟨k,rfl,(bk hr).symm⟩
  |new x y=>
   unfold ayq at hr;simp only at hr;split at hr
   ·rename_i j v fr c hj ho;split at hr
    ·rename_i hv;have hv:ver=v:=by simpa using hv
     subst hv;exact .inr ⟨j,fr,c,pB hj,ed ho,(bk hr).symm⟩
    ·cases hr
   ·cases hr
 have hrenA:∀e v fr c,dE.aHd ρ e= .obj v fr c->∃c0,e= .obj v fr c0/\c0.iS ρ=c:=λe v fr c he=>by
  cases e with
  |dead=>cases he
  |obj v0 fr0 c0=>
   simp only[dE.aHd,dE.obj.injEq]at he;obtain⟨rfl,rfl,rfl⟩:=he;exact⟨c0,rfl,rfl⟩
 have hle:Az ρ (s.env w g β) (s1.env w g1 β1):=by
  refine⟨Trans.mem (E:=s.env w g β) (E':=s1.env w g1 β1) ht,λi ver r hr am0=> ?_⟩;rcases hρ i ver r hr with⟨k,rfl,rfl⟩ | ⟨j,fr,c,hj,he,rfl⟩
  ·obtain⟨k1,k2⟩:=am0;have k1:s.bV (.bm k)≠none:=k1;refine⟨⟨?_,λv' fr' c' hh=> ?_⟩,λ⟨fr',c',hh⟩=>⟨?_,rfl⟩⟩
   ·show s1.bV (.bm k)≠none;rw[hold];cases hs:s.bV (.bm k) with
    |none=>exact absurd hs k1
    |some en=>simp
   ·have hh:s1.bV (.bm k)=some (.obj v' fr' c'):=hh;rw[hold,db]at hh;obtain⟨e,he,hh⟩:=hh;obtain⟨c0,rfl,_⟩:=hrenA _ _ _ _ hh;exact k2 v' fr' c0 he
   ·have hh:s1.bV (.bm k)=some (.obj ver fr' c'):=hh;rw[hold,db]at hh;obtain⟨e,he,hh⟩:=hh;obtain⟨c0,rfl,_⟩:=hrenA _ _ _ _ hh;exact⟨fr',c0,he⟩
  ·refine⟨⟨by show s1.bV (.new q j)≠none;rw[lE,hj];simp,λ_ _ _ _=>aJ _⟩,λ_=>⟨⟨fr,c,he⟩,?_⟩⟩;show β1 (.new q j)=β i;rw[hβ,hj];rfl
 have e1:s1.cq=s.cq.map (aB.iS ρ):=by rw[Sk];rfl
 rw[<-Sk];refine⟨g1,β1,h.TR hC ρ (by rw[e1];simp) ht hle (λi=> ?_) (λid ver fr c cX=> .inr ?_) λk=>⟨λhk=> ?_,λv' fr' c' hh=> ?_,rfl⟩⟩
 ·have:s1.slot i=(s.slot i).iS ρ:=by unfold AS.slot;rw[e1];exact acv _ rfl _ _
  rw[this];exact HF hle (h.cq i)
 ·cases id with
  |bm k=>
   rw[hold,db]at cX;obtain⟨e,he,cX⟩:=cX;obtain⟨c0,rfl,hc⟩:=hrenA _ _ _ _ cX;exact⟨.bm k,ver,c0,he,hc,rfl,λpl _=>⟨λn hg=>by show W3 ids q (g pl.b)=_;rw[hg];rfl,λhg=>by show W3 ids q (g pl.b)=_;rw[hg];rfl⟩⟩
  |new x y=>
   by_cases hx:x=q
   ·subst hx;rw[lE,db]at cX;obtain⟨i,hi,cX⟩:=cX;obtain⟨i0,j0,rfl⟩:=Hv i (cI hi);cases hs:s.bV (.new i0 j0) with
    |none=>rw[hs]at cX;cases cX
    |some e=>
     rw[hs]at cX;cases e with
     |dead=>cases cX
     |obj v0 fr0 c0=>
      simp only[dO,dE.atj,dE.obj.injEq]at cX;obtain⟨_,rfl,hc⟩:=cX;refine⟨.new i0 j0,v0,c0,hs,hc,by rw[hβ,hi];rfl,λpl _=>⟨λn hg=> ?_,λhg=>by show W3 ids _ (g pl.b)=_;rw[hg];rfl⟩⟩;show W3 ids _ (g pl.b)=_;rw[hg];simp only[W3,xw hn hi]
   ·rw[K7 x y hx]at cX;cases cX
 ·show s1.bV (.bm k)≠none;rw[hold];cases hs:s.bV (.bm k) with
  |none=>exact absurd hs hk
  |some en=>simp
 ·have hh:s1.bV (.bm k)=some (.obj v' fr' c'):=hh;rw[hold,db]at hh;obtain⟨e,he,hh⟩:=hh;obtain⟨c0,rfl,_⟩:=hrenA _ _ _ _ hh;exact⟨c0,he⟩
theorem aiH(hC:C.ok){s s1:AS}{o:Option Nat}(h:iw C s a w)(he:(s.aiG o).eval=some s1):iw C s1 a w:=by
 cases o with
 |none=>
  obtain rfl:=ay.1 he;exact h
 |some q=>
  obtain⟨h1,h2⟩:=aC.1 he;obtain rfl:=ay.1 h2;obtain⟨g,β,h⟩:=h;obtain⟨g1,β1,h3⟩:=h.aiG hC (ids:=s.aQ1) ((tJ s _ _ _ (by simp)).filter _) (λid cX=>by
   have:=(nY.1 cX).2;cases id with
   |bm k=>cases this
   |new i j=>exact⟨i,j,rfl⟩) (dI h1)
  exact⟨g1,β1,h3⟩
theorem pK(hC:C.ok){an:oM}{s1:AS}(h:iw C s a w)(he:(norm P an s).eval=some s1):iw C s1 a w:=by unfold norm at he;obtain⟨sb,aV1,he⟩:=aw.1 he;obtain⟨su,aV2,he⟩:=aw.1 he;obtain⟨sd,aTj,he⟩:=aw.1 he;obtain⟨s0,h1,h2⟩:=aw.1 he;obtain⟨h3,h4⟩:=aC.1 h2;obtain⟨sf,h5,h6⟩:=aw.1 h4;obtain⟨sg,h6,h7⟩:=aw.1 h6;obtain⟨g0,β0,h0⟩:=h;obtain⟨g1,i1,_⟩:=fA an.avo (Fe hC _ h0 aV1);obtain⟨g,β,h⟩:=O9 _ (AX _ (ag9 _ ⟨g1,β0,(i1.still an.aSO).canon an.aOh⟩ aV2) aTj) h1;exact aiH hC (lY hC _ (S6 _ ⟨g,β,h.aV hC h3⟩ h5) h6) h7
end
end Go.Ab
end
