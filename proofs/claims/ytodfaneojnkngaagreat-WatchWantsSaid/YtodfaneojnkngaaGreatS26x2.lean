/-
  Made short by a program of mine (wip/tools/mini.py).
-/
import Derived.Test.YtodfaneojnkngaaGreatS26x1
import Derived.Lib.Builder
import Derived.Lib.UnsafeStr
import Derived.Lib.AppendZeros
import Derived.Maps.RangeRun
set_option linter.unusedVariables false
set_option linter.unusedSimpArgs false
set_option maxRecDepth 100000
set_option synthInstance.maxSize 5000
open List renaming length->ag,replicate->ab
open Nat renaming beq->ix
open UInt8 renaming ofNat->fb
noncomputable section
namespace Go.Ab
section
variable {P:Program} {C:Ctx} {g:Nat->lU} {β:Id->Option Pl} {s:AS} {a:Act} {w:World} {o:Oper}
theorem Cy{b:Builtin}{args:Array Operand}{ts:Array TypeId}{f:Sem Value}{x:Value}{w':World}(ho:o.op= .call {callee:= .builtin b,args,argTypes:=ts})
  (hb:∀ty cs xs,xs=args.map a.eval->builtin b ts ty cs xs=(do pure (.value (<-f)))) (hf:f.run P w= .ok x w'):(execOp a.eval o).run P w= .ok (.value x) w':=by
 simp only[execOp,ho,resolve,Sem.run_bind,Sem.run_pure,Result.andThen_ok,invoke];rw[hb _ _ _ rfl,Sem.run_bind,hf];rfl
theorem aEh(h:Inv C g β s a w){c:Call}{x:Operand}{T:TypeId}(ho:o.op= .call c)(hc:c.callee= .builtin .len)(ha:c.args.toList=[x])(ht:c.argTypes.toList=[T]){v:aB}(he:(aJX P T (s.ev x)).eval=some v):
  fB P o a w (ik C (s.put o.dst v)):=by
 obtain⟨cal,args,tys⟩:=c;simp only at hc ha ht;have ha':args= #[x]:=by apply gf;simpa using ha
 have ht':tys= #[T]:=by apply gf;simpa using ht
 subst hc ha' ht';have hx:=h.ev x;have fin:∀z,(Builtin.len_ #[T] 0 #[a.eval x]).run P w= .ok z w->VS (s.env w g β) v z->fB P o a w (ik C (s.put o.dst v)):=by intro z h1 h2;refine h.value h2 (Cy ho (f:=Builtin.len_ #[T] 0 #[a.eval x]) (λty cs xs aoX=> ?_) h1);subst aoX;have e1:Builtin.len_ #[T] 0 #[a.eval x]=Builtin.len_ #[T] ty #[a.eval x]:=rfl;rw[e1];simp[builtin]
 unfold aJX at he;split at he
 ·rename_i st hT hl;rw[hl]at hx;obtain rfl:=ay.1 he;refine fin (.int .i64 (st.size:Int)) ?_ (lB _ _)
  rw[IY hx];simp[Builtin.len_,run_underlying hT,goInt]
 ·rename_i e t l hT hl;rw[hl]at hx;obtain rfl:=ay.1 he;obtain⟨ad,cap,vs,hy,_⟩:=uu hx;refine fin (.int .i64 (l.length:Int)) ?_ (lB _ _)
  rw[hy];simp[Builtin.len_,run_underlying hT,goInt]
 ·rename_i e hT hl;rw[hl]at hx;obtain rfl:=ay.1 he;refine fin (.int .i64 0) ?_ (lB _ _)
  rw[kW hx];simp[Builtin.len_,run_underlying hT,goInt]
 ·rename_i e id ver p c i len hT hl;rw[hl]at hx;obtain rfl:=ay.1 he;obtain⟨ad,cap,hy,_⟩:=rM hx;refine fin (.int .i64 (len:Int)) ?_ (lB _ _)
  rw[hy];simp[Builtin.len_,run_underlying hT,goInt]
 ·rename_i n e hT;obtain rfl:=ay.1 he;refine fin (.int .i64 (n:Int)) ?_ (lB _ _)
  simp[Builtin.len_,run_underlying hT,goInt]
 ·simp only[av]at he
def Env.open(E:Env):Env:= {E with g:=λ_=> .free}
theorem aKk(E:Env):cM E E.open:=⟨⟨λ_ _ _ h=>⟨h.1,trivial⟩,λ_ _ _ h=>⟨rfl,h⟩⟩,λ_ _ h=>h,λ_ _ _ h=>⟨h,rfl⟩⟩
theorem arq(h:Inv C g β s a w){v:aB}{y:Value}(hv:VS (s.env w g β) v y){t:Ty}{x:t.den}(ht:(s.arp t v).eval=some x):
  ∃cs,cY (s.env w g β).open t cs x/\fJ t.agg cs y:=by
 obtain⟨cs,hV,hO⟩:=hv.eN (Cq ht);exact⟨cs,xp rfl h.bJ (aKk _) v t x cs hV ht (λid _ v fr c _ pl _ j x hx _=>⟨hx,trivial⟩),by rw[<-abG ht];exact hO⟩
theorem wY{E:Env}{k:IntKind}:∀ {vs:List Value} {l:List Int},bA (cY E (.int k)) vs l->vs=l.map (Value.int k)
 |vs,[],h=>h
 |_,x::xs,⟨c,cs',e,hx,hr⟩=>by
  have hx':c=[Value.int k x]:=by simpa only[cY]using hx
  rw[e,hx',wY hr];rfl
theorem w9{E:Env}{k:IntKind}:∀(l:List Int),bA (cY E (.int k)) (l.map (Value.int k)) l
 |[]=>rfl
 |x::xs=>⟨[.int k x],xs.map (Value.int k),rfl,by simp[cY],w9 xs⟩
theorem foldl_push(l:List Int):∀b:ByteArray,l.foldl (λr n=>r.push (fb n.toNat)) b=⟨b.data++(l.map λn=>fb n.toNat).toArray⟩:=by
 induction l with
 |nil=>intro b;simp
 |cons n l ih=>
  intro b;rw[bp,ih];simp[ByteArray.push]
theorem am7{α:Type}(xs:Array α)(x:α)(f:α->α):(xs.push x).modify xs.size f=xs.push (f x):=by
 apply rO;intro i;rw[gl,Array.getElem?_push,Array.getElem?_push];by_cases h:i=xs.size
 ·subst h;simp
 ·have h':¬xs.size=i:=λe=>h e.symm
  simp[h,h']
theorem ahE(w:World)(c:Array Value)(e:TypeId)(n:Nat):(w.alloc (.cells c e)).freeze ⟨w.heap.size,n,none⟩ 1=w.alloc (.cells c e (n,n+1)):=by show({w with heap:=(w.heap.push (.cells c e)).modify w.heap.size _}:World)= {w with heap:=w.heap.push (.cells c e (n,n+1))};rw[am7];rfl
theorem alI{w:World}{b:Nat}{c:Array Value}{e:TypeId}{n:Nat}(h:w.heap[b]? =some (.cells c e (n,n+1))):w.freeze ⟨b,n,none⟩ 1=w:=by
 unfold World.freeze;rw[if_neg ak];have:∀f:Obj->Obj,f (.cells c e (n,n+1))= .cells c e (n,n+1)->w.heap.modify b f=w.heap:=λf hf=>by
  apply rO;intro i;rw[gl];split
  ·rename_i hi;subst hi;rw[h];simp[hf]
  ·rfl
 rw[this];simp
theorem QB(e:TypeId)(st:ByteArray)(w:World):∃cap:Nat,st.size<=cap/\∃arr:Array Value,(∀(j:Nat) (v:Value),((bG st).map (Value.int .u8))[j]? =some v->arr[j]? =some v)/\
  (Conv.stringToBytes e st).run P w= .ok (.slice (some ⟨w.heap.size,0,none⟩) st.size cap) (w.drew.alloc (.cells arr e (arr.size,arr.size+1))):=by
 refine⟨(Question.appendCap st.size 0 e).cut (w.tape w.drawn (.appendCap st.size 0 e)),by simp[Question.cut],
  (st.data.map λb=>Value.int .u8 b.toNat)++Array.replicate ((Question.appendCap st.size 0 e).cut (w.tape w.drawn (.appendCap st.size 0 e)) - st.size) (.int .u8 0),?_,?_⟩
 ·intro j v hj;have hl:j < st.data.size:=by have:=(dF.1 hj).1;simpa[bG]using this
  rw[kg,if_pos (by simpa using hl)];simpa[bG,hl]using hj
 ·have hs:∀(arr:Array Value),(markStringish ⟨w.heap.size,0,none⟩).run P (w.drew.alloc (.cells arr e))= .ok () (w.drew.alloc (.cells arr e (arr.size,arr.size+1))):=by
   intro arr;have h1:(w.drew.alloc (.cells arr e)).shape? w.heap.size=some (e,arr.size):=by
    have h2:(w.drew.alloc (.cells arr e)).heap[w.heap.size]? =some (.cells arr e):=tw w.drew _
    simp only[World.shape?,h2]
   have h3:=ahE w.drew arr e arr.size;have h4:w.drew.heap.size=w.heap.size:=rfl;rw[h4]at h3;simp only[markStringish,Sem.run_bind,run_shape,h1,Result.andThen_ok,run_freeze,h3]
  simp[Conv.stringToBytes,Question.forced,newRow,hs]
theorem Inv.kill(h:Inv C g β s a w){id:Id}{v:Nat}{fr:Bool}{c:aB}(hs:s.bR id=some (.obj v fr c)){b:Nat}(hg:g b= .own (.id id) 0){w':World}(aLU:w'.os=w.os)(aSJ:w'.tape=w.tape)(ahO:w'.output=w.output/\w.drawn<=w'.drawn)(te:w'.heap.size=w.heap.size)
  (Kf:∀b',b'≠b->w'.heap[b']? =w.heap[b']?):Inv C (nk g b .free) β (s.bh id .dead) a w':=by
 have ht:Trans w w' g (nk g b .free):=by
  refine⟨aLU,aSJ,ahO,ak,λb' hb'=> ?_⟩;by_cases he:b'=b
  ·subst he;rw[hg,fx];exact⟨.inl rfl,λ_ _ hh=>ak⟩
  ·rw[fk _ _ _ he,Kf b' he];cases VW:g b' with
   |free=>exact⟨rfl,rfl⟩
   |own o k=>cases o with
    |ed=>exact⟨rfl,rfl⟩
    |id i=>exact⟨.inr ⟨i,k,rfl,ax _⟩,λoff v _ hv=>by simp only[World.cell?,Kf b' he]at hv ⊢;exact hv⟩
 have kS:=eE s id .dead (by rw[hs];simp);have hle:cM (s.env w g β) ((s.bh id .dead).env w' (nk g b .free) β):=by
  refine⟨Trans.mem ht,λi ver hb=> ?_,λi ver hb hc=> ?_⟩
  ·by_cases hi:i=id
   ·subst hi;exact⟨by show(s.bh i .dead).bR i≠none;rw[kS];simp,λv fr c hh=>by
     have hh:(s.bh i .dead).bR i=some (.obj v fr c):=hh;rw[kS]at hh;cases hh⟩
   ·have:=cS s id i .dead hi;obtain⟨h1,h2⟩:=hb;exact⟨by show(s.bh id .dead).bR i≠none;rw[this];exact h1,λv fr c hh=>h2 v fr c (this.symm.trans hh)⟩
  ·obtain⟨fr,c,hc⟩:=hc;have hc:(s.bh id .dead).bR i=some (.obj ver fr c):=hc;by_cases hi:i=id
   ·subst hi;rw[kS]at hc;cases hc
   ·rw[cS s id i .dead hi]at hc;exact⟨⟨fr,c,hc⟩,rfl⟩
 refine h.step (dd _ _ _) ht hle λi ver fr c hi=> ?_
 have hi:(s.bh id .dead).bR i=some (.obj ver fr c):=hi;by_cases cT:i=id
 ·subst cT;rw[kS]at hi;cases hi
 ·rw[cS s id i .dead cT]at hi;refine(h.bJ i ver fr c hi).mono hle rfl (λpl hp=> ?_) λq2 vq k2 v2 l2 Sf aR2=> ?_
  ·have gj:=h.apart hg cT hi (pl:=pl) hp;exact⟨Kf pl.b gj,fk _ _ _ gj⟩
  ·have Sf:s.bR q2=some (.obj vq true (.mp k2 v2 l2)):=Sf;have hd:q2≠id:=λe=>by obtain⟨fr3,c3,aDu⟩:=aR2;have aDu:(s.bh id .dead).bR q2=some (.obj vq fr3 c3):=aDu;rw[e,kS]at aDu;cases aDu
   refine⟨⟨k2,v2,l2,by show(s.bh id .dead).bR q2=_;rw[cS s id q2 .dead hd];exact Sf⟩,λpl hp=> ?_⟩;have gj:=h.apart hg hd Sf (pl:=pl) hp;exact⟨Kf pl.b gj,fk _ _ _ gj⟩
theorem ap4(h:Inv C g β s a w){src dst:TypeId}{x:Operand}(ho:o.op= .convert src dst x){id:Id}{ver len:Nat}(hx:s.ev x= .bz id ver [] 0 0 len){s':AS}(he:(akZ P s o.dst src dst id ver len).eval=some s'):fB P o a w (ik C s'):=by
 unfold akZ at he;split at he
 ·rename_i v e0 l e lN hD;split at he
  ·rename_i hE;obtain⟨h1,h2⟩:=aC.1 he;obtain⟨h3,h4⟩:=bN.1 h2;obtain rfl:=ay.1 h4;simp only[au,dr]at h1;obtain⟨rfl,rfl⟩:=h1;simp only[bf]at h3;obtain⟨h5,h6⟩:=h3;have cP:=dZ lN;have hv:=h.ev x;rw[hx]at hv;obtain⟨ad,cap,hy,Pj,_,_,fo⟩:=rM hv;have fo:=fo ⟨false,_,cP⟩;have hO:wS (s.env w g β) id false (.vec e0 (.int .u8) l):=h.bJ id v false _ cP;obtain⟨hz,hO⟩:=hO;have hO:(match β id with
    |none=>l=[]
    |some pl=>∃cur k,w.heap[pl.b]? =some (.cells cur e0 (0,0))/\cur.size=pl.cap*(Ty.int .u8).size/\l.length<=pl.cap/\pl.cap<=maxLen/\g pl.b= .own (.id id) k/\
      k<=l.length*(Ty.int .u8).size/\(false=false->k=0)/\bA (cY (s.env w g β) (.int .u8)) (cur.toList.take (l.length*(Ty.int .u8).size)) l):=hO
   have fo:(match β id with
    |some pl=>(0 < len\/0=0->ad=some ⟨pl.b,0,none⟩)/\(([]:List J8)=[]->0=0->cap=pl.cap)
    |none=>ad=none/\len=0/\cap=0):=fo
   cases hp:β id with
   |none=>rw[hp]at hO;simp only at hO;subst hO;simp at h6;omega
   |some pl=>
    rw[hp]at hO fo;obtain⟨cur,k,q1,q2,q3,q4,q5,q6,q7,q8⟩:=hO;have hk:=q7 rfl;subst hk;have aw8:=fo.1 (.inr rfl);subst aw8;have hb:pl.b < w.heap.size:=(bM.1 q1).1;have aP1:∃w',w.freeze ⟨pl.b,cur.size,none⟩ 1=w'/\w'.heap[pl.b]? =some (.cells cur e0 (cur.size,cur.size+1))/\w'.os=w.os/\w'.tape=w.tape/\(w'.output=w.output/\w.drawn<=w'.drawn)/\w'.heap.size=w.heap.size/\∀b',b'≠pl.b->w'.heap[b']? =w.heap[b']? :=by
     refine⟨_,rfl,?_⟩;unfold World.freeze;rw[if_neg ak];refine⟨?_,rfl,rfl,⟨rfl,ax _⟩,by simp,λb' hb'=> ?_⟩
     ·simp only[gl,bH,q1,dT];rfl
     ·simp only[gl];rw[if_neg (λe=>hb' e.symm)]
    obtain⟨w',hw',f1,f2,f3,f4,f5,f6⟩:=aP1;have aDE:w.shape? pl.b=some (e0,cur.size):=by simp only[World.shape?,q1]
    have hm:(markStringish ⟨pl.b,0,none⟩).run P w= .ok () w':=by simp only[markStringish,Sem.run_bind,run_shape,aDE,Result.andThen_ok,run_freeze,hw']
    have i1:=h.kill cP q5 f2 f3 f4 f5 f6;refine .inl ⟨.slice (some ⟨pl.b,0,none⟩) len cap,w',dU (f:=convert src src (a.eval x)) (by simp only[execOp,ho]) ?_,_,β,i1.put o.dst ⟨_,?_,rfl⟩⟩
    ·rw[hy];simp[convert,run_underlying hD,run_underlying hE,hm]
    ·have Uu:=wY q8;have aNt:(Ty.int .u8).size=1:=rfl;rw[aNt,gH]at Uu;simp only[V,cY];refine⟨_,cap,l.map (Value.int .u8),by rw[h6],by rw[<-h6];exact Pj,λ_=>rfl,λj vv hj=>⟨_,_,rfl,?_,?_⟩,w9 (E:=(s.bh id .dead).env w' (nk g pl.b .free) β) _⟩
     ·rw[aK];show w'.cell? ⟨pl.b,j,none⟩=some vv;simp only[World.cell?,f1];rw[<-Uu,da]at hj;split at hj
      ·simpa using hj
      ·cases hj
     ·show uT (nk g pl.b .free) pl.b (0+j);unfold uT;rw[fx];trivial
  ·simp only[av]at he
 ·simp only[av]at he
theorem aIX(h:Inv C g β s a w){src dst:TypeId}{x:Operand}(ho:o.op= .convert src dst x){l:List Int}(hl:s.ev x= .sb l){v:aB}(he:(aCu P src dst l).eval=some v):fB P o a w (ik C (s.put o.dst v)):=by
 have hx:=h.ev x;have fin:∀z,(convert src dst (a.eval x)).run P w= .ok z w->VS (s.env w g β) v z->fB P o a w (ik C (s.put o.dst v)):=by intro z h1 h2;exact h.value h2 (dU (f:=convert src dst (a.eval x)) (by simp only[execOp,ho]) h1)
 unfold aCu at he;split at he
 ·rename_i e e' hD hS;rw[hl]at hx;split at he
  ·rename_i hE;obtain⟨h1,h2⟩:=aC.1 he;obtain rfl:=ay.1 h2;have h1:src=dst:=by simpa using h1
   subst h1;obtain⟨cs,hv,hO⟩:=hx;simp only[V]at hv;obtain⟨b,cap,arr,e2,axc,Pj,aNj,hb,aqt⟩:=hv;have hO':cs=[a.eval x]:=hO;rw[axc]at hO';have hy:a.eval x= .slice (some ⟨b,0,none⟩) l.length cap:=by simpa using hO'.symm
   rw[hD]at hS;obtain rfl:e=e':=by simpa using hS
   refine fin (.slice (some ⟨b,0,none⟩) l.length cap) ?_ ⟨_,?_,rfl⟩
   ·rw[hy];have hb:w.heap[b]? =some (.cells arr e2 (arr.size,arr.size+1)):=hb
    have aP1:=alI hb;have aDE:w.shape? b=some (e2,arr.size):=by simp only[World.shape?,hb]
    have hm:(markStringish ⟨b,0,none⟩).run P w= .ok () w:=by simp only[markStringish,Sem.run_bind,run_shape,aDE,Result.andThen_ok,run_freeze,aP1]
    simp[convert,run_underlying hD,run_underlying hE,hm]
   ·simp only[V,cY];refine⟨_,cap,l.map (Value.int .u8),rfl,Pj,λ_=>rfl,λj v hj=>⟨_,_,rfl,?_,?_⟩,w9 (E:=s.env w g β) _⟩
    ·rw[aK];show w.cell? ⟨b,j,none⟩=some v;have hb:w.heap[b]? =some (.cells arr e2 (arr.size,arr.size+1)):=hb
     simp only[World.cell?,hb];simpa using aqt j v hj
    ·show uT g b (0+j);unfold uT;have aNj:g b= .free:=aNj;rw[aNj];trivial
  ·simp only[av]at he
 ·simp only[av]at he
theorem ag8(h:Inv C g β s a w){obj:Bool}{src dst:TypeId}{x:Operand}(ho:o.op= .convert src dst x){v:aB}(he:(aeA P s obj src dst (s.ev x)).eval=some v):fB P o a w (ik C (s.put o.dst v)):=by
 have hx:=h.ev x;have fin:∀z,(convert src dst (a.eval x)).run P w= .ok z w->VS (s.env w g β) v z->fB P o a w (ik C (s.put o.dst v)):=by intro z h1 h2;exact h.value h2 (dU (f:=convert src dst (a.eval x)) (by simp only[execOp,ho]) h1)
 unfold aeA at he;split at he
 ·rename_i l hl;exact aIX h ho hl he
 rename_i aP7;unfold aCt at he;split at he
 ·rename_i k n k' d hl hD hS;rw[hl]at hx;obtain rfl:=ay.1 he;refine fin (.int k' (k'.wrap n)) ?_ (lB _ _)
  rw[vd hx];simp[convert,run_underlying hD,run_underlying hS,Conv.intToInt]
 ·rename_i st d hl hD hS;rw[hl]at hx;obtain rfl:=ay.1 he;refine fin (.string st) ?_ (agt _)
  rw[IY hx];simp[convert,run_underlying hD,run_underlying hS]
 ·rename_i st e d hl hD hS;rw[hl]at hx;split at he
  ·rename_i hE;obtain⟨cap,Pj,arr,aqt,pV⟩:=QB (P:=P) e st w;have i1:=(h.drew).Jp (.cells arr e (arr.size,arr.size+1));have hlen:(bG st).length=st.size:=by simp only[bG,bZ,cJ];rfl
   have h2:=tw w.drew (.cells arr e (arr.size,arr.size+1));have hex:(execOp a.eval o).run P w= .ok (.value (.slice (some ⟨w.heap.size,0,none⟩) st.size cap)) (w.drew.alloc (.cells arr e (arr.size,arr.size+1))):=by
    refine dU (f:=convert src dst (a.eval x)) (by simp only[execOp,ho]) ?_
    rw[IY hx];simp[convert,run_underlying hD,run_underlying hS,run_underlying hE,pV]
   have aub:nk g w.drew.heap.size .free w.heap.size= .free:=by rw[show w.drew.heap.size=w.heap.size from rfl,fx]
   cases obj with
   |false=>
    obtain rfl:=ay.1 he;refine .inl ⟨_,_,hex,_,β,i1.put o.dst ⟨_,?_,rfl⟩⟩;simp only[V,cY];refine⟨_,cap,(bG st).map (Value.int .u8),by rw[hlen],ak,λ_=>rfl,λj v hj=>⟨_,_,rfl,?_,?_⟩,w9 (E:=s.env (w.drew.alloc (.cells arr e (arr.size,arr.size+1))) (nk g w.drew.heap.size .free) β) _⟩
    ·have:=aqt j v hj;rw[aK];show(w.drew.alloc (.cells arr e (arr.size,arr.size+1))).cell? ⟨w.drew.heap.size,j,none⟩=some v;simp only[World.cell?,h2];simpa using this
    ·show uT (nk g w.drew.heap.size .free) w.heap.size (0+j);unfold uT;rw[aub];trivial
   |true=>
    obtain rfl:=ay.1 he;refine .inl ⟨_,_,hex,_,β,i1.put o.dst ⟨_,?_,rfl⟩⟩;simp only[V];exact⟨w.heap.size,cap,arr,e,by rw[hlen],ak,aub,h2,aqt⟩
  ·simp only[av]at he
 ·rename_i e hD hS gj;clear gj;split at he
  ·rename_i hE;obtain⟨l,h1,h2⟩:=aw.1 he;obtain rfl:=ay.1 h2;obtain⟨cs,hR,hO⟩:=arq h hx h1;simp only[cY]at hR;obtain⟨ad,cap,vs,rfl,aAC,qw,r9,v7⟩:=hR;have hO': [Value.slice ad (ag l) cap]=[a.eval x]:=hO;have hy:a.eval x= .slice ad (ag l) cap:=by simpa using hO'.symm
   refine fin (.string (fj l)) ?_ (agt _)
   rw[hy,run_convert_bytes_string w src dst e ad _ _ hS hE hD];have Uu:=wY (E:=(s.env w g β).open) (k:= .u8) (vs:=vs) (l:=l) v7;cases ad with
   |none=>
    have aP7:l=[]:=by
     cases l with
     |nil=>rfl
     |cons _ _=>simp at qw
    subst aP7;rfl
   |some ad=>
    have aDz:(loadCells ad (ag l)).run P w= .ok (l.map (Value.int .u8)).toArray w:=by
     have:=run_loadCells_list (P:=P) w ad (l.map (Value.int .u8)) (λj v hj=>by
      rw[<-Uu]at hj;obtain⟨bb,off,e1,hh⟩:=r9 j v hj;simp only[az]at e1;subst e1;rw[Addr.add_lit];exact hh.1)
     simpa using this
    rw[run_bytesToString w ad _ _ l aDz,foldl_push];simp[fj]
  ·simp only[av]at he
 ·simp only[av]at he
end
end Go.Ab
namespace Go.Ab
section
variable {P:Program} {C:Ctx} {g:Nat->lU} {β:Id->Option Pl} {s:AS} {a:Act} {w:World} {o:Oper}
theorem aeR(off:Nat):∀(vs:List Value) (k:Nat) (cells:Array Value),off+k+vs.length<=cells.size->
  ((vs.zipIdx k).foldl (λcs (c,j)=>cs.setIfInBounds (off+j) c) cells).toList=du cells.toList (off+k) vs
 |[],k,cells,_=>by simp[du]
 |v::vs,k,cells,h=>by simp only[aA]at h;rw[List.zipIdx_cons,bp,aeR off vs (k+1) _ (by simpa using(by omega:off+(k+1)+vs.length<=cells.size))];rw[Array.toList_setIfInBounds];have:=list_seg_step cells.toList (off+k) v vs (by simp;omega);unfold du;simpa[eM]using this
theorem aeP{place:Nat->Option (Nat×Nat)}{cells:Array Value}{i off:Nat}{v:Value}{vs:List Value}{rest:List (Nat×Value)}(hp:place i=some (off,vs.length))(hv:v.cells=vs.toArray)(hl:off+vs.length<=cells.size):
  Instr.fill place cells ((i,v)::rest)=Instr.fill place (du cells.toList off vs).toArray rest:=by
 have h1:v.cells.size=vs.length:=by rw[hv];simp
 have h2:¬(v.cells.size≠vs.length || off+v.cells.size > cells.size)=true:=by simp[h1];omega
 simp only[Instr.fill,hp];rw[if_neg h2];congr 1;apply gf;have:=aeR off vs 0 cells ak;simp only[cj]at this;rw[<-this,hv];rw[<-Array.foldl_toList];simp
theorem C8{E E':Env}(hs:E.s=s.bR)(ho:iI E)(he:cM E E'){t:Ty}(alS:∀x,VS E (s.ev x) (a.eval x)):
  ∀(ps:List (Nat×Operand)) (l:List t.den) (r:List t.den×List Id) (cells:Array Value),(jl t s ps l).eval=some r->aPm E E' r.2->bA (cY E' t) cells.toList l->
   ∃cells',Instr.fill (λi=>some (i*t.size,t.size)) cells (ps.map λ(i,x)=>(i,a.eval x))=some cells'/\bA (cY E' t) cells'.toList r.1
 |[],l,r,cells,h,_,hc=>by obtain rfl:=ay.1 h;exact⟨cells,rfl,hc⟩
 | (i,x)::ps,l,r,cells,h,hf,hc=>by
  simp only[jl]at h;obtain⟨h1,h2⟩:=aC.1 h;obtain⟨y,h3,h4⟩:=aw.1 h2;obtain⟨r',h5,h6⟩:=aw.1 h4;obtain rfl:=ay.1 h6;have hi:i < l.length:=by simpa using h1
  obtain⟨cs,hV,hO⟩:=(alS x).eN (Cq h3);have hR:=xp hs ho he _ t y cs hV h3 (λid cT=>hf id (by simp[cT]));have DA:=hO.cells hV.one;have hlen:=hc.length (λ_ _ hx=>cY.size hx);have te:=hR.size;have hle:i*t.size+cs.length<=cells.size:=by have:=cQ t.size (show i+1<=l.length by omega);rw[eo,il]at this;simp at hlen;omega
  have ahS:=bA.set (λ_ _ hx=>cY.size hx) hc i hi hR;obtain⟨cells',q1,q2⟩:=C8 hs ho he alS ps (l.set i y) r' (du cells.toList (i*t.size) cs).toArray h5 (λid cT=>hf id (by simp[cT])) ahS;refine⟨cells',?_,q2⟩;rw[bU,aeP (by rw[te]) DA hle];exact q1
theorem uo{E:Env}{t:Ty}{zc:Array Value}(hz:cY E t zc.toList t.zero):∀n:Nat,bA (cY E t) (madeCells zc (n*t.size)).toList (ab n t.zero):=by
 have te:zc.size=t.size:=by have:=hz.size;simpa using this
 intro n
 induction n with
 |zero=>simp[madeCells,bA]
 |succ n ih=>
  have e:(madeCells zc ((n+1)*t.size)).toList=(madeCells zc (n*t.size)).toList++zc.toList:=by
   apply kF;intro j;rw[eo,il];simp only[madeCells,Array.toList_map,Array.toList_range,ea,List.getElem?_append,bZ,List.length_range];by_cases hj:j < n*t.size
   ·have hj':j < n*t.size+t.size:=ak;simp[hj,hj',te]
   ·by_cases hj':j < n*t.size+t.size
    ·have gB:j - n*t.size < zc.size:=ak;have hm:j%t.size=j - n*t.size:=by
      have:j=(j - n*t.size)+t.size*n:=by rw[pP t.size n];omega
      rw[this,Nat.add_mul_mod_self_left,jL ak];rw[pP t.size n];omega
     simp[hj,hj',te,hm];rw[getElem?_pos zc _ gB,kR zc _ gB]
    ·have h1:¬j - n*t.size < zc.size:=ak;simp[hj,hj',h1]
  rw[e,List.replicate_succ'];exact bA.append ih (bA.one hz)
theorem qP{nl:Bool}{T:TypeId}{e:TypeId}{t:Ty}{b:Nat}(h:EU P nl T=some (e,t,b)):
  P.underlying T=some (.slice e)/\0 < t.size/\∃i zv,P.info? e=some i/\i.size=t.size/\i.bytes=b/\i.zero=some zv/\∀E,cY E t zv.cells.toList t.zero:=by
 unfold EU at h;split at h
 ·rename_i e' hT;split at h
  ·rename_i t' ht;split at h
   ·rename_i hg;simp only[az,cC]at h;obtain⟨rfl,rfl,rfl⟩:=h;simp only[au,cv,dr,gh]at hg;obtain⟨⟨h1,h2⟩,h3⟩:=hg;obtain⟨i,zv,hi,hz,_,_⟩:=vM h3 {w:=default,g:=λ_=> .free,β:=λ_=>none,s:=λ_=>none};refine⟨hT,ak,i,zv,hi,by rw[<-mS hi];exact h1,by simp[Program.bytesOf,hi],hz,λE=> ?_⟩;obtain⟨i',zv',hi',hz',hV,_⟩:=vM h3 E;rw[hi]at hi';obtain rfl:i=i':=by simpa using hi'
    rw[hz]at hz';obtain rfl:zv=zv':=by simpa using hz'
    simpa only[V]using hV
   ·cases h
  ·cases h
 ·cases h
theorem CE{T:TypeId}{e:TypeId}{t:Ty}{b:Nat}(h:WC P T=some (e,t,b)):P.underlying T=some (.slice e)/\0 < t.size/\∃i zv,P.info? e=some i/\i.size=t.size/\i.bytes=b/\i.zero=some zv/\∀E,cY E t zv.cells.toList t.zero:=qP h
theorem acM{T:TypeId}{e:TypeId}{t:Ty}{b:Nat}(h:ahu P T=some (e,t,b)):0 < t.size:=by
 unfold ahu at h;split at h
 ·exact(qP h).2.1
 ·exact(qP h).2.1
theorem Inv.aio(h:Inv C g β s a w){q:Nat}(hq:s.dX q=true){e:TypeId}{t:Ty}{l:List t.den}{cur:Array Value}{cap:Nat}(hz:0 < t.size)(hc:bA (cY (s.env w g β) t) (cur.toList.take (l.length*t.size)) l)
  (hs:cur.size=cap*t.size) (hl:l.length<=cap) (hm:cap<=maxLen):
  ∃g' β',Inv C g' β' (s.born q [.obj 0 false (.vec e t l)]) a (w.alloc (.cells cur e))/\
   VS ((s.born q [.obj 0 false (.vec e t l)]).env (w.alloc (.cells cur e)) g' β') (.bz (.new q 0) 0 [] 0 0 l.length) (.slice (some ⟨w.heap.size,0,none⟩) l.length cap):=by
 have ht:=Trans.alloc w g (.cells cur e) (.own (.id (.new q 0)) 0);obtain⟨h1,h2⟩:=h.RP hq (c:= .vec e t l) (p:=some ⟨w.heap.size,cap⟩) ht (λb hb=>⟨qO w _ hb,fk _ _ _ ak⟩) (λhe=>by
  refine⟨hz,?_⟩;show(match Jn β (.new q 0) (some ⟨w.heap.size,cap⟩) (.new q 0) with
   |none=>l=[]
   |some pl=>_)
  rw[jQ];exact⟨cur,0,tw w _,hs,hl,hm,fx _ _ _,aM _,λ_=>rfl,hc.mono λ_ _ hx=>hx.mono he.mem⟩)
 refine⟨_,_,h1,_,?_,rfl⟩;simp only[V];refine⟨_,_,rfl,hl,λ_=>rfl,pU hq _ _ _ _,λ_=> ?_⟩;show(match Jn β (.new q 0) (some ⟨w.heap.size,cap⟩) (.new q 0) with
   |some pl=>_
   |none=>_)
 rw[jQ];exact⟨λ_=>rfl,λ_ _=>rfl⟩
theorem Inv.aEO(h:Inv C g β s a w){q:Nat}(hq:s.dX q=true){e:TypeId}{t:Ty}(hz:0 < t.size):
  ∃β',Inv C g β' (s.born q [.obj 0 false (.vec e t [])]) a w/\cM (s.env w g β) ((s.born q [.obj 0 false (.vec e t [])]).env w g β')/\
   VS ((s.born q [.obj 0 false (.vec e t [])]).env w g β') (.bz (.new q 0) 0 [] 0 0 0) (.slice none 0 0):=by
 have ht:=Trans.refl w g;obtain⟨h1,h2⟩:=h.RP hq (c:= .vec e t []) (p:=none) ht (λb hb=>⟨rfl,rfl⟩) (λhe=>by
  refine⟨hz,?_⟩;show(match Jn β (.new q 0) none (.new q 0) with
   |none=>([]:List t.den)=[]
   |some pl=>_)
  rw[jQ])
 refine⟨_,h1,h2,_,?_,rfl⟩;simp only[V];refine⟨_,_,rfl,ax _,λhh=>ak,pU hq _ _ _ _,λ_=> ?_⟩;simp[AS.env]
theorem SI(parts:Array (Nat×Operand)):(parts.map λ(i,x)=>(i,a.eval x)).toList=parts.toList.map λ(i,x)=>(i,a.eval x):=by simp
theorem VR(h:Inv C g β s a w){T:TypeId}{n:Nat}{parts:Array (Nat×Operand)}{nl obj:Bool}(ho:o.op= .buildSlice T n parts){s':AS}(he:(my P s nl obj o.dst T n parts.toList).eval=some s'):fB P o a w (ik C s'):=by
 unfold my at he;split at he
 ·rename_i e t b q Ke hd;obtain⟨hT,hz,i,zv,hi,axh,aNn,aoY,axl⟩:=qP Ke;obtain⟨h1,h2⟩:=aC.1 he;obtain⟨r,h3,h4⟩:=aw.1 h2;simp only[bf]at h1;obtain⟨g1,i1,e1,t1,f1⟩:=fq r.2 h;have aO8:zv.cells.size=t.size:=by have:=(axl (s.env w g β)).size;simpa using this
  obtain⟨cells',aPZ,v7⟩:=C8 (a:=a) rfl h.bJ e1 h.ev parts.toList _ r (madeCells zv.cells (n*t.size)) h3 f1 (uo (axl _) n);have aQb:r.1.length=n:=by
   have:∀(ps:List (Nat×Operand)) (l:List t.den) (r:List t.den×List Id),(jl t s ps l).eval=some r->r.1.length=l.length:=by
    intro ps
    induction ps with
    |nil=>intro l r hh;obtain rfl:=ay.1 hh;rfl
    |cons p ps ih=>
     intro l r hh;obtain⟨i,x⟩:=p;simp only[jl]at hh;obtain⟨_,h2⟩:=aC.1 hh;obtain⟨y,h3,h4⟩:=aw.1 h2;obtain⟨r',h5,h6⟩:=aw.1 h4;obtain rfl:=ay.1 h6;have:=ih _ _ h5;simpa using this
   rw[this _ _ _ h3];simp
  have aAB:=v7.length (λ_ _ hx=>cY.size hx);have pV:(execOp a.eval o).run P w= .ok (.value (.slice (some ⟨w.heap.size,0,none⟩) n n)) (w.alloc (.cells cells' e)):=by
   refine dU (f:=Instr.buildSlice T n (parts.map λ(i,x)=>(i,a.eval x))) (by simp only[execOp,ho]) ?_
   have aPN:¬n*t.size > 2^24:=ak;have hfill':Instr.fill (λi=>some (i*t.size,t.size)) ((Array.range (n*t.size)).map (λx=>(zv.cells)[x%zv.cells.size]!)) (parts.map λ(i,x)=>(i,a.eval x)).toList=some cells':=by rw[SI];exact aPZ
   by_cases hn:n*t.size=0
   ·have aJs:n=0:=by
     rcases Nat.mul_eq_zero.1 hn with h' | h'
     ·exact h'
     ·omega
    subst aJs;simp only[mM]at hfill' aPN;have h0:Array.range 0= #[]:=rfl;rw[h0,Array.map_empty]at hfill';simp at hfill';simp[Instr.buildSlice,run_underlying hT,run_sizeOf hi,axh,newRow,h0,hfill']
   ·simp[Instr.buildSlice,run_underlying hT,run_sizeOf hi,axh,newRow,hn,aPN,zeroValue,typeInfo,hi,aoY];simp at hfill';simp[hfill']
  cases obj with
  |true=>
   simp only at h4;obtain⟨hq,h5⟩:=aC.1 h4;obtain rfl:=ay.1 h5;rw[<-vI r.2]at hq;have aP0:cells'.toList.take (r.1.length*t.size)=cells'.toList:=aX ak;obtain⟨g2,β2,i2,Ut⟩:=i1.aio hq (e:=e) (l:=r.1) (cur:=cells') (cap:=n) hz (by rw[aP0];exact v7) (by simp at aAB;rw[aAB,aQb]) ak (by
    have:n<=n*t.size:=Nat.le_mul_of_pos_right n hz;unfold maxLen;omega)
   refine .inl ⟨_,_,pV,g2,β2,?_⟩;rw[hd];rw[aQb]at Ut ⊢;exact i2.put (some q) Ut
  |false=>
   simp only at h4;obtain rfl:=ay.1 h4;have i2:=i1.Jp (.cells cells' e);refine .inl ⟨_,_,pV,nk g1 w.heap.size .free,β,?_⟩;rw[hd];refine i2.put (some q) ⟨[.slice (some ⟨w.heap.size,0,none⟩) n n],?_,rfl⟩;simp only[V,cY];refine⟨_,n,cells'.toList,by rw[aQb],ak,λ_=>rfl,λj v hj=>⟨_,_,rfl,?_,?_⟩,v7.mono λ_ _ hx=>hx.mono (Trans.mem (E:=(s.bw r.2).env w g1 β) (E':=(s.bw r.2).env (w.alloc (.cells cells' e)) (nk g1 w.heap.size .free) β) (Trans.alloc w g1 (.cells cells' e) .free))⟩
   ·show(w.alloc (.cells cells' e)).cell? ⟨w.heap.size,0+j,none⟩=some v;rw[World.cell?_alloc_new,aK];simpa using hj
   ·show uT (nk g1 w.heap.size .free) w.heap.size (0+j);unfold uT;rw[fx];trivial
 ·simp only[av]at he
theorem Zi(h:Inv C g β s a w){T:TypeId}{x y:Operand}(ho:o.op= .makeSlice T x y){len cap:Int}(hx:(asInt (s.ev x)).eval=some len)(hy:(asInt (s.ev y)).eval=some cap){s':AS}
  (he:(sk P s o.dst T len cap).eval=some s'):fB P o a w (ik C s'):=by
 obtain⟨k,hx⟩:=zX (h.ev x) hx;obtain⟨k',hy⟩:=zX (h.ev y) hy;unfold sk at he;split at he
 ·rename_i e t b q Ke hd;obtain⟨hT,hz,i,zv,hi,axh,aNn,aoY,axl⟩:=CE Ke;obtain⟨hq,h2⟩:=aC.1 he;obtain⟨h3,h4⟩:=bN.1 h2;obtain rfl:=ay.1 h4;simp only[au,bf,cV]at h3;obtain⟨⟨h5,h6⟩,h7,h8⟩:=h3;have hbytes:(i.bytes:Int)*cap<=281474976710656:=by rw[aNn];have:((cap.toNat*b:Nat):Int)<=140737488355328:=ak;rw[ku,show((cap.toNat:Nat):Int)=cap by omega,pG]at this;omega
  have hr:=run_make (P:=P) w T e i zv hT hi aoY k k' len cap h5 h6 hbytes ak;rw[axh]at hr;have aO8:zv.cells.size=t.size:=by have:=(axl (s.env w g β)).size;simpa using this
  have CG:=uo (axl (s.env w g β)) cap.toNat;have axk:=bA.take (λ_ _ hx=>cY.size hx) len.toNat CG;rw[List.take_replicate,fO ak]at axk;obtain⟨g2,β2,i2,Ut⟩:=h.aio hq (e:=e) (l:=ab len.toNat t.zero) (cur:=madeCells zv.cells (cap.toNat*t.size)) (cap:=cap.toNat) hz (by rw[cg];exact axk) (size_madeCells _ _) (by rw[cg];omega) (by unfold maxLen;omega);rw[cg]at Ut;refine .inl ⟨_,_,dU (f:=Instr.makeSlice T (a.eval x) (a.eval y)) (by simp only[execOp,ho]) (by rw[hx,hy];exact hr),g2,β2,?_⟩;rw[hd];exact i2.put (some q) Ut
 ·simp only[av]at he
end
end Go.Ab
namespace Go.Ab
section
variable {P:Program} {C:Ctx} {g:Nat->lU} {β:Id->Option Pl} {s:AS} {a:Act} {w:World} {o:Oper}
theorem arl:∀(c:aB) (f off:Nat) (v:aB),partOf c f=some (off,v)->(loc c (nM f)).eval=some (off,v):=by
 intro c f
 induction f generalizing c with
 |zero=>
  intro off v h;cases c with
  |d t y=>
   cases t <;> simp only[partOf,reduceCtorEq]at h;simp only[az,cC]at h;obtain⟨rfl,rfl⟩:=h;rfl
  |pr b c=>
   simp only[partOf,az,cC]at h;obtain⟨rfl,rfl⟩:=h;simp only[nM,loc];cases b <;> rfl
  |_=>simp only[partOf,reduceCtorEq]at h
 |succ f ih=>
  intro off v h;cases c with
  |d t y=>
   cases t with
   |pair ta tb=>
    simp only[partOf]at h;cases hp:partOf (.d tb y.2) f with
    |none=>rw[hp]at h;cases h
    |some r=>
     rw[hp]at h;simp only[az,cC]at h;obtain⟨rfl,rfl⟩:=h;simp only[nM,loc,aw];exact⟨_,ih _ _ _ hp,rfl⟩
   |_=>simp only[partOf,reduceCtorEq]at h
  |pr b c=>
   simp only[partOf]at h;cases hp:partOf c f with
   |none=>rw[hp]at h;cases h
   |some r=>
    rw[hp]at h;simp only[az,cC]at h;obtain⟨rfl,rfl⟩:=h;simp only[nM,loc,aw];exact⟨_,ih _ _ _ hp,rfl⟩
  |_=>simp only[partOf,reduceCtorEq]at h
theorem amy(a b:aB):(PR a b).agg=true:=by unfold PR;split <;> rfl
theorem adT{v x v':aB}{i:Nat}(h:(xR v (nM i) x).eval=some v'):v'.agg=true:=by
 have fin:∀ {o:Out aB} {f:aB->aB},(∀a,(f a).agg=true)->(o.bind λa=>Out.ok (f a)).eval=some v'->v'.agg=true:=by intro o f hf hh;obtain⟨_,_,h2⟩:=aw.1 hh;obtain rfl:=ay.1 h2;exact hf _
 cases i <;> simp only[nM]at h
 all_goals
  cases v with
  |d t y=>cases t <;> first | (simp only[xR,av]at h;done) | (simp only[xR]at h;exact fin (λ_=>amy _ _) h)
  |pr b c=>simp only[xR]at h;exact fin (λ_=>amy _ _) h
  |_=>simp only[xR,av]at h
theorem IK{E:Env}(alS:∀x,VS E (s.ev x) (a.eval x)){fs:Array Field}{places:Array (Nat×Nat)}(NZ:∀(i:Nat) (f:Field),fs[i]? =some f->places[i]? =some (f.offset,P.cellsOf f.type)):
  ∀(ps:List (Nat×Operand)) (v v':aB) (cells:Array Value),(qm P fs s ps v).eval=some v'->V E v cells.toList->v.agg=true->
   ∃cells',Instr.fill (places[·]?) cells (ps.map λ(i,x)=>(i,a.eval x))=some cells'/\V E v' cells'.toList/\v'.agg=true
 |[],v,v',cells,h,hV,NY=>by obtain rfl:=ay.1 h;exact⟨cells,rfl,hV,NY⟩
 | (i,x)::ps,v,v',cells,h,hV,NY=>by
  simp only[qm]at h;split at h
  ·rename_i f off bj hf hp;obtain⟨h1,h2⟩:=aC.1 h;obtain⟨v1,h3,h4⟩:=aw.1 h2;simp only[au,dr]at h1;obtain⟨⟨rfl,aRd⟩,aTS⟩:=h1;obtain⟨aqu,_⟩:=rZ aTS;obtain⟨cs,hVx,hO⟩:=(alS x).eN aqu;have hcells:=hO.cells hVx.one;have aSh:=arl _ _ _ _ hp;obtain⟨u1,u2,u3⟩:=qu (nM i) v cells.toList f.offset bj (s.ev x) v1 cs (VO.of hV) aSh hVx h3;have aQd:v1.iB=false:=u3.uh hV.uh;have te:P.cellsOf f.type=cs.length:=by rw[(HA aTS).2.1];exact hVx.size.symm
   obtain⟨cells',q1,q2,q3⟩:=IK alS NZ ps v1 v' (du cells.toList f.offset cs).toArray h4 (by simpa using u2.to aQd) (adT h3);refine⟨cells',?_,q2,q3⟩;rw[bU,aeP (by rw[NZ i f hf,te]) hcells (by simpa using u1)];exact q1
  ·simp only[av]at h
theorem anT{α γ:Type}(f:α->Sem γ)(r:α->γ):∀(l:List α),(∀x∈l,(f x).run P w= .ok (r x) w)->(l.mapM f).run P w= .ok (l.map r) w
 |[],_=>by simp
 |x::xs,h=>by rw[List.mapM_cons];simp only[Sem.run_bind,h x (by simp),Result.andThen_ok,anT f r xs (λy hy=>h y (by simp[hy])),Sem.run_pure,bU]
theorem apG(h:Inv C g β s a w){T:TypeId}{parts:Array (Nat×Operand)}(ho:o.op= .build T parts){s':AS}(he:(Hi P s o.dst T parts.toList).eval=some s'):fB P o a w (ik C s'):=by
 unfold Hi at he;split at he
 ·rename_i fs hT;split at he
  ·rename_i z aVY;obtain⟨h1,h2⟩:=aC.1 he;obtain⟨v,h3,h4⟩:=aw.1 h2;obtain rfl:=ay.1 h4;simp only[au,df]at h1;obtain⟨⟨hz,NY⟩,aSe⟩:=h1;obtain⟨i,zv,hi,aoY,hV,hO⟩:=vM hz (s.env w g β)
   let places:Array (Nat×Nat):=fs.map λf=>(f.offset,P.cellsOf f.type)
   have NZ:∀(i:Nat) (f:Field),fs[i]? =some f->places[i]? =some (f.offset,P.cellsOf f.type):=by intro i f hf;simp[places,hf]
   obtain⟨cells',q1,q2,q3⟩:=IK (a:=a) h.ev NZ parts.toList z v zv.cells h3 hV NY;have hm:(fs.mapM λf=>(do pure (f.offset,<-sizeOf f.type):Sem (Nat×Nat))).run P w= .ok places w:=by
    rw[Array.mapM_eq_mapM_toList];have:=anT (P:=P) (w:=w) (λf=>(do pure (f.offset,<-sizeOf f.type):Sem (Nat×Nat))) (λf=>(f.offset,P.cellsOf f.type)) fs.toList (by
     intro f hf;obtain⟨j,hj⟩:=bQ.1 (aSe f hf);rw[Sem.run_bind,run_sizeOf hj,mS hj];rfl)
    rw[Sem.run_map,this];show Result.ok _ w=Result.ok _ w;congr 1;apply gf;simp[places]
   refine h.value (x:= .agg cells') (VS.of q2 (by rw[q3];simp[fJ])) (dU (f:=Instr.build T (parts.map λ(i,x)=>(i,a.eval x))) (by simp only[execOp,ho]) ?_);have q1':Instr.fill (places[·]?) zv.cells (parts.map λ(i,x)=>(i,a.eval x)).toList=some cells':=by rw[SI];exact q1
   simp only[Instr.build,Sem.run_bind,zeroValue,typeInfo,run_program,hi,Result.andThen_ok,Sem.run_pure,aoY,run_underlying hT,hm,q1']
  ·simp only[av]at he
 ·rename_i n e hT;split at he
  ·rename_i t ht;obtain⟨h1,h2⟩:=aC.1 he;obtain⟨r,h3,h4⟩:=aw.1 h2;obtain rfl:=ay.1 h4;simp only[au,dr]at h1;obtain⟨te,hz⟩:=h1;obtain⟨g1,i1,e1,t1,f1⟩:=fq r.2 h;obtain⟨i,zv,hi,aoY,hV,hO⟩:=vM hz ((s.bw r.2).env w g1 β);simp only[V,cY]at hV;obtain⟨cells',q1,q2⟩:=C8 (a:=a) rfl h.bJ e1 h.ev parts.toList _ r zv.cells h3 f1 hV.2;have aQb:r.1.length=n:=by
    have:∀(ps:List (Nat×Operand)) (l:List t.den) (r:List t.den×List Id),(jl t s ps l).eval=some r->r.1.length=l.length:=by
     intro ps
     induction ps with
     |nil=>intro l r hh;obtain rfl:=ay.1 hh;rfl
     |cons p ps ih=>
      intro l r hh;obtain⟨i,x⟩:=p;simp only[jl]at hh;obtain⟨_,h2⟩:=aC.1 hh;obtain⟨y,h3,h4⟩:=aw.1 h2;obtain⟨r',h5,h6⟩:=aw.1 h4;obtain rfl:=ay.1 h6;have:=ih _ _ h5;simpa using this
    rw[this _ _ _ h3];simp
   refine .inl ⟨.agg cells',w,dU (f:=Instr.build T (parts.map λ(i,x)=>(i,a.eval x))) (by simp only[execOp,ho]) ?_,g1,β,i1.put o.dst ⟨cells'.toList,?_,by simp[fJ,aB.agg,Ty.agg]⟩⟩
   ·have q1':Instr.fill (λi=>some (i*t.size,t.size)) zv.cells (parts.map λ(i,x)=>(i,a.eval x)).toList=some cells':=by rw[SI];exact q1
    cases aSc:P.info? e with
    |none=>
     exfalso;unfold aoD ab2 at ht;simp only[depth]at ht;have:P.underlying e=none:=by simp[Program.underlying,aSc]
     rw[this]at ht;cases ht
    |some ie=>
     have aT7:=run_sizeOf aSc w;rw[<-mS aSc,te]at aT7;simp only[Instr.build,Sem.run_bind,zeroValue,typeInfo,run_program,hi,Result.andThen_ok,Sem.run_pure,aoY,run_underlying hT,aT7,q1']
   ·simp only[V,cY];exact⟨aQb,q2⟩
  ·simp only[av]at he
 ·simp only[av]at he
theorem Tk{T X ty e:TypeId}{i:TypeInfo}(hT:P.underlying T=some (.slice e))(hX:P.underlying X=some .string\/∃e',P.underlying X=some (.slice e'))(hi:P.info? e=some i)
  {b sLen sCap:Nat} {cur:Array Value} (hg:w.heap[b]? =some (.cells cur e (0,0))) {x:Value} {n:Nat} {news:List Value} (h1:∀u∈news,u.oneCell'=true)
  (hlen:(Builtin.lenOf x).run P w= .ok n w) (hf:(Builtin.firstCells i.size n x).run P w= .ok news.toArray w) (KY:sLen+n<=sCap) (ahM:sLen*i.size+news.length<=cur.size):
  (Builtin.append_ #[T,X] ty #[.slice (some ⟨b,0,none⟩) sLen sCap,x]).run P w= .ok (.slice (some ⟨b,0,none⟩) (sLen+n) sCap) (w.setRow b (du cur.toList (sLen*i.size) news).toArray):=by
 have mn:=run_storeCells_at P b (sLen*i.size) e news 0 cur w hg (by simpa using ahM) h1;simp only[cj]at mn;rcases hX with hX | ⟨e',hX⟩ <;> simp[Builtin.append_,run_underlying hT,run_underlying hX,sizeOf,typeInfo,hi,hlen,KY,hf,Addr.add_lit,mn,du]
theorem Gs{T X ty e:TypeId}{i:TypeInfo}(hT:P.underlying T=some (.slice e))(hX:P.underlying X=some .string\/∃e',P.underlying X=some (.slice e'))(hi:P.info? e=some i)
  {x:Value} (hlen:(Builtin.lenOf x).run P w= .ok 0 w) (hf:(Builtin.firstCells i.size 0 x).run P w= .ok #[] w):
  (Builtin.append_ #[T,X] ty #[.slice none 0 0,x]).run P w= .ok (.slice none 0 0) w:=by
 rcases hX with hX | ⟨e',hX⟩ <;> simp[Builtin.append_,run_underlying hT,run_underlying hX,sizeOf,typeInfo,hi,hlen,hf]
theorem Tj{T X ty e:TypeId}{i:TypeInfo}{zv:Value}(hT:P.underlying T=some (.slice e))(hX:P.underlying X=some .string\/∃e',P.underlying X=some (.slice e'))(hi:P.info? e=some i)(aoY:i.zero=some zv)
  {ad:Option Addr} {sLen sCap:Nat} {bV:List Value} (ho:(Builtin.firstCells i.size sLen (.slice ad sLen sCap)).run P w.drew= .ok bV.toArray w.drew) {x:Value} {n:Nat} {news:List Value}
  (hlen:(Builtin.lenOf x).run P w= .ok n w) (hf:(Builtin.firstCells i.size n x).run P w.drew= .ok news.toArray w.drew) (KY:sCap < sLen+n)
  (aTK:((sLen+n:Nat):Int)<=9223372036854775807) (ahM:(sLen+n)*i.bytes<=140737488355328):
  (Builtin.append_ #[T,X] ty #[.slice ad sLen sCap,x]).run P w= .ok (.slice (some ⟨w.heap.size,0,none⟩) (sLen+n) (grownCap w (sLen+n) sCap e))
   (w.drew.alloc (.cells (bV.toArray++news.toArray++Builtin.zeroCells zv.cells (grownCap w (sLen+n) sCap e - (sLen+n))) e)):=by
 have hn:¬(sLen+n<=sCap):=ak;have h63':¬(9223372036854775807 < ((sLen:Int)+(n:Int))):=ak;have hfit':=growslice_fits (bytes:=i.bytes) KY ahM;have h48':¬(281474976710656 < Builtin.nextslicecap (sLen+n) sCap*i.bytes):=ak;rcases hX with hX | ⟨e',hX⟩
 all_goals
  simp[Builtin.append_,run_underlying hT,run_underlying hX,sizeOf,typeInfo,zeroValue,hi,aoY,hlen,hn,h63',h48',Question.forced,hf,ho,newRow,grownCap];congr 2;apply gf;simp[aD]
end
end Go.Ab
namespace Go.Ab
section
variable {P:Program} {C:Ctx} {g:Nat->lU} {β:Id->Option Pl} {s:AS} {a:Act} {w:World} {o:Oper}
theorem aFb(h:Inv C g β s a w){v:aB}{y:Value}(hv:VS (s.env w g β) v y){t:Ty}{m:List t.den}(he:(s.arp (.slice t) v).eval=some m):
  ∃ad cap vs,y= .slice ad m.length cap/\(0 < m.length->ad.isSome=true)/\(∀j u,vs[j]? =some u->∃bb off,ad=some ⟨bb,off,none⟩/\w.cell? ⟨bb,off+j,none⟩=some u)/\bA (cY (s.env w g β) t) vs m:=by
 have hp:(s.iY (.slice t) v).eval=some m:=he;cases v <;> first | (simp only[AS.iY,av]at hp;done) | skip
 case cX=>
  simp only[AS.iY,ay]at hp;subst hp;exact⟨none,0,[],kW hv,by simp,λj u hj=>by simp at hj,rfl⟩
 case d t' x=>
  simp only[AS.iY]at hp;have hp:=jY.1 hp;have ha:(aB.d t' x).agg=false:=aez hp;have hV:=hv.single rfl ha;simp only[V]at hV;have hv:VS (s.env w g β) (.d (.slice t) m) y:=VS.of (cs:=[y]) (by simp only[V];exact EA hp hV) rfl;obtain⟨ad,cap,vs,hy,_,hs,hr,hc⟩:=uu hv;exact⟨ad,cap,vs,hy,hs,λj u hj=>let⟨bb,off,e,hh⟩:=hr j u hj;⟨bb,off,e,hh.1⟩,hc⟩
 case bz id ver p c i len=>
  simp only[AS.iY]at hp;obtain⟨⟨n,t',l⟩,h1,h2⟩:=aw.1 hp;obtain⟨h3,h4⟩:=bN.1 h2;obtain⟨aOY,aU4⟩:=awt (E:=s.env w g β) (jY.1 h4);rw[aOY];simp only[bf]at h3;obtain⟨hc,hlen⟩:=h3
  suffices hg:∃ad cap vs,y= .slice ad (cut l i len).length cap/\(0 < (cut l i len).length->ad.isSome=true)/\(∀j u,vs[j]? =some u->∃bb off,ad=some ⟨bb,off,none⟩/\w.cell? ⟨bb,off+j,none⟩=some u)/\bA (cY (s.env w g β) t') vs (cut l i len) by obtain⟨ad,cap,vs,e1,e2,e3,e4⟩:=hg;exact⟨ad,cap,vs,e1,e2,e3,aU4 _ e4⟩
  obtain⟨fr,c0,cP,r9⟩:=Ta rfl h.bJ h1;obtain⟨ad,cap,hy,hle,qw,hb,fo⟩:=rM hv;have fo:=fo ⟨fr,c0,cP⟩;have aHU:(cut l i len).length=len:=EM hlen;rcases r9 with⟨hp,hl,_⟩ | ⟨pl,cur,e,hp,hh,te,v7,hbound⟩
  ·rw[hp]at fo;simp only at fo;obtain⟨rfl,rfl,rfl⟩:=fo;have:cut l i 0=[]:=by simp[cut]
   refine⟨none,0,[],by rw[aHU];exact hy,by rw[aHU];omega,λ_ _ hh=>by simp at hh,?_⟩;rw[this];rfl
  ·rw[hp]at fo;simp only at fo;have hmul:(i+len)*t'.size<=l.length*t'.size:=cQ _ hlen;rw[eo]at hmul;refine⟨ad,cap,_,by rw[aHU];exact hy,by rw[aHU];exact qw,?_,Mp v7 i len⟩;rw[Z5 _ _ _ _ _ hmul];intro j v hj;rw[da]at hj;split at hj
   ·rename_i aNp;rw[fL,hc]at hj;have aSi:0 < len:=by
     rcases iH len with h0 | h0
     ·subst h0;simp at aNp
     ·exact h0
    refine⟨pl.b,c,fo.1 (.inl aSi),?_⟩;have hh':w.heap[pl.b]? =some (.cells cur e (0,0)):=hh
    rw[cell_of_row w pl.b (c+j) cur e (0,0) hh'];simpa using hj
   ·cases hj
theorem UP(h:Inv C g β s a w){t:Ty}{X:TypeId}{x:aB}{y:Value}(hx:VS (s.env w g β) x y){m:List t.den}(he:(HY P s t X x).eval=some m):
  (P.underlying X=some .string\/∃e',P.underlying X=some (.slice e'))/\∃news:List Value,bA (cY (s.env w g β) t) news m/\(Builtin.lenOf y).run P w= .ok m.length w/\
   ∀w',w'.heap=w.heap->(Builtin.firstCells t.size m.length y).run P w'= .ok news.toArray w':=by
 have sl:∀(x:aB),VS (s.env w g β) x y->(match P.underlying X with
   |some (.slice _)=>s.arp (.slice t) x
   |_=> .fail).eval=some m->(P.underlying X=some .string\/∃e',P.underlying X=some (.slice e'))/\∃news:List Value,bA (cY (s.env w g β) t) news m/\(Builtin.lenOf y).run P w= .ok m.length w/\
   ∀w',w'.heap=w.heap->(Builtin.firstCells t.size m.length y).run P w'= .ok news.toArray w':=by
  intro x hx he;split at he
  ·rename_i e' hX;refine⟨.inr ⟨e',hX⟩,?_⟩;obtain⟨ad,cap,vs,rfl,qw,r9,v7⟩:=aFb h hx he;have hlen:=bA.length (λ_ _ hx=>cY.size hx) v7;refine⟨vs,v7,rfl,λw' hw'=> ?_⟩;cases ad with
   |none=>
    have aLR:m.length=0:=by
     rcases iH m.length with h0 | h0
     ·exact h0
     ·have:=qw h0;simp at this
    have:vs=[]:=bC (by rw[hlen,aLR,mM]);subst this;rfl
   |some ad=>
    refine run_firstCells_some (P:=P) w' t.size _ ad _ _ vs hlen (λj v hj=> ?_);obtain⟨bb,off,e1,hh⟩:=r9 j v hj;simp only[az]at e1;subst e1;rw[Addr.add_lit];simpa[World.cell?,hw']using hh
  ·simp only[av]at he
 unfold HY at he;split at he
 ·rename_i st;split at he
  ·rename_i hX;refine⟨.inl hX,?_⟩;obtain⟨e,hm⟩:=jw (jY.1 he);have e':Ty.int .u8=t:=by simpa using e
   subst e';simp only at hm;subst hm;have hy:=IY hx;subst hy;have hlen:(bG st).length=st.size:=by simp only[bG,bZ,cJ];rfl
   refine⟨(bG st).map (Value.int .u8),w9 _,by rw[hlen];rfl,λw' _=> ?_⟩;rw[hlen];simp only[Builtin.firstCells,Sem.run_pure];congr 1;apply gf;rw[ByteArray.extract_zero_size];simp[bG]
  ·simp only[av]at he
 ·exact sl _ hx he
theorem Bn(z:Array Value)(n:Nat):(Builtin.zeroCells z n).size=n*z.size:=by simp[Builtin.zeroCells]
theorem awu(h:Inv C g β s a w){c:Call}{x y:Operand}{T X:TypeId}(ho:o.op= .call c)(hc:c.callee= .builtin .copy)(ha:c.args.toList=[x,y])(ht:c.argTypes.toList=[T,X]){s':AS}
  (he:(X3 P s o.dst T X (s.ev x) (s.ev y)).eval=some s'):fB P o a w (ik C s'):=by
 obtain⟨cal,args,tys⟩:=c;simp only at hc ha ht;have ha':args= #[x,y]:=by apply gf;simpa using ha
 have ht':tys= #[T,X]:=by apply gf;simpa using ht
 subst hc ha' ht';have hx:=h.ev x;have hy:=h.ev y;have fin:∀z w',(Builtin.copy_ #[T,X] 0 #[a.eval x,a.eval y]).run P w= .ok z w'->(∃g' β',Inv C g' β' s' (a.put o.dst z) w')->fB P o a w (ik C s'):=by intro z w' h1 h2;refine .inl ⟨z,w',Cy ho (f:=Builtin.copy_ #[T,X] 0 #[a.eval x,a.eval y]) (λty cs xs aoX=> ?_) h1,h2⟩;subst aoX;have e1:Builtin.copy_ #[T,X] 0 #[a.eval x,a.eval y]=Builtin.copy_ #[T,X] ty #[a.eval x,a.eval y]:=rfl;rw[e1];simp[builtin]
 unfold X3 at he;split at he
 ·rename_i e t b id ver len Ke aoX;obtain⟨hT,hz,i,zv,hi,axh,aNn,aoY,axl⟩:=CE Ke;obtain⟨m,hm,he⟩:=aw.1 he;obtain⟨hX,news,v7,hlen,aLP⟩:=UP h hy hm;have aJt:=v7.length (λ_ _ hx=>cY.size hx);have h1news:∀u∈news,u.oneCell'=true:=bA.all (λ_ _ hx=>hx.one) v7;rw[<-axh]at aLP;split at he
  ·rename_i ve n t' l lN;obtain⟨h1,Pk⟩:=aC.1 he;simp only[au,dr]at h1;obtain⟨aNA,aU2⟩:=h1;subst aNA aU2;obtain⟨l',hl',acw⟩:=aw.1 Pk;obtain⟨et,hl'⟩:=jw (jY.1 hl');have et':t'=t:=by simpa using et
   subst et';simp only at hl';subst hl';obtain⟨aOY,aOW⟩:=bN.1 acw;have aOY:m.length<=len:=by simpa using aOY
   obtain rfl:=ay.1 aOW;have cP:=dZ lN;rw[aoX]at hx;obtain⟨ad,cap,aAF,aAC,qw,YH,fo⟩:=rM hx;have fo:=fo ⟨false,_,cP⟩;obtain⟨pl,cur,e0,hp,hh,hg,hk,hV⟩:=(h.bJ id ve false _ cP).box rfl;have hp:β id=some pl:=hp;have hh:w.heap[pl.b]? =some (.cells cur e0 (0,0)):=hh
   have hg:g pl.b= .own (.id id) 0:=hg;have hcur':(match β id with
    |some pl=>(0 < len\/0=0->ad=some ⟨pl.b,0,none⟩)/\(([.arr]:List J8)=[]->0=0->cap=pl.cap)
    |none=>ad=none/\len=0/\cap=0):=fo
   rw[hp]at hcur';simp only at hcur';have aw8:=hcur'.1 (.inr trivial);subst aw8;have hV:V (s.env w g β) (.d (.arr len t') l) (cur.toList.take cur.size):=hV;rw[<-cJ,bK]at hV;simp only[V,cY]at hV;obtain⟨aLQ,hVc⟩:=hV;have aAB:=hVc.length (λ_ _ hx=>cY.size hx);have ahM:news.length<=cur.size:=by
    rw[aJt];have:cur.size=l.length*t'.size:=by simpa using aAB
    rw[this,aLQ];exact cQ _ aOY
   have mn:=run_storeCells_at P pl.b 0 e0 news 0 cur w hh (by simpa using ahM) h1news;have pV:(Builtin.copy_ #[T,X] 0 #[a.eval x,a.eval y]).run P w= .ok (goInt m.length) (w.setRow pl.b (du cur.toList 0 news).toArray):=by have aSl:Nat.min m.length len=m.length:=fO aOY;rw[aAF];simp only[cj,aK]at mn;simp[Builtin.copy_,run_underlying hT,hlen,sizeOf,typeInfo,hi,aSl,aLP w rfl,mn,du]
   have aqF:=Trans.setRow w hg (du cur.toList 0 news).toArray;have hle:cM (s.env w g β) ((s.bh id (.obj ve false (.d (.arr len t') (m++l.drop m.length)))).env (w.setRow pl.b (du cur.toList 0 news).toArray) g β):=cM.bh cP (ax _) aqF (λ_ _=>rfl) (λ_=>rfl);have i1:=h.step (dd _ _ _) aqF hle (iI.bh (ajS:=p9 cP λk v1 l e=>by cases e) h.bJ (by rw[cP];simp) hle (λ_ _=>rfl) (λi ver fr c pl2 hi YK ae1=>⟨setRow_other w pl.b pl2.b _ (h.apart hg hi YK ae1),rfl⟩) (Rz.obj ⟨pl,_,e0,hp,setRow_heap w pl.b cur _ e0 (0,0) hh,hg,trivial,by
    show V _ (.d (.arr len t') (m++l.drop m.length)) ((du cur.toList 0 news).toArray.toList.take (du cur.toList 0 news).toArray.size);rw[<-cJ,bK];simp only[V,cY];refine⟨by rw[ai,dm];omega,?_⟩;have e2:du cur.toList 0 news=news++cur.toList.drop (m.length*t'.size):=by simp[du,aJt]
    have q:bA (cY (s.env w g β) t') (du cur.toList 0 news) (m++l.drop m.length):=by rw[e2];exact bA.append v7 (bA.drop (λ_ _ hx=>cY.size hx) m.length hVc)
    exact q.mono λ_ _ hx=>hx.mono hle.mem⟩))
   exact fin _ _ pV ⟨g,β,i1.put o.dst ⟨[.int .i64 (m.length:Int)],by simp only[V,cY],rfl⟩⟩
  ·exact(av.1 he).elim
 ·exact(av.1 he).elim
theorem ake(h:Inv C g β s a w){c:Call}{x y:Operand}{T X:TypeId}(ho:o.op= .call c)(hc:c.callee= .builtin .append)(ha:c.args.toList=[x,y])(ht:c.argTypes.toList=[T,X]){s':AS}
  {nl dt:Bool} (he:(xT P s nl dt o.dst T X (s.ev x) (s.ev y)).eval=some s'):fB P o a w (ik C s'):=by
 obtain⟨cal,args,tys⟩:=c;simp only at hc ha ht;have ha':args= #[x,y]:=by apply gf;simpa using ha
 have ht':tys= #[T,X]:=by apply gf;simpa using ht
 subst hc ha' ht';have hx:=h.ev x;have hy:=h.ev y;have fin:∀z w',(Builtin.append_ #[T,X] 0 #[a.eval x,a.eval y]).run P w= .ok z w'->(∃g' β',Inv C g' β' s' (a.put o.dst z) w')->fB P o a w (ik C s'):=by intro z w' h1 h2;refine .inl ⟨z,w',Cy ho (f:=Builtin.append_ #[T,X] 0 #[a.eval x,a.eval y]) (λty cs xs aoX=> ?_) h1,h2⟩;subst aoX;have e1:Builtin.append_ #[T,X] 0 #[a.eval x,a.eval y]=Builtin.append_ #[T,X] ty #[a.eval x,a.eval y]:=rfl;rw[e1];simp[builtin]
 unfold xT at he;split at he
 ·rename_i e t b q Ke hd;obtain⟨hT,hz,i,zv,hi,axh,aNn,aoY,axl⟩:=qP Ke;obtain⟨m,hm,he⟩:=aw.1 he;obtain⟨hX,news,v7,hlen,aLP⟩:=UP h hy hm;have aJt:=v7.length (λ_ _ hx=>cY.size hx);have h1news:∀u∈news,u.oneCell'=true:=bA.all (λ_ _ hx=>hx.one) v7;rw[<-axh]at aLP;have aO8:zv.cells.size=t.size:=by have:=(axl (s.env w g β)).size;simpa using this
  have aSQ:∀n,(Builtin.zeroCells zv.cells n).size=n*t.size:=λn=>by rw[Bn,aO8]
  have grow:∀(ad:Option Addr) (sLen sCap:Nat) (bV:List Value) (l0:List t.den),a.eval x= .slice ad sLen sCap->bV.length=sLen*t.size->l0.length=sLen->bA (cY (s.env w g β) t) bV l0->
    (Builtin.firstCells i.size sLen (.slice ad sLen sCap)).run P w.drew= .ok bV.toArray w.drew->sCap < sLen+m.length->cV (sLen+m.length) b=true->
    ∃(cur:Array Value) (cap:Nat),(Builtin.append_ #[T,X] 0 #[a.eval x,a.eval y]).run P w= .ok (.slice (some ⟨w.heap.size,0,none⟩) (sLen+m.length) cap) (w.drew.alloc (.cells cur e))/\
     cur.size=cap*t.size/\sLen+m.length<=cap/\cap<=maxLen/\cur.toList.take ((sLen+m.length)*t.size)=bV++news:=by
   intro ad sLen sCap bV l0 aAF WK aP7 aPS aRd KY aoV;simp only[cV,bf]at aoV;have hr:=Tj (P:=P) (w:=w) (ty:=0) hT hX hi aoY aRd hlen (aLP w.drew rfl) KY ak (by rw[aNn];exact aoV.1);rw[aAF];refine⟨_,_,hr,?_,grownCap_ge _ _ _ _,grownCap_le_maxLen _ _ _ _ (by unfold maxLen;omega),?_⟩
   ·have aVP:=grownCap_ge w (sLen+m.length) sCap e;simp only[Array.size_append,hJ,aSQ,WK,aJt,<-eo];congr 1;omega
   ·have aqx:(bV++news).length=(sLen+m.length)*t.size:=by rw[ai,WK,aJt,eo]
    simp only[bT];rw[<-aqx];exact List.take_left
  split at he
  ·rename_i aVn;rw[aVn]at hx;have aAF:=kW hx;cases dt with
   |true=>
    simp only at he;obtain⟨aoV,he⟩:=bN.1 he;obtain rfl:=ay.1 he;simp only[au,bf]at aoV;obtain⟨aoV,aLR⟩:=aoV;obtain⟨cur,cap,hr,q1,q2,q3,q4⟩:=grow none 0 0 [] [] aAF (by simp) rfl rfl rfl ak (by simpa using aoV);simp only[aK,aS]at hr q2 q4;have aR3:bA (cY (s.env w.drew g β) t) news m:=v7.mono λ_ _ hx=>hx.mono (cM.same (s:=s) (β:=β) (Trans.drew w g)).mem
    refine fin _ _ hr ⟨nk g w.heap.size .free,β,(h.drew.Jp (.cells cur e)).put o.dst ⟨[.slice (some ⟨w.heap.size,0,none⟩) m.length cap],?_,rfl⟩⟩;simp only[V,cY];refine⟨λh0=>(by cases h0),λm' hm'=> ?_⟩;obtain rfl:m=m':=bl hm';refine⟨_,cap,cur.toList.take (m.length*t.size),rfl,q2,λ_=>rfl,λj v hj=>⟨_,_,rfl,?_,?_⟩,?_⟩
    ·show(w.drew.alloc (.cells cur e)).cell? ⟨w.drew.heap.size,0+j,none⟩=some v;rw[World.cell?_alloc_new,aK];rw[da]at hj;split at hj
     ·simpa using hj
     ·cases hj
    ·show uT (nk g w.heap.size .free) w.heap.size (0+j);unfold uT;rw[fx];trivial
    ·rw[q4];exact aR3.mono λ_ _ hx=>hx.mono (Trans.mem (E:=s.env w.drew g β) (E':=s.env (w.drew.alloc (.cells cur e)) (nk g w.drew.heap.size .free) β) (Trans.alloc w.drew g (.cells cur e) .free))
   |false=>
   simp only at he;obtain⟨hq,he⟩:=aC.1 he;obtain⟨aoV,he⟩:=bN.1 he;obtain rfl:=ay.1 he;by_cases aLR:m.length=0
   ·have aSn:m=[]:=bC aLR;subst aSn;have aSq:news=[]:=bC (by rw[aJt];simp);subst aSq;obtain⟨β',i1,e1,v1⟩:=h.aEO hq (e:=e) hz;refine fin (.slice none 0 0) w ?_ ⟨g,β',?_⟩
    ·rw[aAF];exact Gs (P:=P) hT hX hi hlen (aLP w rfl)
    ·exact i1.put o.dst v1
   ·obtain⟨cur,cap,hr,q1,q2,q3,q4⟩:=grow none 0 0 [] [] aAF (by simp) rfl rfl rfl ak (by simpa using aoV);simp only[aK,aS]at hr q2 q4;obtain⟨g2,β2,i2,v2⟩:=(h.drew).aio hq (e:=e) (l:=m) (cur:=cur) (cap:=cap) hz (by rw[q4];exact v7.mono λ_ _ hx=>hx.mono (cM.same (s:=s) (β:=β) (Trans.drew w g)).mem) q1 q2 q3;refine fin _ _ hr ⟨g2,β2,?_⟩;exact i2.put o.dst v2
  ·rename_i id ver len aoX;rw[aoX]at hx;obtain⟨ad,cap,aAF,aAC,qw,YH,fo⟩:=rM hx;split at he
   ·rename_i v fr e' t' l lN;obtain⟨h1,Pk⟩:=aC.1 he;clear he;simp only[au,dr]at h1;obtain⟨aNA,aUN⟩:=h1;subst aNA aUN;obtain⟨l',hl',acw⟩:=aw.1 Pk;obtain⟨et,hl'⟩:=jw (jY.1 hl');have et':t'=t:=by simpa using et
    subst et';simp only at hl';subst hl';obtain⟨aJq,aPW⟩:=bN.1 acw;have aJq:len<=l.length:=by simpa using aJq
    obtain⟨aTR,aOW⟩:=bN.1 aPW;obtain⟨aoV,aTQ⟩:=bN.1 aOW;obtain rfl:=ay.1 aTQ;clear Pk acw aPW aOW aTQ;have cP:=dZ lN;have fo:=fo ⟨fr,_,cP⟩;obtain⟨_,hO⟩:=h.bJ id v fr _ cP;have hO':(match β id with
     |none=>l=[]
     |some pl=>∃cur k,w.heap[pl.b]? =some (.cells cur e (0,0))/\cur.size=pl.cap*t'.size/\l.length<=pl.cap/\pl.cap<=maxLen/\g pl.b= .own (.id id) k/\
       k<=l.length*t'.size/\(fr=false->k=0)/\bA (cY (s.env w g β) t') (cur.toList.take (l.length*t'.size)) l):=hO
    have hcur':(match β id with
     |some pl=>(0 < len\/0=0->ad=some ⟨pl.b,0,none⟩)/\(([]:List J8)=[]->0=0->cap=pl.cap)
     |none=>ad=none/\len=0/\cap=0):=fo
    have aNj:fr=false\/len=l.length:=by simp only[gC,cv,bf]at aTR;exact aTR
    have gj:s.bR id≠none:=by rw[cP];simp
    have fresh:∀(cur:Array Value) (cp:Nat) (g0:Nat->lU),Trans w (w.drew.alloc (.cells cur e)) g (nk g0 w.heap.size (.own (.id (id)) 0))->
      (∀i ver fr c pl,i≠id->s.bR i=some (.obj ver fr c)->β i=some pl->g0 pl.b=g pl.b)->cur.size=cp*t'.size->len+m.length<=cp->cp<=maxLen->
      bA (cY (s.env w g β) t') (cur.toList.take ((len+m.length)*t'.size)) (l.take len++m)->len<=l.length->
      ∃g' β',Inv C g' β' ((s.bh id (.obj (v+1) fr (.vec e t' (l.take len++m)))).put o.dst (.bz id (v+1) [] 0 0 (len+m.length))) (a.put o.dst (.slice (some ⟨w.heap.size,0,none⟩) (len+m.length) cp)) (w.drew.alloc (.cells cur e)):=by
     intro cur cp g0 ht aR7 q1 q2 q3 q4 q5;have aLQ:(l.take len++m).length=len+m.length:=by simp;omega
     have hle:cM (s.env w g β) ((s.bh id (.obj (v+1) fr (.vec e t' (l.take len++m)))).env (w.drew.alloc (.cells cur e)) (nk g0 w.heap.size (.own (.id id) 0)) (Jn β id (some ⟨w.heap.size,cp⟩))):=
      cM.bh cP ak ht (λi hi=>Bc _ _ _ hi) (λhh=>ak)
     have i1:=h.step (dd _ _ _) ht hle (iI.bh (ajS:=p9 cP λk v1 l e=>by cases e) h.bJ gj hle (λi hi=>Bc _ _ _ hi) (λi ver fr' c' pl hi YK ae1=>by
       have gB:pl.b < w.heap.size:=((h.bJ i ver fr' c' YK).label (pl:=pl) ae1).1;exact⟨qO w.drew _ gB,by rw[fk _ _ _ ak];exact aR7 i ver fr' c' pl hi YK ae1⟩) (by
      refine⟨hz,?_⟩;show(match Jn β id (some ⟨w.heap.size,cp⟩) id with
       |none=>(l.take len++m)=[]
       |some pl=>_)
      rw[jQ];refine⟨cur,0,tw w.drew _,q1,by rw[aLQ];exact q2,q3,fx _ _ _,aM _,λ_=>rfl,?_⟩;rw[aLQ];exact q4.mono λ_ _ hx=>hx.mono hle.mem))
     refine⟨_,_,i1.put o.dst ⟨_,?_,rfl⟩⟩;simp only[V];have kS:=eE s id (.obj (v+1) fr (.vec e t' (l.take len++m))) gj;refine⟨_,_,rfl,q2,λ_=>rfl,⟨by show(s.bh id _).bR id≠none;rw[kS];simp,λv' fr' c' hh=> ?_⟩,λ_=> ?_⟩
     ·have hh':(s.bh id (.obj (v+1) fr (.vec e t' (l.take len++m)))).bR id=some (.obj v' fr' c'):=hh;rw[kS]at hh';simp only[az,dE.obj.injEq]at hh';omega
     ·show(match Jn β id (some ⟨w.heap.size,cp⟩) id with
       |some pl=>_
       |none=>_)
      rw[jQ];exact⟨λ_=>rfl,λ_ _=>rfl⟩
    cases hp:β id with
    |none=>
     rw[hp]at hO' hcur';simp only at hO' hcur';obtain⟨rfl,rfl,rfl⟩:=hcur';subst hO';by_cases aLR:m.length=0
     ·have aSn:m=[]:=bC aLR;subst aSn;have aSq:news=[]:=bC (by rw[aJt];simp);subst aSq;have ht:=Trans.refl w g;have hle:cM (s.env w g β) ((s.bh id (.obj (v+1) fr (.vec e t' []))).env w g β):=cM.bh cP ak ht (λ_ _=>rfl) (λ_=>rfl);have i1:=h.step (dd _ _ _) ht hle (iI.bh (ajS:=p9 cP λk v1 l e=>by cases e) h.bJ gj hle (λ_ _=>rfl) (λ_ _ _ _ _ _ _ _=>⟨rfl,rfl⟩) (by
       refine⟨hz,?_⟩;show(match β id with
        |none=>([]:List t'.den)=[]
        |some pl=>_)
       rw[hp]))
      refine fin (.slice none 0 0) w ?_ ⟨g,β,i1.put o.dst ⟨_,?_,rfl⟩⟩
      ·rw[aAF];exact Gs (P:=P) hT hX hi hlen (aLP w rfl)
      ·simp only[V];have kS:=eE s id (.obj (v+1) fr (.vec e t' [])) gj;refine⟨_,_,rfl,ax _,λhh=>by simp at hh,⟨by show(s.bh id _).bR id≠none;rw[kS];simp,λv' fr' c' hh=> ?_⟩,λ_=> ?_⟩
       ·have hh':(s.bh id (.obj (v+1) fr (.vec e t' []))).bR id=some (.obj v' fr' c'):=hh;rw[kS]at hh';simp only[az,dE.obj.injEq]at hh';omega
       ·show(match β id with
         |some pl=>_
         |none=>_)
        rw[hp];exact⟨rfl,by simp,rfl⟩
     ·obtain⟨cur,cp,hr,q1,q2,q3,q4⟩:=grow none 0 0 [] [] aAF (by simp) rfl rfl rfl ak aoV;refine fin _ _ hr (fresh cur cp g (Trans.trans (Trans.drew w g) (Trans.alloc w.drew g _ _)) (λ_ _ _ _ _ _ _ _=>rfl) q1 q2 q3 ?_ (by simp));rw[q4];simpa using v7
    |some pl=>
     rw[hp]at hO' hcur';simp only at hO' hcur';obtain⟨aw8,Pj⟩:=hcur';have aw8:=aw8 (.inr trivial);have Pj:=Pj trivial trivial;subst aw8 Pj;obtain⟨cur,k,p1,p2,p3,p4,p5,p6,p7,p8⟩:=hO';have hk:k<=len*t'.size:=by
      rcases aNj with hf | hf
      ·rw[p7 hf];exact aM _
      ·rw[hf];exact p6
     have hmul:len*t'.size<=l.length*t'.size:=cQ _ aJq;have aT2:l.length*t'.size<=cur.size:=by rw[p2];exact cQ _ p3
     have axk:=bA.take (λ_ _ hx=>cY.size hx) len p8;rw[ia,fO hmul]at axk;have WK:(cur.toList.take (len*t'.size)).length=len*t'.size:=by simp;omega
     by_cases KY:len+m.length<=pl.cap
     ·have aVd:(len+m.length)*t'.size<=cur.size:=by rw[p2];exact cQ _ KY
      have ahM:len*i.size+news.length<=cur.size:=by rw[axh,aJt,<-eo];exact aVd
      have hr:=Tk (P:=P) (w:=w) (ty:=0) hT hX hi p1 h1news hlen (aLP w rfl) KY ahM;rw[axh]at hr ahM;have ht:Trans w (w.setRow pl.b (du cur.toList (len*t'.size) news).toArray) g g:=by
       refine⟨by simp,by simp,by simp,by simp,λb' hb=> ?_⟩;by_cases ahK:b'=pl.b
       ·subst ahK;rw[p5];refine⟨.inr ⟨id,k,rfl,ax _⟩,λoff u aJv hu=> ?_⟩;rw[cell_of_row w pl.b off cur e (0,0) p1]at hu;rw[cell_setRow_same w pl.b off cur _ e (0,0) p1];simp only[du,aD,List.getElem?_toArray];rw[fg (by rw[WK];omega),da,if_pos ak];simpa using hu
       ·rw[setRow_other w pl.b b' _ ahK];cases VW:g b' with
        |free=>exact⟨rfl,rfl⟩
        |own o' k=>cases o' with
         |ed=>exact⟨rfl,rfl⟩
         |id i'=>exact⟨.inr ⟨i',k,rfl,ax _⟩,λoff v _ hv=>by rw[cell_setRow_other w pl.b _ _ ahK];exact hv⟩
      have hle:cM (s.env w g β) ((s.bh id (.obj (v+1) fr (.vec e t' (l.take len++m)))).env (w.setRow pl.b (du cur.toList (len*t'.size) news).toArray) g β):=
       cM.bh cP ak ht (λ_ _=>rfl) (λ_=>rfl)
      have aLQ:(l.take len++m).length=len+m.length:=by simp;omega
      have aSC:(du cur.toList (len*t'.size) news).length=cur.toList.length:=jG (by simpa using ahM);have i1:=h.step (dd _ _ _) ht hle (iI.bh (ajS:=p9 cP λk v1 l e=>by cases e) h.bJ gj hle (λ_ _=>rfl) (λi ver fr c pl2 hi YK ae1=>⟨setRow_other w pl.b pl2.b _ (h.apart p5 hi YK ae1),rfl⟩) (by
       refine⟨hz,?_⟩;show(match β id with
        |none=>(l.take len++m)=[]
        |some pl=>_)
       rw[hp];refine⟨_,k,setRow_heap w pl.b cur _ e (0,0) p1,by rw[hJ,aSC];simpa using p2,by rw[aLQ];exact KY,p4,p5,?_,p7,?_⟩
       ·rw[aLQ,eo];omega
       ·rw[aLQ,show(du cur.toList (len*t'.size) news).toArray.toList=du cur.toList (len*t'.size) news from rfl];have e1:(du cur.toList (len*t'.size) news).take ((len+m.length)*t'.size)=cur.toList.take (len*t'.size)++news:=by
         unfold du;have aqx:(cur.toList.take (len*t'.size)++news).length=(len+m.length)*t'.size:=by rw[ai,WK,aJt,eo]
         rw[<-aqx];exact List.take_left
        rw[e1];exact(bA.append axk v7).mono λ_ _ hx=>hx.mono hle.mem))
      rw[<-aAF]at hr;refine fin _ _ hr ⟨g,β,i1.put o.dst ⟨_,?_,rfl⟩⟩;simp only[V];have kS:=eE s id (.obj (v+1) fr (.vec e t' (l.take len++m))) gj;refine⟨_,_,rfl,KY,λ_=>rfl,⟨by show(s.bh id _).bR id≠none;rw[kS];simp,λv' fr' c' hh=> ?_⟩,λ_=> ?_⟩
      ·have hh':(s.bh id (.obj (v+1) fr (.vec e t' (l.take len++m)))).bR id=some (.obj v' fr' c'):=hh;rw[kS]at hh';simp only[az,dE.obj.injEq]at hh';omega
      ·show(match β id with
        |some pl=>_
        |none=>_)
       rw[hp];exact⟨λ_=>rfl,λ_ _=>rfl⟩
     ·have aRd:(Builtin.firstCells i.size len (.slice (some ⟨pl.b,0,none⟩) len pl.cap)).run P w.drew= .ok (cur.toList.take (len*t'.size)).toArray w.drew:=by
       refine run_firstCells_some (P:=P) w.drew i.size _ _ _ _ _ (by rw[WK,axh]) (λj u hj=> ?_);rw[Addr.add_lit,aK];show w.cell? ⟨pl.b,j,none⟩=some u;rw[cell_of_row w pl.b j cur e (0,0) p1];rw[da]at hj;split at hj
       ·simpa using hj
       ·cases hj
      obtain⟨cur2,cp,hr,q1,q2,q3,q4⟩:=grow (some ⟨pl.b,0,none⟩) len pl.cap (cur.toList.take (len*t'.size)) (l.take len) aAF WK (by simp;omega) axk aRd ak aoV;have gB:pl.b < w.heap.size:=(bM.1 p1).1;have aub:Trans w w.drew g (nk g pl.b .free):=by
       refine⟨rfl,rfl,⟨rfl,ou _⟩,ax _,λb' hb=> ?_⟩;by_cases ahK:b'=pl.b
       ·subst ahK;rw[p5,fx];exact⟨.inl rfl,λ_ _ _ hh=>hh⟩
       ·rw[fk _ _ _ ahK];exact(Trans.drew w g).RO b' hb
      refine fin _ _ hr (fresh cur2 cp (nk g pl.b .free) (Trans.trans aub (Trans.alloc w.drew _ _ _)) (λi ver fr c pl2 hi YK ae1=>fk _ _ _ (h.apart p5 hi YK ae1)) q1 q2 q3 ?_ aJq);rw[q4];exact bA.append axk v7
   ·simp only[av]at he
  ·simp only[av]at he
 ·simp only[av]at he
end
end Go.Ab
namespace Go.Ab
abbrev Ren:=Id->Nat->Option (Id×Nat)
structure zV(ρ:Ren)(E E':Env):Prop where
 mem:tq E E'
 ref:∀id ver r,ρ id ver=some r->E.F8 id ver->E'.F8 r.1 r.2/\(E'.cur r.1 r.2->E.cur id ver/\E'.β r.1=E.β id)
theorem auT(ρ:Ren)(a:aB):(a.iE ρ).agg=a.agg:=by
 cases a with
 |ptr id v p n=>simp only[aB.iE];cases ρ id v <;> rfl
 |bz id v p c i l=>simp only[aB.iE];cases ρ id v <;> rfl
 |cq id v=>simp only[aB.iE];cases ρ id v <;> rfl
 |yl id v=>simp only[aB.iE];cases ρ id v <;> rfl
 |_=>rfl
mutual
theorem aj0{ρ:Ren}{E E':Env}(h:zV ρ E E'):∀ {a:aB} {cs:List Value},V E a cs->V E' (a.iE ρ) cs
 | .undef,_,hv=>by simp only[V]at hv
 | .gone,_,hv=>by simpa only[aB.iE,V]using hv
 | .cX,_,hv=>by simpa only[aB.iE,V]using hv
 | .qE,_,hv=>by simpa only[aB.iE,V]using hv
 | .xe,_,hv=>by simpa only[aB.iE,V]using hv
 | .CM,_,hv=>by simpa only[aB.iE,V]using hv
 | .sb l,_,hv=>by simp only[aB.iE,V]at hv ⊢;obtain⟨b,cap,arr,e,h1,h2,h3,h4,h5⟩:=hv;obtain⟨h6,h7⟩:=h.mem.fz b _ h3 h4;exact⟨b,cap,arr,e,h1,h2,h6,h7,h5⟩
 | .d t x,_,hv=>by simp only[aB.iE,V]at hv ⊢;exact hv.mono h.mem
 | .pr a b,_,hv=>by simp only[aB.iE,V]at hv ⊢;obtain⟨ca,cb,e,ha,hb⟩:=hv;exact⟨ca,cb,e,aj0 h ha,aj0 h hb⟩
 | .ptr id ver p n,_,hv=>by
  have h1:=hv.one;simp only[aB.iE];cases hr:ρ id ver with
  |none=>
   simp only[V]at hv ⊢;obtain⟨a,e,_⟩:=hv;exact⟨_,e,h1 _ (by simp[e])⟩
  |some r=>
   simp only[V]at hv ⊢;obtain⟨a,e,hb,hc⟩:=hv;obtain⟨b1,b2⟩:=h.ref id ver r hr hb;refine⟨a,e,b1,λc=> ?_⟩;obtain⟨c1,e1⟩:=b2 c;rw[e1];exact hc c1
 | .dO t x,_,hv=>by simp only[aB.iE,V]at hv ⊢;obtain⟨b,off,vs,e,hr,hx⟩:=hv;exact⟨b,off,vs,e,hr.mono h.mem,hx.mono h.mem⟩
 | .bz id ver p c i len,_,hv=>by
  have h1:=hv.one;simp only[aB.iE];cases hr:ρ id ver with
  |none=>
   simp only[V]at hv ⊢;obtain⟨a,cap,e,_⟩:=hv;exact⟨_,e,h1 _ (by simp[e])⟩
  |some r=>
   simp only[V]at hv ⊢;obtain⟨a,cap,e,hl,hs,hb,hc⟩:=hv;obtain⟨b1,b2⟩:=h.ref id ver r hr hb;refine⟨a,cap,e,hl,hs,b1,λc=> ?_⟩;obtain⟨c1,e1⟩:=b2 c;rw[e1];exact hc c1
 | .fn f c,_,hv=>by simp only[aB.iE,V]at hv ⊢;obtain⟨vs,e,hc⟩:=hv;exact⟨vs,e,ao5 h hc⟩
 | .cons _ _,_,hv=>by simp only[V]at hv
 | .nil,_,hv=>by simp only[V]at hv
 | .vec ..,_,hv=>by simp only[V]at hv
 | .bx ..,_,hv=>by simp only[V]at hv
 | .yl id ver,_,hv=>by
  have h1:=hv.one;simp only[aB.iE];cases hr:ρ id ver with
  |none=>
   simp only[V]at hv ⊢;obtain⟨b,e,_⟩:=hv;exact⟨_,e,h1 _ (by simp[e])⟩
  |some r=>
   simp only[V]at hv ⊢;obtain⟨b,e,hb,hc⟩:=hv;obtain⟨b1,b2⟩:=h.ref id ver r hr hb;refine⟨b,e,b1,λc=> ?_⟩;obtain⟨c1,e1⟩:=b2 c;rw[e1];exact hc c1
 | .cq id ver,_,hv=>by
  have h1:=hv.one;simp only[aB.iE];cases hr:ρ id ver with
  |none=>
   simp only[V]at hv ⊢;obtain⟨b,e,_⟩:=hv;exact⟨_,e,h1 _ (by simp[e])⟩
  |some r=>
   simp only[V]at hv ⊢;obtain⟨b,e,hb,hc⟩:=hv;obtain⟨b1,b2⟩:=h.ref id ver r hr hb;refine⟨b,e,b1,λc=> ?_⟩;obtain⟨c1,e1⟩:=b2 c;rw[e1];exact hc c1
 | .mp ..,_,hv | .sJ ..,_,hv | .qZ ..,_,hv=>by simp only[V]at hv
theorem ao5{ρ:Ren}{E E':Env}(h:zV ρ E E'):∀ {a:aB} {vs:List Value},VC E a vs->VC E' (a.iE ρ) vs
 | .nil,_,hv=>by simpa only[aB.iE,VC]using hv
 | .cons a b,_,hv=>by simp only[aB.iE,VC]at hv ⊢;obtain⟨v,vs',cs,e,ha,ho,hb⟩:=hv;exact⟨v,vs',cs,e,aj0 h ha,by rw[auT];exact ho,ao5 h hb⟩
 | .undef,_,hv=>by simp only[VC]at hv
 | .gone,_,hv=>by simp only[VC]at hv
 | .cX,_,hv=>by simp only[VC]at hv
 | .qE,_,hv=>by simp only[VC]at hv
 | .xe,_,hv=>by simp only[VC]at hv
 | .yl ..,_,hv | .qZ ..,_,hv=>by simp only[VC]at hv
 | .CM,_,hv=>by simp only[VC]at hv
 | .sb _,_,hv=>by simp only[VC]at hv
 | .d t x,_,hv=>by simp only[VC]at hv
 | .pr a b,_,hv=>by simp only[VC]at hv
 | .ptr ..,_,hv=>by simp only[VC]at hv
 | .dO ..,_,hv=>by simp only[VC]at hv
 | .bz ..,_,hv=>by simp only[VC]at hv
 | .fn ..,_,hv=>by simp only[VC]at hv
 | .vec ..,_,hv=>by simp only[VC]at hv
 | .bx ..,_,hv=>by simp only[VC]at hv
 | .cq ..,_,hv=>by simp only[VC]at hv
 | .mp ..,_,hv | .sJ ..,_,hv=>by simp only[VC]at hv
end
theorem G6{ρ:Ren}{E E':Env}(h:zV ρ E E'){a:aB}{v:Value}(hv:VS E a v):VS E' (a.iE ρ) v:=by
 by_cases hc:a.eN=true
 ·obtain⟨cs,h1,h2⟩:=hv.eN hc;exact VS.of (aj0 h h1) (by rw[auT];exact h2)
 ·cases a <;> first | (exact absurd rfl hc) | skip
  ·trivial
  ·obtain⟨vs,e,aO5⟩:=hv;have:=ao5 h aO5;simp only[aB.iE]at this ⊢;exact⟨vs,e,this⟩
  ·exact hv
  ·obtain⟨cs,h1,_⟩:=hv;simp only[V]at h1
  ·obtain⟨cs,h1,_⟩:=hv;simp only[V]at h1
  ·obtain⟨cs,h1,_⟩:=hv;simp only[V]at h1
  ·obtain⟨cs,h1,_⟩:=hv;simp only[V]at h1
  ·obtain⟨cs,h1,_⟩:=hv;simp only[V]at h1
theorem aaH(ρ:Ren):∀f:aB,(f.iE ρ).list=f.list.map (aB.iE ρ)
 | .cons a b=>by simp only[aB.iE,aB.list,bU,aaH ρ b]
 | .undef | .gone | .cX | .qE | .xe | .CM | .d _ _ | .dO _ _ | .fn _ _ | .pr _ _ | .nil | .vec .. | .sb _ | .bx .. | .mp .. | .sJ .. | .qZ .. =>rfl
 | .ptr id ver p n=>by simp only[aB.iE];cases ρ id ver <;> rfl
 | .bz id ver p c i len=>by simp only[aB.iE];cases ρ id ver <;> rfl
 | .cq id ver=>by simp only[aB.iE];cases ρ id ver <;> rfl
 | .yl id ver=>by simp only[aB.iE];cases ρ id ver <;> rfl
theorem ao3{ρ:Ren}{E E':Env}(h:zV ρ E E'){f:aB}{tmps:Array Value}(hs:Eh E f tmps):Eh E' (f.iE ρ) tmps:=by
 refine⟨by rw[aaH,bZ];exact hs.1,λi=> ?_⟩;have:=G6 h (hs.2 i);rw[aaH,aF,ea];rw[aF]at this;cases hi:f.list[i]? with
 |none=>exact VS.undef
 |some x=>rw[hi]at this;exact this
theorem ay2(ρ:Ren)(c:aB):(c.iE ρ).strip=c.strip.iE ρ:=by
 cases c <;> first
  |rfl
  | (rename_i id ver p n;simp only[aB.strip,aB.iE];cases ρ id ver <;> rfl)
  | (rename_i id ver p c i len;simp only[aB.strip,aB.iE];cases ρ id ver <;> rfl)
  | (rename_i i v;simp only[aB.strip,aB.iE];cases ρ i v <;> rfl)
theorem QL(ρ:Ren):∀c:aB,(c.iE ρ).size=c.size
 | .pr a b=>by simp only[aB.iE,aB.size,QL ρ a,QL ρ b]
 | .ptr id ver p n=>by simp only[aB.iE];cases ρ id ver <;> rfl
 | .bz id ver p c i len=>by simp only[aB.iE];cases ρ id ver <;> rfl
 | .cq id ver=>by simp only[aB.iE];cases ρ id ver <;> rfl
 | .undef | .gone | .cX | .qE | .xe | .CM | .d _ _ | .dO _ _ | .fn _ _ | .cons _ _ | .nil | .vec .. | .sb _ | .bx .. | .mp .. | .sJ .. | .qZ .. =>rfl
 | .yl id ver=>by simp only[aB.iE];cases ρ id ver <;> rfl
theorem aBw(ρ:Ren){c:aB}(n:Nat):(c.iE ρ).xx n=c.xx n:=by
 cases c with
 |bx e z c=>cases z with
  |zero=>rfl
  |succ z=>exact QL ρ c
 |_=>first | rfl | (simp only[aB.iE];split <;> rfl)
theorem av1(ρ:Ren){c:aB}{pl:Pl}{n:Nat}{e:TypeId}(h:c.Hh pl n e):(c.iE ρ).Hh pl n e:=by
  cases c <;> first
    | (rename_i e' z c;cases z with
       |zero=>exact h
       |succ z=>exact⟨h.1,h.2.1,h.2.2.1,by rw[QL];exact h.2.2.2⟩)
    |exact h
    |trivial
    | (rename_i id ver p n;simp only[aB.iE];cases ρ id ver <;> trivial)
    | (rename_i id ver p c i len;simp only[aB.iE];cases ρ id ver <;> trivial)
    | (rename_i i v;simp only[aB.iE];cases ρ i v <;> trivial)
theorem wT{ρ:Ren}{E E':Env}(h:zV ρ E E'){id id':Id}{fr:Bool}{c:aB}(ho:wS E id fr c)(hβ:E'.β id'=E.β id)
  (hb:∀pl,E.β id=some pl->E'.w.heap[pl.b]? =E.w.heap[pl.b]? /\(∀k,E.g pl.b= .own (.id id) k->E'.g pl.b= .own (.id id') k)/\(E.g pl.b= .free->E'.g pl.b= .free)):wS E' id' fr (c.iE ρ):=by
 by_cases hn:c.iB=false
 ·obtain⟨pl,cur,e,h1,h2,h3,h5,h4⟩:=ho.box hn;obtain⟨b1,b2,b3⟩:=hb pl h1;have h6:=aj0 h h4;refine Rz.obj ⟨pl,cur,e,by rw[hβ,h1],by rw[b1,h2],?_,av1 ρ h5,by rw[ay2,aBw];exact h6⟩;cases fr with
  |true=>exact b3 h3
  |false=>exact b2 0 h3
 ·cases c <;> first
   | (exact absurd rfl hn)
   |skip
  rotate_left;rotate_left
  ·obtain⟨pl,mb,since,seen,c0,h1,h2,h3,_⟩:=ho;obtain⟨b1,b2,_⟩:=hb pl h1;exact⟨pl,mb,since,seen,c0,by rw[hβ,h1],by rw[b1,h2],b2 0 h3,λvr aoW=>by cases aoW⟩
  ·obtain⟨pl,r,h1,h2,h3,h4,h5,h6⟩:=ho;obtain⟨b1,b2,_⟩:=hb pl h1;exact⟨pl,r,by rw[hβ,h1],by rw[b1,h2],b2 0 h3,h4,ao3 h h5,h6⟩
  rotate_left
  ·obtain⟨pl,es,clock,h1,h2,h3,h4⟩:=ho;obtain⟨b1,b2,_⟩:=hb pl h1;exact⟨pl,es,clock,by rw[hβ,h1],by rw[b1,h2],b2 0 h3,⟨h4.1.1.mono h.mem,h4.1.2⟩,h4.2⟩
  rename_i e t l;obtain⟨hz,ho⟩:=ho;refine⟨hz,?_⟩;rw[hβ];cases hp:E.β id with
  |none=>rw[hp]at ho;exact ho
  |some pl=>
   rw[hp]at ho;simp only at ho ⊢;obtain⟨b1,b2,_⟩:=hb pl hp;obtain⟨cur,k,h1,h2,h3,h4,h5,h6,h7,h8⟩:=ho;exact⟨cur,k,by rw[b1,h1],h2,h3,h4,b2 k h5,h6,h7,h8.mono λc x hx=>hx.mono h.mem⟩
def xS(E:Env):List aB->List Value->Prop
 |[],[]=>True
 |a::as,v::vs=>VS E a v/\xS E as vs
 |_,_=>False
def fA.st(G:fA):AS:= {cm:=[],bV:=G.bV,news:=[G.news]}
def fC(bV:List dE):AS:= {cm:=[],bV,news:=[]}
def tj(E:Env)(G:fA)(v:Value)(w':World):Prop:=∃g' β',VS (G.st.env w' g' β') G.val v/\iI (G.st.env w' g' β')/\Trans E.w w' E.g g'/\cM E (G.st.env w' g' β')
def qA(P:Program)(f:FuncId)(en:Entry):Prop:=∀w g β args bV iO x,xS ((fC bV).env w g β) args iO->iI ((fC bV).env w g β)->en.run args bV=some x->((callFunc f iO.toArray).run P w= .ok (.enter f iO.toArray) w/\Calls P f iO.toArray w λe w'=>∃v,e= .returned v/\tj ((fC bV).env w g β) (en.out args bV x) v w')\/(∃v w',(callFunc f iO.toArray).run P w= .ok (.value v) w'/\tj ((fC bV).env w g β) (en.out args bV x) v w')
def F0(P:Program)(y:Nat)(en:Entry):Prop:=∀w g β args bV iO x,xS ((fC bV).env w g β) args iO->iI ((fC bV).env w g β)->en.run args bV=some x->∀l us ts f rd n,iO= .func (.yield l) #[] #[]::(us++ts)->us.length=(qG P y).ps.size->RoundIn (Fr rd) n P l f (((qG P y).ps.zip us.toArray).foldl (λtmps (t,a)=>tmps.setIfInBounds t a) ts.toArray) (qG P y).as (qG P y).b w λe w'=>∃v,e= .returned v/\tj ((fC bV).env w g β) (en.out args bV x) v w'
def N4(P:Program)(f:FuncId)(en:Entry):Prop:=∀w g β args bV iO,xS ((fC bV).env w g β) args iO->iI ((fC bV).env w g β)->(∃x,en.set args bV x)->(callFunc f iO.toArray).run P w= .ok (.enter f iO.toArray) w/\Calls P f iO.toArray w λe w'=>∃v x,e= .returned v/\en.set args bV x/\tj ((fC bV).env w g β) (en.out args bV x) v w'
def uU(P:Program)(f:Nat)(en:Entry):Prop:=(Nat.blt f yB=true->qA P f en)/\(Nat.ble yB f=true->F0 P f en)/\(Nat.blt f yB=true->N4 P f en)
theorem uU.no{f:Nat}(h1:Nat.blt f yB=true)(h2:Nat.ble yB f=true):False:=gV _ (Nat.lt_of_lt_of_le (dJ h1) (dJ h2))
theorem uU.of{P:Program}{f:FuncId}{en:Entry}(h:qA P f en)(hf:Nat.blt f yB=true)(hs:∀a o x,¬en.set a o x:=by exact λ_ _ _ h=>h):uU P f en:=
 ⟨λ_=>h,λh2=>(uU.no hf h2).elim,λ_ _ _ _ _ _ _ _ _ ⟨x,hx⟩=>(hs _ _ x hx).elim⟩
theorem uU.aUe{P:Program}{f:FuncId}{en:Entry}(h:F0 P f en)(hf:Nat.ble yB f=true):uU P f en:=⟨λh2=>(uU.no h2 hf).elim,λ_=>h,λh2=>(uU.no h2 hf).elim⟩
theorem uU.aSX{P:Program}{f:FuncId}{en:Entry}(h:N4 P f en)(hf:Nat.blt f yB=true)(hs:∀a o,en.run a o=none:=by exact λ_ _=>rfl):uU P f en:=
 ⟨λ_ _ _ _ _ _ _ _ _ _ hx=>(by rw[hs]at hx;cases hx),λh2=>(uU.no hf h2).elim,λ_=>h⟩
def Sound(P:Program)(Γ:ot):Prop:=∀f vs en,Γ f vs=some en->uU P f en
theorem xS.mono{E E':Env}(h:cM E E'):∀ {as:List aB} {vs:List Value},xS E as vs->xS E' as vs
 |[],[],_=>trivial
 |_::_,_::_,⟨h1,h2⟩=>⟨h1.mono h,xS.mono h h2⟩
theorem xS.iE{ρ:Ren}{E E':Env}(h:zV ρ E E'):∀ {as:List aB} {vs:List Value},xS E as vs->xS E' (as.map (aB.iE ρ)) vs
 |[],[],_=>trivial
 |_::_,_::_,⟨h1,h2⟩=>⟨G6 h h1,xS.iE h h2⟩
theorem xS.append{E:Env}:∀ {as:List aB} {vs:List Value} {bs:List aB} {us:List Value},xS E as vs->xS E bs us->xS E (as++bs) (vs++us)
 |[],[],_,_,_,h=>h
 |_::_,_::_,_,_,⟨h1,h2⟩,h=>⟨h1,xS.append h2 h⟩
theorem ags{E:Env}:∀ {c:aB} {vs:List Value},VC E c vs->xS E c.list vs
 | .cons a b,vs,h=>by simp only[VC]at h;obtain⟨v,vs',cs,rfl,ha,ho,hb⟩:=h;exact⟨VS.of ha ho,ags hb⟩
 | .nil,vs,h=>by simp only[VC]at h;subst h;trivial
 | .undef,_,hv=>by simp only[VC]at hv
 | .gone,_,hv=>by simp only[VC]at hv
 | .cX,_,hv=>by simp only[VC]at hv
 | .qE,_,hv=>by simp only[VC]at hv
 | .xe,_,hv=>by simp only[VC]at hv
 | .yl ..,_,hv | .qZ ..,_,hv=>by simp only[VC]at hv
 | .CM,_,hv=>by simp only[VC]at hv
 | .sb _,_,hv=>by simp only[VC]at hv
 | .d t x,_,hv=>by simp only[VC]at hv
 | .pr a b,_,hv=>by simp only[VC]at hv
 | .ptr ..,_,hv=>by simp only[VC]at hv
 | .dO ..,_,hv=>by simp only[VC]at hv
 | .bz ..,_,hv=>by simp only[VC]at hv
 | .fn ..,_,hv=>by simp only[VC]at hv
 | .vec ..,_,hv=>by simp only[VC]at hv
 | .bx ..,_,hv=>by simp only[VC]at hv
 | .cq ..,_,hv=>by simp only[VC]at hv
 | .mp ..,_,hv | .sJ ..,_,hv=>by simp only[VC]at hv
theorem Inv.aQ7{C:Ctx}{g:Nat->lU}{β:Id->Option Pl}{s:AS}{a:Act}{w:World}(h:Inv C g β s a w):∀l:List Operand,xS (s.env w g β) (l.map s.ev) (l.map a.eval)
 |[]=>trivial
 |x::l=>⟨h.ev x,h.aQ7 l⟩
theorem Dv{E E':Env}{s:AS}(hs:E.s=s.bR)(ho:iI E)(he:cM E E'):∀(ps:List (Option Ty)) (vs:List aB) (ys:List Value) (r:List aB×List Id),xS E vs ys->(s.conv ps vs).eval=some r->aPm E E' r.2->xS E' r.1 ys
 |[],[],ys,r,hv,h,_=>by
  simp only[AS.conv,ay]at h;subst h;cases ys with
  |nil=>trivial
  |cons _ _=>exact hv.elim
 |some t::ps,v::vs,y::ys,r,⟨hv,Uu⟩,h,hf=>by
  simp only[AS.conv]at h;obtain⟨x,h1,h2⟩:=aw.1 h;obtain⟨r',h3,h4⟩:=aw.1 h2;obtain rfl:=ay.1 h4;obtain⟨cs,hV,hO⟩:=hv.eN (Cq h1);refine⟨VS.of (cs:=cs) ?_ ?_,Dv hs ho he ps vs ys r' Uu h3 λid cT=>hf id (bE.2 (.inr cT))⟩
  ·simp only[V];exact xp hs ho he v t x cs hV h1 λid cT=>hf id (bE.2 (.inl cT))
  ·show fJ t.agg cs y;rw[<-abG h1];exact hO
 |none::ps,v::vs,y::ys,r,⟨hv,Uu⟩,h,hf=>by simp only[AS.conv]at h;obtain⟨r',h3,h4⟩:=aw.1 h;obtain rfl:=ay.1 h4;exact⟨hv.mono he,Dv hs ho he ps vs ys r' Uu h3 hf⟩
 |[],_::_,_,_,_,h,_=>by simp only[AS.conv,av]at h
 |some _::_,[],_,_,_,h,_=>by simp only[AS.conv,av]at h
 |none::_,[],_,_,_,h,_=>by simp only[AS.conv,av]at h
end Go.Ab
namespace Go.Ab
theorem oR{id:Id}:∀ {ids:List Id} {k:Nat},idxOf id ids=some k->ids[k]? =some id
 |[],_,h=>by simp[idxOf]at h
 |x::xs,k,h=>by
  simp only[idxOf]at h;split at h
  ·rename_i e;simp only[az]at h;subst h e;rfl
  ·simp only[cW]at h;obtain⟨j,hj,rfl⟩:=h;simpa using oR hj
theorem w6{id:Id}:∀ {ids:List Id} {k:Nat},ids.Nodup->ids[k]? =some id->idxOf id ids=some k
 |[],_,_,h=>by simp at h
 |x::xs,0,hn,h=>by simp only[fH,az]at h;simp[idxOf,h]
 |x::xs,k+1,hn,h=>by
  simp only[lV]at h;obtain⟨h1,h2⟩:=c9.1 hn;have gj:x≠id:=λe=>h1 (e▸cI h)
  simp[idxOf,gj,w6 h2 h]
theorem Da(s0:AS)(all:List Id)(t:Nat):∀(ids:List Id) (es:List dE) (s:AS),(AS.jt s0 all t s ids es).cm=s.cm
 |[],_,_=>by simp[AS.jt]
 |_::_,[],_=>by simp[AS.jt]
 |id::ids,e::es,s=>by rw[AS.jt,Da s0 all t ids es,dd]
theorem abe(s:AS)(ids:List Id)(t:Nat)(es:List dE):(s.made ids t es).cm=s.cm:=by cases es <;> rfl
theorem Hx(s0:AS)(all:List Id)(t:Nat):∀(ids:List Id) (es:List dE) (s:AS),ids.Nodup->es.length=ids.length->(∀id∈ids,s.bR id≠none)->
  (∀id,id ∉ ids->(AS.jt s0 all t s ids es).bR id=s.bR id)/\
  ∀(k:Nat) (id:Id) (e:dE),ids[k]? =some id->es[k]? =some e->(AS.jt s0 all t s ids es).bR id=some (s0.rX all t (s0.Ct id) e)
 |[],es,s,_,_,_=>⟨λ_ _=>by simp[AS.jt],λk id e h=>by simp at h⟩
 |_::_,[],s,_,hl,_=>by simp at hl
 |i::ids,e::es,s,hn,hl,hp=>by
  obtain⟨h1,h2⟩:=c9.1 hn;have hp':∀id∈ids,(s.bh i (s0.rX all t (s0.Ct i) e)).bR id≠none:=λid cT=>by rw[cS s i id _ (λe=>h1 (e▸cT))];exact hp id (aJ _ cT)
  obtain⟨r1,r2⟩:=Hx s0 all t ids es (s.bh i (s0.rX all t (s0.Ct i) e)) h2 (by simpa using hl) hp';rw[AS.jt];refine⟨λid cT=> ?_,λk id e' hk he=> ?_⟩
  ·simp only[cn,not_or]at cT;rw[r1 id cT.2,cS s i id _ cT.1]
  ·cases k with
   |zero=>
    simp only[fH,az]at hk he;subst hk he;rw[r1 i h1,eE s i _ (hp i (aO ..))]
   |succ k=>
    simp only[lV]at hk he;exact r2 k id e' hk he
theorem alA(s:AS)(ids:List Id)(t:Nat)(es:List dE)(hv:es=[]\/s.dX t=true):
  (∀id,(es=[]\/∀j,id≠ .new t j)->(s.made ids t es).bR id=s.bR id)/\(es≠ []->∀j,(s.made ids t es).bR (.new t j)=(es[j]?).map (s.rX ids t 0)):=by
 cases es with
 |nil=>exact⟨λ_ _=>rfl,λh=>absurd rfl h⟩
 |cons e es=>
  have hv:s.dX t=true:=by
   rcases hv with h | h
   ·cases h
   ·exact h
  refine⟨λid h=> ?_,λ_ j=> ?_⟩
  ·rcases h with h | h
   ·cases h
   ·exact iU _ h
  ·rw[AS.made,yK (ke hv).2,ea]
def nD(ids:List Id):lU->lU
 | .free=> .free
 | .own .ed n=> .own .ed n
 | .own (.id i) n=>match idxOf i ids with | some k=> .own (.id (.bj k)) n | none=> .own .ed n
def B5(β:Id->Option Pl)(ids:List Id):Id->Option Pl
 | .bj k=>(ids[k]?).bind β
 | .new _ _=>none
def oa(g:Nat->lU)(size:Nat)(ids:List Id)(t:Nat)(b:Nat):lU->lU
 | .free=> .free
 | .own .ed n=>if b < size then g b else .own .ed n
 | .own (.id i) n=> .own (.id (aLY ids t i)) n
def xh(β β':Id->Option Pl)(ids:List Id)(t:Nat)(some?:Bool)(id:Id):Option Pl:=
 match idxOf id ids with
 |some k=>β' (.bj k)
 |none=>match id with
  | .new i j=>if i=t/\some?=true then β' (.new 0 j) else β (.new i j)
  |id=>β id
theorem aD9{ids:List Id}{l:lU}{off:Nat}(h:uT (λ_=>l) 0 off):uT (λ_=>nD ids l) 0 off:=by
 cases l with
 |free=>trivial
 |own o k=>cases o with
  |ed=>exact h
  |id i=>simp only[nD];cases idxOf i ids <;> exact h
section
variable {P:Program} {C:Ctx} {g:Nat->lU} {β:Id->Option Pl} {s:AS} {a:Act} {w:World} {o:Oper}
theorem aDP(ids:List Id):
  zV (s.xk ids) (s.env w g β) ((fC (ids.map (s.mB ids))).env w (λb=>nD ids (g b)) (B5 β ids)):=by
 refine⟨⟨λb off v ⟨h1,h2⟩=>⟨h1,?_⟩,λb ob h1 h2=>⟨by show nD ids (g b)= .free;have h1:g b= .free:=h1;rw[h1];rfl,h2⟩⟩,λid ver r hr _=> ?_⟩
 ·exact aD9 (l:=g b) h2
 ·unfold AS.xk at hr;split at hr
  ·rename_i k v fr c hk ho;split at hr
   ·rename_i aQp;simp only[az]at hr;subst hr aQp;have cT:=oR hk;have cP:=dZ ho;refine⟨⟨?_,λ_ _ _ _=>aM _⟩,λ_=>⟨⟨fr,c,cP⟩,?_⟩⟩
    ·show(ids.map (s.mB ids))[k]? ≠none
     simp[cT]
    ·show(ids[k]?).bind β=β id;rw[cT];rfl
   ·cases hr
  ·cases hr
theorem aug(ids:List Id)(hn:ids.Nodup)(h:iI (s.env w g β)):iI ((fC (ids.map (s.mB ids))).env w (λb=>nD ids (g b)) (B5 β ids)):=by
 intro id ver fr c cT;have cT:(fC (ids.map (s.mB ids))).bR id=some (.obj ver fr c):=cT;cases id with
 |new i j=>simp[fC,AS.bR]at cT
 |bj k=>
  simp only[fC,AS.bR,ea,cW]at cT;obtain⟨id1,hk,he⟩:=cT;unfold AS.mB at he;split at he
  ·rename_i v fr1 c1 cP;simp only[dE.obj.injEq]at he;obtain⟨rfl,rfl,rfl⟩:=he;refine wT (aDP ids) (h id1 v fr1 c1 cP) (by show(ids[k]?).bind β=β id1;rw[hk];rfl) λpl hp=>⟨rfl,λn hg=> ?_,λhg=> ?_⟩
   ·have hg:g pl.b= .own (.id id1) n:=hg;show nD ids (g pl.b)=_;rw[hg];simp[nD,w6 hn hk]
   ·have hg:g pl.b= .free:=hg;show nD ids (g pl.b)=_;rw[hg];rfl
  ·cases he
theorem Xq(h:Inv C g β s a w){ids:List Id}(hn:ids.Nodup)(hp:∀id∈ids,∃r,s.obj id=some r)(WK:∀id∈ids,s.SC id=true){G:fA}{t:Nat}(hl:G.bV.length=ids.length)(hv:G.news=[]\/s.dX t=true){v:Value}{w':World}
  (ha:tj ((fC (ids.map (s.mB ids))).env w (λb=>nD ids (g b)) (B5 β ids)) G v w'):
  ∃g' β',Inv C g' β' (AS.jt s ids t (s.made ids t G.news) ids G.bV) a w'/\VS ((AS.jt s ids t (s.made ids t G.news) ids G.bV).env w' g' β') (G.val.iE (s.vC ids t)) v:=by
 obtain⟨g1,β1,Aw,aLT,aqF,hle⟩:=ha;have aqF:Trans w w' (λb=>nD ids (g b)) g1:=aqF;obtain⟨m1,m2⟩:=alA s ids t G.news hv;have aSt:∀id∈ids,s.bR id≠none:=λid cT=>by obtain⟨⟨v,fr,c⟩,hr⟩:=hp id cT;rw[dZ hr];simp
 have GU:∀id,s.bR id≠none->G.news=[]\/∀j,id≠ .new t j:=λid cT=>by
  rcases hv with hv | hv
  ·exact .inl hv
  ·exact .inr λj e=>cT (by rw[e];exact(ke hv).1 j)
 obtain⟨n1,n2⟩:=Hx s ids t ids G.bV (s.made ids t G.news) hn hl (λid cT=>by rw[m1 id (GU id (aSt id cT))];exact aSt id cT);have aQq:∀j,G.news≠ []->Id.new t j ∉ ids:=λj gj cT=>by
  rcases hv with hv | hv
  ·exact gj hv
  ·exact aSt _ cT ((ke hv).1 j)
 generalize YK:AS.jt s ids t (s.made ids t G.news) ids G.bV=s2 at*;have hgO:∀(k:Nat) (id:Id),ids[k]? =some id->∃e,G.bV[k]? =some e/\s2.bR id=some (s.rX ids t (s.Ct id) e):=λk id hk=>by
  have gB:k < G.bV.length:=by rw[hl];exact(dF.1 hk).1
  exact⟨_,bP gB,n2 k id _ hk (bP gB)⟩
 have hgN:G.news≠ []->∀j,s2.bR (.new t j)=(G.news[j]?).map (s.rX ids t 0):=λgj j=>by rw[n1 _ (aQq j gj),m2 gj j]
 have hgS:∀id,id ∉ ids->(G.news=[]\/∀j,id≠ .new t j)->s2.bR id=s.bR id:=λid h1 h2=>by rw[n1 id h1,m1 id h2]
 have hverOf:∀id∈ids,∃fr c,s.bR id=some (.obj (s.Ct id) fr c):=λid cT=>by obtain⟨⟨v,fr,c⟩,hr⟩:=hp id cT;refine⟨fr,c,?_⟩;rw[dZ hr];simp[AS.Ct,hr]
 have aR6:∀b n,b < w.heap.size->g1 b= .own .ed n->(g b= .own .ed n\/∃i,g b= .own (.id i) n/\idxOf i ids=none):=λb n hb hg=>by
  have h1:=aqF.RO b hb;cases VW:g b with
  |free=>simp only[VW,nD]at h1;rw[h1.1]at hg;cases hg
  |own o k=>cases o with
   |ed=>simp only[VW,nD]at h1;rw[h1.1]at hg;left;exact hg
   |id i=>
    cases hi:idxOf i ids with
    |none=>
     simp only[VW,nD,hi]at h1;rw[h1.1]at hg;simp only[lU.own.injEq,ml]at hg;subst hg;exact .inr ⟨i,rfl,hi⟩
    |some k'=>
     simp only[VW,nD,hi]at h1;rcases h1.1 with h2 | ⟨_,_,h2,_⟩ <;> (rw[h2]at hg;cases hg)
 let g2:Nat->lU:=λb=>oa g w.heap.size ids t b (g1 b)
 let β2:Id->Option Pl:=xh β β1 ids t (!G.news.isEmpty)
 have hβO:∀k id,ids[k]? =some id->β2 id=β1 (.bj k):=λk id hk=>by show xh _ _ _ _ _ id=_;simp[xh,w6 hn hk]
 have hβN:G.news≠ []->∀j,β2 (.new t j)=β1 (.new 0 j):=λgj j=>by
  show xh _ _ _ _ _ _=_;have:idxOf (.new t j) ids=none:=by
   cases hi:idxOf (.new t j) ids with
   |none=>rfl
   |some k=>exact absurd (cI (oR hi)) (aQq j gj)
  have hne':G.news.isEmpty=false:=by cases hh:G.news with
   |nil=>exact absurd hh gj
   |cons _ _=>rfl
  simp[xh,this,hne']
 have hβS:∀id,id ∉ ids->(G.news=[]\/∀j,id≠ .new t j)->β2 id=β id:=λid h1 h2=>by
  show xh _ _ _ _ _ _=_;have:idxOf id ids=none:=by
   cases hi:idxOf id ids with
   |none=>rfl
   |some k=>exact absurd (cI (oR hi)) h1
  cases id with
  |bj k=>simp[xh,this]
  |new i j=>
   have:¬(i=t/\(!G.news.isEmpty)=true):=by
    rintro⟨rfl,h3⟩;rcases h2 with h2 | h2
    ·rw[h2]at h3;cases h3
    ·exact h2 j rfl
   simp only[xh, *,bq]
 have aQl:Trans w w' g g2:=by
  refine⟨aqF.os,aqF.tape,aqF.output,aqF.size,λb hb=> ?_⟩;have h1:=aqF.RO b hb;show match g b with | .free=>oa g w.heap.size ids t b (g1 b)= .free/\_ | .own .ed k=>oa g w.heap.size ids t b (g1 b)= .own .ed k/\_ | .own (.id _) k=>(oa g w.heap.size ids t b (g1 b)= .free\/∃i k',oa g w.heap.size ids t b (g1 b)= .own (.id i) k'/\k<=k')/\_
  cases VW:g b with
  |free=>simp only[VW,nD]at h1 ⊢;rw[h1.1];exact⟨rfl,h1.2⟩
  |own o k=>cases o with
   |ed=>simp only[VW,nD]at h1 ⊢;rw[h1.1];simp only[oa,hb,bH,VW];exact⟨trivial,h1.2⟩
   |id i=>
    cases hi:idxOf i ids with
    |none=>
     simp only[VW,nD,hi]at h1 ⊢;rw[h1.1];simp only[oa,hb,bH,VW];exact⟨.inr ⟨i,k,rfl,ax _⟩,λoff v _ hv=>by simpa only[World.cell?,h1.2]using hv⟩
    |some k'=>
     simp only[VW,nD,hi]at h1 ⊢;refine⟨?_,h1.2⟩;rcases h1.1 with h2 | ⟨i',k'',h2,h3⟩
     ·rw[h2];exact .inl rfl
     ·rw[h2];exact .inr ⟨_,k'',rfl,h3⟩
 have EZ:tq (G.st.env w' g1 β1) (s2.env w' g2 β2):=by
  refine⟨λb off v ⟨h1,h2⟩=> ?_,λb ob h1 h2=>⟨by show oa g w.heap.size ids t b (g1 b)= .free;have h1:g1 b= .free:=h1;rw[h1];rfl,h2⟩⟩;refine⟨h1,?_⟩;have h2:uT g1 b off:=h2;show uT g2 b off;unfold uT at h2 ⊢;show match oa g w.heap.size ids t b (g1 b) with | .free=>True | .own _ k=>off < k
  cases VW:g1 b with
  |free=>simp[oa]
  |own o k=>
   rw[VW]at h2;cases o with
   |ed=>
    simp only[oa];by_cases hb:b < w.heap.size
    ·rw[if_pos hb];rcases aR6 b k hb VW with h3 | ⟨i,h3,_⟩ <;> (rw[h3];exact h2)
    ·rw[if_neg hb];exact h2
   |id i=>exact h2
 have hentOut:∀(base:Nat) (e:dE) (ver:Nat) (fr:Bool) (c:aB),s.rX ids t base e= .obj ver fr c->∃v0 c0,e= .obj v0 fr c0/\ver=base+v0/\c=c0.iE (s.vC ids t):=λbase e ver fr c he=>by
  cases e with
  |dead=>cases he
  |obj v0 fr0 c0=>
   simp only[AS.rX,dE.obj.injEq]at he;obtain⟨rfl,rfl,rfl⟩:=he;exact⟨v0,c0,rfl,rfl,rfl⟩
 have ahO:zV (s.vC ids t) (G.st.env w' g1 β1) (s2.env w' g2 β2):=by
  refine⟨EZ,λid ver r hr hb=> ?_⟩;cases id with
  |bj k=>
   obtain⟨Rw,WI⟩:=hb;have Rw:G.bV[k]? ≠none:=Rw
   have hk:k < ids.length:=by
    rcases pO k ids.length with h' | h'
    ·exact h'
    ·exact absurd (dG ak) Rw
   have cT:ids[k]? =some ids[k]:=bP hk
   simp only[AS.vC,cT,az]at hr;subst hr;obtain⟨e,Pk,acw⟩:=hgO k _ cT;refine⟨⟨by show s2.bR _≠none;rw[acw];simp,λv fr c hh=> ?_⟩,λ⟨fr,c,hh⟩=>⟨?_,hβO k _ cT⟩⟩
   ·have hh:s2.bR ids[k]=some (.obj v fr c):=hh;rw[acw,az]at hh;obtain⟨v0,c0,rfl,rfl,_⟩:=hentOut _ _ _ _ _ hh;have:=WI v0 fr c0 Pk;omega
   ·have hh:s2.bR ids[k]=some (.obj (s.Ct ids[k]+ver) fr c):=hh;rw[acw,az]at hh;obtain⟨v0,c0,rfl,aO4,_⟩:=hentOut _ _ _ _ _ hh;obtain rfl:ver=v0:=ak;exact⟨fr,c0,Pk⟩
  |new i j=>
   simp only[AS.vC,az]at hr;subst hr;obtain⟨Rw,WI⟩:=hb;have Rw:([G.news].getD i [])[j]? ≠none:=Rw
   have WI:∀v fr c,([G.news].getD i [])[j]? =some (.obj v fr c)->ver<=v:=WI
   cases i with
   |succ i=>simp at Rw
   |zero=>
    simp only[jj]at Rw WI;have gj:G.news≠ []:=λe=>by rw[e]at Rw;simp at Rw
    obtain⟨e,he⟩:=Option.ne_none_iff_exists'.1 Rw;have acw:=hgN gj j;rw[he,dT]at acw;refine⟨⟨by show s2.bR (.new t j)≠none;rw[acw];simp,λv fr c hh=> ?_⟩,λ⟨fr,c,hh⟩=>⟨?_,hβN gj j⟩⟩
    ·have hh:s2.bR (.new t j)=some (.obj v fr c):=hh;rw[acw,az]at hh;obtain⟨v0,c0,rfl,rfl,_⟩:=hentOut _ _ _ _ _ hh;have:=WI v0 fr c0 he;simp only;omega
    ·have hh:s2.bR (.new t j)=some (.obj ver fr c):=hh;rw[acw,az]at hh;obtain⟨v0,c0,rfl,aO4,_⟩:=hentOut _ _ _ _ _ hh;obtain rfl:ver=v0:=ak;exact⟨fr,c0,he⟩
 have aP9:cM (s.env w g β) (s2.env w' g2 β2):=by
  refine⟨Trans.mem aQl,λid ver hb=> ?_,λid ver hb hc=> ?_⟩
  ·obtain⟨Rw,WI⟩:=hb;have Rw:s.bR id≠none:=Rw;have WI:∀v fr c,s.bR id=some (.obj v fr c)->ver<=v:=WI;by_cases cT:id∈ids
   ·obtain⟨k,hk⟩:=kh.1 cT;obtain⟨e,Pk,acw⟩:=hgO k id hk;obtain⟨fr1,c1,Rx⟩:=hverOf id cT;refine⟨by show s2.bR _≠none;rw[acw];simp,λv fr c hh=> ?_⟩;have hh:s2.bR id=some (.obj v fr c):=hh;rw[acw,az]at hh;obtain⟨v0,c0,rfl,rfl,_⟩:=hentOut _ _ _ _ _ hh;have:=WI _ _ _ Rx;omega
   ·have:=hgS id cT (GU id Rw);exact⟨by show s2.bR _≠none;rw[this];exact Rw,λv fr c hh=>WI v fr c (this.symm.trans hh)⟩
  ·obtain⟨Rw,WI⟩:=hb;have Rw:s.bR id≠none:=Rw;have WI:∀v fr c,s.bR id=some (.obj v fr c)->ver<=v:=WI;obtain⟨fr,c,hh⟩:=hc;have hh:s2.bR id=some (.obj ver fr c):=hh;by_cases cT:id∈ids
   ·obtain⟨k,hk⟩:=kh.1 cT;obtain⟨e,Pk,acw⟩:=hgO k id hk;obtain⟨fr1,c1,Rx⟩:=hverOf id cT;rw[acw,az]at hh;obtain⟨v0,c0,rfl,aO4,_⟩:=hentOut _ _ _ _ _ hh;have aQp:=WI _ _ _ Rx;obtain rfl:v0=0:=ak;have hver':ver=s.Ct id:=ak;refine⟨⟨fr1,c1,by rw[hver'];exact Rx⟩,?_⟩;show β2 id=β id;rw[hβO k id hk];have alT:s.mB ids id= .obj 0 fr1 (c1.iE (s.xk ids)):=by simp[AS.mB,Rx]
    have h0:((fC (ids.map (s.mB ids))).env w (λb=>nD ids (g b)) (B5 β ids)).F8 (.bj k) 0:=by
     refine⟨?_,λ_ _ _ _=>aM _⟩;show(ids.map (s.mB ids))[k]? ≠none
     simp[hk]
    have:=(hle.cur (.bj k) 0 h0 ⟨fr,c0,Pk⟩).2;have this:β1 (.bj k)=(ids[k]?).bind β:=this;rw[this,hk];rfl
   ·have:=hgS id cT (GU id Rw);exact⟨⟨fr,c,this.symm.trans hh⟩,hβS id cT (GU id Rw)⟩
 have aQf:iI (s2.env w' g2 β2):=by
  intro id ver fr c hh;have hh:s2.bR id=some (.obj ver fr c):=hh;by_cases cT:id∈ids
  ·obtain⟨k,hk⟩:=kh.1 cT;obtain⟨e,Pk,acw⟩:=hgO k id hk;rw[acw,az]at hh;obtain⟨v0,c0,rfl,_,rfl⟩:=hentOut _ _ _ _ _ hh;refine wT ahO (aLT (.bj k) v0 fr c0 Pk) (hβO k id hk) λpl _=>⟨rfl,λn hg=> ?_,λhg=> ?_⟩
   ·have hg:g1 pl.b= .own (.id (.bj k)) n:=hg;show oa g w.heap.size ids t pl.b (g1 pl.b)=_;rw[hg];simp[oa,aLY,aF,hk]
   ·have hg:g1 pl.b= .free:=hg;show oa g w.heap.size ids t pl.b (g1 pl.b)=_;rw[hg];rfl
  ·by_cases gj:G.news≠ []/\∃j,id= .new t j
   ·obtain⟨gj,j,rfl⟩:=gj;rw[hgN gj j,cW]at hh;obtain⟨e,he,hh⟩:=hh;obtain⟨v0,c0,rfl,_,rfl⟩:=hentOut _ _ _ _ _ hh;refine wT ahO (aLT (.new 0 j) v0 fr c0 (by show([G.news].getD 0 [])[j]? =_;simpa using he)) (hβN gj j) λpl _=>⟨rfl,λn hg=> ?_,λhg=> ?_⟩
    ·have hg:g1 pl.b= .own (.id (.new 0 j)) n:=hg;show oa g w.heap.size ids t pl.b (g1 pl.b)=_;rw[hg];rfl
    ·have hg:g1 pl.b= .free:=hg;show oa g w.heap.size ids t pl.b (g1 pl.b)=_;rw[hg];rfl
   ·have aT5:G.news=[]\/∀j,id≠ .new t j:=by
     by_cases hh:G.news=[]
     ·exact .inl hh
     ·exact .inr λj e=>gj ⟨hh,j,e⟩
    rw[hgS id cT aT5]at hh;have same:∀id,id ∉ ids->∀ver fr c,s.bR id=some (.obj ver fr c)->∀pl,β id=some pl->w'.heap[pl.b]? =w.heap[pl.b]? /\oa g w.heap.size ids t pl.b (g1 pl.b)=g pl.b:=by
     intro id cT ver fr c hh pl NZ;obtain⟨hb,aP8⟩:=(h.bJ id ver fr c hh).label (pl:=pl) NZ;have hb:pl.b < w.heap.size:=hb;have h1:=aqF.RO pl.b hb;have aSb:idxOf id ids=none:=by
      cases hi:idxOf id ids with
      |none=>rfl
      |some k=>exact absurd (cI (oR hi)) cT
     rcases aP8 with⟨k,hk⟩ | ⟨_,hk⟩
     ·have hk:g pl.b= .own (.id id) k:=hk;simp only[hk,nD,aSb]at h1;rw[h1.1];simp only[oa,hb,bH];exact⟨h1.2,trivial⟩
     ·have hk:g pl.b= .free:=hk;simp only[hk,nD]at h1;rw[h1.1,hk];exact⟨h1.2,rfl⟩
    have ho:=h.bJ id ver fr c hh;refine ho.mono aP9 (hβS id cT aT5) (λpl NZ=>same id cT ver fr c hh pl NZ) λq2 vq k2 v2 l2 Sf _=> ?_
    have Sf:s.bR q2=some (.obj vq true (.mp k2 v2 l2)):=Sf;have aHS:q2 ∉ ids:=λhm=>by
     have:=WK q2 hm;have e:s.obj q2=some (vq,true,.mp k2 v2 l2):=by simp[AS.obj,Sf]
     unfold AS.SC at this;rw[e]at this;cases this
    refine⟨⟨k2,v2,l2,?_⟩,λpl NZ=>same q2 aHS vq true _ Sf pl NZ⟩;show s2.bR q2=_;rw[hgS q2 aHS (GU q2 (by rw[Sf];simp))];exact Sf
 have aud:s2.cm=s.cm:=by rw[<-YK,Da,abe]
 exact⟨g2,β2,h.step aud aQl aP9 aQf,G6 ahO Aw⟩
end
end Go.Ab
namespace Go.Ab
theorem sU(s:AS):∀(n:Nat) (todo acc:List Id),acc.Nodup->(s.reach n todo acc).Nodup
 | 0,_,acc,h=>by simpa[AS.reach]using h
 |_+1,[],acc,h=>by simpa[AS.reach]using h
 |n+1,id::todo,acc,h=>by
  rw[AS.reach];split
  ·exact sU s n todo acc h
  ·rename_i hc;refine sU s n _ _ ?_
   rw[List.nodup_append];refine⟨h,by simp,λx hx y hy e=> ?_⟩;simp only[bo]at hy;subst hy e;exact hc (by simpa using hx)
theorem B0(s:AS)(vs:List aB):(s.afa vs).Nodup:=sU s _ _ _ (by simp)
section
variable {P:Program} {C:Ctx} {g:Nat->lU} {β:Id->Option Pl} {s:AS} {a:Act} {w:World} {o:Oper}
theorem akg(h:Inv C g β s a w){ids:List Id}(hn:ids.Nodup)(CG:s.aup ids=true){G:fA}{s':AS}(he:(s.back ids o.dst G).eval=some s'){v:Value}{w':World}
  (ha:tj ((fC (ids.map (s.mB ids))).env w (λb=>nD ids (g b)) (B5 β ids)) G v w'):ik C s' (a.put o.dst v) w':=by
 have hp:∀id∈ids,∃r,s.obj id=some r:=λid cT=>by have:=df.1 CG id cT;rw[au]at this;exact bQ.1 this.1
 have WK:∀id∈ids,s.SC id=true:=λid cT=>by have:=df.1 CG id cT;rw[au]at this;exact this.2
 unfold AS.back at he;cases aPV:o.dst with
 |some t=>
  rw[aPV]at he;obtain⟨hg,he⟩:=aC.1 he;obtain rfl:=ay.1 he;simp only[au,dr,gC]at hg;obtain⟨hl,hg⟩:=hg;have aDL:G.news=[]\/s.dX t=true:=by
   rcases hg with hg | hg
   ·exact .inl (by simpa using hg)
   ·exact .inr hg
  obtain⟨g2,β2,h1,h2⟩:=Xq h hn hp WK hl aDL ha;exact⟨g2,β2,h1.put (some t) h2⟩
 |none=>
  rw[aPV]at he;obtain⟨hg,he⟩:=aC.1 he;obtain rfl:=ay.1 he;simp only[au,dr]at hg;obtain⟨hl,hg⟩:=hg;have GU:G.news=[]:=by simpa using hg
  obtain⟨g2,β2,h1,_⟩:=Xq (t:=0) h hn hp WK hl (.inl GU) ha;rw[GU]at h1;exact⟨g2,β2,h1⟩
theorem R9(h:Inv C g β s a w){en:Entry}{ids:List Id}(hn:ids.Nodup){vs:List aB}{ys:List Value}(hv:xS (s.env w g β) vs ys)
  {s':AS} (he:(s.enter en o.dst ids vs).eval=some s'):∃x,en.run (vs.map (aB.iE (s.xk ids))) (ids.map (s.mB ids))=some x/\
   xS ((fC (ids.map (s.mB ids))).env w (λb=>nD ids (g b)) (B5 β ids)) (vs.map (aB.iE (s.xk ids))) ys/\
   iI ((fC (ids.map (s.mB ids))).env w (λb=>nD ids (g b)) (B5 β ids))/\
   ∀v w',tj ((fC (ids.map (s.mB ids))).env w (λb=>nD ids (g b)) (B5 β ids)) (en.out (vs.map (aB.iE (s.xk ids))) (ids.map (s.mB ids)) x) v w'->ik C s' (a.put o.dst v) w':=by
 unfold AS.enter at he;obtain⟨CG,he⟩:=aC.1 he;obtain⟨x,hx,he⟩:=w5.1 he;obtain⟨x0,aNC,he⟩:=aw.1 he;rw[en.au2 _ _ aNC]at he;exact⟨x,hx,xS.iE (aDP ids) hv,aug ids hn h.bJ,λv w' ha=>akg h hn CG he ha⟩
theorem aqg(h:Inv C g β s a w){f:FuncId}{en:Entry}(hd:qA P f en){ids:List Id}(hn:ids.Nodup){vs:List aB}{ys:List Value}(hv:xS (s.env w g β) vs ys)
  (hr:(execOp a.eval o).run P w=(callFunc f ys.toArray).run P w) {s':AS} (he:(s.enter en o.dst ids vs).eval=some s'):fB P o a w (ik C s'):=by
 obtain⟨x,hx,h1,h2,key⟩:=R9 h hn hv he;rcases hd _ _ _ _ _ _ _ h1 h2 hx with⟨aqv,hc⟩ | ⟨v,w',aRm,ha⟩
 ·exact .inr (.inr (.inl ⟨f,ys.toArray,w,hr.trans aqv,hc.mono λe w' ⟨v,he,ha⟩=>⟨v,he,key v w' ha⟩⟩))
 ·exact .inl ⟨v,w',hr.trans aRm,key v w' ha⟩
theorem av8(h:Inv C g β s a w){c:Call}{F:Operand}{f:FuncId}{caps:aB}{en:Entry}(ho:o.op= .call c)(hc:c.callee= .value F)(hF:s.ev F= .fn f caps)(hd:qA P f en){s':AS}
  (he:(s.call en o.dst (c.args.toList.map s.ev++caps.list)).eval=some s'):fB P o a w (ik C s'):=by
 obtain⟨cal,args,tys⟩:=c;simp only at hc he;subst hc;obtain⟨vs,hy,aO5⟩:=Yw (hF▸h.ev F);have KV:=(h.aQ7 args.toList).append (ags aO5);have hr:(execOp a.eval o).run P w=(callFunc f (args.toList.map a.eval++vs).toArray).run P w:=by
  have e1:execOp a.eval o=(do let d <-resolve a.eval {callee:= .value F,args,argTypes:=tys} o.type;invoke d.target d.args):=by simp only[execOp,ho]
  rw[e1];simp only[resolve,hy,Deferred.ofValue,Sem.run_bind,Sem.run_pure,Result.andThen_ok,invoke];congr 2;simp
 unfold AS.call at he;obtain⟨r,h1,h2⟩:=aw.1 he;obtain⟨g',i1,e1,_,f1⟩:=fq r.2 h;exact aqg i1 hd (B0 _ _) (Dv rfl h.bJ e1 _ _ _ r KV h1 f1) hr h2
theorem aeI{X R:Type}{S:X->Prop}{k:X->Option R}{r:R}(h:Yo S k=some r):(∃x,S x)/\∀x,S x->k x=some r:=by
 unfold Yo at h;split at h
 ·rename_i hx;obtain rfl:=bl h;exact hx.choose_spec
 ·cases h
theorem T4(h:Inv C g β s a w){f:FuncId}{en:Entry}(hd:N4 P f en){vs:List aB}{ys:List Value}(KV:xS (s.env w g β) vs ys){R:Type}{k:AS->Option R}{r:R}
  (he:s.akG en o.dst vs k=some r):(callFunc f ys.toArray).run P w= .ok (.enter f ys.toArray) w/\Calls P f ys.toArray w λe w'=>∃v,e= .returned v/\∃s',ik C s' (a.put o.dst v) w'/\k s'=some r:=by
 unfold AS.akG at he;obtain⟨r2,h0,he⟩:=ij.1 he;obtain⟨r3,h1,h3⟩:=aw.1 h0;obtain⟨CG,h3⟩:=aC.1 h3;obtain rfl:=ay.1 h3;obtain⟨g',i1,e1,_,f1⟩:=fq r3.2 h;have hn:=B0 (s.bw r3.2) r3.1;have hv:=Dv rfl h.bJ e1 _ _ _ r3 KV h1 f1;unfold AS.aC3 at he;obtain⟨hx,hk⟩:=aeI he;obtain⟨c1,c2⟩:=hd _ _ _ _ _ _ (xS.iE (aDP _) hv) (aug _ hn i1.bJ) hx;refine⟨c1,c2.mono λe w' ⟨v,x,alS,hs,ha⟩=>⟨v,alS,?_⟩⟩;obtain⟨s',h4,h5⟩:=ij.1 (hk x hs);obtain⟨x0,aNC,h4⟩:=aw.1 h4;rw[en.au2 _ _ aNC]at h4;exact⟨s',akg i1 hn CG h4 ha,h5⟩
theorem apJ(h:Inv C g β s a w){c:Call}{F:Operand}{f:FuncId}{caps:aB}{en:Entry}(ho:o.op= .call c)(hc:c.callee= .value F)(hF:s.ev F= .fn f caps)(hd:N4 P f en){R:Type}{k:AS->Option R}{r:R}
  (he:s.akG en o.dst (c.args.toList.map s.ev++caps.list) k=some r):fB P o a w λa' w'=>∃s',ik C s' a' w'/\k s'=some r:=by
 obtain⟨cal,args,tys⟩:=c;simp only at hc he;subst hc;obtain⟨vs,hy,aO5⟩:=Yw (hF▸h.ev F);obtain⟨c1,c2⟩:=T4 h hd ((h.aQ7 args.toList).append (ags aO5)) he;refine .inr (.inr (.inl ⟨f,(args.toList.map a.eval++vs).toArray,w,Eq.trans ?_ c1,c2⟩));have e1:execOp a.eval o=(do let d <-resolve a.eval {callee:= .value F,args,argTypes:=tys} o.type;invoke d.target d.args):=by simp only[execOp,ho]
 rw[e1];simp only[resolve,hy,Deferred.ofValue,Sem.run_bind,Sem.run_pure,Result.andThen_ok,invoke];congr 2;simp
theorem Eh.aVJ{E:Env}{f:aB}{tmps:Array Value}(h:Eh E f tmps):xS E f.list tmps.toList:=by
 obtain⟨h1,h2⟩:=h;have gen:∀(l:List aB) (ys:List Value),l.length=ys.length->(∀i,VS E (l.getD i .undef) (ys.getD i undef))->xS E l ys:=by
  intro l
  induction l with
  |nil=>intro ys hl _;cases ys with
   |nil=>trivial
   |cons _ _=>simp at hl
  |cons x l ih=>intro ys hl hi;cases ys with
   |nil=>simp at hl
   |cons y ys=>exact⟨by simpa using hi 0,ih ys (by simpa using hl) λi=>by simpa using hi (i+1)⟩
 exact gen _ _ (by simpa using h1) λi=>by simpa[cH,aF]using h2 i
theorem atl(h:Inv C g β s a w){c:Call}{F:Operand}{id:Id}{ver:Nat}{rc:u6}{f:aB}{en:Entry}(ho:o.op= .call c)(hc:c.callee= .value F)
  (hF:s.yielded (s.ev F) c.args.size=some (id,ver,rc,f)) (aRl:rc=qG P rc.y) (hd:uU P rc.y en) {s':AS}
  (he:(s.call en o.dst (.yl id ver::(c.args.toList.map s.ev++f.list))).eval=some s'):fB P o a w (ik C s'):=by
 obtain⟨cal,args,tys⟩:=c;simp only at hc he hF;subst hc;unfold AS.yielded at hF;split at hF;rotate_left
 ·cases hF
 rename_i id' ver' alS;split at hF;rotate_left
 ·cases hF
 rename_i v c0 f0 lN;split at hF;rotate_left
 ·cases hF
 rename_i aDv;simp only[az,cC]at hF;obtain⟨rfl,rfl,rfl,rfl⟩:=hF;simp only[au,dr]at aDv;obtain⟨⟨rfl,te⟩,hy⟩:=aDv;have cP:=dZ lN;have hv:=h.ev F;rw[alS]at hv;obtain⟨cs,hV,hO⟩:=hv;simp only[V]at hV;obtain⟨l,rfl,hb,fo⟩:=hV;have aQs:a.eval F= .func (.yield l) #[] #[]:=by simpa[fJ,aB.agg]using hO.symm
 obtain⟨pl,hp,rfl⟩:=fo ⟨false,_,cP⟩;obtain⟨pl',r,hp',hh,hg,⟨q1,q2,q3⟩,aud,mn⟩:=h.bJ id' v false _ cP;have hp':β id'=some pl':=hp';have hp:β id'=some pl:=hp;rw[hp']at hp;obtain rfl:pl'=pl:=by simpa using hp
 have hh:w.heap[pl'.b]? =some (.loop r):=hh
 have KV:xS (s.env w g β) (.yl id' v::(args.toList.map s.ev++f0.list)) (.func (.yield pl'.b) #[] #[]::(args.toList.map a.eval++r.tmps.toList)):=
  ⟨by rw[<-aQs,<-alS];exact h.ev F,(h.aQ7 args.toList).append aud.aVJ⟩
 have hr:(execOp a.eval o).run P w= .ok (.round pl'.b r.fn ((c0.ps.zip (args.toList.map a.eval).toArray).foldl (λtmps (t,a)=>tmps.setIfInBounds t a) r.tmps.toList.toArray) c0.as c0.b) w:=by
  have e1:execOp a.eval o=(do let d <-resolve a.eval {callee:= .value F,args,argTypes:=tys} o.type;invoke d.target d.args):=by simp only[execOp,ho]
  have e2:=run_yield (P:=P) (args:=args.map a.eval) hh (by simpa[q1]using te);rw[q1,q2,q3]at e2;rw[e1];simp only[resolve,aQs,Deferred.ofValue,Sem.run_bind,Sem.run_pure,Result.andThen_ok,invoke];have e3:(args.toList.map a.eval).toArray=args.map a.eval:=by apply gf;simp
  rw[e3];simpa using e2
 unfold AS.call at he;obtain⟨r2,h1,h2⟩:=aw.1 he;obtain⟨g',i1,e1,_,f1⟩:=fq r2.2 h;obtain⟨x,hx,k1,k2,key⟩:=R9 i1 (B0 _ _) (Dv rfl h.bJ e1 _ _ _ r2 KV h1 f1) h2;refine .inr (.inr (.inr ⟨pl'.b,r.fn,_,c0.as,c0.b,w,hr,λrd n=> ?_⟩));have:=hd.2.1 hy _ _ _ _ _ _ x k1 k2 hx pl'.b (args.toList.map a.eval) r.tmps.toList r.fn rd n rfl (by rw[<-aRl];simpa using te);rw[<-aRl]at this;exact this.mono λe w' ⟨v,he,ha⟩=>⟨v,he,key v w' ha⟩
end
end Go.Ab
namespace Go.Ab
section
variable {P:Program} {C:Ctx} {g:Nat->lU} {β:Id->Option Pl} {s:AS} {a:Act} {w:World} {o:Oper}
theorem jo{b:Builtin}{args:Array Operand}{ts:Array TypeId}{F:TypeId->Array Value->Sem Value}{x:Value}{w':World}{s':AS}(ho:o.op= .call {callee:= .builtin b,args,argTypes:=ts})
  (hb:∀ty cs xs,builtin b ts ty cs xs=(do pure (.value (<-F ty xs)))) (hf:∀ty,(F ty (args.map a.eval)).run P w= .ok x w') (h2:∃g' β',Inv C g' β' s' (a.put o.dst x) w'):fB P o a w (ik C s'):=by
 refine .inl ⟨x,w',?_,h2⟩;simp only[execOp,ho,resolve,Sem.run_bind,Sem.run_pure,Result.andThen_ok,invoke];rw[hb,Sem.run_bind,hf];rfl
theorem ap5(h:Inv C g β s a w){src dst:TypeId}{x:Operand}(ho:o.op= .convert src dst x){id:Id}{ver:Nat}(hx:s.ev x= .ptr id ver [] 0){v:aB}(he:(aeB P s src dst id ver).eval=some v):fB P o a w (ik C (s.put o.dst v)):=by
 have hv:=h.ev x;rw[hx]at hv;obtain⟨ad,hy,hb,hc⟩:=vu hv;have fin:v= .ptr id ver [] 0->(convert src dst (a.eval x)).run P w= .ok (a.eval x) w->fB P o a w (ik C (s.put o.dst v)):=by intro h1 h2;subst h1;exact h.value hv (dU (f:=convert src dst (a.eval x)) (by simp only[execOp,ho]) h2)
 unfold aeB at he;split at he
 ·rename_i v0 fr e c lN;have cP:=dZ lN;obtain⟨pl',cur,e',hp',hh,hg,hk,hV⟩:=(h.bJ id v0 fr _ cP).box rfl;have hk:e'=e:=hk;subst hk;have hV:V (s.env w g β) c (cur.toList.take cur.size):=hV;rw[<-cJ,bK]at hV;have hh:w.heap[pl'.b]? =some (.cells cur e' (0,0)):=hh
  have te:=hV.size;have te:cur.toList.length=c.size:=te;have aDE:w.shape? pl'.b=some (e',c.size):=by simp only[World.shape?,hh];rw[<-te];simp
  have hp':β id=some pl':=hp';split at he
  ·rename_i t hS hD;obtain⟨h1,h2⟩:=aC.1 he;have h2:=ay.1 h2;simp only[au,dr,cv,gh]at h1;obtain⟨⟨rfl,h3⟩,h4⟩:=h1;obtain⟨pl,hp,rfl⟩:=hc ⟨fr,_,cP⟩;have hp:β id=some pl:=hp;rw[hp']at hp;obtain rfl:pl'=pl:=by simpa using hp
   refine fin h2.symm ?_
   rw[hy];cases hi:P.info? t with
   |none=>exact absurd (by simp[Program.cellsOf,hi]) h3
   |some j=>
    have hj:j.size≠0:=by rw[<-mS hi]at*;exact h3
    exact Go.Lib.run_to_unsafe w _ hS hD hi hj aDE (by show 0 < c.size;omega)
  ·rename_i u hS hD;obtain⟨h1,h2⟩:=aC.1 he;have h2:=ay.1 h2;simp only[au,dr,cv,gh]at h1;obtain⟨⟨rfl,h3⟩,h4⟩:=h1;obtain⟨pl,hp,rfl⟩:=hc ⟨fr,_,cP⟩;have hp:β id=some pl:=hp;rw[hp']at hp;obtain rfl:pl'=pl:=by simpa using hp
   refine fin h2.symm ?_
   rw[hy];cases hi:P.info? u with
   |none=>exact absurd (by simp[Program.cellsOf,hi]) h3
   |some j=>exact Go.Lib.run_from_unsafe w _ hS hD hi aDE h4
  ·simp only[av]at he
 ·simp only[av]at he
theorem aC5(h:Inv C g β s a w){T U:TypeId}{op:BinOp}{x y:Operand}(ho:o.op= .binOp op T x y U){i j:Id}{v1 v2:Nat}(hx:s.ev x= .ptr i v1 [] 0)(hy:s.ev y= .ptr j v2 [] 0){v:aB}(he:(aOR P s T op i v1 j v2).eval=some v):
  fB P o a w (ik C (s.put o.dst v)):=by
 unfold aOR at he;split at he
 ·rename_i v' fr c lN;obtain⟨h1,h2⟩:=aC.1 he;simp only[au,dr,bf]at h1;obtain⟨⟨⟨rfl,rfl⟩,rfl⟩,aO2⟩:=h1;have cP:=dZ lN;have YM:=h.ev x;have aLX:=h.ev y;rw[hx]at YM;rw[hy]at aLX;obtain⟨ad,aPL,_,hc⟩:=vu YM;obtain⟨ad',aPM,_,hc'⟩:=vu aLX;obtain⟨pl,hp,rfl⟩:=hc ⟨fr,c,cP⟩;obtain⟨pl',hp',rfl⟩:=hc' ⟨fr,c,cP⟩;rw[hp]at hp';obtain rfl:pl=pl':=by simpa using hp'
  have hT:∃t j,P.underlying T=some (.pointer t)/\P.info? t=some j:=by
   unfold aQE at aO2;split at aO2
   ·rename_i t ht;obtain⟨j,hj⟩:=bQ.1 aO2;exact⟨t,j,ht,hj⟩
   ·cases aO2
  obtain⟨t,j,hT,hj⟩:=hT
  have hq:(Op.equal T (.pointer (some ⟨pl.b,0,none⟩)) (.pointer (some ⟨pl.b,0,none⟩))).run P w= .ok true w:=
   fh λd=>by simp[Op.equalIn,run_underlying hT,sizeOf,typeInfo,hj,run_sameAddr_same]
  have aUS:(eqGuard op T x y (a.eval x) (a.eval y)).run P w= .ok () w:=by rw[aPL,aPM];exact nL (by simp) rfl
  have fin:∀z,(binOp op T (a.eval x) (a.eval y)).run P w= .ok z w->VS (s.env w g β) v z->fB P o a w (ik C (s.put o.dst v)):=by
   intro z h1 h3;refine h.value h3 ?_
   simp[execOp,ho,h1,aUS]
  split at h2
  ·obtain rfl:=ay.1 h2;refine fin (.bool true) ?_ (vO true)
   rw[aPL,aPM];simp[binOp,hq]
  ·obtain rfl:=ay.1 h2;refine fin (.bool false) ?_ (vO false)
   rw[aPL,aPM];simp[binOp,hq]
  ·simp only[av]at h2
 ·simp only[av]at he
theorem aLz{c:Call}{b:Builtin}{x:Operand}(hc:c.callee= .builtin b)(ha:c.args.toList=[x]):c= {callee:= .builtin b,args:= #[x],argTypes:=c.argTypes}:=by
 obtain⟨cal,args,tys⟩:=c;simp only at hc ha;have ha':args= #[x]:=by apply gf;simpa using ha
 subst hc ha';rfl
theorem atu{c:Call}{b:Builtin}{x y:Operand}(hc:c.callee= .builtin b)(ha:c.args.toList=[x,y]):c= {callee:= .builtin b,args:= #[x,y],argTypes:=c.argTypes}:=by
 obtain⟨cal,args,tys⟩:=c;simp only at hc ha;have ha':args= #[x,y]:=by apply gf;simpa using ha
 subst hc ha';rfl
theorem aTl{ts:Array TypeId}{T:TypeId}(h:ts.toList=[T]):ts= #[T]:=by apply gf;simpa using h
theorem aOw{ts:Array TypeId}{T U:TypeId}(h:ts.toList=[T,U]):ts= #[T,U]:=by apply gf;simpa using h
theorem aBL(h:Inv C g β s a w){c:Call}{x:Operand}{T e:TypeId}(ho:o.op= .call c)(hc:c.callee= .builtin .cap)(ha:c.args.toList=[x])(ht:c.argTypes.toList=[T])(hx:s.ev x= .cX)(hT:P.underlying T=some (.slice e)):
  fB P o a w (ik C (s.put o.dst (.d (.int .i64) (0:Int)))):=by
 rw[aLz hc ha,aTl ht]at ho;have hv:=h.ev x;rw[hx]at hv;have hy:=kW hv;refine jo ho (F:=λty xs=>Builtin.cap_ #[T] ty xs) (λty cs xs=>rfl) (x:= .int .i64 0) (w':=w) (λty=> ?_) ⟨g,β,h.put o.dst (lB _ _)⟩;simp[Builtin.cap_,run_underlying hT,hy,goInt]
theorem an9(h:Inv C g β s a w){c:Call}{x:Operand}{id:Id}{ver len:Nat}(ho:o.op= .call c)(hc:c.callee= .builtin .unsafeSliceData)(ha:c.args.toList=[x])(hx:s.ev x= .bz id ver [] 0 0 len)(hl:0 < len):
  fB P o a w (ik C (s.put o.dst (.ptr id ver [.idx 0] 0))):=by
 rw[aLz hc ha]at ho;have hv:=h.ev x;rw[hx]at hv;obtain⟨ad,cap,hy,Pj,hs,hb,fo⟩:=rM hv;obtain⟨ad,rfl⟩:=bQ.1 (hs hl);refine jo ho (F:=λty xs=>Builtin.unsafeSliceData_ c.argTypes ty xs) (λty cs xs=>rfl) (x:= .pointer (some ad)) (w':=w) (λty=> ?_) ⟨g,β,h.put o.dst ?_⟩
 ·rw[show(#[x].map a.eval)= #[a.eval x] by simp,hy];exact Go.Lib.run_unsafeSliceData_row w _ _ _ _ _ ak
 ·refine⟨[.pointer (some ad)],?_,rfl⟩;simp only[V];refine⟨ad,rfl,hb,λhc=> ?_⟩;have h1:=fo hc;cases hp:(s.env w g β).β id with
  |none=>rw[hp]at h1;simp only at h1;cases h1.1
  |some pl=>
   rw[hp]at h1;simp only at h1;exact⟨pl,rfl,by simpa using h1.1 (.inl hl)⟩
theorem amx(h:Inv C g β s a w){c:Call}{mx:Bool}(ho:o.op= .call c)(hc:c.callee= .builtin (if mx then .max else .min)){v:aB}(he:(axR mx (c.args.toList.map s.ev)).eval=some v):fB P o a w (ik C (s.put o.dst v)):=by
 unfold axR at he;split at he
 ·rename_i k x k' y Uv;obtain⟨h1,h2⟩:=aC.1 he;obtain rfl:=ay.1 h2;have h1:k=k':=by simpa using h1
  subst h1;have aDs:∃p q,c.args.toList=[p,q]/\s.ev p= .d (.int k) x/\s.ev q= .d (.int k) y:=by
   match hh:c.args.toList,Uv with
   |[p,q],Uv=>simp only[bU,gZ,cZ]at Uv;exact⟨p,q,rfl,Uv.1,Uv.2.1⟩
   |[],Uv=>simp at Uv
   |[_],Uv=>simp at Uv
   |_::_::_::_,Uv=>simp at Uv
  obtain⟨p,q,ha,hp,hq⟩:=aDs;rw[atu hc ha]at ho;have aNB:=h.ev p;have aLW:=h.ev q;rw[hp]at aNB;rw[hq]at aLW;have ep:=vd aNB;have eq:=vd aLW;cases mx with
  |true=>
   refine jo ho (F:=λty xs=>Builtin.max_ c.argTypes ty xs) (λty cs xs=>rfl) (x:= .int k (if x < y then y else x)) (w':=w) (λty=> ?_) ⟨g,β,h.put o.dst (lB _ _)⟩;rw[show(#[p,q].map a.eval)= #[a.eval p,a.eval q] by simp,ep,eq];simp[Builtin.max_,Builtin.max2]
  |false=>
   refine jo ho (F:=λty xs=>Builtin.min_ c.argTypes ty xs) (λty cs xs=>rfl) (x:= .int k (if y < x then y else x)) (w':=w) (λty=> ?_) ⟨g,β,h.put o.dst (lB _ _)⟩;rw[show(#[p,q].map a.eval)= #[a.eval p,a.eval q] by simp,ep,eq];simp[Builtin.min_,Builtin.min2]
 ·rename_i k x k' y k2 z Uv;obtain⟨h1,h2⟩:=aC.1 he;obtain rfl:=ay.1 h2;simp only[au,bf]at h1;obtain⟨rfl,rfl⟩:=h1;have aDs:∃p q r,c.args.toList=[p,q,r]/\s.ev p= .d (.int k) x/\s.ev q= .d (.int k) y/\s.ev r= .d (.int k) z:=by
   match hh:c.args.toList,Uv with
   |[p,q,r],Uv=>simp only[bU,gZ,cZ]at Uv;exact⟨p,q,r,rfl,Uv.1,Uv.2.1,Uv.2.2.1⟩
   |[],Uv=>simp at Uv
   |[_],Uv=>simp at Uv
   |[_,_],Uv=>simp at Uv
   |_::_::_::_::_,Uv=>simp at Uv
  obtain⟨p,q,r,ha,hp,hq,hr⟩:=aDs;have aDu:c= {callee:= .builtin (if mx then .max else .min),args:= #[p,q,r],argTypes:=c.argTypes}:=by
   obtain⟨cal,args,tys⟩:=c;simp only at hc ha;have ha':args= #[p,q,r]:=by apply gf;simpa using ha
   subst hc ha';rfl
  rw[aDu]at ho;have aNB:=h.ev p;have aLW:=h.ev q;have aoW:=h.ev r;rw[hp]at aNB;rw[hq]at aLW;rw[hr]at aoW;have ep:=vd aNB;have eq:=vd aLW;have er:=vd aoW;cases mx with
  |true=>
   refine jo ho (F:=λty xs=>Builtin.max_ c.argTypes ty xs) (λty cs xs=>rfl) (x:= .int k (if(if x < y then y else x) < z then z else(if x < y then y else x))) (w':=w) (λty=> ?_) ⟨g,β,h.put o.dst (lB _ _)⟩;rw[show(#[p,q,r].map a.eval)= #[a.eval p,a.eval q,a.eval r] by simp,ep,eq,er];simp[Builtin.max_,Builtin.max2]
  |false=>
   refine jo ho (F:=λty xs=>Builtin.min_ c.argTypes ty xs) (λty cs xs=>rfl) (x:= .int k (if z < (if y < x then y else x) then z else(if y < x then y else x))) (w':=w) (λty=> ?_) ⟨g,β,h.put o.dst (lB _ _)⟩;rw[show(#[p,q,r].map a.eval)= #[a.eval p,a.eval q,a.eval r] by simp,ep,eq,er];simp[Builtin.min_,Builtin.min2]
 ·simp only[av]at he
theorem acv(z:Array Value)(n:Nat):Builtin.zeroCells z n=madeCells z (n*z.size):=rfl
theorem aw6(h:Inv C g β s a w){c:Call}{x y:Operand}{T X:TypeId}{k:IntKind}{n:Int}(ho:o.op= .call c)(hc:c.callee= .builtin .append)(ha:c.args.toList=[x,y])(ht:c.argTypes.toList=[T,X])(hx:s.ev x= .cX)(hy:s.ev y= .d (.int k) n){s':AS}
  (he:(alN P s o.dst T X n).eval=some s'):fB P o a w (ik C s'):=by
 rw[atu hc ha,aOw ht]at ho;have YM:=h.ev x;have aLX:=h.ev y;rw[hx]at YM;rw[hy]at aLX;have ex:=kW YM;have ey:=vd aLX;unfold alN at he;split at he
 ·rename_i e t b q kn Ke hd hX;obtain⟨hT,hz,i,zv,hi,axh,aNn,aoY,axl⟩:=CE Ke;obtain⟨hq,h2⟩:=aC.1 he;obtain⟨h3,h4⟩:=bN.1 h2;obtain rfl:=ay.1 h4;simp only[au,bf,cV]at h3;obtain⟨h5,h7,h8⟩:=h3;obtain⟨m,rfl⟩:=Int.eq_ofNat_of_zero_le (Int.le_of_lt h5);simp only[aa]at h7 h8 ⊢;have aO8:zv.cells.size=t.size:=by have:=(axl (s.env w g β)).size;simpa using this
  have hr:=λty=>Go.Lib.run_append_nil_zeros (P:=P) w T X ty e i zv k kn hT hX hi aoY m ak (by rw[axh];exact hz) ak (by rw[aNn];omega)
  obtain⟨cap,Pj⟩:∃cap,grownCap w m 0 e=cap:=⟨_,rfl⟩;have c1:m<=cap:=by rw[<-Pj];exact grownCap_ge _ _ _ _
  have c2:cap<=maxLen:=by rw[<-Pj];exact grownCap_le_maxLen _ _ _ _ (by unfold maxLen;omega)
  rw[Pj]at hr;obtain⟨cur,fo⟩:∃cur,Builtin.zeroCells zv.cells m++Builtin.zeroCells zv.cells (cap - m)=cur:=⟨_,rfl⟩;rw[fo]at hr;have s1:cur.size=cap*t.size:=by rw[<-fo,Array.size_append,Bn,Bn,aO8,<-eo];congr 1;omega
  have CG:=uo (axl (s.env w.drew g β)) m;have s2:cur.toList.take (m*t.size)=(madeCells zv.cells (m*t.size)).toList:=by
   rw[<-fo,bT,acv,aO8];have hl:(madeCells zv.cells (m*t.size)).toList.length=m*t.size:=by simp[size_madeCells]
   rw[iR ak,aX ak]
  obtain⟨g2,β2,i2,Ut⟩:=(h.drew).aio hq (e:=e) (l:=ab m t.zero) (cur:=cur) (cap:=cap) hz (by rw[cg,s2];exact CG) s1 (by rw[cg];exact c1) c2;rw[cg]at Ut;refine jo ho (F:=λty xs=>Builtin.append_ #[T,X] ty xs) (λty cs xs=>rfl) (λty=> ?_) ⟨g2,β2,i2.put o.dst Ut⟩;rw[show(#[x,y].map a.eval)= #[a.eval x,a.eval y] by simp,ex,ey];exact hr ty
 ·simp only[av]at he
theorem afT:∀(xs:List Int) (a:Addr) (acc:ByteArray),(∀j x,xs[j]? =some x->w.cell? (a.add j)=some (.int .u8 x))->
  (loadBytes a acc xs.length).run P w= .ok ⟨acc.data++(xs.map λn=>fb n.toNat).toArray⟩ w
 |[],a,acc,_=>by simp[loadBytes]
 |x::l,a,acc,h=>by
  have h0:w.cell? a=some (.int .u8 x):=by have:=h 0 x rfl;simpa[Addr.add]using this
  have ih:=afT l (a.add 1) (acc.push x.toNat.toUInt8) (λj y hy=>by
   have:=h (j+1) y (by simpa using hy);have e:(a.add 1).add j=a.add (j+1):=by
    unfold Addr.add;by_cases hj:j=0
    ·subst hj;simp
    ·simp[hj];omega
   rw[e];exact this)
  simp only[aA,loadBytes,Sem.run_bind,run_load,h0,Result.andThen];rw[ih];congr 1;apply ByteArray.ext;simp[ByteArray.push]
theorem azO(h:Inv C g β s a w){c:Call}{x y:Operand}{T U:TypeId}{id:Id}{ver:Nat}{n:Int}(ho:o.op= .call c)(hc:c.callee= .builtin .unsafeString)(ha:c.args.toList=[x,y])(ht:c.argTypes.toList=[T,U])
  (hx:s.ev x= .ptr id ver [.idx 0] 0) (hy:s.ev y= .d (.int .i64) n) {s':AS} (he:(aoo P s o.dst T id ver n).eval=some s'):fB P o a w (ik C s'):=by
 rw[atu hc ha,aOw ht]at ho;have YM:=h.ev x;rw[hx]at YM;obtain⟨ad,aPL,_,aUJ⟩:=vu YM;have aLX:=h.ev y;rw[hy]at aLX;have aPM:=vd aLX;unfold aoo at he;split at he
 ·rename_i v e l u lN hT;obtain⟨h1,h2⟩:=aC.1 he;obtain⟨h3,h4⟩:=bN.1 h2;obtain rfl:=ay.1 h4;simp only[au,dr]at h1;obtain⟨⟨rfl,rfl⟩,aNg⟩:=h1;simp only[bf]at h3;obtain⟨h5,h6⟩:=h3;obtain⟨n,rfl⟩:=Int.eq_ofNat_of_zero_le (Int.le_of_lt h5);have h6:n<=(l:List Int).length:=ak;have cP:=dZ lN;obtain⟨pl,hp,rfl⟩:=aUJ ⟨false,_,cP⟩;have hp:β id=some pl:=hp;have hO:wS (s.env w g β) id false (.vec u (.int .u8) l):=h.bJ id v false _ cP;obtain⟨hz,hO⟩:=hO;have hO:(match β id with
   |none=>l=[]
   |some pl=>∃cur k,w.heap[pl.b]? =some (.cells cur u (0,0))/\cur.size=pl.cap*(Ty.int .u8).size/\(l:List Int).length<=pl.cap/\pl.cap<=maxLen/\g pl.b= .own (.id id) k/\
     k<=(l:List Int).length*(Ty.int .u8).size/\(false=false->k=0)/\bA (cY (s.env w g β) (.int .u8)) (cur.toList.take ((l:List Int).length*(Ty.int .u8).size)) l):=hO
  rw[hp]at hO;obtain⟨cur,k,q1,q2,q3,q4,q5,q6,q7,q8⟩:=hO;have hk:=q7 rfl;subst hk;have aNt:(Ty.int .u8).size=1:=rfl;rw[aNt,gH]at q2 q8;have Uu:=wY q8;have aDE:w.shape? pl.b=some (u,cur.size):=by simp only[World.shape?,q1]
  have DA:∀j z,((l:List Int).take n)[j]? =some z->w.cell? ((⟨pl.b,0,none⟩:Addr).add j)=some (.int .u8 z):=λj z hj=>by
   rw[da]at hj;split at hj
   ·rename_i aTY;have aNp:j < (l:List Int).length:=ak;rw[Addr.add_lit,aK];simp only[World.cell?,q1];have:(cur.toList.take (l:List Int).length)[j]? =some (.int .u8 z):=by rw[Uu,ea,hj];rfl
    rw[da,if_pos aNp]at this;simpa using this
   ·cases hj
  have hlen:((l:List Int).take n).length=n:=by rw[bt];omega
  have aHR:=afT (P:=P) (w:=w) ((l:List Int).take n) ⟨pl.b,0,none⟩ .empty DA;rw[hlen]at aHR;have aQa:=Go.Lib.liesAt_bytes (P:=P) (e:=u) (by simpa using aNg) (cur.size / P.cellsOf u) n (by
   rw[show P.cellsOf u=1 by simpa using aNg,Nat.div_one];omega)
  have aP1:∃w',w.freeze ⟨pl.b,0,none⟩ n=w'/\w'.os=w.os/\w'.tape=w.tape/\(w'.output=w.output/\w.drawn<=w'.drawn)/\w'.heap.size=w.heap.size/\∀b',b'≠pl.b->w'.heap[b']? =w.heap[b']? :=by refine⟨_,rfl,?_⟩;unfold World.freeze;rw[if_neg ak];refine⟨rfl,rfl,⟨rfl,ax _⟩,by simp,λb' hb'=> ?_⟩;simp only[gl];rw[if_neg (λe=>hb' e.symm)]
  obtain⟨w',hw',f1,f2,f3,f4,f5⟩:=aP1;have i1:=h.kill cP q5 f1 f2 f3 f4 f5;have aTK:¬(9223372036854775807:Int) < (n:Int):=by unfold maxLen at q4;omega
  have aSo:¬(n:Int) < 0:=ak;have aJs:n≠0:=ak;have aSk:IntKind.i64.max=9223372036854775807:=rfl;refine jo ho (F:=λty xs=>Builtin.unsafeString_ #[T,U] ty xs) (λty cs xs=>rfl) (x:= .string (fj ((l:List Int).take n))) (w':=w') (λty=> ?_) ⟨_,β,i1.put o.dst ⟨[.string (fj ((l:List Int).take n))],by simp only[V,cY];rfl,rfl⟩⟩;rw[show(#[x,y].map a.eval)= #[a.eval x,a.eval y] by simp,aPL,aPM]
  have aNh:Builtin.unsafeString_ #[T,U] ty #[.pointer (some ⟨pl.b,0,none⟩),.int .i64 n]=
    (do
     let n <-Go.asInt (.int .i64 n)
     if n < 0 then runtimePanic (.error "unsafe.String: len out of range")
     if n > IntKind.i64.max then unsupported (.unsafePointer "String: a length above the largest int")
     if n=0 then pure (.string .empty)
     else if <-variablesAt ⟨pl.b,0,none⟩ (<-elemOf T) n.toNat then do
      let s <-loadBytes ⟨pl.b,0,none⟩ .empty n.toNat
      freeze ⟨pl.b,0,none⟩ n.toNat
      pure (.string s)
     else unsupported (.unsafePointer "String: not so many bytes at ptr")):=rfl
  rw[aNh];simp[Go.asInt,asIntOf,aSk,aTK,aSo,aJs,variablesAt,aDE,elemOf,run_underlying hT,aQa,aHR,hw',fj]
 ·simp only[av]at he
end
end Go.Ab
namespace Go.Ab
section
variable {P:Program} {C:Ctx} {g:Nat->lU} {β:Id->Option Pl} {s:AS} {a:Act} {w:World} {o:Oper}
theorem amu(h:Inv C g β s a w){c:Call}{T T2:TypeId}{m k:Operand}(de:o.op= .call c)(hc:c.callee= .builtin .delete)(ha:c.args.toList=[m,k])(ht:c.argTypes.toList=[T,T2]){s':AS}(he:(E6 P s T (s.ev m) (s.ev k)).eval=some s'):fB P o a w (ik C (s'.put o.dst .nil)):=by
 have de:o.op= .call {callee:= .builtin .delete,args:= #[m,k],argTypes:= #[T,T2]}:=by rw[de,atu hc ha,aOw ht]
 unfold E6 at he;split at he
 ·rename_i K V' kt vt id ver hm hx;obtain⟨l,h1,he⟩:=aw.1 he;obtain⟨kx,h2,he⟩:=aw.1 he;obtain⟨aNy,he⟩:=aC.1 he;obtain rfl:=ay.1 he;obtain⟨hT,hK,_⟩:=B1 hm;have YM:=h.ev m;rw[hx]at YM;obtain⟨fr,pl,es,clock,g1,g2,g3,g4,g5,g6,g7,gn⟩:=y4 h h1 YM;obtain⟨l0,g6,gp⟩:=g6;have KX:=As depth K kt hK;have hk:=Fi (h.ev k) h2;have aLK:=oF (P:=P) (w:=w) es.isEmpty depth K kt hK 10000 (by decide) _ _ hk;obtain⟨r,hf,hr⟩:=MO (P:=P) (w:=w) hK hk g6
  have fin:∀(es':Array MapEntry) (clock':Nat),(∀ty,(Builtin.delete_ #[T,T2] ty (#[m,k].map a.eval)).run P w= .ok (.tuple #[]) {w with heap:=w.heap.setIfInBounds pl.b (.map es' clock')})->Alike (Eg (s.env w g β) kt vt) es'.toList (fT kt kx l0)->oq es'.toList clock'->
    fB P o a w (ik C ((s.bh id (.obj ver false (.mp kt vt (fT kt kx l)))).put o.dst .nil)):=λes' clock' pV aDs aPO=>
   jo (F:=λty xs=>Builtin.delete_ #[T,T2] ty xs) de (λ_ _ _=>rfl) pV ⟨g,β,(h.aGg g1 g2 g4 g5 ⟨_,aDs,Zo KX gn gp⟩ (B2 KX gn) aPO aNy).put o.dst rfl⟩
  cases r with
  |none=>
   simp only at hr;refine fin es clock (λty=> ?_) (by simp only[fT,hr];exact g6) g7;simp[Builtin.delete_,run_underlying hT,g3,Go.MapKept.run_getObj_map g4,aLK,hf,Go.MapKept.run_setObj_map _ g4]
  |some u=>
   obtain⟨j,u⟩:=u;obtain⟨e,m1,m2,rfl⟩:=hr;refine fin (es.eraseIdxIfInBounds j) clock (λty=> ?_) ?_ (by rw[Array.toList_eraseIdxIfInBounds];exact g7.erase j)
   ·simp[Builtin.delete_,run_underlying hT,g3,Go.MapKept.run_getObj_map g4,aLK,hf,Go.MapKept.run_setObj_map _ g4]
   ·simp only[fT,m1,Array.toList_eraseIdxIfInBounds];exact g6.erase j
 ·simp only[av]at he
theorem akb{Γ:ot}(hΓ:Sound P Γ){bJ:List Nat}(h:Inv C g β s a w){s':AS}(he:(qD P Γ bJ o s).eval=some s'):fB P o a w (ik C s'):=by
 unfold qD at he;split at he
 ·rename_i x de;obtain rfl:=ay.1 he;exact afe h (.inl de)
 ·rename_i x de;obtain rfl:=ay.1 he;exact afe h (.inr de)
 ·rename_i c x y de;obtain⟨v,h1,h2⟩:=aw.1 he;obtain rfl:=ay.1 h2;exact ayk h de h1
 ·rename_i T de;split at he
  ·rename_i z q hz hq;obtain⟨h1,h2⟩:=aC.1 he;obtain rfl:=ay.1 h2;simp only[au]at h1;exact apb h de h1.1 h1.2
  ·exact(av.1 he).elim
 ·rename_i T x de;exact aBx h de he
 ·rename_i T parts de;exact apG h de he
 ·rename_i T n parts de;exact VR h de he
 ·rename_i T x de;obtain⟨v,h1,h2⟩:=aw.1 he;obtain rfl:=ay.1 h2;exact axF h de h1
 ·rename_i T x v de;obtain⟨v,h1,h2⟩:=aw.1 he;obtain rfl:=ay.1 h2;exact asK h de h1
 ·rename_i x de;exact ac5 h de he
 ·rename_i op T x y U de;split at he
  ·rename_i i v1 j v2 hx hy;obtain⟨v,h1,h2⟩:=aw.1 he;obtain rfl:=ay.1 h2;exact aC5 h de hx hy h1
  ·obtain⟨v,h1,h2⟩:=aw.1 he;obtain rfl:=ay.1 h2;exact apn h de h1
 ·rename_i op T x de;obtain⟨v,h1,h2⟩:=aw.1 he;obtain rfl:=ay.1 h2;exact aAc h de h1
 ·rename_i T U x de;split at he
  ·rename_i id ver len hTU hx;exact ap4 h de hx he
  ·rename_i id ver hx;obtain⟨v,h1,h2⟩:=aw.1 he;obtain rfl:=ay.1 h2;exact ap5 h de hx h1
  ·obtain⟨v,h1,h2⟩:=aw.1 he;obtain rfl:=ay.1 h2;exact ag8 h de h1
 ·rename_i T x de;exact asT h de he
 ·rename_i f first caps de
  obtain⟨h1,h2⟩:=aC.1 he;obtain rfl:=ay.1 h2;simp only[au]at h1;exact acY h de h1.1 h1.2
 ·rename_i T l c de;obtain⟨n,h1,h2⟩:=aw.1 he;obtain⟨m,h3,h4⟩:=aw.1 h2;exact Zi h de h1 h3 h4
 ·rename_i T x lo hi de;obtain⟨v,h1,h2⟩:=aw.1 he;obtain rfl:=ay.1 h2;exact abb h de (.inl rfl) h1
 ·rename_i T x lo y m de;obtain⟨v',h0,h8⟩:=aw.1 he;obtain rfl:=ay.1 h8;obtain⟨hv,h1,h2⟩:=aw.1 h0;obtain⟨mv,h3,h4⟩:=aw.1 h2;obtain⟨h5,h6⟩:=bN.1 h4;obtain⟨v,h7,h9⟩:=aw.1 h6;obtain rfl:=ay.1 h9;simp only[bf]at h5;exact abb h de (.inr ⟨m,y,hv,mv,rfl,rfl,h1,h3,h5.1,h5.2.1,h5.2.2⟩) h7
 ·rename_i T x f de;obtain⟨v,h1,h2⟩:=aw.1 he;obtain rfl:=ay.1 h2;exact Yu h de h1
 ·rename_i T x f de;obtain⟨v,h1,h2⟩:=aw.1 he;obtain rfl:=ay.1 h2;exact aqk h de h1
 ·rename_i T x i de;obtain⟨n,h0,he⟩:=aw.1 he;obtain⟨v,h1,h2⟩:=aw.1 he;obtain rfl:=ay.1 h2;exact YQ h de h0 h1
 ·rename_i T x i de;obtain⟨n,h0,he⟩:=aw.1 he;obtain⟨v,h1,h2⟩:=aw.1 he;obtain rfl:=ay.1 h2;exact aqH h de h0 h1
 ·rename_i x i de;obtain⟨v,h1,h2⟩:=aw.1 he;obtain rfl:=ay.1 h2;exact ahx h de h1
 ·rename_i T de;exact aij h de he
 ·rename_i T x i ok de;obtain⟨v,h1,h2⟩:=aw.1 he;obtain rfl:=ay.1 h2;exact amp h de h1
 ·rename_i T m k x de;obtain⟨s1,h1,h2⟩:=aw.1 he;obtain rfl:=ay.1 h2;exact amw h de h1
 ·rename_i c de;split at he
  ·rename_i hc;split at he
   ·rename_i m k T T2 ha ht;obtain⟨s1,h1,h2⟩:=aw.1 he;obtain rfl:=ay.1 h2;exact amu h de hc ha ht h1
   ·exact(av.1 he).elim
  ·rename_i hc;split at he
   ·rename_i x y T X ha ht;exact awu h de hc ha ht he
   ·exact(av.1 he).elim
  ·rename_i hc;split at he
   ·rename_i x T ha ht;obtain⟨v,h1,h2⟩:=aw.1 he;obtain rfl:=ay.1 h2;exact aEh h de hc ha ht h1
   ·exact(av.1 he).elim
  ·rename_i hc;split at he
   ·rename_i x y T X ha ht;split at he
    ·rename_i k n hx hy;exact aw6 h de hc ha ht hx hy he
    ·exact ake h de hc ha ht he
   ·exact(av.1 he).elim
  ·rename_i hc;split at he
   ·rename_i x T ha ht;split at he
    ·rename_i e hx hT;obtain rfl:=ay.1 he;exact aBL h de hc ha ht hx hT
    ·exact(av.1 he).elim
   ·exact(av.1 he).elim
  ·rename_i hc;obtain⟨v,h1,h2⟩:=aw.1 he;obtain rfl:=ay.1 h2;exact amx (mx:=true) h de hc h1
  ·rename_i hc;obtain⟨v,h1,h2⟩:=aw.1 he;obtain rfl:=ay.1 h2;exact amx (mx:=false) h de hc h1
  ·rename_i hc;split at he
   ·rename_i x ha;split at he
    ·rename_i id ver len hx;obtain⟨h1,h2⟩:=bN.1 he;obtain rfl:=ay.1 h2;exact an9 h de hc ha hx (by simpa using h1)
    ·exact(av.1 he).elim
   ·exact(av.1 he).elim
  ·rename_i hc;split at he
   ·rename_i x y T U ha ht;split at he
    ·rename_i id ver n hx hy;exact azO h de hc ha ht hx hy he
    ·exact(av.1 he).elim
   ·exact(av.1 he).elim
  ·rename_i F hc;split at he
   ·rename_i f caps hF;split at he
    ·rename_i en aqv;obtain⟨gB,he⟩:=aC.1 he;exact av8 h de hc hF ((hΓ f _ en aqv).1 gB) he
    ·exact(av.1 he).elim
   ·exact(av.1 he).elim
  ·exact(av.1 he).elim
 ·exact(av.1 he).elim
end
end Go.Ab
namespace Go.Ab
def qN(P:Program)(ops:Array Oper)(o:Oper)(a:Act)(w:World)(K:Act->World->Prop):Prop:=if Region.wanted o (yielded ops a.tmps) then fB P o a w K else K (a.put o.dst undef) w
theorem qN.mono{P:Program}{ops:Array Oper}{o:Oper}{a:Act}{w:World}{K K':Act->World->Prop}(h:qN P ops o a w K)(hk:∀a w,K a w->K' a w):qN P ops o a w K':=by
 unfold qN at*;split
 ·rename_i hw;rw[if_pos hw]at h;exact h.mono hk
 ·rename_i hw;rw[if_neg hw]at h;exact hk _ _ h
theorem fB.some{P:Program}{o:Oper}{a:Act}{w:World}{K:Act->World->Prop}(h:fB P o a w K):∃a' w',K a' w':=by
 rcases h with⟨x,w',_,h⟩ | ⟨w',_,h⟩ | ⟨f,args,w',_,h⟩ | ⟨l,f,tmps,as,b,w',_,h⟩
 ·exact⟨_,_,h⟩
 ·exact⟨_,_,h⟩
 ·obtain⟨e,w'',_,⟨x,_,hx⟩,_⟩:=h [];exact⟨_,_,hx⟩
 ·obtain⟨e,w'',⟨x,_,hx⟩,_⟩:=(h none 0).2 default [] (room_wide _);exact⟨_,_,hx⟩
theorem qN.some{P:Program}{ops:Array Oper}{o:Oper}{a:Act}{w:World}{K:Act->World->Prop}(h:qN P ops o a w K):∃a' w',K a' w':=by
 unfold qN at h;split at h
 ·exact h.some
 ·exact⟨_,_,h⟩
theorem qN.wpListIn{r:Option Nat}{n:Nat}{P:Program}{ops:Array Oper}{o:Oper}{a:Act}{w:World}{Q:Exit->Act->World->Prop}{l:List Oper}(h:qN P ops o a w (wpListIn (Fr r) n P ops Q l)):Go.wpListIn (Fr r) n P ops Q (o::l) a w:=by
 unfold qN at h;unfold Go.wpListIn;split
 ·rename_i hw;rw[if_pos hw]at h;exact h.wpIn
 ·rename_i hw;rw[if_neg hw]at h;exact⟨λ_ _=>trivial,h⟩
theorem qN.wpOpIn{r:Option Nat}{n:Nat}{P:Program}{ops:Array Oper}{o:Oper}{i:Nat}{a:Act}{w:World}{Q:Exit->Act->World->Prop}{K:Act->World->Prop}(ho:ops[i]? =Option.some o)(h:qN P ops o a w K):Go.wpOpIn (Fr r) n P ops Q i K a w:=by
 unfold qN at h;unfold Go.wpOpIn;simp only[ho];split
 ·rename_i hw;rw[if_pos hw]at h;exact h.wpIn
 ·rename_i hw;rw[if_neg hw]at h;exact⟨λ_ _=>trivial,h⟩
theorem aFk{s:AS}{q:Nat}{v:aB}(h:s.slot q=v)(hq:q < s.cm.length):s.put (some q) v=s:=by
 have hv:s.cm[q]=v:=by simpa[AS.slot,aF,hq]using h
 simp only[AS.put];rw[<-hv,gm]
theorem au0{s:AS}{q:Nat}{t:Ty}{x:t.den}(h:s.slot q= .d t x):q < s.cm.length:=by
 rcases pO q s.cm.length with h' | h'
 ·exact h'
 ·simp[AS.slot,aF,dG h']at h
def Kb(P:Program)(Γ:ot)(bJ:List Nat)(ops:Array Oper)(o:Oper)(s:AS):Option AS:=
 match o.guard with
 |none=>(qD P Γ bJ o s).eval
 |some (j,want)=>match(ops[j]?).bind (·.dst) with
  |some q=>match s.slot q with
   | .d .bool b=>if b=want then(qD P Γ bJ o s).eval else some (s.put o.dst .nil)
   | .nil=>some (s.put o.dst .nil)
   |_=>none
  |none=>none
theorem alM{R:Type}{P:Program}{Γ:ot}{bJ:List Nat}{ops:Array Oper}{o:Oper}{s:AS}{k:AS->Option R}{r:R}(h:aJk P Γ bJ ops o s k=some r):∃s',Kb P Γ bJ ops o s=some s'/\k s'=some r:=by
 unfold aJk at h;unfold Kb;split at h
 ·rename_i hg;simp only[hg];exact ij.1 h
 ·rename_i j want hg;simp only[hg];split at h
  ·rename_i q hq;simp only[hq];split at h
   ·rename_i b hb;have e:=aFk hb (au0 hb);simp only[hb];cases want <;> cases b <;> simp only[aH]at h <;> rw[e]at h
    ·obtain⟨s',h1,h2⟩:=ij.1 h;exact⟨s',by simpa using h1,h2⟩
    ·exact⟨_,by simp,h⟩
    ·exact⟨_,by simp,h⟩
    ·obtain⟨s',h1,h2⟩:=ij.1 h;exact⟨s',by simpa using h1,h2⟩
   ·rename_i hb;simp only[hb];exact⟨_,rfl,h⟩
   ·cases h
  ·cases h
section
variable {P:Program} {C:Ctx} {g:Nat->lU} {β:Id->Option Pl} {s:AS} {a:Act} {w:World} {o:Oper}
theorem atm(h:Inv C g β s a w){ops:Array Oper}{j q:Nat}{b:Bool}(hq:(ops[j]?).bind (·.dst)=some q)(hb:s.slot q= .d .bool b):yielded ops a.tmps j=some b:=by
 have hv:=h.cm q;rw[hb]at hv;have hv:=Wy hv;have hl:=au0 hb;rw[<-h.size]at hl;unfold yielded;rw[hq,Option.bind_some];have:a.tmps[q]? =some (.bool b):=by rw[ff hl];simpa[Array.getD,hl]using hv
 rw[this]
theorem aoQ(h:Inv C g β s a w){ops:Array Oper}{j q:Nat}(hq:(ops[j]?).bind (·.dst)=some q)(hb:s.slot q= .nil):yielded ops a.tmps j=none:=by
 have hv:=h.cm q;rw[hb]at hv;have hv:a.tmps.getD q undef= .tuple #[]:=hv;unfold yielded;rw[hq,Option.bind_some];split
 ·rename_i b hb;rw[cH,hb]at hv;cases hv
 ·rfl
theorem aeV{Γ:ot}(hΓ:Sound P Γ){bJ:List Nat}{ops:Array Oper}(h:ik C s a w){s':AS}(he:Kb P Γ bJ ops o s=some s'):qN P ops o a w (ik C s'):=by
 obtain⟨g,β,h⟩:=h;unfold Kb at he;unfold qN;split at he
 ·rename_i hg;have:Region.wanted o (yielded ops a.tmps)=true:=by simp[Region.wanted,hg]
  rw[if_pos this];exact akb hΓ h he
 ·rename_i j want hg;split at he
  ·rename_i q hq;split at he
   ·rename_i b hb;have hy:=atm h hq hb;have hw:Region.wanted o (yielded ops a.tmps)=(b==want):=by simp[Region.wanted,hg,hy]
    rw[hw];by_cases e:b=want
    ·rw[if_pos e]at he;rw[if_pos (by simp[e])];exact akb hΓ h he
    ·rw[if_neg e]at he;rw[if_neg (by simp[e])];simp only[az]at he;subst he;exact⟨g,β,h.put o.dst rfl⟩
   ·rename_i hb;have hy:=aoQ h hq hb;have hw:Region.wanted o (yielded ops a.tmps)=false:=by simp[Region.wanted,hg,hy]
    rw[hw,if_neg (by simp)];simp only[az]at he;subst he;exact⟨g,β,h.put o.dst rfl⟩
   ·cases he
  ·cases he
theorem azp{R:Type}{c c':u6}{x:Option R}{r:R}(h:same c c' x=some r):c=c'/\x=some r:=by
 unfold same at h;split at h
 ·exact⟨‹_›,h⟩
 ·cases h
theorem auz{R:Type}{x y:Option R}{r:R}(h:nd x y=some r):x=some r/\y=some r:=by
 unfold nd at h;split at h
 ·rename_i e;exact⟨h,e▸h⟩
 ·cases h
theorem arb(h:Inv C g β s a w){x y:Operand}{n:Nat}(hn:ZQ s x y=some n){T:TypeId}(hT:Bp.isSl P T=true):∃b,(0 < n->b=false)/\(Op.equal T (a.eval x) (a.eval y)).run P w= .ok b w/\
  si (a.eval x)=false/\a.eval x≠ .nilIface/\∀op,binOp op T (a.eval x) (a.eval y)=(match op with | .eql=>do pure (.bool (<-Op.equal T (a.eval x) (a.eval y))) | .neq=>do pure (.bool (!(<-Op.equal T (a.eval x) (a.eval y)))) | _=>binOp op T (a.eval x) (a.eval y)):=by
 have hx:=h.ev x;have hy:=h.ev y;unfold Bp.isSl at hT;split at hT <;> try (cases hT;done)
 rename_i e hU;unfold ZQ at hn;split at hn
 ·rename_i t l h1 h2;rw[h1]at hx;rw[h2]at hy;obtain⟨ad,cap,vs,hv,_,hs,_⟩:=uu hx;have Ut:=kW hy;rw[hv,Ut];refine⟨ad.isNone,λhp=> ?_,?_,rfl,by simp,λop=>by cases op <;> rfl⟩
  ·obtain rfl:=bl hn;obtain⟨ad',rfl⟩:=bQ.1 (hs hp);rfl
  ·cases ad with
   |none=>exact fh λd=>by simp[Op.equalIn,run_underlying hU]
   |some ad=>exact fh λd=>by simp[Op.equalIn,run_underlying hU]
 ·rename_i t l h1 h2;rw[h1]at hx;rw[h2]at hy;obtain⟨ad,cap,vs,hv,_,hs,_⟩:=uu hy;have Ut:=kW hx;rw[hv,Ut];refine⟨ad.isNone,λhp=> ?_,?_,rfl,by simp,λop=>by cases op <;> rfl⟩
  ·obtain rfl:=bl hn;obtain⟨ad',rfl⟩:=bQ.1 (hs hp);rfl
  ·exact fh λd=>by simp[Op.equalIn,run_underlying hU]
 ·rename_i id ver pp c i len h1 h2;rw[h1]at hx;rw[h2]at hy;obtain⟨ad,cap,hv,_,hs,_⟩:=rM hx;have Ut:=kW hy;rw[hv,Ut];refine⟨ad.isNone,λhp=> ?_,?_,rfl,by simp,λop=>by cases op <;> rfl⟩
  ·obtain rfl:=bl hn;obtain⟨ad',rfl⟩:=bQ.1 (hs hp);rfl
  ·cases ad with
   |none=>exact fh λd=>by simp[Op.equalIn,run_underlying hU]
   |some ad=>exact fh λd=>by simp[Op.equalIn,run_underlying hU]
 ·rename_i id ver pp c i len h1 h2;rw[h1]at hx;rw[h2]at hy;obtain⟨ad,cap,hv,_,hs,_⟩:=rM hy;have Ut:=kW hx;rw[hv,Ut];refine⟨ad.isNone,λhp=> ?_,?_,rfl,by simp,λop=>by cases op <;> rfl⟩
  ·obtain rfl:=bl hn;obtain⟨ad',rfl⟩:=bQ.1 (hs hp);rfl
  ·exact fh λd=>by simp[Op.equalIn,run_underlying hU]
 ·cases hn
theorem PV(h:Inv C g β s a w){x y:Operand}{n:Nat}{T U:TypeId}(hn:ZQ s x y=some n)(hT:Bp.isSl P T=true):
  (o.op= .binOp .eql T x y U->∃b,(0 < n->b=false)/\fB P o a w (ik C (s.put o.dst (.d .bool b))))/\(o.op= .binOp .neq T x y U->∃b,(0 < n->b=true)/\fB P o a w (ik C (s.put o.dst (.d .bool b)))):=by
 obtain⟨b,h1,h2,h3,h4,h5⟩:=arb (w:=w) h hn hT;have hg:∀op,(eqGuard op T x y (a.eval x) (a.eval y)).run P w= .ok () w:=λop=>nL h4 h3
 refine⟨λho=>⟨b,h1,h.value (vO b) ?_⟩,λho=>⟨!b,λhp=>by rw[h1 hp];rfl,h.value (vO (!b)) ?_⟩⟩
 ·have h6:(binOp .eql T (a.eval x) (a.eval y)).run P w= .ok (.bool b) w:=by rw[h5 .eql];simp[h2]
  simp[execOp,ho,hg,h6]
 ·have h6:(binOp .neq T (a.eval x) (a.eval y)).run P w= .ok (.bool (!b)) w:=by rw[h5 .neq];simp[h2]
  simp[execOp,ho,hg,h6]
theorem QF{R:Type}{c:Bool}{x y:Option R}{r:R}(h:aH c x y=some r):(c=true/\x=some r)\/(c=false/\y=some r):=by
 cases c
 ·exact .inr ⟨rfl,h⟩
 ·exact .inl ⟨rfl,h⟩
theorem aCU{R:Type}{n:Nat}{k:Nat->Option R}{r:R}(h:aCS n k=some r):0 < n/\∀j,j < n->k j=some r:=by
 unfold aCS at h;split at h
 ·rename_i hx;obtain rfl:=bl h;exact hx.choose_spec
 ·cases h
theorem aCT{R:Type}{n:Nat}{k:Nat->Option R}{x:Option R}(hn:0 < n)(h:∀j,j < n->k j=x):aCS n k=x:=by
 unfold aCS;cases x with
 |none=>exact BK λ⟨r,_,hr⟩=>by have:=h 0 hn;rw[hr 0 hn]at this;cases this
 |some r=>
  have hx:∃r,0 < n/\∀j,j < n->k j=some r:=⟨r,hn,h⟩;rw[yF hx];have:=hx.choose_spec.2 0 hn;rw[h 0 hn]at this;exact this.symm
theorem adV{s:AS}{id:Id}{e:dE}{q:Nat}(hq:s.dX q=true)(gj:s.bR id≠none):(s.bh id e).dX q=true:=by
 cases id with
 |bj k=>exact hq
 |new i j=>
  by_cases hi:i=q
  ·subst hi;exact absurd ((ke hq).1 j) gj
  ·unfold AS.dX AS.bh;simp only[dY hi];exact hq
theorem Alike.len{α β:Type}{R:α->β->Prop}:∀ {xs:List α} {ys:List β},Alike R xs ys->xs.length=ys.length
 |[],[],_=>rfl
 |_::_,_::_,⟨_,h⟩=>by simp[h.len]
 |[],_::_,h=>h.elim
 |_::_,[],h=>h.elim
theorem art{α:Type}:∀ {xs ys:List α} {i j:Nat} {x:α},xs.Perm ys->xs[i]? =some x->ys[j]? =some x->(xs.eraseIdx i).Perm (ys.eraseIdx j):=by
 have key:∀ {xs:List α} {i:Nat} {x:α},xs[i]? =some x->xs.Perm (x::xs.eraseIdx i):=by
  intro xs
  induction xs with
  |nil=>intro i x h;simp at h
  |cons y xs ih=>
   intro i x h;cases i with
   |zero=>simp at h;subst h;exact gY _
   |succ i=>
    have h:xs[i]? =some x:=by simpa using h
    exact((ih h).cons y).trans (List.Perm.swap x y _)
 intro xs ys i j x hp hi hj;exact((key hi).symm.trans (hp.trans (key hj))).cons_inv
theorem arU(h:Inv C g β s a w){T:TypeId}{m:Operand}(de:o.op= .range T m){s':AS}(he:(arT P s o.dst T (s.ev m)).eval=some s'):fB P o a w (ik C s'):=by
 unfold arT at he;split at he
 ·rename_i K V' kt vt id ver q hm hx hd;obtain⟨l,h1,he⟩:=aw.1 he;obtain⟨hq,he⟩:=aC.1 he;obtain rfl:=ay.1 he;rw[au]at hq;obtain⟨hT,_,_⟩:=B1 hm;have YM:=h.ev m;rw[hx]at YM;obtain⟨fr,pl,es,clock,g1,g2,g3,g4,g5,g6,g7,gn⟩:=y4 h h1 YM;obtain rfl:=Jm g1 hq.1;have gj:s.bR id≠none:=by rw[g1];simp
  have aSF:=Trans.refl w g;have aqy:cM (s.env w g β) ((s.bh id (.obj ver true (.mp kt vt l))).env w g β):=cM.bh g1 (ax _) aSF (λ_ _=>rfl) (λ_=>rfl)
  have i0:Inv C g β (s.bh id (.obj ver true (.mp kt vt l))) a w:=
   h.step (dd _ _ _) aSF aqy (iI.bh h.bJ gj aqy (λ_ _=>rfl) (λ_ _ _ _ _ _ _ _=>⟨rfl,rfl⟩) ⟨pl,es,clock,g2,g4,g5,⟨g6.mono aqy.mem,gn⟩,g7⟩ (PI g1))
  have cP:=eE s id (.obj ver true (.mp kt vt l)) gj;have hq':=adV (e:= .obj ver true (.mp kt vt l)) hq.2 gj;generalize aVV:s.bh id (.obj ver true (.mp kt vt l))=s0 at i0 cP hq' aqy;have GU:∀j,id≠ .new q j:=λj e=>by rw[e,(ke hq').1 j]at cP;cases cP
  have gB:pl.b < w.heap.size:=(bM.1 g4).1;have ht:=Trans.alloc w g (.mapIter (some pl.b) clock #[] clock) (.own (.id (.new q 0)) 0);obtain⟨h3,h4⟩:=i0.RP hq' (c:= .sJ id (ver+1) kt vt l none) (p:=some ⟨w.heap.size,0⟩) ht (λb hb=>⟨qO w _ hb,fk _ _ _ ak⟩) (λhE=>
   ⟨⟨w.heap.size,0⟩,pl.b,clock,#[],clock,jQ _ _ _,tw w _,fx _ _ _,λvr aoW=>by
    obtain rfl:ver=vr:=ak;have hb:(s0.env w g β).F8 id ver:=⟨by show s0.bR id≠none;rw[cP];simp,λv2 fr2 c2 h2=>by
     have h2:s0.bR id=some (.obj v2 fr2 c2):=h2;rw[cP]at h2;simp only[az,dE.obj.injEq]at h2;omega⟩
    refine⟨hE.F8 _ _ hb,λ_=>⟨⟨kt,vt,l,?_⟩,pl,es,clock,?_,rfl,?_,?_,λx hx=>g7.2 x hx,⟨ax _,ax _⟩,g7.1,?_,λx hx=>by cases hx⟩⟩
    ·show(s0.born q _).bR id=_;rw[iU _ GU];exact cP
    ·show Jn β (.new q 0) _ id=_;rw[Bc _ _ _ (GU 0)];exact g2
    ·exact(qO w _ gB).trans g4
    ·show nk g w.heap.size _ pl.b=_;rw[fk _ _ _ ak];exact g5
    ·have:es.toList.filter (λe=> !(#[]:Array Nat).contains e.born)=es.toList:=ji.2 λx _=>by simp
     rw[this];exact(g6.mono aqy.mem).mono hE.mem⟩)
  refine .inl ⟨.pointer (some ⟨w.heap.size,0,none⟩),w.alloc (.mapIter (some pl.b) clock #[] clock),?_,_,_,h3.put o.dst (v:= .ptr (.new q 0) 0 [] 0) ⟨[.pointer (some ⟨w.heap.size,0,none⟩)],?_,rfl⟩⟩
  ·refine dU (f:=Instr.range T (a.eval m)) (by simp only[execOp,de]) ?_
   rw[g3];exact run_range_map w T K V' pl.b es clock hT g4
  ·simp only[V];exact⟨_,rfl,pU hq' _ _ _ _,λ_=>⟨_,jQ _ _ _,rfl⟩⟩
 ·simp only[av]at he
theorem Y0(h:Inv C g β s a w){x:Operand}{t:avn}(ht:s.aD3 (s.ev x)=some t):
  s.bR t.i=some (.obj t.v t.fr (.sJ t.q (t.vr+1) t.kt t.vt t.rest t.cur))/\(∃k v l,s.bR t.q=some (.obj t.vr true (.mp k v l)))/\
  ∃pl plq since seen c0 es clock,a.eval x= .pointer (some ⟨pl.b,0,none⟩)/\β t.i=some pl/\w.heap[pl.b]? =some (.mapIter (some plq.b) since seen c0)/\g pl.b= .own (.id t.i) 0/\
   β t.q=some plq/\w.heap[plq.b]? =some (.map es clock)/\g plq.b= .own (.id t.q) 0/\(∀x∈es.toList,x.born < since)/\(since<=c0/\since<=clock)/\(es.toList.map (·.born)).Nodup/\
   agq (s.env w g β) t.kt t.vt (es.toList.filter λe=> !seen.contains e.born) t.rest/\
   ∀x,t.cur=some x->∃(e:MapEntry) (seen':Array Nat),e∈es.toList/\seen=seen'.push e.born/\c0=clock/\Eg (s.env w g β) t.kt t.vt e x:=by
 have YM:=h.ev x;generalize s.ev x=y at ht YM;unfold AS.aD3 at ht;split at ht
 ·rename_i i ver;split at ht
  ·rename_i v fr q vr kt vt rest cur lN;split at ht
   ·rename_i hv hl;obtain rfl:=bl ht;have hv:v=ver:=by simpa using hv
    subst hv;have cP:=dZ lN;unfold AS.amm at hl;split at hl
    ·rename_i v2 k2 t2 l2 aSs;have hl:v2=vr:=by simpa using hl
     subst hl;have hq:=dZ aSs;refine⟨cP,⟨_,_,_,hq⟩,?_⟩;obtain⟨pl,mb,since,seen,c0,h1,h2,h3,h4⟩:=h.bJ i v fr _ cP;obtain⟨h5,h6⟩:=h4 v2 rfl;obtain⟨_,plq,es,clock,k1,k2,k3,k4,k5,k6,k7,k8,k9⟩:=h6 ⟨_,_,hq⟩;subst k2;obtain⟨ad,m1,m2,m3⟩:=vu YM;obtain⟨pl',m4,rfl⟩:=m3 ⟨_,_,cP⟩;have h1:β i=some pl:=h1;have m4:β i=some pl':=m4;rw[h1]at m4;obtain rfl:pl=pl':=by simpa using m4
     exact⟨pl,plq,since,seen,c0,es,clock,m1,h1,h2,h3,k1,k3,k4,k5,k6,k7,k8,k9⟩
    ·cases hl
   ·cases ht
  ·cases ht
 ·cases ht
theorem Eg.aVH{E:Env}{kt vt:Ty}{e:MapEntry}{x:kt.den×vt.den}(h:Eg E kt vt e x):VS E (.cons (.d kt x.1) (.cons (.d vt x.2) .nil)) (.tuple #[e.key,e.val]):=by obtain⟨⟨c1,a1,b1⟩,c2,a2,b2⟩:=h;refine⟨[e.key,e.val],rfl,?_⟩;simp only[VC];exact⟨_,_,c1,rfl,by simpa only[V]using a1,b1,_,_,c2,rfl,by simpa only[V]using a2,b2,rfl⟩
theorem Eg.aVI{E:Env}{kt vt:Ty}{e:MapEntry}{x:kt.den×vt.den}(h:Eg E kt vt e x):VS E (.cons (.d .bool true) (.cons (.d kt x.1) (.cons (.d vt x.2) .nil))) (.tuple #[.bool true,e.key,e.val]):=by obtain⟨⟨c1,a1,b1⟩,c2,a2,b2⟩:=h;refine⟨[.bool true,e.key,e.val],rfl,?_⟩;simp only[VC];exact⟨_,_,[.bool true],rfl,by simp only[V,cY],rfl,_,_,c1,rfl,by simpa only[V]using a1,b1,_,_,c2,rfl,by simpa only[V]using a2,b2,rfl⟩
theorem aqi(h:Inv C g β s a w){x:Operand}(de:o.op= .entry x){v:aB}(he:(aqh s (s.ev x)).eval=some v):fB P o a w (ik C (s.put o.dst v)):=by
 unfold aqh at he;split at he
 ·rename_i i v0 fr q vr kt vt rest c ht;obtain rfl:=ay.1 he;obtain⟨_,_,pl,plq,since,seen,c0,es,clock,m1,m2,m3,_,m5,m6,m7,_,_,m10,_,m12⟩:=Y0 h ht;obtain⟨e,seen',n1,rfl,rfl,n4⟩:=m12 c rfl;refine h.value n4.aVH (dU (f:=Instr.entry (a.eval x)) (by simp only[execOp,de]) ?_);rw[m1];exact run_entry_at w pl.b plq.b since seen' es _ e m3 m6 n1 m10
 ·simp only[av]at he
theorem heap_drew{w w1:World}(hw:w1=w\/w1=w.drew):w1.heap=w.heap/\w1.os=w.os/\w1.tape=w.tape/\(w1.output=w.output/\w.drawn<=w1.drawn):=by
 rcases hw with rfl | rfl
 ·exact⟨rfl,rfl,rfl,rfl,ax _⟩
 ·exact⟨rfl,rfl,rfl,rfl,ou _⟩
theorem Inv.aQI(h:Inv C g β s a w){i q:Id}{v vr:Nat}{fr:Bool}{kt vt:Ty}{rest:List (kt.den×vt.den)}{cur:Option (kt.den×vt.den)}(cP:s.bR i=some (.obj v fr (.sJ q (vr+1) kt vt rest cur)))
  {k2 v2:Ty} {l2:List (k2.den×v2.den)} (hq:s.bR q=some (.obj vr true (.mp k2 v2 l2))) {pl plq:Pl} {m0:Option Nat} {since0 c00:Nat} {seen0:Array Nat} (hp:β i=some pl) (hb:w.heap[pl.b]? =some (.mapIter m0 since0 seen0 c00)) (hg:g pl.b= .own (.id i) 0)
  {w1:World} (hw:w1=w\/w1=w.drew) {es:Array MapEntry} {clock since c0:Nat} {seen:Array Nat} (aVc:β q=some plq) (aNe:w.heap[plq.b]? =some (.map es clock)) (aUT:g plq.b= .own (.id q) 0)
  (h1:∀x∈es.toList,x.born < since) (h2:since<=c0/\since<=clock) (h3:(es.toList.map (·.born)).Nodup) {rest':List (kt.den×vt.den)} {cur':Option (kt.den×vt.den)} (h4:agq (s.env w g β) kt vt (es.toList.filter λe=> !seen.contains e.born) rest')
  (h5:∀x,cur'=some x->∃(e:MapEntry) (seen':Array Nat),e∈es.toList/\seen=seen'.push e.born/\c0=clock/\Eg (s.env w g β) kt vt e x):
  Inv C g β (s.bh i (.obj v fr (.sJ q (vr+1) kt vt rest' cur'))) a (Go.ChangeMaps.setBlock w1 pl.b (.mapIter (some plq.b) since seen c0))/\
   tq (s.env w g β) ((s.bh i (.obj v fr (.sJ q (vr+1) kt vt rest' cur'))).env (Go.ChangeMaps.setBlock w1 pl.b (.mapIter (some plq.b) since seen c0)) g β):=by
 obtain⟨d1,d2,d3,d4⟩:=heap_drew hw;have gB:pl.b < w.heap.size:=(bM.1 hb).1;have auc:(Go.ChangeMaps.setBlock w1 pl.b (.mapIter (some plq.b) since seen c0)).heap=w.heap.setIfInBounds pl.b (.mapIter (some plq.b) since seen c0):=by show w1.heap.setIfInBounds _ _=_;rw[d1]
 have aLU:(Go.ChangeMaps.setBlock w1 pl.b (.mapIter (some plq.b) since seen c0)).os=w.os/\(Go.ChangeMaps.setBlock w1 pl.b (.mapIter (some plq.b) since seen c0)).tape=w.tape/\((Go.ChangeMaps.setBlock w1 pl.b (.mapIter (some plq.b) since seen c0)).output=w.output/\w.drawn<=(Go.ChangeMaps.setBlock w1 pl.b (.mapIter (some plq.b) since seen c0)).drawn):=⟨d2,d3,d4⟩;generalize Go.ChangeMaps.setBlock w1 pl.b (.mapIter (some plq.b) since seen c0)=w' at auc aLU;have hother:∀b',b'≠pl.b->w'.heap[b']? =w.heap[b']? :=λb' gj=>by rw[auc,dR,if_neg (λe=>gj e.symm)]
 have kS:w'.heap[pl.b]? =some (.mapIter (some plq.b) since seen c0):=by rw[auc,dR,if_pos rfl,if_pos gB]
 have ht:Trans w w' g g:=by
  refine⟨aLU.1,aLU.2.1,aLU.2.2,by rw[auc];simp,λb' _=> ?_⟩;by_cases he:b'=pl.b
  ·subst he;rw[hg];exact⟨.inr ⟨i,0,rfl,ax _⟩,λ_ _ hh=>ak⟩
  ·rw[hother b' he];cases VW:g b' with
   |free=>exact⟨rfl,rfl⟩
   |own o' k=>cases o' with
    |ed=>exact⟨rfl,rfl⟩
    |id i'=>exact⟨.inr ⟨i',k,rfl,ax _⟩,λoff v _ hv=>by simpa only[World.cell?,hother b' he]using hv⟩
 have hle:cM (s.env w g β) ((s.bh i (.obj v fr (.sJ q (vr+1) kt vt rest' cur'))).env w' g β):=cM.bh cP (ax _) ht (λ_ _=>rfl) (λ_=>rfl);have aQi:q≠i:=λe=>by rw[e,cP]at hq;cases hq
 have aVb:plq.b≠pl.b:=λe=>by rw[e,hb]at aNe;cases aNe
 refine⟨h.step (dd _ _ _) ht hle (iI.bh h.bJ (by rw[cP];simp) hle (λ_ _=>rfl) (λi' ver' fr' c' pl2 hi YK ae1=>⟨hother _ (h.apart hg hi YK ae1),rfl⟩) ?_ (p9 cP λ_ _ _ e=>by cases e)),hle.mem⟩;refine⟨pl,plq.b,since,seen,c0,hp,kS,hg,λvr' aoW=> ?_⟩;obtain rfl:vr=vr':=ak;have alR:(s.env w g β).F8 q vr:=⟨by show s.bR q≠none;rw[hq];simp,λv3 fr3 c3 h3=>by
  have h3:s.bR q=some (.obj v3 fr3 c3):=h3;rw[hq]at h3;simp only[az,dE.obj.injEq]at h3;omega⟩
 refine⟨hle.F8 _ _ alR,λ_=>⟨⟨k2,v2,l2,?_⟩,plq,es,clock,aVc,rfl,(hother _ aVb).trans aNe,aUT,h1,h2,h3,h4.mono hle.mem,λx hx=> ?_⟩⟩
 ·show(s.bh i _).bR q=_;rw[cS s i q _ aQi];exact hq
 ·obtain⟨e,se,a1,a2,a3,a4⟩:=h5 x hx;exact⟨e,se,a1,a2,a3,a4.mono hle.mem⟩
theorem Inv.aLZ(h:Inv C g β s a w){i q:Id}{v ver ver':Nat}{fr:Bool}{kt vt:Ty}{rest rest':List (kt.den×vt.den)}{cur cur':Option (kt.den×vt.den)}(cP:s.bR i=some (.obj v fr (.sJ q ver kt vt rest cur)))
  (hk:ver'=0\/(ver'=ver/\rest'=rest/\cur'=none)):Inv C g β (s.bh i (.obj v fr (.sJ q ver' kt vt rest' cur'))) a w:=by
 have ht:=Trans.refl w g;have hle:cM (s.env w g β) ((s.bh i (.obj v fr (.sJ q ver' kt vt rest' cur'))).env w g β):=cM.bh cP (ax _) ht (λ_ _=>rfl) (λ_=>rfl);refine h.step (dd _ _ _) ht hle (iI.bh h.bJ (by rw[cP];simp) hle (λ_ _=>rfl) (λ_ _ _ _ _ _ _ _=>⟨rfl,rfl⟩) ?_ (p9 cP λ_ _ _ e=>by cases e));obtain⟨pl,mb,since,seen,c0,h1,h2,h3,h4⟩:=h.bJ i v fr _ cP;refine⟨pl,mb,since,seen,c0,h1,h2,h3,λvr aoW=> ?_⟩;rcases hk with hk | ⟨rfl,rfl,rfl⟩
 ·omega
 ·obtain⟨h5,h6⟩:=h4 vr aoW;refine⟨hle.F8 _ _ h5,λhc=> ?_⟩;obtain⟨c1,_⟩:=hle.cur _ _ h5 hc;obtain⟨⟨k,v1,l,hq⟩,plq,es,clock,k1,k2,k3,k4,k5,k6,k7,k8,_⟩:=h6 c1;have aQi:q≠i:=λe=>by have hq:s.bR q=_:=hq;rw[e,cP]at hq;cases hq
  exact⟨⟨k,v1,l,by show(s.bh i _).bR q=_;rw[cS s i q _ aQi];exact hq⟩,plq,es,clock,k1,k2,k3,k4,k5,k6,k7,k8.mono hle.mem,λx hx=>by cases hx⟩
theorem arV{s:AS}{q i:Id}{e:dE}(h:s.aaA q=false)(hi:s.bR i=some e):e.aD4 q=false:=by
 unfold AS.aaA at h;rw[Bool.or_eq_false_iff]at h;cases i with
 |bj k=>simpa using jb.1 h.1 _ (cI hi)
 |new a b=>
  have hi:(s.news.getD a [])[b]? =some e:=hi
  by_cases ha:a < s.news.length
  ·have h2:(s.news.getD a []).any (dE.aD4 q)=false:=by simpa using jb.1 h.2 (s.news.getD a []) (by simp[aF,bP ha])
   simpa using jb.1 h2 _ (cI hi)
  ·simp[aF,dG (Nat.le_of_not_lt ha)]at hi
theorem Inv.unlock(h:Inv C g β s a w){q:Id}{vr:Nat}{k v:Ty}{l:List (k.den×v.den)}(cP:s.bR q=some (.obj vr true (.mp k v l)))(hr:s.aaA q=false):Inv C g β (s.bh q (.obj vr false (.mp k v l))) a w:=by
 have ht:=Trans.refl w g;have hle:cM (s.env w g β) ((s.bh q (.obj vr false (.mp k v l))).env w g β):=cM.bh cP (ax _) ht (λ_ _=>rfl) (λ_=>rfl);refine h.step (dd _ _ _) ht hle λi ver fr c hi=> ?_
 have hi:(s.bh q (.obj vr false (.mp k v l))).bR i=some (.obj ver fr c):=hi;by_cases aTW:i=q
 ·subst aTW;rw[eE s i _ (by rw[cP];simp)]at hi;simp only[az,dE.obj.injEq]at hi;obtain⟨rfl,rfl,rfl⟩:=hi;obtain⟨pl,es,clock,h1,h2,h3,h4,h5⟩:=h.bJ i vr true _ cP;exact⟨pl,es,clock,h1,h2,h3,⟨h4.1.mono hle.mem,h4.2⟩,h5⟩
 ·rw[cS s q i _ aTW]at hi;refine(h.bJ i ver fr c hi).aL6 hle rfl (λ_ _=>⟨rfl,rfl⟩) λq2 v2 k2 v3 l2 hc Sf _=>⟨⟨k2,v3,l2,?_⟩,λ_ _=>⟨rfl,rfl⟩⟩
  obtain⟨kt,vt,rest,cu,rfl⟩:=hc;have hn:=arV hr hi;have gj:q2≠q:=λe=>by simp[dE.aD4,e]at hn
  show(s.bh q _).bR q2=_;rw[cS s q q2 _ gj];exact Sf
theorem aqS{es:List MapEntry}{seen:Array Nat}(hn:(es.map (·.born)).Nodup){j:Nat}{e:MapEntry}(hj:(es.filter λe=> !seen.contains e.born)[j]? =some e):
  es.filter (λx=> !(seen.push e.born).contains x.born)=(es.filter λe=> !seen.contains e.born).eraseIdx j:=by
 have h1:es.filter (λx=> !(seen.push e.born).contains x.born)=(es.filter λe=> !seen.contains e.born).filter λx=>x.born !=e.born:=by
  rw[List.filter_filter];refine List.filter_congr λx _=> ?_
  rw[contains_push];cases seen.contains x.born <;> cases hb:x.born==e.born <;> simp[bne,hb]
 rw[h1];have aHS:((es.filter λe=> !seen.contains e.born).map (·.born)).Nodup:=hn.sublist (List.filter_sublist.map _);generalize es.filter (λe=> !seen.contains e.born)=L at hj aHS
 induction L generalizing j with
 |nil=>simp at hj
 |cons x L ih=>
  rw[bU,c9]at aHS;cases j with
  |zero=>
   simp only[fH,az]at hj;subst hj;have:L.filter (λy=>y.born !=x.born)=L:=ji.2 λy hy=>by
    have:y.born≠x.born:=λe=>aHS.1 (e▸db.2 ⟨y,hy,rfl⟩)
    simpa using this
   simp[this]
  |succ j=>
   have hj:L[j]? =some e:=by simpa using hj
   have hx:(x.born !=e.born)=true:=by
    have:x.born≠e.born:=λh=>aHS.1 (h▸db.2 ⟨e,cI hj,rfl⟩)
    simpa using this
   rw[List.filter_cons,hx,List.eraseIdx_cons_succ];simp only[bH];rw[ih hj aHS.2]
theorem ax2(h:Inv C g β s a w){x:Operand}(de:o.op= .next x false){t:avn}(ht:s.aD3 (s.ev x)=some t){R:Type}{k:AS->Option R}{r:R}(he:aEN s o.dst t k=some r):
  fB P o a w λa' w'=>∃s',ik C s' a' w'/\k s'=some r:=by
 obtain⟨hi,⟨k2,v2,l2,hq⟩,pl,plq,since,seen,c0,es,clock,m1,m2,m3,m4,m5,m6,m7,m8,m9,m10,m11,_⟩:=Y0 h ht;have hex:∀ {y:Value} {w':World},(Instr.next (a.eval x) false o.type).run P w= .ok y w'->(execOp a.eval o).run P w= .ok (.value y) w':=λhr=>
  dU (f:=Instr.next (a.eval x) false o.type) (by simp only[execOp,de]) hr
 have WK:(leftOf es seen).toList=es.toList.filter λe=> !seen.contains e.born:=by unfold leftOf;rw[Array.toList_filter]
 obtain⟨l',m11,alU⟩:=m11;have hlen:=m11.len;rw[alU.length_eq]at hlen;rw[<-WK,cJ]at hlen;unfold aEN at he;rcases run_next_at (P:=P) w o.type pl.b plq.b since c0 seen es clock m3 m6 m8 m9.1 with⟨h0,pV⟩ | ⟨e,aOX,w1,hw,pV⟩
 ·rcases QF he with⟨hc,_⟩ | ⟨_,he⟩
  ·have:0 < t.rest.length:=by simpa using hc
   omega
  ·unfold AS.aKn at he;have i1:=h.aLZ (rest':=[]) (cur':=none) hi (.inl rfl);have aQi:t.q≠t.i:=λe=>by rw[e,hi]at hq;simp at hq
   have aO3:(s.bh t.i (.obj t.v t.fr (.sJ t.q 0 t.kt t.vt [] none))).bR t.q=some (.obj t.vr true (.mp k2 v2 l2)):=by rw[cS s t.i t.q _ aQi];exact hq
   generalize s.bh t.i (.obj t.v t.fr (.sJ t.q 0 t.kt t.vt [] none))=s1 at he i1 aO3;cases hr:s1.aaA t.q with
   |true=>rw[hr]at he;cases he
   |false=>
    rw[hr]at he;simp only at he;have aVk:s1.unlock t.q=s1.bh t.q (.obj t.vr false (.mp k2 v2 l2)):=by simp only[AS.unlock,AS.obj,aO3]
    rw[aVk]at he;rw[<-m1]at pV;refine .inl ⟨_,w,hex pV,_,⟨g,β,(i1.unlock aO3 hr).put o.dst (v:= .cons (.d .bool false) .nil) ⟨[.bool false],rfl,?_⟩⟩,he⟩;simp only[VC];exact⟨_,_,[.bool false],rfl,by simp only[V,cY],rfl,rfl⟩
 ·rcases QF he with⟨hc,he⟩ | ⟨hc,_⟩
  ·obtain⟨_,hd⟩:=aCU he;rw[WK]at aOX;obtain⟨i,aDx⟩:=List.getElem?_of_mem aOX;obtain⟨y,aQs,aO7⟩:=m11.get aDx;obtain⟨j,hj⟩:=List.getElem?_of_mem (alU.mem_iff.1 (cI aQs));have aNp:j < t.rest.length:=(dF.1 hj).1;have hy:y6 t.kt t.vt t.rest j=y:=by simp[y6,aF,hj]
   have CG:e∈es.toList:=(nu.1 aOX).1;have i1:=h.aQI (rest':=t.rest.eraseIdx j) (cur':=some (y6 t.kt t.vt t.rest j)) (since:=since) (c0:=clock) (seen:=seen.push e.born) hi hq m2 m3 m4 hw m5 m6 m7 m8 ⟨m9.2,m9.2⟩ m10 ?_ ?_
   rotate_left
   ·rw[aqS m10 aDx];exact⟨_,m11.erase i,art alU aQs hj⟩
   ·intro z hz;obtain rfl:=bl hz;exact⟨e,seen,CG,rfl,rfl,by rw[hy];exact aO7⟩
   rw[<-m1]at pV;have hVS:=(hy▸aO7:Eg (s.env w g β) t.kt t.vt e (y6 t.kt t.vt t.rest j));refine .inl ⟨_,_,hex pV,_,⟨g,β,i1.1.put o.dst (v:= .cons (.d .bool true) (.cons (.d t.kt (y6 t.kt t.vt t.rest j).1) (.cons (.d t.vt (y6 t.kt t.vt t.rest j).2) .nil))) ?_⟩,hd j aNp⟩;exact Eg.aVI (hVS.mono i1.2)
  ·have hc:¬0 < t.rest.length:=by simpa using hc
   have:0 < (leftOf es seen).toList.length:=List.length_pos_of_mem aOX;rw[cJ]at this;omega
theorem aw5{Γ:ot}(hΓ:Sound P Γ){bJ:List Nat}{ops:Array Oper}{R:Type}{k:AS->Option R}{r:R}(h:ik C s a w)(he:aJl P Γ bJ ops o s k=some r):
  qN P ops o a w λa' w'=>∃s',ik C s' a' w'/\k s'=some r:=by
 have plain:aJk P Γ bJ ops o s k=some r->qN P ops o a w λa' w'=>∃s',ik C s' a' w'/\k s'=some r:=λhe=>by obtain⟨s1,h1,h2⟩:=alM he;exact(aeV hΓ h h1).mono λa' w' hs=>⟨s1,hs,h2⟩
 have stepK:∀(hg:o.guard=none),(fB P o a w λa' w'=>∃s',ik C s' a' w'/\k s'=some r)->qN P ops o a w λa' w'=>∃s',ik C s' a' w'/\k s'=some r:=λhg hr=>by
  unfold qN;have:Region.wanted o (yielded ops a.tmps)=true:=by simp[Region.wanted,hg]
  rw[if_pos this];exact hr
 have step:∀(hg:o.guard=none) (b:Bool),fB P o a w (ik C (s.put o.dst (.d .bool b)))->k (s.put o.dst (.d .bool b))=some r->qN P ops o a w λa' w'=>∃s',ik C s' a' w'/\k s'=some r:=λhg b hr hk=>by
  unfold qN;have:Region.wanted o (yielded ops a.tmps)=true:=by simp[Region.wanted,hg]
  rw[if_pos this];exact hr.mono λa' w' hs=>⟨_,hs,hk⟩
 unfold aJl at he;split at he
 ·rename_i T x y U hg ho;split at he
  ·rename_i n hn hT;obtain⟨g,β,hi⟩:=h;obtain⟨b,hb,hr⟩:=(PV (o:=o) (U:=U) hi hn hT).1 ho;refine step hg b hr ?_
   rcases QF he with⟨hc,hk⟩ | ⟨_,hk⟩
   ·rw[hb (by simpa using hc)];exact hk
   ·obtain⟨k1,k2⟩:=auz hk;cases b
    ·exact k2
    ·exact k1
  ·exact plain he
 ·rename_i T x y U hg ho;split at he
  ·rename_i n hn hT;obtain⟨g,β,hi⟩:=h;obtain⟨b,hb,hr⟩:=(PV (o:=o) (U:=U) hi hn hT).2 ho;refine step hg b hr ?_
   rcases QF he with⟨hc,hk⟩ | ⟨_,hk⟩
   ·rw[hb (by simpa using hc)];exact hk
   ·obtain⟨k1,k2⟩:=auz hk;cases b
    ·exact k2
    ·exact k1
  ·exact plain he
 ·rename_i T m hg ho;obtain⟨s1,h1,h2⟩:=ij.1 he;obtain⟨g,β,hi⟩:=h;exact stepK hg ((arU hi ho h1).mono λ_ _ hs=>⟨_,hs,h2⟩)
 ·rename_i x hg ho;obtain⟨s1,h1,h2⟩:=ij.1 he;obtain⟨v,h3,h4⟩:=aw.1 h1;obtain rfl:=ay.1 h4;obtain⟨g,β,hi⟩:=h;exact stepK hg ((aqi hi ho h3).mono λ_ _ hs=>⟨_,hs,h2⟩)
 ·rename_i x hg ho;split at he
  ·rename_i t ht;obtain⟨g,β,hi⟩:=h;exact stepK hg (ax2 hi ho ht he)
  ·cases he
 ·rename_i c hg ho;split at he
  ·rename_i F hc;split at he
   ·rename_i id ver rc f hF;split at he
    ·rename_i en aqv;obtain⟨aRl,he⟩:=azp he;obtain⟨s1,h1,h2⟩:=ij.1 he;obtain⟨g,β,hi⟩:=h;exact stepK hg ((atl hi ho hc hF aRl (hΓ _ _ en aqv) h1).mono λ_ _ hs=>⟨_,hs,h2⟩)
    ·cases he
   ·split at he
    ·rename_i en vs hr;unfold aMe at hr;split at hr;rotate_left
     ·cases hr
     rename_i f caps hF;split at hr;rotate_left
     ·cases hr
     rename_i en' aqv;split at hr;rotate_left
     ·cases hr
     rename_i aDv;rw[au]at aDv;simp only[az,cC]at hr;obtain⟨rfl,rfl⟩:=hr;obtain⟨g,β,hi⟩:=h;exact stepK hg (apJ hi ho hc hF ((hΓ _ _ _ aqv).2.2 aDv.2) he)
    ·exact plain he
  ·exact plain he
 ·exact plain he
theorem Un{rd:Option Nat}{n:Nat}{Γ:ot}(hΓ:Sound P Γ){bJ:List Nat}{ops:Array Oper}{R:Type}{Q:Exit->Act->World->Prop}:∀(l:List Oper) {s:AS} {a:Act} {w:World} {k:AS->Option R} {r:R},ik C s a w->aJm P Γ bJ ops l s k=some r->
  (∀s' a' w',ik C s' a' w'->k s'=some r->Q .normal a' w')->wpListIn (Fr rd) n P ops Q l a w
 |[],s,a,w,k,r,h,he,hk=>hk s a w h he
 |o::l,s,a,w,k,r,h,he,hk=>by have he:aJl P Γ bJ ops o s (λs'=>s'.seen λs'=>aJm P Γ bJ ops l s' k)=some r:=he;simp only[AS.QE]at he;exact((aw5 hΓ h he).mono λa' w' ⟨s',hs,h2⟩=>Un hΓ l hs h2 hk).wpListIn
end
end Go.Ab
namespace Go.Ab
theorem AS.aC7{s t:AS}(h1:s.cm=t.cm)(h2:s.news.length=t.news.length)(h3:∀id,s.bR id=t.bR id):s=t:=by
 obtain⟨a,b,c⟩:=s;obtain⟨a',b',c'⟩:=t;simp only at h1 h2;subst h1;have hb:b=b':=kF λk=>h3 (.bj k)
 subst hb;have hc:c=c':=by apply List.ext_getElem h2;intro i h h';apply kF;intro j;have:=h3 (.new i j);simpa[AS.bR,aF,h,h']using this
 rw[hc]
def dE.ajX:dE->dE->Prop
 | .obj v _ c,.obj v' _ c'=>v=v'/\c=c'
 | .dead,.dead=>True
 |_,_=>False
def zo:Option dE->Option dE->Prop
 |some a,some b=>a.ajX b
 |none,none=>True
 |_,_=>False
def dE.at6:dE->dE
 | .obj v _ c=> .obj v true c
 | .dead=> .dead
theorem dE.aGq(a:dE):a.ajX a:=by cases a <;> simp[dE.ajX]
theorem azs(a:Option dE):zo a a:=by cases a <;> simp[zo,dE.aGq]
theorem azr(a:Option dE):zo (a.map dE.at6) a:=by
 cases a with
 |none=>trivial
 |some x=>cases x <;> simp[zo,dE.ajX,dE.at6]
theorem dE.aJi(a:dE):a.at6.at6=a.at6:=by cases a <;> rfl
structure mr(f:G5)(s t:AS):Prop where
 cm:∀i∈f.cm,t.slot i=s.slot i
 ws:∀id∈f.ws,t.bR id=s.bR id
 rs:∀id∈f.rs,zo (t.bR id) (s.bR id)
 dX:∀q,f.dst=some q->t.dX q=s.dX q
structure aOF where
 v:aB
 up:Id->Option dE
 fz:List Id
structure App(d:Option Tmp)(E:aOF)(s s':AS):Prop where
 cm:s'.cm=(s.put d E.v).cm
 len:s'.news.length=s.news.length
 bR:∀id,s'.bR id=match E.up id with | some e=>some e | none=>if id∈E.fz then(s.bR id).map dE.at6 else s.bR id
theorem App.aMT{d:Option Tmp}{E:aOF}{s s1 s2:AS}(h1:App d E s s1)(h2:App d E s s2):s1=s2:=
 AS.aC7 (by rw[h1.cm,h2.cm]) (by rw[h1.len,h2.len]) λid=>by rw[h1.bR,h2.bR]
structure agu(f:G5)(s:AS)(E:aOF):Prop where
 up:∀id e,E.up id=some e->(id∈f.ws/\s.bR id≠none)\/∃q j,f.dst=some q/\id= .new q j
 fz:∀id∈E.fz,id∈f.rs
theorem M4(s:AS)(id:Id)(e:dE):(s.bh id e).news.length=s.news.length:=by cases id <;> simp[AS.bh]
theorem acN(s:AS)(id i:Id):(s.freeze id).bR i=if i=id then(s.bR i).map dE.at6 else s.bR i:=by
 unfold AS.freeze;cases hs:s.bR id with
 |none=>
  by_cases hi:i=id
  ·subst hi;simp[hs]
  ·simp[hi]
 |some e=>
  cases e with
  |dead=>
   by_cases hi:i=id
   ·subst hi;simp[hs,dE.at6]
   ·simp[hi]
  |obj v fr c=>
   simp only;by_cases hi:i=id
   ·subst hi;rw[eE s i _ (by rw[hs];simp)];simp[hs,dE.at6]
   ·rw[cS s id i _ hi];simp[hi]
theorem fv(i:Id):∀(ids:List Id) (s:AS),(s.bw ids).bR i=if i∈ids then(s.bR i).map dE.at6 else s.bR i
 |[],s=>by simp[AS.bw]
 |id::ids,s=>by
  rw[AS.bw,fv i ids,acN];by_cases h1:i=id
  ·subst h1;by_cases h2:i∈ids
   ·simp[h2,Option.map_map,Function.comp_def,dE.aJi]
   ·simp[h2]
  ·simp[h1]
theorem aqT(s:AS)(id:Id):(s.freeze id).news.length=s.news.length:=by
 unfold AS.freeze;split
 ·exact M4 _ _ _
 ·rfl
theorem qS:∀(ids:List Id) (s:AS),(s.bw ids).news.length=s.news.length
 |[],_=>rfl
 |id::ids,s=>by rw[AS.bw,qS ids,aqT]
theorem Bd{s:AS}{q:Nat}:s.dX q=true↔q < s.news.length/\∀j,s.bR (.new q j)=none:=by
 refine⟨λh=>⟨(ke h).2,(ke h).1⟩,λ⟨h1,h2⟩=> ?_⟩;unfold AS.dX;rw[bP h1];have h0:=h2 0;simp only[AS.bR,aF,bP h1,dN]at h0;cases hh:s.news[q]with
 |nil=>rfl
 |cons x xs=>rw[hh]at h0;simp at h0
theorem App.Sc(d:Option Tmp)(v:aB)(ids:List Id)(s:AS):App d ⟨v,λ_=>none,ids⟩ s ((s.bw ids).put d v):=by
 refine⟨?_,?_,λid=> ?_⟩
 ·cases d <;> simp[AS.put,nH]
 ·cases d <;> simp[AS.put,qS]
 ·rw[JC,fv]
theorem App.JP(d:Option Tmp)(v:aB)(s:AS):App d ⟨v,λ_=>none,[]⟩ s (s.put d v):=App.Sc d v [] s
def RQ(q:Nat)(es:List dE):Id->Option dE
 | .new i j=>if i=q then es[j]? else none
 | .bj _=>none
theorem aC2(s:AS){q:Nat}(hq:q < s.news.length)(es:List dE)(id:Id):(s.born q es).bR id=match id with | .new i j=>if i=q then es[j]? else s.bR (.new i j) | .bj k=>s.bR (.bj k):=by
 cases id with
 |bj k=>rfl
 |new i j=>
  simp only;by_cases h:i=q
  ·subst h;rw[if_pos rfl];exact yK hq _ j
  ·rw[if_neg h];exact iU _ λj' e=>by simp only[Id.new.injEq]at e;exact h e.1
theorem App.atH{s:AS}{q:Nat}(hv:s.dX q=true)(v:aB)(ids:List Id)(es:List dE):App (some q) ⟨v,RQ q es,ids⟩ s (((s.bw ids).born q es).put (some q) v):=by
 obtain⟨h1,h2⟩:=Bd.1 hv;refine⟨?_,?_,λid=> ?_⟩
 ·simp[AS.put,nH]
 ·simp[AS.put,AS.born,qS]
 ·rw[JC,aC2 _ (by rw[qS];exact h1)];cases id with
  |bj k=>simp only[RQ];exact fv _ _ _
  |new i j=>
   simp only[RQ];by_cases h:i=q
   ·subst h;rw[if_pos rfl];cases he:es[j]? with
    |none=>simp[h2]
    |some e=>simp
   ·rw[if_neg h];simp only[if_neg h];exact fv _ _ _
theorem App.aGh{s:AS}{id:Id}{e0:dE}(hs:s.bR id=some e0)(d:Option Tmp)(v:aB)(e:dE):App d ⟨v,λi=>if i=id then some e else none,[]⟩ s ((s.bh id e).put d v):=by
 refine⟨?_,?_,λi=> ?_⟩
 ·cases d <;> simp[AS.put]
 ·cases d <;> simp[AS.put,M4]
 ·rw[JC];by_cases hi:i=id
  ·subst hi;rw[eE s i _ (by rw[hs];simp)];simp
  ·rw[cS s id i _ hi];simp[hi]
section
variable {P:Program} {Γ:ot} {bJ:List Nat} {ops:Array Oper} {o:Oper} {s t:AS}
def N5(P:Program)(Γ:ot)(bJ:List Nat)(ops:Array Oper)(o:Oper)(s s':AS):Prop:=∃E,App o.dst E s s'/\agu (gK Γ ops s o) s E/\∀t,mr (gK Γ ops s o) s t->∃t',(qD P Γ bJ o t).eval=some t'/\App o.dst E t t'
theorem UK{xs:Array Operand}{i:Nat}(h:Operand.tmp i∈xs.toList):i∈WY xs:=by unfold WY;exact List.mem_filterMap.2 ⟨_,h,rfl⟩
theorem mr.ev(h:mr (gK Γ ops s o) s t){x:Operand}(hx:x∈o.op.operands.toList):t.ev x=s.ev x:=by
 cases x with
 |tmp i=>exact h.cm i (bE.2 (.inl (UK hx)))
 |_=>rfl
theorem amM(v:Value):(ofConst v).ids=[]:=by unfold ofConst;split <;> rfl
theorem afq{o:Oper}{x:Op}(h:o.op=x)(hx:afd x=false):afd o.op=false:=by rw[h];exact hx
theorem MX(hn:afd o.op=false){x:Operand}(hx:x∈o.op.operands.toList){id:Id}(cT:id∈(s.ev x).ids):id∈(gK Γ ops s o).rs:=by
 refine bE.2 (.inl ?_);unfold amO;rw[hn];cases x with
 |tmp i=>exact pM.2 ⟨i,UK hx,cT⟩
 |const v=>simp[AS.ev,amM]at cT
 |global _=>simp[AS.ev,aB.ids]at cT
 |func f=>simp[AS.ev,aB.ids]at cT
theorem mr.ajX(h:mr (gK Γ ops s o) s t)(hn:afd o.op=false){x:Operand}(hx:x∈o.op.operands.toList){id:Id}(cT:id∈(s.ev x).ids):zo (t.bR id) (s.bR id):=h.rs id (MX hn hx cT)
theorem QJ{id:Id}(h:zo (t.bR id) (s.bR id)):(t.obj id=none/\s.obj id=none)\/∃v f f' c,t.obj id=some (v,f,c)/\s.obj id=some (v,f',c):=by
 unfold AS.obj
 revert h
 cases t.bR id with
 |none=>cases s.bR id with
  |none=>intro _;simp
  |some b=>intro h;exact h.elim
 |some a=>cases s.bR id with
  |none=>intro h;exact h.elim
  |some b=>cases a <;> cases b <;> intro h <;> first
    |exact h.elim
    | (left;exact⟨rfl,rfl⟩)
    | (obtain⟨rfl,rfl⟩:=h;right;exact⟨_,_,_,_,rfl,rfl⟩)
theorem S9{id:Id}(h:zo (t.bR id) (s.bR id))(ver:Nat)(p:List J8):t.row id ver p=s.row id ver p:=by unfold AS.row;rcases QJ h with⟨h1,h2⟩ | ⟨v,f,f',c,h1,h2⟩ <;> rw[h1,h2]
theorem pv:∀(v:aB) (ty:Ty),(∀id∈v.ids,zo (t.bR id) (s.bR id))->t.iY ty v=s.iY ty v
 | .bz id ver p c i len,ty,h=>by
  cases ty <;> first
   |rfl
   | (simp only[AS.iY];rw[S9 (h id (by simp[aB.ids]))])
 | .pr a b,ty,h=>by
  cases ty <;> first
   |rfl
   | (simp only[AS.iY];rw[pv a _ λid cT=>h id (by simp[aB.ids,cT]),pv b _ λid cT=>h id (by simp[aB.ids,cT])])
 | .undef,ty,_ | .gone,ty,_ | .cX,ty,_ | .qE,ty,_ | .xe,ty,_ | .CM,ty,_ | .d _ _,ty,_ | .ptr ..,ty,_ | .dO ..,ty,_ | .fn ..,ty,_ | .cons ..,ty,_ | .nil,ty,_ | .vec ..,ty,_ | .bx ..,ty,_ | .cq ..,ty,_ | .mp ..,ty,_ | .sJ ..,ty,_ | .yl ..,ty,_ | .qZ ..,ty,_ | .sb _,ty,_=>by cases ty <;> simp only[AS.iY]
theorem vH:∀(v:aB),∀id∈v.shared,id∈v.ids
 | .bz ..,id,h=>by simpa[aB.shared,aB.ids]using h
 | .pr a b,id,h=>by
  simp only[aB.shared,bE,aB.ids]at h ⊢;rcases h with h | h
  ·exact .inl (vH a id h)
  ·exact .inr (vH b id h)
 | .undef,_,h | .gone,_,h | .cX,_,h | .qE,_,h | .xe,_,h | .CM,_,h | .d _ _,_,h | .ptr ..,_,h | .dO ..,_,h | .fn ..,_,h | .cons ..,_,h | .nil,_,h | .vec ..,_,h | .bx ..,_,h | .cq ..,_,h | .mp ..,_,h | .sJ ..,_,h | .yl ..,_,h | .qZ ..,_,h | .sb _,_,h=>by simp[aB.shared]at h
theorem aml{T:TypeId}{x:aB}(h:∀id∈x.ids,zo (t.bR id) (s.bR id)):PJ P t T x=PJ P s T x:=by
 unfold PJ;split
 ·rename_i id ver p n;rcases QJ (h id (by simp[aB.ids])) with⟨h1,h2⟩ | ⟨v,f,f',c,h1,h2⟩ <;> rw[h1,h2]
 ·rfl
 ·rfl
 ·rfl
theorem agH{n:Nat}{lo hi:Option Operand}(hl:∀x,lo=some x->t.ev x=s.ev x)(hh:∀x,hi=some x->t.ev x=s.ev x):bounds t n lo hi=bounds s n lo hi:=by
 unfold bounds
 cases lo <;> cases hi <;> simp only[] <;> first
  |rfl
  | (rw[hl _ rfl,hh _ rfl])
  |rw[hl _ rfl]
  |rw[hh _ rfl]
theorem QN{T:TypeId}{x:aB}{lo hi:Option Operand}(h:∀id∈x.ids,zo (t.bR id) (s.bR id))(hl:∀x,lo=some x->t.ev x=s.ev x)(hh:∀x,hi=some x->t.ev x=s.ev x):
  IT P t T x lo hi=IT P s T x lo hi:=by
 have hb:∀n,bounds t n lo hi=bounds s n lo hi:=λn=>agH hl hh
 unfold IT
 split <;> first
  |rfl
  | (rw[S9 (h _ (by simp[aB.ids]))];simp only[hb];done)
  | (simp only[hb];done)
theorem adB{T:TypeId}{x:aB}{lo:Option Operand}{y m:Operand}(h:∀id∈x.ids,zo (t.bR id) (s.bR id))(hl:∀x,lo=some x->t.ev x=s.ev x)(hh:t.ev y=s.ev y)(hm:t.ev m=s.ev m):
  QM P t T x lo y m=QM P s T x lo y m:=by
 unfold QM;rw[hh,hm,QN h hl λz hz=>by obtain rfl:=bl hz;exact hh]
theorem Sq{T:TypeId}{x:aB}{i:Int}(h:∀id∈x.ids,zo (t.bR id) (s.bR id)):sa P t T x i=sa P s T x i:=by
 unfold sa
 split <;> first
  |rfl
  |rw[S9 (h _ (by simp[aB.ids]))]
theorem akY{obj:Bool}{src dst:TypeId}{x:aB}(h:∀id∈x.ids,zo (t.bR id) (s.bR id)):aeA P t obj src dst x=aeA P s obj src dst x:=by
 unfold aeA;split
 ·rfl
 ·unfold aCt
  split <;> first
   |rfl
   | (simp only[AS.arp,pv _ _ h])
theorem awP{T:TypeId}{op:BinOp}{i:Id}{v:Nat}{j:Id}{w:Nat}(h:zo (t.bR i) (s.bR i)):aOR P t T op i v j w=aOR P s T op i v j w:=by unfold aOR;rcases QJ h with⟨h1,h2⟩ | ⟨v,f,f',c,h1,h2⟩ <;> rw[h1,h2]
theorem ak0{src dst:TypeId}{id:Id}{ver:Nat}(h:zo (t.bR id) (s.bR id)):aeB P t src dst id ver=aeB P s src dst id ver:=by
 unfold aeB;rcases QJ h with⟨h1,h2⟩ | ⟨v,f,f',c,h1,h2⟩
 ·rw[h1,h2]
 ·rw[h1,h2]
  cases c <;> first
   |rfl
   | (rename_i e z c;cases z <;> rfl)
theorem A2{ty:Ty}:∀(ps:List (Nat×Operand)) (l:List ty.den),(∀x∈ps,t.ev x.2=s.ev x.2/\∀id∈(s.ev x.2).ids,zo (t.bR id) (s.bR id))->jl ty t ps l=jl ty s ps l
 |[],_,_=>rfl
 | (i,x)::ps,l,h=>by obtain⟨h1,h2⟩:=h (i,x) (aO ..);simp only[jl];simp only at h1 h2;rw[h1,pv _ _ h2];congr 2;funext y;rw[A2 ps _ λz hz=>h z (aJ _ hz)]
theorem xH{ty:Ty}:∀(ps:List (Nat×Operand)) (l:List ty.den) (r:List ty.den×List Id),(jl ty s ps l).eval=some r->∀id∈r.2,∃x∈ps,id∈(s.ev x.2).ids
 |[],l,r,h,id,cT=>by obtain rfl:=ay.1 h;cases cT
 | (i,x)::ps,l,r,h,id,cT=>by
  simp only[jl]at h;obtain⟨h1,h2⟩:=aC.1 h;obtain⟨y,h3,h4⟩:=aw.1 h2;obtain⟨r',h5,h6⟩:=aw.1 h4;obtain rfl:=ay.1 h6;rcases bE.1 cT with cT | cT
  ·exact⟨(i,x),aO ..,vH _ _ cT⟩
  ·obtain⟨z,hz,Sn⟩:=xH ps _ r' h5 id cT;exact⟨z,aJ _ hz,Sn⟩
theorem Gv{fs:Array Field}:∀(ps:List (Nat×Operand)) (v:aB),(∀x∈ps,t.ev x.2=s.ev x.2)->qm P fs t ps v=qm P fs s ps v
 |[],_,_=>rfl
 | (i,x)::ps,v,h=>by
  have h1:=h (i,x) (aO ..);simp only at h1;simp only[qm,h1];have ih:∀v,qm P fs t ps v=qm P fs s ps v:=λv=>Gv ps v λz hz=>h z (aJ _ hz)
  simp only[ih]
theorem Oy:∀(l:List Operand),(∀x∈l,t.ev x=s.ev x)->rT t l=rT s l
 |[],_=>rfl
 |x::l,h=>by simp only[rT];rw[h x (aO ..),Oy l λy hy=>h y (aJ _ hy)]
theorem UO{ty:Ty}{X:TypeId}{x:aB}(h:∀id∈x.ids,zo (t.bR id) (s.bR id)):HY P t ty X x=HY P s ty X x:=by
 unfold HY;split
 ·rfl
 ·simp only[AS.arp,pv _ _ h]
theorem lS{v:aB}(h:∀t,mr (gK Γ ops s o) s t->(qD P Γ bJ o t).eval=some (t.put o.dst v)):N5 P Γ bJ ops o s (s.put o.dst v):=
 ⟨⟨v,λ_=>none,[]⟩,App.JP _ _ _,⟨λ_ _ h=>by simp at h,λ_ h=>by simp at h⟩,λt ht=>⟨_,h t ht,App.JP _ _ _⟩⟩
theorem oh{F:AS->Out aB}(ho:∀t,qD P Γ bJ o t=(F t).bind λv=> .ok (t.put o.dst v))(hF:∀t,mr (gK Γ ops s o) s t->F t=F s){s':AS}(he:(qD P Γ bJ o s).eval=some s'):N5 P Γ bJ ops o s s':=by
 rw[ho]at he;obtain⟨v,h1,h2⟩:=aw.1 he;obtain rfl:=ay.1 h2;refine lS λt ht=> ?_
 rw[ho,hF t ht,aw];exact⟨v,h1,rfl⟩
theorem WS{v:aB}{ids:List Id}(hi:∀id∈ids,id∈(gK Γ ops s o).rs)(h:∀t,mr (gK Γ ops s o) s t->(qD P Γ bJ o t).eval=some ((t.bw ids).put o.dst v)):N5 P Γ bJ ops o s ((s.bw ids).put o.dst v):=
 ⟨⟨v,λ_=>none,ids⟩,App.Sc _ _ _ _,⟨λ_ _ h=>by simp at h,hi⟩,λt ht=>⟨_,h t ht,App.Sc _ _ _ _⟩⟩
theorem AA{v:aB}{ids:List Id}{q:Nat}{es:List dE}(hd:o.dst=some q)(hv:s.dX q=true)(hi:∀id∈ids,id∈(gK Γ ops s o).rs)
  (h:∀t,mr (gK Γ ops s o) s t->t.dX q=true->(qD P Γ bJ o t).eval=some (((t.bw ids).born q es).put o.dst v)):N5 P Γ bJ ops o s (((s.bw ids).born q es).put o.dst v):=by
 refine⟨⟨v,RQ q es,ids⟩,by rw[hd];exact App.atH hv _ _ _,⟨λid e h=> .inr ?_,hi⟩,λt ht=> ?_⟩
 ·cases id with
  |bj _=>simp[RQ]at h
  |new i j=>
   simp only[RQ]at h;split at h
   ·rename_i hq;exact⟨q,j,hd,by rw[hq]⟩
   ·cases h
 ·have hv':t.dX q=true:=by rw[ht.dX q hd];exact hv
  exact⟨_,h t ht hv',by rw[hd];exact App.atH hv' _ _ _⟩
theorem E1{v:aB}{id:Id}{e0 e:dE}(hs:s.bR id=some e0)(hw:id∈(gK Γ ops s o).ws)(h:∀t,mr (gK Γ ops s o) s t->t.bR id=s.bR id->(qD P Γ bJ o t).eval=some ((t.bh id e).put o.dst v)):
  N5 P Γ bJ ops o s ((s.bh id e).put o.dst v):=by
 refine⟨⟨v,λi=>if i=id then some e else none,[]⟩,App.aGh hs _ _ _,⟨λi e' h=> .inl ?_,λ_ h=>by simp at h⟩,λt ht=> ?_⟩
 ·simp only at h;split at h
  ·rename_i hi;subst hi;exact⟨hw,by rw[hs];simp⟩
  ·cases h
 ·have:=ht.ws id hw;exact⟨_,h t ht this,App.aGh (this.trans hs) _ _ _⟩
end
end Go.Ab
namespace Go.Ab
section
variable {P:Program} {Γ:ot} {bJ:List Nat} {ops:Array Oper} {o:Oper} {s t:AS}
theorem aje{T:TypeId}{x v:aB}{s':AS}(h:(IX P s T x v).eval=some s'):
  ∃id e0 e,x.ids=[id]/\s.bR id=some e0/\s'=s.bh id e/\∀t:AS,t.bR id=s.bR id->(IX P t T x v).eval=some (t.bh id e):=by
 unfold IX at h;split at h
 ·rename_i id ver p n;cases lN:s.obj id with
  |none=>rw[lN]at h;simp only[av]at h
  |some r=>
   obtain⟨ve,fr,c⟩:=r;rw[lN]at h;obtain⟨h1,h2⟩:=aC.1 h;obtain⟨r,h3,h4⟩:=aw.1 h2;obtain⟨h5,h6⟩:=aC.1 h4;obtain⟨h7,h8⟩:=bN.1 h6;obtain⟨c',h9,aPF⟩:=aw.1 h8;obtain rfl:=ay.1 aPF;refine⟨id,_,_,rfl,dZ lN,rfl,λt ht=> ?_⟩;have hob':t.obj id=some (ve,fr,c):=by simp only[AS.obj,ht];exact lN
   unfold IX;simp only[hob'];exact aC.2 ⟨h1,aw.2 ⟨r,h3,aC.2 ⟨h5,bN.2 ⟨h7,aw.2 ⟨c',h9,ay.2 rfl⟩⟩⟩⟩⟩
 ·simp only[av]at h
theorem ap6{c:Call}{x y:Operand}{T X:TypeId}(de:o.op= .call c)(hc:c.callee= .builtin .copy)(ha:c.args.toList=[x,y])(ht:c.argTypes.toList=[T,X]){s':AS}
  (he:(X3 P s o.dst T X (s.ev x) (s.ev y)).eval=some s'):N5 P Γ bJ ops o s s':=by
 have ae0:∀t:AS,qD P Γ bJ o t=X3 P t o.dst T X (t.ev x) (t.ev y):=λt=>by unfold qD;rw[de];simp only[hc,ha,ht]
 have EZ:∀z,z=x\/z=y->z∈o.op.operands.toList:=λz hz=>by rw[de];simp only[Op.operands,Call.operands,hc,aS,bT,ha];simpa using hz
 have hx:∀t,mr (gK Γ ops s o) s t->t.ev x=s.ev x:=λt h=>h.ev (EZ x (.inl rfl))
 have hy:∀t,mr (gK Γ ops s o) s t->t.ev y=s.ev y:=λt h=>h.ev (EZ y (.inr rfl))
 have hm:∀t,mr (gK Γ ops s o) s t->∀ty,HY P t ty X (s.ev y)=HY P s ty X (s.ev y):=λt h ty=>UO λid cT=>h.ajX (afq de rfl) (EZ y (.inr rfl)) cT
 unfold X3 at he;split at he
 ·rename_i e t b id ver len Ke aoX;obtain⟨m,h1,he⟩:=aw.1 he;split at he
  ·rename_i ve n t' l lN;obtain⟨h2,Pk⟩:=aC.1 he;obtain⟨l',h3,acw⟩:=aw.1 Pk;obtain⟨h4,aOW⟩:=bN.1 acw;obtain rfl:=ay.1 aOW;have hw:id∈(gK Γ ops s o).ws:=by show id∈writes Γ s o;unfold writes;rw[de];simp only[hc,ha,aoX];simp[aB.ids]
   refine E1 (dZ lN) hw λt ht axj=> ?_
   rw[ae0 t,hx t ht,hy t ht];have hob':t.obj id=some (ve,false,.d (.arr n t') l):=by simp only[AS.obj,axj];exact lN
   unfold X3;simp only[Ke,aoX];refine aw.2 ⟨m,by rw[hm t ht];exact h1,?_⟩;simp only[hob'];exact aC.2 ⟨h2,aw.2 ⟨l',h3,bN.2 ⟨h4,ay.2 rfl⟩⟩⟩
  ·exact(av.1 he).elim
 ·exact(av.1 he).elim
theorem agz{c:Call}{x y:Operand}{T X:TypeId}(de:o.op= .call c)(hc:c.callee= .builtin .append)(ha:c.args.toList=[x,y])(ht:c.argTypes.toList=[T,X])(gj:∀k n,s.ev x= .cX->s.ev y= .d (.int k) n->False){s':AS}
  (he:(xT P s (axs bJ o.dst) (aqK bJ o.dst) o.dst T X (s.ev x) (s.ev y)).eval=some s'):N5 P Γ bJ ops o s s':=by
 have ae0:∀t:AS,t.ev x=s.ev x->t.ev y=s.ev y->qD P Γ bJ o t=xT P t (axs bJ o.dst) (aqK bJ o.dst) o.dst T X (t.ev x) (t.ev y):=λt e1 e2=>by
  unfold qD;rw[de];simp only[hc,ha,ht];split
  ·rename_i k n hx hy;rw[e1]at hx;rw[e2]at hy;exact(gj k n hx hy).elim
  ·rfl
 have EZ:∀z,z=x\/z=y->z∈o.op.operands.toList:=λz hz=>by rw[de];simp only[Op.operands,Call.operands,hc,aS,bT,ha];simpa using hz
 have hx:∀t,mr (gK Γ ops s o) s t->t.ev x=s.ev x:=λt h=>h.ev (EZ x (.inl rfl))
 have hy:∀t,mr (gK Γ ops s o) s t->t.ev y=s.ev y:=λt h=>h.ev (EZ y (.inr rfl))
 have hm:∀t,mr (gK Γ ops s o) s t->∀ty,HY P t ty X (s.ev y)=HY P s ty X (s.ev y):=λt h ty=>UO λid cT=>h.ajX (afq de rfl) (EZ y (.inr rfl)) cT
 unfold xT at he;split at he
 ·rename_i e ty b q Ke hd;obtain⟨m,h1,h2⟩:=aw.1 he;split at h2
  ·rename_i aQe;cases aOV:aqK bJ o.dst with
   |true=>
    rw[aOV]at h2;simp only at h2;obtain⟨h5,h6⟩:=bN.1 h2;obtain rfl:=ay.1 h6;refine lS λt ht=> ?_
    rw[ae0 t (hx t ht) (hy t ht),hx t ht,hy t ht];unfold xT;simp only[hd]at aOV Ke ⊢;simp only[Ke,aQe,aOV];refine aw.2 ⟨m,by rw[hm t ht];exact h1,?_⟩;exact bN.2 ⟨h5,ay.2 rfl⟩
   |false=>
   rw[aOV]at h2;simp only at h2;obtain⟨h3,h4⟩:=aC.1 h2;obtain⟨h5,h6⟩:=bN.1 h4;obtain rfl:=ay.1 h6;refine AA (ids:=[]) hd h3 (λ_ h=>by cases h) λt ht hv=> ?_
   rw[ae0 t (hx t ht) (hy t ht),hx t ht,hy t ht];unfold xT;simp only[hd]at aOV Ke ⊢;simp only[Ke,aQe,aOV];refine aw.2 ⟨m,by rw[hm t ht];exact h1,?_⟩;exact aC.2 ⟨hv,bN.2 ⟨h5,ay.2 rfl⟩⟩
  ·rename_i id ver len aQe;split at h2
   ·rename_i v fr e' t' l lN;obtain⟨h3,h4⟩:=aC.1 h2;obtain⟨l',h5,h6⟩:=aw.1 h4;obtain⟨h7,h8⟩:=bN.1 h6;obtain⟨h9,aPF⟩:=bN.1 h8;obtain⟨aUC,aeZ⟩:=bN.1 aPF;obtain rfl:=ay.1 aeZ;have hw:id∈(gK Γ ops s o).ws:=by show id∈writes Γ s o;unfold writes;rw[de];simp only[hc,ha,aQe];simp[aB.ids]
    refine E1 (dZ lN) hw λt ht axj=> ?_
    rw[ae0 t (hx t ht) (hy t ht),hx t ht,hy t ht];have hob':t.obj id=some (v,fr,.vec e' t' l):=by simp only[AS.obj,axj];exact lN
    unfold xT;simp only[hd]at Ke ⊢;simp only[Ke,aQe];refine aw.2 ⟨m,by rw[hm t ht];exact h1,?_⟩;simp only[hob'];exact aC.2 ⟨h3,aw.2 ⟨l',h5,bN.2 ⟨h7,bN.2 ⟨h9,bN.2 ⟨aUC,ay.2 rfl⟩⟩⟩⟩⟩
   ·simp only[av]at h2
  ·simp only[av]at h2
 ·simp only[av]at he
theorem SX:∀(n:Nat) (todo acc:List Id),∀id∈acc,id∈s.reach n todo acc
 | 0,_,_,id,h=>h
 |_+1,[],_,id,h=>h
 |n+1,x::todo,acc,id,h=>by
  rw[AS.reach];split
  ·exact SX n todo acc id h
  ·exact SX n _ _ id (bE.2 (.inl h))
theorem xi:∀(n:Nat) (todo acc:List Id),(∀id∈s.reach n todo acc,((t.bR id).getD .dead).ids=((s.bR id).getD .dead).ids)->t.reach n todo acc=s.reach n todo acc
 | 0,_,_,_=>rfl
 |_+1,[],_,_=>rfl
 |n+1,x::todo,acc,h=>by
  rw[AS.reach]at h;rw[AS.reach,AS.reach];split
  ·rename_i hc;rw[if_pos hc]at h;exact xi n todo acc h
  ·rename_i hc;rw[if_neg hc]at h;have hx:=h x (SX n _ _ x (bE.2 (.inr (bo.2 rfl))));rw[hx];exact xi n _ _ h
theorem aJH(e:Option dE):((e.map dE.at6).getD .dead).ids=(e.getD .dead).ids:=by
 cases e with
 |none=>rfl
 |some x=>cases x <;> rfl
theorem Wq(ids:List Id)(n:Nat)(todo acc:List Id):(s.bw ids).reach n todo acc=s.reach n todo acc:=by
 refine xi n todo acc λid _=> ?_
 rw[fv];split
 ·exact aJH _
 ·rfl
theorem Ms:∀(ps:List (Option Ty)) (vs:List aB),(∀v∈vs,∀id∈v.ids,zo (t.bR id) (s.bR id))->t.conv ps vs=s.conv ps vs
 |[],[],_=>rfl
 |[],_::_,_=>rfl
 |some _::_,[],_=>rfl
 |none::_,[],_=>rfl
 |some ty::ps,v::vs,h=>by simp only[AS.conv];rw[pv v ty (h v (aO ..)),Ms ps vs λx hx=>h x (aJ _ hx)]
 |none::ps,v::vs,h=>by simp only[AS.conv];rw[Ms ps vs λx hx=>h x (aJ _ hx)]
theorem Mt:∀(ps:List (Option Ty)) (vs:List aB) (r:List aB×List Id),(s.conv ps vs).eval=some r->r.1.flatMap aB.ids=wb ps vs/\∀id∈r.2,∃v∈vs,id∈v.ids
 |[],[],r,h=>by simp only[AS.conv,ay]at h;subst h;exact⟨rfl,λ_ h=>by cases h⟩
 |some ty::ps,v::vs,r,h=>by
  simp only[AS.conv]at h;obtain⟨x,h1,h2⟩:=aw.1 h;obtain⟨r',h3,h4⟩:=aw.1 h2;obtain rfl:=ay.1 h4;obtain⟨i1,i2⟩:=Mt ps vs r' h3;refine⟨by simp[wb,i1,aB.ids],λid cT=> ?_⟩;rcases bE.1 cT with cT | cT
  ·exact⟨v,aO ..,vH v id cT⟩
  ·obtain⟨u,hu,ajT⟩:=i2 id cT;exact⟨u,aJ _ hu,ajT⟩
 |none::ps,v::vs,r,h=>by simp only[AS.conv]at h;obtain⟨r',h3,h4⟩:=aw.1 h;obtain rfl:=ay.1 h4;obtain⟨i1,i2⟩:=Mt ps vs r' h3;refine⟨by simp[wb,i1],λid cT=> ?_⟩;obtain⟨u,hu,ajT⟩:=i2 id cT;exact⟨u,aJ _ hu,ajT⟩
 |[],_::_,_,h=>by simp only[AS.conv,av]at h
 |some _::_,[],_,h=>by simp only[AS.conv,av]at h
 |none::_,[],_,h=>by simp only[AS.conv,av]at h
theorem amj:∀(c:aB),∀v∈c.list,∀id∈v.ids,id∈c.ids
 | .cons a b,v,hv,id,cT=>by
  simp only[aB.list,cn]at hv;simp only[aB.ids,bE];rcases hv with rfl | hv
  ·exact .inl cT
  ·exact .inr (amj b v hv id cT)
 | .sb _,_,h,_,_ | .undef,_,h,_,_ | .gone,_,h,_,_ | .cX,_,h,_,_ | .qE,_,h,_,_ | .xe,_,h,_,_ | .CM,_,h,_,_ | .d _ _,_,h,_,_ | .ptr ..,_,h,_,_ | .dO ..,_,h,_,_
 | .fn ..,_,h,_,_ | .pr ..,_,h,_,_ | .nil,_,h,_,_ | .vec ..,_,h,_,_ | .bx ..,_,h,_,_ | .cq ..,_,h,_,_ | .mp ..,_,h,_,_ | .sJ ..,_,h,_,_ | .yl ..,_,h,_,_ | .qZ ..,_,h,_,_ | .bz ..,_,h,_,_=>by simp[aB.list]at h
theorem Vk{ids:List Id}(h:∀id∈ids,t.bR id=s.bR id):t.xk ids=s.xk ids:=by
 funext id ver;unfold AS.xk;cases hi:idxOf id ids with
 |none=>rfl
 |some k=>
  have:t.obj id=s.obj id:=by simp only[AS.obj,h id (cI (oR hi))]
  rw[this]
theorem VN{id:Id}(h:t.bR id=s.bR id):t.Ct id=s.Ct id:=by simp only[AS.Ct,AS.obj,h]
theorem Qg{ids:List Id}(h:∀id∈ids,t.bR id=s.bR id)(q:Nat):t.vC ids q=s.vC ids q:=by
 funext id ver;cases id with
 |new i j=>rfl
 |bj k=>
  simp only[AS.vC];cases hk:ids[k]? with
  |none=>rfl
  |some id=>simp only[VN (h id (cI hk))]
theorem O9{ids:List Id}(h:∀id∈ids,t.bR id=s.bR id)(q b:Nat):t.rX ids q b=s.rX ids q b:=by funext e;cases e <;> simp only[AS.rX,Qg h]
theorem alz{ids:List Id}(h:∀id∈ids,t.bR id=s.bR id){id:Id}(cT:id∈ids):t.mB ids id=s.mB ids id:=by unfold AS.mB;rw[h id cT,Vk h]
def nY(s:AS)(ids:List Id)(d:Option Tmp)(G:fA):AS:=(AS.jt s ids (d.getD 0) (s.made ids (d.getD 0) G.news) ids G.bV).put d (G.val.iE (s.vC ids (d.getD 0)))
theorem aeh{ids:List Id}{d:Option Tmp}{G:fA}{s':AS}:(s.back ids d G).eval=some s'↔(G.bV.length=ids.length/\(G.news=[]\/∃q,d=some q/\s.dX q=true))/\s'=nY s ids d G:=by
 unfold AS.back;cases d with
 |none=>
  rw[aC,ay];simp only[au,dr,List.isEmpty_iff,nY,AS.put,Option.getD_none];constructor
  ·rintro⟨⟨h1,h2⟩,rfl⟩;rw[h2];exact⟨⟨h1,.inl rfl⟩,rfl⟩
  ·rintro⟨⟨h1,h2⟩,rfl⟩;rcases h2 with h2 | ⟨q,hq,_⟩
   ·rw[h2];exact⟨⟨h1,rfl⟩,rfl⟩
   ·cases hq
 |some q=>
  rw[aC,ay];simp only[au,dr,gC,List.isEmpty_iff,nY,dN];constructor
  ·rintro⟨⟨h1,h2⟩,rfl⟩;exact⟨⟨h1,h2.imp id λh=>⟨q,rfl,h⟩⟩,rfl⟩
  ·rintro⟨⟨h1,h2⟩,rfl⟩;refine⟨⟨h1,h2.imp id λ⟨q',hq,h⟩=> ?_⟩,rfl⟩;obtain rfl:q=q':=by simpa using hq
   exact h
theorem UB(s0:AS)(all:List Id)(q:Nat):∀(ids:List Id) (es:List dE) (s:AS),(AS.jt s0 all q s ids es).news.length=s.news.length
 |[],_,_=>by simp[AS.jt]
 |_::_,[],_=>by simp[AS.jt]
 |id::ids,e::es,s=>by rw[AS.jt,UB s0 all q ids es,M4]
theorem aEg(s:AS)(ids:List Id)(q:Nat)(es:List dE):(s.made ids q es).news.length=s.news.length:=by cases es <;> simp[AS.made,AS.born]
def J3(ids:List Id)(d:Option Tmp)(G:fA)(id:Id):Prop:=id∈ids\/(G.news≠ []/\∃q j,d=some q/\id= .new q j)
theorem Xp{ids:List Id}{d:Option Tmp}{G:fA}(hn:ids.Nodup)(hp:∀id∈ids,s.bR id≠none)(hl:G.bV.length=ids.length)(hv:G.news=[]\/∃q,d=some q/\s.dX q=true):
  (∀id,¬J3 ids d G id->(nY s ids d G).bR id=s.bR id)/\
  (∀(k:Nat) (id:Id) (e:dE),ids[k]? =some id->G.bV[k]? =some e->(nY s ids d G).bR id=some (s.rX ids (d.getD 0) (s.Ct id) e))/\
  (∀q j,G.news≠ []->d=some q->(nY s ids d G).bR (.new q j)=(G.news[j]?).map (s.rX ids q 0))/\
  (∀q j,G.news≠ []->d=some q->s.bR (.new q j)=none):=by
 have hv':G.news=[]\/s.dX (d.getD 0)=true:=by
  rcases hv with h | ⟨q,rfl,h⟩
  ·exact .inl h
  ·exact .inr h
 obtain⟨m1,m2⟩:=alA s ids (d.getD 0) G.news hv';have aLS:∀q j,G.news≠ []->d=some q->s.bR (.new q j)=none:=λq j h1 h2=>by
  rcases hv' with h | h
  ·exact absurd h h1
  ·subst h2;exact(Bd.1 h).2 j
 have GU:∀id,s.bR id≠none->G.news=[]\/∀j,id≠ .new (d.getD 0) j:=λid cT=>by
  rcases hv with h | ⟨q,rfl,h⟩
  ·exact .inl h
  ·exact .inr λj e=>cT (by rw[e];exact(Bd.1 h).2 j)
 obtain⟨n1,n2⟩:=Hx s ids (d.getD 0) ids G.bV (s.made ids (d.getD 0) G.news) hn hl (λid cT=>by rw[m1 id (GU id (hp id cT))];exact hp id cT);refine⟨λid cT=> ?_,λk id e h1 h2=> ?_,λq j h1 h2=> ?_,aLS⟩
 ·unfold J3 at cT;simp only[not_or]at cT;rw[nY,JC,n1 id cT.1];refine m1 id ?_
  by_cases gj:G.news=[]
  ·exact .inl gj
  ·right;intro j e;rcases hv with h | ⟨q,hq,_⟩
   ·exact gj h
   ·exact cT.2 ⟨gj,q,j,hq,by rw[e,hq];rfl⟩
 ·rw[nY,JC,n2 k id e h1 h2]
 ·subst h2;have aSr:Id.new q j ∉ ids:=λcT=>hp _ cT (aLS q j h1 rfl)
  rw[nY,JC,n1 _ aSr];exact m2 h1 j
open Classical in
theorem apK{c:Call}{F:Operand}{f:FuncId}{caps:aB}{en:Entry}(de:o.op= .call c)(hc:c.callee= .value F)(hF:s.ev F= .fn f caps)(hΓ:Γ f (c.args.toList.map s.ev++caps.list)=some en)(gB:Nat.blt f yB=true){s':AS}
  (he:(s.call en o.dst (c.args.toList.map s.ev++caps.list)).eval=some s'):N5 P Γ bJ ops o s s':=by
 have EZ:∀z,z=F\/z∈c.args.toList->z∈o.op.operands.toList:=λz hz=>by
  rw[de];simp only[Op.operands,Call.operands,hc,bT,bE];rcases hz with rfl | hz
  ·exact .inl (by simp)
  ·exact .inr hz
 have aDK:∀v∈c.args.toList.map s.ev++caps.list,∀id∈v.ids,id∈(gK Γ ops s o).rs:=λv hv id cT=>by
  rcases bE.1 hv with hv | hv
  ·obtain⟨x,hx,rfl⟩:=db.1 hv;exact MX (afq de rfl) (EZ x (.inr hx)) cT
  ·refine MX (afq de rfl) (EZ F (.inl rfl)) ?_
   rw[hF];exact amj caps v hv id cT
 generalize Uu:c.args.toList.map s.ev++caps.list=vs at he aDK hΓ;have aHT:(gK Γ ops s o).ws=s.reach 64 (wb en.params vs) []:=by show writes Γ s o=_;unfold writes;rw[de];simp only[hc,hF,Uu,hΓ]
 have ae0:∀t,mr (gK Γ ops s o) s t->qD P Γ bJ o t=t.call en o.dst vs:=λt ht=>by
  unfold qD;rw[de];have h1:t.ev F= .fn f caps:=by rw[ht.ev (EZ F (.inl rfl)),hF]
  have h2:c.args.toList.map t.ev=c.args.toList.map s.ev:=gg λx hx=>ht.ev (EZ x (.inr hx))
  obtain⟨cal,args,tys⟩:=c;simp only at hc Uu h2;subst hc;simp only[h1,h2,Uu,hΓ,gB,Out.guard]
 unfold AS.call at he;obtain⟨r,h1,h2⟩:=aw.1 he;obtain⟨aDC,acO⟩:=Mt _ _ r h1;have hlends:∀t:AS,(t.bw r.2).afa r.1=t.reach 64 (wb en.params vs) []:=λt=>by unfold AS.afa;rw[Wq,aDC]
 rw[hlends]at h2;generalize hW:s.reach 64 (wb en.params vs) []=W at h2 aHT;have hWn:W.Nodup:=by rw[<-hW];exact sU s _ _ _ (by simp)
 unfold AS.enter at h2;obtain⟨CG,h3⟩:=aC.1 h2;obtain⟨x,hx,h4⟩:=w5.1 h3;obtain⟨x0,aNC,h4⟩:=aw.1 h4;have aSP:=en.au2 _ _ aNC;rw[aSP]at h4 aNC;obtain⟨⟨hl,hv⟩,rfl⟩:=aeh.1 h4;generalize hG:en.out (r.1.map (aB.iE ((s.bw r.2).xk W))) (W.map ((s.bw r.2).mB W)) x=G at hl hv h4 ⊢;have hp:∀id∈W,(s.bw r.2).bR id≠none:=λid cT=>by have:=(au _ _▸df.1 CG id cT).1;obtain⟨⟨v,fr,c⟩,hr⟩:=bQ.1 this;rw[dZ hr];simp
 obtain⟨b1,b2,b3,b4⟩:=Xp (s:=s.bw r.2) (d:=o.dst) hWn hp hl hv;have hfzent:∀(u:AS) id,u.bR id=none↔(u.bw r.2).bR id=none:=λu id=>by rw[fv];split <;> simp
 let E:aOF:=⟨G.val.iE ((s.bw r.2).vC W (o.dst.getD 0)),λid=>if J3 W o.dst G id then(nY (s.bw r.2) W o.dst G).bR id else none,r.2⟩
 have hslots:∀u:AS,(nY (u.bw r.2) W o.dst G).cm=(u.put o.dst (G.val.iE ((u.bw r.2).vC W (o.dst.getD 0)))).cm:=λu=>by unfold nY;cases o.dst <;> simp[AS.put,Da,abe,nH]
 have hlen:∀u:AS,(nY (u.bw r.2) W o.dst G).news.length=u.news.length:=λu=>by unfold nY;cases o.dst <;> simp[AS.put,UB,aEg,qS]
 refine⟨E,⟨hslots s,hlen s,λid=> ?_⟩,⟨λid e VX=> ?_,λid cT=> ?_⟩,λt ht=> ?_⟩
 ·by_cases aAD:J3 W o.dst G id
  ·have VX:E.up id=(nY (s.bw r.2) W o.dst G).bR id:=if_pos aAD;rw[VX];cases hb:(nY (s.bw r.2) W o.dst G).bR id with
   |some e=>rfl
   |none=>
    rcases aAD with cT | ⟨gj,q,j,hq,rfl⟩
    ·obtain⟨k,hk⟩:=kh.1 cT;have gB:k < G.bV.length:=by rw[hl];exact(dF.1 hk).1
     rw[b2 k id _ hk (bP gB)]at hb;cases hb
    ·have:=(hfzent s _).2 (b4 q j gj hq);simp[this]
  ·have VX:E.up id=none:=if_neg aAD;rw[VX,b1 id aAD,fv]
 ·by_cases aAD:J3 W o.dst G id
  ·rcases aAD with cT | ⟨_,q,j,hq,rfl⟩
   ·left;refine⟨by rw[aHT];exact cT,λh=>hp id cT ((hfzent s id).1 h)⟩
   ·exact .inr ⟨q,j,hq,rfl⟩
  ·have:E.up id=none:=if_neg aAD;rw[this]at VX;cases VX
 ·obtain⟨v,hv,cT⟩:=acO id cT;exact aDK v hv id cT
 ·have aPS:t.conv en.params vs=s.conv en.params vs:=Ms _ _ λv hv id cT=>ht.rs id (aDK v hv id cT)
  have NY:∀id∈W,t.bR id=s.bR id:=λid cT=>ht.ws id (by rw[aHT];exact cT)
  have alO:∀id∈W,(t.bw r.2).bR id=(s.bw r.2).bR id:=λid cT=>by rw[fv,fv,NY id cT]
  have hWt:t.reach 64 (wb en.params vs) []=W:=by
   rw[<-hW];refine xi _ _ _ λid cT=> ?_
   rw[NY id (by rw[<-hW];exact cT)]
  have aQq:G.news=[]\/∃q,o.dst=some q/\(t.bw r.2).dX q=true:=hv.imp id λ⟨q,hq,h⟩=>⟨q,hq,by
   rw[vI]at h ⊢;rw[ht.dX q hq];exact h⟩
  have aO2:∀id∈W,(t.bw r.2).bR id≠none:=λid cT=>by rw[alO id cT];exact hp id cT
  obtain⟨d1,d2,d3,d4⟩:=Xp (s:=t.bw r.2) (d:=o.dst) hWn aO2 hl aQq;refine⟨nY (t.bw r.2) W o.dst G,?_,⟨?_,hlen t,λid=> ?_⟩⟩
  ·rw[ae0 t ht];unfold AS.call;rw[aPS];refine aw.2 ⟨r,h1,?_⟩;rw[hlends,hWt];unfold AS.enter;have hA:(t.bw r.2).xk W=(s.bw r.2).xk W:=Vk alO;have hO:W.map ((t.bw r.2).mB W)=W.map ((s.bw r.2).mB W):=gg λid cT=>alz alO cT
   refine aC.2 ⟨?_,w5.2 ⟨x,?_,aw.2 ⟨x,aNC,?_⟩⟩⟩
   ·refine df.2 λid cT=> ?_
    have:=df.1 CG id cT;simp only[AS.obj,AS.SC]at this ⊢;rw[alO id cT];exact this
   ·rw[hA,hO,<-hx]
   ·rw[hA,hO,hG];exact aeh.2 ⟨⟨hl,aQq⟩,rfl⟩
  ·rw[hslots t,Qg alO]
  ·by_cases aAD:J3 W o.dst G id
   ·have VX:E.up id=(nY (s.bw r.2) W o.dst G).bR id:=if_pos aAD;rw[VX];rcases aAD with cT | ⟨gj,q,j,hq,rfl⟩
    ·obtain⟨k,hk⟩:=kh.1 cT;have gB:k < G.bV.length:=by rw[hl];exact(dF.1 hk).1
     rw[b2 k id _ hk (bP gB),d2 k id _ hk (bP gB),O9 alO,VN (alO id cT)]
    ·rw[b3 q j gj hq,d3 q j gj hq,O9 alO];cases hn:G.news[j]? with
     |some e=>rfl
     |none=>
      have:=(hfzent t _).2 (d4 q j gj hq);simp[this]
   ·have VX:E.up id=none:=if_neg aAD;rw[VX,d1 id aAD,fv]
end
end Go.Ab
namespace Go.Ab
section
variable {P:Program} {Γ:ot} {bJ:List Nat} {ops:Array Oper} {o:Oper} {s t:AS}
theorem Out.bind_assoc{α β γ:Type}(o:Out α)(f:α->Out β)(g:β->Out γ):(o.bind f).bind g=o.bind λa=>(f a).bind g:=by
 induction o with
 |ok a=>rfl
 |fail=>rfl
 |uS c r ih=>simp only[Out.bind,ih]
 |get x h ih=>simp only[Out.bind,ih]
 |br c x y ih1 ih2=>simp only[Out.bind,ih1,ih2]
theorem amZ{parts:Array (Nat×Operand)}{x:Nat×Operand}(h:x∈parts.toList):x.2∈(parts.toList.map (·.2)).toArray.toList:=db.2 ⟨x,h,rfl⟩
theorem av3{T:TypeId}{x:Operand}(de:o.op= .box T x){s':AS}(he:(akz P s (isObj bJ o.dst) (aqK bJ o.dst) o.dst T (s.ev x)).eval=some s'):N5 P Γ bJ ops o s s':=by
 have ae0:∀t,qD P Γ bJ o t=akz P t (isObj bJ o.dst) (aqK bJ o.dst) o.dst T (t.ev x):=λt=>by unfold qD;rw[de]
 have hm:x∈o.op.operands.toList:=by rw[de];simp[Op.operands]
 unfold akz at he;split at he
 ·rename_i q hd;split at he
  ·rename_i ho;obtain⟨h1,h2⟩:=aC.1 he;obtain rfl:=ay.1 h2;simp only[au]at h1;refine AA (ids:=[]) hd h1.1 (λ_ h=>by cases h) λt ht hv=> ?_
   rw[ae0,ht.ev hm];unfold akz;simp only[hd]at ho ⊢;simp only[ho];exact aC.2 ⟨by simp[hv,h1.2],ay.2 rfl⟩
  ·rename_i ho;split at he
   ·rename_i ty aQm;obtain⟨h1,h2⟩:=aC.1 he;obtain⟨y,h3,h4⟩:=aw.1 h2;obtain rfl:=ay.1 h4;refine WS (λid cT=>MX (afq de rfl) hm (vH _ _ cT)) λt ht=> ?_
    rw[ae0,ht.ev hm];unfold akz;simp only[hd]at ho ⊢;simp only[ho,aQm];refine aC.2 ⟨h1,aw.2 ⟨y,?_,ay.2 rfl⟩⟩;rw[pv _ _ λid cT=>ht.ajX (afq de rfl) hm cT];exact h3
   ·simp only[av]at he
 ·simp only[av]at he
theorem aot{T:TypeId}{x:Operand}(de:o.op= .sliceToArrayPointer T x){s':AS}(he:(NJ P s o.dst T (s.ev x)).eval=some s'):N5 P Γ bJ ops o s s':=by
 have ae0:∀t,qD P Γ bJ o t=NJ P t o.dst T (t.ev x):=λt=>by unfold qD;rw[de]
 have hm:x∈o.op.operands.toList:=by rw[de];simp[Op.operands]
 unfold NJ at he;split at he
 ·rename_i n e hT;split at he
  ·rename_i ty aQm;obtain⟨h1,h2⟩:=aC.1 he;obtain⟨l,h3,h4⟩:=aw.1 h2;obtain⟨h5,h6⟩:=bN.1 h4;obtain rfl:=ay.1 h6;refine WS (λid cT=>MX (afq de rfl) hm (vH _ _ cT)) λt ht=> ?_
   rw[ae0,ht.ev hm];unfold NJ;simp only[hT,aQm];refine aC.2 ⟨h1,aw.2 ⟨l,?_,bN.2 ⟨h5,ay.2 rfl⟩⟩⟩;rw[pv _ _ λid cT=>ht.ajX (afq de rfl) hm cT];exact h3
  ·simp only[av]at he
 ·simp only[av]at he
theorem akD{T:TypeId}{parts:Array (Nat×Operand)}(de:o.op= .build T parts){s':AS}(he:(Hi P s o.dst T parts.toList).eval=some s'):N5 P Γ bJ ops o s s':=by
 have ae0:∀t,qD P Γ bJ o t=Hi P t o.dst T parts.toList:=λt=>by unfold qD;rw[de]
 have hm:∀x∈parts.toList,x.2∈o.op.operands.toList:=λx hx=>by rw[de];exact amZ hx
 unfold Hi at he;split at he
 ·rename_i fs hT;split at he
  ·rename_i z hz;obtain⟨h1,h2⟩:=aC.1 he;obtain⟨v,h3,h4⟩:=aw.1 h2;obtain rfl:=ay.1 h4;refine lS λt ht=> ?_
   rw[ae0];unfold Hi;simp only[hT,hz];refine aC.2 ⟨h1,aw.2 ⟨v,?_,ay.2 rfl⟩⟩;rw[Gv _ _ λx hx=>ht.ev (hm x hx)];exact h3
  ·simp only[av]at he
 ·rename_i n e hT;split at he
  ·rename_i ty aQm;obtain⟨h1,h2⟩:=aC.1 he;obtain⟨r,h3,h4⟩:=aw.1 h2;obtain rfl:=ay.1 h4;refine WS (λid cT=> ?_) λt ht=> ?_
   ·obtain⟨x,hx,hi⟩:=xH _ _ _ h3 id cT;exact MX (afq de rfl) (hm x hx) hi
   ·rw[ae0];unfold Hi;simp only[hT,aQm];refine aC.2 ⟨h1,aw.2 ⟨r,?_,ay.2 rfl⟩⟩;rw[A2 _ _ λx hx=>⟨ht.ev (hm x hx),λid cT=>ht.ajX (afq de rfl) (hm x hx) cT⟩];exact h3
  ·simp only[av]at he
 ·simp only[av]at he
theorem RU{T:TypeId}{n:Nat}{parts:Array (Nat×Operand)}(de:o.op= .buildSlice T n parts){s':AS}(he:(my P s (axs bJ o.dst) (isObj bJ o.dst) o.dst T n parts.toList).eval=some s'):N5 P Γ bJ ops o s s':=by
 have ae0:∀t,qD P Γ bJ o t=my P t (axs bJ o.dst) (isObj bJ o.dst) o.dst T n parts.toList:=λt=>by unfold qD;rw[de]
 have hm:∀x∈parts.toList,x.2∈o.op.operands.toList:=λx hx=>by rw[de];exact amZ hx
 unfold my at he;split at he
 ·rename_i e ty b q Ke hd;obtain⟨h1,h2⟩:=aC.1 he;obtain⟨r,h3,h4⟩:=aw.1 h2;have aDE:∀id∈r.2,id∈(gK Γ ops s o).rs:=λid cT=>by obtain⟨x,hx,hi⟩:=xH _ _ _ h3 id cT;exact MX (afq de rfl) (hm x hx) hi
  have aPS:∀t,mr (gK Γ ops s o) s t->∀l,jl ty t parts.toList l=jl ty s parts.toList l:=λt ht l=>A2 _ _ λx hx=>⟨ht.ev (hm x hx),λid cT=>ht.ajX (afq de rfl) (hm x hx) cT⟩
  split at h4
  ·rename_i ho;obtain⟨h5,h6⟩:=aC.1 h4;obtain rfl:=ay.1 h6;refine AA hd h5 aDE λt ht hv=> ?_
   rw[ae0];unfold my;simp only[hd]at ho Ke ⊢;simp only[Ke,ho];refine aC.2 ⟨h1,aw.2 ⟨r,by rw[aPS t ht];exact h3,aC.2 ⟨hv,ay.2 rfl⟩⟩⟩
  ·rename_i ho;obtain rfl:=ay.1 h4;refine WS aDE λt ht=> ?_
   rw[ae0];unfold my;simp only[hd]at ho Ke ⊢;simp only[Ke,ho];exact aC.2 ⟨h1,aw.2 ⟨r,by rw[aPS t ht];exact h3,ay.2 rfl⟩⟩
 ·simp only[av]at he
theorem V3{T:TypeId}{x y:Operand}(de:o.op= .makeSlice T x y){len cap:Int}(hx:(asInt (s.ev x)).eval=some len)(hy:(asInt (s.ev y)).eval=some cap){s':AS}(he:(sk P s o.dst T len cap).eval=some s'):N5 P Γ bJ ops o s s':=by
 have ae0:∀t,qD P Γ bJ o t=(asInt (t.ev x)).bind λl=>(asInt (t.ev y)).bind λc=>sk P t o.dst T l c:=λt=>by unfold qD;rw[de]
 have hm:∀z,z=x\/z=y->z∈o.op.operands.toList:=λz hz=>by rw[de];simpa[Op.operands]using hz
 unfold sk at he;split at he
 ·rename_i e ty b q Ke hd;obtain⟨h1,h2⟩:=aC.1 he;obtain⟨h3,h4⟩:=bN.1 h2;obtain rfl:=ay.1 h4;refine AA (ids:=[]) hd h1 (λ_ h=>by cases h) λt ht hv=> ?_
  rw[ae0,ht.ev (hm x (.inl rfl)),ht.ev (hm y (.inr rfl))];refine aw.2 ⟨len,hx,aw.2 ⟨cap,hy,?_⟩⟩;unfold sk;simp only[Ke,hd];exact aC.2 ⟨hv,bN.2 ⟨h3,ay.2 rfl⟩⟩
 ·simp only[av]at he
theorem aik{id:Id}{ver:Nat}{kt vt:Ty}(h:zo (t.bR id) (s.bR id)):t.ue id ver kt vt=s.ue id ver kt vt:=by
 unfold AS.ue;rcases QJ h with⟨h1,h2⟩ | ⟨v,f,f',c,h1,h2⟩
 ·rw[h1,h2]
 ·rw[h1,h2];cases c <;> rfl
theorem acW{T:TypeId}{m k:aB}{ok:Bool}(h:∀id∈m.ids,zo (t.bR id) (s.bR id)):E2 P t T m k ok=E2 P s T m k ok:=by
 unfold E2;split
 ·rename_i id ver hm;rw[aik (h id (by simp[aB.ids]))]
 ·rfl
theorem afc{id:Id}{ver:Nat}{kt vt:Ty}{l:List (kt.den×vt.den)}(h:(s.ue id ver kt vt).eval=some l):∃e,s.bR id=some e:=by
 unfold AS.ue at h;split at h
 ·rename_i v fr k' v' l' lN;exact⟨_,dZ lN⟩
 ·simp only[av]at h
theorem UI{id:Id}{ver:Nat}{kt vt:Ty}(h:t.bR id=s.bR id):t.ue id ver kt vt=s.ue id ver kt vt:=by unfold AS.ue AS.obj;rw[h]
theorem LP{id:Id}(h:t.bR id=s.bR id):t.uD id=s.uD id:=by unfold AS.uD AS.obj;rw[h]
theorem ac0{T:TypeId}{m k v:aB}{s':AS}(h:(E7 P s T m k v).eval=some s'):
  ∃id e0 e,m.ids=[id]/\s.bR id=some e0/\s'=s.bh id e/\∀t:AS,t.bR id=s.bR id->(E7 P t T m k v).eval=some (t.bh id e):=by
 unfold E7 at h;split at h
 ·rename_i K V kt vt id ver hm;obtain⟨l,h1,h⟩:=aw.1 h;obtain⟨kx,h2,h⟩:=aw.1 h;obtain⟨vx,h3,h⟩:=aw.1 h;obtain⟨hu,h⟩:=aC.1 h;obtain rfl:=ay.1 h;obtain⟨e0,ahL⟩:=afc h1;refine⟨id,e0,_,rfl,ahL,rfl,λt ht=> ?_⟩;unfold E7;simp only[hm];exact aw.2 ⟨l,by rw[UI ht];exact h1,aw.2 ⟨kx,h2,aw.2 ⟨vx,h3,aC.2 ⟨by rw[LP ht];exact hu,ay.2 rfl⟩⟩⟩⟩
 ·simp only[av]at h
theorem acZ{T:TypeId}{m k:aB}{s':AS}(h:(E6 P s T m k).eval=some s'):
  ∃id e0 e,m.ids=[id]/\s.bR id=some e0/\s'=s.bh id e/\∀t:AS,t.bR id=s.bR id->(E6 P t T m k).eval=some (t.bh id e):=by
 unfold E6 at h;split at h
 ·rename_i K V kt vt id ver hm;obtain⟨l,h1,h⟩:=aw.1 h;obtain⟨kx,h2,h⟩:=aw.1 h;obtain⟨hu,h⟩:=aC.1 h;obtain rfl:=ay.1 h;obtain⟨e0,ahL⟩:=afc h1;refine⟨id,e0,_,rfl,ahL,rfl,λt ht=> ?_⟩;unfold E6;simp only[hm];exact aw.2 ⟨l,by rw[UI ht];exact h1,aw.2 ⟨kx,h2,aC.2 ⟨by rw[LP ht];exact hu,ay.2 rfl⟩⟩⟩
 ·simp only[av]at h
theorem aef{s':AS}(he:(qD P Γ bJ o s).eval=some s'):N5 P Γ bJ ops o s s':=by
 have ahL:=he;have one:∀x,o.op.operands= #[x]->∀t,mr (gK Γ ops s o) s t->t.ev x=s.ev x/\(afd o.op=false->∀id∈(s.ev x).ids,zo (t.bR id) (s.bR id)):=λx hx t ht=>
  have hm:x∈o.op.operands.toList:=by rw[hx];simp
  ⟨ht.ev hm,λhn _ cT=>ht.ajX hn hm cT⟩
 unfold qD at he;split at he
 ·rename_i x de;obtain rfl:=ay.1 he;refine lS λt ht=> ?_
  unfold qD;rw[de];simp only;rw[(one x (by rw[de];rfl) t ht).1];rfl
 ·rename_i x de;obtain rfl:=ay.1 he;refine lS λt ht=> ?_
  unfold qD;rw[de];simp only;rw[(one x (by rw[de];rfl) t ht).1];rfl
 ·rename_i c x y de;refine oh (F:=λt=>auK (t.ev c) (t.ev x) (t.ev y)) (λt=>by unfold qD;rw[de]) (λt ht=> ?_) ahL;rw[ht.ev (by rw[de];simp[Op.operands]),ht.ev (by rw[de];simp[Op.operands]),ht.ev (by rw[de];simp[Op.operands])]
 ·rename_i T de;split at he
  ·rename_i z q hz hq;obtain⟨h1,h2⟩:=aC.1 he;obtain rfl:=ay.1 h2;simp only[au]at h1;refine AA (ids:=[]) hq h1.1 (λ_ h=>by cases h) λt ht hv=> ?_
   unfold qD;rw[de];simp only[hz,hq];exact aC.2 ⟨by simp[hv,h1.2],ay.2 rfl⟩
  ·exact(av.1 he).elim
 ·rename_i T x de;exact av3 de he
 ·rename_i T parts de;exact akD de he
 ·rename_i T n parts de;exact RU de he
 ·rename_i T x de;refine oh (F:=λt=>PJ P t T (t.ev x)) (λt=>by unfold qD;rw[de]) (λt ht=> ?_) ahL;obtain⟨h1,h2⟩:=one x (by rw[de];rfl) t ht;rw[h1,aml (h2 (afq de rfl))]
 ·rename_i T x v de;obtain⟨s1,h1,h2⟩:=aw.1 he;obtain rfl:=ay.1 h2;obtain⟨id,e0,e,cT,hs,rfl,hl⟩:=aje h1;refine E1 hs ?_ λt ht axj=> ?_
  ·show id∈writes Γ s o;unfold writes;rw[de];simp only[cT,bo]
  ·unfold qD;rw[de];simp only;rw[ht.ev (x:=x) (by rw[de];simp[Op.operands]),ht.ev (x:=v) (by rw[de];simp[Op.operands])];exact aw.2 ⟨_,hl t axj,ay.2 rfl⟩
 ·rename_i x de;split at he
  ·rename_i id v p n hx;obtain rfl:=ay.1 he;refine lS λt ht=> ?_
   unfold qD;rw[de];simp only[(one x (by rw[de];rfl) t ht).1,hx];rfl
  ·rename_i ty y hx;obtain rfl:=ay.1 he;refine lS λt ht=> ?_
   unfold qD;rw[de];simp only[(one x (by rw[de];rfl) t ht).1,hx];rfl
  ·rename_i ty y hx;obtain⟨z,e,he⟩:=w5.1 he;obtain rfl:=ay.1 he;refine lS λt ht=> ?_
   unfold qD;rw[de];simp only[(one x (by rw[de];rfl) t ht).1,hx];exact w5.2 ⟨z,e,ay.2 rfl⟩
  ·rename_i f c hx;obtain rfl:=ay.1 he;refine lS λt ht=> ?_
   unfold qD;rw[de];simp only[(one x (by rw[de];rfl) t ht).1,hx];rfl
  ·exact(av.1 he).elim
 ·rename_i op T x y U de;have aDA:x∈o.op.operands.toList:=by rw[de];simp[Op.operands]
  have aOZ:y∈o.op.operands.toList:=by rw[de];simp[Op.operands]
  split at he
  ·rename_i i v1 j v2 hx hy;obtain⟨v,h1,h2⟩:=aw.1 he;obtain rfl:=ay.1 h2;refine lS λt ht=> ?_
   unfold qD;rw[de];simp only[ht.ev aDA,ht.ev aOZ,hx,hy];exact aw.2 ⟨v,by rw[awP (ht.ajX (afq de rfl) aDA (by rw[hx];simp[aB.ids]))];exact h1,rfl⟩
  ·rename_i gj;obtain⟨v,h1,h2⟩:=aw.1 he;obtain rfl:=ay.1 h2;refine lS λt ht=> ?_
   unfold qD;rw[de];simp only[ht.ev aDA,ht.ev aOZ];exact aw.2 ⟨v,h1,rfl⟩
 ·rename_i op T x de;refine oh (F:=λt=>aRz op (t.ev x)) (λt=>by unfold qD;rw[de]) (λt ht=> ?_) ahL;rw[(one x (by rw[de];rfl) t ht).1]
 ·rename_i T U x de;split at he
  ·rename_i id ver len hTU hx;unfold akZ at he;split at he
   ·rename_i v e0 l e lN hD;split at he
    ·rename_i hE;obtain⟨h1,h2⟩:=aC.1 he;obtain⟨h3,h4⟩:=bN.1 h2;obtain rfl:=ay.1 h4;refine E1 (dZ lN) ?_ λt ht axj=> ?_
     ·show id∈writes Γ s o;unfold writes;rw[de];simp only[hTU,hx];simp[aB.ids]
     ·have hob':t.obj id=some (v,false,.vec e0 (.int .u8) l):=by simp only[AS.obj,axj];exact lN
      unfold qD;rw[de];simp only[hTU,(one x (by rw[de];rfl) t ht).1,hx];unfold akZ;simp only[hob',hD,hE];exact aC.2 ⟨h1,bN.2 ⟨h3,ay.2 rfl⟩⟩
    ·exact(av.1 he).elim
   ·exact(av.1 he).elim
  ·rename_i id ver hx;obtain⟨v,h1,h2⟩:=aw.1 he;obtain rfl:=ay.1 h2;refine lS λt ht=> ?_
   obtain⟨h3,h4⟩:=one x (by rw[de];rfl) t ht;unfold qD;rw[de];simp only[h3,hx];exact aw.2 ⟨v,by rw[ak0 (h4 (afq de rfl) _ (by rw[hx];simp[aB.ids]))];exact h1,rfl⟩
  ·rename_i gj;obtain⟨v,h1,h2⟩:=aw.1 he;obtain rfl:=ay.1 h2;refine lS λt ht=> ?_
   obtain⟨h3,h4⟩:=one x (by rw[de];rfl) t ht;unfold qD;rw[de];simp only[h3];exact aw.2 ⟨v,by rw[akY (h4 (afq de rfl))];exact h1,rfl⟩
 ·rename_i T x de;exact aot de he
 ·rename_i f first caps de
  obtain⟨h1,h2⟩:=aC.1 he;obtain rfl:=ay.1 h2;refine lS λt ht=> ?_
  have hc:rT t caps.toList=rT s caps.toList:=Oy _ λx hx=>ht.ev (by rw[de];simp only[Op.operands,bT];exact bE.2 (.inr hx))
  unfold qD;rw[de];simp only[hc];exact aC.2 ⟨h1,ay.2 rfl⟩
 ·rename_i T l c de;obtain⟨n,h1,h2⟩:=aw.1 he;obtain⟨m,h3,h4⟩:=aw.1 h2;exact V3 de h1 h3 h4
 ·rename_i T x lo hi de;refine oh (F:=λt=>IT P t T (t.ev x) lo hi) (λt=>by unfold qD;rw[de]) (λt ht=> ?_) ahL;have hm:∀z,(z=x\/lo=some z\/hi=some z)->z∈o.op.operands.toList:=λz hz=>by
   rw[de];simp only[Op.operands,bT,bE];rcases hz with rfl | rfl | rfl
   ·left;left;left;simp
   ·left;left;right;simp
   ·left;right;simp
  have hx:=hm x (.inl rfl);rw[ht.ev hx];exact QN (λid cT=>ht.ajX (afq de rfl) hx cT) (λy hy=>ht.ev (hm y (.inr (.inl hy)))) (λy hy=>ht.ev (hm y (.inr (.inr hy))))
 ·rename_i T x lo y m de;refine oh (F:=λt=>QM P t T (t.ev x) lo y m) (λt=>by unfold qD;rw[de]) (λt ht=> ?_) ahL;have hm:∀z,(z=x\/lo=some z\/y=z\/m=z)->z∈o.op.operands.toList:=λz hz=>by
   rw[de];simp only[Op.operands,bT,bE];rcases hz with rfl | rfl | rfl | rfl
   ·left;left;left;simp
   ·left;left;right;simp
   ·left;right;simp
   ·right;simp
  have hx:=hm x (.inl rfl);rw[ht.ev hx];exact adB (λid cT=>ht.ajX (afq de rfl) hx cT) (λz hz=>ht.ev (hm z (.inr (.inl hz)))) (ht.ev (hm y (.inr (.inr (.inl rfl))))) (ht.ev (hm m (.inr (.inr (.inr rfl)))))
 ·rename_i T x f de;refine oh (F:=λt=>EW P T (t.ev x) f) (λt=>by unfold qD;rw[de]) (λt ht=> ?_) ahL;rw[(one x (by rw[de];rfl) t ht).1]
 ·rename_i T x f de;refine oh (F:=λt=>ahC P T (t.ev x) f) (λt=>by unfold qD;rw[de]) (λt ht=> ?_) ahL;rw[(one x (by rw[de];rfl) t ht).1]
 ·rename_i T x i de;refine oh (F:=λt=>(asInt (t.ev i)).bind λi=>sa P t T (t.ev x) i) (λt=>by unfold qD;rw[de,Out.bind_assoc]) (λt ht=> ?_) ahL;have hx:x∈o.op.operands.toList:=by rw[de];simp[Op.operands]
  rw[ht.ev (x:=i) (by rw[de];simp[Op.operands]),ht.ev hx];congr 1;funext i;exact Sq λid cT=>ht.ajX (afq de rfl) hx cT
 ·rename_i T x i de;refine oh (F:=λt=>(asInt (t.ev i)).bind λi=>ahW P T (t.ev x) i) (λt=>by unfold qD;rw[de,Out.bind_assoc]) (λt ht=> ?_) ahL;rw[ht.ev (x:=i) (by rw[de];simp[Op.operands]),ht.ev (x:=x) (by rw[de];simp[Op.operands])]
 ·rename_i x i de;refine oh (F:=λt=>Out.opt ((t.ev x).list[i]?)) (λt=>by unfold qD;rw[de]) (λt ht=> ?_) ahL;rw[(one x (by rw[de];rfl) t ht).1]
 ·rename_i T de;have Pk:=he;unfold HX at Pk;split at Pk
  ·rename_i K V kt vt q hm hd;obtain⟨h1,h2⟩:=aC.1 Pk;obtain rfl:=ay.1 h2;refine AA (ids:=[]) hd h1 (λ_ h=>by cases h) λt ht hv=> ?_
   unfold qD;rw[de];simp only;unfold HX;simp only[hm,hd];exact aC.2 ⟨hv,ay.2 rfl⟩
  ·exact(av.1 Pk).elim
 ·rename_i T x i ok de;refine oh (F:=λt=>E2 P t T (t.ev x) (t.ev i) ok) (λt=>by unfold qD;rw[de]) (λt ht=> ?_) ahL;have hx:x∈o.op.operands.toList:=by rw[de];simp[Op.operands]
  rw[ht.ev (x:=i) (by rw[de];simp[Op.operands]),ht.ev hx];exact acW λid cT=>ht.ajX (afq de rfl) hx cT
 ·rename_i T m k x de;obtain⟨s1,h1,h2⟩:=aw.1 he;obtain rfl:=ay.1 h2;obtain⟨id,e0,e,cT,hs,rfl,hl⟩:=ac0 h1;refine E1 hs ?_ λt ht axj=> ?_
  ·show id∈writes Γ s o;unfold writes;rw[de];simp only[cT,bo]
  ·unfold qD;rw[de];simp only;rw[ht.ev (x:=m) (by rw[de];simp[Op.operands]),ht.ev (x:=k) (by rw[de];simp[Op.operands]),ht.ev (x:=x) (by rw[de];simp[Op.operands])];exact aw.2 ⟨_,hl t axj,ay.2 rfl⟩
 ·rename_i c de;obtain⟨cal,args,tys⟩:=c;simp only at he;split at he
  ·split at he
   ·rename_i m k T T2 ha ht';have aSm:m∈o.op.operands.toList:=by rw[de];simp only[Op.operands,Call.operands,aS,bT,ha];simp
    have aJr:k∈o.op.operands.toList:=by rw[de];simp only[Op.operands,Call.operands,aS,bT,ha];simp
    obtain⟨s1,h1,h2⟩:=aw.1 he;obtain rfl:=ay.1 h2;obtain⟨id,e0,e,cT,hs,rfl,hl⟩:=acZ h1;refine E1 hs ?_ λt ht axj=> ?_
    ·show id∈writes Γ s o;unfold writes;rw[de];simp only[ha,cT,bo]
    ·unfold qD;rw[de];simp only[ha,ht'];rw[ht.ev aSm,ht.ev aJr];exact aw.2 ⟨_,hl t axj,ay.2 rfl⟩
   ·exact(av.1 he).elim
  ·split at he
   ·rename_i x y T X ha ht';exact ap6 de rfl ha ht' he
   ·exact(av.1 he).elim
  ·split at he
   ·rename_i x T ha ht';refine oh (F:=λt=>aJX P T (t.ev x)) (λt=>by unfold qD;rw[de];simp only[ha,ht']) (λt ht=> ?_) ahL;rw[ht.ev (by rw[de];simp only[Op.operands,Call.operands,aS,bT,ha];simp)]
   ·exact(av.1 he).elim
  ·split at he
   ·rename_i x y T X ha ht';have aDA:x∈o.op.operands.toList:=by rw[de];simp only[Op.operands,Call.operands,aS,bT,ha];simp
    have aOZ:y∈o.op.operands.toList:=by rw[de];simp only[Op.operands,Call.operands,aS,bT,ha];simp
    split at he
    ·rename_i k n hx hy;have Pk:=he;unfold alN at Pk;split at Pk
     ·rename_i e t0 b q kn Ke hd hX;obtain⟨h1,h2⟩:=aC.1 Pk;obtain⟨h3,h4⟩:=bN.1 h2;obtain rfl:=ay.1 h4;refine AA (ids:=[]) hd h1 (λ_ h=>by cases h) λt ht hv=> ?_
      unfold qD;rw[de];simp only[ha,ht',ht.ev aDA,ht.ev aOZ,hx,hy];unfold alN;simp only[Ke,hd,hX];exact aC.2 ⟨hv,bN.2 ⟨h3,ay.2 rfl⟩⟩
     ·exact(av.1 Pk).elim
    ·rename_i gj;exact agz de rfl ha ht' gj he
   ·exact(av.1 he).elim
  ·split at he
   ·rename_i x T ha ht';have aDA:x∈o.op.operands.toList:=by rw[de];simp only[Op.operands,Call.operands,aS,bT,ha];simp
    split at he
    ·rename_i e hx hT;obtain rfl:=ay.1 he;refine lS λt ht=> ?_
     unfold qD;rw[de];simp only[ha,ht',ht.ev aDA,hx,hT];rfl
    ·exact(av.1 he).elim
   ·exact(av.1 he).elim
  ·refine oh (F:=λt=>axR true (args.toList.map t.ev)) (λt=>by unfold qD;rw[de]) (λt ht=> ?_) ahL;congr 1;exact gg λx hx=>ht.ev (by rw[de];simp only[Op.operands,Call.operands,aS,bT];exact hx)
  ·refine oh (F:=λt=>axR false (args.toList.map t.ev)) (λt=>by unfold qD;rw[de]) (λt ht=> ?_) ahL;congr 1;exact gg λx hx=>ht.ev (by rw[de];simp only[Op.operands,Call.operands,aS,bT];exact hx)
  ·split at he
   ·rename_i x ha;have aDA:x∈o.op.operands.toList:=by rw[de];simp only[Op.operands,Call.operands,aS,bT,ha];simp
    split at he
    ·rename_i id ver len hx;obtain⟨h1,h2⟩:=bN.1 he;obtain rfl:=ay.1 h2;refine lS λt ht=> ?_
     unfold qD;rw[de];simp only[ha,ht.ev aDA,hx];exact bN.2 ⟨h1,rfl⟩
    ·exact(av.1 he).elim
   ·exact(av.1 he).elim
  ·split at he
   ·rename_i x y T U ha ht';have aDA:x∈o.op.operands.toList:=by rw[de];simp only[Op.operands,Call.operands,aS,bT,ha];simp
    have aOZ:y∈o.op.operands.toList:=by rw[de];simp only[Op.operands,Call.operands,aS,bT,ha];simp
    split at he
    ·rename_i id ver n hx hy;have Pk:=he;unfold aoo at Pk;split at Pk
     ·rename_i v e l u lN hT;obtain⟨h1,h2⟩:=aC.1 Pk;obtain⟨h3,h4⟩:=bN.1 h2;obtain rfl:=ay.1 h4;refine E1 (dZ lN) ?_ λt ht axj=> ?_
      ·show id∈writes Γ s o;unfold writes;rw[de];simp only[ha,hx];simp[aB.ids]
      ·have hob':t.obj id=some (v,false,.vec e (.int .u8) l):=by simp only[AS.obj,axj];exact lN
       unfold qD;rw[de];simp only[ha,ht',ht.ev aDA,ht.ev aOZ,hx,hy];unfold aoo;simp only[hob',hT];exact aC.2 ⟨h1,bN.2 ⟨h3,ay.2 rfl⟩⟩
     ·exact(av.1 Pk).elim
    ·exact(av.1 he).elim
   ·exact(av.1 he).elim
  ·rename_i F _;split at he
   ·rename_i f caps hF;split at he
    ·rename_i en aqv;obtain⟨gB,he⟩:=aC.1 he;exact apK de rfl hF aqv gB he
    ·exact(av.1 he).elim
   ·exact(av.1 he).elim
  ·exact(av.1 he).elim
 ·exact(av.1 he).elim
end
end Go.Ab
namespace Go.Ab
section
variable {P:Program} {Γ:ot} {bJ:List Nat} {ops:Array Oper} {o:Oper} {s t:AS}
def Loc(P:Program)(Γ:ot)(bJ:List Nat)(ops:Array Oper)(o:Oper)(s s':AS):Prop:=∃E,App o.dst E s s'/\agu (gK Γ ops s o) s E/\∀t,mr (gK Γ ops s o) s t->∃t',Kb P Γ bJ ops o t=some t'/\App o.dst E t t'
theorem YE{s':AS}(he:Kb P Γ bJ ops o s=some s'):Loc P Γ bJ ops o s s':=by
 unfold Kb at he;split at he
 ·rename_i hg;obtain⟨E,h1,h2,h3⟩:=aef (ops:=ops) he;refine⟨E,h1,h2,λt ht=> ?_⟩;obtain⟨t',h4,h5⟩:=h3 t ht;exact⟨t',by unfold Kb;simp only[hg];exact h4,h5⟩
 ·rename_i j want hg;split at he
  ·rename_i q hq;split at he
   ·rename_i b hb;have aud:∀t,mr (gK Γ ops s o) s t->t.slot q= .d .bool b:=λt ht=>by rw[ht.cm q (bE.2 (.inr (by unfold Se;simp only[hg,hq];simp)))];exact hb
    by_cases e:b=want
    ·rw[if_pos e]at he;obtain⟨E,h1,h2,h3⟩:=aef (ops:=ops) he;refine⟨E,h1,h2,λt ht=> ?_⟩;obtain⟨t',h4,h5⟩:=h3 t ht;exact⟨t',by unfold Kb;simp only[hg,hq,aud t ht,if_pos e];exact h4,h5⟩
    ·rw[if_neg e]at he;simp only[az]at he;subst he;exact⟨⟨.nil,λ_=>none,[]⟩,App.JP _ _ _,⟨λ_ _ h=>by simp at h,λ_ h=>by simp at h⟩,λt ht=>⟨_,by unfold Kb;simp only[hg,hq,aud t ht,if_neg e],App.JP _ _ _⟩⟩
   ·rename_i hb;have aud:∀t,mr (gK Γ ops s o) s t->t.slot q= .nil:=λt ht=>by rw[ht.cm q (bE.2 (.inr (by unfold Se;simp only[hg,hq];simp)))];exact hb
    simp only[az]at he;subst he;exact⟨⟨.nil,λ_=>none,[]⟩,App.JP _ _ _,⟨λ_ _ h=>by simp at h,λ_ h=>by simp at h⟩,λt ht=>⟨_,by unfold Kb;simp only[hg,hq,aud t ht],App.JP _ _ _⟩⟩
   ·cases he
  ·cases he
theorem ajL(h:mr (gK Γ ops s o) s t):writes Γ t o=writes Γ s o:=by
 have aHT:∀id∈writes Γ s o,t.bR id=s.bR id:=h.ws;unfold writes at aHT ⊢;split
 ·rename_i x v de;rw[h.ev (by rw[de];simp[Op.operands])]
 ·rename_i m k v de;rw[h.ev (by rw[de];simp[Op.operands])]
 ·rename_i T U x de;rw[h.ev (by rw[de];simp[Op.operands])]
 ·rename_i c de;obtain⟨cal,args,tys⟩:=c;simp only[de]at aHT;simp only;split
  ·split
   ·rename_i x l ha;rw[h.ev (by rw[de];simp only[Op.operands,Call.operands,aS,bT,ha];simp)]
   ·rfl
  ·split
   ·rename_i x l ha;rw[h.ev (by rw[de];simp only[Op.operands,Call.operands,aS,bT,ha];simp)]
   ·rfl
  ·split
   ·rename_i x l ha;rw[h.ev (by rw[de];simp only[Op.operands,Call.operands,aS,bT,ha];simp)]
   ·rfl
  ·split
   ·rename_i x l ha;rw[h.ev (by rw[de];simp only[Op.operands,Call.operands,aS,bT,ha];simp)]
   ·rfl
  ·rename_i F;simp only at aHT;have hm:∀z,z=F\/z∈args.toList->z∈o.op.operands.toList:=λz hz=>by
    rw[de];simp only[Op.operands,Call.operands,bT,bE];rcases hz with rfl | hz
    ·exact .inl (by simp)
    ·exact .inr hz
   have h1:t.ev F=s.ev F:=h.ev (hm F (.inl rfl));have h2:args.toList.map t.ev=args.toList.map s.ev:=gg λx hx=>h.ev (hm x (.inr hx))
   rw[h1];split
   ·rename_i f caps hF;simp only[hF]at aHT;rw[h2];split
    ·rename_i en aqv;simp only[aqv]at aHT;exact xi _ _ _ λid cT=>by rw[aHT id cT]
    ·rfl
   ·rfl
  ·rfl
 ·rfl
theorem Yx(h:mr (gK Γ ops s o) s t):gK Γ ops t o=gK Γ ops s o:=by
 have h1:=ajL h;have h2:amO t o=amO s o:=by
  unfold amO;split
  ·rfl
  unfold List.flatMap;congr 1;exact gg λi hi=>by rw[h.cm i (bE.2 (.inl hi))]
 unfold gK;rw[h1,h2]
theorem xd{xs ys:List Id}(h:meets xs ys=false){id:Id}(hx:id∈xs):id ∉ ys:=by
 intro hy;have:meets xs ys=true:=by unfold meets;exact pJ.2 ⟨id,hx,pJ.2 ⟨id,hy,by simp⟩⟩
 rw[h]at this;cases this
theorem ur{d:Option Tmp}{ids:List Id}(h:aba d ids=false){q:Nat}(hd:d=some q)(j:Nat):Id.new q j ∉ ids:=by
 intro hy;have:aba d ids=true:=by subst hd;exact pJ.2 ⟨_,hy,by simp⟩
 rw[h]at this;cases this
theorem JH{f g:G5}(h:f.aP3 g=false){q:Nat}(hd:f.dst=some q):q ∉ g.cm/\g.dst≠some q:=by unfold G5.aP3 at h;rw[hd]at h;simp only[Bool.or_eq_false_iff,jb,bf,gJ]at h;exact⟨λhx=>h.1 q hx rfl,h.2⟩
theorem aoa(s:AS)(d:Option Tmp)(v:aB)(i:Nat)(h:d≠some i):(s.put d v).slot i=s.slot i:=by
 cases d with
 |none=>rfl
 |some q=>rw[abd,if_neg];rintro⟨rfl,_⟩;exact h rfl
theorem App.slot{d:Option Tmp}{E:aOF}{s s':AS}(h:App d E s s')(i:Nat)(hi:d≠some i):s'.slot i=s.slot i:=by rw[<-aoa s d E.v i hi];simp only[AS.slot,h.cm]
theorem aj2{f f':G5}{E:aOF}{s s1:AS}(ha:App f.dst E s s1)(hw:agu f s E)(aSE:∀id∈f'.ws,id∈f'.rs)(h1:f.aP3 f'=false)(h2:meets f.ws f'.rs=false)(h3:meets f'.ws f.rs=false)
  (h4:aba f.dst f'.rs=false):(∀i∈f'.cm,s1.slot i=s.slot i)/\(∀id∈f'.ws,s1.bR id=s.bR id)/\(∀id∈f'.rs,zo (s1.bR id) (s.bR id))/\∀q,f'.dst=some q->s1.dX q=s.dX q:=by
 have VX:∀id∈f'.rs,E.up id=none:=λid cT=>by
  cases hu:E.up id with
  |none=>rfl
  |some e=>
   rcases hw.up id e hu with⟨h,_⟩ | ⟨q,j,hd,rfl⟩
   ·exact absurd cT (xd h2 h)
   ·exact absurd cT (ur h4 hd j)
 refine⟨λi hi=>ha.slot i λhd=>(JH h1 hd).1 hi,λid cT=> ?_,λid cT=> ?_,λq hq=> ?_⟩
 ·rw[ha.bR,VX id (aSE id cT)];have:id ∉ E.fz:=λhz=>xd h3 cT (hw.fz id hz)
  simp only[if_neg this]
 ·rw[ha.bR,VX id cT];simp only;split
  ·exact azr _
  ·exact azs _
 ·have gj:∀j,(s1.bR (.new q j)=none↔s.bR (.new q j)=none):=λj=>by
   rw[ha.bR];cases hu:E.up (.new q j) with
   |none=>
    simp only;split <;> simp
   |some e=>
    rcases hw.up _ e hu with⟨_,h⟩ | ⟨q',j',hd,he⟩
    ·simp[h]
    ·simp only[Id.new.injEq]at he;obtain⟨rfl,_⟩:=he;exact absurd hq (JH h1 hd).2
  rw[Bool.eq_iff_iff,Bd,Bd,ha.len];exact and_congr Iff.rfl (forall_congr' gj)
theorem HB(s:AS)(o:Oper):∀id∈(gK Γ ops s o).ws,id∈(gK Γ ops s o).rs:=λ_ cT=>bE.2 (.inr cT)
theorem swap{o':Oper}{s1 s2:AS}(h1:Kb P Γ bJ ops o s=some s1)(h2:Kb P Γ bJ ops o' s1=some s2)(hi:(gK Γ ops s o).indep (gK Γ ops s1 o')=true):
  ∃t1,Kb P Γ bJ ops o' s=some t1/\Kb P Γ bJ ops o t1=some s2/\gK Γ ops s o'=gK Γ ops s1 o'/\gK Γ ops t1 o=gK Γ ops s o:=by
 unfold G5.indep at hi;simp only[au,cv]at hi;obtain⟨⟨⟨⟨⟨i1,i2⟩,i3⟩,i4⟩,i5⟩,i6⟩:=hi;obtain⟨E,a1,w1,l1⟩:=YE h1;obtain⟨E',a2,w2,l2⟩:=YE h2;obtain⟨g1,g2,g3,g4⟩:=aj2 (f:=gK Γ ops s o) (f':=gK Γ ops s1 o') a1 w1 (HB _ _) i1 i3 i4 i5;have NY:mr (gK Γ ops s1 o') s1 s:=⟨λi hi=>(g1 i hi).symm,λid cT=>(g2 id cT).symm,λid cT=>by
  have:=g3 id cT
  revert this
  cases s1.bR id <;> cases s.bR id <;> simp only[zo] <;> intro h <;> first | trivial | exact h | skip
  rename_i a b;cases a <;> cases b <;> simp_all [dE.ajX],λq hq=>(g4 q hq).symm⟩
 obtain⟨t1,k1,k2⟩:=l2 s NY;have hf':=Yx NY;have w2':agu (gK Γ ops s1 o') s E':=⟨λid e hu=>by
  rcases w2.up id e hu with⟨h,hn⟩ | h
  ·exact .inl ⟨h,by rw[<-g2 id h];exact hn⟩
  ·exact .inr h,w2.fz⟩
 obtain⟨m1,m2,m3,m4⟩:=aj2 (f:=gK Γ ops s1 o') (f':=gK Γ ops s o) k2 w2' (HB _ _) i2 i4 i3 i6;have aPH:mr (gK Γ ops s o) s t1:=⟨m1,m2,m3,m4⟩;obtain⟨t2,k3,k4⟩:=l1 t1 aPH;refine⟨t1,k1,?_,hf',Yx aPH⟩;rw[k3];congr 1;have aQn:∀id e,E.up id=some e->E'.up id=none/\id ∉ E'.fz:=λid e hu=>by
  rcases w1.up id e hu with⟨h,hn⟩ | ⟨q,j,hd,rfl⟩
  ·refine⟨?_,λhz=>xd i3 h (w2.fz id hz)⟩;cases hu':E'.up id with
   |none=>rfl
   |some e'=>
    rcases w2.up id e' hu' with⟨h',_⟩ | ⟨q,j,hd,rfl⟩
    ·exact absurd (HB _ _ id h') (xd i3 h)
    ·exact absurd (HB _ _ _ h) (ur i6 hd j)
  ·refine⟨?_,λhz=>ur i5 hd j (w2.fz _ hz)⟩;cases hu':E'.up (.new q j) with
   |none=>rfl
   |some e'=>
    rcases w2.up _ e' hu' with⟨h',_⟩ | ⟨q',j',hd',he⟩
    ·exact absurd (HB _ _ _ h') (ur i5 hd j)
    ·simp only[Id.new.injEq]at he;obtain⟨rfl,_⟩:=he;exact absurd hd' (JH i1 hd).2
 have aSL:∀id e,E'.up id=some e->E.up id=none/\id ∉ E.fz:=λid e hu=>by
  have hn:E.up id=none:=by
   cases aVj:E.up id with
   |none=>rfl
   |some e1=>rw[(aQn id e1 aVj).1]at hu;cases hu
  refine⟨hn,λhz=> ?_⟩;rcases w2.up id e hu with⟨h,_⟩ | ⟨q,j,hd,rfl⟩
  ·exact xd i4 h (w1.fz id hz)
  ·exact ur i6 hd j (w1.fz _ hz)
 refine AS.aC7 ?_ (by rw[k4.len,k2.len,a2.len,a1.len]) λid=> ?_
 ·have e1:∀(u u':AS) (d:Option Tmp) (v:aB),u.cm=u'.cm->(u.put d v).cm=(u'.put d v).cm:=λu u' d v h=>by cases d <;> simp[AS.put,h]
  rw[k4.cm,a2.cm,e1 t1 (s.put o'.dst E'.v) _ _ k2.cm,e1 s1 (s.put o.dst E.v) _ _ a1.cm];cases hd:o.dst with
  |none=>cases o'.dst <;> rfl
  |some q=>
   cases hd':o'.dst with
   |none=>rfl
   |some q'=>
    have gj:q'≠q:=λe=>(JH (f:=gK Γ ops s o) i1 hd).2 (by show o'.dst=some q;rw[hd',e])
    simp only[AS.put];exact List.set_comm _ _ gj
 ·rw[k4.bR,k2.bR,a2.bR,a1.bR];cases hu:E.up id with
  |some e=>
   obtain⟨h3,h4⟩:=aQn id e hu;simp only[h3,if_neg h4]
  |none=>
   simp only;cases hu':E'.up id with
   |some e=>
    obtain⟨_,h4⟩:=aSL id e hu';simp only[if_neg h4]
   |none=>
    simp only;by_cases z1:id∈E.fz <;> by_cases z2:id∈E'.fz <;> simp only[if_pos,if_neg,z1,z2,not_false_eq_true]
end
end Go.Ab
namespace Go.Ab
section
variable {P:Program} {Γ:ot} {bJ:List Nat} {ops:Array Oper}
def ajY(P:Program)(Γ:ot)(bJ:List Nat)(ops:Array Oper)(fs:Nat->G5):List Nat->AS->AS->Prop
 |[],s,sn=>s=sn
 |i::l,s,sn=>∃o,ops[i]? =some o/\gK Γ ops s o=fs i/\∃s',Kb P Γ bJ ops o s=some s'/\ajY P Γ bJ ops fs l s' sn
theorem ajY.aBE{fs:Nat->G5}{i:Nat}{l2:List Nat}{sn:AS}:∀(l1:List Nat) {s:AS},ajY P Γ bJ ops fs (l1++i::l2) s sn->(∀j∈l1,(fs j).indep (fs i)=true)->ajY P Γ bJ ops fs (i::(l1++l2)) s sn
 |[],_,h,_=>h
 |j::l1,s,h,hi=>by
  obtain⟨oj,h1,h2,s1,h3,h4⟩:=h;obtain⟨oi,h5,h6,s2,h7,h8⟩:=ajY.aBE l1 h4 λj hj=>hi j (aJ _ hj)
  have hd:=hi j (aO ..);rw[<-h2,<-h6]at hd;obtain⟨t1,k1,k2,k3,k4⟩:=swap h3 h7 hd;exact⟨oi,h5,by rw[k3,h6],t1,k1,oj,h1,by rw[k4,h2],s2,k2,h8⟩
theorem aeX{R:Type}{anc:List Nat}{k:AS->Option R}{r:R}:∀(l:List Oper) (i:Nat) (acc:List (Nat×G5)) (s:AS) (f0:Nat->G5),(∀n o,l[n]? =some o->ops[i+n]? =some o)->(∀x∈acc,f0 x.1=x.2/\x.1 < i)->
  aeW P Γ bJ ops anc i l acc s k=some r->∃fs sn,(∀j,j < i->fs j=f0 j)/\ajY P Γ bJ ops fs (List.range' i l.length) s sn/\k sn=some r/\
   (∀x∈acc,∀m,i<=m->m < i+l.length->(anc.getD m 0).testBit x.1=true\/x.2.indep (fs m)=true)/\(∀m1 m2,i<=m1->m1 < m2->m2 < i+l.length->(anc.getD m2 0).testBit m1=true\/(fs m1).indep (fs m2)=true)
 |[],i,acc,s,f0,_,_,h=>⟨f0,s,λ_ _=>rfl,rfl,h,λ_ _ m h1 h2=>by simp at h2;omega,λ_ _ h1 h2 h3=>by simp at h3;omega⟩
 |o::l,i,acc,s,f0,ho,hf,h=>by
  unfold aeW at h;split at h
  ·rename_i CG;simp only[AS.QE]at h;obtain⟨s',h1,h2⟩:=alM (k:=λs'=>aeW P Γ bJ ops anc (i+1) l ((i,gK Γ ops s o)::acc) s' k) h;have aRW:∀x∈(i,gK Γ ops s o)::acc,(if x.1=i then gK Γ ops s o else f0 x.1)=x.2/\x.1 < i+1:=λx hx=>by
    rcases cn.1 hx with rfl | hx
    ·simp
    ·obtain⟨q1,q2⟩:=hf x hx;rw[if_neg ak];exact⟨q1,ak⟩
   obtain⟨fs,sn,g1,g2,g3,g4,g5⟩:=aeX l (i+1) ((i,gK Γ ops s o)::acc) s' (λn=>if n=i then gK Γ ops s o else f0 n)
    (λn o' hn=>by have:=ho (n+1) o' (by simpa using hn);rw[<-this];congr 1;omega) aRW h2
   have gi:fs i=gK Γ ops s o:=by rw[g1 i ak,if_pos rfl]
   refine⟨fs,sn,λj hj=>by rw[g1 j ak,if_neg ak],?_,g3,λx hx m h3 h4=> ?_,λm1 m2 h3 h4 h5=> ?_⟩
   ·rw[aA,List.range'_succ];exact⟨o,ho 0 o rfl,gi.symm,s',h1,g2⟩
   ·rcases Nat.eq_or_lt_of_le h3 with rfl | h3
    ·have:=df.1 CG x hx;simp only[gC]at this;rcases this with h | h
     ·exact .inl h
     ·right;rw[gi];exact h
    ·exact g4 x (aJ _ hx) m ak (by simp only[aA]at h4;omega)
   ·rcases Nat.eq_or_lt_of_le h3 with rfl | h3
    ·rw[gi];exact g4 (i,gK Γ ops s o) (aO ..) m2 ak (by simp only[aA]at h5;omega)
    ·exact g5 m1 m2 ak h4 (by simp only[aA]at h5;omega)
  ·cases h
theorem aj8{acc:List Nat}{j:Nat}:∀ {l:List Edge},(l.foldr (λe m=>Nat.lor (Nat.lor (Nat.pow 2 e.on) (acc.getD e.on 0)) m) 0).testBit j=true->∃e∈l,j=e.on\/(acc.getD e.on 0).testBit j=true
 |[],h=>by simp at h
 |e::l,h=>by
  rw[List.foldr_cons,show ∀x y,Nat.lor x y=x ||| y from λ_ _=>rfl,show ∀x y,Nat.lor x y=x ||| y from λ_ _=>rfl,Nat.testBit_or,Nat.testBit_or,show Nat.pow 2 e.on=2^e.on from rfl,Nat.testBit_two_pow]at h;simp only[gC,bf]at h;rcases h with(h | h) | h
  ·exact⟨e,aO ..,.inl h.symm⟩
  ·exact⟨e,aO ..,.inr h⟩
  ·obtain⟨e',h1,h2⟩:=aj8 h;exact⟨e',aJ _ h1,h2⟩
theorem aee:∀(l:List Oper) (acc:List Nat),(∀i,i < acc.length->(l.foldl (λacc o=>acc++ [agw acc o]) acc)[i]? =acc[i]?)/\
  ∀i o,l[i]? =some o->(l.foldl (λacc o=>acc++ [agw acc o]) acc)[acc.length+i]? =some (agw ((l.foldl (λacc o=>acc++ [agw acc o]) acc).take (acc.length+i)) o)
 |[],acc=>⟨λ_ _=>rfl,λi o h=>by simp at h⟩
 |x::l,acc=>by
  obtain⟨h1,h2⟩:=aee l (acc++ [agw acc x]);simp only[bp];refine⟨λi hi=> ?_,λi o hi=> ?_⟩
  ·rw[h1 i (by simp;omega),fg hi]
  ·cases i with
   |zero=>
    simp only[fH,az]at hi;subst hi;rw[cj,h1 _ (by simp)];have:(l.foldl (λacc o=>acc++ [agw acc o]) (acc++ [agw acc x])).take acc.length=acc:=by
     apply kF;intro j;rw[da];split
     ·rename_i hj;rw[h1 j (by simp;omega),fg hj]
     ·rename_i hj;rw[dG ak]
    rw[this];simp
   |succ i=>
    have:=h2 i o (by simpa using hi);simp only[ai,aA,aY,aK]at this;rw[show acc.length+(i+1)=acc.length+1+i by omega];exact this
theorem aAZ{l:List Oper}{i:Nat}{o:Oper}(hi:l[i]? =some o){j:Nat}(hj:((aj9 l).getD i 0).testBit j=true):∃e∈o.after.toList,Region.binds .any e=true/\(j=e.on\/((aj9 l).getD e.on 0).testBit j=true):=by
 have h:=(aee l []).2 i o hi;have e:aj9 l=l.foldl (λacc o=>acc++ [agw acc o]) []:=rfl;rw[<-e]at h;simp only[aY,aK]at h;rw[aF,h]at hj;obtain⟨e,h1,h3⟩:=aj8 hj;obtain⟨h1,h2⟩:=nu.1 h1;refine⟨e,h1,h2,h3.imp id λh4=> ?_⟩;rw[aF,da]at h4;split at h4
 ·rw[aF];exact h4
 ·simp at h4
def agd(n:Nat)(listed:Array Bool):List Nat:=(List.range n).filter λi=> !listed.getD i true
theorem PO{n:Nat}{listed:Array Bool}{i:Nat}:i∈agd n listed↔i < n/\listed.getD i true=false:=by simp[agd]
theorem NU(n:Nat)(listed:Array Bool):(agd n listed).Pairwise (· < ·):=(List.pairwise_lt_range).filter _
theorem YD{listed:Array Bool}{i j:Nat}(d:Bool)(hi:i < listed.size):(listed.setIfInBounds i true).getD j d=if j=i then true else listed.getD j d:=by
 simp only[cH,dR];by_cases h:i=j
 ·subst h;simp[hi]
 ·simp[h,Ne.symm h]
theorem aLk{listed:Array Bool}{i:Nat}(hi:i < listed.size){l1 l2:List Nat}(h:agd listed.size listed=l1++i::l2):agd listed.size (listed.setIfInBounds i true)=l1++l2:=by
 have hs:=NU listed.size listed;rw[h]at hs;obtain⟨p1,p2,p3⟩:=List.pairwise_append.1 hs;obtain⟨p4,_⟩:=List.pairwise_cons.1 p2;have e:agd listed.size (listed.setIfInBounds i true)=(agd listed.size listed).filter λj=>decide (j≠i):=by
  unfold agd;rw[List.filter_filter];refine List.filter_congr λj _=> ?_
  rw[YD true hi];by_cases hj:j=i
  ·simp[hj]
  ·simp[hj]
 rw[e,h,List.filter_append,List.filter_cons];have f1:l1.filter (λj=>decide (j≠i))=l1:=ji.2 λj hj=>by have:=p3 j hj i (aO ..);simp;omega
 have f2:l2.filter (λj=>decide (j≠i))=l2:=ji.2 λj hj=>by have:=p4 j hj;simp;omega
 rw[f1,f2];simp
theorem avr{rd:Option Nat}{n:Nat}{C:Ctx}(hΓ:Sound P Γ){fs:Nat->G5}{sn:AS}{Q:Exit->Act->World->Prop}(hE:aht ops.toList=true)
  (aSd:∀m1 m2,m1 < m2->m2 < ops.size->((aj9 ops.toList).getD m2 0).testBit m1=true\/(fs m1).indep (fs m2)=true) (hQ:∀a w,ik C sn a w->Q .normal a w):
  ∀(fuel:Nat) (listed:Array Bool) (s:AS) (a:Act) (w:World),listed.size=ops.size->(agd ops.size listed).length=fuel->
   (∀i,i < ops.size->listed.getD i true=true->∀j,((aj9 ops.toList).getD i 0).testBit j=true->listed.getD j false=true)->ajY P Γ bJ ops fs (agd ops.size listed) s sn->ik C s a w->wpAnyIn (Fr rd) n P .any ops Q fuel listed a w:=by
 have aLL:∀i o,ops[i]? =some o->∀e∈o.after.toList,Region.binds .any e=true->e.on < i:=λi o hi e he hb=>by have:=df.1 hE (o,i) (List.mem_zipIdx_iff_getElem?.2 (by simpa using hi));have:=df.1 this e he;simpa[hb]using this
 have aNv:∀(listed:Array Bool),listed.size=ops.size->∀i,i∈Region.ready .any ops listed↔i∈agd ops.size listed/\∀o,ops[i]? =some o->∀e∈o.after.toList,Region.binds .any e=true->listed.getD e.on false=true:=λlisted _ i=>by
  rw[PO];unfold Region.ready;simp only[nu,List.mem_range,au,cv];constructor
  ·rintro⟨h1,h2,h3⟩;refine⟨⟨h1,h2⟩,λo ho e he hb=> ?_⟩;rw[ho]at h3;simp only[dT,dN,Array.all_eq_true',gC,cv]at h3;rcases h3 e (by simpa using he) with h | h
   ·rw[hb]at h;cases h
   ·exact h
  ·rintro⟨⟨h1,h2⟩,h3⟩;refine⟨h1,h2,?_⟩;obtain⟨o,ho⟩:∃o,ops[i]? =some o:=⟨ops[i],by simp[h1]⟩
   rw[ho];simp only[dT,dN,Array.all_eq_true',gC,cv];intro e he;cases hb:Region.binds .any e with
   |false=>exact .inl rfl
   |true=>exact .inr (h3 o ho e (by simpa using he) hb)
 have qw:∀(listed:Array Bool),listed.size=ops.size->Region.ready .any ops listed=[]->agd ops.size listed=[]:=λlisted hs hr=>by
  cases hu:agd ops.size listed with
  |nil=>rfl
  |cons i l=>
   exfalso;have hi:i∈agd ops.size listed:=by rw[hu];exact aO ..
   have aQk:=NU ops.size listed;rw[hu]at aQk;have:i∈Region.ready .any ops listed:=(aNv listed hs i).2 ⟨hi,λo ho e he hb=>by
    have gB:=aLL i o ho e he hb;have alT:=(PO.1 hi).1;cases hl:listed.getD e.on true with
    |false=>
     have hm:e.on∈agd ops.size listed:=PO.2 ⟨ak,hl⟩;rw[hu]at hm;rcases cn.1 hm with h | h
     ·omega
     ·have:=(List.pairwise_cons.1 aQk).1 _ h;omega
    |true=>
     have:e.on < listed.size:=ak;simp only[cH,ff this,dN]at hl ⊢;exact hl⟩
   rw[hr]at this;cases this
 intro fuel
 induction fuel with
 |zero=>
  intro listed s a w hs hl _ hr mn;have hn:agd ops.size listed=[]:=bC hl;refine⟨?_,?_⟩
  ·cases aSA:Region.ready .any ops listed with
   |nil=>rfl
   |cons i l=>
    have:i∈Region.ready .any ops listed:=by rw[aSA];exact aO ..
    have:=((aNv listed hs i).1 this).1;rw[hn]at this;cases this
  ·rw[hn]at hr;have:s=sn:=hr;subst this;exact hQ a w mn
 |succ fuel ih=>
  intro listed s a w hs hl aAB hr mn;refine⟨λaSA=> ?_,λi hi=> ?_⟩
  ·have:=qw listed hs aSA;rw[this]at hl;simp at hl
  ·obtain⟨hu,aPU⟩:=(aNv listed hs i).1 hi;obtain⟨alT,aVS⟩:=PO.1 hu;obtain⟨o,ho⟩:∃o,ops[i]? =some o:=⟨ops[i],by simp[alT]⟩
   obtain⟨l1,l2,aDH⟩:=List.append_of_mem hu;have aQk:=NU ops.size listed;rw[aDH]at aQk;have aPK:∀j,((aj9 ops.toList).getD i 0).testBit j=true->listed.getD j false=true:=λj hj=>by
    obtain⟨e,he,hb,h | h⟩:=aAZ (by simpa using ho) hj
    ·rw[h];exact aPU o ho e he hb
    ·have h1:=aPU o ho e he hb;have h2:=aLL i o ho e he hb;refine aAB e.on ak ?_ j h
     have:e.on < listed.size:=ak;simp only[cH,ff this,dN]at h1 ⊢;exact h1
   rw[aDH]at hr;have hb:=ajY.aBE l1 hr λj hj=>by
    have gB:j < i:=(List.pairwise_append.1 aQk).2.2 j hj i (aO ..);rcases aSd j i gB alT with h | h
    ·have h1:=aPK j h;have aUY:j∈agd ops.size listed:=by rw[aDH];exact bE.2 (.inl hj)
     have h2:=(PO.1 aUY).2;have:j < listed.size:=ak;simp only[cH,ff this,dN]at h1 h2;rw[h1]at h2;cases h2
    ·exact h
   obtain⟨o',ho',hf,s',hg,pV⟩:=hb;obtain rfl:o=o':=by rw[ho]at ho';simpa using ho'
   have ahS:agd ops.size (listed.setIfInBounds i true)=l1++l2:=by rw[<-hs]at aDH ⊢;exact aLk ak aDH
   refine((aeV hΓ mn hg).mono λa' w' hst'=>ih (listed.setIfInBounds i true) s' a' w' (by simpa using hs) ?_ ?_ (by rw[ahS];exact pV) hst').wpOpIn ho
   ·rw[ahS];rw[aDH]at hl;simp only[ai,aA]at hl ⊢;omega
   ·intro m hm aRi j hj;rw[YD false ak];split
    ·rfl
    ·rw[YD true ak]at aRi;split at aRi
     ·rename_i aU5;subst aU5;exact aPK j hj
     ·exact aAB m hm aRi j hj
theorem anx{rd:Option Nat}{n:Nat}{C:Ctx}(hm:P.follows .mixedOrders=true)(hΓ:Sound P Γ){id:Nat}{R:Type}{Q:Exit->Act->World->Prop}{s:AS}{a:Act}{w:World}{k:AS->Option R}{r:R}(h:ik C s a w)(hE:aht ops.toList=true)
  (he:aeW P Γ bJ ops (aj9 ops.toList) 0 ops.toList [] s k=some r) (hk:∀s' a' w',ik C s' a' w'->k s'=some r->Q .normal a' w'):(Code.region id ops true).wpIn (Fr rd) n P Q a w:=by
 obtain⟨fs,sn,_,g2,g3,_,g5⟩:=aeX ops.toList 0 [] s (λ_=>⟨none,[],[],[]⟩) (λn o hn=>by simpa using hn) (λ_ hx=>by cases hx) he;refine wpIn_region_any hm ?_
 obtain⟨g,β,h⟩:=h;have hu:agd ops.size (Array.replicate ops.size false)=List.range' 0 ops.toList.length:=by
  unfold agd;rw[ji.2]
  ·simp[List.range_eq_range']
  ·intro i hi;have hi:i < ops.size:=by simpa using hi
   simp[cH,hi]
 refine avr (bJ:=bJ) hΓ hE (fs:=fs) (sn:=sn) (λm1 m2 h1 h2=>g5 m1 m2 (aM _) h1 (by simpa using h2)) (λa' w' hs=>hk sn a' w' hs g3) ops.size _ s a _ (by simp) (by rw[hu];simp) (λi hi hl=> ?_) (by rw[hu];exact g2) ⟨g,β,h.drew⟩;simp[cH,hi]at hl
end
end Go.Ab
namespace Go.Ab
theorem xl{ρ:Ren}{s:AS}(h:∀id,(s.obj id).isSome=true->∀ver,ρ id ver=some (id,ver)):∀(v:aB),v.there s=true->v.iE ρ=v
 | .ptr id ver p n,ht=>by simp only[aB.iE];rw[h id ht]
 | .bz id ver p c i len,ht=>by simp only[aB.iE];rw[h id ht]
 | .pr a b,ht=>by simp only[aB.there,au]at ht;simp only[aB.iE];rw[xl h a ht.1,xl h b ht.2]
 | .cons a b,ht=>by simp only[aB.there,au]at ht;simp only[aB.iE];rw[xl h a ht.1,xl h b ht.2]
 | .fn f c,ht=>by simp only[aB.iE];rw[xl h c ht]
 | .bx e z c,ht=>by simp only[aB.iE];rw[xl h c ht]
 | .cq id ver,ht=>by simp only[aB.iE];rw[h id ht]
 | .yl id ver,ht=>by simp only[aB.iE];rw[h id ht]
 | .qZ k f p,ht=>by simp only[aB.iE];rw[xl h f ht]
 | .sJ ..,ht=>by cases ht
 | .undef,_ | .gone,_ | .cX,_ | .qE,_ | .xe,_ | .CM,_ | .d _ _,_ | .dO _ _,_ | .nil,_ | .vec ..,_ | .mp ..,_ | .sb _,_=>rfl
theorem aMm.aV{E E':Env}(hm:tq E E')(hh:∀b:Nat,E'.w.heap[b]? =E.w.heap[b]?){i q:Id}{ver:Nat}{kt vt:Ty}{rest:List (kt.den×vt.den)}{cur:Option (kt.den×vt.den)}(h:aMm E i q ver kt vt rest cur)(hβ:E'.β i=E.β i)
  (hg:∀pl,E.β i=some pl->E.g pl.b= .own (.id i) 0->E'.g pl.b= .own (.id i) 0)
  (hq:∀vr,ver=vr+1->(E.F8 q vr->E'.F8 q vr/\(E'.cur q vr->E.cur q vr/\E'.β q=E.β q))/\(∀k v l,E.s q=some (.obj vr true (.mp k v l))->E'.s q=some (.obj vr true (.mp k v l)))/\
   ∀pl,E.β q=some pl->E.g pl.b= .own (.id q) 0->E'.g pl.b= .own (.id q) 0):aMm E' i q ver kt vt rest cur:=by
 obtain⟨pl,mb,since,seen,c0,h1,h2,h3,h4⟩:=h;refine⟨pl,mb,since,seen,c0,by rw[hβ,h1],by rw[hh,h2],hg pl h1 h3,λvr aoW=> ?_⟩;obtain⟨h5,h6⟩:=h4 vr aoW;obtain⟨q1,q2,q3⟩:=hq vr aoW;obtain⟨b1,b2⟩:=q1 h5;refine⟨b1,λhc=> ?_⟩;obtain⟨c1,c2⟩:=b2 hc;obtain⟨⟨k,v,l,k0⟩,plq,es,clock,k1,k2,k3,k4,k5,k6,k7,k8,k9⟩:=h6 c1;exact⟨⟨k,v,l,q2 _ _ _ k0⟩,plq,es,clock,by rw[c2,k1],k2,by rw[hh,k3],q3 _ k1 k4,k5,k6,k7,k8.mono hm,λx hx=>
  let⟨e,se,a1,a2,a3,a4⟩:=k9 x hx
  ⟨e,se,a1,a2,a3,a4.mono hm⟩⟩
theorem aqL(c:aB):(∃q ver k v l cu,c= .sJ q ver k v l cu)\/(∀ρ kp,c.ay1 ρ kp=c.iE ρ)/\∀s v fr,dE.there s (.obj v fr c)=c.there s:=by cases c <;> first | exact .inl ⟨_,_,_,_,_,_,rfl⟩ | exact .inr ⟨λ_ _=>rfl,λ_ _ _=>rfl⟩
section
variable {P:Program} {C:Ctx} {g:Nat->lU} {β:Id->Option Pl} {s:AS} {a:Act} {w:World}
theorem Inv.S3(h:Inv C g β s a w)(hC:C.ok){s1:AS}{g1:Nat->lU}{β1:Id->Option Pl}(ρ:Ren)(hlen:s1.cm.length=s.cm.length)(ht:Trans w w g g1)(hle:zV ρ (s.env w g β) (s1.env w g1 β1))
  (YL:∀i,VS (s1.env w g1 β1) (s1.slot i) (a.tmps.getD i undef))
  (cP:∀id ver fr c,s1.bR id=some (.obj ver fr c)->wS (s1.env w g1 β1) id fr c\/∃id0 v0 c0,s.bR id0=some (.obj v0 fr c0)/\c0.iE ρ=c/\β1 id=β id0/\∀pl,β id0=some pl->(∀k,g pl.b= .own (.id id0) k->g1 pl.b= .own (.id id) k)/\(g pl.b= .free->g1 pl.b= .free))
  (hold:∀k,(s.bR (.bj k)≠none->s1.bR (.bj k)≠none)/\(∀v fr c,s1.bR (.bj k)=some (.obj v fr c)->∃c0,s.bR (.bj k)=some (.obj v fr c0))/\β1 (.bj k)=β (.bj k)):Inv C g1 β1 s1 a w:=by
 refine⟨h.defers.mono ht,by rw[hlen];exact h.size,YL,λid ver fr c cT=> ?_,h.trans.trans ht,?_⟩
 ·rcases cP id ver fr c cT with ho | ⟨id0,v0,c0,h1,h2,h3,h4⟩
  ·exact ho
  have:=wT hle (h.bJ id0 v0 fr c0 h1) (id':=id) h3 λpl hp=>⟨rfl,(h4 pl hp).1,(h4 pl hp).2⟩
  rw[h2]at this;exact this
 ·have hl:=h.le;have ho:∀id ver,C.E.F8 id ver->∃k,id= .bj k:=λid ver hb=>by
   cases id with
   |bj k=>exact⟨k,rfl⟩
   |new i j=>exact absurd (hC.1 i j) hb.1
  refine⟨hl.mem.trans (Trans.mem (E:=s.env w g β) (E':=s1.env w g1 β1) ht),λid ver hb=> ?_,λid ver hb hc=> ?_⟩
  ·obtain⟨k,rfl⟩:=ho id ver hb;obtain⟨h1,h2⟩:=hl.F8 _ ver hb;obtain⟨e1,e2,_⟩:=hold k;exact⟨e1 h1,λv fr c hh=>let⟨c0,WJ⟩:=e2 v fr c hh;h2 v fr c0 WJ⟩
  ·obtain⟨k,rfl⟩:=ho id ver hb;obtain⟨fr,c,hc⟩:=hc;obtain⟨_,e2,e3⟩:=hold k;obtain⟨c0,WJ⟩:=e2 _ _ _ hc;obtain⟨h1,h2⟩:=hl.cur _ ver hb ⟨fr,c0,WJ⟩;exact⟨h1,e3.trans h2⟩
theorem Inv.renamed(h:Inv C g β s a w)(hC:C.ok){s1:AS}{β1:Id->Option Pl}(ρ:Ren)(hlen:s1.cm.length=s.cm.length)(hle:zV ρ (s.env w g β) (s1.env w g β1))
  (YL:∀i,VS (s1.env w g β1) (s1.slot i) (a.tmps.getD i undef)) (cP:∀id ver fr c,s1.bR id=some (.obj ver fr c)->wS (s1.env w g β1) id fr c\/∃v0,s.bR id=some (.obj v0 fr c)/\c.iE ρ=c/\β1 id=β id)
  (hold:∀k,s1.bR (.bj k)=s.bR (.bj k)/\β1 (.bj k)=β (.bj k)):Inv C g β1 s1 a w:=
 h.S3 hC ρ hlen (Trans.refl w g) hle YL (λid ver fr c cT=>(cP id ver fr c cT).imp (λh=>h) λ⟨v0,h1,h2,h3⟩=>⟨id,v0,c,h1,h2,h3,λ_ _=>⟨λ_ h=>h,λh=>h⟩⟩)
  λk=>⟨λhh=>by rw[(hold k).1];exact hh,λv fr c hh=>⟨c,(hold k).1.symm.trans hh⟩,(hold k).2⟩
theorem Inv.aQH(h:Inv C g β s a w)(j:Nat){v:aB}(hv:VS (s.env w g β) v (a.tmps.getD j undef)):Inv C g β (s.put (some j) v) a w:=by
 refine⟨h.defers,by simpa[AS.put]using h.size,λi=> ?_,by simpa using h.bJ,h.trans,by simpa using h.le⟩;rw[ahv,abd];split
 ·rename_i aRg;rw[aRg.1];exact hv
 ·exact h.cm i
theorem Tq(aV:List Nat):∀(l:List aB) (n i:Nat),(eF aV n l).getD i .undef= .undef\/(eF aV n l).getD i .undef=l.getD i .undef
 |[],n,i=>by simp[eF]
 |v::l,n,0=>by
  simp only[eF,jj];split
  ·exact .inr rfl
  ·exact .inl rfl
 |v::l,n,i+1=>by simp only[eF,qB];exact Tq aV l (n+1) i
theorem CH(aV:List Nat):∀(l:List aB) (n:Nat),(eF aV n l).length=l.length
 |[],n=>rfl
 |v::l,n=>by simp[eF,CH aV l]
theorem af0(aV:List Nat):∀(l:List (List dE)) (n i:Nat),(nN aV n l).getD i []=[]\/(nN aV n l).getD i []=l.getD i []
 |[],n,i=>by simp[nN]
 |v::l,n,0=>by
  simp only[nN,jj];split
  ·exact .inr rfl
  ·exact .inl rfl
 |v::l,n,i+1=>by simp only[nN,qB];exact af0 aV l (n+1) i
theorem axQ{s:AS}(i:Nat):s.slot i= .undef\/s.slot i∈s.cm:=by
 unfold AS.slot;rw[aF];cases h:s.cm[i]? with
 |none=>exact .inl rfl
 |some v=>exact .inr (cI h)
theorem aI8{s:AS}{id:Id}{e:dE}(h:s.bR id=some e):e∈s.bV\/∃es∈s.news,e∈es:=by
 cases id with
 |bj k=>exact .inl (cI h)
 |new i j=>
  simp only[AS.bR,aF]at h;cases hi:s.news[i]? with
  |none=>rw[hi]at h;simp at h
  |some es=>rw[hi]at h;exact .inr ⟨es,cI hi,cI h⟩
theorem Inv.aV(h:Inv C g β s a w)(hC:C.ok){an:od}(ht:(PA an s).aj5=true):Inv C g β (PA an s) a w:=by
 obtain⟨ks,kt,_,_,_⟩:=an;obtain⟨s1,Rx⟩:∃s1:AS,s1= {cm:=eF ks 0 s.cm,bV:=s.bV,news:=nN kt 0 s.news}:=⟨_,rfl⟩;have e1:s1.cm=eF ks 0 s.cm:=by rw[Rx]
 have e2:s1.bV=s.bV:=by rw[Rx]
 have e3:s1.news=nN kt 0 s.news:=by rw[Rx]
 have ht:(s1.cm.all (aB.there s1) && s1.bV.all (dE.there s1) && s1.news.all λes=>es.all (dE.there s1))=true:=by rw[Rx];exact ht
 show Inv C g β {cm:=eF ks 0 s.cm,bV:=s.bV,news:=nN kt 0 s.news} a w;rw[<-Rx];rw[au,au]at ht;obtain⟨⟨t1,t2⟩,t3⟩:=ht;have cP:∀id,s1.bR id=none\/s1.bR id=s.bR id:=λid=>by
  cases id with
  |bj k=>right;simp only[AS.bR,e2]
  |new i j=>
   simp only[AS.bR,e3];rcases af0 kt s.news 0 i with h | h
   ·rw[h];exact .inl rfl
   ·rw[h];exact .inr rfl
 have aJu:∀id,(s1.obj id).isSome=true->s1.bR id=s.bR id:=λid hi=>by
  rcases cP id with h | h
  ·simp[AS.obj,h]at hi
  ·exact h
 let ρ:Ren:=λid ver=>if(s1.obj id).isSome=true then some (id,ver) else none
 have hρ:∀v:aB,v.there s1=true->v.iE ρ=v:=xl λid cT ver=>if_pos cT
 have hle:zV ρ (s.env w g β) (s1.env w g β):=by
  refine⟨⟨λ_ _ _ h=>h,λ_ _ h h'=>⟨h,h'⟩⟩,λid ver r hr hb=> ?_⟩;by_cases hi:(s1.obj id).isSome=true
  ·have:ρ id ver=some (id,ver):=if_pos hi;rw[this,az]at hr;subst hr;have e:=aJu id hi;obtain⟨b1,b2⟩:=hb;exact⟨⟨by show s1.bR id≠none;rw[e];exact b1,λv fr c hh=>b2 v fr c (e.symm.trans hh)⟩,λ⟨fr,c,hc⟩=>⟨⟨fr,c,e.symm.trans hc⟩,rfl⟩⟩
  ·have:ρ id ver=none:=if_neg hi;rw[this]at hr;cases hr
 refine h.renamed hC ρ (by rw[e1,CH]) hle (λi=> ?_) (λid ver fr c cT=> ?_) λk=>⟨by simp only[AS.bR,e2],rfl⟩
 ·rcases axQ (s:=s1) i with hi | hi
  ·rw[hi];exact VS.undef
  ·have aSI:=df.1 t1 _ hi;rcases Tq ks s.cm 0 i with h1 | h1
   ·have:s1.slot i= .undef:=by simp only[AS.slot,e1,h1]
    rw[this];exact VS.undef
   ·have:s1.slot i=s.slot i:=by simp only[AS.slot,e1,h1]
    have hv:=G6 hle (h.cm i);rw[<-this,hρ _ aSI]at hv;exact hv
 ·have:s1.bR id=s.bR id:=by
   rcases cP id with h | h
   ·rw[h]at cT;cases cT
   ·exact h
  have hc:dE.there s1 (.obj ver fr c)=true:=by
   rcases aI8 cT with h | ⟨es,h1,h2⟩
   ·exact df.1 t2 _ h
   ·exact df.1 (df.1 t3 _ h1) _ h2
  rcases aqL c with⟨q,vq,k,v,l,cu,rfl⟩ | ⟨_,aSI⟩
  ·have e:=aJu q hc;refine .inl (aMm.aV hle.mem (λ_=>rfl) (h.bJ id ver fr _ (this.symm.trans cT)) rfl (λ_ _ h=>h) λvr _=>⟨λhb=>hle.ref q vr (q,vr) (if_pos hc) hb,λk v l hk=>e.trans hk,λ_ _ h=>h⟩)
  ·rw[aSI]at hc;exact .inr ⟨ver,this.symm.trans cT,hρ c hc,rfl⟩
theorem Inv.drop(h:Inv C g β s a w)(ks:List Nat):Inv C g β (s.drop ks) a w:=by
 refine⟨h.defers,by simpa[AS.drop,CH]using h.size,λi=> ?_,h.bJ,h.trans,h.le⟩;rcases Tq ks s.cm 0 i with h1 | h1
 ·have:(s.drop ks).slot i= .undef:=h1;rw[this];exact VS.undef
 ·have:(s.drop ks).slot i=s.slot i:=h1;rw[this];exact h.cm i
def Fp(b q:Nat):lU->lU
 | .own (.id (.new x j)) k=>if x=b then .own (.id (.new q j)) k else .own (.id (.new x j)) k
 |l=>l
theorem Trans.aQF(w:World)(g:Nat->lU)(b q:Nat):Trans w w g λx=>Fp b q (g x):=by
 refine⟨rfl,rfl,⟨rfl,ax _⟩,ax _,λy _=> ?_⟩;cases hg:g y with
 |free=>exact⟨by simp[Fp],rfl⟩
 |own o k=>cases o with
  |ed=>exact⟨by simp[Fp],rfl⟩
  |id x=>
   refine⟨.inr ?_,λ_ _ _ h=>h⟩;cases x with
   |bj m=>exact⟨_,_,rfl,ax _⟩
   |new x j=>
    simp only[Fp];split
    ·exact⟨_,_,rfl,ax _⟩
    ·exact⟨_,_,rfl,ax _⟩
theorem abc(f:aB->aB)(hf:f .undef= .undef)(l:List aB)(i:Nat):(l.map f).getD i .undef=f (l.getD i .undef):=by simp only[aF,ea];cases l[i]? <;> simp[hf]
theorem Inv.IB(h:Inv C g β s a w)(hC:C.ok){b q:Nat}(aOT:b < s.news.length)(aSx:q < s.news.length):
  ∃g1 β1,Inv C g1 β1 (s.IB b q (s.news.getD b [])) a w:=by
 generalize aUO:s.news.getD b []=es;have aPX:∀j,s.bR (.new b j)=es[j]? :=λj=>by rw[<-aUO];rfl
 let ρ:Ren:=Qj es b q
 let s1:=s.IB b q es
 have kS:∀j',s1.bR (.new q j')=(es[j']?).map (dE.ar3 ρ):=λj'=>by simp[s1,AS.IB,AS.bR,aF,aSx,ρ]
 have aP2:b≠q->∀j',s1.bR (.new b j')=none:=λaNe j'=>by
  have hbq':¬q=b:=λe=>aNe e.symm
  simp only[s1,AS.IB,AS.bR,aF];rw[dY hbq',List.getElem?_set,if_pos rfl];split <;> simp
 have Kf:∀i,(∀j',i≠ .new q j')->(∀j',i≠ .new b j')->s1.bR i=(s.bR i).map (dE.adr ρ (JQ b q)):=λi hi hi'=>by
  cases i with
  |bj k=>simp[s1,AS.IB,AS.bR,ρ]
  |new x y=>
   have h1:¬q=x:=λe=>hi y (by rw[e])
   have h2:¬b=x:=λe=>hi' y (by rw[e])
   simp only[s1,AS.IB,AS.bR,aF];rw[dY h1,dY h2,ea];cases s.news[x]? <;> simp[ρ]
 let g1:Nat->lU:=λx=>Fp b q (g x)
 let β1:Id->Option Pl:=λi=>match i with | .new x j=>if x=q then β (.new b j) else β (.new x j) | .bj k=>β (.bj k)
 have hβ1:∀i,(∀j',i≠ .new q j')->β1 i=β i:=λi hi=>by
  cases i with
  |bj k=>rfl
  |new x y=>exact if_neg λe=>hi y (by rw[e])
 have ht:Trans w w g g1:=Trans.aQF w g _ _;have hρ:∀i ver r,ρ i ver=some r->(∃j fr c,i= .new b j/\es[j]? =some (.obj ver fr c)/\r=(.new q j,0))\/((∀j',i≠ .new q j')/\(∀j',i≠ .new b j')/\r=(i,ver)):=λi ver r hr=>by
  replace hr:Qj es b q i ver=some r:=hr
  cases i with
  |bj k=>exact .inr ⟨λ_=>by simp,λ_=>by simp,(bl hr).symm⟩
  |new x j=>
   unfold Qj at hr;simp only at hr;split at hr
   ·rename_i hx;have hx:x=b:=by simpa using hx
    subst hx;split at hr
    ·rename_i v fr c he;split at hr
     ·rename_i hv;have hv:ver=v:=by simpa using hv
      subst hv;exact .inl ⟨j,fr,c,rfl,he,(bl hr).symm⟩
     ·cases hr
    ·cases hr
   ·rename_i hx;have hx:¬x=b:=by simpa using hx
    split at hr
    ·cases hr
    ·rename_i hx';have hx':¬x=q:=by simpa using hx'
     exact .inr ⟨λ_ e=>hx' (by injection e),λ_ e=>hx (by injection e),(bl hr).symm⟩
 have hle:zV ρ (s.env w g β) (s1.env w g1 β1):=by
  refine⟨Trans.mem (E:=s.env w g β) (E':=s1.env w g1 β1) ht,λi ver r hr alR=> ?_⟩;rcases hρ i ver r hr with⟨j,fr,c,rfl,he,rfl⟩ | ⟨hi,hi',rfl⟩
  ·refine⟨⟨by show s1.bR (.new q j)≠none;rw[kS,he];simp,λ_ _ _ _=>aM _⟩,λ_=>⟨⟨fr,c,(aPX j).trans he⟩,if_pos rfl⟩⟩
  ·obtain⟨k1,k2⟩:=alR;have k1:s.bR i≠none:=k1;have e:s1.bR i=(s.bR i).map (dE.adr ρ (JQ b q)):=Kf i hi hi';have back:∀v' fr' c',s1.bR i=some (.obj v' fr' c')->∃c0,s.bR i=some (.obj v' fr' c0):=λv' fr' c' hh=>by
    rw[e]at hh;cases hs:s.bR i with
    |none=>exact absurd hs k1
    |some en=>
     rw[hs]at hh;cases en with
     |dead=>simp[dE.adr]at hh
     |obj v0 fr0 c0=>
      simp only[dT,dE.adr,az,dE.obj.injEq]at hh;obtain⟨rfl,rfl,_⟩:=hh;exact⟨c0,rfl⟩
   refine⟨⟨by
    show s1.bR i≠none;rw[e];cases hs:s.bR i with
    |none=>exact absurd hs k1
    |some en=>simp,λv' fr' c' hh=> ?_⟩,λ⟨fr',c',hh⟩=> ?_⟩
   ·obtain⟨c0,WJ⟩:=back v' fr' c' hh;exact k2 v' fr' c0 WJ
   ·obtain⟨c0,WJ⟩:=back ver fr' c' hh;exact⟨⟨fr',c0,WJ⟩,hβ1 i hi⟩
 have aRe:∀(i:Id),(∀j',i≠ .new b j')->∀(x:Nat) (k:Nat),g x= .own (.id i) k->g1 x= .own (.id i) k:=λi hi x k hk=>by
  show Fp b q (g x)=_;rw[hk];cases i with
  |bj m=>rfl
  |new y j=>exact if_neg λe=>hi j (by rw[e])
 refine⟨g1,β1,h.S3 hC ρ (by simp[AS.IB]) ht hle (λi=> ?_) (λid ver fr' c' cT=> ?_) λk=>⟨λhk=> ?_,λv' fr' c' hh=> ?_,rfl⟩⟩
 ·have:(s.IB b q es).slot i=(s.slot i).iE ρ:=abc _ rfl _ _;rw[this];exact G6 hle (h.cm i)
 ·have cT:s1.bR id=some (.obj ver fr' c'):=cT;by_cases hi:∃j',id= .new q j'
  ·obtain⟨j',rfl⟩:=hi;rw[kS]at cT;cases he:es[j']? with
   |none=>rw[he]at cT;cases cT
   |some en=>
    rw[he]at cT;cases en with
    |dead=>simp[dE.ar3]at cT
    |obj v0 fr0 c0=>
     simp only[dT,dE.ar3,az,dE.obj.injEq]at cT;obtain⟨_,rfl,rfl⟩:=cT;exact .inr ⟨.new b j',v0,c0,(aPX j').trans he,rfl,if_pos rfl,λpl hp=>⟨λk hk=>by
      show Fp b q (g pl.b)=_;rw[hk];exact if_pos rfl,λhk=>by
      show Fp b q (g pl.b)=_;rw[hk];rfl⟩⟩
  ·by_cases hi':∃j',id= .new b j'
   ·obtain⟨j',rfl⟩:=hi';have aNe:b≠q:=λe=>hi ⟨j',by rw[e]⟩
    rw[aP2 aNe]at cT;cases cT
   ·have aRj:∀j',id≠ .new q j':=λj' e=>hi ⟨j',e⟩
    have hni':∀j',id≠ .new b j':=λj' e=>hi' ⟨j',e⟩
    have e:=Kf id aRj hni';rw[e]at cT;cases hs:s.bR id with
    |none=>rw[hs]at cT;cases cT
    |some en=>
     rw[hs]at cT;cases en with
     |dead=>simp[dE.adr]at cT
     |obj v0 fr0 c0=>
      simp only[dT,dE.adr,az,dE.obj.injEq]at cT;obtain⟨rfl,rfl,rfl⟩:=cT;rcases aqL c0 with⟨q2,vq,k,v2,l,cu,rfl⟩ | ⟨aNw,_⟩
      ·have h0:=h.bJ id v0 fr0 _ hs;left;simp only[aB.ay1];cases aRh:JQ b q q2 with
       |true=>
        have ahN:(∀j',q2≠ .new b j')/\(∀j',q2≠ .new q j')/\∀vr,ρ q2 vr=some (q2,vr):=by
         cases q2 with
         |bj k=>exact⟨λ_=>by simp,λ_=>by simp,λ_=>rfl⟩
         |new x y=>
          simp only[JQ,au,cv,gJ]at aRh;obtain⟨k1,k2⟩:=aRh;refine⟨λ_ e=>k1 (by injection e),λ_ e=>k2 (by injection e),λvr=> ?_⟩;show Qj es b q (.new x y) vr=_;unfold Qj;simp only[jg k1,jg k2]
        obtain⟨ahN,aoU,hρq⟩:=ahN;refine aMm.aV hle.mem (λ_=>rfl) h0 (hβ1 id aRj) (λpl _ hk=>aRe id hni' _ _ hk) λvr _=>⟨λhb=>hle.ref q2 vr (q2,vr) (hρq vr) hb,λk v l hk=> ?_,λpl _ hk=>aRe q2 ahN _ _ hk⟩
        have hk:s.bR q2=some (.obj vr true (.mp k v l)):=hk;show s1.bR q2=_;rw[Kf q2 aoU ahN,hk];rfl
       |false=>
        obtain⟨pl,mb,since,seen,c0,h1,h2,h3,h4⟩:=h0;exact⟨pl,mb,since,seen,c0,(hβ1 id aRj).trans h1,h2,aRe id hni' _ _ h3,λvr aoW=>ak⟩
      rw[aNw];exact .inr ⟨id,v0,c0,hs,rfl,hβ1 id aRj,λpl hp=>⟨λk hk=>aRe id hni' _ _ hk,λhk=>by
       show Fp b q (g pl.b)=_;rw[hk];rfl⟩⟩
 ·have e:=Kf (.bj k) (λ_=>by simp) (λ_=>by simp);show s1.bR (.bj k)≠none;rw[e];cases hs:s.bR (.bj k) with
  |none=>exact absurd hs hk
  |some en=>simp
 ·have e:=Kf (.bj k) (λ_=>by simp) (λ_=>by simp);have hh:s1.bR (.bj k)=some (.obj v' fr' c'):=hh;rw[e]at hh;cases hs:s.bR (.bj k) with
  |none=>rw[hs]at hh;cases hh
  |some en=>
   rw[hs]at hh;cases en with
   |dead=>simp[dE.adr]at hh
   |obj v0 fr0 c0=>
    simp only[dT,dE.adr,az,dE.obj.injEq]at hh;obtain⟨rfl,rfl,_⟩:=hh;exact⟨c0,rfl⟩
theorem ab5{k t:Ty}{l:List (k.den×t.den)}:∀ {p:List J8} {x c':aB},¬(xR (.mp k t l) p x).eval=some c'
 |[],x,c',h=>by simp only[xR,av]at h
 | .arr::p,x,c',h=>by simp only[xR]at h;exact ab5 h
 | .idx i::p,x,c',h=>by simp only[xR,av]at h
 | .fst::p,x,c',h=>by simp only[xR,av]at h
 | .snd::p,x,c',h=>by simp only[xR,av]at h
theorem ajA{q:Id}{vq:Nat}{k t:Ty}{l:List (k.den×t.den)}{cu:Option (k.den×t.den)}:∀ {p:List J8} {x c':aB},¬(xR (.sJ q vq k t l cu) p x).eval=some c'
 |[],x,c',h=>by simp only[xR,av]at h
 | .arr::p,x,c',h=>by simp only[xR]at h;exact ajA h
 | .idx i::p,x,c',h=>by simp only[xR,av]at h
 | .fst::p,x,c',h=>by simp only[xR,av]at h
 | .snd::p,x,c',h=>by simp only[xR,av]at h
theorem ajB{k:u6}{f:aB}{m:Nat}:∀ {p:List J8} {x c':aB},¬(xR (.qZ k f m) p x).eval=some c'
 |[],x,c',h=>by simp only[xR,av]at h
 | .arr::p,x,c',h=>by simp only[xR]at h;exact ajB h
 | .idx i::p,x,c',h=>by simp only[xR,av]at h
 | .fst::p,x,c',h=>by simp only[xR,av]at h
 | .snd::p,x,c',h=>by simp only[xR,av]at h
theorem Vx{l:List Value}{n:Nat}{vs:List Value}(h:(l.drop n).take vs.length=vs):du l n vs=l:=by
 unfold du;have h2:l.drop n=vs++l.drop (n+vs.length):=by
  conv=>lhs;rw[<-dH vs.length (l.drop n)]
  rw[h,fK]
 have h3:=dH n l;rw[h2]at h3;simpa[aD]using h3
theorem Inv.aQy(h:Inv C g β s a w){j:Nat}{p:List J8}(Rv:(s.at j p).eval=some .cX){q:Nat}(hq:s.dX q=true){e:TypeId}{t:Ty}(hz:0 < t.size){s':AS}
  (he:((s.born q [.obj 0 false (.vec e t [])]).putAt j (.bz (.new q 0) 0 [] 0 0 0) p).eval=some s'):ik C s' a w:=by
 obtain⟨β',h1,h2,h3⟩:=h.aEO hq (e:=e) hz;cases p with
 |nil=>
  simp only[AS.at]at Rv;have hj:=ay.1 Rv;simp only[AS.putAt]at he;obtain rfl:=ay.1 he;refine⟨g,β',h1.aQH j ?_⟩;have:=h.cm j;rw[hj]at this;rw[kW this];exact h3
 |cons st p=>
  simp only[AS.at]at Rv;simp only[AS.putAt]at he;have YL:(s.born q [.obj 0 false (.vec e t [])]).slot j=s.slot j:=rfl;rw[YL]at he;split at Rv
  ·rename_i id ver p0 nn hj;split at Rv
   ·rename_i v fr c lN;obtain⟨hv,Rv⟩:=aC.1 Rv;obtain⟨⟨n,u⟩,hl,Rv⟩:=aw.1 Rv;have hu:=ay.1 Rv;simp only at hu;subst hu;have cP:=dZ lN;have gj:id≠ .new q 0:=λe=>by rw[e,(ke hq).1 0]at cP;cases cP
    have hne':∀j',id≠ .new q j':=λj' e=>by rw[e,(ke hq).1 j']at cP;cases cP
    have xO:(s.born q [.obj 0 false (.vec e t [])]).bR id=some (.obj v fr c):=(iU _ hne').trans cP;have aNs:(s.born q [.obj 0 false (.vec e t [])]).obj id=some (v,fr,c):=by simp only[AS.obj,xO]
    simp only[hj,aNs]at he;split at he
    ·simp only[av]at he
    ·rename_i c1 aR1;obtain⟨c',VX,he⟩:=aw.1 he;obtain rfl:=ay.1 he;have hn:c.iB=false:=by cases c <;> first | rfl | (exact(aR1 _ _ _ rfl).elim) | (exact absurd VX ab5) | (exact absurd VX ajA) | (exact absurd VX ajB)
     have hO:=h1.bJ id v fr c xO;obtain⟨pl,cur,e0,hp,hh,hg,hk,hV⟩:=hO.box hn;have ht:=Trans.refl w g;have hN:=Wz hk;have hle:=cM.bh (s:=s.born q [.obj 0 false (.vec e t [])]) (β:=β') (v':=v) (fr':=fr) (c':=c.wrap c') xO (ax _) ht (λ_ _=>rfl) (λ_=>rfl);refine⟨g,β',h1.step (dd _ _ _) ht hle (iI.bh h1.bJ (by rw[xO];simp) hle (λ_ _=>rfl) (λ_ _ _ _ _ _ _ _=>⟨rfl,rfl⟩) ?_ (p9 xO λk v1 l e=>by subst e;exact absurd VX ab5))⟩;obtain⟨cs,k1,k2⟩:=h3;have k2:cs=[.slice none 0 0]:=k2;subst k2;obtain⟨u1,u2,u3⟩:=qu (p0++st::p) c.strip (cur.toList.take (c.xx cur.size)) n .cX _ c' [.slice none 0 0] (VO.of hV) hl k1 VX;have u4:=u2.to (u3.uh hV.uh);have DA:((cur.toList.take (c.xx cur.size)).drop n).take 1=[.slice none 0 0]:=by
      rcases sN (p0++st::p) c.strip (cur.toList.take (c.xx cur.size)) n .cX (VO.of hV) hl with⟨aJs,WJ⟩ | ⟨q1,q2⟩
      ·rw[<-WJ]at hV;simp only[V]at hV;rw[hV,aJs];rfl
      ·simpa only[V,aB.size]using q1
     rw[Vx (vs:=[.slice none 0 0]) DA]at u4;have te:c'.size=c.strip.size:=by have e1:=u4.size;have e2:=hV.size;omega
     exact Rz.obj ⟨pl,cur,e0,hp,hh,hg,Mg hk u4.AH te,by rw[NH c u4.AH,RR u4.AH te];exact V.mono hle u4⟩
   ·simp only[av]at Rv
  ·simp only[av]at Rv
theorem KS:∀(ids:List Id) {s:AS} {i:Id} {v:Nat} {fr:Bool} {c:aB},s.bR i=some (.obj v fr c)->∃fr',(s.bw ids).bR i=some (.obj v fr' c)
 |[],s,i,v,fr,c,h=>⟨fr,h⟩
 |id::ids,s,i,v,fr,c,h=>by obtain⟨fr',h'⟩:=Yr (id:=id) h;exact KS ids h'
theorem Inv.aPw(h:Inv C g β s a w){j:Nat}{p:List J8}{u:aB}(Rv:(s.at j p).eval=some u){t:Ty}{x:t.den}(ht:(s.iY t u).eval=some x){s':AS}
  (he:((s.bw u.shared).putAt j (.d t x) p).eval=some s'):ik C s' a w:=by
 cases p with
 |nil=>
  simp only[AS.at]at Rv;have hj:=ay.1 Rv;simp only[AS.putAt]at he;obtain rfl:=ay.1 he;have hs:=h.cm j;rw[hj]at hs;obtain⟨g',i1,_,_,cs,hR,hO⟩:=A8 h hs ht;exact⟨g',β,i1.aQH j (VS.of (a:= .d t x) (cs:=cs) (by simpa only[V]using hR) hO)⟩
 |cons st p=>
  simp only[AS.at]at Rv;simp only[AS.putAt]at he;have YL:(s.bw u.shared).slot j=s.slot j:=by simp only[AS.slot,nH]
  rw[YL]at he;split at Rv
  ·rename_i id ver p0 nn hj;split at Rv
   ·rename_i v fr c lN;obtain⟨hv,Rv⟩:=aC.1 Rv;obtain⟨⟨n,u'⟩,hl,Rv⟩:=aw.1 Rv;have hu:=ay.1 Rv;simp only at hu;subst hu;have cP:=dZ lN;obtain⟨g',h1,h2,h3,h4⟩:=fq u'.shared h;obtain⟨fr',xO⟩:=KS u'.shared cP;have aNs:(s.bw u'.shared).obj id=some (v,fr',c):=by simp only[AS.obj,xO]
    simp only[hj,aNs]at he;split at he
    ·simp only[av]at he
    ·rename_i c1 aR1;obtain⟨c',VX,he⟩:=aw.1 he;obtain rfl:=ay.1 he;have hn:c.iB=false:=by cases c <;> first | rfl | (exact(aR1 _ _ _ rfl).elim) | (exact absurd VX ab5) | (exact absurd VX ajA) | (exact absurd VX ajB)
     obtain⟨pl0,cur0,e00,aNu,aNl,aR7,aP4,hV0⟩:=(h.bJ id v fr c cP).box hn;obtain⟨pl,cur,e0,hp,hh,hg,hk,hV⟩:=(h1.bJ id v fr' c xO).box hn;have NZ:pl0=pl:=by have aNu:β id=some pl0:=aNu;have hp:β id=some pl:=hp;rw[aNu]at hp;exact bl hp
     subst NZ;have fo:cur0=cur:=by
      have aNl:w.heap[pl0.b]? =_:=aNl
      have hh:w.heap[pl0.b]? =_:=hh
      rw[aNl]at hh;simpa using(bm (λo=>match o with | some (.cells x _ _)=>x | _=>cur0) hh)
     subst fo;obtain⟨cs,hVu,DA⟩:∃cs,V (s.env w g β) u' cs/\((cur0.toList.take (c.xx cur0.size)).drop n).take cs.length=cs:=by
      rcases sN (p0++st::p) c.strip (cur0.toList.take (c.xx cur0.size)) n u' (VO.of hV0) hl with⟨aJs,WJ⟩ | ⟨q1,q2⟩
      ·refine⟨cur0.toList.take (c.xx cur0.size),by rw[WJ];exact hV0,?_⟩;rw[aJs,aG,bK]
      ·refine⟨_,q1,?_⟩;rw[bt,dm];congr 1;omega
     have hR:=xp rfl h.bJ h2 u' t x cs hVu ht h4;have hVx:V ((s.bw u'.shared).env w g' β) (.d t x) cs:=by simpa only[V]using hR
     have ht':=Trans.refl w g';have hle:=cM.bh (s:=s.bw u'.shared) (β:=β) (v':=v) (fr':=fr') (c':=c.wrap c') xO (ax _) ht' (λ_ _=>rfl) (λ_=>rfl);refine⟨g',β,h1.step (dd _ _ _) ht' hle (iI.bh h1.bJ (by rw[xO];simp) hle (λ_ _=>rfl) (λ_ _ _ _ _ _ _ _=>⟨rfl,rfl⟩) ?_ (p9 xO λk v1 l e=>by subst e;exact absurd VX ab5))⟩;obtain⟨u1,u2,u3⟩:=qu (p0++st::p) c.strip (cur0.toList.take (c.xx cur0.size)) n u' _ c' cs (VO.of hV) hl hVx VX;have u4:=u2.to (u3.uh hV.uh);rw[Vx (vs:=cs) DA]at u4;have te:c'.size=c.strip.size:=by have e1:=u4.size;have e2:=hV.size;omega
     exact Rz.obj ⟨pl0,cur0,e0,hp,hh,hg,Mg hk u4.AH te,by rw[NH c u4.AH,RR u4.AH te];exact V.mono hle u4⟩
   ·simp only[av]at Rv
  ·simp only[av]at Rv
theorem MM{E:Env}:∀(t:Ty) (x:t.den) (u:aB),(Pa t x).eval=some u->∀cs,cY E t cs x->V E u cs
 | .gR t,x,u,h,cs,hr=>by simp only[Pa]at h;obtain⟨h1,h2⟩:=bN.1 h;obtain rfl:=ay.1 h2;simp only[cY]at hr;simp only[V];exact hr.1 (Option.isNone_iff_eq_none.1 h1)
 | .pair a b,x,u,h,cs,hr=>by simp only[Pa]at h;obtain⟨u1,h1,h2⟩:=aw.1 h;obtain⟨u2,h3,h4⟩:=aw.1 h2;obtain rfl:=ay.1 h4;simp only[cY]at hr;obtain⟨ca,cb,rfl,ha,hb⟩:=hr;exact ao6 (MM a x.1 u1 h1 ca ha) (MM b x.2 u2 h3 cb hb)
 | .int k,x,u,h,cs,hr=>by simp only[Pa]at h;obtain rfl:=ay.1 h;simpa only[V]using hr
 | .bool,x,u,h,cs,hr=>by simp only[Pa]at h;obtain rfl:=ay.1 h;simpa only[V]using hr
 | .str,x,u,h,cs,hr=>by simp only[Pa]at h;obtain rfl:=ay.1 h;simpa only[V]using hr
 | .slice t,x,u,h,cs,hr=>by simp only[Pa]at h;obtain rfl:=ay.1 h;simpa only[V]using hr
 | .unit,x,u,h,cs,hr=>by simp only[Pa]at h;obtain rfl:=ay.1 h;simpa only[V]using hr
 | .arr n t,x,u,h,cs,hr=>by simp only[Pa]at h;obtain rfl:=ay.1 h;simpa only[V]using hr
 | .tT t,x,u,h,cs,hr=>by simp only[Pa]at h;obtain rfl:=ay.1 h;simpa only[V]using hr
theorem av2{e:TypeId}{z:Nat}{c:aB}{pl:Pl}{n:Nat}(hz:0 < z)(h1:n=pl.cap*z)(h2:pl.cap<=maxLen)(h3:c.size<=n):(aB.bx e z c).Hh pl n e:=by
 cases z with
 |zero=>omega
 |succ z=>exact⟨rfl,h1,h2,h3⟩
theorem akA{e:TypeId}{z:Nat}{c:aB}{n:Nat}(hz:0 < z):(aB.bx e z c).xx n=c.size:=by
 cases z with
 |zero=>omega
 |succ z=>rfl
theorem ais{e e':TypeId}{z:Nat}{c:aB}{pl:Pl}{n:Nat}(hz:0 < z)(h:(aB.bx e z c).Hh pl n e'):e'=e/\n=pl.cap*z/\pl.cap<=maxLen/\c.size<=n:=by
 cases z with
 |zero=>omega
 |succ z=>exact h
theorem am6{E:Env}{id:Id}{ver n:Nat}{p p':List J8}{y:Value}(h:VS E (.ptr id ver p n) y):VS E (.ptr id ver p' n) y:=by obtain⟨cs,h1,h2⟩:=h;exact⟨cs,by simpa only[V]using h1,h2⟩
theorem Inv.aPA(h:Inv C g β s a w){j:Nat}{id:Id}{ver n k v:Nat}{p p':List J8}(hj:s.slot j= .ptr id ver p n){e:TypeId}{t:Ty}{r:List t.den}(lN:s.obj id=some (v,false,.vec e t r))
  (hk:k < r.length) {u:aB} (hu:(Pa t (nth t r k)).eval=some u):
  ik C ((s.bh id (.obj v false (.bx e t.size (.pr (.d (.arr k t) (r.take k)) (.pr u (.d (.arr (r.drop (k+1)).length t) (r.drop (k+1)))))))).put (some j) (.ptr id ver p' n)) a w:=by
 have cP:=dZ lN;obtain⟨hz,hO⟩:wS (s.env w g β) id false (.vec e t r):=h.bJ id v false _ cP;have hO:(match β id with
  |none=>r=[]
  |some pl=>∃cur k,w.heap[pl.b]? =some (.cells cur e (0,0))/\cur.size=pl.cap*t.size/\r.length<=pl.cap/\pl.cap<=maxLen/\g pl.b= .own (.id id) k/\
    k<=r.length*t.size/\(false=false->k=0)/\bA (cY (s.env w g β) t) (cur.toList.take (r.length*t.size)) r):=hO
 have ht:=Trans.refl w g
 have hle:cM (s.env w g β) ((s.bh id (.obj v false (.bx e t.size (.pr (.d (.arr k t) (r.take k)) (.pr u (.d (.arr (r.drop (k+1)).length t) (r.drop (k+1)))))))).env w g β):=
  cM.bh cP (ax _) ht (λ_ _=>rfl) (λ_=>rfl)
 have hI:=h.step (dd _ _ _) ht hle (iI.bh h.bJ (by rw[cP];simp) hle (λ_ _=>rfl) (λ_ _ _ _ _ _ _ _=>⟨rfl,rfl⟩) (ajS:=PI cP) (by
  cases hp:β id with
  |none=>rw[hp]at hO;simp only at hO;subst hO;simp at hk
  |some pl=>
   rw[hp]at hO;obtain⟨cur,k0,q1,q2,q3,q4,q5,q6,q7,q8⟩:=hO;have aP4:=q7 rfl;subst aP4;have aoZ:∀c x,cY (s.env w g β) t c x->c.length=t.size:=λc x hx=>hx.size
   have c1:=bA.take aoZ k q8;have c2:=(q8.get aoZ k hk);have c3:=bA.drop aoZ (k+1) q8;have ajT:V (s.env w g β) u (((cur.toList.take (r.length*t.size)).drop (k*t.size)).take t.size):=MM t _ u (by rw[ZR hk]at hu;exact hu) _ c2;have aVl:=ajT.size;have hlen:(cur.toList.take (r.length*t.size)).length=r.length*t.size:=bA.length aoZ q8;have te:r.length*t.size<=cur.size:=by rw[q2];exact cQ _ q3
   have aVR:(k+1)*t.size<=r.length*t.size:=cQ _ hk;have ahN:(k+1)*t.size=k*t.size+t.size:=Nat.succ_mul k t.size;have aNy:u.size=t.size:=by rw[<-aVl,bt,dm,hlen];omega
   have hm:(r.drop (k+1)).length*t.size=r.length*t.size - (k+1)*t.size:=by rw[dm,Nat.sub_mul]
   have axc:(aB.pr (.d (.arr k t) (r.take k)) (.pr u (.d (.arr (r.drop (k+1)).length t) (r.drop (k+1))))).size=r.length*t.size:=by simp only[aB.size,Ty.size,aNy,hm];omega
   refine Rz.obj ⟨pl,cur,e,hp,q1,q5,av2 hz q2 q4 (by rw[axc];exact te),?_⟩;rw[akA hz,axc];refine V.mono hle ?_
   show V _ (.pr (.d (.arr k t) (r.take k)) (.pr u (.d (.arr (r.drop (k+1)).length t) (r.drop (k+1))))) _;simp only[V];generalize cur.toList.take (r.length*t.size)=R at*;refine⟨R.take (k*t.size),R.drop (k*t.size),(dH _ _).symm,?_,(R.drop (k*t.size)).take t.size,R.drop ((k+1)*t.size),?_,ajT,?_⟩
   ·simp only[cY];exact⟨by rw[bt];omega,c1⟩
   ·rw[ahN,<-fK,dH]
   ·simp only[cY];exact⟨trivial,c3⟩))
 refine⟨g,β,hI.aQH j ?_⟩;have:=h.cm j;rw[hj]at this;exact am6 (VS.mono hle this)
theorem Sb:∀(l:List Nat) {s s1:AS},ik C s a w->(awV s l).eval=some s1->ik C s1 a w
 |[],s,s1,h,he=>by simp only[awV]at he;obtain rfl:=ay.1 he;exact h
 |j::l,s,s1,h,he=>by
  obtain⟨g,β,h⟩:=h;simp only[awV]at he;split at he
  ·rename_i id ver k p n hj;split at he
   ·rename_i v e t r lN;obtain⟨h1,he⟩:=aC.1 he;obtain⟨h2,he⟩:=bN.1 he;obtain⟨u,h3,he⟩:=aw.1 he;exact Sb l (h.aPA hj lN (of_decide_eq_true h2) h3) he
   ·simp only[av]at he
  ·exact Sb l ⟨g,β,h⟩ he
  ·simp only[av]at he
theorem R8{s:AS}{id i:Id}(h:i≠id):(s.freeze id).bR i=s.bR i:=by
 unfold AS.freeze;split
 ·exact cS s id i _ h
 ·rfl
theorem xN:∀(ids:List Id) {s:AS} {i:Id},i ∉ ids->(s.bw ids).bR i=s.bR i
 |[],_,_,_=>rfl
 |id::ids,s,i,h=>by
  have h1:i≠id:=λe=>h (by rw[e];exact aO)
  exact(xN ids λhi=>h (aJ _ hi)).trans (R8 h1)
theorem Inv.aQU(h:Inv C g β s a w){j:Nat}{id:Id}{ver n k m v z:Nat}{p p':List J8}(hj:s.slot j= .ptr id ver p n){e:TypeId}{t:Ty}{l1 l2:List t.den}{u:aB}
  (lN:s.obj id=some (v,false,.bx e z (.pr (.d (.arr k t) l1) (.pr u (.d (.arr m t) l2))))) (hz:z=t.size) (aNE:0 < z) (cT:id ∉ u.shared) {x:t.den} (hx:(s.iY t u).eval=some x):
  ik C (((s.bw u.shared).bh id (.obj v false (.vec e t (l1++x::l2)))).put (some j) (.ptr id ver p' n)) a w:=by
 have cP:=dZ lN;obtain⟨pl0,cur0,e0,aNu,aNl,aR7,aP4,hV0⟩:=(h.bJ id v false _ cP).box rfl;obtain⟨g',h1,h2,h3,h4⟩:=fq u.shared h;have xO:(s.bw u.shared).bR id=some (.obj v false (.bx e z (.pr (.d (.arr k t) l1) (.pr u (.d (.arr m t) l2))))):=(xN _ cT).trans cP;obtain⟨pl,cur,e1,hp,hh,hg,hk,hV⟩:=(h1.bJ id v false _ xO).box rfl;have hp:β id=some pl:=hp;have NZ:pl0=pl:=by have aNu:β id=some pl0:=aNu;rw[aNu]at hp;exact bl hp
 subst NZ;have fo:cur0=cur:=by
  have aNl:w.heap[pl0.b]? =_:=aNl
  have hh:w.heap[pl0.b]? =_:=hh
  rw[aNl]at hh;simpa using(bm (λo=>match o with | some (.cells x _ _)=>x | _=>cur0) hh)
 subst fo;obtain⟨rfl,q2,q4,q3⟩:=ais aNE hk;rw[akA aNE]at hV0;have hV0:V (s.env w g β) (.pr (.d (.arr k t) l1) (.pr u (.d (.arr m t) l2))) _:=hV0;have aVh:=hV0.size;simp only[V]at hV0;obtain⟨ca,cb,hR,hA,cu,cc,aNf,hU,hB⟩:=hV0;subst aNf;simp only[cY]at hA hB;have hX:=xp rfl h.bJ h2 u t x cu hU hx h4;have aoZ:∀c x,cY ((s.bw u.shared).env w g' β) t c x->c.length=t.size:=λc x hx=>hx.size
 have cA:=hA.2.mono λ_ _ hx=>hx.mono h2.mem
 have cB:=hB.2.mono λ_ _ hx=>hx.mono h2.mem
 have v7:bA (cY ((s.bw u.shared).env w g' β) t) (ca++(cu++cc)) (l1++x::l2):=bA.append cA ⟨cu,cc,rfl,hX,cB⟩;have hlen:=bA.length aoZ v7;have axc:(aB.pr (.d (.arr k t) l1) (.pr u (.d (.arr m t) l2))).size=(l1++x::l2).length*t.size:=by rw[<-hlen,<-hR];exact aVh.symm
 rw[axc]at hR q3;rw[hz]at q2;have aqy:(l1++x::l2).length<=pl0.cap:=by rw[q2]at q3;exact Nat.le_of_mul_le_mul_right q3 ak
 have ht:=Trans.refl w g';have hle:cM ((s.bw u.shared).env w g' β) (((s.bw u.shared).bh id (.obj v false (.vec e1 t (l1++x::l2)))).env w g' β):=cM.bh xO (ax _) ht (λ_ _=>rfl) (λ_=>rfl);have hI:=h1.step (dd _ _ _) ht hle (iI.bh h1.bJ (by rw[xO];simp) hle (λ_ _=>rfl) (λ_ _ _ _ _ _ _ _=>⟨rfl,rfl⟩) (ajS:=p9 xO λ_ _ _ e=>by cases e) (by
  refine⟨ak,?_⟩;show(match β id with
   |none=>l1++x::l2=[]
   |some pl=>_)
  rw[hp];exact⟨cur0,0,hh,q2,aqy,q4,hg,aM _,λ_=>rfl,by rw[hR];exact v7.mono λ_ _ hx=>hx.mono hle.mem⟩))
 refine⟨g',β,hI.aQH j ?_⟩;have:=h.cm j;rw[hj]at this;exact am6 (VS.mono (h2.trans hle) this)
theorem agc:∀(l:List Nat) {s s1:AS},ik C s a w->(aHb s l).eval=some s1->ik C s1 a w
 |[],s,s1,h,he=>by simp only[aHb]at he;obtain rfl:=ay.1 he;exact h
 |j::l,s,s1,h,he=>by
  obtain⟨g,β,h⟩:=h;simp only[aHb]at he;split at he
  ·rename_i id ver p n hj;split at he
   ·rename_i v e z k t l1 u m t' l2 lN;obtain⟨h1,he⟩:=aC.1 he;obtain⟨l2',h2,he⟩:=aw.1 he;obtain⟨x,h3,he⟩:=aw.1 he;simp only[au,dr,cv,gh]at h1;obtain⟨⟨⟨h5,h6⟩,h7⟩,h8⟩:=h1;obtain⟨et,hl⟩:=jw (jY.1 h2);have et':t'=t:=by simpa using et
    subst et';simp only at hl;subst hl;refine agc l (h.aQU hj lN h6 ak (λhi=> ?_) h3) he;have:(u.shared.any λi=>decide (i=id))=true:=pJ.2 ⟨id,hi,by simp⟩;rw[this]at h8;cases h8
   ·simp only[av]at he
  ·simp only[av]at he
theorem Ap:∀(l:List aQ2) {s s1:AS},ik C s a w->(Uk s l).eval=some s1->ik C s1 a w
 |[],s,s1,h,he=>by simp only[Uk]at he;obtain rfl:=ay.1 he;exact h
 |o::l,s,s1,h,he=>by
  obtain⟨g,β,h⟩:=h;unfold Uk at he;split at he
  ·exact Ap l ⟨g,β,h⟩ he
  obtain⟨u,hu,he⟩:=aw.1 he;obtain⟨x,hx,he⟩:=aw.1 he;obtain⟨s',hs,he⟩:=aw.1 he;exact Ap l (h.aPw hu hx hs) he
theorem lD(hC:C.ok):∀(l:List aAO) {s s1:AS},ik C s a w->(wo P s l).eval=some s1->ik C s1 a w
 |[],s,s1,h,he=>by simp only[wo]at he;obtain rfl:=ay.1 he;exact h
 |o::l,s,s1,h,he=>by
  obtain⟨g,β,h⟩:=h;unfold wo at he;split at he
  ·exact lD hC l ⟨g,β,h⟩ he
  obtain⟨u,hu,he⟩:=aw.1 he;split at he
  ·split at he
   ·rename_i e t b Ke hv;obtain⟨s',h1,h2⟩:=aw.1 he;exact lD hC l (h.aQy hu hv (acM Ke) h1) h2
   ·simp only[av]at he
  ·split at he
   ·rename_i b j ver aTU;split at he
    ·rename_i v fr c lN hm;split at he
     ·have aOT:b < s.news.length:=by
       have:=dZ lN;simp only[AS.bR,aF]at this;cases hn:s.news[b]? with
       |none=>rw[hn]at this;simp at this
       |some es=>exact(dF.1 hn).1
      obtain⟨g1,β1,h1⟩:=h.IB hC aOT (by simpa using hm);exact lD hC l ⟨g1,β1,h1⟩ he
     ·simp only[av]at he
    ·simp only[av]at he
   ·simp only[av]at he
theorem NS:∀(l:List Nat) {s s1:AS},ik C s a w->(agb s l).eval=some s1->ik C s1 a w
 |[],s,s1,h,he=>by simp only[agb]at he;obtain rfl:=ay.1 he;exact h
 |j::l,s,s1,h,he=>by
  obtain⟨g,β,h⟩:=h;simp only[agb]at he;split at he
  ·rename_i id ver len hj;split at he
   ·rename_i v e t r lN;split at he
    ·obtain⟨h1,h2⟩:=bN.1 he;have h1:len<=r.length:=by simpa using h1
     refine NS l ?_ h2
     have cP:=dZ lN;have hO:wS (s.env w g β) id false (.vec e t r):=h.bJ id v false _ cP;have ht:=Trans.refl w g;have hle:cM (s.env w g β) ((s.bh id (.obj v false (.vec e t (r.take len)))).env w g β):=cM.bh cP (ax _) ht (λ_ _=>rfl) (λ_=>rfl);refine⟨g,β,h.step (dd _ _ _) ht hle (iI.bh h.bJ (by rw[cP];simp) hle (λ_ _=>rfl) (λ_ _ _ _ _ _ _ _=>⟨rfl,rfl⟩) ?_ (PI cP))⟩;obtain⟨hz,hO⟩:=hO;refine⟨hz,?_⟩;have hO:(match β id with
      |none=>r=[]
      |some pl=>∃cur k,w.heap[pl.b]? =some (.cells cur e (0,0))/\cur.size=pl.cap*t.size/\r.length<=pl.cap/\pl.cap<=maxLen/\g pl.b= .own (.id id) k/\
        k<=r.length*t.size/\(false=false->k=0)/\bA (cY (s.env w g β) t) (cur.toList.take (r.length*t.size)) r):=hO
     show(match β id with
      |none=>r.take len=[]
      |some pl=>_)
     cases hp:β id with
     |none=>rw[hp]at hO;simp only at hO;subst hO;simp
     |some pl=>
      rw[hp]at hO;obtain⟨cur,k,q1,q2,q3,q4,q5,q6,q7,q8⟩:=hO;have hk:=q7 rfl;subst hk;have hlen:(r.take len).length=len:=by simp;omega
      refine⟨cur,0,q1,q2,ak,q4,q5,aM _,λ_=>rfl,?_⟩;have:=bA.take (λ_ _ hx=>cY.size hx) len q8;rw[ia,fO (cQ _ h1)]at this;rw[hlen];exact this.mono λ_ _ hx=>hx.mono hle.mem
    ·simp only[av]at he
   ·simp only[av]at he
  ·simp only[av]at he
theorem Oc:∀(l:List (Nat×Ty)) {s s1:AS},ik C s a w->(asData s l).eval=some s1->ik C s1 a w
 |[],s,s1,h,he=>by simp only[asData]at he;obtain rfl:=ay.1 he;exact h
 | (j,t)::l,s,s1,h,he=>by obtain⟨g,β,h⟩:=h;simp only[asData]at he;obtain⟨x,h1,h2⟩:=aw.1 he;obtain⟨g',i1,_,_,cs,hR,hO⟩:=A8 h (h.cm j) h1;exact Oc l ⟨g',β,i1.aQH j (VS.of (a:= .d t x) (cs:=cs) (by simpa only[V]using hR) hO)⟩ h2
theorem Inv.still:∀(l:List Nat) {s:AS},Inv C g β s a w->Inv C g β (s.still l) a w
 |[],s,h=>h
 |q::l,s,h=>by
  simp only[AS.still];split
  ·rename_i v fr i ver k t r cu lN;exact Inv.still l (h.aLZ (dZ lN) (.inr ⟨rfl,rfl,rfl⟩))
  ·exact Inv.still l h
theorem wW{α:Type}(l:List α):(iJ l).Perm l:=Quotient.exact (s:=afw α) (qC (Quotient.mk (afw α) l)).choose_spec
theorem av9{α:Type}{l l':List α}(h:l.Perm l'):iJ l=iJ l':=by
 have e:Quotient.mk (afw α) l=Quotient.mk (afw α) l':=Quotient.sound h;unfold iJ;have:∀q q':Quotient (afw α),q=q'->(qC q).choose=(qC q').choose:=λq q' h=>by subst h;rfl
 exact this _ _ e
theorem Inv.canon:∀(l:List Id) {s:AS},Inv C g β s a w->Inv C g β (s.canon l) a w
 |[],s,h=>h
 |id::l,s,h=>by
  simp only[AS.canon];split
  ·rename_i v fr k t r lN;have cP:=dZ lN;have ht:=Trans.refl w g;have hle:cM (s.env w g β) ((s.bh id (.obj v fr (.mp k t (iJ r)))).env w g β):=cM.bh cP (ax _) ht (λ_ _=>rfl) (λ_=>rfl);obtain⟨pl,es,clock,h1,h2,h3,⟨⟨l',h4,h5⟩,h6⟩,h7⟩:=h.bJ id v fr _ cP
   refine Inv.canon l (h.step (dd _ _ _) ht hle (iI.bh h.bJ (by rw[cP];simp) hle (λ_ _=>rfl) (λ_ _ _ _ _ _ _ _=>⟨rfl,rfl⟩)
    ⟨pl,es,clock,h1,h2,h3,⟨⟨l',h4.mono λ_ _ he=>he.mono hle.mem,h5.trans (wW r).symm⟩,(((wW r).map _).nodup_iff).2 h6⟩,h7⟩ ?_))
   intro ver k' v' l2 hl;rw[cP]at hl;simp only[az,dE.obj.injEq]at hl;obtain⟨rfl,rfl,_⟩:=hl;exact⟨rfl,rfl,⟨_,_,_,rfl⟩,λ_ _=>⟨rfl,rfl⟩⟩
  ·exact Inv.canon l h
theorem T3(k v n:Nat)(i:Id)(ver:Nat):(i= .bj k/\ver=v/\uV k v n i ver=some (.bj k,n))\/(i= .bj k/\uV k v n i ver=none)\/(i≠ .bj k/\uV k v n i ver=some (i,ver)):=by
 cases i with
 |new x j=>exact .inr (.inr ⟨by simp,rfl⟩)
 |bj j=>
  simp only[uV];cases h1:ix j k with
  |false=>exact .inr (.inr ⟨λe=>by injection e with e;subst e;simp at h1,rfl⟩)
  |true=>
   obtain rfl:=eQ h1;cases h2:ix ver v with
   |false=>exact .inr (.inl ⟨rfl,rfl⟩)
   |true=>exact .inl ⟨rfl,eQ h2,rfl⟩
theorem akE(hC:C.ok){s s1:AS}(h:Inv C g β s a w){k n:Nat}(he:(s.aBF k n).eval=some s1):Inv C g β s1 a w:=by
 unfold AS.aBF at he;split at he;rotate_left
 ·exact(av.1 he).elim
 rename_i v fr c hk;obtain⟨aT9,he⟩:=aC.1 he;have aT9:v<=n\/1<=n:=(Bool.or_eq_true_iff.1 aT9).imp dJ dJ;have hz:∀ver,C.E.F8 (.bj k) ver->ver=0:=λver hb=>by
  obtain⟨h1,h2⟩:=hb;cases hs:C.E.s (.bj k) with
  |none=>exact absurd hs h1
  |some en=>
   cases en with
   |dead=>
    have:=(h.le.F8 (.bj k) (v+1) ⟨h1,λv' fr' c' hh=>by rw[hs]at hh;cases hh⟩).2 _ _ _ hk;omega
   |obj v0 fr0 c0=>
    have:=hC.2 _ _ _ _ hs;have:=h2 _ _ _ hs;omega
 obtain rfl:=ay.1 he;have aP6:k < s.bV.length:=by
  rcases pO k s.bV.length with h | h
  ·exact h
  ·simp[AS.bR,dG h]at hk
 generalize Rx:({cm:=s.cm.map (aB.iE (uV k v n)),bV:=(s.bV.map (dE.ar4 (uV k v n) (HM k))).set k (.obj n fr (c.iE (uV k v n))),news:=s.news.map λes=>es.map (dE.ar4 (uV k v n) (HM k))}:AS)=s1;have e0:s1.bR (.bj k)=some (.obj n fr (c.iE (uV k v n))):=by rw[<-Rx];simp[AS.bR,aP6]
 have e1:∀i,i≠ .bj k->s1.bR i=(s.bR i).map (dE.ar4 (uV k v n) (HM k)):=λi hi=>by
  rw[<-Rx];cases i with
  |bj j=>
   have:¬k=j:=λe=>hi (by rw[e])
   simp only[AS.bR];rw[dY this,ea]
  |new x j=>
   simp only[AS.bR,aF,ea];cases s.news[x]? <;> simp
 have e2:∀i v' fr' c',i≠ .bj k->s1.bR i=some (.obj v' fr' c')->∃c0,s.bR i=some (.obj v' fr' c0)/\c'=c0.ay1 (uV k v n) (HM k):=λi v' fr' c' hi hh=>by
  rw[e1 i hi]at hh;cases hs:s.bR i with
  |none=>rw[hs]at hh;cases hh
  |some en=>
   rw[hs]at hh;cases en with
   |dead=>simp[dE.ar4]at hh
   |obj v0 fr0 c0=>
    simp only[dT,dE.ar4,az,dE.obj.injEq]at hh;obtain⟨rfl,rfl,rfl⟩:=hh;exact⟨c0,rfl,rfl⟩
 have e3:∀i,i≠ .bj k->s.bR i≠none->s1.bR i≠none:=λi hi hh=>by
  rw[e1 i hi];cases hs:s.bR i with
  |none=>exact absurd hs hh
  |some en=>simp
 have hle:zV (uV k v n) (s.env w g β) (s1.env w g β):=by
  refine⟨Trans.mem (E:=s.env w g β) (E':=s1.env w g β) (Trans.refl w g),λi ver r hr alR=> ?_⟩;rcases T3 k v n i ver with⟨rfl,rfl,e⟩ | ⟨rfl,e⟩ | ⟨hi,e⟩
  ·rw[e]at hr;obtain rfl:=bl hr;refine⟨⟨by show s1.bR (.bj k)≠none;rw[e0];simp,λv' fr' c' hh=> ?_⟩,λ_=>⟨⟨fr,c,hk⟩,rfl⟩⟩;have hh:s1.bR (.bj k)=some (.obj v' fr' c'):=hh;rw[e0]at hh;simp only[az,dE.obj.injEq]at hh;exact tr hh.1
  ·rw[e]at hr;cases hr
  ·rw[e]at hr;obtain rfl:=bl hr;obtain⟨k1,k2⟩:=alR;have k1:s.bR i≠none:=k1;have k2:∀v' fr' c',s.bR i=some (.obj v' fr' c')->ver<=v':=k2;refine⟨⟨e3 i hi k1,λv' fr' c' hh=> ?_⟩,λ⟨fr',c',hh⟩=> ?_⟩
   ·obtain⟨c0,WJ,_⟩:=e2 i v' fr' c' hi hh;exact k2 _ _ _ WJ
   ·obtain⟨c0,WJ,_⟩:=e2 i ver fr' c' hi hh;exact⟨⟨fr',c0,WJ⟩,rfl⟩
 refine⟨h.defers,by rw[<-Rx];simpa using h.size,λi=> ?_,λid ver fr' c' cT=> ?_,h.trans,?_⟩
 ·have:s1.slot i=(s.slot i).iE (uV k v n):=by rw[<-Rx];exact abc _ rfl _ _
  rw[this];exact G6 hle (h.cm i)
 ·have cT:s1.bR id=some (.obj ver fr' c'):=cT;by_cases hi:id= .bj k
  ·subst hi;rw[e0]at cT;simp only[az,dE.obj.injEq]at cT;obtain⟨rfl,rfl,rfl⟩:=cT;exact wT hle (h.bJ (.bj k) v fr c hk) (id':= .bj k) rfl λpl _=>⟨rfl,λ_ h=>h,λh=>h⟩
  ·obtain⟨c0,WJ,rfl⟩:=e2 id ver fr' c' hi cT;have h0:=h.bJ id ver fr' c0 WJ;rcases aqL c0 with⟨q2,vq,kt,vt,l,cu,rfl⟩ | ⟨aNw,_⟩
   ·simp only[aB.ay1];cases aRh:HM k q2 with
    |true=>
     have gj:q2≠ .bj k:=λe=>by subst e;simp[HM]at aRh
     have hρq:∀vr,uV k v n q2 vr=some (q2,vr):=λvr=>by
      rcases T3 k v n q2 vr with⟨e,_⟩ | ⟨e,_⟩ | ⟨_,e⟩
      ·exact absurd e gj
      ·exact absurd e gj
      ·exact e
     refine aMm.aV hle.mem (λ_=>rfl) h0 rfl (λ_ _ h=>h) λvr _=>⟨λhb=>hle.ref q2 vr (q2,vr) (hρq vr) hb,λkt vt l aoU=> ?_,λ_ _ h=>h⟩
     have aoU:s.bR q2=some (.obj vr true (.mp kt vt l)):=aoU;show s1.bR q2=_;rw[e1 q2 gj,aoU];rfl
    |false=>
     obtain⟨pl,mb,since,seen,c0,h1,h2,h3,h4⟩:=h0;exact⟨pl,mb,since,seen,c0,h1,h2,h3,λvr aoW=>ak⟩
   ·rw[aNw];exact wT hle h0 (id':=id) rfl λpl _=>⟨rfl,λ_ h=>h,λh=>h⟩
 ·have hl:=h.le;refine⟨hl.mem.trans (Trans.mem (E:=s.env w g β) (E':=s1.env w g β) (Trans.refl w g)),λid ver hb=> ?_,λid ver hb hc=> ?_⟩
  ·obtain⟨h1,h2⟩:=hl.F8 _ ver hb;have h1:s.bR id≠none:=h1;have h2:∀v' fr' c',s.bR id=some (.obj v' fr' c')->ver<=v':=h2;by_cases hi:id= .bj k
   ·subst hi;obtain rfl:=hz ver hb;exact⟨by show s1.bR (.bj k)≠none;rw[e0];simp,λv' fr' c' hh=>aM _⟩
   ·exact⟨e3 id hi h1,λv' fr' c' hh=>let⟨c0,WJ,_⟩:=e2 id v' fr' c' hi hh;h2 _ _ _ WJ⟩
  ·obtain⟨fr',c',hc⟩:=hc;have hc:s1.bR id=some (.obj ver fr' c'):=hc;by_cases hi:id= .bj k
   ·subst hi;obtain rfl:=hz ver hb;rw[e0]at hc;simp only[az,dE.obj.injEq]at hc;have e4:=hc.1;obtain rfl:v=0:=ak;exact hl.cur _ _ hb ⟨fr,c,hk⟩
   ·obtain⟨c0,WJ,_⟩:=e2 id ver fr' c' hi hc;exact hl.cur _ _ hb ⟨fr',c0,WJ⟩
theorem Et(hC:C.ok):∀(l:List (Nat×Nat)) {s s1:AS},Inv C g β s a w->(akF s l).eval=some s1->Inv C g β s1 a w
 |[],s,s1,h,he=>by obtain rfl:=ay.1 he;exact h
 |x::l,s,s1,h,he=>by obtain⟨s2,h1,h2⟩:=aw.1 he;exact Et hC l (akE hC h h1) h2
def V2(ids:List Id)(q:Nat):lU->lU
 | .own (.id (.new x y)) k=>match idxOf (.new x y) ids with | some m=> .own (.id (.new q m)) k | none=> .free
 |l=>l
def aOb(β:Id->Option Pl)(ids:List Id)(q:Nat):Id->Option Pl
 | .bj k=>β (.bj k)
 | .new x y=>if x=q then(ids[y]?).bind β else none
theorem Trans.V2(w:World)(g:Nat->lU)(ids:List Id)(q:Nat):Trans w w g λx=>V2 ids q (g x):=by
 refine⟨rfl,rfl,⟨rfl,ax _⟩,ax _,λy _=> ?_⟩;cases hg:g y with
 |free=>exact⟨by simp[Ab.V2],rfl⟩
 |own o k=>cases o with
  |ed=>exact⟨by simp[Ab.V2],rfl⟩
  |id x=>
   refine⟨?_,λ_ _ _ h=>h⟩;cases x with
   |bj m=>exact .inr ⟨_,_,rfl,ax _⟩
   |new x j=>
    simp only[Ab.V2];split
    ·exact .inr ⟨_,_,rfl,ax _⟩
    ·exact .inl rfl
theorem Inv.ahH(h:Inv C g β s a w)(hC:C.ok){ids:List Id}{q:Nat}(hn:ids.Nodup)(GU:∀id∈ids,∃i j,id= .new i j)(aSx:q < s.news.length):
  ∃g1 β1,Inv C g1 β1 (s.HC ids q) a w:=by
 let ρ:Ren:=aw3 s ids q
 obtain⟨s1,Rx⟩:∃s1,s1=s.HC ids q:=⟨_,rfl⟩;have hold:∀k,s1.bR (.bj k)=(s.bR (.bj k)).map (dE.aFJ ρ):=λk=>by
  rw[Rx];show(s.bV.map (dE.aFJ ρ))[k]? =_
  rw[ea];rfl
 have kS:∀j,s1.bR (.new q j)=(ids[j]?).map λid=>((s.bR id).getD .dead).ar3 ρ:=λj=>by rw[Rx];simp[AS.HC,AS.bR,aF,aSx,ρ]
 have Kf:∀x j,x≠q->s1.bR (.new x j)=none:=λx j hx=>by
  have hx':¬q=x:=λe=>hx e.symm
  rw[Rx];simp only[AS.HC,AS.bR,aF];rw[dY hx',ea];cases s.news[x]? <;> simp
 let g1:Nat->lU:=λx=>V2 ids q (g x)
 let β1:=aOb β ids q
 have ht:Trans w w g g1:=Trans.V2 w g ids q;have hβ:∀j,β1 (.new q j)=(ids[j]?).bind β:=λj=>if_pos rfl
 have hρ:∀i ver r,ρ i ver=some r->(∃k,i= .bj k/\r=(i,ver))\/∃j fr c,ids[j]? =some i/\s.bR i=some (.obj ver fr c)/\r=(.new q j,0):=λi ver r hr=>by
  replace hr:aw3 s ids q i ver=some r:=hr
  cases i with
  |bj k=>exact .inl ⟨k,rfl,(bl hr).symm⟩
  |new x y=>
   unfold aw3 at hr;simp only at hr;split at hr
   ·rename_i j v fr c hj ho;split at hr
    ·rename_i hv;have hv:ver=v:=by simpa using hv
     subst hv;exact .inr ⟨j,fr,c,oR hj,dZ ho,(bl hr).symm⟩
    ·cases hr
   ·cases hr
 have hrenA:∀e v fr c,dE.aFJ ρ e= .obj v fr c->∃c0,e= .obj v fr c0/\c0.iE ρ=c:=λe v fr c he=>by
  cases e with
  |dead=>cases he
  |obj v0 fr0 c0=>
   simp only[dE.aFJ,dE.obj.injEq]at he;obtain⟨rfl,rfl,rfl⟩:=he;exact⟨c0,rfl,rfl⟩
 have hle:zV ρ (s.env w g β) (s1.env w g1 β1):=by
  refine⟨Trans.mem (E:=s.env w g β) (E':=s1.env w g1 β1) ht,λi ver r hr alR=> ?_⟩;rcases hρ i ver r hr with⟨k,rfl,rfl⟩ | ⟨j,fr,c,hj,he,rfl⟩
  ·obtain⟨k1,k2⟩:=alR;have k1:s.bR (.bj k)≠none:=k1;refine⟨⟨?_,λv' fr' c' hh=> ?_⟩,λ⟨fr',c',hh⟩=>⟨?_,rfl⟩⟩
   ·show s1.bR (.bj k)≠none;rw[hold];cases hs:s.bR (.bj k) with
    |none=>exact absurd hs k1
    |some en=>simp
   ·have hh:s1.bR (.bj k)=some (.obj v' fr' c'):=hh;rw[hold,cW]at hh;obtain⟨e,he,hh⟩:=hh;obtain⟨c0,rfl,_⟩:=hrenA _ _ _ _ hh;exact k2 v' fr' c0 he
   ·have hh:s1.bR (.bj k)=some (.obj ver fr' c'):=hh;rw[hold,cW]at hh;obtain⟨e,he,hh⟩:=hh;obtain⟨c0,rfl,_⟩:=hrenA _ _ _ _ hh;exact⟨fr',c0,he⟩
  ·refine⟨⟨by show s1.bR (.new q j)≠none;rw[kS,hj];simp,λ_ _ _ _=>aM _⟩,λ_=>⟨⟨fr,c,he⟩,?_⟩⟩;show β1 (.new q j)=β i;rw[hβ,hj];rfl
 have e1:s1.cm=s.cm.map (aB.iE ρ):=by rw[Rx];rfl
 rw[<-Rx];refine⟨g1,β1,h.S3 hC ρ (by rw[e1];simp) ht hle (λi=> ?_) (λid ver fr c cT=> .inr ?_) λk=>⟨λhk=> ?_,λv' fr' c' hh=> ?_,rfl⟩⟩
 ·have:s1.slot i=(s.slot i).iE ρ:=by unfold AS.slot;rw[e1];exact abc _ rfl _ _
  rw[this];exact G6 hle (h.cm i)
 ·cases id with
  |bj k=>
   rw[hold,cW]at cT;obtain⟨e,he,cT⟩:=cT;obtain⟨c0,rfl,hc⟩:=hrenA _ _ _ _ cT;exact⟨.bj k,ver,c0,he,hc,rfl,λpl _=>⟨λn hg=>by show V2 ids q (g pl.b)=_;rw[hg];rfl,λhg=>by show V2 ids q (g pl.b)=_;rw[hg];rfl⟩⟩
  |new x y=>
   by_cases hx:x=q
   ·subst hx;rw[kS,cW]at cT;obtain⟨i,hi,cT⟩:=cT;obtain⟨i0,j0,rfl⟩:=GU i (cI hi);cases hs:s.bR (.new i0 j0) with
    |none=>rw[hs]at cT;cases cT
    |some e=>
     rw[hs]at cT;cases e with
     |dead=>cases cT
     |obj v0 fr0 c0=>
      simp only[dN,dE.ar3,dE.obj.injEq]at cT;obtain⟨_,rfl,hc⟩:=cT;refine⟨.new i0 j0,v0,c0,hs,hc,by rw[hβ,hi];rfl,λpl _=>⟨λn hg=> ?_,λhg=>by show V2 ids _ (g pl.b)=_;rw[hg];rfl⟩⟩;show V2 ids _ (g pl.b)=_;rw[hg];simp only[V2,w6 hn hi]
   ·rw[Kf x y hx]at cT;cases cT
 ·show s1.bR (.bj k)≠none;rw[hold];cases hs:s.bR (.bj k) with
  |none=>exact absurd hs hk
  |some en=>simp
 ·have hh:s1.bR (.bj k)=some (.obj v' fr' c'):=hh;rw[hold,cW]at hh;obtain⟨e,he,hh⟩:=hh;obtain⟨c0,rfl,_⟩:=hrenA _ _ _ _ hh;exact⟨c0,he⟩
theorem ahI(hC:C.ok){s s1:AS}{o:Option Nat}(h:ik C s a w)(he:(s.ahH o).eval=some s1):ik C s1 a w:=by
 cases o with
 |none=>
  obtain rfl:=ay.1 he;exact h
 |some q=>
  obtain⟨h1,h2⟩:=aC.1 he;obtain rfl:=ay.1 h2;obtain⟨g,β,h⟩:=h;obtain⟨g1,β1,h3⟩:=h.ahH hC (ids:=s.aPB) ((sU s _ _ _ (by simp)).filter _) (λid cT=>by
   have:=(nu.1 cT).2;cases id with
   |bj k=>cases this
   |new i j=>exact⟨i,j,rfl⟩) (dJ h1)
  exact⟨g1,β1,h3⟩
theorem pa(hC:C.ok){an:od}{s1:AS}(h:ik C s a w)(he:(norm P an s).eval=some s1):ik C s1 a w:=by unfold norm at he;obtain⟨sb,aUA,he⟩:=aw.1 he;obtain⟨su,aUB,he⟩:=aw.1 he;obtain⟨sd,aRT,he⟩:=aw.1 he;obtain⟨s0,h1,h2⟩:=aw.1 he;obtain⟨h3,h4⟩:=aC.1 h2;obtain⟨sf,h5,h6⟩:=aw.1 h4;obtain⟨sg,h6,h7⟩:=aw.1 h6;obtain⟨g0,β0,h0⟩:=h;obtain⟨g1,i1,_⟩:=fq an.at6 (Et hC _ h0 aUA);obtain⟨g,β,h⟩:=Oc _ (Ap _ (agc _ ⟨g1,β0,(i1.still an.aRq).canon an.aMM⟩ aUB) aRT) h1;exact ahI hC (lD hC _ (Sb _ ⟨g,β,h.aV hC h3⟩ h5) h6) h7
end
end Go.Ab
end
