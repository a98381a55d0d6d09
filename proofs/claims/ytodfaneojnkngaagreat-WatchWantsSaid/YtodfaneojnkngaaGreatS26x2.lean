/-
  Made short by a program of mine (wip/tools/mini.py).
-/
import Derived.Test.YtodfaneojnkngaaGreatS26x1
import Derived.Lib.Builder
import Derived.Lib.UnsafeStr
import Derived.Lib.AppendZeros
import Derived.Maps.RangeRun
set_option linter.unusedVariables false
set_option linter.unusedSimpArgs false
set_option maxRecDepth 100000
set_option synthInstance.maxSize 5000
open List renaming length->ag,replicate->ab
open Nat renaming beq->iv
open UInt8 renaming ofNat->eZ
noncomputable section
namespace Go.Ab
section
variable {P:Program} {C:Ctx} {g:Nat->lS} {β:Id->Option Pl} {s:AS} {a:Act} {w:World} {o:Oper}
theorem Cu{b:Builtin}{args:Array Operand}{ts:Array TypeId}{f:Sem Value}{x:Value}{w':World}(ho:o.op= .call {callee:= .builtin b,args,argTypes:=ts})
  (hb:∀ty cs xs,xs=args.map a.eval->builtin b ts ty cs xs=(do pure (.value (<-f)))) (hf:f.run P w= .ok x w'):(execOp a.eval o).run P w= .ok (.value x) w':=by
 simp only[execOp,ho,resolve,Sem.run_bind,Sem.run_pure,Result.andThen_ok,invoke];rw[hb _ _ _ rfl,Sem.run_bind,hf];rfl
theorem aKy(h:Inv C g β s a w){c:Call}{x:Operand}{T:TypeId}(ho:o.op= .call c)(hc:c.callee= .builtin .len)(ha:c.args.toList=[x])(ht:c.argTypes.toList=[T]){v:aA}(he:(aRo P T (s.ev x)).eval=some v):
  fy P o a w (ia C (s.put o.dst v)):=by
 obtain⟨cal,args,tys⟩:=c;simp only at hc ha ht;have ha':args= #[x]:=by apply fZ;simpa using ha
 have ht':tys= #[T]:=by apply fZ;simpa using ht
 subst hc ha' ht';have hx:=h.ev x;have fin:∀z,(Builtin.len_ #[T] 0 #[a.eval x]).run P w= .ok z w->VS (s.env w g β) v z->fy P o a w (ia C (s.put o.dst v)):=by intro z h1 h2;refine h.value h2 (Cu ho (f:=Builtin.len_ #[T] 0 #[a.eval x]) (λty cs xs asW=> ?_) h1);subst asW;have e1:Builtin.len_ #[T] 0 #[a.eval x]=Builtin.len_ #[T] ty #[a.eval x]:=rfl;rw[e1];simp[builtin]
 unfold aRo at he;split at he
 ·rename_i st hT hl;rw[hl]at hx;obtain rfl:=ax.1 he;refine fin (.int .i64 (st.size:Int)) ?_ (lz _ _)
  rw[I4 hx];simp[Builtin.len_,run_underlying hT,goInt]
 ·rename_i e t l hT hl;rw[hl]at hx;obtain rfl:=ax.1 he;obtain⟨ad,cap,vs,hy,_⟩:=uq hx;refine fin (.int .i64 (l.length:Int)) ?_ (lz _ _)
  rw[hy];simp[Builtin.len_,run_underlying hT,goInt]
 ·rename_i e hT hl;rw[hl]at hx;obtain rfl:=ax.1 he;refine fin (.int .i64 0) ?_ (lz _ _)
  rw[kU hx];simp[Builtin.len_,run_underlying hT,goInt]
 ·rename_i e id ver p c i len hT hl;rw[hl]at hx;obtain rfl:=ax.1 he;obtain⟨ad,cap,hy,_⟩:=rJ hx;refine fin (.int .i64 (len:Int)) ?_ (lz _ _)
  rw[hy];simp[Builtin.len_,run_underlying hT,goInt]
 ·rename_i n e hT;obtain rfl:=ax.1 he;refine fin (.int .i64 (n:Int)) ?_ (lz _ _)
  simp[Builtin.len_,run_underlying hT,goInt]
 ·simp only[au]at he
def Env.open(E:Env):Env:= {E with g:=λ_=> .free}
theorem aRR(E:Env):cJ E E.open:=⟨⟨λ_ _ _ h=>⟨h.1,trivial⟩,λ_ _ _ h=>⟨rfl,h⟩⟩,λ_ _ h=>h,λ_ _ _ h=>⟨h,rfl⟩⟩
theorem avH(h:Inv C g β s a w){v:aA}{y:Value}(hv:VS (s.env w g β) v y){t:Ty}{x:t.den}(ht:(s.avG t v).eval=some x):
  ∃cs,cW (s.env w g β).open t cs x/\fH t.agg cs y:=by
 obtain⟨cs,hV,hO⟩:=hv.eL (Cm ht);exact⟨cs,xn rfl h.bI (aRR _) v t x cs hV ht (λid _ v fr c _ pl _ j x hx _=>⟨hx,trivial⟩),by rw[<-adg ht];exact hO⟩
theorem wW{E:Env}{k:IntKind}:∀ {vs:List Value} {l:List Int},bz (cW E (.int k)) vs l->vs=l.map (Value.int k)
 |vs,[],h=>h
 |_,x::xs,⟨c,cs',e,hx,hr⟩=>by
  have hx':c=[Value.int k x]:=by simpa only[cW]using hx
  rw[e,hx',wW hr];rfl
theorem w7{E:Env}{k:IntKind}:∀(l:List Int),bz (cW E (.int k)) (l.map (Value.int k)) l
 |[]=>rfl
 |x::xs=>⟨[.int k x],xs.map (Value.int k),rfl,by simp[cW],w7 xs⟩
theorem foldl_push(l:List Int):∀b:ByteArray,l.foldl (λr n=>r.push (eZ n.toNat)) b=⟨b.data++(l.map λn=>eZ n.toNat).toArray⟩:=by
 induction l with
 |nil=>intro b;simp
 |cons n l ih=>
  intro b;rw[bo,ih];simp[ByteArray.push]
theorem aqy{α:Type}(xs:Array α)(x:α)(f:α->α):(xs.push x).modify xs.size f=xs.push (f x):=by
 apply rM;intro i;rw[gh,Array.getElem?_push,Array.getElem?_push];by_cases h:i=xs.size
 ·subst h;simp
 ·have h':¬xs.size=i:=λe=>h e.symm
  simp[h,h']
theorem ajR(w:World)(c:Array Value)(e:TypeId)(n:Nat):(w.alloc (.cells c e)).freeze ⟨w.heap.size,n,none⟩ 1=w.alloc (.cells c e (n,n+1)):=by show({w with heap:=(w.heap.push (.cells c e)).modify w.heap.size _}:World)= {w with heap:=w.heap.push (.cells c e (n,n+1))};rw[aqy];rfl
theorem aoG{w:World}{b:Nat}{c:Array Value}{e:TypeId}{n:Nat}(h:w.heap[b]? =some (.cells c e (n,n+1))):w.freeze ⟨b,n,none⟩ 1=w:=by
 unfold World.freeze;rw[if_neg (by omega)];have:∀f:Obj->Obj,f (.cells c e (n,n+1))= .cells c e (n,n+1)->w.heap.modify b f=w.heap:=λf hf=>by
  apply rM;intro i;rw[gh];split
  ·rename_i hi;subst hi;rw[h];simp[hf]
  ·rfl
 rw[this];simp
theorem Q0(e:TypeId)(st:ByteArray)(w:World):∃cap:Nat,st.size<=cap/\∃arr:Array Value,(∀(j:Nat) (v:Value),((bF st).map (Value.int .u8))[j]? =some v->arr[j]? =some v)/\
  (Conv.stringToBytes e st).run P w= .ok (.slice (some ⟨w.heap.size,0,none⟩) st.size cap) (w.drew.alloc (.cells arr e (arr.size,arr.size+1))):=by
 refine⟨(Question.appendCap st.size 0 e).cut (w.tape w.drawn (.appendCap st.size 0 e)),by simp[Question.cut],
  (st.data.map λb=>Value.int .u8 b.toNat)++Array.replicate ((Question.appendCap st.size 0 e).cut (w.tape w.drawn (.appendCap st.size 0 e)) - st.size) (.int .u8 0),?_,?_⟩
 ·intro j v hj;have hl:j < st.data.size:=by have:=(dC.1 hj).1;simpa[bF]using this
  rw[ke,if_pos (by simpa using hl)];simpa[bF,hl]using hj
 ·have hs:∀(arr:Array Value),(markStringish ⟨w.heap.size,0,none⟩).run P (w.drew.alloc (.cells arr e))= .ok () (w.drew.alloc (.cells arr e (arr.size,arr.size+1))):=by
   intro arr;have h1:(w.drew.alloc (.cells arr e)).shape? w.heap.size=some (e,arr.size):=by
    have h2:(w.drew.alloc (.cells arr e)).heap[w.heap.size]? =some (.cells arr e):=tt w.drew _
    simp only[World.shape?,h2]
   have h3:=ajR w.drew arr e arr.size;have h4:w.drew.heap.size=w.heap.size:=rfl;rw[h4]at h3;simp only[markStringish,Sem.run_bind,run_shape,h1,Result.andThen_ok,run_freeze,h3]
  simp[Conv.stringToBytes,Question.forced,newRow,hs]
theorem Inv.kill(h:Inv C g β s a w){id:Id}{v:Nat}{fr:Bool}{c:aA}(hs:s.bQ id=some (.obj v fr c)){b:Nat}(hg:g b= .own (.id id) 0){w':World}(aTZ:w'.os=w.os)(bbA:w'.tape=w.tape)(aj1:w'.output=w.output/\w.drawn<=w'.drawn)(tc:w'.heap.size=w.heap.size)
  (Kl:∀b',b'≠b->w'.heap[b']? =w.heap[b']?):Inv C (ni g b .free) β (s.bg id .dead) a w':=by
 have ht:Trans w w' g (ni g b .free):=by
  refine⟨aTZ,bbA,aj1,by omega,λb' hb'=> ?_⟩;by_cases he:b'=b
  ·subst he;rw[hg,fv];exact⟨.inl rfl,λ_ _ hh=>by omega⟩
  ·rw[fi _ _ _ he,Kl b' he];cases WX:g b' with
   |free=>exact⟨rfl,rfl⟩
   |own o k=>cases o with
    |dZ=>exact⟨rfl,rfl⟩
    |id i=>exact⟨.inr ⟨i,k,rfl,aw _⟩,λoff v _ hv=>by simp only[World.cell?,Kl b' he]at hv ⊢;exact hv⟩
 have kQ:=eC s id .dead (by rw[hs];simp);have hle:cJ (s.env w g β) ((s.bg id .dead).env w' (ni g b .free) β):=by
  refine⟨Trans.mem ht,λi ver hb=> ?_,λi ver hb hc=> ?_⟩
  ·by_cases hi:i=id
   ·subst hi;exact⟨by show(s.bg i .dead).bQ i≠none;rw[kQ];simp,λv fr c hh=>by
     have hh:(s.bg i .dead).bQ i=some (.obj v fr c):=hh;rw[kQ]at hh;cases hh⟩
   ·have:=cQ s id i .dead hi;obtain⟨h1,h2⟩:=hb;exact⟨by show(s.bg id .dead).bQ i≠none;rw[this];exact h1,λv fr c hh=>h2 v fr c (this.symm.trans hh)⟩
  ·obtain⟨fr,c,hc⟩:=hc;have hc:(s.bg id .dead).bQ i=some (.obj ver fr c):=hc;by_cases hi:i=id
   ·subst hi;rw[kQ]at hc;cases hc
   ·rw[cQ s id i .dead hi]at hc;exact⟨⟨fr,c,hc⟩,rfl⟩
 refine h.step (da _ _ _) ht hle λi ver fr c hi=> ?_
 have hi:(s.bg id .dead).bQ i=some (.obj ver fr c):=hi;by_cases cR:i=id
 ·subst cR;rw[kQ]at hi;cases hi
 ·rw[cQ s id i .dead cR]at hi;refine(h.bI i ver fr c hi).mono hle rfl (λpl hp=> ?_) λq2 vq k2 v2 l2 SU baT=> ?_
  ·have gg:=h.apart hg cR hi (pl:=pl) hp;exact⟨Kl pl.b gg,fi _ _ _ gg⟩
  ·have SU:s.bQ q2=some (.obj vq true (.mp k2 v2 l2)):=SU;have hd:q2≠id:=λe=>by obtain⟨fr3,c3,aJF⟩:=baT;have aJF:(s.bg id .dead).bQ q2=some (.obj vq fr3 c3):=aJF;rw[e,kQ]at aJF;cases aJF
   refine⟨⟨k2,v2,l2,by show(s.bg id .dead).bQ q2=_;rw[cQ s id q2 .dead hd];exact SU⟩,λpl hp=> ?_⟩;have gg:=h.apart hg hd SU (pl:=pl) hp;exact⟨Kl pl.b gg,fi _ _ _ gg⟩
theorem auc(h:Inv C g β s a w){src dst:TypeId}{x:Operand}(ho:o.op= .convert src dst x){id:Id}{ver len:Nat}(hx:s.ev x= .bu id ver [] 0 0 len){s':AS}(he:(anO P s o.dst src dst id ver len).eval=some s'):fy P o a w (ia C s'):=by
 unfold anO at he;split at he
 ·rename_i v e0 l e lK hD;split at he
  ·rename_i hE;obtain⟨h1,h2⟩:=aB.1 he;obtain⟨h3,h4⟩:=bM.1 h2;obtain rfl:=ax.1 h4;simp only[aq,dp]at h1;obtain⟨rfl,rfl⟩:=h1;simp only[ba]at h3;obtain⟨h5,h6⟩:=h3;have cM:=dX lK;have hv:=h.ev x;rw[hx]at hv;obtain⟨ad,cap,hy,PE,_,_,fk⟩:=rJ hv;have fk:=fk ⟨false,_,cM⟩;have hO:wQ (s.env w g β) id false (.vec e0 (.int .u8) l):=h.bI id v false _ cM;obtain⟨hz,hO⟩:=hO;have hO:(match β id with
    |none=>l=[]
    |some pl=>∃cur k,w.heap[pl.b]? =some (.cells cur e0 (0,0))/\cur.size=pl.cap*(Ty.int .u8).size/\l.length<=pl.cap/\pl.cap<=maxLen/\g pl.b= .own (.id id) k/\
      k<=l.length*(Ty.int .u8).size/\(false=false->k=0)/\bz (cW (s.env w g β) (.int .u8)) (cur.toList.take (l.length*(Ty.int .u8).size)) l):=hO
   have fk:(match β id with
    |some pl=>(0 < len\/0=0->ad=some ⟨pl.b,0,none⟩)/\(([]:List Ke)=[]->0=0->cap=pl.cap)
    |none=>ad=none/\len=0/\cap=0):=fk
   cases hp:β id with
   |none=>rw[hp]at hO;simp only at hO;subst hO;simp at h6;omega
   |some pl=>
    rw[hp]at hO fk;obtain⟨cur,k,q1,q2,q3,q4,q5,q6,q7,q8⟩:=hO;have hk:=q7 rfl;subst hk;have aCt:=fk.1 (.inr rfl);subst aCt;have hb:pl.b < w.heap.size:=(bK.1 q1).1;have aYO:∃w',w.freeze ⟨pl.b,cur.size,none⟩ 1=w'/\w'.heap[pl.b]? =some (.cells cur e0 (cur.size,cur.size+1))/\w'.os=w.os/\w'.tape=w.tape/\(w'.output=w.output/\w.drawn<=w'.drawn)/\w'.heap.size=w.heap.size/\∀b',b'≠pl.b->w'.heap[b']? =w.heap[b']? :=by
     refine⟨_,rfl,?_⟩;unfold World.freeze;rw[if_neg (by omega)];refine⟨?_,rfl,rfl,⟨rfl,aw _⟩,by simp,λb' hb'=> ?_⟩
     ·simp only[gh,bG,q1,dQ];rfl
     ·simp only[gh];rw[if_neg (λe=>hb' e.symm)]
    obtain⟨w',hw',f1,f2,f3,f4,f5,f6⟩:=aYO;have aJP:w.shape? pl.b=some (e0,cur.size):=by simp only[World.shape?,q1]
    have hm:(markStringish ⟨pl.b,0,none⟩).run P w= .ok () w':=by simp only[markStringish,Sem.run_bind,run_shape,aJP,Result.andThen_ok,run_freeze,hw']
    have i1:=h.kill cM q5 f2 f3 f4 f5 f6;refine .inl ⟨.slice (some ⟨pl.b,0,none⟩) len cap,w',dR (f:=convert src src (a.eval x)) (by simp only[execOp,ho]) ?_,_,β,i1.put o.dst ⟨_,?_,rfl⟩⟩
    ·rw[hy];simp[convert,run_underlying hD,run_underlying hE,hm]
    ·have U9:=wW q8;have aVQ:(Ty.int .u8).size=1:=rfl;rw[aVQ,gD]at U9;simp only[V,cW];refine⟨_,cap,l.map (Value.int .u8),by rw[h6],by rw[<-h6];exact PE,λ_=>rfl,λj vv hj=>⟨_,_,rfl,?_,?_⟩,w7 (E:=(s.bg id .dead).env w' (ni g pl.b .free) β) _⟩
     ·rw[aJ];show w'.cell? ⟨pl.b,j,none⟩=some vv;simp only[World.cell?,f1];rw[<-U9,cZ]at hj;split at hj
      ·simpa using hj
      ·cases hj
     ·show uR (ni g pl.b .free) pl.b (0+j);unfold uR;rw[fv];trivial
  ·simp only[au]at he
 ·simp only[au]at he
theorem aQc(h:Inv C g β s a w){src dst:TypeId}{x:Operand}(ho:o.op= .convert src dst x){l:List Int}(hl:s.ev x= .sb l){v:aA}(he:(aIw P src dst l).eval=some v):fy P o a w (ia C (s.put o.dst v)):=by
 have hx:=h.ev x;have fin:∀z,(convert src dst (a.eval x)).run P w= .ok z w->VS (s.env w g β) v z->fy P o a w (ia C (s.put o.dst v)):=by intro z h1 h2;exact h.value h2 (dR (f:=convert src dst (a.eval x)) (by simp only[execOp,ho]) h1)
 unfold aIw at he;split at he
 ·rename_i e e' hD hS;rw[hl]at hx;split at he
  ·rename_i hE;obtain⟨h1,h2⟩:=aB.1 he;obtain rfl:=ax.1 h2;have h1:src=dst:=by simpa using h1
   subst h1;obtain⟨cs,hv,hO⟩:=hx;simp only[V]at hv;obtain⟨b,cap,arr,e2,aCx,PE,aVG,hb,auI⟩:=hv;have hO':cs=[a.eval x]:=hO;rw[aCx]at hO';have hy:a.eval x= .slice (some ⟨b,0,none⟩) l.length cap:=by simpa using hO'.symm
   rw[hD]at hS;obtain rfl:e=e':=by simpa using hS
   refine fin (.slice (some ⟨b,0,none⟩) l.length cap) ?_ ⟨_,?_,rfl⟩
   ·rw[hy];have hb:w.heap[b]? =some (.cells arr e2 (arr.size,arr.size+1)):=hb
    have aYO:=aoG hb;have aJP:w.shape? b=some (e2,arr.size):=by simp only[World.shape?,hb]
    have hm:(markStringish ⟨b,0,none⟩).run P w= .ok () w:=by simp only[markStringish,Sem.run_bind,run_shape,aJP,Result.andThen_ok,run_freeze,aYO]
    simp[convert,run_underlying hD,run_underlying hE,hm]
   ·simp only[V,cW];refine⟨_,cap,l.map (Value.int .u8),rfl,PE,λ_=>rfl,λj v hj=>⟨_,_,rfl,?_,?_⟩,w7 (E:=s.env w g β) _⟩
    ·rw[aJ];show w.cell? ⟨b,j,none⟩=some v;have hb:w.heap[b]? =some (.cells arr e2 (arr.size,arr.size+1)):=hb
     simp only[World.cell?,hb];simpa using auI j v hj
    ·show uR g b (0+j);unfold uR;have aVG:g b= .free:=aVG;rw[aVG];trivial
  ·simp only[au]at he
 ·simp only[au]at he
theorem ajl(h:Inv C g β s a w){obj:Bool}{src dst:TypeId}{x:Operand}(ho:o.op= .convert src dst x){v:aA}(he:(agq P s obj src dst (s.ev x)).eval=some v):fy P o a w (ia C (s.put o.dst v)):=by
 have hx:=h.ev x;have fin:∀z,(convert src dst (a.eval x)).run P w= .ok z w->VS (s.env w g β) v z->fy P o a w (ia C (s.put o.dst v)):=by intro z h1 h2;exact h.value h2 (dR (f:=convert src dst (a.eval x)) (by simp only[execOp,ho]) h1)
 unfold agq at he;split at he
 ·rename_i l hl;exact aQc h ho hl he
 rename_i aYU;unfold aIv at he;split at he
 ·rename_i k n k' d hl hD hS;rw[hl]at hx;obtain rfl:=ax.1 he;refine fin (.int k' (k'.wrap n)) ?_ (lz _ _)
  rw[vb hx];simp[convert,run_underlying hD,run_underlying hS,Conv.intToInt]
 ·rename_i st d hl hD hS;rw[hl]at hx;obtain rfl:=ax.1 he;refine fin (.string st) ?_ (aiD _)
  rw[I4 hx];simp[convert,run_underlying hD,run_underlying hS]
 ·rename_i st e d hl hD hS;rw[hl]at hx;split at he
  ·rename_i hE;obtain⟨cap,PE,arr,auI,pT⟩:=Q0 (P:=P) e st w;have i1:=(h.drew).Jv (.cells arr e (arr.size,arr.size+1));have hlen:(bF st).length=st.size:=by simp only[bF,bX,cH];rfl
   have h2:=tt w.drew (.cells arr e (arr.size,arr.size+1));have hex:(execOp a.eval o).run P w= .ok (.value (.slice (some ⟨w.heap.size,0,none⟩) st.size cap)) (w.drew.alloc (.cells arr e (arr.size,arr.size+1))):=by
    refine dR (f:=convert src dst (a.eval x)) (by simp only[execOp,ho]) ?_
    rw[I4 hx];simp[convert,run_underlying hD,run_underlying hS,run_underlying hE,pT]
   have ayW:ni g w.drew.heap.size .free w.heap.size= .free:=by rw[show w.drew.heap.size=w.heap.size from rfl,fv]
   cases obj with
   |false=>
    obtain rfl:=ax.1 he;refine .inl ⟨_,_,hex,_,β,i1.put o.dst ⟨_,?_,rfl⟩⟩;simp only[V,cW];refine⟨_,cap,(bF st).map (Value.int .u8),by rw[hlen],by omega,λ_=>rfl,λj v hj=>⟨_,_,rfl,?_,?_⟩,w7 (E:=s.env (w.drew.alloc (.cells arr e (arr.size,arr.size+1))) (ni g w.drew.heap.size .free) β) _⟩
    ·have:=auI j v hj;rw[aJ];show(w.drew.alloc (.cells arr e (arr.size,arr.size+1))).cell? ⟨w.drew.heap.size,j,none⟩=some v;simp only[World.cell?,h2];simpa using this
    ·show uR (ni g w.drew.heap.size .free) w.heap.size (0+j);unfold uR;rw[ayW];trivial
   |true=>
    obtain rfl:=ax.1 he;refine .inl ⟨_,_,hex,_,β,i1.put o.dst ⟨_,?_,rfl⟩⟩;simp only[V];exact⟨w.heap.size,cap,arr,e,by rw[hlen],by omega,ayW,h2,auI⟩
  ·simp only[au]at he
 ·rename_i e hD hS gg;clear gg;split at he
  ·rename_i hE;obtain⟨l,h1,h2⟩:=av.1 he;obtain rfl:=ax.1 h2;obtain⟨cs,hR,hO⟩:=avH h hx h1;simp only[cW]at hR;obtain⟨ad,cap,vs,rfl,aGn,qu,rY,vY⟩:=hR;have hO': [Value.slice ad (ag l) cap]=[a.eval x]:=hO;have hy:a.eval x= .slice ad (ag l) cap:=by simpa using hO'.symm
   refine fin (.string (fh l)) ?_ (aiD _)
   rw[hy,run_convert_bytes_string w src dst e ad _ _ hS hE hD];have U9:=wW (E:=(s.env w g β).open) (k:= .u8) (vs:=vs) (l:=l) vY;cases ad with
   |none=>
    have aYU:l=[]:=by
     cases l with
     |nil=>rfl
     |cons _ _=>simp at qu
    subst aYU;rfl
   |some ad=>
    have aJK:(loadCells ad (ag l)).run P w= .ok (l.map (Value.int .u8)).toArray w:=by
     have:=run_loadCells_list (P:=P) w ad (l.map (Value.int .u8)) (λj v hj=>by
      rw[<-U9]at hj;obtain⟨bb,off,e1,hh⟩:=rY j v hj;simp only[ay]at e1;subst e1;rw[Addr.add_lit];exact hh.1)
     simpa using this
    rw[run_bytesToString w ad _ _ l aJK,foldl_push];simp[fh]
  ·simp only[au]at he
 ·simp only[au]at he
end
end Go.Ab
namespace Go.Ab
section
variable {P:Program} {C:Ctx} {g:Nat->lS} {β:Id->Option Pl} {s:AS} {a:Act} {w:World} {o:Oper}
theorem agJ(off:Nat):∀(vs:List Value) (k:Nat) (cells:Array Value),off+k+vs.length<=cells.size->
  ((vs.zipIdx k).foldl (λcs (c,j)=>cs.setIfInBounds (off+j) c) cells).toList=dq cells.toList (off+k) vs
 |[],k,cells,_=>by simp[dq]
 |v::vs,k,cells,h=>by simp only[az]at h;rw[List.zipIdx_cons,bo,agJ off vs (k+1) _ (by simpa using(by omega:off+(k+1)+vs.length<=cells.size))];rw[Array.toList_setIfInBounds];have:=list_seg_step cells.toList (off+k) v vs (by simp;omega);unfold dq;simpa[eK]using this
theorem agH{place:Nat->Option (Nat×Nat)}{cells:Array Value}{i off:Nat}{v:Value}{vs:List Value}{rest:List (Nat×Value)}(hp:place i=some (off,vs.length))(hv:v.cells=vs.toArray)(hl:off+vs.length<=cells.size):
  Instr.fill place cells ((i,v)::rest)=Instr.fill place (dq cells.toList off vs).toArray rest:=by
 have h1:v.cells.size=vs.length:=by rw[hv];simp
 have h2:¬(v.cells.size≠vs.length || off+v.cells.size > cells.size)=true:=by simp[h1];omega
 simp only[Instr.fill,hp];rw[if_neg h2];congr 1;apply fZ;have:=agJ off vs 0 cells (by omega);simp only[cd]at this;rw[<-this,hv];rw[<-Array.foldl_toList];simp
theorem C4{E E':Env}(hs:E.s=s.bQ)(ho:iG E)(he:cJ E E'){t:Ty}(aoS:∀x,VS E (s.ev x) (a.eval x)):
  ∀(ps:List (Nat×Operand)) (l:List t.den) (r:List t.den×List Id) (cells:Array Value),(jj t s ps l).eval=some r->aX6 E E' r.2->bz (cW E' t) cells.toList l->
   ∃cells',Instr.fill (λi=>some (i*t.size,t.size)) cells (ps.map λ(i,x)=>(i,a.eval x))=some cells'/\bz (cW E' t) cells'.toList r.1
 |[],l,r,cells,h,_,hc=>by obtain rfl:=ax.1 h;exact⟨cells,rfl,hc⟩
 | (i,x)::ps,l,r,cells,h,hf,hc=>by
  simp only[jj]at h;obtain⟨h1,h2⟩:=aB.1 h;obtain⟨y,h3,h4⟩:=av.1 h2;obtain⟨r',h5,h6⟩:=av.1 h4;obtain rfl:=ax.1 h6;have hi:i < l.length:=by simpa using h1
  obtain⟨cs,hV,hO⟩:=(aoS x).eL (Cm h3);have hR:=xn hs ho he _ t y cs hV h3 (λid cR=>hf id (by simp[cR]));have Dw:=hO.cells hV.one;have hlen:=hc.length (λ_ _ hx=>cW.size hx);have tc:=hR.size;have hle:i*t.size+cs.length<=cells.size:=by have:=cO t.size (show i+1<=l.length by omega);rw[eg,ij]at this;simp at hlen;omega
  have aj5:=bz.set (λ_ _ hx=>cW.size hx) hc i hi hR;obtain⟨cells',q1,q2⟩:=C4 hs ho he aoS ps (l.set i y) r' (dq cells.toList (i*t.size) cs).toArray h5 (λid cR=>hf id (by simp[cR])) aj5;refine⟨cells',?_,q2⟩;rw[bT,agH (by rw[tc]) Dw hle];exact q1
theorem uk{E:Env}{t:Ty}{zc:Array Value}(hz:cW E t zc.toList t.zero):∀n:Nat,bz (cW E t) (madeCells zc (n*t.size)).toList (ab n t.zero):=by
 have tc:zc.size=t.size:=by have:=hz.size;simpa using this
 intro n
 induction n with
 |zero=>simp[madeCells,bz]
 |succ n ih=>
  have e:(madeCells zc ((n+1)*t.size)).toList=(madeCells zc (n*t.size)).toList++zc.toList:=by
   apply kD;intro j;rw[eg,ij];simp only[madeCells,Array.toList_map,Array.toList_range,dY,List.getElem?_append,bX,List.length_range];by_cases hj:j < n*t.size
   ·have hj':j < n*t.size+t.size:=by omega
    simp[hj,hj',tc]
   ·by_cases hj':j < n*t.size+t.size
    ·have gv:j - n*t.size < zc.size:=by omega
     have hm:j%t.size=j - n*t.size:=by
      have:j=(j - n*t.size)+t.size*n:=by rw[pN t.size n];omega
      rw[this,Nat.add_mul_mod_self_left,jJ (by omega)];rw[pN t.size n];omega
     simp[hj,hj',tc,hm];rw[getElem?_pos zc _ gv,kP zc _ gv]
    ·have h1:¬j - n*t.size < zc.size:=by omega
     simp[hj,hj',h1]
  rw[e,List.replicate_succ'];exact bz.append ih (bz.one hz)
theorem qN{nl:Bool}{T:TypeId}{e:TypeId}{t:Ty}{b:Nat}(h:EP P nl T=some (e,t,b)):
  P.underlying T=some (.slice e)/\0 < t.size/\∃i zv,P.info? e=some i/\i.size=t.size/\i.bytes=b/\i.zero=some zv/\∀E,cW E t zv.cells.toList t.zero:=by
 unfold EP at h;split at h
 ·rename_i e' hT;split at h
  ·rename_i t' ht;split at h
   ·rename_i hg;simp only[ay,cv]at h;obtain⟨rfl,rfl,rfl⟩:=h;simp only[aq,cr,dp,gf]at hg;obtain⟨⟨h1,h2⟩,h3⟩:=hg;obtain⟨i,zv,hi,hz,_,_⟩:=vJ h3 {w:=default,g:=λ_=> .free,β:=λ_=>none,s:=λ_=>none};refine⟨hT,by omega,i,zv,hi,by rw[<-mQ hi];exact h1,by simp[Program.bytesOf,hi],hz,λE=> ?_⟩;obtain⟨i',zv',hi',hz',hV,_⟩:=vJ h3 E;rw[hi]at hi';obtain rfl:i=i':=by simpa using hi'
    rw[hz]at hz';obtain rfl:zv=zv':=by simpa using hz'
    simpa only[V]using hV
   ·cases h
  ·cases h
 ·cases h
theorem CA{T:TypeId}{e:TypeId}{t:Ty}{b:Nat}(h:XC P T=some (e,t,b)):P.underlying T=some (.slice e)/\0 < t.size/\∃i zv,P.info? e=some i/\i.size=t.size/\i.bytes=b/\i.zero=some zv/\∀E,cW E t zv.cells.toList t.zero:=qN h
theorem aeq{T:TypeId}{e:TypeId}{t:Ty}{b:Nat}(h:ajH P T=some (e,t,b)):0 < t.size:=by
 unfold ajH at h;split at h
 ·exact(qN h).2.1
 ·exact(qN h).2.1
theorem Inv.akC(h:Inv C g β s a w){q:Nat}(hq:s.dV q=true){e:TypeId}{t:Ty}{l:List t.den}{cur:Array Value}{cap:Nat}(hz:0 < t.size)(hc:bz (cW (s.env w g β) t) (cur.toList.take (l.length*t.size)) l)
  (hs:cur.size=cap*t.size) (hl:l.length<=cap) (hm:cap<=maxLen):
  ∃g' β',Inv C g' β' (s.born q [.obj 0 false (.vec e t l)]) a (w.alloc (.cells cur e))/\
   VS ((s.born q [.obj 0 false (.vec e t l)]).env (w.alloc (.cells cur e)) g' β') (.bu (.new q 0) 0 [] 0 0 l.length) (.slice (some ⟨w.heap.size,0,none⟩) l.length cap):=by
 have ht:=Trans.alloc w g (.cells cur e) (.own (.id (.new q 0)) 0);obtain⟨h1,h2⟩:=h.Sr hq (c:= .vec e t l) (p:=some ⟨w.heap.size,cap⟩) ht (λb hb=>⟨qM w _ hb,fi _ _ _ (by omega)⟩) (λhe=>by
  refine⟨hz,?_⟩;show(match Jt β (.new q 0) (some ⟨w.heap.size,cap⟩) (.new q 0) with
   |none=>l=[]
   |some pl=>_)
  rw[jO];exact⟨cur,0,tt w _,hs,hl,hm,fv _ _ _,aL _,λ_=>rfl,hc.mono λ_ _ hx=>hx.mono he.mem⟩)
 refine⟨_,_,h1,_,?_,rfl⟩;simp only[V];refine⟨_,_,rfl,hl,λ_=>rfl,pS hq _ _ _ _,λ_=> ?_⟩;show(match Jt β (.new q 0) (some ⟨w.heap.size,cap⟩) (.new q 0) with
   |some pl=>_
   |none=>_)
 rw[jO];exact⟨λ_=>rfl,λ_ _=>rfl⟩
theorem Inv.aLc(h:Inv C g β s a w){q:Nat}(hq:s.dV q=true){e:TypeId}{t:Ty}(hz:0 < t.size):
  ∃β',Inv C g β' (s.born q [.obj 0 false (.vec e t [])]) a w/\cJ (s.env w g β) ((s.born q [.obj 0 false (.vec e t [])]).env w g β')/\
   VS ((s.born q [.obj 0 false (.vec e t [])]).env w g β') (.bu (.new q 0) 0 [] 0 0 0) (.slice none 0 0):=by
 have ht:=Trans.refl w g;obtain⟨h1,h2⟩:=h.Sr hq (c:= .vec e t []) (p:=none) ht (λb hb=>⟨rfl,rfl⟩) (λhe=>by
  refine⟨hz,?_⟩;show(match Jt β (.new q 0) none (.new q 0) with
   |none=>([]:List t.den)=[]
   |some pl=>_)
  rw[jO])
 refine⟨_,h1,h2,_,?_,rfl⟩;simp only[V];refine⟨_,_,rfl,aw _,λhh=>by omega,pS hq _ _ _ _,λ_=> ?_⟩;simp[AS.env]
theorem Tk(parts:Array (Nat×Operand)):(parts.map λ(i,x)=>(i,a.eval x)).toList=parts.toList.map λ(i,x)=>(i,a.eval x):=by simp
theorem WT(h:Inv C g β s a w){T:TypeId}{n:Nat}{parts:Array (Nat×Operand)}{nl obj:Bool}(ho:o.op= .buildSlice T n parts){s':AS}(he:(mu P s nl obj o.dst T n parts.toList).eval=some s'):fy P o a w (ia C s'):=by
 unfold mu at he;split at he
 ·rename_i e t b q Kk hd;obtain⟨hT,hz,i,zv,hi,aCC,aVK,asX,aCL⟩:=qN Kk;obtain⟨h1,h2⟩:=aB.1 he;obtain⟨r,h3,h4⟩:=av.1 h2;simp only[ba]at h1;obtain⟨g1,i1,e1,t1,f1⟩:=fo r.2 h;have aXS:zv.cells.size=t.size:=by have:=(aCL (s.env w g β)).size;simpa using this
  obtain⟨cells',aYM,vY⟩:=C4 (a:=a) rfl h.bI e1 h.ev parts.toList _ r (madeCells zv.cells (n*t.size)) h3 f1 (uk (aCL _) n);have aYY:r.1.length=n:=by
   have:∀(ps:List (Nat×Operand)) (l:List t.den) (r:List t.den×List Id),(jj t s ps l).eval=some r->r.1.length=l.length:=by
    intro ps
    induction ps with
    |nil=>intro l r hh;obtain rfl:=ax.1 hh;rfl
    |cons p ps ih=>
     intro l r hh;obtain⟨i,x⟩:=p;simp only[jj]at hh;obtain⟨_,h2⟩:=aB.1 hh;obtain⟨y,h3,h4⟩:=av.1 h2;obtain⟨r',h5,h6⟩:=av.1 h4;obtain rfl:=ax.1 h6;have:=ih _ _ h5;simpa using this
   rw[this _ _ _ h3];simp
  have aGm:=vY.length (λ_ _ hx=>cW.size hx);have pT:(execOp a.eval o).run P w= .ok (.value (.slice (some ⟨w.heap.size,0,none⟩) n n)) (w.alloc (.cells cells' e)):=by
   refine dR (f:=Instr.buildSlice T n (parts.map λ(i,x)=>(i,a.eval x))) (by simp only[execOp,ho]) ?_
   have aYA:¬n*t.size > 2^24:=by omega
   have hfill':Instr.fill (λi=>some (i*t.size,t.size)) ((Array.range (n*t.size)).map (λx=>(zv.cells)[x%zv.cells.size]!)) (parts.map λ(i,x)=>(i,a.eval x)).toList=some cells':=by rw[Tk];exact aYM
   by_cases hn:n*t.size=0
   ·have aQQ:n=0:=by
     rcases Nat.mul_eq_zero.1 hn with h' | h'
     ·exact h'
     ·omega
    subst aQQ;simp only[mK]at hfill' aYA;have h0:Array.range 0= #[]:=rfl;rw[h0,Array.map_empty]at hfill';simp at hfill';simp[Instr.buildSlice,run_underlying hT,run_sizeOf hi,aCC,newRow,h0,hfill']
   ·simp[Instr.buildSlice,run_underlying hT,run_sizeOf hi,aCC,newRow,hn,aYA,zeroValue,typeInfo,hi,asX];simp at hfill';simp[hfill']
  cases obj with
  |true=>
   simp only at h4;obtain⟨hq,h5⟩:=aB.1 h4;obtain rfl:=ax.1 h5;rw[<-vG r.2]at hq;have aYN:cells'.toList.take (r.1.length*t.size)=cells'.toList:=aW (by omega);obtain⟨g2,β2,i2,U8⟩:=i1.akC hq (e:=e) (l:=r.1) (cur:=cells') (cap:=n) hz (by rw[aYN];exact vY) (by simp at aGm;rw[aGm,aYY]) (by omega) (by
    have:n<=n*t.size:=Nat.le_mul_of_pos_right n hz;unfold maxLen;omega)
   refine .inl ⟨_,_,pT,g2,β2,?_⟩;rw[hd];rw[aYY]at U8 ⊢;exact i2.put (some q) U8
  |false=>
   simp only at h4;obtain rfl:=ax.1 h4;have i2:=i1.Jv (.cells cells' e);refine .inl ⟨_,_,pT,ni g1 w.heap.size .free,β,?_⟩;rw[hd];refine i2.put (some q) ⟨[.slice (some ⟨w.heap.size,0,none⟩) n n],?_,rfl⟩;simp only[V,cW];refine⟨_,n,cells'.toList,by rw[aYY],by omega,λ_=>rfl,λj v hj=>⟨_,_,rfl,?_,?_⟩,vY.mono λ_ _ hx=>hx.mono (Trans.mem (E:=(s.bt r.2).env w g1 β) (E':=(s.bt r.2).env (w.alloc (.cells cells' e)) (ni g1 w.heap.size .free) β) (Trans.alloc w g1 (.cells cells' e) .free))⟩
   ·show(w.alloc (.cells cells' e)).cell? ⟨w.heap.size,0+j,none⟩=some v;rw[World.cell?_alloc_new,aJ];simpa using hj
   ·show uR (ni g1 w.heap.size .free) w.heap.size (0+j);unfold uR;rw[fv];trivial
 ·simp only[au]at he
theorem aat(h:Inv C g β s a w){T:TypeId}{x y:Operand}(ho:o.op= .makeSlice T x y){len cap:Int}(hx:(asInt (s.ev x)).eval=some len)(hy:(asInt (s.ev y)).eval=some cap){s':AS}
  (he:(si P s o.dst T len cap).eval=some s'):fy P o a w (ia C s'):=by
 obtain⟨k,hx⟩:=zW (h.ev x) hx;obtain⟨k',hy⟩:=zW (h.ev y) hy;unfold si at he;split at he
 ·rename_i e t b q Kk hd;obtain⟨hT,hz,i,zv,hi,aCC,aVK,asX,aCL⟩:=CA Kk;obtain⟨hq,h2⟩:=aB.1 he;obtain⟨h3,h4⟩:=bM.1 h2;obtain rfl:=ax.1 h4;simp only[aq,ba,cT]at h3;obtain⟨⟨h5,h6⟩,h7,h8⟩:=h3;have hbytes:(i.bytes:Int)*cap<=281474976710656:=by
   rw[aVK];have:((cap.toNat*b:Nat):Int)<=140737488355328:=by omega
   rw[kq,show((cap.toNat:Nat):Int)=cap by omega,pE]at this;omega
  have hr:=run_make (P:=P) w T e i zv hT hi asX k k' len cap h5 h6 hbytes (by omega);rw[aCC]at hr;have aXS:zv.cells.size=t.size:=by have:=(aCL (s.env w g β)).size;simpa using this
  have CC:=uk (aCL (s.env w g β)) cap.toNat;have aCK:=bz.take (λ_ _ hx=>cW.size hx) len.toNat CC;rw[List.take_replicate,fM (by omega)]at aCK;obtain⟨g2,β2,i2,U8⟩:=h.akC hq (e:=e) (l:=ab len.toNat t.zero) (cur:=madeCells zv.cells (cap.toNat*t.size)) (cap:=cap.toNat) hz (by rw[b8];exact aCK) (size_madeCells _ _) (by rw[b8];omega) (by unfold maxLen;omega);rw[b8]at U8;refine .inl ⟨_,_,dR (f:=Instr.makeSlice T (a.eval x) (a.eval y)) (by simp only[execOp,ho]) (by rw[hx,hy];exact hr),g2,β2,?_⟩;rw[hd];exact i2.put (some q) U8
 ·simp only[au]at he
end
end Go.Ab
namespace Go.Ab
section
variable {P:Program} {C:Ctx} {g:Nat->lS} {β:Id->Option Pl} {s:AS} {a:Act} {w:World} {o:Oper}
theorem avD:∀(c:aA) (f off:Nat) (v:aA),partOf c f=some (off,v)->(loc c (nK f)).eval=some (off,v):=by
 intro c f
 induction f generalizing c with
 |zero=>
  intro off v h;cases c with
  |d t y=>
   cases t <;> simp only[partOf,reduceCtorEq]at h;simp only[ay,cv]at h;obtain⟨rfl,rfl⟩:=h;rfl
  |pr b c=>
   simp only[partOf,ay,cv]at h;obtain⟨rfl,rfl⟩:=h;simp only[nK,loc];cases b <;> rfl
  |_=>simp only[partOf,reduceCtorEq]at h
 |succ f ih=>
  intro off v h;cases c with
  |d t y=>
   cases t with
   |pair ta tb=>
    simp only[partOf]at h;cases hp:partOf (.d tb y.2) f with
    |none=>rw[hp]at h;cases h
    |some r=>
     rw[hp]at h;simp only[ay,cv]at h;obtain⟨rfl,rfl⟩:=h;simp only[nK,loc,av];exact⟨_,ih _ _ _ hp,rfl⟩
   |_=>simp only[partOf,reduceCtorEq]at h
  |pr b c=>
   simp only[partOf]at h;cases hp:partOf c f with
   |none=>rw[hp]at h;cases h
   |some r=>
    rw[hp]at h;simp only[ay,cv]at h;obtain⟨rfl,rfl⟩:=h;simp only[nK,loc,av];exact⟨_,ih _ _ _ hp,rfl⟩
  |_=>simp only[partOf,reduceCtorEq]at h
theorem apK(a b:aA):(Qe a b).agg=true:=by unfold Qe;split <;> rfl
theorem afC{v x v':aA}{i:Nat}(h:(xP v (nK i) x).eval=some v'):v'.agg=true:=by
 have fin:∀ {o:Out aA} {f:aA->aA},(∀a,(f a).agg=true)->(o.bind λa=>Out.ok (f a)).eval=some v'->v'.agg=true:=by intro o f hf hh;obtain⟨_,_,h2⟩:=av.1 hh;obtain rfl:=ax.1 h2;exact hf _
 cases i <;> simp only[nK]at h
 all_goals
  cases v with
  |d t y=>cases t <;> first | (simp only[xP,au]at h;done) | (simp only[xP]at h;exact fin (λ_=>apK _ _) h)
  |pr b c=>simp only[xP]at h;exact fin (λ_=>apK _ _) h
  |_=>simp only[xP,au]at h
theorem IS{E:Env}(aoS:∀x,VS E (s.ev x) (a.eval x)){fs:Array Field}{places:Array (Nat×Nat)}(Oi:∀(i:Nat) (f:Field),fs[i]? =some f->places[i]? =some (f.offset,P.cellsOf f.type)):
  ∀(ps:List (Nat×Operand)) (v v':aA) (cells:Array Value),(qk P fs s ps v).eval=some v'->V E v cells.toList->v.agg=true->
   ∃cells',Instr.fill (places[·]?) cells (ps.map λ(i,x)=>(i,a.eval x))=some cells'/\V E v' cells'.toList/\v'.agg=true
 |[],v,v',cells,h,hV,Oh=>by obtain rfl:=ax.1 h;exact⟨cells,rfl,hV,Oh⟩
 | (i,x)::ps,v,v',cells,h,hV,Oh=>by
  simp only[qk]at h;split at h
  ·rename_i f off bh hf hp;obtain⟨h1,h2⟩:=aB.1 h;obtain⟨v1,h3,h4⟩:=av.1 h2;simp only[aq,dp]at h1;obtain⟨⟨rfl,aZ3⟩,bcK⟩:=h1;obtain⟨auJ,_⟩:=rX bcK;obtain⟨cs,hVx,hO⟩:=(aoS x).eL auJ;have hcells:=hO.cells hVx.one;have ba8:=avD _ _ _ _ hp;obtain⟨u1,u2,u3⟩:=qs (nK i) v cells.toList f.offset bh (s.ev x) v1 cs (VO.of hV) ba8 hVx h3;have aY0:v1.iy=false:=u3.uf hV.uf;have tc:P.cellsOf f.type=cs.length:=by rw[(Hy bcK).2.1];exact hVx.size.symm
   obtain⟨cells',q1,q2,q3⟩:=IS aoS Oi ps v1 v' (dq cells.toList f.offset cs).toArray h4 (by simpa using u2.to aY0) (afC h3);refine⟨cells',?_,q2,q3⟩;rw[bT,agH (by rw[Oi i f hf,tc]) hcells (by simpa using u1)];exact q1
  ·simp only[au]at h
theorem arw{α γ:Type}(f:α->Sem γ)(r:α->γ):∀(l:List α),(∀x∈l,(f x).run P w= .ok (r x) w)->(l.mapM f).run P w= .ok (l.map r) w
 |[],_=>by simp
 |x::xs,h=>by rw[List.mapM_cons];simp only[Sem.run_bind,h x (by simp),Result.andThen_ok,arw f r xs (λy hy=>h y (by simp[hy])),Sem.run_pure,bT]
theorem atM(h:Inv C g β s a w){T:TypeId}{parts:Array (Nat×Operand)}(ho:o.op= .build T parts){s':AS}(he:(Hg P s o.dst T parts.toList).eval=some s'):fy P o a w (ia C s'):=by
 unfold Hg at he;split at he
 ·rename_i fs hT;split at he
  ·rename_i z beR;obtain⟨h1,h2⟩:=aB.1 he;obtain⟨v,h3,h4⟩:=av.1 h2;obtain rfl:=ax.1 h4;simp only[aq,dd]at h1;obtain⟨⟨hz,Oh⟩,ba5⟩:=h1;obtain⟨i,zv,hi,asX,hV,hO⟩:=vJ hz (s.env w g β)
   let places:Array (Nat×Nat):=fs.map λf=>(f.offset,P.cellsOf f.type)
   have Oi:∀(i:Nat) (f:Field),fs[i]? =some f->places[i]? =some (f.offset,P.cellsOf f.type):=by intro i f hf;simp[places,hf]
   obtain⟨cells',q1,q2,q3⟩:=IS (a:=a) h.ev Oi parts.toList z v zv.cells h3 hV Oh;have hm:(fs.mapM λf=>(do pure (f.offset,<-sizeOf f.type):Sem (Nat×Nat))).run P w= .ok places w:=by
    rw[Array.mapM_eq_mapM_toList];have:=arw (P:=P) (w:=w) (λf=>(do pure (f.offset,<-sizeOf f.type):Sem (Nat×Nat))) (λf=>(f.offset,P.cellsOf f.type)) fs.toList (by
     intro f hf;obtain⟨j,hj⟩:=bP.1 (ba5 f hf);rw[Sem.run_bind,run_sizeOf hj,mQ hj];rfl)
    rw[Sem.run_map,this];show Result.ok _ w=Result.ok _ w;congr 1;apply fZ;simp[places]
   refine h.value (x:= .agg cells') (VS.of q2 (by rw[q3];simp[fH])) (dR (f:=Instr.build T (parts.map λ(i,x)=>(i,a.eval x))) (by simp only[execOp,ho]) ?_);have q1':Instr.fill (places[·]?) zv.cells (parts.map λ(i,x)=>(i,a.eval x)).toList=some cells':=by rw[Tk];exact q1
   simp only[Instr.build,Sem.run_bind,zeroValue,typeInfo,run_program,hi,Result.andThen_ok,Sem.run_pure,asX,run_underlying hT,hm,q1']
  ·simp only[au]at he
 ·rename_i n e hT;split at he
  ·rename_i t ht;obtain⟨h1,h2⟩:=aB.1 he;obtain⟨r,h3,h4⟩:=av.1 h2;obtain rfl:=ax.1 h4;simp only[aq,dp]at h1;obtain⟨tc,hz⟩:=h1;obtain⟨g1,i1,e1,t1,f1⟩:=fo r.2 h;obtain⟨i,zv,hi,asX,hV,hO⟩:=vJ hz ((s.bt r.2).env w g1 β);simp only[V,cW]at hV;obtain⟨cells',q1,q2⟩:=C4 (a:=a) rfl h.bI e1 h.ev parts.toList _ r zv.cells h3 f1 hV.2;have aYY:r.1.length=n:=by
    have:∀(ps:List (Nat×Operand)) (l:List t.den) (r:List t.den×List Id),(jj t s ps l).eval=some r->r.1.length=l.length:=by
     intro ps
     induction ps with
     |nil=>intro l r hh;obtain rfl:=ax.1 hh;rfl
     |cons p ps ih=>
      intro l r hh;obtain⟨i,x⟩:=p;simp only[jj]at hh;obtain⟨_,h2⟩:=aB.1 hh;obtain⟨y,h3,h4⟩:=av.1 h2;obtain⟨r',h5,h6⟩:=av.1 h4;obtain rfl:=ax.1 h6;have:=ih _ _ h5;simpa using this
    rw[this _ _ _ h3];simp
   refine .inl ⟨.agg cells',w,dR (f:=Instr.build T (parts.map λ(i,x)=>(i,a.eval x))) (by simp only[execOp,ho]) ?_,g1,β,i1.put o.dst ⟨cells'.toList,?_,by simp[fH,aA.agg,Ty.agg]⟩⟩
   ·have q1':Instr.fill (λi=>some (i*t.size,t.size)) zv.cells (parts.map λ(i,x)=>(i,a.eval x)).toList=some cells':=by rw[Tk];exact q1
    cases ba3:P.info? e with
    |none=>
     exfalso;unfold asB adD at ht;simp only[depth]at ht;have:P.underlying e=none:=by simp[Program.underlying,ba3]
     rw[this]at ht;cases ht
    |some ie=>
     have bcZ:=run_sizeOf ba3 w;rw[<-mQ ba3,tc]at bcZ;simp only[Instr.build,Sem.run_bind,zeroValue,typeInfo,run_program,hi,Result.andThen_ok,Sem.run_pure,asX,run_underlying hT,bcZ,q1']
   ·simp only[V,cW];exact⟨aYY,q2⟩
  ·simp only[au]at he
 ·simp only[au]at he
theorem TU{T X ty e:TypeId}{i:TypeInfo}(hT:P.underlying T=some (.slice e))(hX:P.underlying X=some .string\/∃e',P.underlying X=some (.slice e'))(hi:P.info? e=some i)
  {b sLen sCap:Nat} {cur:Array Value} (hg:w.heap[b]? =some (.cells cur e (0,0))) {x:Value} {n:Nat} {news:List Value} (h1:∀u∈news,u.oneCell'=true)
  (hlen:(Builtin.lenOf x).run P w= .ok n w) (hf:(Builtin.firstCells i.size n x).run P w= .ok news.toArray w) (K8:sLen+n<=sCap) (ajZ:sLen*i.size+news.length<=cur.size):
  (Builtin.append_ #[T,X] ty #[.slice (some ⟨b,0,none⟩) sLen sCap,x]).run P w= .ok (.slice (some ⟨b,0,none⟩) (sLen+n) sCap) (w.setRow b (dq cur.toList (sLen*i.size) news).toArray):=by
 have ml:=run_storeCells_at P b (sLen*i.size) e news 0 cur w hg (by simpa using ajZ) h1;simp only[cd]at ml;rcases hX with hX | ⟨e',hX⟩ <;> simp[Builtin.append_,run_underlying hT,run_underlying hX,sizeOf,typeInfo,hi,hlen,K8,hf,Addr.add_lit,ml,dq]
theorem Gq{T X ty e:TypeId}{i:TypeInfo}(hT:P.underlying T=some (.slice e))(hX:P.underlying X=some .string\/∃e',P.underlying X=some (.slice e'))(hi:P.info? e=some i)
  {x:Value} (hlen:(Builtin.lenOf x).run P w= .ok 0 w) (hf:(Builtin.firstCells i.size 0 x).run P w= .ok #[] w):
  (Builtin.append_ #[T,X] ty #[.slice none 0 0,x]).run P w= .ok (.slice none 0 0) w:=by
 rcases hX with hX | ⟨e',hX⟩ <;> simp[Builtin.append_,run_underlying hT,run_underlying hX,sizeOf,typeInfo,hi,hlen,hf]
theorem TT{T X ty e:TypeId}{i:TypeInfo}{zv:Value}(hT:P.underlying T=some (.slice e))(hX:P.underlying X=some .string\/∃e',P.underlying X=some (.slice e'))(hi:P.info? e=some i)(asX:i.zero=some zv)
  {ad:Option Addr} {sLen sCap:Nat} {bU:List Value} (ho:(Builtin.firstCells i.size sLen (.slice ad sLen sCap)).run P w.drew= .ok bU.toArray w.drew) {x:Value} {n:Nat} {news:List Value}
  (hlen:(Builtin.lenOf x).run P w= .ok n w) (hf:(Builtin.firstCells i.size n x).run P w.drew= .ok news.toArray w.drew) (K8:sCap < sLen+n)
  (bcC:((sLen+n:Nat):Int)<=9223372036854775807) (ajZ:(sLen+n)*i.bytes<=140737488355328):
  (Builtin.append_ #[T,X] ty #[.slice ad sLen sCap,x]).run P w= .ok (.slice (some ⟨w.heap.size,0,none⟩) (sLen+n) (grownCap w (sLen+n) sCap e))
   (w.drew.alloc (.cells (bU.toArray++news.toArray++Builtin.zeroCells zv.cells (grownCap w (sLen+n) sCap e - (sLen+n))) e)):=by
 have hn:¬(sLen+n<=sCap):=by omega
 have h63':¬(9223372036854775807 < ((sLen:Int)+(n:Int))):=by omega
 have hfit':=growslice_fits (bytes:=i.bytes) K8 ajZ;have h48':¬(281474976710656 < Builtin.nextslicecap (sLen+n) sCap*i.bytes):=by omega
 rcases hX with hX | ⟨e',hX⟩
 all_goals
  simp[Builtin.append_,run_underlying hT,run_underlying hX,sizeOf,typeInfo,zeroValue,hi,asX,hlen,hn,h63',h48',Question.forced,hf,ho,newRow,grownCap];congr 2;apply fZ;simp[aC]
end
end Go.Ab
namespace Go.Ab
section
variable {P:Program} {C:Ctx} {g:Nat->lS} {β:Id->Option Pl} {s:AS} {a:Act} {w:World} {o:Oper}
theorem aLC(h:Inv C g β s a w){v:aA}{y:Value}(hv:VS (s.env w g β) v y){t:Ty}{m:List t.den}(he:(s.avG (.slice t) v).eval=some m):
  ∃ad cap vs,y= .slice ad m.length cap/\(0 < m.length->ad.isSome=true)/\(∀j u,vs[j]? =some u->∃bb off,ad=some ⟨bb,off,none⟩/\w.cell? ⟨bb,off+j,none⟩=some u)/\bz (cW (s.env w g β) t) vs m:=by
 have hp:(s.iW (.slice t) v).eval=some m:=he;cases v <;> first | (simp only[AS.iW,au]at hp;done) | skip
 case cV=>
  simp only[AS.iW,ax]at hp;subst hp;exact⟨none,0,[],kU hv,by simp,λj u hj=>by simp at hj,rfl⟩
 case d t' x=>
  simp only[AS.iW]at hp;have hp:=jW.1 hp;have ha:(aA.d t' x).agg=false:=agp hp;have hV:=hv.single rfl ha;simp only[V]at hV;have hv:VS (s.env w g β) (.d (.slice t) m) y:=VS.of (cs:=[y]) (by simp only[V];exact Ew hp hV) rfl;obtain⟨ad,cap,vs,hy,_,hs,hr,hc⟩:=uq hv;exact⟨ad,cap,vs,hy,hs,λj u hj=>let⟨bb,off,e,hh⟩:=hr j u hj;⟨bb,off,e,hh.1⟩,hc⟩
 case bu id ver p c i len=>
  simp only[AS.iW]at hp;obtain⟨⟨n,t',l⟩,h1,h2⟩:=av.1 hp;obtain⟨h3,h4⟩:=bM.1 h2;obtain⟨aXI,bdW⟩:=aBK (E:=s.env w g β) (jW.1 h4);rw[aXI];simp only[ba]at h3;obtain⟨hc,hlen⟩:=h3
  suffices hg:∃ad cap vs,y= .slice ad (cut l i len).length cap/\(0 < (cut l i len).length->ad.isSome=true)/\(∀j u,vs[j]? =some u->∃bb off,ad=some ⟨bb,off,none⟩/\w.cell? ⟨bb,off+j,none⟩=some u)/\bz (cW (s.env w g β) t') vs (cut l i len) by obtain⟨ad,cap,vs,e1,e2,e3,e4⟩:=hg;exact⟨ad,cap,vs,e1,e2,e3,bdW _ e4⟩
  obtain⟨fr,c0,cM,rY⟩:=TK rfl h.bI h1;obtain⟨ad,cap,hy,hle,qu,hb,fk⟩:=rJ hv;have fk:=fk ⟨fr,c0,cM⟩;have aOU:(cut l i len).length=len:=EI hlen;rcases rY with⟨hp,hl,_⟩ | ⟨pl,cur,e,hp,hh,tc,vY,hbound⟩
  ·rw[hp]at fk;simp only at fk;obtain⟨rfl,rfl,rfl⟩:=fk;have:cut l i 0=[]:=by simp[cut]
   refine⟨none,0,[],by rw[aOU];exact hy,by rw[aOU];omega,λ_ _ hh=>by simp at hh,?_⟩;rw[this];rfl
  ·rw[hp]at fk;simp only at fk;have hmul:(i+len)*t'.size<=l.length*t'.size:=cO _ hlen;rw[eg]at hmul;refine⟨ad,cap,_,by rw[aOU];exact hy,by rw[aOU];exact qu,?_,MD vY i len⟩;rw[abg _ _ _ _ _ hmul];intro j v hj;rw[cZ]at hj;split at hj
   ·rename_i aVM;rw[fJ,hc]at hj;have ba9:0 < len:=by
     rcases iF len with h0 | h0
     ·subst h0;simp at aVM
     ·exact h0
    refine⟨pl.b,c,fk.1 (.inl ba9),?_⟩;have hh':w.heap[pl.b]? =some (.cells cur e (0,0)):=hh
    rw[cell_of_row w pl.b (c+j) cur e (0,0) hh'];simpa using hj
   ·cases hj
theorem VA(h:Inv C g β s a w){t:Ty}{X:TypeId}{x:aA}{y:Value}(hx:VS (s.env w g β) x y){m:List t.den}(he:(HW P s t X x).eval=some m):
  (P.underlying X=some .string\/∃e',P.underlying X=some (.slice e'))/\∃news:List Value,bz (cW (s.env w g β) t) news m/\(Builtin.lenOf y).run P w= .ok m.length w/\
   ∀w',w'.heap=w.heap->(Builtin.firstCells t.size m.length y).run P w'= .ok news.toArray w':=by
 have sl:∀(x:aA),VS (s.env w g β) x y->(match P.underlying X with
   |some (.slice _)=>s.avG (.slice t) x
   |_=> .fail).eval=some m->(P.underlying X=some .string\/∃e',P.underlying X=some (.slice e'))/\∃news:List Value,bz (cW (s.env w g β) t) news m/\(Builtin.lenOf y).run P w= .ok m.length w/\
   ∀w',w'.heap=w.heap->(Builtin.firstCells t.size m.length y).run P w'= .ok news.toArray w':=by
  intro x hx he;split at he
  ·rename_i e' hX;refine⟨.inr ⟨e',hX⟩,?_⟩;obtain⟨ad,cap,vs,rfl,qu,rY,vY⟩:=aLC h hx he;have hlen:=bz.length (λ_ _ hx=>cW.size hx) vY;refine⟨vs,vY,rfl,λw' hw'=> ?_⟩;cases ad with
   |none=>
    have aTW:m.length=0:=by
     rcases iF m.length with h0 | h0
     ·exact h0
     ·have:=qu h0;simp at this
    have:vs=[]:=bB (by rw[hlen,aTW,mK]);subst this;rfl
   |some ad=>
    refine run_firstCells_some (P:=P) w' t.size _ ad _ _ vs hlen (λj v hj=> ?_);obtain⟨bb,off,e1,hh⟩:=rY j v hj;simp only[ay]at e1;subst e1;rw[Addr.add_lit];simpa[World.cell?,hw']using hh
  ·simp only[au]at he
 unfold HW at he;split at he
 ·rename_i st;split at he
  ·rename_i hX;refine⟨.inl hX,?_⟩;obtain⟨e,hm⟩:=ju (jW.1 he);have e':Ty.int .u8=t:=by simpa using e
   subst e';simp only at hm;subst hm;have hy:=I4 hx;subst hy;have hlen:(bF st).length=st.size:=by simp only[bF,bX,cH];rfl
   refine⟨(bF st).map (Value.int .u8),w7 _,by rw[hlen];rfl,λw' _=> ?_⟩;rw[hlen];simp only[Builtin.firstCells,Sem.run_pure];congr 1;apply fZ;rw[ByteArray.extract_zero_size];simp[bF]
  ·simp only[au]at he
 ·exact sl _ hx he
theorem Bm(z:Array Value)(n:Nat):(Builtin.zeroCells z n).size=n*z.size:=by simp[Builtin.zeroCells]
theorem aBL(h:Inv C g β s a w){c:Call}{x y:Operand}{T X:TypeId}(ho:o.op= .call c)(hc:c.callee= .builtin .copy)(ha:c.args.toList=[x,y])(ht:c.argTypes.toList=[T,X]){s':AS}
  (he:(Y5 P s o.dst T X (s.ev x) (s.ev y)).eval=some s'):fy P o a w (ia C s'):=by
 obtain⟨cal,args,tys⟩:=c;simp only at hc ha ht;have ha':args= #[x,y]:=by apply fZ;simpa using ha
 have ht':tys= #[T,X]:=by apply fZ;simpa using ht
 subst hc ha' ht';have hx:=h.ev x;have hy:=h.ev y;have fin:∀z w',(Builtin.copy_ #[T,X] 0 #[a.eval x,a.eval y]).run P w= .ok z w'->(∃g' β',Inv C g' β' s' (a.put o.dst z) w')->fy P o a w (ia C s'):=by intro z w' h1 h2;refine .inl ⟨z,w',Cu ho (f:=Builtin.copy_ #[T,X] 0 #[a.eval x,a.eval y]) (λty cs xs asW=> ?_) h1,h2⟩;subst asW;have e1:Builtin.copy_ #[T,X] 0 #[a.eval x,a.eval y]=Builtin.copy_ #[T,X] ty #[a.eval x,a.eval y]:=rfl;rw[e1];simp[builtin]
 unfold Y5 at he;split at he
 ·rename_i e t b id ver len Kk asW;obtain⟨hT,hz,i,zv,hi,aCC,aVK,asX,aCL⟩:=CA Kk;obtain⟨m,hm,he⟩:=av.1 he;obtain⟨hX,news,vY,hlen,aTU⟩:=VA h hy hm;have aQR:=vY.length (λ_ _ hx=>cW.size hx);have h1news:∀u∈news,u.oneCell'=true:=bz.all (λ_ _ hx=>hx.one) vY;rw[<-aCC]at aTU;split at he
  ·rename_i ve n t' l lK;obtain⟨h1,PF⟩:=aB.1 he;simp only[aq,dp]at h1;obtain⟨aVZ,bdU⟩:=h1;subst aVZ bdU;obtain⟨l',hl',ad7⟩:=av.1 PF;obtain⟨et,hl'⟩:=ju (jW.1 hl');have et':t'=t:=by simpa using et
   subst et';simp only at hl';subst hl';obtain⟨aXI,aXG⟩:=bM.1 ad7;have aXI:m.length<=len:=by simpa using aXI
   obtain rfl:=ax.1 aXG;have cM:=dX lK;rw[asW]at hx;obtain⟨ad,cap,aGq,aGn,qu,ZP,fk⟩:=rJ hx;have fk:=fk ⟨false,_,cM⟩;obtain⟨pl,cur,e0,hp,hh,hg,hk,hV⟩:=(h.bI id ve false _ cM).box rfl;have hp:β id=some pl:=hp;have hh:w.heap[pl.b]? =some (.cells cur e0 (0,0)):=hh
   have hg:g pl.b= .own (.id id) 0:=hg;have hcur':(match β id with
    |some pl=>(0 < len\/0=0->ad=some ⟨pl.b,0,none⟩)/\(([.arr]:List Ke)=[]->0=0->cap=pl.cap)
    |none=>ad=none/\len=0/\cap=0):=fk
   rw[hp]at hcur';simp only at hcur';have aCt:=hcur'.1 (.inr trivial);subst aCt;have hV:V (s.env w g β) (.d (.arr len t') l) (cur.toList.take cur.size):=hV;rw[<-cH,bJ]at hV;simp only[V,cW]at hV;obtain⟨aTV,hVc⟩:=hV;have aGm:=hVc.length (λ_ _ hx=>cW.size hx);have ajZ:news.length<=cur.size:=by
    rw[aQR];have:cur.size=l.length*t'.size:=by simpa using aGm
    rw[this,aTV];exact cO _ aXI
   have ml:=run_storeCells_at P pl.b 0 e0 news 0 cur w hh (by simpa using ajZ) h1news;have pT:(Builtin.copy_ #[T,X] 0 #[a.eval x,a.eval y]).run P w= .ok (goInt m.length) (w.setRow pl.b (dq cur.toList 0 news).toArray):=by have bbc:Nat.min m.length len=m.length:=fM aXI;rw[aGq];simp only[cd,aJ]at ml;simp[Builtin.copy_,run_underlying hT,hlen,sizeOf,typeInfo,hi,bbc,aTU w rfl,ml,dq]
   have auU:=Trans.setRow w hg (dq cur.toList 0 news).toArray;have hle:cJ (s.env w g β) ((s.bg id (.obj ve false (.d (.arr len t') (m++l.drop m.length)))).env (w.setRow pl.b (dq cur.toList 0 news).toArray) g β):=cJ.bg cM (aw _) auU (λ_ _=>rfl) (λ_=>rfl);have i1:=h.step (da _ _ _) auU hle (iG.bg (amu:=pY cM λk v1 l e=>by cases e) h.bI (by rw[cM];simp) hle (λ_ _=>rfl) (λi ver fr c pl2 hi ZS agT=>⟨setRow_other w pl.b pl2.b _ (h.apart hg hi ZS agT),rfl⟩) (R8.obj ⟨pl,_,e0,hp,setRow_heap w pl.b cur _ e0 (0,0) hh,hg,trivial,by
    show V _ (.d (.arr len t') (m++l.drop m.length)) ((dq cur.toList 0 news).toArray.toList.take (dq cur.toList 0 news).toArray.size);rw[<-cH,bJ];simp only[V,cW];refine⟨by rw[ai,di];omega,?_⟩;have e2:dq cur.toList 0 news=news++cur.toList.drop (m.length*t'.size):=by simp[dq,aQR]
    have q:bz (cW (s.env w g β) t') (dq cur.toList 0 news) (m++l.drop m.length):=by rw[e2];exact bz.append vY (bz.drop (λ_ _ hx=>cW.size hx) m.length hVc)
    exact q.mono λ_ _ hx=>hx.mono hle.mem⟩))
   exact fin _ _ pT ⟨g,β,i1.put o.dst ⟨[.int .i64 (m.length:Int)],by simp only[V,cW],rfl⟩⟩
  ·exact(au.1 he).elim
 ·exact(au.1 he).elim
theorem amQ(h:Inv C g β s a w){c:Call}{x y:Operand}{T X:TypeId}(ho:o.op= .call c)(hc:c.callee= .builtin .append)(ha:c.args.toList=[x,y])(ht:c.argTypes.toList=[T,X]){s':AS}
  {nl dt:Bool} (he:(xR P s nl dt o.dst T X (s.ev x) (s.ev y)).eval=some s'):fy P o a w (ia C s'):=by
 obtain⟨cal,args,tys⟩:=c;simp only at hc ha ht;have ha':args= #[x,y]:=by apply fZ;simpa using ha
 have ht':tys= #[T,X]:=by apply fZ;simpa using ht
 subst hc ha' ht';have hx:=h.ev x;have hy:=h.ev y;have fin:∀z w',(Builtin.append_ #[T,X] 0 #[a.eval x,a.eval y]).run P w= .ok z w'->(∃g' β',Inv C g' β' s' (a.put o.dst z) w')->fy P o a w (ia C s'):=by intro z w' h1 h2;refine .inl ⟨z,w',Cu ho (f:=Builtin.append_ #[T,X] 0 #[a.eval x,a.eval y]) (λty cs xs asW=> ?_) h1,h2⟩;subst asW;have e1:Builtin.append_ #[T,X] 0 #[a.eval x,a.eval y]=Builtin.append_ #[T,X] ty #[a.eval x,a.eval y]:=rfl;rw[e1];simp[builtin]
 unfold xR at he;split at he
 ·rename_i e t b q Kk hd;obtain⟨hT,hz,i,zv,hi,aCC,aVK,asX,aCL⟩:=qN Kk;obtain⟨m,hm,he⟩:=av.1 he;obtain⟨hX,news,vY,hlen,aTU⟩:=VA h hy hm;have aQR:=vY.length (λ_ _ hx=>cW.size hx);have h1news:∀u∈news,u.oneCell'=true:=bz.all (λ_ _ hx=>hx.one) vY;rw[<-aCC]at aTU;have aXS:zv.cells.size=t.size:=by have:=(aCL (s.env w g β)).size;simpa using this
  have bbH:∀n,(Builtin.zeroCells zv.cells n).size=n*t.size:=λn=>by rw[Bm,aXS]
  have grow:∀(ad:Option Addr) (sLen sCap:Nat) (bU:List Value) (l0:List t.den),a.eval x= .slice ad sLen sCap->bU.length=sLen*t.size->l0.length=sLen->bz (cW (s.env w g β) t) bU l0->
    (Builtin.firstCells i.size sLen (.slice ad sLen sCap)).run P w.drew= .ok bU.toArray w.drew->sCap < sLen+m.length->cT (sLen+m.length) b=true->
    ∃(cur:Array Value) (cap:Nat),(Builtin.append_ #[T,X] 0 #[a.eval x,a.eval y]).run P w= .ok (.slice (some ⟨w.heap.size,0,none⟩) (sLen+m.length) cap) (w.drew.alloc (.cells cur e))/\
     cur.size=cap*t.size/\sLen+m.length<=cap/\cap<=maxLen/\cur.toList.take ((sLen+m.length)*t.size)=bU++news:=by
   intro ad sLen sCap bU l0 aGq XI aYU aYF aZ3 K8 asU;simp only[cT,ba]at asU;have hr:=TT (P:=P) (w:=w) (ty:=0) hT hX hi asX aZ3 hlen (aTU w.drew rfl) K8 (by omega) (by rw[aVK];exact asU.1);rw[aGq];refine⟨_,_,hr,?_,grownCap_ge _ _ _ _,grownCap_le_maxLen _ _ _ _ (by unfold maxLen;omega),?_⟩
   ·have beI:=grownCap_ge w (sLen+m.length) sCap e;simp only[Array.size_append,gX,bbH,XI,aQR,<-eg];congr 1;omega
   ·have auM:(bU++news).length=(sLen+m.length)*t.size:=by rw[ai,XI,aQR,eg]
    simp only[bS];rw[<-auM];exact List.take_left
  split at he
  ·rename_i bef;rw[bef]at hx;have aGq:=kU hx;cases dt with
   |true=>
    simp only at he;obtain⟨asU,he⟩:=bM.1 he;obtain rfl:=ax.1 he;simp only[aq,ba]at asU;obtain⟨asU,aTW⟩:=asU;obtain⟨cur,cap,hr,q1,q2,q3,q4⟩:=grow none 0 0 [] [] aGq (by simp) rfl rfl rfl (by omega) (by simpa using asU);simp only[aJ,aR]at hr q2 q4;have baU:bz (cW (s.env w.drew g β) t) news m:=vY.mono λ_ _ hx=>hx.mono (cJ.same (s:=s) (β:=β) (Trans.drew w g)).mem
    refine fin _ _ hr ⟨ni g w.heap.size .free,β,(h.drew.Jv (.cells cur e)).put o.dst ⟨[.slice (some ⟨w.heap.size,0,none⟩) m.length cap],?_,rfl⟩⟩;simp only[V,cW];refine⟨λh0=>(by cases h0),λm' hm'=> ?_⟩;obtain rfl:m=m':=bk hm';refine⟨_,cap,cur.toList.take (m.length*t.size),rfl,q2,λ_=>rfl,λj v hj=>⟨_,_,rfl,?_,?_⟩,?_⟩
    ·show(w.drew.alloc (.cells cur e)).cell? ⟨w.drew.heap.size,0+j,none⟩=some v;rw[World.cell?_alloc_new,aJ];rw[cZ]at hj;split at hj
     ·simpa using hj
     ·cases hj
    ·show uR (ni g w.heap.size .free) w.heap.size (0+j);unfold uR;rw[fv];trivial
    ·rw[q4];exact baU.mono λ_ _ hx=>hx.mono (Trans.mem (E:=s.env w.drew g β) (E':=s.env (w.drew.alloc (.cells cur e)) (ni g w.drew.heap.size .free) β) (Trans.alloc w.drew g (.cells cur e) .free))
   |false=>
   simp only at he;obtain⟨hq,he⟩:=aB.1 he;obtain⟨asU,he⟩:=bM.1 he;obtain rfl:=ax.1 he;by_cases aTW:m.length=0
   ·have bbe:m=[]:=bB aTW;subst bbe;have bbh:news=[]:=bB (by rw[aQR];simp);subst bbh;obtain⟨β',i1,e1,v1⟩:=h.aLc hq (e:=e) hz;refine fin (.slice none 0 0) w ?_ ⟨g,β',?_⟩
    ·rw[aGq];exact Gq (P:=P) hT hX hi hlen (aTU w rfl)
    ·exact i1.put o.dst v1
   ·obtain⟨cur,cap,hr,q1,q2,q3,q4⟩:=grow none 0 0 [] [] aGq (by simp) rfl rfl rfl (by omega) (by simpa using asU);simp only[aJ,aR]at hr q2 q4;obtain⟨g2,β2,i2,v2⟩:=(h.drew).akC hq (e:=e) (l:=m) (cur:=cur) (cap:=cap) hz (by rw[q4];exact vY.mono λ_ _ hx=>hx.mono (cJ.same (s:=s) (β:=β) (Trans.drew w g)).mem) q1 q2 q3;refine fin _ _ hr ⟨g2,β2,?_⟩;exact i2.put o.dst v2
  ·rename_i id ver len asW;rw[asW]at hx;obtain⟨ad,cap,aGq,aGn,qu,ZP,fk⟩:=rJ hx;split at he
   ·rename_i v fr e' t' l lK;obtain⟨h1,PF⟩:=aB.1 he;clear he;simp only[aq,dp]at h1;obtain⟨aVZ,bdF⟩:=h1;subst aVZ bdF;obtain⟨l',hl',ad7⟩:=av.1 PF;obtain⟨et,hl'⟩:=ju (jW.1 hl');have et':t'=t:=by simpa using et
    subst et';simp only at hl';subst hl';obtain⟨aQO,aYJ⟩:=bM.1 ad7;have aQO:len<=l.length:=by simpa using aQO
    obtain⟨bcJ,aXG⟩:=bM.1 aYJ;obtain⟨asU,bcI⟩:=bM.1 aXG;obtain rfl:=ax.1 bcI;clear PF ad7 aYJ aXG bcI;have cM:=dX lK;have fk:=fk ⟨fr,_,cM⟩;obtain⟨_,hO⟩:=h.bI id v fr _ cM;have hO':(match β id with
     |none=>l=[]
     |some pl=>∃cur k,w.heap[pl.b]? =some (.cells cur e (0,0))/\cur.size=pl.cap*t'.size/\l.length<=pl.cap/\pl.cap<=maxLen/\g pl.b= .own (.id id) k/\
       k<=l.length*t'.size/\(fr=false->k=0)/\bz (cW (s.env w g β) t') (cur.toList.take (l.length*t'.size)) l):=hO
    have hcur':(match β id with
     |some pl=>(0 < len\/0=0->ad=some ⟨pl.b,0,none⟩)/\(([]:List Ke)=[]->0=0->cap=pl.cap)
     |none=>ad=none/\len=0/\cap=0):=fk
    have aVG:fr=false\/len=l.length:=by simp only[gw,cr,ba]at bcJ;exact bcJ
    have gg:s.bQ id≠none:=by rw[cM];simp
    have fresh:∀(cur:Array Value) (cp:Nat) (g0:Nat->lS),Trans w (w.drew.alloc (.cells cur e)) g (ni g0 w.heap.size (.own (.id (id)) 0))->
      (∀i ver fr c pl,i≠id->s.bQ i=some (.obj ver fr c)->β i=some pl->g0 pl.b=g pl.b)->cur.size=cp*t'.size->len+m.length<=cp->cp<=maxLen->
      bz (cW (s.env w g β) t') (cur.toList.take ((len+m.length)*t'.size)) (l.take len++m)->len<=l.length->
      ∃g' β',Inv C g' β' ((s.bg id (.obj (v+1) fr (.vec e t' (l.take len++m)))).put o.dst (.bu id (v+1) [] 0 0 (len+m.length))) (a.put o.dst (.slice (some ⟨w.heap.size,0,none⟩) (len+m.length) cp)) (w.drew.alloc (.cells cur e)):=by
     intro cur cp g0 ht baY q1 q2 q3 q4 q5;have aTV:(l.take len++m).length=len+m.length:=by simp;omega
     have hle:cJ (s.env w g β) ((s.bg id (.obj (v+1) fr (.vec e t' (l.take len++m)))).env (w.drew.alloc (.cells cur e)) (ni g0 w.heap.size (.own (.id id) 0)) (Jt β id (some ⟨w.heap.size,cp⟩))):=
      cJ.bg cM (by omega) ht (λi hi=>Bb _ _ _ hi) (λhh=>by omega)
     have i1:=h.step (da _ _ _) ht hle (iG.bg (amu:=pY cM λk v1 l e=>by cases e) h.bI gg hle (λi hi=>Bb _ _ _ hi) (λi ver fr' c' pl hi ZS agT=>by
       have gv:pl.b < w.heap.size:=((h.bI i ver fr' c' ZS).label (pl:=pl) agT).1;exact⟨qM w.drew _ gv,by rw[fi _ _ _ (by omega)];exact baY i ver fr' c' pl hi ZS agT⟩) (by
      refine⟨hz,?_⟩;show(match Jt β id (some ⟨w.heap.size,cp⟩) id with
       |none=>(l.take len++m)=[]
       |some pl=>_)
      rw[jO];refine⟨cur,0,tt w.drew _,q1,by rw[aTV];exact q2,q3,fv _ _ _,aL _,λ_=>rfl,?_⟩;rw[aTV];exact q4.mono λ_ _ hx=>hx.mono hle.mem))
     refine⟨_,_,i1.put o.dst ⟨_,?_,rfl⟩⟩;simp only[V];have kQ:=eC s id (.obj (v+1) fr (.vec e t' (l.take len++m))) gg;refine⟨_,_,rfl,q2,λ_=>rfl,⟨by show(s.bg id _).bQ id≠none;rw[kQ];simp,λv' fr' c' hh=> ?_⟩,λ_=> ?_⟩
     ·have hh':(s.bg id (.obj (v+1) fr (.vec e t' (l.take len++m)))).bQ id=some (.obj v' fr' c'):=hh;rw[kQ]at hh';simp only[ay,dB.obj.injEq]at hh';omega
     ·show(match Jt β id (some ⟨w.heap.size,cp⟩) id with
       |some pl=>_
       |none=>_)
      rw[jO];exact⟨λ_=>rfl,λ_ _=>rfl⟩
    cases hp:β id with
    |none=>
     rw[hp]at hO' hcur';simp only at hO' hcur';obtain⟨rfl,rfl,rfl⟩:=hcur';subst hO';by_cases aTW:m.length=0
     ·have bbe:m=[]:=bB aTW;subst bbe;have bbh:news=[]:=bB (by rw[aQR];simp);subst bbh;have ht:=Trans.refl w g;have hle:cJ (s.env w g β) ((s.bg id (.obj (v+1) fr (.vec e t' []))).env w g β):=cJ.bg cM (by omega) ht (λ_ _=>rfl) (λ_=>rfl);have i1:=h.step (da _ _ _) ht hle (iG.bg (amu:=pY cM λk v1 l e=>by cases e) h.bI gg hle (λ_ _=>rfl) (λ_ _ _ _ _ _ _ _=>⟨rfl,rfl⟩) (by
       refine⟨hz,?_⟩;show(match β id with
        |none=>([]:List t'.den)=[]
        |some pl=>_)
       rw[hp]))
      refine fin (.slice none 0 0) w ?_ ⟨g,β,i1.put o.dst ⟨_,?_,rfl⟩⟩
      ·rw[aGq];exact Gq (P:=P) hT hX hi hlen (aTU w rfl)
      ·simp only[V];have kQ:=eC s id (.obj (v+1) fr (.vec e t' [])) gg;refine⟨_,_,rfl,aw _,λhh=>by simp at hh,⟨by show(s.bg id _).bQ id≠none;rw[kQ];simp,λv' fr' c' hh=> ?_⟩,λ_=> ?_⟩
       ·have hh':(s.bg id (.obj (v+1) fr (.vec e t' []))).bQ id=some (.obj v' fr' c'):=hh;rw[kQ]at hh';simp only[ay,dB.obj.injEq]at hh';omega
       ·show(match β id with
         |some pl=>_
         |none=>_)
        rw[hp];exact⟨rfl,by simp,rfl⟩
     ·obtain⟨cur,cp,hr,q1,q2,q3,q4⟩:=grow none 0 0 [] [] aGq (by simp) rfl rfl rfl (by omega) asU;refine fin _ _ hr (fresh cur cp g (Trans.trans (Trans.drew w g) (Trans.alloc w.drew g _ _)) (λ_ _ _ _ _ _ _ _=>rfl) q1 q2 q3 ?_ (by simp));rw[q4];simpa using vY
    |some pl=>
     rw[hp]at hO' hcur';simp only at hO' hcur';obtain⟨aCt,PE⟩:=hcur';have aCt:=aCt (.inr trivial);have PE:=PE trivial trivial;subst aCt PE;obtain⟨cur,k,p1,p2,p3,p4,p5,p6,p7,p8⟩:=hO';have hk:k<=len*t'.size:=by
      rcases aVG with hf | hf
      ·rw[p7 hf];exact aL _
      ·rw[hf];exact p6
     have hmul:len*t'.size<=l.length*t'.size:=cO _ aQO;have bcU:l.length*t'.size<=cur.size:=by rw[p2];exact cO _ p3
     have aCK:=bz.take (λ_ _ hx=>cW.size hx) len p8;rw[gZ,fM hmul]at aCK;have XI:(cur.toList.take (len*t'.size)).length=len*t'.size:=by simp;omega
     by_cases K8:len+m.length<=pl.cap
     ·have bd5:(len+m.length)*t'.size<=cur.size:=by rw[p2];exact cO _ K8
      have ajZ:len*i.size+news.length<=cur.size:=by rw[aCC,aQR,<-eg];exact bd5
      have hr:=TU (P:=P) (w:=w) (ty:=0) hT hX hi p1 h1news hlen (aTU w rfl) K8 ajZ;rw[aCC]at hr ajZ;have ht:Trans w (w.setRow pl.b (dq cur.toList (len*t'.size) news).toArray) g g:=by
       refine⟨by simp,by simp,by simp,by simp,λb' hb=> ?_⟩;by_cases ajX:b'=pl.b
       ·subst ajX;rw[p5];refine⟨.inr ⟨id,k,rfl,aw _⟩,λoff u aQT hu=> ?_⟩;rw[cell_of_row w pl.b off cur e (0,0) p1]at hu;rw[cell_setRow_same w pl.b off cur _ e (0,0) p1];simp only[dq,aC,List.getElem?_toArray];rw[fe (by rw[XI];omega),cZ,if_pos (by omega)];simpa using hu
       ·rw[setRow_other w pl.b b' _ ajX];cases WX:g b' with
        |free=>exact⟨rfl,rfl⟩
        |own o' k=>cases o' with
         |dZ=>exact⟨rfl,rfl⟩
         |id i'=>exact⟨.inr ⟨i',k,rfl,aw _⟩,λoff v _ hv=>by rw[cell_setRow_other w pl.b _ _ ajX];exact hv⟩
      have hle:cJ (s.env w g β) ((s.bg id (.obj (v+1) fr (.vec e t' (l.take len++m)))).env (w.setRow pl.b (dq cur.toList (len*t'.size) news).toArray) g β):=
       cJ.bg cM (by omega) ht (λ_ _=>rfl) (λ_=>rfl)
      have aTV:(l.take len++m).length=len+m.length:=by simp;omega
      have bbt:(dq cur.toList (len*t'.size) news).length=cur.toList.length:=jE (by simpa using ajZ);have i1:=h.step (da _ _ _) ht hle (iG.bg (amu:=pY cM λk v1 l e=>by cases e) h.bI gg hle (λ_ _=>rfl) (λi ver fr c pl2 hi ZS agT=>⟨setRow_other w pl.b pl2.b _ (h.apart p5 hi ZS agT),rfl⟩) (by
       refine⟨hz,?_⟩;show(match β id with
        |none=>(l.take len++m)=[]
        |some pl=>_)
       rw[hp];refine⟨_,k,setRow_heap w pl.b cur _ e (0,0) p1,by rw[gX,bbt];simpa using p2,by rw[aTV];exact K8,p4,p5,?_,p7,?_⟩
       ·rw[aTV,eg];omega
       ·rw[aTV,show(dq cur.toList (len*t'.size) news).toArray.toList=dq cur.toList (len*t'.size) news from rfl];have e1:(dq cur.toList (len*t'.size) news).take ((len+m.length)*t'.size)=cur.toList.take (len*t'.size)++news:=by
         unfold dq;have auM:(cur.toList.take (len*t'.size)++news).length=(len+m.length)*t'.size:=by rw[ai,XI,aQR,eg]
         rw[<-auM];exact List.take_left
        rw[e1];exact(bz.append aCK vY).mono λ_ _ hx=>hx.mono hle.mem))
      rw[<-aGq]at hr;refine fin _ _ hr ⟨g,β,i1.put o.dst ⟨_,?_,rfl⟩⟩;simp only[V];have kQ:=eC s id (.obj (v+1) fr (.vec e t' (l.take len++m))) gg;refine⟨_,_,rfl,K8,λ_=>rfl,⟨by show(s.bg id _).bQ id≠none;rw[kQ];simp,λv' fr' c' hh=> ?_⟩,λ_=> ?_⟩
      ·have hh':(s.bg id (.obj (v+1) fr (.vec e t' (l.take len++m)))).bQ id=some (.obj v' fr' c'):=hh;rw[kQ]at hh';simp only[ay,dB.obj.injEq]at hh';omega
      ·show(match β id with
        |some pl=>_
        |none=>_)
       rw[hp];exact⟨λ_=>rfl,λ_ _=>rfl⟩
     ·have aZ3:(Builtin.firstCells i.size len (.slice (some ⟨pl.b,0,none⟩) len pl.cap)).run P w.drew= .ok (cur.toList.take (len*t'.size)).toArray w.drew:=by
       refine run_firstCells_some (P:=P) w.drew i.size _ _ _ _ _ (by rw[XI,aCC]) (λj u hj=> ?_);rw[Addr.add_lit,aJ];show w.cell? ⟨pl.b,j,none⟩=some u;rw[cell_of_row w pl.b j cur e (0,0) p1];rw[cZ]at hj;split at hj
       ·simpa using hj
       ·cases hj
      obtain⟨cur2,cp,hr,q1,q2,q3,q4⟩:=grow (some ⟨pl.b,0,none⟩) len pl.cap (cur.toList.take (len*t'.size)) (l.take len) aGq XI (by simp;omega) aCK aZ3 (by omega) asU;have gv:pl.b < w.heap.size:=(bK.1 p1).1;have ayW:Trans w w.drew g (ni g pl.b .free):=by
       refine⟨rfl,rfl,⟨rfl,oo _⟩,aw _,λb' hb=> ?_⟩;by_cases ajX:b'=pl.b
       ·subst ajX;rw[p5,fv];exact⟨.inl rfl,λ_ _ _ hh=>hh⟩
       ·rw[fi _ _ _ ajX];exact(Trans.drew w g).Sq b' hb
      refine fin _ _ hr (fresh cur2 cp (ni g pl.b .free) (Trans.trans ayW (Trans.alloc w.drew _ _ _)) (λi ver fr c pl2 hi ZS agT=>fi _ _ _ (h.apart p5 hi ZS agT)) q1 q2 q3 ?_ aQO);rw[q4];exact bz.append aCK vY
   ·simp only[au]at he
  ·simp only[au]at he
 ·simp only[au]at he
end
end Go.Ab
namespace Go.Ab
abbrev Ren:=Id->Nat->Option (Id×Nat)
structure zU(ρ:Ren)(E E':Env):Prop where
 mem:tn E E'
 ref:∀id ver r,ρ id ver=some r->E.F4 id ver->E'.F4 r.1 r.2/\(E'.cur r.1 r.2->E.cur id ver/\E'.β r.1=E.β id)
theorem azQ(ρ:Ren)(a:aA):(a.iC ρ).agg=a.agg:=by
 cases a with
 |ptr id v p n=>simp only[aA.iC];cases ρ id v <;> rfl
 |bu id v p c i l=>simp only[aA.iC];cases ρ id v <;> rfl
 |cm id v=>simp only[aA.iC];cases ρ id v <;> rfl
 |yl id v=>simp only[aA.iC];cases ρ id v <;> rfl
 |_=>rfl
mutual
theorem amC{ρ:Ren}{E E':Env}(h:zU ρ E E'):∀ {a:aA} {cs:List Value},V E a cs->V E' (a.iC ρ) cs
 | .undef,_,hv=>by simp only[V]at hv
 | .gone,_,hv=>by simpa only[aA.iC,V]using hv
 | .cV,_,hv=>by simpa only[aA.iC,V]using hv
 | .qC,_,hv=>by simpa only[aA.iC,V]using hv
 | .xc,_,hv=>by simpa only[aA.iC,V]using hv
 | .CI,_,hv=>by simpa only[aA.iC,V]using hv
 | .sb l,_,hv=>by simp only[aA.iC,V]at hv ⊢;obtain⟨b,cap,arr,e,h1,h2,h3,h4,h5⟩:=hv;obtain⟨h6,h7⟩:=h.mem.fz b _ h3 h4;exact⟨b,cap,arr,e,h1,h2,h6,h7,h5⟩
 | .d t x,_,hv=>by simp only[aA.iC,V]at hv ⊢;exact hv.mono h.mem
 | .pr a b,_,hv=>by simp only[aA.iC,V]at hv ⊢;obtain⟨ca,cb,e,ha,hb⟩:=hv;exact⟨ca,cb,e,amC h ha,amC h hb⟩
 | .ptr id ver p n,_,hv=>by
  have h1:=hv.one;simp only[aA.iC];cases hr:ρ id ver with
  |none=>
   simp only[V]at hv ⊢;obtain⟨a,e,_⟩:=hv;exact⟨_,e,h1 _ (by simp[e])⟩
  |some r=>
   simp only[V]at hv ⊢;obtain⟨a,e,hb,hc⟩:=hv;obtain⟨b1,b2⟩:=h.ref id ver r hr hb;refine⟨a,e,b1,λc=> ?_⟩;obtain⟨c1,e1⟩:=b2 c;rw[e1];exact hc c1
 | .dL t x,_,hv=>by simp only[aA.iC,V]at hv ⊢;obtain⟨b,off,vs,e,hr,hx⟩:=hv;exact⟨b,off,vs,e,hr.mono h.mem,hx.mono h.mem⟩
 | .bu id ver p c i len,_,hv=>by
  have h1:=hv.one;simp only[aA.iC];cases hr:ρ id ver with
  |none=>
   simp only[V]at hv ⊢;obtain⟨a,cap,e,_⟩:=hv;exact⟨_,e,h1 _ (by simp[e])⟩
  |some r=>
   simp only[V]at hv ⊢;obtain⟨a,cap,e,hl,hs,hb,hc⟩:=hv;obtain⟨b1,b2⟩:=h.ref id ver r hr hb;refine⟨a,cap,e,hl,hs,b1,λc=> ?_⟩;obtain⟨c1,e1⟩:=b2 c;rw[e1];exact hc c1
 | .fn f c,_,hv=>by simp only[aA.iC,V]at hv ⊢;obtain⟨vs,e,hc⟩:=hv;exact⟨vs,e,as4 h hc⟩
 | .cons _ _,_,hv=>by simp only[V]at hv
 | .nil,_,hv=>by simp only[V]at hv
 | .vec ..,_,hv=>by simp only[V]at hv
 | .bx ..,_,hv=>by simp only[V]at hv
 | .yl id ver,_,hv=>by
  have h1:=hv.one;simp only[aA.iC];cases hr:ρ id ver with
  |none=>
   simp only[V]at hv ⊢;obtain⟨b,e,_⟩:=hv;exact⟨_,e,h1 _ (by simp[e])⟩
  |some r=>
   simp only[V]at hv ⊢;obtain⟨b,e,hb,hc⟩:=hv;obtain⟨b1,b2⟩:=h.ref id ver r hr hb;refine⟨b,e,b1,λc=> ?_⟩;obtain⟨c1,e1⟩:=b2 c;rw[e1];exact hc c1
 | .cm id ver,_,hv=>by
  have h1:=hv.one;simp only[aA.iC];cases hr:ρ id ver with
  |none=>
   simp only[V]at hv ⊢;obtain⟨b,e,_⟩:=hv;exact⟨_,e,h1 _ (by simp[e])⟩
  |some r=>
   simp only[V]at hv ⊢;obtain⟨b,e,hb,hc⟩:=hv;obtain⟨b1,b2⟩:=h.ref id ver r hr hb;refine⟨b,e,b1,λc=> ?_⟩;obtain⟨c1,e1⟩:=b2 c;rw[e1];exact hc c1
 | .mp ..,_,hv | .sH ..,_,hv | .qX ..,_,hv=>by simp only[V]at hv
theorem as4{ρ:Ren}{E E':Env}(h:zU ρ E E'):∀ {a:aA} {vs:List Value},VC E a vs->VC E' (a.iC ρ) vs
 | .nil,_,hv=>by simpa only[aA.iC,VC]using hv
 | .cons a b,_,hv=>by simp only[aA.iC,VC]at hv ⊢;obtain⟨v,vs',cs,e,ha,ho,hb⟩:=hv;exact⟨v,vs',cs,e,amC h ha,by rw[azQ];exact ho,as4 h hb⟩
 | .undef,_,hv=>by simp only[VC]at hv
 | .gone,_,hv=>by simp only[VC]at hv
 | .cV,_,hv=>by simp only[VC]at hv
 | .qC,_,hv=>by simp only[VC]at hv
 | .xc,_,hv=>by simp only[VC]at hv
 | .yl ..,_,hv | .qX ..,_,hv=>by simp only[VC]at hv
 | .CI,_,hv=>by simp only[VC]at hv
 | .sb _,_,hv=>by simp only[VC]at hv
 | .d t x,_,hv=>by simp only[VC]at hv
 | .pr a b,_,hv=>by simp only[VC]at hv
 | .ptr ..,_,hv=>by simp only[VC]at hv
 | .dL ..,_,hv=>by simp only[VC]at hv
 | .bu ..,_,hv=>by simp only[VC]at hv
 | .fn ..,_,hv=>by simp only[VC]at hv
 | .vec ..,_,hv=>by simp only[VC]at hv
 | .bx ..,_,hv=>by simp only[VC]at hv
 | .cm ..,_,hv=>by simp only[VC]at hv
 | .mp ..,_,hv | .sH ..,_,hv=>by simp only[VC]at hv
end
theorem G4{ρ:Ren}{E E':Env}(h:zU ρ E E'){a:aA}{v:Value}(hv:VS E a v):VS E' (a.iC ρ) v:=by
 by_cases hc:a.eL=true
 ·obtain⟨cs,h1,h2⟩:=hv.eL hc;exact VS.of (amC h h1) (by rw[azQ];exact h2)
 ·cases a <;> first | (exact absurd rfl hc) | skip
  ·trivial
  ·obtain⟨vs,e,aXP⟩:=hv;have:=as4 h aXP;simp only[aA.iC]at this ⊢;exact⟨vs,e,this⟩
  ·exact hv
  ·obtain⟨cs,h1,_⟩:=hv;simp only[V]at h1
  ·obtain⟨cs,h1,_⟩:=hv;simp only[V]at h1
  ·obtain⟨cs,h1,_⟩:=hv;simp only[V]at h1
  ·obtain⟨cs,h1,_⟩:=hv;simp only[V]at h1
  ·obtain⟨cs,h1,_⟩:=hv;simp only[V]at h1
theorem ab8(ρ:Ren):∀f:aA,(f.iC ρ).list=f.list.map (aA.iC ρ)
 | .cons a b=>by simp only[aA.iC,aA.list,bT,ab8 ρ b]
 | .undef | .gone | .cV | .qC | .xc | .CI | .d _ _ | .dL _ _ | .fn _ _ | .pr _ _ | .nil | .vec .. | .sb _ | .bx .. | .mp .. | .sH .. | .qX .. =>rfl
 | .ptr id ver p n=>by simp only[aA.iC];cases ρ id ver <;> rfl
 | .bu id ver p c i len=>by simp only[aA.iC];cases ρ id ver <;> rfl
 | .cm id ver=>by simp only[aA.iC];cases ρ id ver <;> rfl
 | .yl id ver=>by simp only[aA.iC];cases ρ id ver <;> rfl
theorem as2{ρ:Ren}{E E':Env}(h:zU ρ E E'){f:aA}{tmps:Array Value}(hs:Ed E f tmps):Ed E' (f.iC ρ) tmps:=by
 refine⟨by rw[ab8,bX];exact hs.1,λi=> ?_⟩;have:=G4 h (hs.2 i);rw[ab8,aD,dY];rw[aD]at this;cases hi:f.list[i]? with
 |none=>exact VS.undef
 |some x=>rw[hi]at this;exact this
theorem aEz(ρ:Ren)(c:aA):(c.iC ρ).strip=c.strip.iC ρ:=by
 cases c <;> first
  |rfl
  | (rename_i id ver p n;simp only[aA.strip,aA.iC];cases ρ id ver <;> rfl)
  | (rename_i id ver p c i len;simp only[aA.strip,aA.iC];cases ρ id ver <;> rfl)
  | (rename_i i v;simp only[aA.strip,aA.iC];cases ρ i v <;> rfl)
theorem Rc(ρ:Ren):∀c:aA,(c.iC ρ).size=c.size
 | .pr a b=>by simp only[aA.iC,aA.size,Rc ρ a,Rc ρ b]
 | .ptr id ver p n=>by simp only[aA.iC];cases ρ id ver <;> rfl
 | .bu id ver p c i len=>by simp only[aA.iC];cases ρ id ver <;> rfl
 | .cm id ver=>by simp only[aA.iC];cases ρ id ver <;> rfl
 | .undef | .gone | .cV | .qC | .xc | .CI | .d _ _ | .dL _ _ | .fn _ _ | .cons _ _ | .nil | .vec .. | .sb _ | .bx .. | .mp .. | .sH .. | .qX .. =>rfl
 | .yl id ver=>by simp only[aA.iC];cases ρ id ver <;> rfl
theorem aHr(ρ:Ren){c:aA}(n:Nat):(c.iC ρ).xv n=c.xv n:=by
 cases c with
 |bx e z c=>cases z with
  |zero=>rfl
  |succ z=>exact Rc ρ c
 |_=>first | rfl | (simp only[aA.iC];split <;> rfl)
theorem aBh(ρ:Ren){c:aA}{pl:Pl}{n:Nat}{e:TypeId}(h:c.Hf pl n e):(c.iC ρ).Hf pl n e:=by
  cases c <;> first
    | (rename_i e' z c;cases z with
       |zero=>exact h
       |succ z=>exact⟨h.1,h.2.1,h.2.2.1,by rw[Rc];exact h.2.2.2⟩)
    |exact h
    |trivial
    | (rename_i id ver p n;simp only[aA.iC];cases ρ id ver <;> trivial)
    | (rename_i id ver p c i len;simp only[aA.iC];cases ρ id ver <;> trivial)
    | (rename_i i v;simp only[aA.iC];cases ρ i v <;> trivial)
theorem wR{ρ:Ren}{E E':Env}(h:zU ρ E E'){id id':Id}{fr:Bool}{c:aA}(ho:wQ E id fr c)(hβ:E'.β id'=E.β id)
  (hb:∀pl,E.β id=some pl->E'.w.heap[pl.b]? =E.w.heap[pl.b]? /\(∀k,E.g pl.b= .own (.id id) k->E'.g pl.b= .own (.id id') k)/\(E.g pl.b= .free->E'.g pl.b= .free)):wQ E' id' fr (c.iC ρ):=by
 by_cases hn:c.iy=false
 ·obtain⟨pl,cur,e,h1,h2,h3,h5,h4⟩:=ho.box hn;obtain⟨b1,b2,b3⟩:=hb pl h1;have h6:=amC h h4;refine R8.obj ⟨pl,cur,e,by rw[hβ,h1],by rw[b1,h2],?_,aBh ρ h5,by rw[aEz,aHr];exact h6⟩;cases fr with
  |true=>exact b3 h3
  |false=>exact b2 0 h3
 ·cases c <;> first
   | (exact absurd rfl hn)
   |skip
  rotate_left;rotate_left
  ·obtain⟨pl,mb,since,seen,c0,h1,h2,h3,_⟩:=ho;obtain⟨b1,b2,_⟩:=hb pl h1;exact⟨pl,mb,since,seen,c0,by rw[hβ,h1],by rw[b1,h2],b2 0 h3,λvr asV=>by cases asV⟩
  ·obtain⟨pl,r,h1,h2,h3,h4,h5,h6⟩:=ho;obtain⟨b1,b2,_⟩:=hb pl h1;exact⟨pl,r,by rw[hβ,h1],by rw[b1,h2],b2 0 h3,h4,as2 h h5,h6⟩
  rotate_left
  ·obtain⟨pl,es,clock,h1,h2,h3,h4⟩:=ho;obtain⟨b1,b2,_⟩:=hb pl h1;exact⟨pl,es,clock,by rw[hβ,h1],by rw[b1,h2],b2 0 h3,⟨h4.1.1.mono h.mem,h4.1.2⟩,h4.2⟩
  rename_i e t l;obtain⟨hz,ho⟩:=ho;refine⟨hz,?_⟩;rw[hβ];cases hp:E.β id with
  |none=>rw[hp]at ho;exact ho
  |some pl=>
   rw[hp]at ho;simp only at ho ⊢;obtain⟨b1,b2,_⟩:=hb pl hp;obtain⟨cur,k,h1,h2,h3,h4,h5,h6,h7,h8⟩:=ho;exact⟨cur,k,by rw[b1,h1],h2,h3,h4,b2 k h5,h6,h7,h8.mono λc x hx=>hx.mono h.mem⟩
def xQ(E:Env):List aA->List Value->Prop
 |[],[]=>True
 |a::as,v::vs=>VS E a v/\xQ E as vs
 |_,_=>False
def fx.st(G:fx):AS:= {cg:=[],bU:=G.bU,news:=[G.news]}
def fA(bU:List dB):AS:= {cg:=[],bU,news:=[]}
def tg(E:Env)(G:fx)(v:Value)(w':World):Prop:=∃g' β',VS (G.st.env w' g' β') G.val v/\iG (G.st.env w' g' β')/\Trans E.w w' E.g g'/\cJ E (G.st.env w' g' β')
def qw(P:Program)(f:FuncId)(en:Entry):Prop:=∀w g β args bU iM x,xQ ((fA bU).env w g β) args iM->iG ((fA bU).env w g β)->en.run args bU=some x->((callFunc f iM.toArray).run P w= .ok (.enter f iM.toArray) w/\Calls P f iM.toArray w λe w'=>∃v,e= .returned v/\tg ((fA bU).env w g β) (en.out args bU x) v w')\/(∃v w',(callFunc f iM.toArray).run P w= .ok (.value v) w'/\tg ((fA bU).env w g β) (en.out args bU x) v w')
def FW(P:Program)(y:Nat)(en:Entry):Prop:=∀w g β args bU iM x,xQ ((fA bU).env w g β) args iM->iG ((fA bU).env w g β)->en.run args bU=some x->∀l us ts f rd n,iM= .func (.yield l) #[] #[]::(us++ts)->us.length=(qE P y).ps.size->RoundIn (Fr rd) n P l f (((qE P y).ps.zip us.toArray).foldl (λtmps (t,a)=>tmps.setIfInBounds t a) ts.toArray) (qE P y).as (qE P y).b w λe w'=>∃v,e= .returned v/\tg ((fA bU).env w g β) (en.out args bU x) v w'
def Om(P:Program)(f:FuncId)(en:Entry):Prop:=∀w g β args bU iM,xQ ((fA bU).env w g β) args iM->iG ((fA bU).env w g β)->(∃x,en.set args bU x)->(callFunc f iM.toArray).run P w= .ok (.enter f iM.toArray) w/\Calls P f iM.toArray w λe w'=>∃v x,e= .returned v/\en.set args bU x/\tg ((fA bU).env w g β) (en.out args bU x) v w'
def uS(P:Program)(f:Nat)(en:Entry):Prop:=(Nat.blt f yB=true->qw P f en)/\(Nat.ble yB f=true->FW P f en)/\(Nat.blt f yB=true->Om P f en)
theorem uS.no{f:Nat}(h1:Nat.blt f yB=true)(h2:Nat.ble yB f=true):False:=gS _ (Nat.lt_of_lt_of_le (dG h1) (dG h2))
theorem uS.of{P:Program}{f:FuncId}{en:Entry}(h:qw P f en)(hf:Nat.blt f yB=true)(hs:∀a o x,¬en.set a o x:=by exact λ_ _ _ h=>h):uS P f en:=
 ⟨λ_=>h,λh2=>(uS.no hf h2).elim,λ_ _ _ _ _ _ _ _ _ ⟨x,hx⟩=>(hs _ _ x hx).elim⟩
theorem uS.bc6{P:Program}{f:FuncId}{en:Entry}(h:FW P f en)(hf:Nat.ble yB f=true):uS P f en:=⟨λh2=>(uS.no h2 hf).elim,λ_=>h,λh2=>(uS.no h2 hf).elim⟩
theorem uS.bbO{P:Program}{f:FuncId}{en:Entry}(h:Om P f en)(hf:Nat.blt f yB=true)(hs:∀a o,en.run a o=none:=by exact λ_ _=>rfl):uS P f en:=
 ⟨λ_ _ _ _ _ _ _ _ _ _ hx=>(by rw[hs]at hx;cases hx),λh2=>(uS.no hf h2).elim,λ_=>h⟩
def Sound(P:Program)(Γ:om):Prop:=∀f vs en,Γ f vs=some en->uS P f en
theorem xQ.mono{E E':Env}(h:cJ E E'):∀ {as:List aA} {vs:List Value},xQ E as vs->xQ E' as vs
 |[],[],_=>trivial
 |_::_,_::_,⟨h1,h2⟩=>⟨h1.mono h,xQ.mono h h2⟩
theorem xQ.iC{ρ:Ren}{E E':Env}(h:zU ρ E E'):∀ {as:List aA} {vs:List Value},xQ E as vs->xQ E' (as.map (aA.iC ρ)) vs
 |[],[],_=>trivial
 |_::_,_::_,⟨h1,h2⟩=>⟨G4 h h1,xQ.iC h h2⟩
theorem xQ.append{E:Env}:∀ {as:List aA} {vs:List Value} {bs:List aA} {us:List Value},xQ E as vs->xQ E bs us->xQ E (as++bs) (vs++us)
 |[],[],_,_,_,h=>h
 |_::_,_::_,_,_,⟨h1,h2⟩,h=>⟨h1,xQ.append h2 h⟩
theorem aiC{E:Env}:∀ {c:aA} {vs:List Value},VC E c vs->xQ E c.list vs
 | .cons a b,vs,h=>by simp only[VC]at h;obtain⟨v,vs',cs,rfl,ha,ho,hb⟩:=h;exact⟨VS.of ha ho,aiC hb⟩
 | .nil,vs,h=>by simp only[VC]at h;subst h;trivial
 | .undef,_,hv=>by simp only[VC]at hv
 | .gone,_,hv=>by simp only[VC]at hv
 | .cV,_,hv=>by simp only[VC]at hv
 | .qC,_,hv=>by simp only[VC]at hv
 | .xc,_,hv=>by simp only[VC]at hv
 | .yl ..,_,hv | .qX ..,_,hv=>by simp only[VC]at hv
 | .CI,_,hv=>by simp only[VC]at hv
 | .sb _,_,hv=>by simp only[VC]at hv
 | .d t x,_,hv=>by simp only[VC]at hv
 | .pr a b,_,hv=>by simp only[VC]at hv
 | .ptr ..,_,hv=>by simp only[VC]at hv
 | .dL ..,_,hv=>by simp only[VC]at hv
 | .bu ..,_,hv=>by simp only[VC]at hv
 | .fn ..,_,hv=>by simp only[VC]at hv
 | .vec ..,_,hv=>by simp only[VC]at hv
 | .bx ..,_,hv=>by simp only[VC]at hv
 | .cm ..,_,hv=>by simp only[VC]at hv
 | .mp ..,_,hv | .sH ..,_,hv=>by simp only[VC]at hv
theorem Inv.aZX{C:Ctx}{g:Nat->lS}{β:Id->Option Pl}{s:AS}{a:Act}{w:World}(h:Inv C g β s a w):∀l:List Operand,xQ (s.env w g β) (l.map s.ev) (l.map a.eval)
 |[]=>trivial
 |x::l=>⟨h.ev x,h.aZX l⟩
theorem Dr{E E':Env}{s:AS}(hs:E.s=s.bQ)(ho:iG E)(he:cJ E E'):∀(ps:List (Option Ty)) (vs:List aA) (ys:List Value) (r:List aA×List Id),xQ E vs ys->(s.conv ps vs).eval=some r->aX6 E E' r.2->xQ E' r.1 ys
 |[],[],ys,r,hv,h,_=>by
  simp only[AS.conv,ax]at h;subst h;cases ys with
  |nil=>trivial
  |cons _ _=>exact hv.elim
 |some t::ps,v::vs,y::ys,r,⟨hv,U9⟩,h,hf=>by
  simp only[AS.conv]at h;obtain⟨x,h1,h2⟩:=av.1 h;obtain⟨r',h3,h4⟩:=av.1 h2;obtain rfl:=ax.1 h4;obtain⟨cs,hV,hO⟩:=hv.eL (Cm h1);refine⟨VS.of (cs:=cs) ?_ ?_,Dr hs ho he ps vs ys r' U9 h3 λid cR=>hf id (bD.2 (.inr cR))⟩
  ·simp only[V];exact xn hs ho he v t x cs hV h1 λid cR=>hf id (bD.2 (.inl cR))
  ·show fH t.agg cs y;rw[<-adg h1];exact hO
 |none::ps,v::vs,y::ys,r,⟨hv,U9⟩,h,hf=>by simp only[AS.conv]at h;obtain⟨r',h3,h4⟩:=av.1 h;obtain rfl:=ax.1 h4;exact⟨hv.mono he,Dr hs ho he ps vs ys r' U9 h3 hf⟩
 |[],_::_,_,_,_,h,_=>by simp only[AS.conv,au]at h
 |some _::_,[],_,_,_,h,_=>by simp only[AS.conv,au]at h
 |none::_,[],_,_,_,h,_=>by simp only[AS.conv,au]at h
end Go.Ab
namespace Go.Ab
theorem oO{id:Id}:∀ {ids:List Id} {k:Nat},idxOf id ids=some k->ids[k]? =some id
 |[],_,h=>by simp[idxOf]at h
 |x::xs,k,h=>by
  simp only[idxOf]at h;split at h
  ·rename_i e;simp only[ay]at h;subst h e;rfl
  ·simp only[cU]at h;obtain⟨j,hj,rfl⟩:=h;simpa using oO hj
theorem wZ{id:Id}:∀ {ids:List Id} {k:Nat},ids.Nodup->ids[k]? =some id->idxOf id ids=some k
 |[],_,_,h=>by simp at h
 |x::xs,0,hn,h=>by simp only[fF,ay]at h;simp[idxOf,h]
 |x::xs,k+1,hn,h=>by
  simp only[lT]at h;obtain⟨h1,h2⟩:=cY.1 hn;have gg:x≠id:=λe=>h1 (e▸cG h)
  simp[idxOf,gg,wZ h2 h]
theorem C6(s0:AS)(all:List Id)(t:Nat):∀(ids:List Id) (es:List dB) (s:AS),(AS.jr s0 all t s ids es).cg=s.cg
 |[],_,_=>by simp[AS.jr]
 |_::_,[],_=>by simp[AS.jr]
 |id::ids,e::es,s=>by rw[AS.jr,C6 s0 all t ids es,da]
theorem acN(s:AS)(ids:List Id)(t:Nat)(es:List dB):(s.made ids t es).cg=s.cg:=by cases es <;> rfl
theorem Hv(s0:AS)(all:List Id)(t:Nat):∀(ids:List Id) (es:List dB) (s:AS),ids.Nodup->es.length=ids.length->(∀id∈ids,s.bQ id≠none)->
  (∀id,id ∉ ids->(AS.jr s0 all t s ids es).bQ id=s.bQ id)/\
  ∀(k:Nat) (id:Id) (e:dB),ids[k]? =some id->es[k]? =some e->(AS.jr s0 all t s ids es).bQ id=some (s0.rV all t (s0.Cp id) e)
 |[],es,s,_,_,_=>⟨λ_ _=>by simp[AS.jr],λk id e h=>by simp at h⟩
 |_::_,[],s,_,hl,_=>by simp at hl
 |i::ids,e::es,s,hn,hl,hp=>by
  obtain⟨h1,h2⟩:=cY.1 hn;have hp':∀id∈ids,(s.bg i (s0.rV all t (s0.Cp i) e)).bQ id≠none:=λid cR=>by rw[cQ s i id _ (λe=>h1 (e▸cR))];exact hp id (aI _ cR)
  obtain⟨r1,r2⟩:=Hv s0 all t ids es (s.bg i (s0.rV all t (s0.Cp i) e)) h2 (by simpa using hl) hp';rw[AS.jr];refine⟨λid cR=> ?_,λk id e' hk he=> ?_⟩
  ·simp only[cj,not_or]at cR;rw[r1 id cR.2,cQ s i id _ cR.1]
  ·cases k with
   |zero=>
    simp only[fF,ay]at hk he;subst hk he;rw[r1 i h1,eC s i _ (hp i (aN ..))]
   |succ k=>
    simp only[lT]at hk he;exact r2 k id e' hk he
theorem aoy(s:AS)(ids:List Id)(t:Nat)(es:List dB)(hv:es=[]\/s.dV t=true):
  (∀id,(es=[]\/∀j,id≠ .new t j)->(s.made ids t es).bQ id=s.bQ id)/\(es≠ []->∀j,(s.made ids t es).bQ (.new t j)=(es[j]?).map (s.rV ids t 0)):=by
 cases es with
 |nil=>exact⟨λ_ _=>rfl,λh=>absurd rfl h⟩
 |cons e es=>
  have hv:s.dV t=true:=by
   rcases hv with h | h
   ·cases h
   ·exact h
  refine⟨λid h=> ?_,λ_ j=> ?_⟩
  ·rcases h with h | h
   ·cases h
   ·exact iS _ h
  ·rw[AS.made,yI (ka hv).2,dY]
def nB(ids:List Id):lS->lS
 | .free=> .free
 | .own .dZ n=> .own .dZ n
 | .own (.id i) n=>match idxOf i ids with | some k=> .own (.id (.bh k)) n | none=> .own .dZ n
def B1(β:Id->Option Pl)(ids:List Id):Id->Option Pl
 | .bh k=>(ids[k]?).bind β
 | .new _ _=>none
def nX(g:Nat->lS)(size:Nat)(ids:List Id)(t:Nat)(b:Nat):lS->lS
 | .free=> .free
 | .own .dZ n=>if b < size then g b else .own .dZ n
 | .own (.id i) n=> .own (.id (aT3 ids t i)) n
def xf(β β':Id->Option Pl)(ids:List Id)(t:Nat)(some?:Bool)(id:Id):Option Pl:=
 match idxOf id ids with
 |some k=>β' (.bh k)
 |none=>match id with
  | .new i j=>if i=t/\some?=true then β' (.new 0 j) else β (.new i j)
  |id=>β id
theorem aKn{ids:List Id}{l:lS}{off:Nat}(h:uR (λ_=>l) 0 off):uR (λ_=>nB ids l) 0 off:=by
 cases l with
 |free=>trivial
 |own o k=>cases o with
  |dZ=>exact h
  |id i=>simp only[nB];cases idxOf i ids <;> exact h
section
variable {P:Program} {C:Ctx} {g:Nat->lS} {β:Id->Option Pl} {s:AS} {a:Act} {w:World} {o:Oper}
theorem aJ2(ids:List Id):
  zU (s.xi ids) (s.env w g β) ((fA (ids.map (s.mz ids))).env w (λb=>nB ids (g b)) (B1 β ids)):=by
 refine⟨⟨λb off v ⟨h1,h2⟩=>⟨h1,?_⟩,λb ob h1 h2=>⟨by show nB ids (g b)= .free;have h1:g b= .free:=h1;rw[h1];rfl,h2⟩⟩,λid ver r hr _=> ?_⟩
 ·exact aKn (l:=g b) h2
 ·unfold AS.xi at hr;split at hr
  ·rename_i k v fr c hk ho;split at hr
   ·rename_i aZc;simp only[ay]at hr;subst hr aZc;have cR:=oO hk;have cM:=dX ho;refine⟨⟨?_,λ_ _ _ _=>aL _⟩,λ_=>⟨⟨fr,c,cM⟩,?_⟩⟩
    ·show(ids.map (s.mz ids))[k]? ≠none
     simp[cR]
    ·show(ids[k]?).bind β=β id;rw[cR];rfl
   ·cases hr
  ·cases hr
theorem ay1(ids:List Id)(hn:ids.Nodup)(h:iG (s.env w g β)):iG ((fA (ids.map (s.mz ids))).env w (λb=>nB ids (g b)) (B1 β ids)):=by
 intro id ver fr c cR;have cR:(fA (ids.map (s.mz ids))).bQ id=some (.obj ver fr c):=cR;cases id with
 |new i j=>simp[fA,AS.bQ]at cR
 |bh k=>
  simp only[fA,AS.bQ,dY,cU]at cR;obtain⟨id1,hk,he⟩:=cR;unfold AS.mz at he;split at he
  ·rename_i v fr1 c1 cM;simp only[dB.obj.injEq]at he;obtain⟨rfl,rfl,rfl⟩:=he;refine wR (aJ2 ids) (h id1 v fr1 c1 cM) (by show(ids[k]?).bind β=β id1;rw[hk];rfl) λpl hp=>⟨rfl,λn hg=> ?_,λhg=> ?_⟩
   ·have hg:g pl.b= .own (.id id1) n:=hg;show nB ids (g pl.b)=_;rw[hg];simp[nB,wZ hn hk]
   ·have hg:g pl.b= .free:=hg;show nB ids (g pl.b)=_;rw[hg];rfl
  ·cases he
theorem Yp(h:Inv C g β s a w){ids:List Id}(hn:ids.Nodup)(hp:∀id∈ids,∃r,s.obj id=some r)(XI:∀id∈ids,s.Tf id=true){G:fx}{t:Nat}(hl:G.bU.length=ids.length)(hv:G.news=[]\/s.dV t=true){v:Value}{w':World}
  (ha:tg ((fA (ids.map (s.mz ids))).env w (λb=>nB ids (g b)) (B1 β ids)) G v w'):
  ∃g' β',Inv C g' β' (AS.jr s ids t (s.made ids t G.news) ids G.bU) a w'/\VS ((AS.jr s ids t (s.made ids t G.news) ids G.bU).env w' g' β') (G.val.iC (s.vA ids t)) v:=by
 obtain⟨g1,β1,Av,aTY,auU,hle⟩:=ha;have auU:Trans w w' (λb=>nB ids (g b)) g1:=auU;obtain⟨m1,m2⟩:=aoy s ids t G.news hv;have bbk:∀id∈ids,s.bQ id≠none:=λid cR=>by obtain⟨⟨v,fr,c⟩,hr⟩:=hp id cR;rw[dX hr];simp
 have GR:∀id,s.bQ id≠none->G.news=[]\/∀j,id≠ .new t j:=λid cR=>by
  rcases hv with hv | hv
  ·exact .inl hv
  ·exact .inr λj e=>cR (by rw[e];exact(ka hv).1 j)
 obtain⟨n1,n2⟩:=Hv s ids t ids G.bU (s.made ids t G.news) hn hl (λid cR=>by rw[m1 id (GR id (bbk id cR))];exact bbk id cR);have aZd:∀j,G.news≠ []->Id.new t j ∉ ids:=λj gg cR=>by
  rcases hv with hv | hv
  ·exact gg hv
  ·exact bbk _ cR ((ka hv).1 j)
 generalize ZS:AS.jr s ids t (s.made ids t G.news) ids G.bU=s2 at*;have hgO:∀(k:Nat) (id:Id),ids[k]? =some id->∃e,G.bU[k]? =some e/\s2.bQ id=some (s.rV ids t (s.Cp id) e):=λk id hk=>by
  have gv:k < G.bU.length:=by rw[hl];exact(dC.1 hk).1
  exact⟨_,bO gv,n2 k id _ hk (bO gv)⟩
 have hgN:G.news≠ []->∀j,s2.bQ (.new t j)=(G.news[j]?).map (s.rV ids t 0):=λgg j=>by rw[n1 _ (aZd j gg),m2 gg j]
 have hgS:∀id,id ∉ ids->(G.news=[]\/∀j,id≠ .new t j)->s2.bQ id=s.bQ id:=λid h1 h2=>by rw[n1 id h1,m1 id h2]
 have hverOf:∀id∈ids,∃fr c,s.bQ id=some (.obj (s.Cp id) fr c):=λid cR=>by obtain⟨⟨v,fr,c⟩,hr⟩:=hp id cR;refine⟨fr,c,?_⟩;rw[dX hr];simp[AS.Cp,hr]
 have baX:∀b n,b < w.heap.size->g1 b= .own .dZ n->(g b= .own .dZ n\/∃i,g b= .own (.id i) n/\idxOf i ids=none):=λb n hb hg=>by
  have h1:=auU.Sq b hb;cases WX:g b with
  |free=>simp only[WX,nB]at h1;rw[h1.1]at hg;cases hg
  |own o k=>cases o with
   |dZ=>simp only[WX,nB]at h1;rw[h1.1]at hg;left;exact hg
   |id i=>
    cases hi:idxOf i ids with
    |none=>
     simp only[WX,nB,hi]at h1;rw[h1.1]at hg;simp only[lS.own.injEq,mi]at hg;subst hg;exact .inr ⟨i,rfl,hi⟩
    |some k'=>
     simp only[WX,nB,hi]at h1;rcases h1.1 with h2 | ⟨_,_,h2,_⟩ <;> (rw[h2]at hg;cases hg)
 let g2:Nat->lS:=λb=>nX g w.heap.size ids t b (g1 b)
 let β2:Id->Option Pl:=xf β β1 ids t (!G.news.isEmpty)
 have hβO:∀k id,ids[k]? =some id->β2 id=β1 (.bh k):=λk id hk=>by show xf _ _ _ _ _ id=_;simp[xf,wZ hn hk]
 have hβN:G.news≠ []->∀j,β2 (.new t j)=β1 (.new 0 j):=λgg j=>by
  show xf _ _ _ _ _ _=_;have:idxOf (.new t j) ids=none:=by
   cases hi:idxOf (.new t j) ids with
   |none=>rfl
   |some k=>exact absurd (cG (oO hi)) (aZd j gg)
  have hne':G.news.isEmpty=false:=by cases hh:G.news with
   |nil=>exact absurd hh gg
   |cons _ _=>rfl
  simp[xf,this,hne']
 have hβS:∀id,id ∉ ids->(G.news=[]\/∀j,id≠ .new t j)->β2 id=β id:=λid h1 h2=>by
  show xf _ _ _ _ _ _=_;have:idxOf id ids=none:=by
   cases hi:idxOf id ids with
   |none=>rfl
   |some k=>exact absurd (cG (oO hi)) h1
  cases id with
  |bh k=>simp[xf,this]
  |new i j=>
   have:¬(i=t/\(!G.news.isEmpty)=true):=by
    rintro⟨rfl,h3⟩;rcases h2 with h2 | h2
    ·rw[h2]at h3;cases h3
    ·exact h2 j rfl
   simp only[xf, *,bp]
 have aY8:Trans w w' g g2:=by
  refine⟨auU.os,auU.tape,auU.output,auU.size,λb hb=> ?_⟩;have h1:=auU.Sq b hb;show match g b with | .free=>nX g w.heap.size ids t b (g1 b)= .free/\_ | .own .dZ k=>nX g w.heap.size ids t b (g1 b)= .own .dZ k/\_ | .own (.id _) k=>(nX g w.heap.size ids t b (g1 b)= .free\/∃i k',nX g w.heap.size ids t b (g1 b)= .own (.id i) k'/\k<=k')/\_
  cases WX:g b with
  |free=>simp only[WX,nB]at h1 ⊢;rw[h1.1];exact⟨rfl,h1.2⟩
  |own o k=>cases o with
   |dZ=>simp only[WX,nB]at h1 ⊢;rw[h1.1];simp only[nX,hb,bG,WX];exact⟨trivial,h1.2⟩
   |id i=>
    cases hi:idxOf i ids with
    |none=>
     simp only[WX,nB,hi]at h1 ⊢;rw[h1.1];simp only[nX,hb,bG,WX];exact⟨.inr ⟨i,k,rfl,aw _⟩,λoff v _ hv=>by simpa only[World.cell?,h1.2]using hv⟩
    |some k'=>
     simp only[WX,nB,hi]at h1 ⊢;refine⟨?_,h1.2⟩;rcases h1.1 with h2 | ⟨i',k'',h2,h3⟩
     ·rw[h2];exact .inl rfl
     ·rw[h2];exact .inr ⟨_,k'',rfl,h3⟩
 have EV:tn (G.st.env w' g1 β1) (s2.env w' g2 β2):=by
  refine⟨λb off v ⟨h1,h2⟩=> ?_,λb ob h1 h2=>⟨by show nX g w.heap.size ids t b (g1 b)= .free;have h1:g1 b= .free:=h1;rw[h1];rfl,h2⟩⟩;refine⟨h1,?_⟩;have h2:uR g1 b off:=h2;show uR g2 b off;unfold uR at h2 ⊢;show match nX g w.heap.size ids t b (g1 b) with | .free=>True | .own _ k=>off < k
  cases WX:g1 b with
  |free=>simp[nX]
  |own o k=>
   rw[WX]at h2;cases o with
   |dZ=>
    simp only[nX];by_cases hb:b < w.heap.size
    ·rw[if_pos hb];rcases baX b k hb WX with h3 | ⟨i,h3,_⟩ <;> (rw[h3];exact h2)
    ·rw[if_neg hb];exact h2
   |id i=>exact h2
 have hentOut:∀(base:Nat) (e:dB) (ver:Nat) (fr:Bool) (c:aA),s.rV ids t base e= .obj ver fr c->∃v0 c0,e= .obj v0 fr c0/\ver=base+v0/\c=c0.iC (s.vA ids t):=λbase e ver fr c he=>by
  cases e with
  |dead=>cases he
  |obj v0 fr0 c0=>
   simp only[AS.rV,dB.obj.injEq]at he;obtain⟨rfl,rfl,rfl⟩:=he;exact⟨v0,c0,rfl,rfl,rfl⟩
 have aj1:zU (s.vA ids t) (G.st.env w' g1 β1) (s2.env w' g2 β2):=by
  refine⟨EV,λid ver r hr hb=> ?_⟩;cases id with
  |bh k=>
   obtain⟨R5,XG⟩:=hb;have R5:G.bU[k]? ≠none:=R5
   have hk:k < ids.length:=by
    rcases pM k ids.length with h' | h'
    ·exact h'
    ·exact absurd (dD (by omega)) R5
   have cR:ids[k]? =some ids[k]:=bO hk
   simp only[AS.vA,cR,ay]at hr;subst hr;obtain⟨e,PF,ad7⟩:=hgO k _ cR;refine⟨⟨by show s2.bQ _≠none;rw[ad7];simp,λv fr c hh=> ?_⟩,λ⟨fr,c,hh⟩=>⟨?_,hβO k _ cR⟩⟩
   ·have hh:s2.bQ ids[k]=some (.obj v fr c):=hh;rw[ad7,ay]at hh;obtain⟨v0,c0,rfl,rfl,_⟩:=hentOut _ _ _ _ _ hh;have:=XG v0 fr c0 PF;omega
   ·have hh:s2.bQ ids[k]=some (.obj (s.Cp ids[k]+ver) fr c):=hh;rw[ad7,ay]at hh;obtain⟨v0,c0,rfl,aXO,_⟩:=hentOut _ _ _ _ _ hh;obtain rfl:ver=v0:=by omega
    exact⟨fr,c0,PF⟩
  |new i j=>
   simp only[AS.vA,ay]at hr;subst hr;obtain⟨R5,XG⟩:=hb;have R5:([G.news].getD i [])[j]? ≠none:=R5
   have XG:∀v fr c,([G.news].getD i [])[j]? =some (.obj v fr c)->ver<=v:=XG
   cases i with
   |succ i=>simp at R5
   |zero=>
    simp only[jh]at R5 XG;have gg:G.news≠ []:=λe=>by rw[e]at R5;simp at R5
    obtain⟨e,he⟩:=Option.ne_none_iff_exists'.1 R5;have ad7:=hgN gg j;rw[he,dQ]at ad7;refine⟨⟨by show s2.bQ (.new t j)≠none;rw[ad7];simp,λv fr c hh=> ?_⟩,λ⟨fr,c,hh⟩=>⟨?_,hβN gg j⟩⟩
    ·have hh:s2.bQ (.new t j)=some (.obj v fr c):=hh;rw[ad7,ay]at hh;obtain⟨v0,c0,rfl,rfl,_⟩:=hentOut _ _ _ _ _ hh;have:=XG v0 fr c0 he;simp only;omega
    ·have hh:s2.bQ (.new t j)=some (.obj ver fr c):=hh;rw[ad7,ay]at hh;obtain⟨v0,c0,rfl,aXO,_⟩:=hentOut _ _ _ _ _ hh;obtain rfl:ver=v0:=by omega
     exact⟨fr,c0,he⟩
 have aYW:cJ (s.env w g β) (s2.env w' g2 β2):=by
  refine⟨Trans.mem aY8,λid ver hb=> ?_,λid ver hb hc=> ?_⟩
  ·obtain⟨R5,XG⟩:=hb;have R5:s.bQ id≠none:=R5;have XG:∀v fr c,s.bQ id=some (.obj v fr c)->ver<=v:=XG;by_cases cR:id∈ids
   ·obtain⟨k,hk⟩:=kf.1 cR;obtain⟨e,PF,ad7⟩:=hgO k id hk;obtain⟨fr1,c1,R6⟩:=hverOf id cR;refine⟨by show s2.bQ _≠none;rw[ad7];simp,λv fr c hh=> ?_⟩;have hh:s2.bQ id=some (.obj v fr c):=hh;rw[ad7,ay]at hh;obtain⟨v0,c0,rfl,rfl,_⟩:=hentOut _ _ _ _ _ hh;have:=XG _ _ _ R6;omega
   ·have:=hgS id cR (GR id R5);exact⟨by show s2.bQ _≠none;rw[this];exact R5,λv fr c hh=>XG v fr c (this.symm.trans hh)⟩
  ·obtain⟨R5,XG⟩:=hb;have R5:s.bQ id≠none:=R5;have XG:∀v fr c,s.bQ id=some (.obj v fr c)->ver<=v:=XG;obtain⟨fr,c,hh⟩:=hc;have hh:s2.bQ id=some (.obj ver fr c):=hh;by_cases cR:id∈ids
   ·obtain⟨k,hk⟩:=kf.1 cR;obtain⟨e,PF,ad7⟩:=hgO k id hk;obtain⟨fr1,c1,R6⟩:=hverOf id cR;rw[ad7,ay]at hh;obtain⟨v0,c0,rfl,aXO,_⟩:=hentOut _ _ _ _ _ hh;have aZc:=XG _ _ _ R6;obtain rfl:v0=0:=by omega
    have hver':ver=s.Cp id:=by omega
    refine⟨⟨fr1,c1,by rw[hver'];exact R6⟩,?_⟩;show β2 id=β id;rw[hβO k id hk];have aoT:s.mz ids id= .obj 0 fr1 (c1.iC (s.xi ids)):=by simp[AS.mz,R6]
    have h0:((fA (ids.map (s.mz ids))).env w (λb=>nB ids (g b)) (B1 β ids)).F4 (.bh k) 0:=by
     refine⟨?_,λ_ _ _ _=>aL _⟩;show(ids.map (s.mz ids))[k]? ≠none
     simp[hk]
    have:=(hle.cur (.bh k) 0 h0 ⟨fr,c0,PF⟩).2;have this:β1 (.bh k)=(ids[k]?).bind β:=this;rw[this,hk];rfl
   ·have:=hgS id cR (GR id R5);exact⟨⟨fr,c,this.symm.trans hh⟩,hβS id cR (GR id R5)⟩
 have aY2:iG (s2.env w' g2 β2):=by
  intro id ver fr c hh;have hh:s2.bQ id=some (.obj ver fr c):=hh;by_cases cR:id∈ids
  ·obtain⟨k,hk⟩:=kf.1 cR;obtain⟨e,PF,ad7⟩:=hgO k id hk;rw[ad7,ay]at hh;obtain⟨v0,c0,rfl,_,rfl⟩:=hentOut _ _ _ _ _ hh;refine wR aj1 (aTY (.bh k) v0 fr c0 PF) (hβO k id hk) λpl _=>⟨rfl,λn hg=> ?_,λhg=> ?_⟩
   ·have hg:g1 pl.b= .own (.id (.bh k)) n:=hg;show nX g w.heap.size ids t pl.b (g1 pl.b)=_;rw[hg];simp[nX,aT3,aD,hk]
   ·have hg:g1 pl.b= .free:=hg;show nX g w.heap.size ids t pl.b (g1 pl.b)=_;rw[hg];rfl
  ·by_cases gg:G.news≠ []/\∃j,id= .new t j
   ·obtain⟨gg,j,rfl⟩:=gg;rw[hgN gg j,cU]at hh;obtain⟨e,he,hh⟩:=hh;obtain⟨v0,c0,rfl,_,rfl⟩:=hentOut _ _ _ _ _ hh;refine wR aj1 (aTY (.new 0 j) v0 fr c0 (by show([G.news].getD 0 [])[j]? =_;simpa using he)) (hβN gg j) λpl _=>⟨rfl,λn hg=> ?_,λhg=> ?_⟩
    ·have hg:g1 pl.b= .own (.id (.new 0 j)) n:=hg;show nX g w.heap.size ids t pl.b (g1 pl.b)=_;rw[hg];rfl
    ·have hg:g1 pl.b= .free:=hg;show nX g w.heap.size ids t pl.b (g1 pl.b)=_;rw[hg];rfl
   ·have bcX:G.news=[]\/∀j,id≠ .new t j:=by
     by_cases hh:G.news=[]
     ·exact .inl hh
     ·exact .inr λj e=>gg ⟨hh,j,e⟩
    rw[hgS id cR bcX]at hh;have same:∀id,id ∉ ids->∀ver fr c,s.bQ id=some (.obj ver fr c)->∀pl,β id=some pl->w'.heap[pl.b]? =w.heap[pl.b]? /\nX g w.heap.size ids t pl.b (g1 pl.b)=g pl.b:=by
     intro id cR ver fr c hh pl Oi;obtain⟨hb,aYV⟩:=(h.bI id ver fr c hh).label (pl:=pl) Oi;have hb:pl.b < w.heap.size:=hb;have h1:=auU.Sq pl.b hb;have ba2:idxOf id ids=none:=by
      cases hi:idxOf id ids with
      |none=>rfl
      |some k=>exact absurd (cG (oO hi)) cR
     rcases aYV with⟨k,hk⟩ | ⟨_,hk⟩
     ·have hk:g pl.b= .own (.id id) k:=hk;simp only[hk,nB,ba2]at h1;rw[h1.1];simp only[nX,hb,bG];exact⟨h1.2,trivial⟩
     ·have hk:g pl.b= .free:=hk;simp only[hk,nB]at h1;rw[h1.1,hk];exact⟨h1.2,rfl⟩
    have ho:=h.bI id ver fr c hh;refine ho.mono aYW (hβS id cR bcX) (λpl Oi=>same id cR ver fr c hh pl Oi) λq2 vq k2 v2 l2 SU _=> ?_
    have SU:s.bQ q2=some (.obj vq true (.mp k2 v2 l2)):=SU;have aOS:q2 ∉ ids:=λhm=>by
     have:=XI q2 hm;have e:s.obj q2=some (vq,true,.mp k2 v2 l2):=by simp[AS.obj,SU]
     unfold AS.Tf at this;rw[e]at this;cases this
    refine⟨⟨k2,v2,l2,?_⟩,λpl Oi=>same q2 aOS vq true _ SU pl Oi⟩;show s2.bQ q2=_;rw[hgS q2 aOS (GR q2 (by rw[SU];simp))];exact SU
 have ayY:s2.cg=s.cg:=by rw[<-ZS,C6,acN]
 exact⟨g2,β2,h.step ayY aY8 aYW aY2,G4 aj1 Av⟩
end
end Go.Ab
namespace Go.Ab
theorem sS(s:AS):∀(n:Nat) (todo acc:List Id),acc.Nodup->(s.reach n todo acc).Nodup
 | 0,_,acc,h=>by simpa[AS.reach]using h
 |_+1,[],acc,h=>by simpa[AS.reach]using h
 |n+1,id::todo,acc,h=>by
  rw[AS.reach];split
  ·exact sS s n todo acc h
  ·rename_i hc;refine sS s n _ _ ?_
   rw[List.nodup_append];refine⟨h,by simp,λx hx y hy e=> ?_⟩;simp only[bn]at hy;subst hy e;exact hc (by simpa using hx)
theorem BV(s:AS)(vs:List aA):(s.ag5 vs).Nodup:=sS s _ _ _ (by simp)
section
variable {P:Program} {C:Ctx} {g:Nat->lS} {β:Id->Option Pl} {s:AS} {a:Act} {w:World} {o:Oper}
theorem amS(h:Inv C g β s a w){ids:List Id}(hn:ids.Nodup)(CC:s.azb ids=true){G:fx}{s':AS}(he:(s.back ids o.dst G).eval=some s'){v:Value}{w':World}
  (ha:tg ((fA (ids.map (s.mz ids))).env w (λb=>nB ids (g b)) (B1 β ids)) G v w'):ia C s' (a.put o.dst v) w':=by
 have hp:∀id∈ids,∃r,s.obj id=some r:=λid cR=>by have:=dd.1 CC id cR;rw[aq]at this;exact bP.1 this.1
 have XI:∀id∈ids,s.Tf id=true:=λid cR=>by have:=dd.1 CC id cR;rw[aq]at this;exact this.2
 unfold AS.back at he;cases aYI:o.dst with
 |some t=>
  rw[aYI]at he;obtain⟨hg,he⟩:=aB.1 he;obtain rfl:=ax.1 he;simp only[aq,dp,gw]at hg;obtain⟨hl,hg⟩:=hg;have aJX:G.news=[]\/s.dV t=true:=by
   rcases hg with hg | hg
   ·exact .inl (by simpa using hg)
   ·exact .inr hg
  obtain⟨g2,β2,h1,h2⟩:=Yp h hn hp XI hl aJX ha;exact⟨g2,β2,h1.put (some t) h2⟩
 |none=>
  rw[aYI]at he;obtain⟨hg,he⟩:=aB.1 he;obtain rfl:=ax.1 he;simp only[aq,dp]at hg;obtain⟨hl,hg⟩:=hg;have GR:G.news=[]:=by simpa using hg
  obtain⟨g2,β2,h1,_⟩:=Yp (t:=0) h hn hp XI hl (.inl GR) ha;rw[GR]at h1;exact⟨g2,β2,h1⟩
theorem SN(h:Inv C g β s a w){en:Entry}{ids:List Id}(hn:ids.Nodup){vs:List aA}{ys:List Value}(hv:xQ (s.env w g β) vs ys)
  {s':AS} (he:(s.enter en o.dst ids vs).eval=some s'):∃x,en.run (vs.map (aA.iC (s.xi ids))) (ids.map (s.mz ids))=some x/\
   xQ ((fA (ids.map (s.mz ids))).env w (λb=>nB ids (g b)) (B1 β ids)) (vs.map (aA.iC (s.xi ids))) ys/\
   iG ((fA (ids.map (s.mz ids))).env w (λb=>nB ids (g b)) (B1 β ids))/\
   ∀v w',tg ((fA (ids.map (s.mz ids))).env w (λb=>nB ids (g b)) (B1 β ids)) (en.out (vs.map (aA.iC (s.xi ids))) (ids.map (s.mz ids)) x) v w'->ia C s' (a.put o.dst v) w':=by
 unfold AS.enter at he;obtain⟨CC,he⟩:=aB.1 he;obtain⟨x,hx,he⟩:=wY.1 he;obtain⟨x0,aV1,he⟩:=av.1 he;rw[en.az6 _ _ aV1]at he;exact⟨x,hx,xQ.iC (aJ2 ids) hv,ay1 ids hn h.bI,λv w' ha=>amS h hn CC he ha⟩
theorem aut(h:Inv C g β s a w){f:FuncId}{en:Entry}(hd:qw P f en){ids:List Id}(hn:ids.Nodup){vs:List aA}{ys:List Value}(hv:xQ (s.env w g β) vs ys)
  (hr:(execOp a.eval o).run P w=(callFunc f ys.toArray).run P w) {s':AS} (he:(s.enter en o.dst ids vs).eval=some s'):fy P o a w (ia C s'):=by
 obtain⟨x,hx,h1,h2,key⟩:=SN h hn hv he;rcases hd _ _ _ _ _ _ _ h1 h2 hx with⟨auK,hc⟩ | ⟨v,w',bac,ha⟩
 ·exact .inr (.inr (.inl ⟨f,ys.toArray,w,hr.trans auK,hc.mono λe w' ⟨v,he,ha⟩=>⟨v,he,key v w' ha⟩⟩))
 ·exact .inl ⟨v,w',hr.trans bac,key v w' ha⟩
theorem aBo(h:Inv C g β s a w){c:Call}{F:Operand}{f:FuncId}{caps:aA}{en:Entry}(ho:o.op= .call c)(hc:c.callee= .value F)(hF:s.ev F= .fn f caps)(hd:qw P f en){s':AS}
  (he:(s.call en o.dst (c.args.toList.map s.ev++caps.list)).eval=some s'):fy P o a w (ia C s'):=by
 obtain⟨cal,args,tys⟩:=c;simp only at hc he;subst hc;obtain⟨vs,hy,aXP⟩:=ZE (hF▸h.ev F);have K6:=(h.aZX args.toList).append (aiC aXP);have hr:(execOp a.eval o).run P w=(callFunc f (args.toList.map a.eval++vs).toArray).run P w:=by
  have e1:execOp a.eval o=(do let d <-resolve a.eval {callee:= .value F,args,argTypes:=tys} o.type;invoke d.target d.args):=by simp only[execOp,ho]
  rw[e1];simp only[resolve,hy,Deferred.ofValue,Sem.run_bind,Sem.run_pure,Result.andThen_ok,invoke];congr 2;simp
 unfold AS.call at he;obtain⟨r,h1,h2⟩:=av.1 he;obtain⟨g',i1,e1,_,f1⟩:=fo r.2 h;exact aut i1 hd (BV _ _) (Dr rfl h.bI e1 _ _ _ r K6 h1 f1) hr h2
theorem agA{X R:Type}{S:X->Prop}{k:X->Option R}{r:R}(h:Zt S k=some r):(∃x,S x)/\∀x,S x->k x=some r:=by
 unfold Zt at h;split at h
 ·rename_i hx;obtain rfl:=bk h;exact hx.choose_spec
 ·cases h
theorem UE(h:Inv C g β s a w){f:FuncId}{en:Entry}(hd:Om P f en){vs:List aA}{ys:List Value}(K6:xQ (s.env w g β) vs ys){R:Type}{k:AS->Option R}{r:R}
  (he:s.ant en o.dst vs k=some r):(callFunc f ys.toArray).run P w= .ok (.enter f ys.toArray) w/\Calls P f ys.toArray w λe w'=>∃v,e= .returned v/\∃s',ia C s' (a.put o.dst v) w'/\k s'=some r:=by
 unfold AS.ant at he;obtain⟨r2,h0,he⟩:=hZ.1 he;obtain⟨r3,h1,h3⟩:=av.1 h0;obtain⟨CC,h3⟩:=aB.1 h3;obtain rfl:=ax.1 h3;obtain⟨g',i1,e1,_,f1⟩:=fo r3.2 h;have hn:=BV (s.bt r3.2) r3.1;have hv:=Dr rfl h.bI e1 _ _ _ r3 K6 h1 f1;unfold AS.aJa at he;obtain⟨hx,hk⟩:=agA he;obtain⟨c1,c2⟩:=hd _ _ _ _ _ _ (xQ.iC (aJ2 _) hv) (ay1 _ hn i1.bI) hx;refine⟨c1,c2.mono λe w' ⟨v,x,aoS,hs,ha⟩=>⟨v,aoS,?_⟩⟩;obtain⟨s',h4,h5⟩:=hZ.1 (hk x hs);obtain⟨x0,aV1,h4⟩:=av.1 h4;rw[en.az6 _ _ aV1]at h4;exact⟨s',amS i1 hn CC h4 ha,h5⟩
theorem atP(h:Inv C g β s a w){c:Call}{F:Operand}{f:FuncId}{caps:aA}{en:Entry}(ho:o.op= .call c)(hc:c.callee= .value F)(hF:s.ev F= .fn f caps)(hd:Om P f en){R:Type}{k:AS->Option R}{r:R}
  (he:s.ant en o.dst (c.args.toList.map s.ev++caps.list) k=some r):fy P o a w λa' w'=>∃s',ia C s' a' w'/\k s'=some r:=by
 obtain⟨cal,args,tys⟩:=c;simp only at hc he;subst hc;obtain⟨vs,hy,aXP⟩:=ZE (hF▸h.ev F);obtain⟨c1,c2⟩:=UE h hd ((h.aZX args.toList).append (aiC aXP)) he;refine .inr (.inr (.inl ⟨f,(args.toList.map a.eval++vs).toArray,w,Eq.trans ?_ c1,c2⟩));have e1:execOp a.eval o=(do let d <-resolve a.eval {callee:= .value F,args,argTypes:=tys} o.type;invoke d.target d.args):=by simp only[execOp,ho]
 rw[e1];simp only[resolve,hy,Deferred.ofValue,Sem.run_bind,Sem.run_pure,Result.andThen_ok,invoke];congr 2;simp
theorem Ed.beC{E:Env}{f:aA}{tmps:Array Value}(h:Ed E f tmps):xQ E f.list tmps.toList:=by
 obtain⟨h1,h2⟩:=h;have gen:∀(l:List aA) (ys:List Value),l.length=ys.length->(∀i,VS E (l.getD i .undef) (ys.getD i undef))->xQ E l ys:=by
  intro l
  induction l with
  |nil=>intro ys hl _;cases ys with
   |nil=>trivial
   |cons _ _=>simp at hl
  |cons x l ih=>intro ys hl hi;cases ys with
   |nil=>simp at hl
   |cons y ys=>exact⟨by simpa using hi 0,ih ys (by simpa using hl) λi=>by simpa using hi (i+1)⟩
 exact gen _ _ (by simpa using h1) λi=>by simpa[cF,aD]using h2 i
theorem axS(h:Inv C g β s a w){c:Call}{F:Operand}{id:Id}{ver:Nat}{rc:uZ}{f:aA}{en:Entry}(ho:o.op= .call c)(hc:c.callee= .value F)
  (hF:s.yielded (s.ev F) c.args.size=some (id,ver,rc,f)) (bab:rc=qE P rc.y) (hd:uS P rc.y en) {s':AS}
  (he:(s.call en o.dst (.yl id ver::(c.args.toList.map s.ev++f.list))).eval=some s'):fy P o a w (ia C s'):=by
 obtain⟨cal,args,tys⟩:=c;simp only at hc he hF;subst hc;unfold AS.yielded at hF;split at hF;rotate_left
 ·cases hF
 rename_i id' ver' aoS;split at hF;rotate_left
 ·cases hF
 rename_i v c0 f0 lK;split at hF;rotate_left
 ·cases hF
 rename_i aJG;simp only[ay,cv]at hF;obtain⟨rfl,rfl,rfl,rfl⟩:=hF;simp only[aq,dp]at aJG;obtain⟨⟨rfl,tc⟩,hy⟩:=aJG;have cM:=dX lK;have hv:=h.ev F;rw[aoS]at hv;obtain⟨cs,hV,hO⟩:=hv;simp only[V]at hV;obtain⟨l,rfl,hb,fk⟩:=hV;have aZf:a.eval F= .func (.yield l) #[] #[]:=by simpa[fH,aA.agg]using hO.symm
 obtain⟨pl,hp,rfl⟩:=fk ⟨false,_,cM⟩;obtain⟨pl',r,hp',hh,hg,⟨q1,q2,q3⟩,ayY,ml⟩:=h.bI id' v false _ cM;have hp':β id'=some pl':=hp';have hp:β id'=some pl:=hp;rw[hp']at hp;obtain rfl:pl'=pl:=by simpa using hp
 have hh:w.heap[pl'.b]? =some (.loop r):=hh
 have K6:xQ (s.env w g β) (.yl id' v::(args.toList.map s.ev++f0.list)) (.func (.yield pl'.b) #[] #[]::(args.toList.map a.eval++r.tmps.toList)):=
  ⟨by rw[<-aZf,<-aoS];exact h.ev F,(h.aZX args.toList).append ayY.beC⟩
 have hr:(execOp a.eval o).run P w= .ok (.round pl'.b r.fn ((c0.ps.zip (args.toList.map a.eval).toArray).foldl (λtmps (t,a)=>tmps.setIfInBounds t a) r.tmps.toList.toArray) c0.as c0.b) w:=by
  have e1:execOp a.eval o=(do let d <-resolve a.eval {callee:= .value F,args,argTypes:=tys} o.type;invoke d.target d.args):=by simp only[execOp,ho]
  have e2:=run_yield (P:=P) (args:=args.map a.eval) hh (by simpa[q1]using tc);rw[q1,q2,q3]at e2;rw[e1];simp only[resolve,aZf,Deferred.ofValue,Sem.run_bind,Sem.run_pure,Result.andThen_ok,invoke];have e3:(args.toList.map a.eval).toArray=args.map a.eval:=by apply fZ;simp
  rw[e3];simpa using e2
 unfold AS.call at he;obtain⟨r2,h1,h2⟩:=av.1 he;obtain⟨g',i1,e1,_,f1⟩:=fo r2.2 h;obtain⟨x,hx,k1,k2,key⟩:=SN i1 (BV _ _) (Dr rfl h.bI e1 _ _ _ r2 K6 h1 f1) h2;refine .inr (.inr (.inr ⟨pl'.b,r.fn,_,c0.as,c0.b,w,hr,λrd n=> ?_⟩));have:=hd.2.1 hy _ _ _ _ _ _ x k1 k2 hx pl'.b (args.toList.map a.eval) r.tmps.toList r.fn rd n rfl (by rw[<-bab];simpa using tc);rw[<-bab]at this;exact this.mono λe w' ⟨v,he,ha⟩=>⟨v,he,key v w' ha⟩
end
end Go.Ab
namespace Go.Ab
section
variable {P:Program} {C:Ctx} {g:Nat->lS} {β:Id->Option Pl} {s:AS} {a:Act} {w:World} {o:Oper}
theorem jm{b:Builtin}{args:Array Operand}{ts:Array TypeId}{F:TypeId->Array Value->Sem Value}{x:Value}{w':World}{s':AS}(ho:o.op= .call {callee:= .builtin b,args,argTypes:=ts})
  (hb:∀ty cs xs,builtin b ts ty cs xs=(do pure (.value (<-F ty xs)))) (hf:∀ty,(F ty (args.map a.eval)).run P w= .ok x w') (h2:∃g' β',Inv C g' β' s' (a.put o.dst x) w'):fy P o a w (ia C s'):=by
 refine .inl ⟨x,w',?_,h2⟩;simp only[execOp,ho,resolve,Sem.run_bind,Sem.run_pure,Result.andThen_ok,invoke];rw[hb,Sem.run_bind,hf];rfl
theorem aud(h:Inv C g β s a w){src dst:TypeId}{x:Operand}(ho:o.op= .convert src dst x){id:Id}{ver:Nat}(hx:s.ev x= .ptr id ver [] 0){v:aA}(he:(agr P s src dst id ver).eval=some v):fy P o a w (ia C (s.put o.dst v)):=by
 have hv:=h.ev x;rw[hx]at hv;obtain⟨ad,hy,hb,hc⟩:=vo hv;have fin:v= .ptr id ver [] 0->(convert src dst (a.eval x)).run P w= .ok (a.eval x) w->fy P o a w (ia C (s.put o.dst v)):=by intro h1 h2;subst h1;exact h.value hv (dR (f:=convert src dst (a.eval x)) (by simp only[execOp,ho]) h2)
 unfold agr at he;split at he
 ·rename_i v0 fr e c lK;have cM:=dX lK;obtain⟨pl',cur,e',hp',hh,hg,hk,hV⟩:=(h.bI id v0 fr _ cM).box rfl;have hk:e'=e:=hk;subst hk;have hV:V (s.env w g β) c (cur.toList.take cur.size):=hV;rw[<-cH,bJ]at hV;have hh:w.heap[pl'.b]? =some (.cells cur e' (0,0)):=hh
  have tc:=hV.size;have tc:cur.toList.length=c.size:=tc;have aJP:w.shape? pl'.b=some (e',c.size):=by simp only[World.shape?,hh];rw[<-tc];simp
  have hp':β id=some pl':=hp';split at he
  ·rename_i t hS hD;obtain⟨h1,h2⟩:=aB.1 he;have h2:=ax.1 h2;simp only[aq,dp,cr,gf]at h1;obtain⟨⟨rfl,h3⟩,h4⟩:=h1;obtain⟨pl,hp,rfl⟩:=hc ⟨fr,_,cM⟩;have hp:β id=some pl:=hp;rw[hp']at hp;obtain rfl:pl'=pl:=by simpa using hp
   refine fin h2.symm ?_
   rw[hy];cases hi:P.info? t with
   |none=>exact absurd (by simp[Program.cellsOf,hi]) h3
   |some j=>
    have hj:j.size≠0:=by rw[<-mQ hi]at*;exact h3
    exact Go.Lib.run_to_unsafe w _ hS hD hi hj aJP (by show 0 < c.size;omega)
  ·rename_i u hS hD;obtain⟨h1,h2⟩:=aB.1 he;have h2:=ax.1 h2;simp only[aq,dp,cr,gf]at h1;obtain⟨⟨rfl,h3⟩,h4⟩:=h1;obtain⟨pl,hp,rfl⟩:=hc ⟨fr,_,cM⟩;have hp:β id=some pl:=hp;rw[hp']at hp;obtain rfl:pl'=pl:=by simpa using hp
   refine fin h2.symm ?_
   rw[hy];cases hi:P.info? u with
   |none=>exact absurd (by simp[Program.cellsOf,hi]) h3
   |some j=>exact Go.Lib.run_from_unsafe w _ hS hD hi aJP h4
  ·simp only[au]at he
 ·simp only[au]at he
theorem aJc(h:Inv C g β s a w){T U:TypeId}{op:BinOp}{x y:Operand}(ho:o.op= .binOp op T x y U){i j:Id}{v1 v2:Nat}(hx:s.ev x= .ptr i v1 [] 0)(hy:s.ev y= .ptr j v2 [] 0){v:aA}(he:(aXB P s T op i v1 j v2).eval=some v):
  fy P o a w (ia C (s.put o.dst v)):=by
 unfold aXB at he;split at he
 ·rename_i v' fr c lK;obtain⟨h1,h2⟩:=aB.1 he;simp only[aq,dp,ba]at h1;obtain⟨⟨⟨rfl,rfl⟩,rfl⟩,aXM⟩:=h1;have cM:=dX lK;have ZU:=h.ev x;have aT2:=h.ev y;rw[hx]at ZU;rw[hy]at aT2;obtain⟨ad,aYy,_,hc⟩:=vo ZU;obtain⟨ad',aYz,_,hc'⟩:=vo aT2;obtain⟨pl,hp,rfl⟩:=hc ⟨fr,c,cM⟩;obtain⟨pl',hp',rfl⟩:=hc' ⟨fr,c,cM⟩;rw[hp]at hp';obtain rfl:pl=pl':=by simpa using hp'
  have hT:∃t j,P.underlying T=some (.pointer t)/\P.info? t=some j:=by
   unfold aZt at aXM;split at aXM
   ·rename_i t ht;obtain⟨j,hj⟩:=bP.1 aXM;exact⟨t,j,ht,hj⟩
   ·cases aXM
  obtain⟨t,j,hT,hj⟩:=hT
  have hq:(Op.equal T (.pointer (some ⟨pl.b,0,none⟩)) (.pointer (some ⟨pl.b,0,none⟩))).run P w= .ok true w:=
   ff λd=>by simp[Op.equalIn,run_underlying hT,sizeOf,typeInfo,hj,run_sameAddr_same]
  have bdK:(eqGuard op T x y (a.eval x) (a.eval y)).run P w= .ok () w:=by rw[aYy,aYz];exact nJ (by simp) rfl
  have fin:∀z,(binOp op T (a.eval x) (a.eval y)).run P w= .ok z w->VS (s.env w g β) v z->fy P o a w (ia C (s.put o.dst v)):=by
   intro z h1 h3;refine h.value h3 ?_
   simp[execOp,ho,h1,bdK]
  split at h2
  ·obtain rfl:=ax.1 h2;refine fin (.bool true) ?_ (vM true)
   rw[aYy,aYz];simp[binOp,hq]
  ·obtain rfl:=ax.1 h2;refine fin (.bool false) ?_ (vM false)
   rw[aYy,aYz];simp[binOp,hq]
  ·simp only[au]at h2
 ·simp only[au]at he
theorem aTC{c:Call}{b:Builtin}{x:Operand}(hc:c.callee= .builtin b)(ha:c.args.toList=[x]):c= {callee:= .builtin b,args:= #[x],argTypes:=c.argTypes}:=by
 obtain⟨cal,args,tys⟩:=c;simp only at hc ha;have ha':args= #[x]:=by apply fZ;simpa using ha
 subst hc ha';rfl
theorem ax1{c:Call}{b:Builtin}{x y:Operand}(hc:c.callee= .builtin b)(ha:c.args.toList=[x,y]):c= {callee:= .builtin b,args:= #[x,y],argTypes:=c.argTypes}:=by
 obtain⟨cal,args,tys⟩:=c;simp only at hc ha;have ha':args= #[x,y]:=by apply fZ;simpa using ha
 subst hc ha';rfl
theorem bcc{ts:Array TypeId}{T:TypeId}(h:ts.toList=[T]):ts= #[T]:=by apply fZ;simpa using h
theorem aXe{ts:Array TypeId}{T U:TypeId}(h:ts.toList=[T,U]):ts= #[T,U]:=by apply fZ;simpa using h
theorem aHH(h:Inv C g β s a w){c:Call}{x:Operand}{T e:TypeId}(ho:o.op= .call c)(hc:c.callee= .builtin .cap)(ha:c.args.toList=[x])(ht:c.argTypes.toList=[T])(hx:s.ev x= .cV)(hT:P.underlying T=some (.slice e)):
  fy P o a w (ia C (s.put o.dst (.d (.int .i64) (0:Int)))):=by
 rw[aTC hc ha,bcc ht]at ho;have hv:=h.ev x;rw[hx]at hv;have hy:=kU hv;refine jm ho (F:=λty xs=>Builtin.cap_ #[T] ty xs) (λty cs xs=>rfl) (x:= .int .i64 0) (w':=w) (λty=> ?_) ⟨g,β,h.put o.dst (lz _ _)⟩;simp[Builtin.cap_,run_underlying hT,hy,goInt]
theorem arS(h:Inv C g β s a w){c:Call}{x:Operand}{id:Id}{ver len:Nat}(ho:o.op= .call c)(hc:c.callee= .builtin .unsafeSliceData)(ha:c.args.toList=[x])(hx:s.ev x= .bu id ver [] 0 0 len)(hl:0 < len):
  fy P o a w (ia C (s.put o.dst (.ptr id ver [.idx 0] 0))):=by
 rw[aTC hc ha]at ho;have hv:=h.ev x;rw[hx]at hv;obtain⟨ad,cap,hy,PE,hs,hb,fk⟩:=rJ hv;obtain⟨ad,rfl⟩:=bP.1 (hs hl);refine jm ho (F:=λty xs=>Builtin.unsafeSliceData_ c.argTypes ty xs) (λty cs xs=>rfl) (x:= .pointer (some ad)) (w':=w) (λty=> ?_) ⟨g,β,h.put o.dst ?_⟩
 ·rw[show(#[x].map a.eval)= #[a.eval x] by simp,hy];exact Go.Lib.run_unsafeSliceData_row w _ _ _ _ _ (by omega)
 ·refine⟨[.pointer (some ad)],?_,rfl⟩;simp only[V];refine⟨ad,rfl,hb,λhc=> ?_⟩;have h1:=fk hc;cases hp:(s.env w g β).β id with
  |none=>rw[hp]at h1;simp only at h1;cases h1.1
  |some pl=>
   rw[hp]at h1;simp only at h1;exact⟨pl,rfl,by simpa using h1.1 (.inl hl)⟩
theorem apH(h:Inv C g β s a w){c:Call}{mx:Bool}(ho:o.op= .call c)(hc:c.callee= .builtin (if mx then .max else .min)){v:aA}(he:(aDi mx (c.args.toList.map s.ev)).eval=some v):fy P o a w (ia C (s.put o.dst v)):=by
 unfold aDi at he;split at he
 ·rename_i k x k' y Va;obtain⟨h1,h2⟩:=aB.1 he;obtain rfl:=ax.1 h2;have h1:k=k':=by simpa using h1
  subst h1;have aJD:∃p q,c.args.toList=[p,q]/\s.ev p= .d (.int k) x/\s.ev q= .d (.int k) y:=by
   match hh:c.args.toList,Va with
   |[p,q],Va=>simp only[bT,gV,cX]at Va;exact⟨p,q,rfl,Va.1,Va.2.1⟩
   |[],Va=>simp at Va
   |[_],Va=>simp at Va
   |_::_::_::_,Va=>simp at Va
  obtain⟨p,q,ha,hp,hq⟩:=aJD;rw[ax1 hc ha]at ho;have aV0:=h.ev p;have aT1:=h.ev q;rw[hp]at aV0;rw[hq]at aT1;have ep:=vb aV0;have eq:=vb aT1;cases mx with
  |true=>
   refine jm ho (F:=λty xs=>Builtin.max_ c.argTypes ty xs) (λty cs xs=>rfl) (x:= .int k (if x < y then y else x)) (w':=w) (λty=> ?_) ⟨g,β,h.put o.dst (lz _ _)⟩;rw[show(#[p,q].map a.eval)= #[a.eval p,a.eval q] by simp,ep,eq];simp[Builtin.max_,Builtin.max2]
  |false=>
   refine jm ho (F:=λty xs=>Builtin.min_ c.argTypes ty xs) (λty cs xs=>rfl) (x:= .int k (if y < x then y else x)) (w':=w) (λty=> ?_) ⟨g,β,h.put o.dst (lz _ _)⟩;rw[show(#[p,q].map a.eval)= #[a.eval p,a.eval q] by simp,ep,eq];simp[Builtin.min_,Builtin.min2]
 ·rename_i k x k' y k2 z Va;obtain⟨h1,h2⟩:=aB.1 he;obtain rfl:=ax.1 h2;simp only[aq,ba]at h1;obtain⟨rfl,rfl⟩:=h1;have aJD:∃p q r,c.args.toList=[p,q,r]/\s.ev p= .d (.int k) x/\s.ev q= .d (.int k) y/\s.ev r= .d (.int k) z:=by
   match hh:c.args.toList,Va with
   |[p,q,r],Va=>simp only[bT,gV,cX]at Va;exact⟨p,q,r,rfl,Va.1,Va.2.1,Va.2.2.1⟩
   |[],Va=>simp at Va
   |[_],Va=>simp at Va
   |[_,_],Va=>simp at Va
   |_::_::_::_::_,Va=>simp at Va
  obtain⟨p,q,r,ha,hp,hq,hr⟩:=aJD;have aJF:c= {callee:= .builtin (if mx then .max else .min),args:= #[p,q,r],argTypes:=c.argTypes}:=by
   obtain⟨cal,args,tys⟩:=c;simp only at hc ha;have ha':args= #[p,q,r]:=by apply fZ;simpa using ha
   subst hc ha';rfl
  rw[aJF]at ho;have aV0:=h.ev p;have aT1:=h.ev q;have asV:=h.ev r;rw[hp]at aV0;rw[hq]at aT1;rw[hr]at asV;have ep:=vb aV0;have eq:=vb aT1;have er:=vb asV;cases mx with
  |true=>
   refine jm ho (F:=λty xs=>Builtin.max_ c.argTypes ty xs) (λty cs xs=>rfl) (x:= .int k (if(if x < y then y else x) < z then z else(if x < y then y else x))) (w':=w) (λty=> ?_) ⟨g,β,h.put o.dst (lz _ _)⟩;rw[show(#[p,q,r].map a.eval)= #[a.eval p,a.eval q,a.eval r] by simp,ep,eq,er];simp[Builtin.max_,Builtin.max2]
  |false=>
   refine jm ho (F:=λty xs=>Builtin.min_ c.argTypes ty xs) (λty cs xs=>rfl) (x:= .int k (if z < (if y < x then y else x) then z else(if y < x then y else x))) (w':=w) (λty=> ?_) ⟨g,β,h.put o.dst (lz _ _)⟩;rw[show(#[p,q,r].map a.eval)= #[a.eval p,a.eval q,a.eval r] by simp,ep,eq,er];simp[Builtin.min_,Builtin.min2]
 ·simp only[au]at he
theorem ad5(z:Array Value)(n:Nat):Builtin.zeroCells z n=madeCells z (n*z.size):=rfl
theorem aCr(h:Inv C g β s a w){c:Call}{x y:Operand}{T X:TypeId}{k:IntKind}{n:Int}(ho:o.op= .call c)(hc:c.callee= .builtin .append)(ha:c.args.toList=[x,y])(ht:c.argTypes.toList=[T,X])(hx:s.ev x= .cV)(hy:s.ev y= .d (.int k) n){s':AS}
  (he:(aoN P s o.dst T X n).eval=some s'):fy P o a w (ia C s'):=by
 rw[ax1 hc ha,aXe ht]at ho;have ZU:=h.ev x;have aT2:=h.ev y;rw[hx]at ZU;rw[hy]at aT2;have ex:=kU ZU;have ey:=vb aT2;unfold aoN at he;split at he
 ·rename_i e t b q kn Kk hd hX;obtain⟨hT,hz,i,zv,hi,aCC,aVK,asX,aCL⟩:=CA Kk;obtain⟨hq,h2⟩:=aB.1 he;obtain⟨h3,h4⟩:=bM.1 h2;obtain rfl:=ax.1 h4;simp only[aq,ba,cT]at h3;obtain⟨h5,h7,h8⟩:=h3;obtain⟨m,rfl⟩:=Int.eq_ofNat_of_zero_le (Int.le_of_lt h5);simp only[aa]at h7 h8 ⊢;have aXS:zv.cells.size=t.size:=by have:=(aCL (s.env w g β)).size;simpa using this
  have hr:=λty=>Go.Lib.run_append_nil_zeros (P:=P) w T X ty e i zv k kn hT hX hi asX m (by omega) (by rw[aCC];exact hz) (by omega) (by rw[aVK];omega)
  obtain⟨cap,PE⟩:∃cap,grownCap w m 0 e=cap:=⟨_,rfl⟩;have c1:m<=cap:=by rw[<-PE];exact grownCap_ge _ _ _ _
  have c2:cap<=maxLen:=by rw[<-PE];exact grownCap_le_maxLen _ _ _ _ (by unfold maxLen;omega)
  rw[PE]at hr;obtain⟨cur,fk⟩:∃cur,Builtin.zeroCells zv.cells m++Builtin.zeroCells zv.cells (cap - m)=cur:=⟨_,rfl⟩;rw[fk]at hr;have s1:cur.size=cap*t.size:=by rw[<-fk,Array.size_append,Bm,Bm,aXS,<-eg];congr 1;omega
  have CC:=uk (aCL (s.env w.drew g β)) m;have s2:cur.toList.take (m*t.size)=(madeCells zv.cells (m*t.size)).toList:=by
   rw[<-fk,bS,ad5,aXS];have hl:(madeCells zv.cells (m*t.size)).toList.length=m*t.size:=by simp[size_madeCells]
   rw[iP (by omega),aW (by omega)]
  obtain⟨g2,β2,i2,U8⟩:=(h.drew).akC hq (e:=e) (l:=ab m t.zero) (cur:=cur) (cap:=cap) hz (by rw[b8,s2];exact CC) s1 (by rw[b8];exact c1) c2;rw[b8]at U8;refine jm ho (F:=λty xs=>Builtin.append_ #[T,X] ty xs) (λty cs xs=>rfl) (λty=> ?_) ⟨g2,β2,i2.put o.dst U8⟩;rw[show(#[x,y].map a.eval)= #[a.eval x,a.eval y] by simp,ex,ey];exact hr ty
 ·simp only[au]at he
theorem ahZ:∀(xs:List Int) (a:Addr) (acc:ByteArray),(∀j x,xs[j]? =some x->w.cell? (a.add j)=some (.int .u8 x))->
  (loadBytes a acc xs.length).run P w= .ok ⟨acc.data++(xs.map λn=>eZ n.toNat).toArray⟩ w
 |[],a,acc,_=>by simp[loadBytes]
 |x::l,a,acc,h=>by
  have h0:w.cell? a=some (.int .u8 x):=by have:=h 0 x rfl;simpa[Addr.add]using this
  have ih:=ahZ l (a.add 1) (acc.push x.toNat.toUInt8) (λj y hy=>by
   have:=h (j+1) y (by simpa using hy);have e:(a.add 1).add j=a.add (j+1):=by
    unfold Addr.add;by_cases hj:j=0
    ·subst hj;simp
    ·simp[hj];omega
   rw[e];exact this)
  simp only[az,loadBytes,Sem.run_bind,run_load,h0,Result.andThen];rw[ih];congr 1;apply ByteArray.ext;simp[ByteArray.push]
theorem aFw(h:Inv C g β s a w){c:Call}{x y:Operand}{T U:TypeId}{id:Id}{ver:Nat}{n:Int}(ho:o.op= .call c)(hc:c.callee= .builtin .unsafeString)(ha:c.args.toList=[x,y])(ht:c.argTypes.toList=[T,U])
  (hx:s.ev x= .ptr id ver [.idx 0] 0) (hy:s.ev y= .d (.int .i64) n) {s':AS} (he:(asb P s o.dst T id ver n).eval=some s'):fy P o a w (ia C s'):=by
 rw[ax1 hc ha,aXe ht]at ho;have ZU:=h.ev x;rw[hx]at ZU;obtain⟨ad,aYy,_,bdB⟩:=vo ZU;have aT2:=h.ev y;rw[hy]at aT2;have aYz:=vb aT2;unfold asb at he;split at he
 ·rename_i v e l u lK hT;obtain⟨h1,h2⟩:=aB.1 he;obtain⟨h3,h4⟩:=bM.1 h2;obtain rfl:=ax.1 h4;simp only[aq,dp]at h1;obtain⟨⟨rfl,rfl⟩,aVD⟩:=h1;simp only[ba]at h3;obtain⟨h5,h6⟩:=h3;obtain⟨n,rfl⟩:=Int.eq_ofNat_of_zero_le (Int.le_of_lt h5);have h6:n<=(l:List Int).length:=by omega
  have cM:=dX lK;obtain⟨pl,hp,rfl⟩:=bdB ⟨false,_,cM⟩;have hp:β id=some pl:=hp;have hO:wQ (s.env w g β) id false (.vec u (.int .u8) l):=h.bI id v false _ cM;obtain⟨hz,hO⟩:=hO;have hO:(match β id with
   |none=>l=[]
   |some pl=>∃cur k,w.heap[pl.b]? =some (.cells cur u (0,0))/\cur.size=pl.cap*(Ty.int .u8).size/\(l:List Int).length<=pl.cap/\pl.cap<=maxLen/\g pl.b= .own (.id id) k/\
     k<=(l:List Int).length*(Ty.int .u8).size/\(false=false->k=0)/\bz (cW (s.env w g β) (.int .u8)) (cur.toList.take ((l:List Int).length*(Ty.int .u8).size)) l):=hO
  rw[hp]at hO;obtain⟨cur,k,q1,q2,q3,q4,q5,q6,q7,q8⟩:=hO;have hk:=q7 rfl;subst hk;have aVQ:(Ty.int .u8).size=1:=rfl;rw[aVQ,gD]at q2 q8;have U9:=wW q8;have aJP:w.shape? pl.b=some (u,cur.size):=by simp only[World.shape?,q1]
  have Dw:∀j z,((l:List Int).take n)[j]? =some z->w.cell? ((⟨pl.b,0,none⟩:Addr).add j)=some (.int .u8 z):=λj z hj=>by
   rw[cZ]at hj;split at hj
   ·rename_i bcQ;have aVM:j < (l:List Int).length:=by omega
    rw[Addr.add_lit,aJ];simp only[World.cell?,q1];have:(cur.toList.take (l:List Int).length)[j]? =some (.int .u8 z):=by rw[U9,dY,hj];rfl
    rw[cZ,if_pos aVM]at this;simpa using this
   ·cases hj
  have hlen:((l:List Int).take n).length=n:=by rw[bq];omega
  have aOR:=ahZ (P:=P) (w:=w) ((l:List Int).take n) ⟨pl.b,0,none⟩ .empty Dw;rw[hlen]at aOR;have aYX:=Go.Lib.liesAt_bytes (P:=P) (e:=u) (by simpa using aVD) (cur.size / P.cellsOf u) n (by
   rw[show P.cellsOf u=1 by simpa using aVD,Nat.div_one];omega)
  have aYO:∃w',w.freeze ⟨pl.b,0,none⟩ n=w'/\w'.os=w.os/\w'.tape=w.tape/\(w'.output=w.output/\w.drawn<=w'.drawn)/\w'.heap.size=w.heap.size/\∀b',b'≠pl.b->w'.heap[b']? =w.heap[b']? :=by refine⟨_,rfl,?_⟩;unfold World.freeze;rw[if_neg (by omega)];refine⟨rfl,rfl,⟨rfl,aw _⟩,by simp,λb' hb'=> ?_⟩;simp only[gh];rw[if_neg (λe=>hb' e.symm)]
  obtain⟨w',hw',f1,f2,f3,f4,f5⟩:=aYO;have i1:=h.kill cM q5 f1 f2 f3 f4 f5;have bcC:¬(9223372036854775807:Int) < (n:Int):=by unfold maxLen at q4;omega
  have bbf:¬(n:Int) < 0:=by omega
  have aQQ:n≠0:=by omega
  have bbb:IntKind.i64.max=9223372036854775807:=rfl;refine jm ho (F:=λty xs=>Builtin.unsafeString_ #[T,U] ty xs) (λty cs xs=>rfl) (x:= .string (fh ((l:List Int).take n))) (w':=w') (λty=> ?_) ⟨_,β,i1.put o.dst ⟨[.string (fh ((l:List Int).take n))],by simp only[V,cW];rfl,rfl⟩⟩;rw[show(#[x,y].map a.eval)= #[a.eval x,a.eval y] by simp,aYy,aYz]
  have aVE:Builtin.unsafeString_ #[T,U] ty #[.pointer (some ⟨pl.b,0,none⟩),.int .i64 n]=
    (do
     let n <-Go.asInt (.int .i64 n)
     if n < 0 then runtimePanic (.error "unsafe.String: len out of range")
     if n > IntKind.i64.max then unsupported (.unsafePointer "String: a length above the largest int")
     if n=0 then pure (.string .empty)
     else if <-variablesAt ⟨pl.b,0,none⟩ (<-elemOf T) n.toNat then do
      let s <-loadBytes ⟨pl.b,0,none⟩ .empty n.toNat
      freeze ⟨pl.b,0,none⟩ n.toNat
      pure (.string s)
     else unsupported (.unsafePointer "String: not so many bytes at ptr")):=rfl
  rw[aVE];simp[Go.asInt,asIntOf,bbb,bcC,bbf,aQQ,variablesAt,aJP,elemOf,run_underlying hT,aYX,aOR,hw',fh]
 ·simp only[au]at he
end
end Go.Ab
namespace Go.Ab
section
variable {P:Program} {C:Ctx} {g:Nat->lS} {β:Id->Option Pl} {s:AS} {a:Act} {w:World} {o:Oper}
theorem apE(h:Inv C g β s a w){c:Call}{T T2:TypeId}{m k:Operand}(db:o.op= .call c)(hc:c.callee= .builtin .delete)(ha:c.args.toList=[m,k])(ht:c.argTypes.toList=[T,T2]){s':AS}(he:(E2 P s T (s.ev m) (s.ev k)).eval=some s'):fy P o a w (ia C (s'.put o.dst .nil)):=by
 have db:o.op= .call {callee:= .builtin .delete,args:= #[m,k],argTypes:= #[T,T2]}:=by rw[db,ax1 hc ha,aXe ht]
 unfold E2 at he;split at he
 ·rename_i K V' kt vt id ver hm hx;obtain⟨l,h1,he⟩:=av.1 he;obtain⟨kx,h2,he⟩:=av.1 he;obtain⟨aVX,he⟩:=aB.1 he;obtain rfl:=ax.1 he;obtain⟨hT,hK,_⟩:=BX hm;have ZU:=h.ev m;rw[hx]at ZU;obtain⟨fr,pl,es,clock,g1,g2,g3,g4,g5,g6,g7,gn⟩:=yY h h1 ZU;obtain⟨l0,g6,gp⟩:=g6;have K7:=Ar depth K kt hK;have hk:=Fe (h.ev k) h2;have aTQ:=oC (P:=P) (w:=w) es.isEmpty depth K kt hK 10000 (by decide) _ _ hk;obtain⟨r,hf,hr⟩:=M6 (P:=P) (w:=w) hK hk g6
  have fin:∀(es':Array MapEntry) (clock':Nat),(∀ty,(Builtin.delete_ #[T,T2] ty (#[m,k].map a.eval)).run P w= .ok (.tuple #[]) {w with heap:=w.heap.setIfInBounds pl.b (.map es' clock')})->Alike (Ec (s.env w g β) kt vt) es'.toList (fR kt kx l0)->oh es'.toList clock'->
    fy P o a w (ia C ((s.bg id (.obj ver false (.mp kt vt (fR kt kx l)))).put o.dst .nil)):=λes' clock' pT aJD aYB=>
   jm (F:=λty xs=>Builtin.delete_ #[T,T2] ty xs) db (λ_ _ _=>rfl) pT ⟨g,β,(h.aM3 g1 g2 g4 g5 ⟨_,aJD,aaz K7 gn gp⟩ (BY K7 gn) aYB aVX).put o.dst rfl⟩
  cases r with
  |none=>
   simp only at hr;refine fin es clock (λty=> ?_) (by simp only[fR,hr];exact g6) g7;simp[Builtin.delete_,run_underlying hT,g3,Go.MapKept.run_getObj_map g4,aTQ,hf,Go.MapKept.run_setObj_map _ g4]
  |some u=>
   obtain⟨j,u⟩:=u;obtain⟨e,m1,m2,rfl⟩:=hr;refine fin (es.eraseIdxIfInBounds j) clock (λty=> ?_) ?_ (by rw[Array.toList_eraseIdxIfInBounds];exact g7.erase j)
   ·simp[Builtin.delete_,run_underlying hT,g3,Go.MapKept.run_getObj_map g4,aTQ,hf,Go.MapKept.run_setObj_map _ g4]
   ·simp only[fR,m1,Array.toList_eraseIdxIfInBounds];exact g6.erase j
 ·simp only[au]at he
theorem amN{Γ:om}(hΓ:Sound P Γ){bI:List Nat}(h:Inv C g β s a w){s':AS}(he:(qB P Γ bI o s).eval=some s'):fy P o a w (ia C s'):=by
 unfold qB at he;split at he
 ·rename_i x db;obtain rfl:=ax.1 he;exact aha h (.inl db)
 ·rename_i x db;obtain rfl:=ax.1 he;exact aha h (.inr db)
 ·rename_i c x y db;obtain⟨v,h1,h2⟩:=av.1 he;obtain rfl:=ax.1 h2;exact aDO h db h1
 ·rename_i T db;split at he
  ·rename_i z q hz hq;obtain⟨h1,h2⟩:=aB.1 he;obtain rfl:=ax.1 h2;simp only[aq]at h1;exact ate h db h1.1 h1.2
  ·exact(au.1 he).elim
 ·rename_i T x db;exact aHs h db he
 ·rename_i T parts db;exact atM h db he
 ·rename_i T n parts db;exact WT h db he
 ·rename_i T x db;obtain⟨v,h1,h2⟩:=av.1 he;obtain rfl:=ax.1 h2;exact aC6 h db h1
 ·rename_i T x v db;obtain⟨v,h1,h2⟩:=av.1 he;obtain rfl:=ax.1 h2;exact axd h db h1
 ·rename_i x db;exact aeJ h db he
 ·rename_i op T x y U db;split at he
  ·rename_i i v1 j v2 hx hy;obtain⟨v,h1,h2⟩:=av.1 he;obtain rfl:=ax.1 h2;exact aJc h db hx hy h1
  ·obtain⟨v,h1,h2⟩:=av.1 he;obtain rfl:=ax.1 h2;exact att h db h1
 ·rename_i op T x db;obtain⟨v,h1,h2⟩:=av.1 he;obtain rfl:=ax.1 h2;exact aFW h db h1
 ·rename_i T U x db;split at he
  ·rename_i id ver len hTU hx;exact auc h db hx he
  ·rename_i id ver hx;obtain⟨v,h1,h2⟩:=av.1 he;obtain rfl:=ax.1 h2;exact aud h db hx h1
  ·obtain⟨v,h1,h2⟩:=av.1 he;obtain rfl:=ax.1 h2;exact ajl h db h1
 ·rename_i T x db;exact axn h db he
 ·rename_i f first caps db
  obtain⟨h1,h2⟩:=aB.1 he;obtain rfl:=ax.1 h2;simp only[aq]at h1;exact aeC h db h1.1 h1.2
 ·rename_i T l c db;obtain⟨n,h1,h2⟩:=av.1 he;obtain⟨m,h3,h4⟩:=av.1 h2;exact aat h db h1 h3 h4
 ·rename_i T x lo hi db;obtain⟨v,h1,h2⟩:=av.1 he;obtain rfl:=ax.1 h2;exact acK h db (.inl rfl) h1
 ·rename_i T x lo y m db;obtain⟨v',h0,h8⟩:=av.1 he;obtain rfl:=ax.1 h8;obtain⟨hv,h1,h2⟩:=av.1 h0;obtain⟨mv,h3,h4⟩:=av.1 h2;obtain⟨h5,h6⟩:=bM.1 h4;obtain⟨v,h7,h9⟩:=av.1 h6;obtain rfl:=ax.1 h9;simp only[ba]at h5;exact acK h db (.inr ⟨m,y,hv,mv,rfl,rfl,h1,h3,h5.1,h5.2.1,h5.2.2⟩) h7
 ·rename_i T x f db;obtain⟨v,h1,h2⟩:=av.1 he;obtain rfl:=ax.1 h2;exact ZC h db h1
 ·rename_i T x f db;obtain⟨v,h1,h2⟩:=av.1 he;obtain rfl:=ax.1 h2;exact auz h db h1
 ·rename_i T x i db;obtain⟨n,h0,he⟩:=av.1 he;obtain⟨v,h1,h2⟩:=av.1 he;obtain rfl:=ax.1 h2;exact ZY h db h0 h1
 ·rename_i T x i db;obtain⟨n,h0,he⟩:=av.1 he;obtain⟨v,h1,h2⟩:=av.1 he;obtain rfl:=ax.1 h2;exact auW h db h0 h1
 ·rename_i x i db;obtain⟨v,h1,h2⟩:=av.1 he;obtain rfl:=ax.1 h2;exact ajK h db h1
 ·rename_i T db;exact akx h db he
 ·rename_i T x i ok db;obtain⟨v,h1,h2⟩:=av.1 he;obtain rfl:=ax.1 h2;exact apw h db h1
 ·rename_i T m k x db;obtain⟨s1,h1,h2⟩:=av.1 he;obtain rfl:=ax.1 h2;exact apG h db h1
 ·rename_i c db;split at he
  ·rename_i hc;split at he
   ·rename_i m k T T2 ha ht;obtain⟨s1,h1,h2⟩:=av.1 he;obtain rfl:=ax.1 h2;exact apE h db hc ha ht h1
   ·exact(au.1 he).elim
  ·rename_i hc;split at he
   ·rename_i x y T X ha ht;exact aBL h db hc ha ht he
   ·exact(au.1 he).elim
  ·rename_i hc;split at he
   ·rename_i x T ha ht;obtain⟨v,h1,h2⟩:=av.1 he;obtain rfl:=ax.1 h2;exact aKy h db hc ha ht h1
   ·exact(au.1 he).elim
  ·rename_i hc;split at he
   ·rename_i x y T X ha ht;split at he
    ·rename_i k n hx hy;exact aCr h db hc ha ht hx hy he
    ·exact amQ h db hc ha ht he
   ·exact(au.1 he).elim
  ·rename_i hc;split at he
   ·rename_i x T ha ht;split at he
    ·rename_i e hx hT;obtain rfl:=ax.1 he;exact aHH h db hc ha ht hx hT
    ·exact(au.1 he).elim
   ·exact(au.1 he).elim
  ·rename_i hc;obtain⟨v,h1,h2⟩:=av.1 he;obtain rfl:=ax.1 h2;exact apH (mx:=true) h db hc h1
  ·rename_i hc;obtain⟨v,h1,h2⟩:=av.1 he;obtain rfl:=ax.1 h2;exact apH (mx:=false) h db hc h1
  ·rename_i hc;split at he
   ·rename_i x ha;split at he
    ·rename_i id ver len hx;obtain⟨h1,h2⟩:=bM.1 he;obtain rfl:=ax.1 h2;exact arS h db hc ha hx (by simpa using h1)
    ·exact(au.1 he).elim
   ·exact(au.1 he).elim
  ·rename_i hc;split at he
   ·rename_i x y T U ha ht;split at he
    ·rename_i id ver n hx hy;exact aFw h db hc ha ht hx hy he
    ·exact(au.1 he).elim
   ·exact(au.1 he).elim
  ·rename_i F hc;split at he
   ·rename_i f caps hF;split at he
    ·rename_i en auK;obtain⟨gv,he⟩:=aB.1 he;exact aBo h db hc hF ((hΓ f _ en auK).1 gv) he
    ·exact(au.1 he).elim
   ·exact(au.1 he).elim
  ·exact(au.1 he).elim
 ·exact(au.1 he).elim
end
end Go.Ab
namespace Go.Ab
def qL(P:Program)(ops:Array Oper)(o:Oper)(a:Act)(w:World)(K:Act->World->Prop):Prop:=if Region.wanted o (yielded ops a.tmps) then fy P o a w K else K (a.put o.dst undef) w
theorem qL.mono{P:Program}{ops:Array Oper}{o:Oper}{a:Act}{w:World}{K K':Act->World->Prop}(h:qL P ops o a w K)(hk:∀a w,K a w->K' a w):qL P ops o a w K':=by
 unfold qL at*;split
 ·rename_i hw;rw[if_pos hw]at h;exact h.mono hk
 ·rename_i hw;rw[if_neg hw]at h;exact hk _ _ h
theorem fy.some{P:Program}{o:Oper}{a:Act}{w:World}{K:Act->World->Prop}(h:fy P o a w K):∃a' w',K a' w':=by
 rcases h with⟨x,w',_,h⟩ | ⟨w',_,h⟩ | ⟨f,args,w',_,h⟩ | ⟨l,f,tmps,as,b,w',_,h⟩
 ·exact⟨_,_,h⟩
 ·exact⟨_,_,h⟩
 ·obtain⟨e,w'',_,⟨x,_,hx⟩,_⟩:=h [];exact⟨_,_,hx⟩
 ·obtain⟨e,w'',⟨x,_,hx⟩,_⟩:=(h none 0).2 default [] (room_wide _);exact⟨_,_,hx⟩
theorem qL.some{P:Program}{ops:Array Oper}{o:Oper}{a:Act}{w:World}{K:Act->World->Prop}(h:qL P ops o a w K):∃a' w',K a' w':=by
 unfold qL at h;split at h
 ·exact h.some
 ·exact⟨_,_,h⟩
theorem qL.wpListIn{r:Option Nat}{n:Nat}{P:Program}{ops:Array Oper}{o:Oper}{a:Act}{w:World}{Q:Exit->Act->World->Prop}{l:List Oper}(h:qL P ops o a w (wpListIn (Fr r) n P ops Q l)):Go.wpListIn (Fr r) n P ops Q (o::l) a w:=by
 unfold qL at h;unfold Go.wpListIn;split
 ·rename_i hw;rw[if_pos hw]at h;exact h.wpIn
 ·rename_i hw;rw[if_neg hw]at h;exact⟨λ_ _=>trivial,h⟩
theorem qL.wpOpIn{r:Option Nat}{n:Nat}{P:Program}{ops:Array Oper}{o:Oper}{i:Nat}{a:Act}{w:World}{Q:Exit->Act->World->Prop}{K:Act->World->Prop}(ho:ops[i]? =Option.some o)(h:qL P ops o a w K):Go.wpOpIn (Fr r) n P ops Q i K a w:=by
 unfold qL at h;unfold Go.wpOpIn;simp only[ho];split
 ·rename_i hw;rw[if_pos hw]at h;exact h.wpIn
 ·rename_i hw;rw[if_neg hw]at h;exact⟨λ_ _=>trivial,h⟩
theorem aLT{s:AS}{q:Nat}{v:aA}(h:s.slot q=v)(hq:q < s.cg.length):s.put (some q) v=s:=by
 have hv:s.cg[q]=v:=by simpa[AS.slot,aD,hq]using h
 simp only[AS.put];rw[<-hv,gj]
theorem az4{s:AS}{q:Nat}{t:Ty}{x:t.den}(h:s.slot q= .d t x):q < s.cg.length:=by
 rcases pM q s.cg.length with h' | h'
 ·exact h'
 ·simp[AS.slot,aD,dD h']at h
def Kh(P:Program)(Γ:om)(bI:List Nat)(ops:Array Oper)(o:Oper)(s:AS):Option AS:=
 match o.guard with
 |none=>(qB P Γ bI o s).eval
 |some (j,want)=>match(ops[j]?).bind (·.dst) with
  |some q=>match s.slot q with
   | .d .bool b=>if b=want then(qB P Γ bI o s).eval else some (s.put o.dst .nil)
   | .nil=>some (s.put o.dst .nil)
   |_=>none
  |none=>none
theorem aoM{R:Type}{P:Program}{Γ:om}{bI:List Nat}{ops:Array Oper}{o:Oper}{s:AS}{k:AS->Option R}{r:R}(h:aQI P Γ bI ops o s k=some r):∃s',Kh P Γ bI ops o s=some s'/\k s'=some r:=by
 unfold aQI at h;unfold Kh;split at h
 ·rename_i hg;simp only[hg];exact hZ.1 h
 ·rename_i j want hg;simp only[hg];split at h
  ·rename_i q hq;simp only[hq];split at h
   ·rename_i b hb;have e:=aLT hb (az4 hb);simp only[hb];cases want <;> cases b <;> simp only[aG]at h <;> rw[e]at h
    ·obtain⟨s',h1,h2⟩:=hZ.1 h;exact⟨s',by simpa using h1,h2⟩
    ·exact⟨_,by simp,h⟩
    ·exact⟨_,by simp,h⟩
    ·obtain⟨s',h1,h2⟩:=hZ.1 h;exact⟨s',by simpa using h1,h2⟩
   ·rename_i hb;simp only[hb];exact⟨_,rfl,h⟩
   ·cases h
  ·cases h
section
variable {P:Program} {C:Ctx} {g:Nat->lS} {β:Id->Option Pl} {s:AS} {a:Act} {w:World} {o:Oper}
theorem axT(h:Inv C g β s a w){ops:Array Oper}{j q:Nat}{b:Bool}(hq:(ops[j]?).bind (·.dst)=some q)(hb:s.slot q= .d .bool b):yielded ops a.tmps j=some b:=by
 have hv:=h.cg q;rw[hb]at hv;have hv:=Xy hv;have hl:=az4 hb;rw[<-h.size]at hl;unfold yielded;rw[hq,Option.bind_some];have:a.tmps[q]? =some (.bool b):=by rw[fb hl];simpa[Array.getD,hl]using hv
 rw[this]
theorem asP(h:Inv C g β s a w){ops:Array Oper}{j q:Nat}(hq:(ops[j]?).bind (·.dst)=some q)(hb:s.slot q= .nil):yielded ops a.tmps j=none:=by
 have hv:=h.cg q;rw[hb]at hv;have hv:a.tmps.getD q undef= .tuple #[]:=hv;unfold yielded;rw[hq,Option.bind_some];split
 ·rename_i b hb;rw[cF,hb]at hv;cases hv
 ·rfl
theorem agN{Γ:om}(hΓ:Sound P Γ){bI:List Nat}{ops:Array Oper}(h:ia C s a w){s':AS}(he:Kh P Γ bI ops o s=some s'):qL P ops o a w (ia C s'):=by
 obtain⟨g,β,h⟩:=h;unfold Kh at he;unfold qL;split at he
 ·rename_i hg;have:Region.wanted o (yielded ops a.tmps)=true:=by simp[Region.wanted,hg]
  rw[if_pos this];exact amN hΓ h he
 ·rename_i j want hg;split at he
  ·rename_i q hq;split at he
   ·rename_i b hb;have hy:=axT h hq hb;have hw:Region.wanted o (yielded ops a.tmps)=(b==want):=by simp[Region.wanted,hg,hy]
    rw[hw];by_cases e:b=want
    ·rw[if_pos e]at he;rw[if_pos (by simp[e])];exact amN hΓ h he
    ·rw[if_neg e]at he;rw[if_neg (by simp[e])];simp only[ay]at he;subst he;exact⟨g,β,h.put o.dst rfl⟩
   ·rename_i hb;have hy:=asP h hq hb;have hw:Region.wanted o (yielded ops a.tmps)=false:=by simp[Region.wanted,hg,hy]
    rw[hw,if_neg (by simp)];simp only[ay]at he;subst he;exact⟨g,β,h.put o.dst rfl⟩
   ·cases he
  ·cases he
theorem aE2{R:Type}{c c':uZ}{x:Option R}{r:R}(h:same c c' x=some r):c=c'/\x=some r:=by
 unfold same at h;split at h
 ·exact⟨‹_›,h⟩
 ·cases h
theorem azo{R:Type}{x y:Option R}{r:R}(h:nd x y=some r):x=some r/\y=some r:=by
 unfold nd at h;split at h
 ·rename_i e;exact⟨h,e▸h⟩
 ·cases h
theorem avu(h:Inv C g β s a w){x y:Operand}{n:Nat}(hn:aa1 s x y=some n){T:TypeId}(hT:Bo.isSl P T=true):∃b,(0 < n->b=false)/\(Op.equal T (a.eval x) (a.eval y)).run P w= .ok b w/\
  sa (a.eval x)=false/\a.eval x≠ .nilIface/\∀op,binOp op T (a.eval x) (a.eval y)=(match op with | .eql=>do pure (.bool (<-Op.equal T (a.eval x) (a.eval y))) | .neq=>do pure (.bool (!(<-Op.equal T (a.eval x) (a.eval y)))) | _=>binOp op T (a.eval x) (a.eval y)):=by
 have hx:=h.ev x;have hy:=h.ev y;unfold Bo.isSl at hT;split at hT <;> try (cases hT;done)
 rename_i e hU;unfold aa1 at hn;split at hn
 ·rename_i t l h1 h2;rw[h1]at hx;rw[h2]at hy;obtain⟨ad,cap,vs,hv,_,hs,_⟩:=uq hx;have U8:=kU hy;rw[hv,U8];refine⟨ad.isNone,λhp=> ?_,?_,rfl,by simp,λop=>by cases op <;> rfl⟩
  ·obtain rfl:=bk hn;obtain⟨ad',rfl⟩:=bP.1 (hs hp);rfl
  ·cases ad with
   |none=>exact ff λd=>by simp[Op.equalIn,run_underlying hU]
   |some ad=>exact ff λd=>by simp[Op.equalIn,run_underlying hU]
 ·rename_i t l h1 h2;rw[h1]at hx;rw[h2]at hy;obtain⟨ad,cap,vs,hv,_,hs,_⟩:=uq hy;have U8:=kU hx;rw[hv,U8];refine⟨ad.isNone,λhp=> ?_,?_,rfl,by simp,λop=>by cases op <;> rfl⟩
  ·obtain rfl:=bk hn;obtain⟨ad',rfl⟩:=bP.1 (hs hp);rfl
  ·exact ff λd=>by simp[Op.equalIn,run_underlying hU]
 ·rename_i id ver pp c i len h1 h2;rw[h1]at hx;rw[h2]at hy;obtain⟨ad,cap,hv,_,hs,_⟩:=rJ hx;have U8:=kU hy;rw[hv,U8];refine⟨ad.isNone,λhp=> ?_,?_,rfl,by simp,λop=>by cases op <;> rfl⟩
  ·obtain rfl:=bk hn;obtain⟨ad',rfl⟩:=bP.1 (hs hp);rfl
  ·cases ad with
   |none=>exact ff λd=>by simp[Op.equalIn,run_underlying hU]
   |some ad=>exact ff λd=>by simp[Op.equalIn,run_underlying hU]
 ·rename_i id ver pp c i len h1 h2;rw[h1]at hx;rw[h2]at hy;obtain⟨ad,cap,hv,_,hs,_⟩:=rJ hy;have U8:=kU hx;rw[hv,U8];refine⟨ad.isNone,λhp=> ?_,?_,rfl,by simp,λop=>by cases op <;> rfl⟩
  ·obtain rfl:=bk hn;obtain⟨ad',rfl⟩:=bP.1 (hs hp);rfl
  ·exact ff λd=>by simp[Op.equalIn,run_underlying hU]
 ·cases hn
theorem Qi(h:Inv C g β s a w){x y:Operand}{n:Nat}{T U:TypeId}(hn:aa1 s x y=some n)(hT:Bo.isSl P T=true):
  (o.op= .binOp .eql T x y U->∃b,(0 < n->b=false)/\fy P o a w (ia C (s.put o.dst (.d .bool b))))/\(o.op= .binOp .neq T x y U->∃b,(0 < n->b=true)/\fy P o a w (ia C (s.put o.dst (.d .bool b)))):=by
 obtain⟨b,h1,h2,h3,h4,h5⟩:=avu (w:=w) h hn hT;have hg:∀op,(eqGuard op T x y (a.eval x) (a.eval y)).run P w= .ok () w:=λop=>nJ h4 h3
 refine⟨λho=>⟨b,h1,h.value (vM b) ?_⟩,λho=>⟨!b,λhp=>by rw[h1 hp];rfl,h.value (vM (!b)) ?_⟩⟩
 ·have h6:(binOp .eql T (a.eval x) (a.eval y)).run P w= .ok (.bool b) w:=by rw[h5 .eql];simp[h2]
  simp[execOp,ho,hg,h6]
 ·have h6:(binOp .neq T (a.eval x) (a.eval y)).run P w= .ok (.bool (!b)) w:=by rw[h5 .neq];simp[h2]
  simp[execOp,ho,hg,h6]
theorem Q4{R:Type}{c:Bool}{x y:Option R}{r:R}(h:aG c x y=some r):(c=true/\x=some r)\/(c=false/\y=some r):=by
 cases c
 ·exact .inr ⟨rfl,h⟩
 ·exact .inl ⟨rfl,h⟩
theorem aI0{R:Type}{n:Nat}{k:Nat->Option R}{r:R}(h:aIY n k=some r):0 < n/\∀j,j < n->k j=some r:=by
 unfold aIY at h;split at h
 ·rename_i hx;obtain rfl:=bk h;exact hx.choose_spec
 ·cases h
theorem aIZ{R:Type}{n:Nat}{k:Nat->Option R}{x:Option R}(hn:0 < n)(h:∀j,j < n->k j=x):aIY n k=x:=by
 unfold aIY;cases x with
 |none=>exact BH λ⟨r,_,hr⟩=>by have:=h 0 hn;rw[hr 0 hn]at this;cases this
 |some r=>
  have hx:∃r,0 < n/\∀j,j < n->k j=some r:=⟨r,hn,h⟩;rw[yD hx];have:=hx.choose_spec.2 0 hn;rw[h 0 hn]at this;exact this.symm
theorem afD{s:AS}{id:Id}{e:dB}{q:Nat}(hq:s.dV q=true)(gg:s.bQ id≠none):(s.bg id e).dV q=true:=by
 cases id with
 |bh k=>exact hq
 |new i j=>
  by_cases hi:i=q
  ·subst hi;exact absurd ((ka hq).1 j) gg
  ·unfold AS.dV AS.bg;simp only[dW hi];exact hq
theorem Alike.len{α β:Type}{R:α->β->Prop}:∀ {xs:List α} {ys:List β},Alike R xs ys->xs.length=ys.length
 |[],[],_=>rfl
 |_::_,_::_,⟨_,h⟩=>by simp[h.len]
 |[],_::_,h=>h.elim
 |_::_,[],h=>h.elim
theorem avJ{α:Type}:∀ {xs ys:List α} {i j:Nat} {x:α},xs.Perm ys->xs[i]? =some x->ys[j]? =some x->(xs.eraseIdx i).Perm (ys.eraseIdx j):=by
 have key:∀ {xs:List α} {i:Nat} {x:α},xs[i]? =some x->xs.Perm (x::xs.eraseIdx i):=by
  intro xs
  induction xs with
  |nil=>intro i x h;simp at h
  |cons y xs ih=>
   intro i x h;cases i with
   |zero=>simp at h;subst h;exact gU _
   |succ i=>
    have h:xs[i]? =some x:=by simpa using h
    exact((ih h).cons y).trans (List.Perm.swap x y _)
 intro xs ys i j x hp hi hj;exact((key hi).symm.trans (hp.trans (key hj))).cons_inv
theorem awf(h:Inv C g β s a w){T:TypeId}{m:Operand}(db:o.op= .range T m){s':AS}(he:(awe P s o.dst T (s.ev m)).eval=some s'):fy P o a w (ia C s'):=by
 unfold awe at he;split at he
 ·rename_i K V' kt vt id ver q hm hx hd;obtain⟨l,h1,he⟩:=av.1 he;obtain⟨hq,he⟩:=aB.1 he;obtain rfl:=ax.1 he;rw[aq]at hq;obtain⟨hT,_,_⟩:=BX hm;have ZU:=h.ev m;rw[hx]at ZU;obtain⟨fr,pl,es,clock,g1,g2,g3,g4,g5,g6,g7,gn⟩:=yY h h1 ZU;obtain rfl:=Js g1 hq.1;have gg:s.bQ id≠none:=by rw[g1];simp
  have bbw:=Trans.refl w g;have auN:cJ (s.env w g β) ((s.bg id (.obj ver true (.mp kt vt l))).env w g β):=cJ.bg g1 (aw _) bbw (λ_ _=>rfl) (λ_=>rfl)
  have i0:Inv C g β (s.bg id (.obj ver true (.mp kt vt l))) a w:=
   h.step (da _ _ _) bbw auN (iG.bg h.bI gg auN (λ_ _=>rfl) (λ_ _ _ _ _ _ _ _=>⟨rfl,rfl⟩) ⟨pl,es,clock,g2,g4,g5,⟨g6.mono auN.mem,gn⟩,g7⟩ (P4 g1))
  have cM:=eC s id (.obj ver true (.mp kt vt l)) gg;have hq':=afD (e:= .obj ver true (.mp kt vt l)) hq.2 gg;generalize beO:s.bg id (.obj ver true (.mp kt vt l))=s0 at i0 cM hq' auN;have GR:∀j,id≠ .new q j:=λj e=>by rw[e,(ka hq').1 j]at cM;cases cM
  have gv:pl.b < w.heap.size:=(bK.1 g4).1;have ht:=Trans.alloc w g (.mapIter (some pl.b) clock #[] clock) (.own (.id (.new q 0)) 0);obtain⟨h3,h4⟩:=i0.Sr hq' (c:= .sH id (ver+1) kt vt l none) (p:=some ⟨w.heap.size,0⟩) ht (λb hb=>⟨qM w _ hb,fi _ _ _ (by omega)⟩) (λhE=>
   ⟨⟨w.heap.size,0⟩,pl.b,clock,#[],clock,jO _ _ _,tt w _,fv _ _ _,λvr asV=>by
    obtain rfl:ver=vr:=by omega
    have hb:(s0.env w g β).F4 id ver:=⟨by show s0.bQ id≠none;rw[cM];simp,λv2 fr2 c2 h2=>by
     have h2:s0.bQ id=some (.obj v2 fr2 c2):=h2;rw[cM]at h2;simp only[ay,dB.obj.injEq]at h2;omega⟩
    refine⟨hE.F4 _ _ hb,λ_=>⟨⟨kt,vt,l,?_⟩,pl,es,clock,?_,rfl,?_,?_,λx hx=>g7.2 x hx,⟨aw _,aw _⟩,g7.1,?_,λx hx=>by cases hx⟩⟩
    ·show(s0.born q _).bQ id=_;rw[iS _ GR];exact cM
    ·show Jt β (.new q 0) _ id=_;rw[Bb _ _ _ (GR 0)];exact g2
    ·exact(qM w _ gv).trans g4
    ·show ni g w.heap.size _ pl.b=_;rw[fi _ _ _ (by omega)];exact g5
    ·have:es.toList.filter (λe=> !(#[]:Array Nat).contains e.born)=es.toList:=jg.2 λx _=>by simp
     rw[this];exact(g6.mono auN.mem).mono hE.mem⟩)
  refine .inl ⟨.pointer (some ⟨w.heap.size,0,none⟩),w.alloc (.mapIter (some pl.b) clock #[] clock),?_,_,_,h3.put o.dst (v:= .ptr (.new q 0) 0 [] 0) ⟨[.pointer (some ⟨w.heap.size,0,none⟩)],?_,rfl⟩⟩
  ·refine dR (f:=Instr.range T (a.eval m)) (by simp only[execOp,db]) ?_
   rw[g3];exact run_range_map w T K V' pl.b es clock hT g4
  ·simp only[V];exact⟨_,rfl,pS hq' _ _ _ _,λ_=>⟨_,jO _ _ _,rfl⟩⟩
 ·simp only[au]at he
theorem aaa(h:Inv C g β s a w){x:Operand}{t:aAA}(ht:s.aKh (s.ev x)=some t):
  s.bQ t.i=some (.obj t.v t.fr (.sH t.q (t.vr+1) t.kt t.vt t.rest t.cur))/\(∃k v l,s.bQ t.q=some (.obj t.vr true (.mp k v l)))/\
  ∃pl plq since seen c0 es clock,a.eval x= .pointer (some ⟨pl.b,0,none⟩)/\β t.i=some pl/\w.heap[pl.b]? =some (.mapIter (some plq.b) since seen c0)/\g pl.b= .own (.id t.i) 0/\
   β t.q=some plq/\w.heap[plq.b]? =some (.map es clock)/\g plq.b= .own (.id t.q) 0/\(∀x∈es.toList,x.born < since)/\(since<=c0/\since<=clock)/\(es.toList.map (·.born)).Nodup/\
   aiA (s.env w g β) t.kt t.vt (es.toList.filter λe=> !seen.contains e.born) t.rest/\
   ∀x,t.cur=some x->∃(e:MapEntry) (seen':Array Nat),e∈es.toList/\seen=seen'.push e.born/\c0=clock/\Ec (s.env w g β) t.kt t.vt e x:=by
 have ZU:=h.ev x;generalize s.ev x=y at ht ZU;unfold AS.aKh at ht;split at ht
 ·rename_i i ver;split at ht
  ·rename_i v fr q vr kt vt rest cur lK;split at ht
   ·rename_i hv hl;obtain rfl:=bk ht;have hv:v=ver:=by simpa using hv
    subst hv;have cM:=dX lK;unfold AS.apt at hl;split at hl
    ·rename_i v2 k2 t2 l2 bbj;have hl:v2=vr:=by simpa using hl
     subst hl;have hq:=dX bbj;refine⟨cM,⟨_,_,_,hq⟩,?_⟩;obtain⟨pl,mb,since,seen,c0,h1,h2,h3,h4⟩:=h.bI i v fr _ cM;obtain⟨h5,h6⟩:=h4 v2 rfl;obtain⟨_,plq,es,clock,k1,k2,k3,k4,k5,k6,k7,k8,k9⟩:=h6 ⟨_,_,hq⟩;subst k2;obtain⟨ad,m1,m2,m3⟩:=vo ZU;obtain⟨pl',m4,rfl⟩:=m3 ⟨_,_,cM⟩;have h1:β i=some pl:=h1;have m4:β i=some pl':=m4;rw[h1]at m4;obtain rfl:pl=pl':=by simpa using m4
     exact⟨pl,plq,since,seen,c0,es,clock,m1,h1,h2,h3,k1,k3,k4,k5,k6,k7,k8,k9⟩
    ·cases hl
   ·cases ht
  ·cases ht
 ·cases ht
theorem Ec.beA{E:Env}{kt vt:Ty}{e:MapEntry}{x:kt.den×vt.den}(h:Ec E kt vt e x):VS E (.cons (.d kt x.1) (.cons (.d vt x.2) .nil)) (.tuple #[e.key,e.val]):=by obtain⟨⟨c1,a1,b1⟩,c2,a2,b2⟩:=h;refine⟨[e.key,e.val],rfl,?_⟩;simp only[VC];exact⟨_,_,c1,rfl,by simpa only[V]using a1,b1,_,_,c2,rfl,by simpa only[V]using a2,b2,rfl⟩
theorem Ec.beB{E:Env}{kt vt:Ty}{e:MapEntry}{x:kt.den×vt.den}(h:Ec E kt vt e x):VS E (.cons (.d .bool true) (.cons (.d kt x.1) (.cons (.d vt x.2) .nil))) (.tuple #[.bool true,e.key,e.val]):=by obtain⟨⟨c1,a1,b1⟩,c2,a2,b2⟩:=h;refine⟨[.bool true,e.key,e.val],rfl,?_⟩;simp only[VC];exact⟨_,_,[.bool true],rfl,by simp only[V,cW],rfl,_,_,c1,rfl,by simpa only[V]using a1,b1,_,_,c2,rfl,by simpa only[V]using a2,b2,rfl⟩
theorem auv(h:Inv C g β s a w){x:Operand}(db:o.op= .entry x){v:aA}(he:(auu s (s.ev x)).eval=some v):fy P o a w (ia C (s.put o.dst v)):=by
 unfold auu at he;split at he
 ·rename_i i v0 fr q vr kt vt rest c ht;obtain rfl:=ax.1 he;obtain⟨_,_,pl,plq,since,seen,c0,es,clock,m1,m2,m3,_,m5,m6,m7,_,_,m10,_,m12⟩:=aaa h ht;obtain⟨e,seen',n1,rfl,rfl,n4⟩:=m12 c rfl;refine h.value n4.beA (dR (f:=Instr.entry (a.eval x)) (by simp only[execOp,db]) ?_);rw[m1];exact run_entry_at w pl.b plq.b since seen' es _ e m3 m6 n1 m10
 ·simp only[au]at he
theorem heap_drew{w w1:World}(hw:w1=w\/w1=w.drew):w1.heap=w.heap/\w1.os=w.os/\w1.tape=w.tape/\(w1.output=w.output/\w.drawn<=w1.drawn):=by
 rcases hw with rfl | rfl
 ·exact⟨rfl,rfl,rfl,rfl,aw _⟩
 ·exact⟨rfl,rfl,rfl,rfl,oo _⟩
theorem Inv.aZx(h:Inv C g β s a w){i q:Id}{v vr:Nat}{fr:Bool}{kt vt:Ty}{rest:List (kt.den×vt.den)}{cur:Option (kt.den×vt.den)}(cM:s.bQ i=some (.obj v fr (.sH q (vr+1) kt vt rest cur)))
  {k2 v2:Ty} {l2:List (k2.den×v2.den)} (hq:s.bQ q=some (.obj vr true (.mp k2 v2 l2))) {pl plq:Pl} {m0:Option Nat} {since0 c00:Nat} {seen0:Array Nat} (hp:β i=some pl) (hb:w.heap[pl.b]? =some (.mapIter m0 since0 seen0 c00)) (hg:g pl.b= .own (.id i) 0)
  {w1:World} (hw:w1=w\/w1=w.drew) {es:Array MapEntry} {clock since c0:Nat} {seen:Array Nat} (bd4:β q=some plq) (aVB:w.heap[plq.b]? =some (.map es clock)) (bdL:g plq.b= .own (.id q) 0)
  (h1:∀x∈es.toList,x.born < since) (h2:since<=c0/\since<=clock) (h3:(es.toList.map (·.born)).Nodup) {rest':List (kt.den×vt.den)} {cur':Option (kt.den×vt.den)} (h4:aiA (s.env w g β) kt vt (es.toList.filter λe=> !seen.contains e.born) rest')
  (h5:∀x,cur'=some x->∃(e:MapEntry) (seen':Array Nat),e∈es.toList/\seen=seen'.push e.born/\c0=clock/\Ec (s.env w g β) kt vt e x):
  Inv C g β (s.bg i (.obj v fr (.sH q (vr+1) kt vt rest' cur'))) a (Go.ChangeMaps.setBlock w1 pl.b (.mapIter (some plq.b) since seen c0))/\
   tn (s.env w g β) ((s.bg i (.obj v fr (.sH q (vr+1) kt vt rest' cur'))).env (Go.ChangeMaps.setBlock w1 pl.b (.mapIter (some plq.b) since seen c0)) g β):=by
 obtain⟨d1,d2,d3,d4⟩:=heap_drew hw;have gv:pl.b < w.heap.size:=(bK.1 hb).1;have ayX:(Go.ChangeMaps.setBlock w1 pl.b (.mapIter (some plq.b) since seen c0)).heap=w.heap.setIfInBounds pl.b (.mapIter (some plq.b) since seen c0):=by show w1.heap.setIfInBounds _ _=_;rw[d1]
 have aTZ:(Go.ChangeMaps.setBlock w1 pl.b (.mapIter (some plq.b) since seen c0)).os=w.os/\(Go.ChangeMaps.setBlock w1 pl.b (.mapIter (some plq.b) since seen c0)).tape=w.tape/\((Go.ChangeMaps.setBlock w1 pl.b (.mapIter (some plq.b) since seen c0)).output=w.output/\w.drawn<=(Go.ChangeMaps.setBlock w1 pl.b (.mapIter (some plq.b) since seen c0)).drawn):=⟨d2,d3,d4⟩;generalize Go.ChangeMaps.setBlock w1 pl.b (.mapIter (some plq.b) since seen c0)=w' at ayX aTZ;have hother:∀b',b'≠pl.b->w'.heap[b']? =w.heap[b']? :=λb' gg=>by rw[ayX,dP,if_neg (λe=>gg e.symm)]
 have kQ:w'.heap[pl.b]? =some (.mapIter (some plq.b) since seen c0):=by rw[ayX,dP,if_pos rfl,if_pos gv]
 have ht:Trans w w' g g:=by
  refine⟨aTZ.1,aTZ.2.1,aTZ.2.2,by rw[ayX];simp,λb' _=> ?_⟩;by_cases he:b'=pl.b
  ·subst he;rw[hg];exact⟨.inr ⟨i,0,rfl,aw _⟩,λ_ _ hh=>by omega⟩
  ·rw[hother b' he];cases WX:g b' with
   |free=>exact⟨rfl,rfl⟩
   |own o' k=>cases o' with
    |dZ=>exact⟨rfl,rfl⟩
    |id i'=>exact⟨.inr ⟨i',k,rfl,aw _⟩,λoff v _ hv=>by simpa only[World.cell?,hother b' he]using hv⟩
 have hle:cJ (s.env w g β) ((s.bg i (.obj v fr (.sH q (vr+1) kt vt rest' cur'))).env w' g β):=cJ.bg cM (aw _) ht (λ_ _=>rfl) (λ_=>rfl);have aY5:q≠i:=λe=>by rw[e,cM]at hq;cases hq
 have bd3:plq.b≠pl.b:=λe=>by rw[e,hb]at aVB;cases aVB
 refine⟨h.step (da _ _ _) ht hle (iG.bg h.bI (by rw[cM];simp) hle (λ_ _=>rfl) (λi' ver' fr' c' pl2 hi ZS agT=>⟨hother _ (h.apart hg hi ZS agT),rfl⟩) ?_ (pY cM λ_ _ _ e=>by cases e)),hle.mem⟩;refine⟨pl,plq.b,since,seen,c0,hp,kQ,hg,λvr' asV=> ?_⟩;obtain rfl:vr=vr':=by omega
 have aoR:(s.env w g β).F4 q vr:=⟨by show s.bQ q≠none;rw[hq];simp,λv3 fr3 c3 h3=>by
  have h3:s.bQ q=some (.obj v3 fr3 c3):=h3;rw[hq]at h3;simp only[ay,dB.obj.injEq]at h3;omega⟩
 refine⟨hle.F4 _ _ aoR,λ_=>⟨⟨k2,v2,l2,?_⟩,plq,es,clock,bd4,rfl,(hother _ bd3).trans aVB,bdL,h1,h2,h3,h4.mono hle.mem,λx hx=> ?_⟩⟩
 ·show(s.bg i _).bQ q=_;rw[cQ s i q _ aY5];exact hq
 ·obtain⟨e,se,a1,a2,a3,a4⟩:=h5 x hx;exact⟨e,se,a1,a2,a3,a4.mono hle.mem⟩
theorem Inv.aT4(h:Inv C g β s a w){i q:Id}{v ver ver':Nat}{fr:Bool}{kt vt:Ty}{rest rest':List (kt.den×vt.den)}{cur cur':Option (kt.den×vt.den)}(cM:s.bQ i=some (.obj v fr (.sH q ver kt vt rest cur)))
  (hk:ver'=0\/(ver'=ver/\rest'=rest/\cur'=none)):Inv C g β (s.bg i (.obj v fr (.sH q ver' kt vt rest' cur'))) a w:=by
 have ht:=Trans.refl w g;have hle:cJ (s.env w g β) ((s.bg i (.obj v fr (.sH q ver' kt vt rest' cur'))).env w g β):=cJ.bg cM (aw _) ht (λ_ _=>rfl) (λ_=>rfl);refine h.step (da _ _ _) ht hle (iG.bg h.bI (by rw[cM];simp) hle (λ_ _=>rfl) (λ_ _ _ _ _ _ _ _=>⟨rfl,rfl⟩) ?_ (pY cM λ_ _ _ e=>by cases e));obtain⟨pl,mb,since,seen,c0,h1,h2,h3,h4⟩:=h.bI i v fr _ cM;refine⟨pl,mb,since,seen,c0,h1,h2,h3,λvr asV=> ?_⟩;rcases hk with hk | ⟨rfl,rfl,rfl⟩
 ·omega
 ·obtain⟨h5,h6⟩:=h4 vr asV;refine⟨hle.F4 _ _ h5,λhc=> ?_⟩;obtain⟨c1,_⟩:=hle.cur _ _ h5 hc;obtain⟨⟨k,v1,l,hq⟩,plq,es,clock,k1,k2,k3,k4,k5,k6,k7,k8,_⟩:=h6 c1;have aY5:q≠i:=λe=>by have hq:s.bQ q=_:=hq;rw[e,cM]at hq;cases hq
  exact⟨⟨k,v1,l,by show(s.bg i _).bQ q=_;rw[cQ s i q _ aY5];exact hq⟩,plq,es,clock,k1,k2,k3,k4,k5,k6,k7,k8.mono hle.mem,λx hx=>by cases hx⟩
theorem awg{s:AS}{q i:Id}{e:dB}(h:s.abZ q=false)(hi:s.bQ i=some e):e.aKi q=false:=by
 unfold AS.abZ at h;rw[Bool.or_eq_false_iff]at h;cases i with
 |bh k=>simpa using iZ.1 h.1 _ (cG hi)
 |new a b=>
  have hi:(s.news.getD a [])[b]? =some e:=hi
  by_cases ha:a < s.news.length
  ·have h2:(s.news.getD a []).any (dB.aKi q)=false:=by simpa using iZ.1 h.2 (s.news.getD a []) (by simp[aD,bO ha])
   simpa using iZ.1 h2 _ (cG hi)
  ·simp[aD,dD (Nat.le_of_not_lt ha)]at hi
theorem Inv.unlock(h:Inv C g β s a w){q:Id}{vr:Nat}{k v:Ty}{l:List (k.den×v.den)}(cM:s.bQ q=some (.obj vr true (.mp k v l)))(hr:s.abZ q=false):Inv C g β (s.bg q (.obj vr false (.mp k v l))) a w:=by
 have ht:=Trans.refl w g;have hle:cJ (s.env w g β) ((s.bg q (.obj vr false (.mp k v l))).env w g β):=cJ.bg cM (aw _) ht (λ_ _=>rfl) (λ_=>rfl);refine h.step (da _ _ _) ht hle λi ver fr c hi=> ?_
 have hi:(s.bg q (.obj vr false (.mp k v l))).bQ i=some (.obj ver fr c):=hi;by_cases bcO:i=q
 ·subst bcO;rw[eC s i _ (by rw[cM];simp)]at hi;simp only[ay,dB.obj.injEq]at hi;obtain⟨rfl,rfl,rfl⟩:=hi;obtain⟨pl,es,clock,h1,h2,h3,h4,h5⟩:=h.bI i vr true _ cM;exact⟨pl,es,clock,h1,h2,h3,⟨h4.1.mono hle.mem,h4.2⟩,h5⟩
 ·rw[cQ s q i _ bcO]at hi;refine(h.bI i ver fr c hi).aUc hle rfl (λ_ _=>⟨rfl,rfl⟩) λq2 v2 k2 v3 l2 hc SU _=>⟨⟨k2,v3,l2,?_⟩,λ_ _=>⟨rfl,rfl⟩⟩
  obtain⟨kt,vt,rest,cu,rfl⟩:=hc;have hn:=awg hr hi;have gg:q2≠q:=λe=>by simp[dB.aKi,e]at hn
  show(s.bg q _).bQ q2=_;rw[cQ s q q2 _ gg];exact SU
theorem au9{es:List MapEntry}{seen:Array Nat}(hn:(es.map (·.born)).Nodup){j:Nat}{e:MapEntry}(hj:(es.filter λe=> !seen.contains e.born)[j]? =some e):
  es.filter (λx=> !(seen.push e.born).contains x.born)=(es.filter λe=> !seen.contains e.born).eraseIdx j:=by
 have h1:es.filter (λx=> !(seen.push e.born).contains x.born)=(es.filter λe=> !seen.contains e.born).filter λx=>x.born !=e.born:=by
  rw[List.filter_filter];refine List.filter_congr λx _=> ?_
  rw[contains_push];cases seen.contains x.born <;> cases hb:x.born==e.born <;> simp[bne,hb]
 rw[h1];have aOS:((es.filter λe=> !seen.contains e.born).map (·.born)).Nodup:=hn.sublist (List.filter_sublist.map _);generalize es.filter (λe=> !seen.contains e.born)=L at hj aOS
 induction L generalizing j with
 |nil=>simp at hj
 |cons x L ih=>
  rw[bT,cY]at aOS;cases j with
  |zero=>
   simp only[fF,ay]at hj;subst hj;have:L.filter (λy=>y.born !=x.born)=L:=jg.2 λy hy=>by
    have:y.born≠x.born:=λe=>aOS.1 (e▸c9.2 ⟨y,hy,rfl⟩)
    simpa using this
   simp[this]
  |succ j=>
   have hj:L[j]? =some e:=by simpa using hj
   have hx:(x.born !=e.born)=true:=by
    have:x.born≠e.born:=λh=>aOS.1 (h▸c9.2 ⟨e,cG hj,rfl⟩)
    simpa using this
   rw[List.filter_cons,hx,List.eraseIdx_cons_succ];simp only[bG];rw[ih hj aOS.2]
theorem aDt(h:Inv C g β s a w){x:Operand}(db:o.op= .next x false){t:aAA}(ht:s.aKh (s.ev x)=some t){R:Type}{k:AS->Option R}{r:R}(he:aLb s o.dst t k=some r):
  fy P o a w λa' w'=>∃s',ia C s' a' w'/\k s'=some r:=by
 obtain⟨hi,⟨k2,v2,l2,hq⟩,pl,plq,since,seen,c0,es,clock,m1,m2,m3,m4,m5,m6,m7,m8,m9,m10,m11,_⟩:=aaa h ht;have hex:∀ {y:Value} {w':World},(Instr.next (a.eval x) false o.type).run P w= .ok y w'->(execOp a.eval o).run P w= .ok (.value y) w':=λhr=>
  dR (f:=Instr.next (a.eval x) false o.type) (by simp only[execOp,db]) hr
 have XI:(leftOf es seen).toList=es.toList.filter λe=> !seen.contains e.born:=by unfold leftOf;rw[Array.toList_filter]
 obtain⟨l',m11,aoU⟩:=m11;have hlen:=m11.len;rw[aoU.length_eq]at hlen;rw[<-XI,cH]at hlen;unfold aLb at he;rcases run_next_at (P:=P) w o.type pl.b plq.b since c0 seen es clock m3 m6 m8 m9.1 with⟨h0,pT⟩ | ⟨e,aXH,w1,hw,pT⟩
 ·rcases Q4 he with⟨hc,_⟩ | ⟨_,he⟩
  ·have:0 < t.rest.length:=by simpa using hc
   omega
  ·unfold AS.aRW at he;have i1:=h.aT4 (rest':=[]) (cur':=none) hi (.inl rfl);have aY5:t.q≠t.i:=λe=>by rw[e,hi]at hq;simp at hq
   have aXN:(s.bg t.i (.obj t.v t.fr (.sH t.q 0 t.kt t.vt [] none))).bQ t.q=some (.obj t.vr true (.mp k2 v2 l2)):=by rw[cQ s t.i t.q _ aY5];exact hq
   generalize s.bg t.i (.obj t.v t.fr (.sH t.q 0 t.kt t.vt [] none))=s1 at he i1 aXN;cases hr:s1.abZ t.q with
   |true=>rw[hr]at he;cases he
   |false=>
    rw[hr]at he;simp only at he;have bec:s1.unlock t.q=s1.bg t.q (.obj t.vr false (.mp k2 v2 l2)):=by simp only[AS.unlock,AS.obj,aXN]
    rw[bec]at he;rw[<-m1]at pT;refine .inl ⟨_,w,hex pT,_,⟨g,β,(i1.unlock aXN hr).put o.dst (v:= .cons (.d .bool false) .nil) ⟨[.bool false],rfl,?_⟩⟩,he⟩;simp only[VC];exact⟨_,_,[.bool false],rfl,by simp only[V,cW],rfl,rfl⟩
 ·rcases Q4 he with⟨hc,he⟩ | ⟨hc,_⟩
  ·obtain⟨_,hd⟩:=aI0 he;rw[XI]at aXH;obtain⟨i,aJI⟩:=List.getElem?_of_mem aXH;obtain⟨y,aZf,aXR⟩:=m11.get aJI;obtain⟨j,hj⟩:=List.getElem?_of_mem (aoU.mem_iff.1 (cG aZf));have aVM:j < t.rest.length:=(dC.1 hj).1;have hy:y4 t.kt t.vt t.rest j=y:=by simp[y4,aD,hj]
   have CC:e∈es.toList:=(nq.1 aXH).1;have i1:=h.aZx (rest':=t.rest.eraseIdx j) (cur':=some (y4 t.kt t.vt t.rest j)) (since:=since) (c0:=clock) (seen:=seen.push e.born) hi hq m2 m3 m4 hw m5 m6 m7 m8 ⟨m9.2,m9.2⟩ m10 ?_ ?_
   rotate_left
   ·rw[au9 m10 aJI];exact⟨_,m11.erase i,avJ aoU aZf hj⟩
   ·intro z hz;obtain rfl:=bk hz;exact⟨e,seen,CC,rfl,rfl,by rw[hy];exact aXR⟩
   rw[<-m1]at pT;have hVS:=(hy▸aXR:Ec (s.env w g β) t.kt t.vt e (y4 t.kt t.vt t.rest j));refine .inl ⟨_,_,hex pT,_,⟨g,β,i1.1.put o.dst (v:= .cons (.d .bool true) (.cons (.d t.kt (y4 t.kt t.vt t.rest j).1) (.cons (.d t.vt (y4 t.kt t.vt t.rest j).2) .nil))) ?_⟩,hd j aVM⟩;exact Ec.beB (hVS.mono i1.2)
  ·have hc:¬0 < t.rest.length:=by simpa using hc
   have:0 < (leftOf es seen).toList.length:=List.length_pos_of_mem aXH;rw[cH]at this;omega
theorem aCq{Γ:om}(hΓ:Sound P Γ){bI:List Nat}{ops:Array Oper}{R:Type}{k:AS->Option R}{r:R}(h:ia C s a w)(he:aQJ P Γ bI ops o s k=some r):
  qL P ops o a w λa' w'=>∃s',ia C s' a' w'/\k s'=some r:=by
 have plain:aQI P Γ bI ops o s k=some r->qL P ops o a w λa' w'=>∃s',ia C s' a' w'/\k s'=some r:=λhe=>by obtain⟨s1,h1,h2⟩:=aoM he;exact(agN hΓ h h1).mono λa' w' hs=>⟨s1,hs,h2⟩
 have stepK:∀(hg:o.guard=none),(fy P o a w λa' w'=>∃s',ia C s' a' w'/\k s'=some r)->qL P ops o a w λa' w'=>∃s',ia C s' a' w'/\k s'=some r:=λhg hr=>by
  unfold qL;have:Region.wanted o (yielded ops a.tmps)=true:=by simp[Region.wanted,hg]
  rw[if_pos this];exact hr
 have step:∀(hg:o.guard=none) (b:Bool),fy P o a w (ia C (s.put o.dst (.d .bool b)))->k (s.put o.dst (.d .bool b))=some r->qL P ops o a w λa' w'=>∃s',ia C s' a' w'/\k s'=some r:=λhg b hr hk=>by
  unfold qL;have:Region.wanted o (yielded ops a.tmps)=true:=by simp[Region.wanted,hg]
  rw[if_pos this];exact hr.mono λa' w' hs=>⟨_,hs,hk⟩
 unfold aQJ at he;split at he
 ·rename_i T x y U hg ho;split at he
  ·rename_i n hn hT;obtain⟨g,β,hi⟩:=h;obtain⟨b,hb,hr⟩:=(Qi (o:=o) (U:=U) hi hn hT).1 ho;refine step hg b hr ?_
   rcases Q4 he with⟨hc,hk⟩ | ⟨_,hk⟩
   ·rw[hb (by simpa using hc)];exact hk
   ·obtain⟨k1,k2⟩:=azo hk;cases b
    ·exact k2
    ·exact k1
  ·exact plain he
 ·rename_i T x y U hg ho;split at he
  ·rename_i n hn hT;obtain⟨g,β,hi⟩:=h;obtain⟨b,hb,hr⟩:=(Qi (o:=o) (U:=U) hi hn hT).2 ho;refine step hg b hr ?_
   rcases Q4 he with⟨hc,hk⟩ | ⟨_,hk⟩
   ·rw[hb (by simpa using hc)];exact hk
   ·obtain⟨k1,k2⟩:=azo hk;cases b
    ·exact k2
    ·exact k1
  ·exact plain he
 ·rename_i T m hg ho;obtain⟨s1,h1,h2⟩:=hZ.1 he;obtain⟨g,β,hi⟩:=h;exact stepK hg ((awf hi ho h1).mono λ_ _ hs=>⟨_,hs,h2⟩)
 ·rename_i x hg ho;obtain⟨s1,h1,h2⟩:=hZ.1 he;obtain⟨v,h3,h4⟩:=av.1 h1;obtain rfl:=ax.1 h4;obtain⟨g,β,hi⟩:=h;exact stepK hg ((auv hi ho h3).mono λ_ _ hs=>⟨_,hs,h2⟩)
 ·rename_i x hg ho;split at he
  ·rename_i t ht;obtain⟨g,β,hi⟩:=h;exact stepK hg (aDt hi ho ht he)
  ·cases he
 ·rename_i c hg ho;split at he
  ·rename_i F hc;split at he
   ·rename_i id ver rc f hF;split at he
    ·rename_i en auK;obtain⟨bab,he⟩:=aE2 he;obtain⟨s1,h1,h2⟩:=hZ.1 he;obtain⟨g,β,hi⟩:=h;exact stepK hg ((axS hi ho hc hF bab (hΓ _ _ en auK) h1).mono λ_ _ hs=>⟨_,hs,h2⟩)
    ·cases he
   ·split at he
    ·rename_i en vs hr;unfold aUl at hr;split at hr;rotate_left
     ·cases hr
     rename_i f caps hF;split at hr;rotate_left
     ·cases hr
     rename_i en' auK;split at hr;rotate_left
     ·cases hr
     rename_i aJG;rw[aq]at aJG;simp only[ay,cv]at hr;obtain⟨rfl,rfl⟩:=hr;obtain⟨g,β,hi⟩:=h;exact stepK hg (atP hi ho hc hF ((hΓ _ _ _ auK).2.2 aJG.2) he)
    ·exact plain he
  ·exact plain he
 ·exact plain he
theorem U2{rd:Option Nat}{n:Nat}{Γ:om}(hΓ:Sound P Γ){bI:List Nat}{ops:Array Oper}{R:Type}{Q:Exit->Act->World->Prop}:∀(l:List Oper) {s:AS} {a:Act} {w:World} {k:AS->Option R} {r:R},ia C s a w->aQK P Γ bI ops l s k=some r->
  (∀s' a' w',ia C s' a' w'->k s'=some r->Q .normal a' w')->wpListIn (Fr rd) n P ops Q l a w
 |[],s,a,w,k,r,h,he,hk=>hk s a w h he
 |o::l,s,a,w,k,r,h,he,hk=>by have he:aQJ P Γ bI ops o s (λs'=>s'.seen λs'=>aQK P Γ bI ops l s' k)=some r:=he;simp only[AS.Q3]at he;exact((aCq hΓ h he).mono λa' w' ⟨s',hs,h2⟩=>U2 hΓ l hs h2 hk).wpListIn
end
end Go.Ab
namespace Go.Ab
theorem AS.aJe{s t:AS}(h1:s.cg=t.cg)(h2:s.news.length=t.news.length)(h3:∀id,s.bQ id=t.bQ id):s=t:=by
 obtain⟨a,b,c⟩:=s;obtain⟨a',b',c'⟩:=t;simp only at h1 h2;subst h1;have hb:b=b':=kD λk=>h3 (.bh k)
 subst hb;have hc:c=c':=by apply List.ext_getElem h2;intro i h h';apply kD;intro j;have:=h3 (.new i j);simpa[AS.bQ,aD,h,h']using this
 rw[hc]
def dB.amz:dB->dB->Prop
 | .obj v _ c,.obj v' _ c'=>v=v'/\c=c'
 | .dead,.dead=>True
 |_,_=>False
def zm:Option dB->Option dB->Prop
 |some a,some b=>a.amz b
 |none,none=>True
 |_,_=>False
def dB.ayR:dB->dB
 | .obj v _ c=> .obj v true c
 | .dead=> .dead
theorem dB.aNd(a:dB):a.amz a:=by cases a <;> simp[dB.amz]
theorem aE7(a:Option dB):zm a a:=by cases a <;> simp[zm,dB.aNd]
theorem aE6(a:Option dB):zm (a.map dB.ayR) a:=by
 cases a with
 |none=>trivial
 |some x=>cases x <;> simp[zm,dB.amz,dB.ayR]
theorem dB.aQG(a:dB):a.ayR.ayR=a.ayR:=by cases a <;> rfl
structure mn(f:G3)(s t:AS):Prop where
 cg:∀i∈f.cg,t.slot i=s.slot i
 ws:∀id∈f.ws,t.bQ id=s.bQ id
 rs:∀id∈f.rs,zm (t.bQ id) (s.bQ id)
 dV:∀q,f.dst=some q->t.dV q=s.dV q
structure aXp where
 v:aA
 up:Id->Option dB
 fz:List Id
structure App(d:Option Tmp)(E:aXp)(s s':AS):Prop where
 cg:s'.cg=(s.put d E.v).cg
 len:s'.news.length=s.news.length
 bQ:∀id,s'.bQ id=match E.up id with | some e=>some e | none=>if id∈E.fz then(s.bQ id).map dB.ayR else s.bQ id
theorem App.aVe{d:Option Tmp}{E:aXp}{s s1 s2:AS}(h1:App d E s s1)(h2:App d E s s2):s1=s2:=
 AS.aJe (by rw[h1.cg,h2.cg]) (by rw[h1.len,h2.len]) λid=>by rw[h1.bQ,h2.bQ]
structure aiE(f:G3)(s:AS)(E:aXp):Prop where
 up:∀id e,E.up id=some e->(id∈f.ws/\s.bQ id≠none)\/∃q j,f.dst=some q/\id= .new q j
 fz:∀id∈E.fz,id∈f.rs
theorem Nn(s:AS)(id:Id)(e:dB):(s.bg id e).news.length=s.news.length:=by cases id <;> simp[AS.bg]
theorem aer(s:AS)(id i:Id):(s.freeze id).bQ i=if i=id then(s.bQ i).map dB.ayR else s.bQ i:=by
 unfold AS.freeze;cases hs:s.bQ id with
 |none=>
  by_cases hi:i=id
  ·subst hi;simp[hs]
  ·simp[hi]
 |some e=>
  cases e with
  |dead=>
   by_cases hi:i=id
   ·subst hi;simp[hs,dB.ayR]
   ·simp[hi]
  |obj v fr c=>
   simp only;by_cases hi:i=id
   ·subst hi;rw[eC s i _ (by rw[hs];simp)];simp[hs,dB.ayR]
   ·rw[cQ s id i _ hi];simp[hi]
theorem fq(i:Id):∀(ids:List Id) (s:AS),(s.bt ids).bQ i=if i∈ids then(s.bQ i).map dB.ayR else s.bQ i
 |[],s=>by simp[AS.bt]
 |id::ids,s=>by
  rw[AS.bt,fq i ids,aer];by_cases h1:i=id
  ·subst h1;by_cases h2:i∈ids
   ·simp[h2,Option.map_map,Function.comp_def,dB.aQG]
   ·simp[h2]
  ·simp[h1]
theorem ava(s:AS)(id:Id):(s.freeze id).news.length=s.news.length:=by
 unfold AS.freeze;split
 ·exact Nn _ _ _
 ·rfl
theorem qQ:∀(ids:List Id) (s:AS),(s.bt ids).news.length=s.news.length
 |[],_=>rfl
 |id::ids,s=>by rw[AS.bt,qQ ids,ava]
theorem Bc{s:AS}{q:Nat}:s.dV q=true↔q < s.news.length/\∀j,s.bQ (.new q j)=none:=by
 refine⟨λh=>⟨(ka h).2,(ka h).1⟩,λ⟨h1,h2⟩=> ?_⟩;unfold AS.dV;rw[bO h1];have h0:=h2 0;simp only[AS.bQ,aD,bO h1,dK]at h0;cases hh:s.news[q]with
 |nil=>rfl
 |cons x xs=>rw[hh]at h0;simp at h0
theorem App.SQ(d:Option Tmp)(v:aA)(ids:List Id)(s:AS):App d ⟨v,λ_=>none,ids⟩ s ((s.bt ids).put d v):=by
 refine⟨?_,?_,λid=> ?_⟩
 ·cases d <;> simp[AS.put,nF]
 ·cases d <;> simp[AS.put,qQ]
 ·rw[JI,fq]
theorem App.JV(d:Option Tmp)(v:aA)(s:AS):App d ⟨v,λ_=>none,[]⟩ s (s.put d v):=App.SQ d v [] s
def Ss(q:Nat)(es:List dB):Id->Option dB
 | .new i j=>if i=q then es[j]? else none
 | .bh _=>none
theorem aI9(s:AS){q:Nat}(hq:q < s.news.length)(es:List dB)(id:Id):(s.born q es).bQ id=match id with | .new i j=>if i=q then es[j]? else s.bQ (.new i j) | .bh k=>s.bQ (.bh k):=by
 cases id with
 |bh k=>rfl
 |new i j=>
  simp only;by_cases h:i=q
  ·subst h;rw[if_pos rfl];exact yI hq _ j
  ·rw[if_neg h];exact iS _ λj' e=>by simp only[Id.new.injEq]at e;exact h e.1
theorem App.ayf{s:AS}{q:Nat}(hv:s.dV q=true)(v:aA)(ids:List Id)(es:List dB):App (some q) ⟨v,Ss q es,ids⟩ s (((s.bt ids).born q es).put (some q) v):=by
 obtain⟨h1,h2⟩:=Bc.1 hv;refine⟨?_,?_,λid=> ?_⟩
 ·simp[AS.put,nF]
 ·simp[AS.put,AS.born,qQ]
 ·rw[JI,aI9 _ (by rw[qQ];exact h1)];cases id with
  |bh k=>simp only[Ss];exact fq _ _ _
  |new i j=>
   simp only[Ss];by_cases h:i=q
   ·subst h;rw[if_pos rfl];cases he:es[j]? with
    |none=>simp[h2]
    |some e=>simp
   ·rw[if_neg h];simp only[if_neg h];exact fq _ _ _
theorem App.aM4{s:AS}{id:Id}{e0:dB}(hs:s.bQ id=some e0)(d:Option Tmp)(v:aA)(e:dB):App d ⟨v,λi=>if i=id then some e else none,[]⟩ s ((s.bg id e).put d v):=by
 refine⟨?_,?_,λi=> ?_⟩
 ·cases d <;> simp[AS.put]
 ·cases d <;> simp[AS.put,Nn]
 ·rw[JI];by_cases hi:i=id
  ·subst hi;rw[eC s i _ (by rw[hs];simp)];simp
  ·rw[cQ s id i _ hi];simp[hi]
section
variable {P:Program} {Γ:om} {bI:List Nat} {ops:Array Oper} {o:Oper} {s t:AS}
def On(P:Program)(Γ:om)(bI:List Nat)(ops:Array Oper)(o:Oper)(s s':AS):Prop:=∃E,App o.dst E s s'/\aiE (gG Γ ops s o) s E/\∀t,mn (gG Γ ops s o) s t->∃t',(qB P Γ bI o t).eval=some t'/\App o.dst E t t'
theorem Vv{xs:Array Operand}{i:Nat}(h:Operand.tmp i∈xs.toList):i∈XV xs:=by unfold XV;exact List.mem_filterMap.2 ⟨_,h,rfl⟩
theorem mn.ev(h:mn (gG Γ ops s o) s t){x:Operand}(hx:x∈o.op.operands.toList):t.ev x=s.ev x:=by
 cases x with
 |tmp i=>exact h.cg i (bD.2 (.inl (Vv hx)))
 |_=>rfl
theorem ap0(v:Value):(ofConst v).ids=[]:=by unfold ofConst;split <;> rfl
theorem ahm{o:Oper}{x:Op}(h:o.op=x)(hx:ag9 x=false):ag9 o.op=false:=by rw[h];exact hx
theorem Ng(hn:ag9 o.op=false){x:Operand}(hx:x∈o.op.operands.toList){id:Id}(cR:id∈(s.ev x).ids):id∈(gG Γ ops s o).rs:=by
 refine bD.2 (.inl ?_);unfold ap2;rw[hn];cases x with
 |tmp i=>exact pK.2 ⟨i,Vv hx,cR⟩
 |const v=>simp[AS.ev,ap0]at cR
 |global _=>simp[AS.ev,aA.ids]at cR
 |func f=>simp[AS.ev,aA.ids]at cR
theorem mn.amz(h:mn (gG Γ ops s o) s t)(hn:ag9 o.op=false){x:Operand}(hx:x∈o.op.operands.toList){id:Id}(cR:id∈(s.ev x).ids):zm (t.bQ id) (s.bQ id):=h.rs id (Ng hn hx cR)
theorem Q8{id:Id}(h:zm (t.bQ id) (s.bQ id)):(t.obj id=none/\s.obj id=none)\/∃v f f' c,t.obj id=some (v,f,c)/\s.obj id=some (v,f',c):=by
 unfold AS.obj
 revert h
 cases t.bQ id with
 |none=>cases s.bQ id with
  |none=>intro _;simp
  |some b=>intro h;exact h.elim
 |some a=>cases s.bQ id with
  |none=>intro h;exact h.elim
  |some b=>cases a <;> cases b <;> intro h <;> first
    |exact h.elim
    | (left;exact⟨rfl,rfl⟩)
    | (obtain⟨rfl,rfl⟩:=h;right;exact⟨_,_,_,_,rfl,rfl⟩)
theorem TJ{id:Id}(h:zm (t.bQ id) (s.bQ id))(ver:Nat)(p:List Ke):t.row id ver p=s.row id ver p:=by unfold AS.row;rcases Q8 h with⟨h1,h2⟩ | ⟨v,f,f',c,h1,h2⟩ <;> rw[h1,h2]
theorem po:∀(v:aA) (ty:Ty),(∀id∈v.ids,zm (t.bQ id) (s.bQ id))->t.iW ty v=s.iW ty v
 | .bu id ver p c i len,ty,h=>by
  cases ty <;> first
   |rfl
   | (simp only[AS.iW];rw[TJ (h id (by simp[aA.ids]))])
 | .pr a b,ty,h=>by
  cases ty <;> first
   |rfl
   | (simp only[AS.iW];rw[po a _ λid cR=>h id (by simp[aA.ids,cR]),po b _ λid cR=>h id (by simp[aA.ids,cR])])
 | .undef,ty,_ | .gone,ty,_ | .cV,ty,_ | .qC,ty,_ | .xc,ty,_ | .CI,ty,_ | .d _ _,ty,_ | .ptr ..,ty,_ | .dL ..,ty,_ | .fn ..,ty,_ | .cons ..,ty,_ | .nil,ty,_ | .vec ..,ty,_ | .bx ..,ty,_ | .cm ..,ty,_ | .mp ..,ty,_ | .sH ..,ty,_ | .yl ..,ty,_ | .qX ..,ty,_ | .sb _,ty,_=>by cases ty <;> simp only[AS.iW]
theorem vF:∀(v:aA),∀id∈v.shared,id∈v.ids
 | .bu ..,id,h=>by simpa[aA.shared,aA.ids]using h
 | .pr a b,id,h=>by
  simp only[aA.shared,bD,aA.ids]at h ⊢;rcases h with h | h
  ·exact .inl (vF a id h)
  ·exact .inr (vF b id h)
 | .undef,_,h | .gone,_,h | .cV,_,h | .qC,_,h | .xc,_,h | .CI,_,h | .d _ _,_,h | .ptr ..,_,h | .dL ..,_,h | .fn ..,_,h | .cons ..,_,h | .nil,_,h | .vec ..,_,h | .bx ..,_,h | .cm ..,_,h | .mp ..,_,h | .sH ..,_,h | .yl ..,_,h | .qX ..,_,h | .sb _,_,h=>by simp[aA.shared]at h
theorem aps{T:TypeId}{x:aA}(h:∀id∈x.ids,zm (t.bQ id) (s.bQ id)):P5 P t T x=P5 P s T x:=by
 unfold P5;split
 ·rename_i id ver p n;rcases Q8 (h id (by simp[aA.ids])) with⟨h1,h2⟩ | ⟨v,f,f',c,h1,h2⟩ <;> rw[h1,h2]
 ·rfl
 ·rfl
 ·rfl
theorem aiV{n:Nat}{lo hi:Option Operand}(hl:∀x,lo=some x->t.ev x=s.ev x)(hh:∀x,hi=some x->t.ev x=s.ev x):bounds t n lo hi=bounds s n lo hi:=by
 unfold bounds
 cases lo <;> cases hi <;> simp only[] <;> first
  |rfl
  | (rw[hl _ rfl,hh _ rfl])
  |rw[hl _ rfl]
  |rw[hh _ rfl]
theorem Rf{T:TypeId}{x:aA}{lo hi:Option Operand}(h:∀id∈x.ids,zm (t.bQ id) (s.bQ id))(hl:∀x,lo=some x->t.ev x=s.ev x)(hh:∀x,hi=some x->t.ev x=s.ev x):
  IZ P t T x lo hi=IZ P s T x lo hi:=by
 have hb:∀n,bounds t n lo hi=bounds s n lo hi:=λn=>aiV hl hh
 unfold IZ
 split <;> first
  |rfl
  | (rw[TJ (h _ (by simp[aA.ids]))];simp only[hb];done)
  | (simp only[hb];done)
theorem afk{T:TypeId}{x:aA}{lo:Option Operand}{y m:Operand}(h:∀id∈x.ids,zm (t.bQ id) (s.bQ id))(hl:∀x,lo=some x->t.ev x=s.ev x)(hh:t.ev y=s.ev y)(hm:t.ev m=s.ev m):
  Re P t T x lo y m=Re P s T x lo y m:=by
 unfold Re;rw[hh,hm,Rf h hl λz hz=>by obtain rfl:=bk hz;exact hh]
theorem S5{T:TypeId}{x:aA}{i:Int}(h:∀id∈x.ids,zm (t.bQ id) (s.bQ id)):rZ P t T x i=rZ P s T x i:=by
 unfold rZ
 split <;> first
  |rfl
  |rw[TJ (h _ (by simp[aA.ids]))]
theorem anN{obj:Bool}{src dst:TypeId}{x:aA}(h:∀id∈x.ids,zm (t.bQ id) (s.bQ id)):agq P t obj src dst x=agq P s obj src dst x:=by
 unfold agq;split
 ·rfl
 ·unfold aIv
  split <;> first
   |rfl
   | (simp only[AS.avG,po _ _ h])
theorem aCa{T:TypeId}{op:BinOp}{i:Id}{v:Nat}{j:Id}{w:Nat}(h:zm (t.bQ i) (s.bQ i)):aXB P t T op i v j w=aXB P s T op i v j w:=by unfold aXB;rcases Q8 h with⟨h1,h2⟩ | ⟨v,f,f',c,h1,h2⟩ <;> rw[h1,h2]
theorem anP{src dst:TypeId}{id:Id}{ver:Nat}(h:zm (t.bQ id) (s.bQ id)):agr P t src dst id ver=agr P s src dst id ver:=by
 unfold agr;rcases Q8 h with⟨h1,h2⟩ | ⟨v,f,f',c,h1,h2⟩
 ·rw[h1,h2]
 ·rw[h1,h2]
  cases c <;> first
   |rfl
   | (rename_i e z c;cases z <;> rfl)
theorem A1{ty:Ty}:∀(ps:List (Nat×Operand)) (l:List ty.den),(∀x∈ps,t.ev x.2=s.ev x.2/\∀id∈(s.ev x.2).ids,zm (t.bQ id) (s.bQ id))->jj ty t ps l=jj ty s ps l
 |[],_,_=>rfl
 | (i,x)::ps,l,h=>by obtain⟨h1,h2⟩:=h (i,x) (aN ..);simp only[jj];simp only at h1 h2;rw[h1,po _ _ h2];congr 2;funext y;rw[A1 ps _ λz hz=>h z (aI _ hz)]
theorem xF{ty:Ty}:∀(ps:List (Nat×Operand)) (l:List ty.den) (r:List ty.den×List Id),(jj ty s ps l).eval=some r->∀id∈r.2,∃x∈ps,id∈(s.ev x.2).ids
 |[],l,r,h,id,cR=>by obtain rfl:=ax.1 h;cases cR
 | (i,x)::ps,l,r,h,id,cR=>by
  simp only[jj]at h;obtain⟨h1,h2⟩:=aB.1 h;obtain⟨y,h3,h4⟩:=av.1 h2;obtain⟨r',h5,h6⟩:=av.1 h4;obtain rfl:=ax.1 h6;rcases bD.1 cR with cR | cR
  ·exact⟨(i,x),aN ..,vF _ _ cR⟩
  ·obtain⟨z,hz,S3⟩:=xF ps _ r' h5 id cR;exact⟨z,aI _ hz,S3⟩
theorem Gt{fs:Array Field}:∀(ps:List (Nat×Operand)) (v:aA),(∀x∈ps,t.ev x.2=s.ev x.2)->qk P fs t ps v=qk P fs s ps v
 |[],_,_=>rfl
 | (i,x)::ps,v,h=>by
  have h1:=h (i,x) (aN ..);simp only at h1;simp only[qk,h1];have ih:∀v,qk P fs t ps v=qk P fs s ps v:=λv=>Gt ps v λz hz=>h z (aI _ hz)
  simp only[ih]
theorem OQ:∀(l:List Operand),(∀x∈l,t.ev x=s.ev x)->rR t l=rR s l
 |[],_=>rfl
 |x::l,h=>by simp only[rR];rw[h x (aN ..),OQ l λy hy=>h y (aI _ hy)]
theorem Vz{ty:Ty}{X:TypeId}{x:aA}(h:∀id∈x.ids,zm (t.bQ id) (s.bQ id)):HW P t ty X x=HW P s ty X x:=by
 unfold HW;split
 ·rfl
 ·simp only[AS.avG,po _ _ h]
theorem lQ{v:aA}(h:∀t,mn (gG Γ ops s o) s t->(qB P Γ bI o t).eval=some (t.put o.dst v)):On P Γ bI ops o s (s.put o.dst v):=
 ⟨⟨v,λ_=>none,[]⟩,App.JV _ _ _,⟨λ_ _ h=>by simp at h,λ_ h=>by simp at h⟩,λt ht=>⟨_,h t ht,App.JV _ _ _⟩⟩
theorem od{F:AS->Out aA}(ho:∀t,qB P Γ bI o t=(F t).bind λv=> .ok (t.put o.dst v))(hF:∀t,mn (gG Γ ops s o) s t->F t=F s){s':AS}(he:(qB P Γ bI o s).eval=some s'):On P Γ bI ops o s s':=by
 rw[ho]at he;obtain⟨v,h1,h2⟩:=av.1 he;obtain rfl:=ax.1 h2;refine lQ λt ht=> ?_
 rw[ho,hF t ht,av];exact⟨v,h1,rfl⟩
theorem XP{v:aA}{ids:List Id}(hi:∀id∈ids,id∈(gG Γ ops s o).rs)(h:∀t,mn (gG Γ ops s o) s t->(qB P Γ bI o t).eval=some ((t.bt ids).put o.dst v)):On P Γ bI ops o s ((s.bt ids).put o.dst v):=
 ⟨⟨v,λ_=>none,ids⟩,App.SQ _ _ _ _,⟨λ_ _ h=>by simp at h,hi⟩,λt ht=>⟨_,h t ht,App.SQ _ _ _ _⟩⟩
theorem Az{v:aA}{ids:List Id}{q:Nat}{es:List dB}(hd:o.dst=some q)(hv:s.dV q=true)(hi:∀id∈ids,id∈(gG Γ ops s o).rs)
  (h:∀t,mn (gG Γ ops s o) s t->t.dV q=true->(qB P Γ bI o t).eval=some (((t.bt ids).born q es).put o.dst v)):On P Γ bI ops o s (((s.bt ids).born q es).put o.dst v):=by
 refine⟨⟨v,Ss q es,ids⟩,by rw[hd];exact App.ayf hv _ _ _,⟨λid e h=> .inr ?_,hi⟩,λt ht=> ?_⟩
 ·cases id with
  |bh _=>simp[Ss]at h
  |new i j=>
   simp only[Ss]at h;split at h
   ·rename_i hq;exact⟨q,j,hd,by rw[hq]⟩
   ·cases h
 ·have hv':t.dV q=true:=by rw[ht.dV q hd];exact hv
  exact⟨_,h t ht hv',by rw[hd];exact App.ayf hv' _ _ _⟩
theorem EX{v:aA}{id:Id}{e0 e:dB}(hs:s.bQ id=some e0)(hw:id∈(gG Γ ops s o).ws)(h:∀t,mn (gG Γ ops s o) s t->t.bQ id=s.bQ id->(qB P Γ bI o t).eval=some ((t.bg id e).put o.dst v)):
  On P Γ bI ops o s ((s.bg id e).put o.dst v):=by
 refine⟨⟨v,λi=>if i=id then some e else none,[]⟩,App.aM4 hs _ _ _,⟨λi e' h=> .inl ?_,λ_ h=>by simp at h⟩,λt ht=> ?_⟩
 ·simp only at h;split at h
  ·rename_i hi;subst hi;exact⟨hw,by rw[hs];simp⟩
  ·cases h
 ·have:=ht.ws id hw;exact⟨_,h t ht this,App.aM4 (this.trans hs) _ _ _⟩
end
end Go.Ab
namespace Go.Ab
section
variable {P:Program} {Γ:om} {bI:List Nat} {ops:Array Oper} {o:Oper} {s t:AS}
theorem alD{T:TypeId}{x v:aA}{s':AS}(h:(I3 P s T x v).eval=some s'):
  ∃id e0 e,x.ids=[id]/\s.bQ id=some e0/\s'=s.bg id e/\∀t:AS,t.bQ id=s.bQ id->(I3 P t T x v).eval=some (t.bg id e):=by
 unfold I3 at h;split at h
 ·rename_i id ver p n;cases lK:s.obj id with
  |none=>rw[lK]at h;simp only[au]at h
  |some r=>
   obtain⟨ve,fr,c⟩:=r;rw[lK]at h;obtain⟨h1,h2⟩:=aB.1 h;obtain⟨r,h3,h4⟩:=av.1 h2;obtain⟨h5,h6⟩:=aB.1 h4;obtain⟨h7,h8⟩:=bM.1 h6;obtain⟨c',h9,aYs⟩:=av.1 h8;obtain rfl:=ax.1 aYs;refine⟨id,_,_,rfl,dX lK,rfl,λt ht=> ?_⟩;have hob':t.obj id=some (ve,fr,c):=by simp only[AS.obj,ht];exact lK
   unfold I3;simp only[hob'];exact aB.2 ⟨h1,av.2 ⟨r,h3,aB.2 ⟨h5,bM.2 ⟨h7,av.2 ⟨c',h9,ax.2 rfl⟩⟩⟩⟩⟩
 ·simp only[au]at h
theorem aue{c:Call}{x y:Operand}{T X:TypeId}(db:o.op= .call c)(hc:c.callee= .builtin .copy)(ha:c.args.toList=[x,y])(ht:c.argTypes.toList=[T,X]){s':AS}
  (he:(Y5 P s o.dst T X (s.ev x) (s.ev y)).eval=some s'):On P Γ bI ops o s s':=by
 have agS:∀t:AS,qB P Γ bI o t=Y5 P t o.dst T X (t.ev x) (t.ev y):=λt=>by unfold qB;rw[db];simp only[hc,ha,ht]
 have EV:∀z,z=x\/z=y->z∈o.op.operands.toList:=λz hz=>by rw[db];simp only[Op.operands,Call.operands,hc,aR,bS,ha];simpa using hz
 have hx:∀t,mn (gG Γ ops s o) s t->t.ev x=s.ev x:=λt h=>h.ev (EV x (.inl rfl))
 have hy:∀t,mn (gG Γ ops s o) s t->t.ev y=s.ev y:=λt h=>h.ev (EV y (.inr rfl))
 have hm:∀t,mn (gG Γ ops s o) s t->∀ty,HW P t ty X (s.ev y)=HW P s ty X (s.ev y):=λt h ty=>Vz λid cR=>h.amz (ahm db rfl) (EV y (.inr rfl)) cR
 unfold Y5 at he;split at he
 ·rename_i e t b id ver len Kk asW;obtain⟨m,h1,he⟩:=av.1 he;split at he
  ·rename_i ve n t' l lK;obtain⟨h2,PF⟩:=aB.1 he;obtain⟨l',h3,ad7⟩:=av.1 PF;obtain⟨h4,aXG⟩:=bM.1 ad7;obtain rfl:=ax.1 aXG;have hw:id∈(gG Γ ops s o).ws:=by show id∈writes Γ s o;unfold writes;rw[db];simp only[hc,ha,asW];simp[aA.ids]
   refine EX (dX lK) hw λt ht aCJ=> ?_
   rw[agS t,hx t ht,hy t ht];have hob':t.obj id=some (ve,false,.d (.arr n t') l):=by simp only[AS.obj,aCJ];exact lK
   unfold Y5;simp only[Kk,asW];refine av.2 ⟨m,by rw[hm t ht];exact h1,?_⟩;simp only[hob'];exact aB.2 ⟨h2,av.2 ⟨l',h3,bM.2 ⟨h4,ax.2 rfl⟩⟩⟩
  ·exact(au.1 he).elim
 ·exact(au.1 he).elim
theorem aiJ{c:Call}{x y:Operand}{T X:TypeId}(db:o.op= .call c)(hc:c.callee= .builtin .append)(ha:c.args.toList=[x,y])(ht:c.argTypes.toList=[T,X])(gg:∀k n,s.ev x= .cV->s.ev y= .d (.int k) n->False){s':AS}
  (he:(xR P s (aCS bI o.dst) (au1 bI o.dst) o.dst T X (s.ev x) (s.ev y)).eval=some s'):On P Γ bI ops o s s':=by
 have agS:∀t:AS,t.ev x=s.ev x->t.ev y=s.ev y->qB P Γ bI o t=xR P t (aCS bI o.dst) (au1 bI o.dst) o.dst T X (t.ev x) (t.ev y):=λt e1 e2=>by
  unfold qB;rw[db];simp only[hc,ha,ht];split
  ·rename_i k n hx hy;rw[e1]at hx;rw[e2]at hy;exact(gg k n hx hy).elim
  ·rfl
 have EV:∀z,z=x\/z=y->z∈o.op.operands.toList:=λz hz=>by rw[db];simp only[Op.operands,Call.operands,hc,aR,bS,ha];simpa using hz
 have hx:∀t,mn (gG Γ ops s o) s t->t.ev x=s.ev x:=λt h=>h.ev (EV x (.inl rfl))
 have hy:∀t,mn (gG Γ ops s o) s t->t.ev y=s.ev y:=λt h=>h.ev (EV y (.inr rfl))
 have hm:∀t,mn (gG Γ ops s o) s t->∀ty,HW P t ty X (s.ev y)=HW P s ty X (s.ev y):=λt h ty=>Vz λid cR=>h.amz (ahm db rfl) (EV y (.inr rfl)) cR
 unfold xR at he;split at he
 ·rename_i e ty b q Kk hd;obtain⟨m,h1,h2⟩:=av.1 he;split at h2
  ·rename_i aY1;cases aXF:au1 bI o.dst with
   |true=>
    rw[aXF]at h2;simp only at h2;obtain⟨h5,h6⟩:=bM.1 h2;obtain rfl:=ax.1 h6;refine lQ λt ht=> ?_
    rw[agS t (hx t ht) (hy t ht),hx t ht,hy t ht];unfold xR;simp only[hd]at aXF Kk ⊢;simp only[Kk,aY1,aXF];refine av.2 ⟨m,by rw[hm t ht];exact h1,?_⟩;exact bM.2 ⟨h5,ax.2 rfl⟩
   |false=>
   rw[aXF]at h2;simp only at h2;obtain⟨h3,h4⟩:=aB.1 h2;obtain⟨h5,h6⟩:=bM.1 h4;obtain rfl:=ax.1 h6;refine Az (ids:=[]) hd h3 (λ_ h=>by cases h) λt ht hv=> ?_
   rw[agS t (hx t ht) (hy t ht),hx t ht,hy t ht];unfold xR;simp only[hd]at aXF Kk ⊢;simp only[Kk,aY1,aXF];refine av.2 ⟨m,by rw[hm t ht];exact h1,?_⟩;exact aB.2 ⟨hv,bM.2 ⟨h5,ax.2 rfl⟩⟩
  ·rename_i id ver len aY1;split at h2
   ·rename_i v fr e' t' l lK;obtain⟨h3,h4⟩:=aB.1 h2;obtain⟨l',h5,h6⟩:=av.1 h4;obtain⟨h7,h8⟩:=bM.1 h6;obtain⟨h9,aYs⟩:=bM.1 h8;obtain⟨bdu,agR⟩:=bM.1 aYs;obtain rfl:=ax.1 agR;have hw:id∈(gG Γ ops s o).ws:=by show id∈writes Γ s o;unfold writes;rw[db];simp only[hc,ha,aY1];simp[aA.ids]
    refine EX (dX lK) hw λt ht aCJ=> ?_
    rw[agS t (hx t ht) (hy t ht),hx t ht,hy t ht];have hob':t.obj id=some (v,fr,.vec e' t' l):=by simp only[AS.obj,aCJ];exact lK
    unfold xR;simp only[hd]at Kk ⊢;simp only[Kk,aY1];refine av.2 ⟨m,by rw[hm t ht];exact h1,?_⟩;simp only[hob'];exact aB.2 ⟨h3,av.2 ⟨l',h5,bM.2 ⟨h7,bM.2 ⟨h9,bM.2 ⟨bdu,ax.2 rfl⟩⟩⟩⟩⟩
   ·simp only[au]at h2
  ·simp only[au]at h2
 ·simp only[au]at he
theorem Tz:∀(n:Nat) (todo acc:List Id),∀id∈acc,id∈s.reach n todo acc
 | 0,_,_,id,h=>h
 |_+1,[],_,id,h=>h
 |n+1,x::todo,acc,id,h=>by
  rw[AS.reach];split
  ·exact Tz n todo acc id h
  ·exact Tz n _ _ id (bD.2 (.inl h))
theorem xg:∀(n:Nat) (todo acc:List Id),(∀id∈s.reach n todo acc,((t.bQ id).getD .dead).ids=((s.bQ id).getD .dead).ids)->t.reach n todo acc=s.reach n todo acc
 | 0,_,_,_=>rfl
 |_+1,[],_,_=>rfl
 |n+1,x::todo,acc,h=>by
  rw[AS.reach]at h;rw[AS.reach,AS.reach];split
  ·rename_i hc;rw[if_pos hc]at h;exact xg n todo acc h
  ·rename_i hc;rw[if_neg hc]at h;have hx:=h x (Tz n _ _ x (bD.2 (.inr (bn.2 rfl))));rw[hx];exact xg n _ _ h
theorem aQ5(e:Option dB):((e.map dB.ayR).getD .dead).ids=(e.getD .dead).ids:=by
 cases e with
 |none=>rfl
 |some x=>cases x <;> rfl
theorem Xr(ids:List Id)(n:Nat)(todo acc:List Id):(s.bt ids).reach n todo acc=s.reach n todo acc:=by
 refine xg n todo acc λid _=> ?_
 rw[fq];split
 ·exact aQ5 _
 ·rfl
theorem MG:∀(ps:List (Option Ty)) (vs:List aA),(∀v∈vs,∀id∈v.ids,zm (t.bQ id) (s.bQ id))->t.conv ps vs=s.conv ps vs
 |[],[],_=>rfl
 |[],_::_,_=>rfl
 |some _::_,[],_=>rfl
 |none::_,[],_=>rfl
 |some ty::ps,v::vs,h=>by simp only[AS.conv];rw[po v ty (h v (aN ..)),MG ps vs λx hx=>h x (aI _ hx)]
 |none::ps,v::vs,h=>by simp only[AS.conv];rw[MG ps vs λx hx=>h x (aI _ hx)]
theorem MH:∀(ps:List (Option Ty)) (vs:List aA) (r:List aA×List Id),(s.conv ps vs).eval=some r->r.1.flatMap aA.ids=v8 ps vs/\∀id∈r.2,∃v∈vs,id∈v.ids
 |[],[],r,h=>by simp only[AS.conv,ax]at h;subst h;exact⟨rfl,λ_ h=>by cases h⟩
 |some ty::ps,v::vs,r,h=>by
  simp only[AS.conv]at h;obtain⟨x,h1,h2⟩:=av.1 h;obtain⟨r',h3,h4⟩:=av.1 h2;obtain rfl:=ax.1 h4;obtain⟨i1,i2⟩:=MH ps vs r' h3;refine⟨by simp[v8,i1,aA.ids],λid cR=> ?_⟩;rcases bD.1 cR with cR | cR
  ·exact⟨v,aN ..,vF v id cR⟩
  ·obtain⟨u,hu,amv⟩:=i2 id cR;exact⟨u,aI _ hu,amv⟩
 |none::ps,v::vs,r,h=>by simp only[AS.conv]at h;obtain⟨r',h3,h4⟩:=av.1 h;obtain rfl:=ax.1 h4;obtain⟨i1,i2⟩:=MH ps vs r' h3;refine⟨by simp[v8,i1],λid cR=> ?_⟩;obtain⟨u,hu,amv⟩:=i2 id cR;exact⟨u,aI _ hu,amv⟩
 |[],_::_,_,h=>by simp only[AS.conv,au]at h
 |some _::_,[],_,h=>by simp only[AS.conv,au]at h
 |none::_,[],_,h=>by simp only[AS.conv,au]at h
theorem apq:∀(c:aA),∀v∈c.list,∀id∈v.ids,id∈c.ids
 | .cons a b,v,hv,id,cR=>by
  simp only[aA.list,cj]at hv;simp only[aA.ids,bD];rcases hv with rfl | hv
  ·exact .inl cR
  ·exact .inr (apq b v hv id cR)
 | .sb _,_,h,_,_ | .undef,_,h,_,_ | .gone,_,h,_,_ | .cV,_,h,_,_ | .qC,_,h,_,_ | .xc,_,h,_,_ | .CI,_,h,_,_ | .d _ _,_,h,_,_ | .ptr ..,_,h,_,_ | .dL ..,_,h,_,_
 | .fn ..,_,h,_,_ | .pr ..,_,h,_,_ | .nil,_,h,_,_ | .vec ..,_,h,_,_ | .bx ..,_,h,_,_ | .cm ..,_,h,_,_ | .mp ..,_,h,_,_ | .sH ..,_,h,_,_ | .yl ..,_,h,_,_ | .qX ..,_,h,_,_ | .bu ..,_,h,_,_=>by simp[aA.list]at h
theorem Wf{ids:List Id}(h:∀id∈ids,t.bQ id=s.bQ id):t.xi ids=s.xi ids:=by
 funext id ver;unfold AS.xi;cases hi:idxOf id ids with
 |none=>rfl
 |some k=>
  have:t.obj id=s.obj id:=by simp only[AS.obj,h id (cG (oO hi))]
  rw[this]
theorem WR{id:Id}(h:t.bQ id=s.bQ id):t.Cp id=s.Cp id:=by simp only[AS.Cp,AS.obj,h]
theorem QG{ids:List Id}(h:∀id∈ids,t.bQ id=s.bQ id)(q:Nat):t.vA ids q=s.vA ids q:=by
 funext id ver;cases id with
 |new i j=>rfl
 |bh k=>
  simp only[AS.vA];cases hk:ids[k]? with
  |none=>rfl
  |some id=>simp only[WR (h id (cG hk))]
theorem Pv{ids:List Id}(h:∀id∈ids,t.bQ id=s.bQ id)(q b:Nat):t.rV ids q b=s.rV ids q b:=by funext e;cases e <;> simp only[AS.rV,QG h]
theorem aox{ids:List Id}(h:∀id∈ids,t.bQ id=s.bQ id){id:Id}(cR:id∈ids):t.mz ids id=s.mz ids id:=by unfold AS.mz;rw[h id cR,Wf h]
def nU(s:AS)(ids:List Id)(d:Option Tmp)(G:fx):AS:=(AS.jr s ids (d.getD 0) (s.made ids (d.getD 0) G.news) ids G.bU).put d (G.val.iC (s.vA ids (d.getD 0)))
theorem af2{ids:List Id}{d:Option Tmp}{G:fx}{s':AS}:(s.back ids d G).eval=some s'↔(G.bU.length=ids.length/\(G.news=[]\/∃q,d=some q/\s.dV q=true))/\s'=nU s ids d G:=by
 unfold AS.back;cases d with
 |none=>
  rw[aB,ax];simp only[aq,dp,List.isEmpty_iff,nU,AS.put,Option.getD_none];constructor
  ·rintro⟨⟨h1,h2⟩,rfl⟩;rw[h2];exact⟨⟨h1,.inl rfl⟩,rfl⟩
  ·rintro⟨⟨h1,h2⟩,rfl⟩;rcases h2 with h2 | ⟨q,hq,_⟩
   ·rw[h2];exact⟨⟨h1,rfl⟩,rfl⟩
   ·cases hq
 |some q=>
  rw[aB,ax];simp only[aq,dp,gw,List.isEmpty_iff,nU,dK];constructor
  ·rintro⟨⟨h1,h2⟩,rfl⟩;exact⟨⟨h1,h2.imp id λh=>⟨q,rfl,h⟩⟩,rfl⟩
  ·rintro⟨⟨h1,h2⟩,rfl⟩;refine⟨⟨h1,h2.imp id λ⟨q',hq,h⟩=> ?_⟩,rfl⟩;obtain rfl:q=q':=by simpa using hq
   exact h
theorem Vk(s0:AS)(all:List Id)(q:Nat):∀(ids:List Id) (es:List dB) (s:AS),(AS.jr s0 all q s ids es).news.length=s.news.length
 |[],_,_=>by simp[AS.jr]
 |_::_,[],_=>by simp[AS.jr]
 |id::ids,e::es,s=>by rw[AS.jr,Vk s0 all q ids es,Nn]
theorem aKx(s:AS)(ids:List Id)(q:Nat)(es:List dB):(s.made ids q es).news.length=s.news.length:=by cases es <;> simp[AS.made,AS.born]
def J9(ids:List Id)(d:Option Tmp)(G:fx)(id:Id):Prop:=id∈ids\/(G.news≠ []/\∃q j,d=some q/\id= .new q j)
theorem Yo{ids:List Id}{d:Option Tmp}{G:fx}(hn:ids.Nodup)(hp:∀id∈ids,s.bQ id≠none)(hl:G.bU.length=ids.length)(hv:G.news=[]\/∃q,d=some q/\s.dV q=true):
  (∀id,¬J9 ids d G id->(nU s ids d G).bQ id=s.bQ id)/\
  (∀(k:Nat) (id:Id) (e:dB),ids[k]? =some id->G.bU[k]? =some e->(nU s ids d G).bQ id=some (s.rV ids (d.getD 0) (s.Cp id) e))/\
  (∀q j,G.news≠ []->d=some q->(nU s ids d G).bQ (.new q j)=(G.news[j]?).map (s.rV ids q 0))/\
  (∀q j,G.news≠ []->d=some q->s.bQ (.new q j)=none):=by
 have hv':G.news=[]\/s.dV (d.getD 0)=true:=by
  rcases hv with h | ⟨q,rfl,h⟩
  ·exact .inl h
  ·exact .inr h
 obtain⟨m1,m2⟩:=aoy s ids (d.getD 0) G.news hv';have aTX:∀q j,G.news≠ []->d=some q->s.bQ (.new q j)=none:=λq j h1 h2=>by
  rcases hv' with h | h
  ·exact absurd h h1
  ·subst h2;exact(Bc.1 h).2 j
 have GR:∀id,s.bQ id≠none->G.news=[]\/∀j,id≠ .new (d.getD 0) j:=λid cR=>by
  rcases hv with h | ⟨q,rfl,h⟩
  ·exact .inl h
  ·exact .inr λj e=>cR (by rw[e];exact(Bc.1 h).2 j)
 obtain⟨n1,n2⟩:=Hv s ids (d.getD 0) ids G.bU (s.made ids (d.getD 0) G.news) hn hl (λid cR=>by rw[m1 id (GR id (hp id cR))];exact hp id cR);refine⟨λid cR=> ?_,λk id e h1 h2=> ?_,λq j h1 h2=> ?_,aTX⟩
 ·unfold J9 at cR;simp only[not_or]at cR;rw[nU,JI,n1 id cR.1];refine m1 id ?_
  by_cases gg:G.news=[]
  ·exact .inl gg
  ·right;intro j e;rcases hv with h | ⟨q,hq,_⟩
   ·exact gg h
   ·exact cR.2 ⟨gg,q,j,hq,by rw[e,hq];rfl⟩
 ·rw[nU,JI,n2 k id e h1 h2]
 ·subst h2;have bbi:Id.new q j ∉ ids:=λcR=>hp _ cR (aTX q j h1 rfl)
  rw[nU,JI,n1 _ bbi];exact m2 h1 j
open Classical in
theorem atQ{c:Call}{F:Operand}{f:FuncId}{caps:aA}{en:Entry}(db:o.op= .call c)(hc:c.callee= .value F)(hF:s.ev F= .fn f caps)(hΓ:Γ f (c.args.toList.map s.ev++caps.list)=some en)(gv:Nat.blt f yB=true){s':AS}
  (he:(s.call en o.dst (c.args.toList.map s.ev++caps.list)).eval=some s'):On P Γ bI ops o s s':=by
 have EV:∀z,z=F\/z∈c.args.toList->z∈o.op.operands.toList:=λz hz=>by
  rw[db];simp only[Op.operands,Call.operands,hc,bS,bD];rcases hz with rfl | hz
  ·exact .inl (by simp)
  ·exact .inr hz
 have aJW:∀v∈c.args.toList.map s.ev++caps.list,∀id∈v.ids,id∈(gG Γ ops s o).rs:=λv hv id cR=>by
  rcases bD.1 hv with hv | hv
  ·obtain⟨x,hx,rfl⟩:=c9.1 hv;exact Ng (ahm db rfl) (EV x (.inr hx)) cR
  ·refine Ng (ahm db rfl) (EV F (.inl rfl)) ?_
   rw[hF];exact apq caps v hv id cR
 generalize U9:c.args.toList.map s.ev++caps.list=vs at he aJW hΓ;have aOT:(gG Γ ops s o).ws=s.reach 64 (v8 en.params vs) []:=by show writes Γ s o=_;unfold writes;rw[db];simp only[hc,hF,U9,hΓ]
 have agS:∀t,mn (gG Γ ops s o) s t->qB P Γ bI o t=t.call en o.dst vs:=λt ht=>by
  unfold qB;rw[db];have h1:t.ev F= .fn f caps:=by rw[ht.ev (EV F (.inl rfl)),hF]
  have h2:c.args.toList.map t.ev=c.args.toList.map s.ev:=gb λx hx=>ht.ev (EV x (.inr hx))
  obtain⟨cal,args,tys⟩:=c;simp only at hc U9 h2;subst hc;simp only[h1,h2,U9,hΓ,gv,Out.guard]
 unfold AS.call at he;obtain⟨r,h1,h2⟩:=av.1 he;obtain⟨aJN,aes⟩:=MH _ _ r h1;have hlends:∀t:AS,(t.bt r.2).ag5 r.1=t.reach 64 (v8 en.params vs) []:=λt=>by unfold AS.ag5;rw[Xr,aJN]
 rw[hlends]at h2;generalize hW:s.reach 64 (v8 en.params vs) []=W at h2 aOT;have hWn:W.Nodup:=by rw[<-hW];exact sS s _ _ _ (by simp)
 unfold AS.enter at h2;obtain⟨CC,h3⟩:=aB.1 h2;obtain⟨x,hx,h4⟩:=wY.1 h3;obtain⟨x0,aV1,h4⟩:=av.1 h4;have bbG:=en.az6 _ _ aV1;rw[bbG]at h4 aV1;obtain⟨⟨hl,hv⟩,rfl⟩:=af2.1 h4;generalize hG:en.out (r.1.map (aA.iC ((s.bt r.2).xi W))) (W.map ((s.bt r.2).mz W)) x=G at hl hv h4 ⊢;have hp:∀id∈W,(s.bt r.2).bQ id≠none:=λid cR=>by have:=(aq _ _▸dd.1 CC id cR).1;obtain⟨⟨v,fr,c⟩,hr⟩:=bP.1 this;rw[dX hr];simp
 obtain⟨b1,b2,b3,b4⟩:=Yo (s:=s.bt r.2) (d:=o.dst) hWn hp hl hv;have hfzent:∀(u:AS) id,u.bQ id=none↔(u.bt r.2).bQ id=none:=λu id=>by rw[fq];split <;> simp
 let E:aXp:=⟨G.val.iC ((s.bt r.2).vA W (o.dst.getD 0)),λid=>if J9 W o.dst G id then(nU (s.bt r.2) W o.dst G).bQ id else none,r.2⟩
 have hslots:∀u:AS,(nU (u.bt r.2) W o.dst G).cg=(u.put o.dst (G.val.iC ((u.bt r.2).vA W (o.dst.getD 0)))).cg:=λu=>by unfold nU;cases o.dst <;> simp[AS.put,C6,acN,nF]
 have hlen:∀u:AS,(nU (u.bt r.2) W o.dst G).news.length=u.news.length:=λu=>by unfold nU;cases o.dst <;> simp[AS.put,Vk,aKx,qQ]
 refine⟨E,⟨hslots s,hlen s,λid=> ?_⟩,⟨λid e WY=> ?_,λid cR=> ?_⟩,λt ht=> ?_⟩
 ·by_cases aGo:J9 W o.dst G id
  ·have WY:E.up id=(nU (s.bt r.2) W o.dst G).bQ id:=if_pos aGo;rw[WY];cases hb:(nU (s.bt r.2) W o.dst G).bQ id with
   |some e=>rfl
   |none=>
    rcases aGo with cR | ⟨gg,q,j,hq,rfl⟩
    ·obtain⟨k,hk⟩:=kf.1 cR;have gv:k < G.bU.length:=by rw[hl];exact(dC.1 hk).1
     rw[b2 k id _ hk (bO gv)]at hb;cases hb
    ·have:=(hfzent s _).2 (b4 q j gg hq);simp[this]
  ·have WY:E.up id=none:=if_neg aGo;rw[WY,b1 id aGo,fq]
 ·by_cases aGo:J9 W o.dst G id
  ·rcases aGo with cR | ⟨_,q,j,hq,rfl⟩
   ·left;refine⟨by rw[aOT];exact cR,λh=>hp id cR ((hfzent s id).1 h)⟩
   ·exact .inr ⟨q,j,hq,rfl⟩
  ·have:E.up id=none:=if_neg aGo;rw[this]at WY;cases WY
 ·obtain⟨v,hv,cR⟩:=aes id cR;exact aJW v hv id cR
 ·have aYF:t.conv en.params vs=s.conv en.params vs:=MG _ _ λv hv id cR=>ht.rs id (aJW v hv id cR)
  have Oh:∀id∈W,t.bQ id=s.bQ id:=λid cR=>ht.ws id (by rw[aOT];exact cR)
  have aoO:∀id∈W,(t.bt r.2).bQ id=(s.bt r.2).bQ id:=λid cR=>by rw[fq,fq,Oh id cR]
  have hWt:t.reach 64 (v8 en.params vs) []=W:=by
   rw[<-hW];refine xg _ _ _ λid cR=> ?_
   rw[Oh id (by rw[<-hW];exact cR)]
  have aZd:G.news=[]\/∃q,o.dst=some q/\(t.bt r.2).dV q=true:=hv.imp id λ⟨q,hq,h⟩=>⟨q,hq,by
   rw[vG]at h ⊢;rw[ht.dV q hq];exact h⟩
  have aXM:∀id∈W,(t.bt r.2).bQ id≠none:=λid cR=>by rw[aoO id cR];exact hp id cR
  obtain⟨d1,d2,d3,d4⟩:=Yo (s:=t.bt r.2) (d:=o.dst) hWn aXM hl aZd;refine⟨nU (t.bt r.2) W o.dst G,?_,⟨?_,hlen t,λid=> ?_⟩⟩
  ·rw[agS t ht];unfold AS.call;rw[aYF];refine av.2 ⟨r,h1,?_⟩;rw[hlends,hWt];unfold AS.enter;have hA:(t.bt r.2).xi W=(s.bt r.2).xi W:=Wf aoO;have hO:W.map ((t.bt r.2).mz W)=W.map ((s.bt r.2).mz W):=gb λid cR=>aox aoO cR
   refine aB.2 ⟨?_,wY.2 ⟨x,?_,av.2 ⟨x,aV1,?_⟩⟩⟩
   ·refine dd.2 λid cR=> ?_
    have:=dd.1 CC id cR;simp only[AS.obj,AS.Tf]at this ⊢;rw[aoO id cR];exact this
   ·rw[hA,hO,<-hx]
   ·rw[hA,hO,hG];exact af2.2 ⟨⟨hl,aZd⟩,rfl⟩
  ·rw[hslots t,QG aoO]
  ·by_cases aGo:J9 W o.dst G id
   ·have WY:E.up id=(nU (s.bt r.2) W o.dst G).bQ id:=if_pos aGo;rw[WY];rcases aGo with cR | ⟨gg,q,j,hq,rfl⟩
    ·obtain⟨k,hk⟩:=kf.1 cR;have gv:k < G.bU.length:=by rw[hl];exact(dC.1 hk).1
     rw[b2 k id _ hk (bO gv),d2 k id _ hk (bO gv),Pv aoO,WR (aoO id cR)]
    ·rw[b3 q j gg hq,d3 q j gg hq,Pv aoO];cases hn:G.news[j]? with
     |some e=>rfl
     |none=>
      have:=(hfzent t _).2 (d4 q j gg hq);simp[this]
   ·have WY:E.up id=none:=if_neg aGo;rw[WY,d1 id aGo,fq]
end
end Go.Ab
namespace Go.Ab
section
variable {P:Program} {Γ:om} {bI:List Nat} {ops:Array Oper} {o:Oper} {s t:AS}
theorem Out.bind_assoc{α β γ:Type}(o:Out α)(f:α->Out β)(g:β->Out γ):(o.bind f).bind g=o.bind λa=>(f a).bind g:=by
 induction o with
 |ok a=>rfl
 |fail=>rfl
 |uQ c r ih=>simp only[Out.bind,ih]
 |get x h ih=>simp only[Out.bind,ih]
 |br c x y ih1 ih2=>simp only[Out.bind,ih1,ih2]
theorem aqh{parts:Array (Nat×Operand)}{x:Nat×Operand}(h:x∈parts.toList):x.2∈(parts.toList.map (·.2)).toArray.toList:=c9.2 ⟨x,h,rfl⟩
theorem aBj{T:TypeId}{x:Operand}(db:o.op= .box T x){s':AS}(he:(ank P s (isObj bI o.dst) (au1 bI o.dst) o.dst T (s.ev x)).eval=some s'):On P Γ bI ops o s s':=by
 have agS:∀t,qB P Γ bI o t=ank P t (isObj bI o.dst) (au1 bI o.dst) o.dst T (t.ev x):=λt=>by unfold qB;rw[db]
 have hm:x∈o.op.operands.toList:=by rw[db];simp[Op.operands]
 unfold ank at he;split at he
 ·rename_i q hd;split at he
  ·rename_i ho;obtain⟨h1,h2⟩:=aB.1 he;obtain rfl:=ax.1 h2;simp only[aq]at h1;refine Az (ids:=[]) hd h1.1 (λ_ h=>by cases h) λt ht hv=> ?_
   rw[agS,ht.ev hm];unfold ank;simp only[hd]at ho ⊢;simp only[ho];exact aB.2 ⟨by simp[hv,h1.2],ax.2 rfl⟩
  ·rename_i ho;split at he
   ·rename_i ty aY9;obtain⟨h1,h2⟩:=aB.1 he;obtain⟨y,h3,h4⟩:=av.1 h2;obtain rfl:=ax.1 h4;refine XP (λid cR=>Ng (ahm db rfl) hm (vF _ _ cR)) λt ht=> ?_
    rw[agS,ht.ev hm];unfold ank;simp only[hd]at ho ⊢;simp only[ho,aY9];refine aB.2 ⟨h1,av.2 ⟨y,?_,ax.2 rfl⟩⟩;rw[po _ _ λid cR=>ht.amz (ahm db rfl) hm cR];exact h3
   ·simp only[au]at he
 ·simp only[au]at he
theorem asf{T:TypeId}{x:Operand}(db:o.op= .sliceToArrayPointer T x){s':AS}(he:(N0 P s o.dst T (s.ev x)).eval=some s'):On P Γ bI ops o s s':=by
 have agS:∀t,qB P Γ bI o t=N0 P t o.dst T (t.ev x):=λt=>by unfold qB;rw[db]
 have hm:x∈o.op.operands.toList:=by rw[db];simp[Op.operands]
 unfold N0 at he;split at he
 ·rename_i n e hT;split at he
  ·rename_i ty aY9;obtain⟨h1,h2⟩:=aB.1 he;obtain⟨l,h3,h4⟩:=av.1 h2;obtain⟨h5,h6⟩:=bM.1 h4;obtain rfl:=ax.1 h6;refine XP (λid cR=>Ng (ahm db rfl) hm (vF _ _ cR)) λt ht=> ?_
   rw[agS,ht.ev hm];unfold N0;simp only[hT,aY9];refine aB.2 ⟨h1,av.2 ⟨l,?_,bM.2 ⟨h5,ax.2 rfl⟩⟩⟩;rw[po _ _ λid cR=>ht.amz (ahm db rfl) hm cR];exact h3
  ·simp only[au]at he
 ·simp only[au]at he
theorem anq{T:TypeId}{parts:Array (Nat×Operand)}(db:o.op= .build T parts){s':AS}(he:(Hg P s o.dst T parts.toList).eval=some s'):On P Γ bI ops o s s':=by
 have agS:∀t,qB P Γ bI o t=Hg P t o.dst T parts.toList:=λt=>by unfold qB;rw[db]
 have hm:∀x∈parts.toList,x.2∈o.op.operands.toList:=λx hx=>by rw[db];exact aqh hx
 unfold Hg at he;split at he
 ·rename_i fs hT;split at he
  ·rename_i z hz;obtain⟨h1,h2⟩:=aB.1 he;obtain⟨v,h3,h4⟩:=av.1 h2;obtain rfl:=ax.1 h4;refine lQ λt ht=> ?_
   rw[agS];unfold Hg;simp only[hT,hz];refine aB.2 ⟨h1,av.2 ⟨v,?_,ax.2 rfl⟩⟩;rw[Gt _ _ λx hx=>ht.ev (hm x hx)];exact h3
  ·simp only[au]at he
 ·rename_i n e hT;split at he
  ·rename_i ty aY9;obtain⟨h1,h2⟩:=aB.1 he;obtain⟨r,h3,h4⟩:=av.1 h2;obtain rfl:=ax.1 h4;refine XP (λid cR=> ?_) λt ht=> ?_
   ·obtain⟨x,hx,hi⟩:=xF _ _ _ h3 id cR;exact Ng (ahm db rfl) (hm x hx) hi
   ·rw[agS];unfold Hg;simp only[hT,aY9];refine aB.2 ⟨h1,av.2 ⟨r,?_,ax.2 rfl⟩⟩;rw[A1 _ _ λx hx=>⟨ht.ev (hm x hx),λid cR=>ht.amz (ahm db rfl) (hm x hx) cR⟩];exact h3
  ·simp only[au]at he
 ·simp only[au]at he
theorem Sw{T:TypeId}{n:Nat}{parts:Array (Nat×Operand)}(db:o.op= .buildSlice T n parts){s':AS}(he:(mu P s (aCS bI o.dst) (isObj bI o.dst) o.dst T n parts.toList).eval=some s'):On P Γ bI ops o s s':=by
 have agS:∀t,qB P Γ bI o t=mu P t (aCS bI o.dst) (isObj bI o.dst) o.dst T n parts.toList:=λt=>by unfold qB;rw[db]
 have hm:∀x∈parts.toList,x.2∈o.op.operands.toList:=λx hx=>by rw[db];exact aqh hx
 unfold mu at he;split at he
 ·rename_i e ty b q Kk hd;obtain⟨h1,h2⟩:=aB.1 he;obtain⟨r,h3,h4⟩:=av.1 h2;have aJP:∀id∈r.2,id∈(gG Γ ops s o).rs:=λid cR=>by obtain⟨x,hx,hi⟩:=xF _ _ _ h3 id cR;exact Ng (ahm db rfl) (hm x hx) hi
  have aYF:∀t,mn (gG Γ ops s o) s t->∀l,jj ty t parts.toList l=jj ty s parts.toList l:=λt ht l=>A1 _ _ λx hx=>⟨ht.ev (hm x hx),λid cR=>ht.amz (ahm db rfl) (hm x hx) cR⟩
  split at h4
  ·rename_i ho;obtain⟨h5,h6⟩:=aB.1 h4;obtain rfl:=ax.1 h6;refine Az hd h5 aJP λt ht hv=> ?_
   rw[agS];unfold mu;simp only[hd]at ho Kk ⊢;simp only[Kk,ho];refine aB.2 ⟨h1,av.2 ⟨r,by rw[aYF t ht];exact h3,aB.2 ⟨hv,ax.2 rfl⟩⟩⟩
  ·rename_i ho;obtain rfl:=ax.1 h4;refine XP aJP λt ht=> ?_
   rw[agS];unfold mu;simp only[hd]at ho Kk ⊢;simp only[Kk,ho];exact aB.2 ⟨h1,av.2 ⟨r,by rw[aYF t ht];exact h3,ax.2 rfl⟩⟩
 ·simp only[au]at he
theorem W3{T:TypeId}{x y:Operand}(db:o.op= .makeSlice T x y){len cap:Int}(hx:(asInt (s.ev x)).eval=some len)(hy:(asInt (s.ev y)).eval=some cap){s':AS}(he:(si P s o.dst T len cap).eval=some s'):On P Γ bI ops o s s':=by
 have agS:∀t,qB P Γ bI o t=(asInt (t.ev x)).bind λl=>(asInt (t.ev y)).bind λc=>si P t o.dst T l c:=λt=>by unfold qB;rw[db]
 have hm:∀z,z=x\/z=y->z∈o.op.operands.toList:=λz hz=>by rw[db];simpa[Op.operands]using hz
 unfold si at he;split at he
 ·rename_i e ty b q Kk hd;obtain⟨h1,h2⟩:=aB.1 he;obtain⟨h3,h4⟩:=bM.1 h2;obtain rfl:=ax.1 h4;refine Az (ids:=[]) hd h1 (λ_ h=>by cases h) λt ht hv=> ?_
  rw[agS,ht.ev (hm x (.inl rfl)),ht.ev (hm y (.inr rfl))];refine av.2 ⟨len,hx,av.2 ⟨cap,hy,?_⟩⟩;unfold si;simp only[Kk,hd];exact aB.2 ⟨hv,bM.2 ⟨h3,ax.2 rfl⟩⟩
 ·simp only[au]at he
theorem aky{id:Id}{ver:Nat}{kt vt:Ty}(h:zm (t.bQ id) (s.bQ id)):t.uc id ver kt vt=s.uc id ver kt vt:=by
 unfold AS.uc;rcases Q8 h with⟨h1,h2⟩ | ⟨v,f,f',c,h1,h2⟩
 ·rw[h1,h2]
 ·rw[h1,h2];cases c <;> rfl
theorem aeA{T:TypeId}{m k:aA}{ok:Bool}(h:∀id∈m.ids,zm (t.bQ id) (s.bQ id)):EY P t T m k ok=EY P s T m k ok:=by
 unfold EY;split
 ·rename_i id ver hm;rw[aky (h id (by simp[aA.ids]))]
 ·rfl
theorem ag8{id:Id}{ver:Nat}{kt vt:Ty}{l:List (kt.den×vt.den)}(h:(s.uc id ver kt vt).eval=some l):∃e,s.bQ id=some e:=by
 unfold AS.uc at h;split at h
 ·rename_i v fr k' v' l' lK;exact⟨_,dX lK⟩
 ·simp only[au]at h
theorem Vt{id:Id}{ver:Nat}{kt vt:Ty}(h:t.bQ id=s.bQ id):t.uc id ver kt vt=s.uc id ver kt vt:=by unfold AS.uc AS.obj;rw[h]
theorem L7{id:Id}(h:t.bQ id=s.bQ id):t.uB id=s.uB id:=by unfold AS.uB AS.obj;rw[h]
theorem aeE{T:TypeId}{m k v:aA}{s':AS}(h:(E3 P s T m k v).eval=some s'):
  ∃id e0 e,m.ids=[id]/\s.bQ id=some e0/\s'=s.bg id e/\∀t:AS,t.bQ id=s.bQ id->(E3 P t T m k v).eval=some (t.bg id e):=by
 unfold E3 at h;split at h
 ·rename_i K V kt vt id ver hm;obtain⟨l,h1,h⟩:=av.1 h;obtain⟨kx,h2,h⟩:=av.1 h;obtain⟨vx,h3,h⟩:=av.1 h;obtain⟨hu,h⟩:=aB.1 h;obtain rfl:=ax.1 h;obtain⟨e0,ajY⟩:=ag8 h1;refine⟨id,e0,_,rfl,ajY,rfl,λt ht=> ?_⟩;unfold E3;simp only[hm];exact av.2 ⟨l,by rw[Vt ht];exact h1,av.2 ⟨kx,h2,av.2 ⟨vx,h3,aB.2 ⟨by rw[L7 ht];exact hu,ax.2 rfl⟩⟩⟩⟩
 ·simp only[au]at h
theorem aeD{T:TypeId}{m k:aA}{s':AS}(h:(E2 P s T m k).eval=some s'):
  ∃id e0 e,m.ids=[id]/\s.bQ id=some e0/\s'=s.bg id e/\∀t:AS,t.bQ id=s.bQ id->(E2 P t T m k).eval=some (t.bg id e):=by
 unfold E2 at h;split at h
 ·rename_i K V kt vt id ver hm;obtain⟨l,h1,h⟩:=av.1 h;obtain⟨kx,h2,h⟩:=av.1 h;obtain⟨hu,h⟩:=aB.1 h;obtain rfl:=ax.1 h;obtain⟨e0,ajY⟩:=ag8 h1;refine⟨id,e0,_,rfl,ajY,rfl,λt ht=> ?_⟩;unfold E2;simp only[hm];exact av.2 ⟨l,by rw[Vt ht];exact h1,av.2 ⟨kx,h2,aB.2 ⟨by rw[L7 ht];exact hu,ax.2 rfl⟩⟩⟩
 ·simp only[au]at h
theorem af0{s':AS}(he:(qB P Γ bI o s).eval=some s'):On P Γ bI ops o s s':=by
 have ajY:=he;have one:∀x,o.op.operands= #[x]->∀t,mn (gG Γ ops s o) s t->t.ev x=s.ev x/\(ag9 o.op=false->∀id∈(s.ev x).ids,zm (t.bQ id) (s.bQ id)):=λx hx t ht=>
  have hm:x∈o.op.operands.toList:=by rw[hx];simp
  ⟨ht.ev hm,λhn _ cR=>ht.amz hn hm cR⟩
 unfold qB at he;split at he
 ·rename_i x db;obtain rfl:=ax.1 he;refine lQ λt ht=> ?_
  unfold qB;rw[db];simp only;rw[(one x (by rw[db];rfl) t ht).1];rfl
 ·rename_i x db;obtain rfl:=ax.1 he;refine lQ λt ht=> ?_
  unfold qB;rw[db];simp only;rw[(one x (by rw[db];rfl) t ht).1];rfl
 ·rename_i c x y db;refine od (F:=λt=>azA (t.ev c) (t.ev x) (t.ev y)) (λt=>by unfold qB;rw[db]) (λt ht=> ?_) ajY;rw[ht.ev (by rw[db];simp[Op.operands]),ht.ev (by rw[db];simp[Op.operands]),ht.ev (by rw[db];simp[Op.operands])]
 ·rename_i T db;split at he
  ·rename_i z q hz hq;obtain⟨h1,h2⟩:=aB.1 he;obtain rfl:=ax.1 h2;simp only[aq]at h1;refine Az (ids:=[]) hq h1.1 (λ_ h=>by cases h) λt ht hv=> ?_
   unfold qB;rw[db];simp only[hz,hq];exact aB.2 ⟨by simp[hv,h1.2],ax.2 rfl⟩
  ·exact(au.1 he).elim
 ·rename_i T x db;exact aBj db he
 ·rename_i T parts db;exact anq db he
 ·rename_i T n parts db;exact Sw db he
 ·rename_i T x db;refine od (F:=λt=>P5 P t T (t.ev x)) (λt=>by unfold qB;rw[db]) (λt ht=> ?_) ajY;obtain⟨h1,h2⟩:=one x (by rw[db];rfl) t ht;rw[h1,aps (h2 (ahm db rfl))]
 ·rename_i T x v db;obtain⟨s1,h1,h2⟩:=av.1 he;obtain rfl:=ax.1 h2;obtain⟨id,e0,e,cR,hs,rfl,hl⟩:=alD h1;refine EX hs ?_ λt ht aCJ=> ?_
  ·show id∈writes Γ s o;unfold writes;rw[db];simp only[cR,bn]
  ·unfold qB;rw[db];simp only;rw[ht.ev (x:=x) (by rw[db];simp[Op.operands]),ht.ev (x:=v) (by rw[db];simp[Op.operands])];exact av.2 ⟨_,hl t aCJ,ax.2 rfl⟩
 ·rename_i x db;split at he
  ·rename_i id v p n hx;obtain rfl:=ax.1 he;refine lQ λt ht=> ?_
   unfold qB;rw[db];simp only[(one x (by rw[db];rfl) t ht).1,hx];rfl
  ·rename_i ty y hx;obtain rfl:=ax.1 he;refine lQ λt ht=> ?_
   unfold qB;rw[db];simp only[(one x (by rw[db];rfl) t ht).1,hx];rfl
  ·rename_i ty y hx;obtain⟨z,e,he⟩:=wY.1 he;obtain rfl:=ax.1 he;refine lQ λt ht=> ?_
   unfold qB;rw[db];simp only[(one x (by rw[db];rfl) t ht).1,hx];exact wY.2 ⟨z,e,ax.2 rfl⟩
  ·rename_i f c hx;obtain rfl:=ax.1 he;refine lQ λt ht=> ?_
   unfold qB;rw[db];simp only[(one x (by rw[db];rfl) t ht).1,hx];rfl
  ·exact(au.1 he).elim
 ·rename_i op T x y U db;have aJL:x∈o.op.operands.toList:=by rw[db];simp[Op.operands]
  have aXJ:y∈o.op.operands.toList:=by rw[db];simp[Op.operands]
  split at he
  ·rename_i i v1 j v2 hx hy;obtain⟨v,h1,h2⟩:=av.1 he;obtain rfl:=ax.1 h2;refine lQ λt ht=> ?_
   unfold qB;rw[db];simp only[ht.ev aJL,ht.ev aXJ,hx,hy];exact av.2 ⟨v,by rw[aCa (ht.amz (ahm db rfl) aJL (by rw[hx];simp[aA.ids]))];exact h1,rfl⟩
  ·rename_i gg;obtain⟨v,h1,h2⟩:=av.1 he;obtain rfl:=ax.1 h2;refine lQ λt ht=> ?_
   unfold qB;rw[db];simp only[ht.ev aJL,ht.ev aXJ];exact av.2 ⟨v,h1,rfl⟩
 ·rename_i op T x db;refine od (F:=λt=>baq op (t.ev x)) (λt=>by unfold qB;rw[db]) (λt ht=> ?_) ajY;rw[(one x (by rw[db];rfl) t ht).1]
 ·rename_i T U x db;split at he
  ·rename_i id ver len hTU hx;unfold anO at he;split at he
   ·rename_i v e0 l e lK hD;split at he
    ·rename_i hE;obtain⟨h1,h2⟩:=aB.1 he;obtain⟨h3,h4⟩:=bM.1 h2;obtain rfl:=ax.1 h4;refine EX (dX lK) ?_ λt ht aCJ=> ?_
     ·show id∈writes Γ s o;unfold writes;rw[db];simp only[hTU,hx];simp[aA.ids]
     ·have hob':t.obj id=some (v,false,.vec e0 (.int .u8) l):=by simp only[AS.obj,aCJ];exact lK
      unfold qB;rw[db];simp only[hTU,(one x (by rw[db];rfl) t ht).1,hx];unfold anO;simp only[hob',hD,hE];exact aB.2 ⟨h1,bM.2 ⟨h3,ax.2 rfl⟩⟩
    ·exact(au.1 he).elim
   ·exact(au.1 he).elim
  ·rename_i id ver hx;obtain⟨v,h1,h2⟩:=av.1 he;obtain rfl:=ax.1 h2;refine lQ λt ht=> ?_
   obtain⟨h3,h4⟩:=one x (by rw[db];rfl) t ht;unfold qB;rw[db];simp only[h3,hx];exact av.2 ⟨v,by rw[anP (h4 (ahm db rfl) _ (by rw[hx];simp[aA.ids]))];exact h1,rfl⟩
  ·rename_i gg;obtain⟨v,h1,h2⟩:=av.1 he;obtain rfl:=ax.1 h2;refine lQ λt ht=> ?_
   obtain⟨h3,h4⟩:=one x (by rw[db];rfl) t ht;unfold qB;rw[db];simp only[h3];exact av.2 ⟨v,by rw[anN (h4 (ahm db rfl))];exact h1,rfl⟩
 ·rename_i T x db;exact asf db he
 ·rename_i f first caps db
  obtain⟨h1,h2⟩:=aB.1 he;obtain rfl:=ax.1 h2;refine lQ λt ht=> ?_
  have hc:rR t caps.toList=rR s caps.toList:=OQ _ λx hx=>ht.ev (by rw[db];simp only[Op.operands,bS];exact bD.2 (.inr hx))
  unfold qB;rw[db];simp only[hc];exact aB.2 ⟨h1,ax.2 rfl⟩
 ·rename_i T l c db;obtain⟨n,h1,h2⟩:=av.1 he;obtain⟨m,h3,h4⟩:=av.1 h2;exact W3 db h1 h3 h4
 ·rename_i T x lo hi db;refine od (F:=λt=>IZ P t T (t.ev x) lo hi) (λt=>by unfold qB;rw[db]) (λt ht=> ?_) ajY;have hm:∀z,(z=x\/lo=some z\/hi=some z)->z∈o.op.operands.toList:=λz hz=>by
   rw[db];simp only[Op.operands,bS,bD];rcases hz with rfl | rfl | rfl
   ·left;left;left;simp
   ·left;left;right;simp
   ·left;right;simp
  have hx:=hm x (.inl rfl);rw[ht.ev hx];exact Rf (λid cR=>ht.amz (ahm db rfl) hx cR) (λy hy=>ht.ev (hm y (.inr (.inl hy)))) (λy hy=>ht.ev (hm y (.inr (.inr hy))))
 ·rename_i T x lo y m db;refine od (F:=λt=>Re P t T (t.ev x) lo y m) (λt=>by unfold qB;rw[db]) (λt ht=> ?_) ajY;have hm:∀z,(z=x\/lo=some z\/y=z\/m=z)->z∈o.op.operands.toList:=λz hz=>by
   rw[db];simp only[Op.operands,bS,bD];rcases hz with rfl | rfl | rfl | rfl
   ·left;left;left;simp
   ·left;left;right;simp
   ·left;right;simp
   ·right;simp
  have hx:=hm x (.inl rfl);rw[ht.ev hx];exact afk (λid cR=>ht.amz (ahm db rfl) hx cR) (λz hz=>ht.ev (hm z (.inr (.inl hz)))) (ht.ev (hm y (.inr (.inr (.inl rfl))))) (ht.ev (hm m (.inr (.inr (.inr rfl)))))
 ·rename_i T x f db;refine od (F:=λt=>ES P T (t.ev x) f) (λt=>by unfold qB;rw[db]) (λt ht=> ?_) ajY;rw[(one x (by rw[db];rfl) t ht).1]
 ·rename_i T x f db;refine od (F:=λt=>ajP P T (t.ev x) f) (λt=>by unfold qB;rw[db]) (λt ht=> ?_) ajY;rw[(one x (by rw[db];rfl) t ht).1]
 ·rename_i T x i db;refine od (F:=λt=>(asInt (t.ev i)).bind λi=>rZ P t T (t.ev x) i) (λt=>by unfold qB;rw[db,Out.bind_assoc]) (λt ht=> ?_) ajY;have hx:x∈o.op.operands.toList:=by rw[db];simp[Op.operands]
  rw[ht.ev (x:=i) (by rw[db];simp[Op.operands]),ht.ev hx];congr 1;funext i;exact S5 λid cR=>ht.amz (ahm db rfl) hx cR
 ·rename_i T x i db;refine od (F:=λt=>(asInt (t.ev i)).bind λi=>aj9 P T (t.ev x) i) (λt=>by unfold qB;rw[db,Out.bind_assoc]) (λt ht=> ?_) ajY;rw[ht.ev (x:=i) (by rw[db];simp[Op.operands]),ht.ev (x:=x) (by rw[db];simp[Op.operands])]
 ·rename_i x i db;refine od (F:=λt=>Out.opt ((t.ev x).list[i]?)) (λt=>by unfold qB;rw[db]) (λt ht=> ?_) ajY;rw[(one x (by rw[db];rfl) t ht).1]
 ·rename_i T db;have PF:=he;unfold HV at PF;split at PF
  ·rename_i K V kt vt q hm hd;obtain⟨h1,h2⟩:=aB.1 PF;obtain rfl:=ax.1 h2;refine Az (ids:=[]) hd h1 (λ_ h=>by cases h) λt ht hv=> ?_
   unfold qB;rw[db];simp only;unfold HV;simp only[hm,hd];exact aB.2 ⟨hv,ax.2 rfl⟩
  ·exact(au.1 PF).elim
 ·rename_i T x i ok db;refine od (F:=λt=>EY P t T (t.ev x) (t.ev i) ok) (λt=>by unfold qB;rw[db]) (λt ht=> ?_) ajY;have hx:x∈o.op.operands.toList:=by rw[db];simp[Op.operands]
  rw[ht.ev (x:=i) (by rw[db];simp[Op.operands]),ht.ev hx];exact aeA λid cR=>ht.amz (ahm db rfl) hx cR
 ·rename_i T m k x db;obtain⟨s1,h1,h2⟩:=av.1 he;obtain rfl:=ax.1 h2;obtain⟨id,e0,e,cR,hs,rfl,hl⟩:=aeE h1;refine EX hs ?_ λt ht aCJ=> ?_
  ·show id∈writes Γ s o;unfold writes;rw[db];simp only[cR,bn]
  ·unfold qB;rw[db];simp only;rw[ht.ev (x:=m) (by rw[db];simp[Op.operands]),ht.ev (x:=k) (by rw[db];simp[Op.operands]),ht.ev (x:=x) (by rw[db];simp[Op.operands])];exact av.2 ⟨_,hl t aCJ,ax.2 rfl⟩
 ·rename_i c db;obtain⟨cal,args,tys⟩:=c;simp only at he;split at he
  ·split at he
   ·rename_i m k T T2 ha ht';have bbd:m∈o.op.operands.toList:=by rw[db];simp only[Op.operands,Call.operands,aR,bS,ha];simp
    have aQP:k∈o.op.operands.toList:=by rw[db];simp only[Op.operands,Call.operands,aR,bS,ha];simp
    obtain⟨s1,h1,h2⟩:=av.1 he;obtain rfl:=ax.1 h2;obtain⟨id,e0,e,cR,hs,rfl,hl⟩:=aeD h1;refine EX hs ?_ λt ht aCJ=> ?_
    ·show id∈writes Γ s o;unfold writes;rw[db];simp only[ha,cR,bn]
    ·unfold qB;rw[db];simp only[ha,ht'];rw[ht.ev bbd,ht.ev aQP];exact av.2 ⟨_,hl t aCJ,ax.2 rfl⟩
   ·exact(au.1 he).elim
  ·split at he
   ·rename_i x y T X ha ht';exact aue db rfl ha ht' he
   ·exact(au.1 he).elim
  ·split at he
   ·rename_i x T ha ht';refine od (F:=λt=>aRo P T (t.ev x)) (λt=>by unfold qB;rw[db];simp only[ha,ht']) (λt ht=> ?_) ajY;rw[ht.ev (by rw[db];simp only[Op.operands,Call.operands,aR,bS,ha];simp)]
   ·exact(au.1 he).elim
  ·split at he
   ·rename_i x y T X ha ht';have aJL:x∈o.op.operands.toList:=by rw[db];simp only[Op.operands,Call.operands,aR,bS,ha];simp
    have aXJ:y∈o.op.operands.toList:=by rw[db];simp only[Op.operands,Call.operands,aR,bS,ha];simp
    split at he
    ·rename_i k n hx hy;have PF:=he;unfold aoN at PF;split at PF
     ·rename_i e t0 b q kn Kk hd hX;obtain⟨h1,h2⟩:=aB.1 PF;obtain⟨h3,h4⟩:=bM.1 h2;obtain rfl:=ax.1 h4;refine Az (ids:=[]) hd h1 (λ_ h=>by cases h) λt ht hv=> ?_
      unfold qB;rw[db];simp only[ha,ht',ht.ev aJL,ht.ev aXJ,hx,hy];unfold aoN;simp only[Kk,hd,hX];exact aB.2 ⟨hv,bM.2 ⟨h3,ax.2 rfl⟩⟩
     ·exact(au.1 PF).elim
    ·rename_i gg;exact aiJ db rfl ha ht' gg he
   ·exact(au.1 he).elim
  ·split at he
   ·rename_i x T ha ht';have aJL:x∈o.op.operands.toList:=by rw[db];simp only[Op.operands,Call.operands,aR,bS,ha];simp
    split at he
    ·rename_i e hx hT;obtain rfl:=ax.1 he;refine lQ λt ht=> ?_
     unfold qB;rw[db];simp only[ha,ht',ht.ev aJL,hx,hT];rfl
    ·exact(au.1 he).elim
   ·exact(au.1 he).elim
  ·refine od (F:=λt=>aDi true (args.toList.map t.ev)) (λt=>by unfold qB;rw[db]) (λt ht=> ?_) ajY;congr 1;exact gb λx hx=>ht.ev (by rw[db];simp only[Op.operands,Call.operands,aR,bS];exact hx)
  ·refine od (F:=λt=>aDi false (args.toList.map t.ev)) (λt=>by unfold qB;rw[db]) (λt ht=> ?_) ajY;congr 1;exact gb λx hx=>ht.ev (by rw[db];simp only[Op.operands,Call.operands,aR,bS];exact hx)
  ·split at he
   ·rename_i x ha;have aJL:x∈o.op.operands.toList:=by rw[db];simp only[Op.operands,Call.operands,aR,bS,ha];simp
    split at he
    ·rename_i id ver len hx;obtain⟨h1,h2⟩:=bM.1 he;obtain rfl:=ax.1 h2;refine lQ λt ht=> ?_
     unfold qB;rw[db];simp only[ha,ht.ev aJL,hx];exact bM.2 ⟨h1,rfl⟩
    ·exact(au.1 he).elim
   ·exact(au.1 he).elim
  ·split at he
   ·rename_i x y T U ha ht';have aJL:x∈o.op.operands.toList:=by rw[db];simp only[Op.operands,Call.operands,aR,bS,ha];simp
    have aXJ:y∈o.op.operands.toList:=by rw[db];simp only[Op.operands,Call.operands,aR,bS,ha];simp
    split at he
    ·rename_i id ver n hx hy;have PF:=he;unfold asb at PF;split at PF
     ·rename_i v e l u lK hT;obtain⟨h1,h2⟩:=aB.1 PF;obtain⟨h3,h4⟩:=bM.1 h2;obtain rfl:=ax.1 h4;refine EX (dX lK) ?_ λt ht aCJ=> ?_
      ·show id∈writes Γ s o;unfold writes;rw[db];simp only[ha,hx];simp[aA.ids]
      ·have hob':t.obj id=some (v,false,.vec e (.int .u8) l):=by simp only[AS.obj,aCJ];exact lK
       unfold qB;rw[db];simp only[ha,ht',ht.ev aJL,ht.ev aXJ,hx,hy];unfold asb;simp only[hob',hT];exact aB.2 ⟨h1,bM.2 ⟨h3,ax.2 rfl⟩⟩
     ·exact(au.1 PF).elim
    ·exact(au.1 he).elim
   ·exact(au.1 he).elim
  ·rename_i F _;split at he
   ·rename_i f caps hF;split at he
    ·rename_i en auK;obtain⟨gv,he⟩:=aB.1 he;exact atQ db rfl hF auK gv he
    ·exact(au.1 he).elim
   ·exact(au.1 he).elim
  ·exact(au.1 he).elim
 ·exact(au.1 he).elim
end
end Go.Ab
namespace Go.Ab
section
variable {P:Program} {Γ:om} {bI:List Nat} {ops:Array Oper} {o:Oper} {s t:AS}
def Loc(P:Program)(Γ:om)(bI:List Nat)(ops:Array Oper)(o:Oper)(s s':AS):Prop:=∃E,App o.dst E s s'/\aiE (gG Γ ops s o) s E/\∀t,mn (gG Γ ops s o) s t->∃t',Kh P Γ bI ops o t=some t'/\App o.dst E t t'
theorem ZM{s':AS}(he:Kh P Γ bI ops o s=some s'):Loc P Γ bI ops o s s':=by
 unfold Kh at he;split at he
 ·rename_i hg;obtain⟨E,h1,h2,h3⟩:=af0 (ops:=ops) he;refine⟨E,h1,h2,λt ht=> ?_⟩;obtain⟨t',h4,h5⟩:=h3 t ht;exact⟨t',by unfold Kh;simp only[hg];exact h4,h5⟩
 ·rename_i j want hg;split at he
  ·rename_i q hq;split at he
   ·rename_i b hb;have ayY:∀t,mn (gG Γ ops s o) s t->t.slot q= .d .bool b:=λt ht=>by rw[ht.cg q (bD.2 (.inr (by unfold SS;simp only[hg,hq];simp)))];exact hb
    by_cases e:b=want
    ·rw[if_pos e]at he;obtain⟨E,h1,h2,h3⟩:=af0 (ops:=ops) he;refine⟨E,h1,h2,λt ht=> ?_⟩;obtain⟨t',h4,h5⟩:=h3 t ht;exact⟨t',by unfold Kh;simp only[hg,hq,ayY t ht,if_pos e];exact h4,h5⟩
    ·rw[if_neg e]at he;simp only[ay]at he;subst he;exact⟨⟨.nil,λ_=>none,[]⟩,App.JV _ _ _,⟨λ_ _ h=>by simp at h,λ_ h=>by simp at h⟩,λt ht=>⟨_,by unfold Kh;simp only[hg,hq,ayY t ht,if_neg e],App.JV _ _ _⟩⟩
   ·rename_i hb;have ayY:∀t,mn (gG Γ ops s o) s t->t.slot q= .nil:=λt ht=>by rw[ht.cg q (bD.2 (.inr (by unfold SS;simp only[hg,hq];simp)))];exact hb
    simp only[ay]at he;subst he;exact⟨⟨.nil,λ_=>none,[]⟩,App.JV _ _ _,⟨λ_ _ h=>by simp at h,λ_ h=>by simp at h⟩,λt ht=>⟨_,by unfold Kh;simp only[hg,hq,ayY t ht],App.JV _ _ _⟩⟩
   ·cases he
  ·cases he
theorem amn(h:mn (gG Γ ops s o) s t):writes Γ t o=writes Γ s o:=by
 have aOT:∀id∈writes Γ s o,t.bQ id=s.bQ id:=h.ws;unfold writes at aOT ⊢;split
 ·rename_i x v db;rw[h.ev (by rw[db];simp[Op.operands])]
 ·rename_i m k v db;rw[h.ev (by rw[db];simp[Op.operands])]
 ·rename_i T U x db;rw[h.ev (by rw[db];simp[Op.operands])]
 ·rename_i c db;obtain⟨cal,args,tys⟩:=c;simp only[db]at aOT;simp only;split
  ·split
   ·rename_i x l ha;rw[h.ev (by rw[db];simp only[Op.operands,Call.operands,aR,bS,ha];simp)]
   ·rfl
  ·split
   ·rename_i x l ha;rw[h.ev (by rw[db];simp only[Op.operands,Call.operands,aR,bS,ha];simp)]
   ·rfl
  ·split
   ·rename_i x l ha;rw[h.ev (by rw[db];simp only[Op.operands,Call.operands,aR,bS,ha];simp)]
   ·rfl
  ·split
   ·rename_i x l ha;rw[h.ev (by rw[db];simp only[Op.operands,Call.operands,aR,bS,ha];simp)]
   ·rfl
  ·rename_i F;simp only at aOT;have hm:∀z,z=F\/z∈args.toList->z∈o.op.operands.toList:=λz hz=>by
    rw[db];simp only[Op.operands,Call.operands,bS,bD];rcases hz with rfl | hz
    ·exact .inl (by simp)
    ·exact .inr hz
   have h1:t.ev F=s.ev F:=h.ev (hm F (.inl rfl));have h2:args.toList.map t.ev=args.toList.map s.ev:=gb λx hx=>h.ev (hm x (.inr hx))
   rw[h1];split
   ·rename_i f caps hF;simp only[hF]at aOT;rw[h2];split
    ·rename_i en auK;simp only[auK]at aOT;exact xg _ _ _ λid cR=>by rw[aOT id cR]
    ·rfl
   ·rfl
  ·rfl
 ·rfl
theorem ZF(h:mn (gG Γ ops s o) s t):gG Γ ops t o=gG Γ ops s o:=by
 have h1:=amn h;have h2:ap2 t o=ap2 s o:=by
  unfold ap2;split
  ·rfl
  unfold List.flatMap;congr 1;exact gb λi hi=>by rw[h.cg i (bD.2 (.inl hi))]
 unfold gG;rw[h1,h2]
theorem w9{xs ys:List Id}(h:meets xs ys=false){id:Id}(hx:id∈xs):id ∉ ys:=by
 intro hy;have:meets xs ys=true:=by unfold meets;exact pH.2 ⟨id,hx,pH.2 ⟨id,hy,by simp⟩⟩
 rw[h]at this;cases this
theorem uo{d:Option Tmp}{ids:List Id}(h:acJ d ids=false){q:Nat}(hd:d=some q)(j:Nat):Id.new q j ∉ ids:=by
 intro hy;have:acJ d ids=true:=by subst hd;exact pH.2 ⟨_,hy,by simp⟩
 rw[h]at this;cases this
theorem JN{f g:G3}(h:f.aYQ g=false){q:Nat}(hd:f.dst=some q):q ∉ g.cg/\g.dst≠some q:=by unfold G3.aYQ at h;rw[hd]at h;simp only[Bool.or_eq_false_iff,iZ,ba,gF]at h;exact⟨λhx=>h.1 q hx rfl,h.2⟩
theorem arT(s:AS)(d:Option Tmp)(v:aA)(i:Nat)(h:d≠some i):(s.put d v).slot i=s.slot i:=by
 cases d with
 |none=>rfl
 |some q=>rw[acM,if_neg];rintro⟨rfl,_⟩;exact h rfl
theorem App.slot{d:Option Tmp}{E:aXp}{s s':AS}(h:App d E s s')(i:Nat)(hi:d≠some i):s'.slot i=s.slot i:=by rw[<-arT s d E.v i hi];simp only[AS.slot,h.cg]
theorem amE{f f':G3}{E:aXp}{s s1:AS}(ha:App f.dst E s s1)(hw:aiE f s E)(bbv:∀id∈f'.ws,id∈f'.rs)(h1:f.aYQ f'=false)(h2:meets f.ws f'.rs=false)(h3:meets f'.ws f.rs=false)
  (h4:acJ f.dst f'.rs=false):(∀i∈f'.cg,s1.slot i=s.slot i)/\(∀id∈f'.ws,s1.bQ id=s.bQ id)/\(∀id∈f'.rs,zm (s1.bQ id) (s.bQ id))/\∀q,f'.dst=some q->s1.dV q=s.dV q:=by
 have WY:∀id∈f'.rs,E.up id=none:=λid cR=>by
  cases hu:E.up id with
  |none=>rfl
  |some e=>
   rcases hw.up id e hu with⟨h,_⟩ | ⟨q,j,hd,rfl⟩
   ·exact absurd cR (w9 h2 h)
   ·exact absurd cR (uo h4 hd j)
 refine⟨λi hi=>ha.slot i λhd=>(JN h1 hd).1 hi,λid cR=> ?_,λid cR=> ?_,λq hq=> ?_⟩
 ·rw[ha.bQ,WY id (bbv id cR)];have:id ∉ E.fz:=λhz=>w9 h3 cR (hw.fz id hz)
  simp only[if_neg this]
 ·rw[ha.bQ,WY id cR];simp only;split
  ·exact aE6 _
  ·exact aE7 _
 ·have gg:∀j,(s1.bQ (.new q j)=none↔s.bQ (.new q j)=none):=λj=>by
   rw[ha.bQ];cases hu:E.up (.new q j) with
   |none=>
    simp only;split <;> simp
   |some e=>
    rcases hw.up _ e hu with⟨_,h⟩ | ⟨q',j',hd,he⟩
    ·simp[h]
    ·simp only[Id.new.injEq]at he;obtain⟨rfl,_⟩:=he;exact absurd hq (JN h1 hd).2
  rw[Bool.eq_iff_iff,Bc,Bc,ha.len];exact and_congr Iff.rfl (forall_congr' gg)
theorem Hz(s:AS)(o:Oper):∀id∈(gG Γ ops s o).ws,id∈(gG Γ ops s o).rs:=λ_ cR=>bD.2 (.inr cR)
theorem swap{o':Oper}{s1 s2:AS}(h1:Kh P Γ bI ops o s=some s1)(h2:Kh P Γ bI ops o' s1=some s2)(hi:(gG Γ ops s o).indep (gG Γ ops s1 o')=true):
  ∃t1,Kh P Γ bI ops o' s=some t1/\Kh P Γ bI ops o t1=some s2/\gG Γ ops s o'=gG Γ ops s1 o'/\gG Γ ops t1 o=gG Γ ops s o:=by
 unfold G3.indep at hi;simp only[aq,cr]at hi;obtain⟨⟨⟨⟨⟨i1,i2⟩,i3⟩,i4⟩,i5⟩,i6⟩:=hi;obtain⟨E,a1,w1,l1⟩:=ZM h1;obtain⟨E',a2,w2,l2⟩:=ZM h2;obtain⟨g1,g2,g3,g4⟩:=amE (f:=gG Γ ops s o) (f':=gG Γ ops s1 o') a1 w1 (Hz _ _) i1 i3 i4 i5;have Oh:mn (gG Γ ops s1 o') s1 s:=⟨λi hi=>(g1 i hi).symm,λid cR=>(g2 id cR).symm,λid cR=>by
  have:=g3 id cR
  revert this
  cases s1.bQ id <;> cases s.bQ id <;> simp only[zm] <;> intro h <;> first | trivial | exact h | skip
  rename_i a b;cases a <;> cases b <;> simp_all [dB.amz],λq hq=>(g4 q hq).symm⟩
 obtain⟨t1,k1,k2⟩:=l2 s Oh;have hf':=ZF Oh;have w2':aiE (gG Γ ops s1 o') s E':=⟨λid e hu=>by
  rcases w2.up id e hu with⟨h,hn⟩ | h
  ·exact .inl ⟨h,by rw[<-g2 id h];exact hn⟩
  ·exact .inr h,w2.fz⟩
 obtain⟨m1,m2,m3,m4⟩:=amE (f:=gG Γ ops s1 o') (f':=gG Γ ops s o) k2 w2' (Hz _ _) i2 i4 i3 i6;have aYu:mn (gG Γ ops s o) s t1:=⟨m1,m2,m3,m4⟩;obtain⟨t2,k3,k4⟩:=l1 t1 aYu;refine⟨t1,k1,?_,hf',ZF aYu⟩;rw[k3];congr 1;have aZa:∀id e,E.up id=some e->E'.up id=none/\id ∉ E'.fz:=λid e hu=>by
  rcases w1.up id e hu with⟨h,hn⟩ | ⟨q,j,hd,rfl⟩
  ·refine⟨?_,λhz=>w9 i3 h (w2.fz id hz)⟩;cases hu':E'.up id with
   |none=>rfl
   |some e'=>
    rcases w2.up id e' hu' with⟨h',_⟩ | ⟨q,j,hd,rfl⟩
    ·exact absurd (Hz _ _ id h') (w9 i3 h)
    ·exact absurd (Hz _ _ _ h) (uo i6 hd j)
  ·refine⟨?_,λhz=>uo i5 hd j (w2.fz _ hz)⟩;cases hu':E'.up (.new q j) with
   |none=>rfl
   |some e'=>
    rcases w2.up _ e' hu' with⟨h',_⟩ | ⟨q',j',hd',he⟩
    ·exact absurd (Hz _ _ _ h') (uo i5 hd j)
    ·simp only[Id.new.injEq]at he;obtain⟨rfl,_⟩:=he;exact absurd hd' (JN i1 hd).2
 have bbC:∀id e,E'.up id=some e->E.up id=none/\id ∉ E.fz:=λid e hu=>by
  have hn:E.up id=none:=by
   cases beb:E.up id with
   |none=>rfl
   |some e1=>rw[(aZa id e1 beb).1]at hu;cases hu
  refine⟨hn,λhz=> ?_⟩;rcases w2.up id e hu with⟨h,_⟩ | ⟨q,j,hd,rfl⟩
  ·exact w9 i4 h (w1.fz id hz)
  ·exact uo i6 hd j (w1.fz _ hz)
 refine AS.aJe ?_ (by rw[k4.len,k2.len,a2.len,a1.len]) λid=> ?_
 ·have e1:∀(u u':AS) (d:Option Tmp) (v:aA),u.cg=u'.cg->(u.put d v).cg=(u'.put d v).cg:=λu u' d v h=>by cases d <;> simp[AS.put,h]
  rw[k4.cg,a2.cg,e1 t1 (s.put o'.dst E'.v) _ _ k2.cg,e1 s1 (s.put o.dst E.v) _ _ a1.cg];cases hd:o.dst with
  |none=>cases o'.dst <;> rfl
  |some q=>
   cases hd':o'.dst with
   |none=>rfl
   |some q'=>
    have gg:q'≠q:=λe=>(JN (f:=gG Γ ops s o) i1 hd).2 (by show o'.dst=some q;rw[hd',e])
    simp only[AS.put];exact List.set_comm _ _ gg
 ·rw[k4.bQ,k2.bQ,a2.bQ,a1.bQ];cases hu:E.up id with
  |some e=>
   obtain⟨h3,h4⟩:=aZa id e hu;simp only[h3,if_neg h4]
  |none=>
   simp only;cases hu':E'.up id with
   |some e=>
    obtain⟨_,h4⟩:=bbC id e hu';simp only[if_neg h4]
   |none=>
    simp only;by_cases z1:id∈E.fz <;> by_cases z2:id∈E'.fz <;> simp only[if_pos,if_neg,z1,z2,not_false_eq_true]
end
end Go.Ab
namespace Go.Ab
section
variable {P:Program} {Γ:om} {bI:List Nat} {ops:Array Oper}
def amA(P:Program)(Γ:om)(bI:List Nat)(ops:Array Oper)(fs:Nat->G3):List Nat->AS->AS->Prop
 |[],s,sn=>s=sn
 |i::l,s,sn=>∃o,ops[i]? =some o/\gG Γ ops s o=fs i/\∃s',Kh P Γ bI ops o s=some s'/\amA P Γ bI ops fs l s' sn
theorem amA.aHz{fs:Nat->G3}{i:Nat}{l2:List Nat}{sn:AS}:∀(l1:List Nat) {s:AS},amA P Γ bI ops fs (l1++i::l2) s sn->(∀j∈l1,(fs j).indep (fs i)=true)->amA P Γ bI ops fs (i::(l1++l2)) s sn
 |[],_,h,_=>h
 |j::l1,s,h,hi=>by
  obtain⟨oj,h1,h2,s1,h3,h4⟩:=h;obtain⟨oi,h5,h6,s2,h7,h8⟩:=amA.aHz l1 h4 λj hj=>hi j (aI _ hj)
  have hd:=hi j (aN ..);rw[<-h2,<-h6]at hd;obtain⟨t1,k1,k2,k3,k4⟩:=swap h3 h7 hd;exact⟨oi,h5,by rw[k3,h6],t1,k1,oj,h1,by rw[k4,h2],s2,k2,h8⟩
theorem agP{R:Type}{anc:List Nat}{k:AS->Option R}{r:R}:∀(l:List Oper) (i:Nat) (acc:List (Nat×G3)) (s:AS) (f0:Nat->G3),(∀n o,l[n]? =some o->ops[i+n]? =some o)->(∀x∈acc,f0 x.1=x.2/\x.1 < i)->
  agO P Γ bI ops anc i l acc s k=some r->∃fs sn,(∀j,j < i->fs j=f0 j)/\amA P Γ bI ops fs (List.range' i l.length) s sn/\k sn=some r/\
   (∀x∈acc,∀m,i<=m->m < i+l.length->(anc.getD m 0).testBit x.1=true\/x.2.indep (fs m)=true)/\(∀m1 m2,i<=m1->m1 < m2->m2 < i+l.length->(anc.getD m2 0).testBit m1=true\/(fs m1).indep (fs m2)=true)
 |[],i,acc,s,f0,_,_,h=>⟨f0,s,λ_ _=>rfl,rfl,h,λ_ _ m h1 h2=>by simp at h2;omega,λ_ _ h1 h2 h3=>by simp at h3;omega⟩
 |o::l,i,acc,s,f0,ho,hf,h=>by
  unfold agO at h;split at h
  ·rename_i CC;simp only[AS.Q3]at h;obtain⟨s',h1,h2⟩:=aoM (k:=λs'=>agO P Γ bI ops anc (i+1) l ((i,gG Γ ops s o)::acc) s' k) h;have baN:∀x∈(i,gG Γ ops s o)::acc,(if x.1=i then gG Γ ops s o else f0 x.1)=x.2/\x.1 < i+1:=λx hx=>by
    rcases cj.1 hx with rfl | hx
    ·simp
    ·obtain⟨q1,q2⟩:=hf x hx;rw[if_neg (by omega)];exact⟨q1,by omega⟩
   obtain⟨fs,sn,g1,g2,g3,g4,g5⟩:=agP l (i+1) ((i,gG Γ ops s o)::acc) s' (λn=>if n=i then gG Γ ops s o else f0 n)
    (λn o' hn=>by have:=ho (n+1) o' (by simpa using hn);rw[<-this];congr 1;omega) baN h2
   have gi:fs i=gG Γ ops s o:=by rw[g1 i (by omega),if_pos rfl]
   refine⟨fs,sn,λj hj=>by rw[g1 j (by omega),if_neg (by omega)],?_,g3,λx hx m h3 h4=> ?_,λm1 m2 h3 h4 h5=> ?_⟩
   ·rw[az,List.range'_succ];exact⟨o,ho 0 o rfl,gi.symm,s',h1,g2⟩
   ·rcases Nat.eq_or_lt_of_le h3 with rfl | h3
    ·have:=dd.1 CC x hx;simp only[gw]at this;rcases this with h | h
     ·exact .inl h
     ·right;rw[gi];exact h
    ·exact g4 x (aI _ hx) m (by omega) (by simp only[az]at h4;omega)
   ·rcases Nat.eq_or_lt_of_le h3 with rfl | h3
    ·rw[gi];exact g4 (i,gG Γ ops s o) (aN ..) m2 (by omega) (by simp only[az]at h5;omega)
    ·exact g5 m1 m2 (by omega) h4 (by simp only[az]at h5;omega)
  ·cases h
theorem amK{acc:List Nat}{j:Nat}:∀ {l:List Edge},(l.foldr (λe m=>Nat.lor (Nat.lor (Nat.pow 2 e.on) (acc.getD e.on 0)) m) 0).testBit j=true->∃e∈l,j=e.on\/(acc.getD e.on 0).testBit j=true
 |[],h=>by simp at h
 |e::l,h=>by
  rw[List.foldr_cons,show ∀x y,Nat.lor x y=x ||| y from λ_ _=>rfl,show ∀x y,Nat.lor x y=x ||| y from λ_ _=>rfl,Nat.testBit_or,Nat.testBit_or,show Nat.pow 2 e.on=2^e.on from rfl,Nat.testBit_two_pow]at h;simp only[gw,ba]at h;rcases h with(h | h) | h
  ·exact⟨e,aN ..,.inl h.symm⟩
  ·exact⟨e,aN ..,.inr h⟩
  ·obtain⟨e',h1,h2⟩:=amK h;exact⟨e',aI _ h1,h2⟩
theorem afZ:∀(l:List Oper) (acc:List Nat),(∀i,i < acc.length->(l.foldl (λacc o=>acc++ [aiG acc o]) acc)[i]? =acc[i]?)/\
  ∀i o,l[i]? =some o->(l.foldl (λacc o=>acc++ [aiG acc o]) acc)[acc.length+i]? =some (aiG ((l.foldl (λacc o=>acc++ [aiG acc o]) acc).take (acc.length+i)) o)
 |[],acc=>⟨λ_ _=>rfl,λi o h=>by simp at h⟩
 |x::l,acc=>by
  obtain⟨h1,h2⟩:=afZ l (acc++ [aiG acc x]);simp only[bo];refine⟨λi hi=> ?_,λi o hi=> ?_⟩
  ·rw[h1 i (by simp;omega),fe hi]
  ·cases i with
   |zero=>
    simp only[fF,ay]at hi;subst hi;rw[cd,h1 _ (by simp)];have:(l.foldl (λacc o=>acc++ [aiG acc o]) (acc++ [aiG acc x])).take acc.length=acc:=by
     apply kD;intro j;rw[cZ];split
     ·rename_i hj;rw[h1 j (by simp;omega),fe hj]
     ·rename_i hj;rw[dD (by omega)]
    rw[this];simp
   |succ i=>
    have:=h2 i o (by simpa using hi);simp only[ai,az,aX,aJ]at this;rw[show acc.length+(i+1)=acc.length+1+i by omega];exact this
theorem aGK{l:List Oper}{i:Nat}{o:Oper}(hi:l[i]? =some o){j:Nat}(hj:((amL l).getD i 0).testBit j=true):∃e∈o.after.toList,Region.binds .any e=true/\(j=e.on\/((amL l).getD e.on 0).testBit j=true):=by
 have h:=(afZ l []).2 i o hi;have e:amL l=l.foldl (λacc o=>acc++ [aiG acc o]) []:=rfl;rw[<-e]at h;simp only[aX,aJ]at h;rw[aD,h]at hj;obtain⟨e,h1,h3⟩:=amK hj;obtain⟨h1,h2⟩:=nq.1 h1;refine⟨e,h1,h2,h3.imp id λh4=> ?_⟩;rw[aD,cZ]at h4;split at h4
 ·rw[aD];exact h4
 ·simp at h4
def aip(n:Nat)(listed:Array Bool):List Nat:=(List.range n).filter λi=> !listed.getD i true
theorem Qc{n:Nat}{listed:Array Bool}{i:Nat}:i∈aip n listed↔i < n/\listed.getD i true=false:=by simp[aip]
theorem Od(n:Nat)(listed:Array Bool):(aip n listed).Pairwise (· < ·):=(List.pairwise_lt_range).filter _
theorem ZL{listed:Array Bool}{i j:Nat}(d:Bool)(hi:i < listed.size):(listed.setIfInBounds i true).getD j d=if j=i then true else listed.getD j d:=by
 simp only[cF,dP];by_cases h:i=j
 ·subst h;simp[hi]
 ·simp[h,Ne.symm h]
theorem aTg{listed:Array Bool}{i:Nat}(hi:i < listed.size){l1 l2:List Nat}(h:aip listed.size listed=l1++i::l2):aip listed.size (listed.setIfInBounds i true)=l1++l2:=by
 have hs:=Od listed.size listed;rw[h]at hs;obtain⟨p1,p2,p3⟩:=List.pairwise_append.1 hs;obtain⟨p4,_⟩:=List.pairwise_cons.1 p2;have e:aip listed.size (listed.setIfInBounds i true)=(aip listed.size listed).filter λj=>decide (j≠i):=by
  unfold aip;rw[List.filter_filter];refine List.filter_congr λj _=> ?_
  rw[ZL true hi];by_cases hj:j=i
  ·simp[hj]
  ·simp[hj]
 rw[e,h,List.filter_append,List.filter_cons];have f1:l1.filter (λj=>decide (j≠i))=l1:=jg.2 λj hj=>by have:=p3 j hj i (aN ..);simp;omega
 have f2:l2.filter (λj=>decide (j≠i))=l2:=jg.2 λj hj=>by have:=p4 j hj;simp;omega
 rw[f1,f2];simp
theorem aAE{rd:Option Nat}{n:Nat}{C:Ctx}(hΓ:Sound P Γ){fs:Nat->G3}{sn:AS}{Q:Exit->Act->World->Prop}(hE:ajG ops.toList=true)
  (ba4:∀m1 m2,m1 < m2->m2 < ops.size->((amL ops.toList).getD m2 0).testBit m1=true\/(fs m1).indep (fs m2)=true) (hQ:∀a w,ia C sn a w->Q .normal a w):
  ∀(fuel:Nat) (listed:Array Bool) (s:AS) (a:Act) (w:World),listed.size=ops.size->(aip ops.size listed).length=fuel->
   (∀i,i < ops.size->listed.getD i true=true->∀j,((amL ops.toList).getD i 0).testBit j=true->listed.getD j false=true)->amA P Γ bI ops fs (aip ops.size listed) s sn->ia C s a w->wpAnyIn (Fr rd) n P .any ops Q fuel listed a w:=by
 have aTR:∀i o,ops[i]? =some o->∀e∈o.after.toList,Region.binds .any e=true->e.on < i:=λi o hi e he hb=>by have:=dd.1 hE (o,i) (List.mem_zipIdx_iff_getElem?.2 (by simpa using hi));have:=dd.1 this e he;simpa[hb]using this
 have aVS:∀(listed:Array Bool),listed.size=ops.size->∀i,i∈Region.ready .any ops listed↔i∈aip ops.size listed/\∀o,ops[i]? =some o->∀e∈o.after.toList,Region.binds .any e=true->listed.getD e.on false=true:=λlisted _ i=>by
  rw[Qc];unfold Region.ready;simp only[nq,List.mem_range,aq,cr];constructor
  ·rintro⟨h1,h2,h3⟩;refine⟨⟨h1,h2⟩,λo ho e he hb=> ?_⟩;rw[ho]at h3;simp only[dQ,dK,Array.all_eq_true',gw,cr]at h3;rcases h3 e (by simpa using he) with h | h
   ·rw[hb]at h;cases h
   ·exact h
  ·rintro⟨⟨h1,h2⟩,h3⟩;refine⟨h1,h2,?_⟩;obtain⟨o,ho⟩:∃o,ops[i]? =some o:=⟨ops[i],by simp[h1]⟩
   rw[ho];simp only[dQ,dK,Array.all_eq_true',gw,cr];intro e he;cases hb:Region.binds .any e with
   |false=>exact .inl rfl
   |true=>exact .inr (h3 o ho e (by simpa using he) hb)
 have qu:∀(listed:Array Bool),listed.size=ops.size->Region.ready .any ops listed=[]->aip ops.size listed=[]:=λlisted hs hr=>by
  cases hu:aip ops.size listed with
  |nil=>rfl
  |cons i l=>
   exfalso;have hi:i∈aip ops.size listed:=by rw[hu];exact aN ..
   have aY7:=Od ops.size listed;rw[hu]at aY7;have:i∈Region.ready .any ops listed:=(aVS listed hs i).2 ⟨hi,λo ho e he hb=>by
    have gv:=aTR i o ho e he hb;have aoT:=(Qc.1 hi).1;cases hl:listed.getD e.on true with
    |false=>
     have hm:e.on∈aip ops.size listed:=Qc.2 ⟨by omega,hl⟩;rw[hu]at hm;rcases cj.1 hm with h | h
     ·omega
     ·have:=(List.pairwise_cons.1 aY7).1 _ h;omega
    |true=>
     have:e.on < listed.size:=by omega
     simp only[cF,fb this,dK]at hl ⊢;exact hl⟩
   rw[hr]at this;cases this
 intro fuel
 induction fuel with
 |zero=>
  intro listed s a w hs hl _ hr ml;have hn:aip ops.size listed=[]:=bB hl;refine⟨?_,?_⟩
  ·cases bbr:Region.ready .any ops listed with
   |nil=>rfl
   |cons i l=>
    have:i∈Region.ready .any ops listed:=by rw[bbr];exact aN ..
    have:=((aVS listed hs i).1 this).1;rw[hn]at this;cases this
  ·rw[hn]at hr;have:s=sn:=hr;subst this;exact hQ a w ml
 |succ fuel ih=>
  intro listed s a w hs hl aGm hr ml;refine⟨λbbr=> ?_,λi hi=> ?_⟩
  ·have:=qu listed hs bbr;rw[this]at hl;simp at hl
  ·obtain⟨hu,aYH⟩:=(aVS listed hs i).1 hi;obtain⟨aoT,beL⟩:=Qc.1 hu;obtain⟨o,ho⟩:∃o,ops[i]? =some o:=⟨ops[i],by simp[aoT]⟩
   obtain⟨l1,l2,aJS⟩:=List.append_of_mem hu;have aY7:=Od ops.size listed;rw[aJS]at aY7;have aYx:∀j,((amL ops.toList).getD i 0).testBit j=true->listed.getD j false=true:=λj hj=>by
    obtain⟨e,he,hb,h | h⟩:=aGK (by simpa using ho) hj
    ·rw[h];exact aYH o ho e he hb
    ·have h1:=aYH o ho e he hb;have h2:=aTR i o ho e he hb;refine aGm e.on (by omega) ?_ j h
     have:e.on < listed.size:=by omega
     simp only[cF,fb this,dK]at h1 ⊢;exact h1
   rw[aJS]at hr;have hb:=amA.aHz l1 hr λj hj=>by
    have gv:j < i:=(List.pairwise_append.1 aY7).2.2 j hj i (aN ..);rcases ba4 j i gv aoT with h | h
    ·have h1:=aYx j h;have bdQ:j∈aip ops.size listed:=by rw[aJS];exact bD.2 (.inl hj)
     have h2:=(Qc.1 bdQ).2;have:j < listed.size:=by omega
     simp only[cF,fb this,dK]at h1 h2;rw[h1]at h2;cases h2
    ·exact h
   obtain⟨o',ho',hf,s',hg,pT⟩:=hb;obtain rfl:o=o':=by rw[ho]at ho';simpa using ho'
   have aj5:aip ops.size (listed.setIfInBounds i true)=l1++l2:=by rw[<-hs]at aJS ⊢;exact aTg (by omega) aJS
   refine((agN hΓ ml hg).mono λa' w' hst'=>ih (listed.setIfInBounds i true) s' a' w' (by simpa using hs) ?_ ?_ (by rw[aj5];exact pT) hst').wpOpIn ho
   ·rw[aj5];rw[aJS]at hl;simp only[ai,az]at hl ⊢;omega
   ·intro m hm aZ8 j hj;rw[ZL false (by omega)];split
    ·rfl
    ·rw[ZL true (by omega)]at aZ8;split at aZ8
     ·rename_i bdX;subst bdX;exact aYx j hj
     ·exact aGm m hm aZ8 j hj
theorem aq7{rd:Option Nat}{n:Nat}{C:Ctx}(hm:P.follows .mixedOrders=true)(hΓ:Sound P Γ){id:Nat}{R:Type}{Q:Exit->Act->World->Prop}{s:AS}{a:Act}{w:World}{k:AS->Option R}{r:R}(h:ia C s a w)(hE:ajG ops.toList=true)
  (he:agO P Γ bI ops (amL ops.toList) 0 ops.toList [] s k=some r) (hk:∀s' a' w',ia C s' a' w'->k s'=some r->Q .normal a' w'):(Code.region id ops true).wpIn (Fr rd) n P Q a w:=by
 obtain⟨fs,sn,_,g2,g3,_,g5⟩:=agP ops.toList 0 [] s (λ_=>⟨none,[],[],[]⟩) (λn o hn=>by simpa using hn) (λ_ hx=>by cases hx) he;refine wpIn_region_any hm ?_
 obtain⟨g,β,h⟩:=h;have hu:aip ops.size (Array.replicate ops.size false)=List.range' 0 ops.toList.length:=by
  unfold aip;rw[jg.2]
  ·simp[List.range_eq_range']
  ·intro i hi;have hi:i < ops.size:=by simpa using hi
   simp[cF,hi]
 refine aAE (bI:=bI) hΓ hE (fs:=fs) (sn:=sn) (λm1 m2 h1 h2=>g5 m1 m2 (aL _) h1 (by simpa using h2)) (λa' w' hs=>hk sn a' w' hs g3) ops.size _ s a _ (by simp) (by rw[hu];simp) (λi hi hl=> ?_) (by rw[hu];exact g2) ⟨g,β,h.drew⟩;simp[cF,hi]at hl
end
end Go.Ab
namespace Go.Ab
theorem xj{ρ:Ren}{s:AS}(h:∀id,(s.obj id).isSome=true->∀ver,ρ id ver=some (id,ver)):∀(v:aA),v.there s=true->v.iC ρ=v
 | .ptr id ver p n,ht=>by simp only[aA.iC];rw[h id ht]
 | .bu id ver p c i len,ht=>by simp only[aA.iC];rw[h id ht]
 | .pr a b,ht=>by simp only[aA.there,aq]at ht;simp only[aA.iC];rw[xj h a ht.1,xj h b ht.2]
 | .cons a b,ht=>by simp only[aA.there,aq]at ht;simp only[aA.iC];rw[xj h a ht.1,xj h b ht.2]
 | .fn f c,ht=>by simp only[aA.iC];rw[xj h c ht]
 | .bx e z c,ht=>by simp only[aA.iC];rw[xj h c ht]
 | .cm id ver,ht=>by simp only[aA.iC];rw[h id ht]
 | .yl id ver,ht=>by simp only[aA.iC];rw[h id ht]
 | .qX k f p,ht=>by simp only[aA.iC];rw[xj h f ht]
 | .sH ..,ht=>by cases ht
 | .undef,_ | .gone,_ | .cV,_ | .qC,_ | .xc,_ | .CI,_ | .d _ _,_ | .dL _ _,_ | .nil,_ | .vec ..,_ | .mp ..,_ | .sb _,_=>rfl
theorem aUu.aU{E E':Env}(hm:tn E E')(hh:∀b:Nat,E'.w.heap[b]? =E.w.heap[b]?){i q:Id}{ver:Nat}{kt vt:Ty}{rest:List (kt.den×vt.den)}{cur:Option (kt.den×vt.den)}(h:aUu E i q ver kt vt rest cur)(hβ:E'.β i=E.β i)
  (hg:∀pl,E.β i=some pl->E.g pl.b= .own (.id i) 0->E'.g pl.b= .own (.id i) 0)
  (hq:∀vr,ver=vr+1->(E.F4 q vr->E'.F4 q vr/\(E'.cur q vr->E.cur q vr/\E'.β q=E.β q))/\(∀k v l,E.s q=some (.obj vr true (.mp k v l))->E'.s q=some (.obj vr true (.mp k v l)))/\
   ∀pl,E.β q=some pl->E.g pl.b= .own (.id q) 0->E'.g pl.b= .own (.id q) 0):aUu E' i q ver kt vt rest cur:=by
 obtain⟨pl,mb,since,seen,c0,h1,h2,h3,h4⟩:=h;refine⟨pl,mb,since,seen,c0,by rw[hβ,h1],by rw[hh,h2],hg pl h1 h3,λvr asV=> ?_⟩;obtain⟨h5,h6⟩:=h4 vr asV;obtain⟨q1,q2,q3⟩:=hq vr asV;obtain⟨b1,b2⟩:=q1 h5;refine⟨b1,λhc=> ?_⟩;obtain⟨c1,c2⟩:=b2 hc;obtain⟨⟨k,v,l,k0⟩,plq,es,clock,k1,k2,k3,k4,k5,k6,k7,k8,k9⟩:=h6 c1;exact⟨⟨k,v,l,q2 _ _ _ k0⟩,plq,es,clock,by rw[c2,k1],k2,by rw[hh,k3],q3 _ k1 k4,k5,k6,k7,k8.mono hm,λx hx=>
  let⟨e,se,a1,a2,a3,a4⟩:=k9 x hx
  ⟨e,se,a1,a2,a3,a4.mono hm⟩⟩
theorem au2(c:aA):(∃q ver k v l cu,c= .sH q ver k v l cu)\/(∀ρ kp,c.aEy ρ kp=c.iC ρ)/\∀s v fr,dB.there s (.obj v fr c)=c.there s:=by cases c <;> first | exact .inl ⟨_,_,_,_,_,_,rfl⟩ | exact .inr ⟨λ_ _=>rfl,λ_ _ _=>rfl⟩
section
variable {P:Program} {C:Ctx} {g:Nat->lS} {β:Id->Option Pl} {s:AS} {a:Act} {w:World}
theorem Inv.TD(h:Inv C g β s a w)(hC:C.ok){s1:AS}{g1:Nat->lS}{β1:Id->Option Pl}(ρ:Ren)(hlen:s1.cg.length=s.cg.length)(ht:Trans w w g g1)(hle:zU ρ (s.env w g β) (s1.env w g1 β1))
  (ZT:∀i,VS (s1.env w g1 β1) (s1.slot i) (a.tmps.getD i undef))
  (cM:∀id ver fr c,s1.bQ id=some (.obj ver fr c)->wQ (s1.env w g1 β1) id fr c\/∃id0 v0 c0,s.bQ id0=some (.obj v0 fr c0)/\c0.iC ρ=c/\β1 id=β id0/\∀pl,β id0=some pl->(∀k,g pl.b= .own (.id id0) k->g1 pl.b= .own (.id id) k)/\(g pl.b= .free->g1 pl.b= .free))
  (hold:∀k,(s.bQ (.bh k)≠none->s1.bQ (.bh k)≠none)/\(∀v fr c,s1.bQ (.bh k)=some (.obj v fr c)->∃c0,s.bQ (.bh k)=some (.obj v fr c0))/\β1 (.bh k)=β (.bh k)):Inv C g1 β1 s1 a w:=by
 refine⟨h.defers.mono ht,by rw[hlen];exact h.size,ZT,λid ver fr c cR=> ?_,h.trans.trans ht,?_⟩
 ·rcases cM id ver fr c cR with ho | ⟨id0,v0,c0,h1,h2,h3,h4⟩
  ·exact ho
  have:=wR hle (h.bI id0 v0 fr c0 h1) (id':=id) h3 λpl hp=>⟨rfl,(h4 pl hp).1,(h4 pl hp).2⟩
  rw[h2]at this;exact this
 ·have hl:=h.le;have ho:∀id ver,C.E.F4 id ver->∃k,id= .bh k:=λid ver hb=>by
   cases id with
   |bh k=>exact⟨k,rfl⟩
   |new i j=>exact absurd (hC.1 i j) hb.1
  refine⟨hl.mem.trans (Trans.mem (E:=s.env w g β) (E':=s1.env w g1 β1) ht),λid ver hb=> ?_,λid ver hb hc=> ?_⟩
  ·obtain⟨k,rfl⟩:=ho id ver hb;obtain⟨h1,h2⟩:=hl.F4 _ ver hb;obtain⟨e1,e2,_⟩:=hold k;exact⟨e1 h1,λv fr c hh=>let⟨c0,XH⟩:=e2 v fr c hh;h2 v fr c0 XH⟩
  ·obtain⟨k,rfl⟩:=ho id ver hb;obtain⟨fr,c,hc⟩:=hc;obtain⟨_,e2,e3⟩:=hold k;obtain⟨c0,XH⟩:=e2 _ _ _ hc;obtain⟨h1,h2⟩:=hl.cur _ ver hb ⟨fr,c0,XH⟩;exact⟨h1,e3.trans h2⟩
theorem Inv.renamed(h:Inv C g β s a w)(hC:C.ok){s1:AS}{β1:Id->Option Pl}(ρ:Ren)(hlen:s1.cg.length=s.cg.length)(hle:zU ρ (s.env w g β) (s1.env w g β1))
  (ZT:∀i,VS (s1.env w g β1) (s1.slot i) (a.tmps.getD i undef)) (cM:∀id ver fr c,s1.bQ id=some (.obj ver fr c)->wQ (s1.env w g β1) id fr c\/∃v0,s.bQ id=some (.obj v0 fr c)/\c.iC ρ=c/\β1 id=β id)
  (hold:∀k,s1.bQ (.bh k)=s.bQ (.bh k)/\β1 (.bh k)=β (.bh k)):Inv C g β1 s1 a w:=
 h.TD hC ρ hlen (Trans.refl w g) hle ZT (λid ver fr c cR=>(cM id ver fr c cR).imp (λh=>h) λ⟨v0,h1,h2,h3⟩=>⟨id,v0,c,h1,h2,h3,λ_ _=>⟨λ_ h=>h,λh=>h⟩⟩)
  λk=>⟨λhh=>by rw[(hold k).1];exact hh,λv fr c hh=>⟨c,(hold k).1.symm.trans hh⟩,(hold k).2⟩
theorem Inv.aZw(h:Inv C g β s a w)(j:Nat){v:aA}(hv:VS (s.env w g β) v (a.tmps.getD j undef)):Inv C g β (s.put (some j) v) a w:=by
 refine⟨h.defers,by simpa[AS.put]using h.size,λi=> ?_,by simpa using h.bI,h.trans,by simpa using h.le⟩;rw[ajI,acM];split
 ·rename_i aZ6;rw[aZ6.1];exact hv
 ·exact h.cg i
theorem T1(aU:List Nat):∀(l:List aA) (n i:Nat),(eD aU n l).getD i .undef= .undef\/(eD aU n l).getD i .undef=l.getD i .undef
 |[],n,i=>by simp[eD]
 |v::l,n,0=>by
  simp only[eD,jh];split
  ·exact .inr rfl
  ·exact .inl rfl
 |v::l,n,i+1=>by simp only[eD,qz];exact T1 aU l (n+1) i
theorem CD(aU:List Nat):∀(l:List aA) (n:Nat),(eD aU n l).length=l.length
 |[],n=>rfl
 |v::l,n=>by simp[eD,CD aU l]
theorem ah6(aU:List Nat):∀(l:List (List dB)) (n i:Nat),(nL aU n l).getD i []=[]\/(nL aU n l).getD i []=l.getD i []
 |[],n,i=>by simp[nL]
 |v::l,n,0=>by
  simp only[nL,jh];split
  ·exact .inr rfl
  ·exact .inl rfl
 |v::l,n,i+1=>by simp only[nL,qz];exact ah6 aU l (n+1) i
theorem aDh{s:AS}(i:Nat):s.slot i= .undef\/s.slot i∈s.cg:=by
 unfold AS.slot;rw[aD];cases h:s.cg[i]? with
 |none=>exact .inl rfl
 |some v=>exact .inr (cG h)
theorem aQt{s:AS}{id:Id}{e:dB}(h:s.bQ id=some e):e∈s.bU\/∃es∈s.news,e∈es:=by
 cases id with
 |bh k=>exact .inl (cG h)
 |new i j=>
  simp only[AS.bQ,aD]at h;cases hi:s.news[i]? with
  |none=>rw[hi]at h;simp at h
  |some es=>rw[hi]at h;exact .inr ⟨es,cG hi,cG h⟩
theorem Inv.aU(h:Inv C g β s a w)(hC:C.ok){an:nZ}(ht:(PU an s).amH=true):Inv C g β (PU an s) a w:=by
 obtain⟨ks,kt,_,_,_⟩:=an;obtain⟨s1,R6⟩:∃s1:AS,s1= {cg:=eD ks 0 s.cg,bU:=s.bU,news:=nL kt 0 s.news}:=⟨_,rfl⟩;have e1:s1.cg=eD ks 0 s.cg:=by rw[R6]
 have e2:s1.bU=s.bU:=by rw[R6]
 have e3:s1.news=nL kt 0 s.news:=by rw[R6]
 have ht:(s1.cg.all (aA.there s1) && s1.bU.all (dB.there s1) && s1.news.all λes=>es.all (dB.there s1))=true:=by rw[R6];exact ht
 show Inv C g β {cg:=eD ks 0 s.cg,bU:=s.bU,news:=nL kt 0 s.news} a w;rw[<-R6];rw[aq,aq]at ht;obtain⟨⟨t1,t2⟩,t3⟩:=ht;have cM:∀id,s1.bQ id=none\/s1.bQ id=s.bQ id:=λid=>by
  cases id with
  |bh k=>right;simp only[AS.bQ,e2]
  |new i j=>
   simp only[AS.bQ,e3];rcases ah6 kt s.news 0 i with h | h
   ·rw[h];exact .inl rfl
   ·rw[h];exact .inr rfl
 have aQS:∀id,(s1.obj id).isSome=true->s1.bQ id=s.bQ id:=λid hi=>by
  rcases cM id with h | h
  ·simp[AS.obj,h]at hi
  ·exact h
 let ρ:Ren:=λid ver=>if(s1.obj id).isSome=true then some (id,ver) else none
 have hρ:∀v:aA,v.there s1=true->v.iC ρ=v:=xj λid cR ver=>if_pos cR
 have hle:zU ρ (s.env w g β) (s1.env w g β):=by
  refine⟨⟨λ_ _ _ h=>h,λ_ _ h h'=>⟨h,h'⟩⟩,λid ver r hr hb=> ?_⟩;by_cases hi:(s1.obj id).isSome=true
  ·have:ρ id ver=some (id,ver):=if_pos hi;rw[this,ay]at hr;subst hr;have e:=aQS id hi;obtain⟨b1,b2⟩:=hb;exact⟨⟨by show s1.bQ id≠none;rw[e];exact b1,λv fr c hh=>b2 v fr c (e.symm.trans hh)⟩,λ⟨fr,c,hc⟩=>⟨⟨fr,c,e.symm.trans hc⟩,rfl⟩⟩
  ·have:ρ id ver=none:=if_neg hi;rw[this]at hr;cases hr
 refine h.renamed hC ρ (by rw[e1,CD]) hle (λi=> ?_) (λid ver fr c cR=> ?_) λk=>⟨by simp only[AS.bQ,e2],rfl⟩
 ·rcases aDh (s:=s1) i with hi | hi
  ·rw[hi];exact VS.undef
  ·have bbz:=dd.1 t1 _ hi;rcases T1 ks s.cg 0 i with h1 | h1
   ·have:s1.slot i= .undef:=by simp only[AS.slot,e1,h1]
    rw[this];exact VS.undef
   ·have:s1.slot i=s.slot i:=by simp only[AS.slot,e1,h1]
    have hv:=G4 hle (h.cg i);rw[<-this,hρ _ bbz]at hv;exact hv
 ·have:s1.bQ id=s.bQ id:=by
   rcases cM id with h | h
   ·rw[h]at cR;cases cR
   ·exact h
  have hc:dB.there s1 (.obj ver fr c)=true:=by
   rcases aQt cR with h | ⟨es,h1,h2⟩
   ·exact dd.1 t2 _ h
   ·exact dd.1 (dd.1 t3 _ h1) _ h2
  rcases au2 c with⟨q,vq,k,v,l,cu,rfl⟩ | ⟨_,bbz⟩
  ·have e:=aQS q hc;refine .inl (aUu.aU hle.mem (λ_=>rfl) (h.bI id ver fr _ (this.symm.trans cR)) rfl (λ_ _ h=>h) λvr _=>⟨λhb=>hle.ref q vr (q,vr) (if_pos hc) hb,λk v l hk=>e.trans hk,λ_ _ h=>h⟩)
  ·rw[bbz]at hc;exact .inr ⟨ver,this.symm.trans cR,hρ c hc,rfl⟩
theorem Inv.drop(h:Inv C g β s a w)(ks:List Nat):Inv C g β (s.drop ks) a w:=by
 refine⟨h.defers,by simpa[AS.drop,CD]using h.size,λi=> ?_,h.bI,h.trans,h.le⟩;rcases T1 ks s.cg 0 i with h1 | h1
 ·have:(s.drop ks).slot i= .undef:=h1;rw[this];exact VS.undef
 ·have:(s.drop ks).slot i=s.slot i:=h1;rw[this];exact h.cg i
def Fk(b q:Nat):lS->lS
 | .own (.id (.new x j)) k=>if x=b then .own (.id (.new q j)) k else .own (.id (.new x j)) k
 |l=>l
theorem Trans.aZu(w:World)(g:Nat->lS)(b q:Nat):Trans w w g λx=>Fk b q (g x):=by
 refine⟨rfl,rfl,⟨rfl,aw _⟩,aw _,λy _=> ?_⟩;cases hg:g y with
 |free=>exact⟨by simp[Fk],rfl⟩
 |own o k=>cases o with
  |dZ=>exact⟨by simp[Fk],rfl⟩
  |id x=>
   refine⟨.inr ?_,λ_ _ _ h=>h⟩;cases x with
   |bh m=>exact⟨_,_,rfl,aw _⟩
   |new x j=>
    simp only[Fk];split
    ·exact⟨_,_,rfl,aw _⟩
    ·exact⟨_,_,rfl,aw _⟩
theorem acL(f:aA->aA)(hf:f .undef= .undef)(l:List aA)(i:Nat):(l.map f).getD i .undef=f (l.getD i .undef):=by simp only[aD,dY];cases l[i]? <;> simp[hf]
theorem Inv.IH(h:Inv C g β s a w)(hC:C.ok){b q:Nat}(aXD:b < s.news.length)(bbo:q < s.news.length):
  ∃g1 β1,Inv C g1 β1 (s.IH b q (s.news.getD b [])) a w:=by
 generalize bdG:s.news.getD b []=es;have aYK:∀j,s.bQ (.new b j)=es[j]? :=λj=>by rw[<-bdG];rfl
 let ρ:Ren:=QJ es b q
 let s1:=s.IH b q es
 have kQ:∀j',s1.bQ (.new q j')=(es[j']?).map (dB.awq ρ):=λj'=>by simp[s1,AS.IH,AS.bQ,aD,bbo,ρ]
 have aYP:b≠q->∀j',s1.bQ (.new b j')=none:=λaVB j'=>by
  have hbq':¬q=b:=λe=>aVB e.symm
  simp only[s1,AS.IH,AS.bQ,aD];rw[dW hbq',List.getElem?_set,if_pos rfl];split <;> simp
 have Kl:∀i,(∀j',i≠ .new q j')->(∀j',i≠ .new b j')->s1.bQ i=(s.bQ i).map (dB.ae9 ρ (JW b q)):=λi hi hi'=>by
  cases i with
  |bh k=>simp[s1,AS.IH,AS.bQ,ρ]
  |new x y=>
   have h1:¬q=x:=λe=>hi y (by rw[e])
   have h2:¬b=x:=λe=>hi' y (by rw[e])
   simp only[s1,AS.IH,AS.bQ,aD];rw[dW h1,dW h2,dY];cases s.news[x]? <;> simp[ρ]
 let g1:Nat->lS:=λx=>Fk b q (g x)
 let β1:Id->Option Pl:=λi=>match i with | .new x j=>if x=q then β (.new b j) else β (.new x j) | .bh k=>β (.bh k)
 have hβ1:∀i,(∀j',i≠ .new q j')->β1 i=β i:=λi hi=>by
  cases i with
  |bh k=>rfl
  |new x y=>exact if_neg λe=>hi y (by rw[e])
 have ht:Trans w w g g1:=Trans.aZu w g _ _;have hρ:∀i ver r,ρ i ver=some r->(∃j fr c,i= .new b j/\es[j]? =some (.obj ver fr c)/\r=(.new q j,0))\/((∀j',i≠ .new q j')/\(∀j',i≠ .new b j')/\r=(i,ver)):=λi ver r hr=>by
  replace hr:QJ es b q i ver=some r:=hr
  cases i with
  |bh k=>exact .inr ⟨λ_=>by simp,λ_=>by simp,(bk hr).symm⟩
  |new x j=>
   unfold QJ at hr;simp only at hr;split at hr
   ·rename_i hx;have hx:x=b:=by simpa using hx
    subst hx;split at hr
    ·rename_i v fr c he;split at hr
     ·rename_i hv;have hv:ver=v:=by simpa using hv
      subst hv;exact .inl ⟨j,fr,c,rfl,he,(bk hr).symm⟩
     ·cases hr
    ·cases hr
   ·rename_i hx;have hx:¬x=b:=by simpa using hx
    split at hr
    ·cases hr
    ·rename_i hx';have hx':¬x=q:=by simpa using hx'
     exact .inr ⟨λ_ e=>hx' (by injection e),λ_ e=>hx (by injection e),(bk hr).symm⟩
 have hle:zU ρ (s.env w g β) (s1.env w g1 β1):=by
  refine⟨Trans.mem (E:=s.env w g β) (E':=s1.env w g1 β1) ht,λi ver r hr aoR=> ?_⟩;rcases hρ i ver r hr with⟨j,fr,c,rfl,he,rfl⟩ | ⟨hi,hi',rfl⟩
  ·refine⟨⟨by show s1.bQ (.new q j)≠none;rw[kQ,he];simp,λ_ _ _ _=>aL _⟩,λ_=>⟨⟨fr,c,(aYK j).trans he⟩,if_pos rfl⟩⟩
  ·obtain⟨k1,k2⟩:=aoR;have k1:s.bQ i≠none:=k1;have e:s1.bQ i=(s.bQ i).map (dB.ae9 ρ (JW b q)):=Kl i hi hi';have back:∀v' fr' c',s1.bQ i=some (.obj v' fr' c')->∃c0,s.bQ i=some (.obj v' fr' c0):=λv' fr' c' hh=>by
    rw[e]at hh;cases hs:s.bQ i with
    |none=>exact absurd hs k1
    |some en=>
     rw[hs]at hh;cases en with
     |dead=>simp[dB.ae9]at hh
     |obj v0 fr0 c0=>
      simp only[dQ,dB.ae9,ay,dB.obj.injEq]at hh;obtain⟨rfl,rfl,_⟩:=hh;exact⟨c0,rfl⟩
   refine⟨⟨by
    show s1.bQ i≠none;rw[e];cases hs:s.bQ i with
    |none=>exact absurd hs k1
    |some en=>simp,λv' fr' c' hh=> ?_⟩,λ⟨fr',c',hh⟩=> ?_⟩
   ·obtain⟨c0,XH⟩:=back v' fr' c' hh;exact k2 v' fr' c0 XH
   ·obtain⟨c0,XH⟩:=back ver fr' c' hh;exact⟨⟨fr',c0,XH⟩,hβ1 i hi⟩
 have aZ4:∀(i:Id),(∀j',i≠ .new b j')->∀(x:Nat) (k:Nat),g x= .own (.id i) k->g1 x= .own (.id i) k:=λi hi x k hk=>by
  show Fk b q (g x)=_;rw[hk];cases i with
  |bh m=>rfl
  |new y j=>exact if_neg λe=>hi j (by rw[e])
 refine⟨g1,β1,h.TD hC ρ (by simp[AS.IH]) ht hle (λi=> ?_) (λid ver fr' c' cR=> ?_) λk=>⟨λhk=> ?_,λv' fr' c' hh=> ?_,rfl⟩⟩
 ·have:(s.IH b q es).slot i=(s.slot i).iC ρ:=acL _ rfl _ _;rw[this];exact G4 hle (h.cg i)
 ·have cR:s1.bQ id=some (.obj ver fr' c'):=cR;by_cases hi:∃j',id= .new q j'
  ·obtain⟨j',rfl⟩:=hi;rw[kQ]at cR;cases he:es[j']? with
   |none=>rw[he]at cR;cases cR
   |some en=>
    rw[he]at cR;cases en with
    |dead=>simp[dB.awq]at cR
    |obj v0 fr0 c0=>
     simp only[dQ,dB.awq,ay,dB.obj.injEq]at cR;obtain⟨_,rfl,rfl⟩:=cR;exact .inr ⟨.new b j',v0,c0,(aYK j').trans he,rfl,if_pos rfl,λpl hp=>⟨λk hk=>by
      show Fk b q (g pl.b)=_;rw[hk];exact if_pos rfl,λhk=>by
      show Fk b q (g pl.b)=_;rw[hk];rfl⟩⟩
  ·by_cases hi':∃j',id= .new b j'
   ·obtain⟨j',rfl⟩:=hi';have aVB:b≠q:=λe=>hi ⟨j',by rw[e]⟩
    rw[aYP aVB]at cR;cases cR
   ·have aZ9:∀j',id≠ .new q j':=λj' e=>hi ⟨j',e⟩
    have hni':∀j',id≠ .new b j':=λj' e=>hi' ⟨j',e⟩
    have e:=Kl id aZ9 hni';rw[e]at cR;cases hs:s.bQ id with
    |none=>rw[hs]at cR;cases cR
    |some en=>
     rw[hs]at cR;cases en with
     |dead=>simp[dB.ae9]at cR
     |obj v0 fr0 c0=>
      simp only[dQ,dB.ae9,ay,dB.obj.injEq]at cR;obtain⟨rfl,rfl,rfl⟩:=cR;rcases au2 c0 with⟨q2,vq,k,v2,l,cu,rfl⟩ | ⟨aVT,_⟩
      ·have h0:=h.bI id v0 fr0 _ hs;left;simp only[aA.aEy];cases aZ7:JW b q q2 with
       |true=>
        have aj0:(∀j',q2≠ .new b j')/\(∀j',q2≠ .new q j')/\∀vr,ρ q2 vr=some (q2,vr):=by
         cases q2 with
         |bh k=>exact⟨λ_=>by simp,λ_=>by simp,λ_=>rfl⟩
         |new x y=>
          simp only[JW,aq,cr,gF]at aZ7;obtain⟨k1,k2⟩:=aZ7;refine⟨λ_ e=>k1 (by injection e),λ_ e=>k2 (by injection e),λvr=> ?_⟩;show QJ es b q (.new x y) vr=_;unfold QJ;simp only[je k1,je k2]
        obtain⟨aj0,asT,hρq⟩:=aj0;refine aUu.aU hle.mem (λ_=>rfl) h0 (hβ1 id aZ9) (λpl _ hk=>aZ4 id hni' _ _ hk) λvr _=>⟨λhb=>hle.ref q2 vr (q2,vr) (hρq vr) hb,λk v l hk=> ?_,λpl _ hk=>aZ4 q2 aj0 _ _ hk⟩
        have hk:s.bQ q2=some (.obj vr true (.mp k v l)):=hk;show s1.bQ q2=_;rw[Kl q2 asT aj0,hk];rfl
       |false=>
        obtain⟨pl,mb,since,seen,c0,h1,h2,h3,h4⟩:=h0;exact⟨pl,mb,since,seen,c0,(hβ1 id aZ9).trans h1,h2,aZ4 id hni' _ _ h3,λvr asV=>by omega⟩
      rw[aVT];exact .inr ⟨id,v0,c0,hs,rfl,hβ1 id aZ9,λpl hp=>⟨λk hk=>aZ4 id hni' _ _ hk,λhk=>by
       show Fk b q (g pl.b)=_;rw[hk];rfl⟩⟩
 ·have e:=Kl (.bh k) (λ_=>by simp) (λ_=>by simp);show s1.bQ (.bh k)≠none;rw[e];cases hs:s.bQ (.bh k) with
  |none=>exact absurd hs hk
  |some en=>simp
 ·have e:=Kl (.bh k) (λ_=>by simp) (λ_=>by simp);have hh:s1.bQ (.bh k)=some (.obj v' fr' c'):=hh;rw[e]at hh;cases hs:s.bQ (.bh k) with
  |none=>rw[hs]at hh;cases hh
  |some en=>
   rw[hs]at hh;cases en with
   |dead=>simp[dB.ae9]at hh
   |obj v0 fr0 c0=>
    simp only[dQ,dB.ae9,ay,dB.obj.injEq]at hh;obtain⟨rfl,rfl,_⟩:=hh;exact⟨c0,rfl⟩
theorem adG{k t:Ty}{l:List (k.den×t.den)}:∀ {p:List Ke} {x c':aA},¬(xP (.mp k t l) p x).eval=some c'
 |[],x,c',h=>by simp only[xP,au]at h
 | .arr::p,x,c',h=>by simp only[xP]at h;exact adG h
 | .idx i::p,x,c',h=>by simp only[xP,au]at h
 | .fst::p,x,c',h=>by simp only[xP,au]at h
 | .snd::p,x,c',h=>by simp only[xP,au]at h
theorem al8{q:Id}{vq:Nat}{k t:Ty}{l:List (k.den×t.den)}{cu:Option (k.den×t.den)}:∀ {p:List Ke} {x c':aA},¬(xP (.sH q vq k t l cu) p x).eval=some c'
 |[],x,c',h=>by simp only[xP,au]at h
 | .arr::p,x,c',h=>by simp only[xP]at h;exact al8 h
 | .idx i::p,x,c',h=>by simp only[xP,au]at h
 | .fst::p,x,c',h=>by simp only[xP,au]at h
 | .snd::p,x,c',h=>by simp only[xP,au]at h
theorem al9{k:uZ}{f:aA}{m:Nat}:∀ {p:List Ke} {x c':aA},¬(xP (.qX k f m) p x).eval=some c'
 |[],x,c',h=>by simp only[xP,au]at h
 | .arr::p,x,c',h=>by simp only[xP]at h;exact al9 h
 | .idx i::p,x,c',h=>by simp only[xP,au]at h
 | .fst::p,x,c',h=>by simp only[xP,au]at h
 | .snd::p,x,c',h=>by simp only[xP,au]at h
theorem Wu{l:List Value}{n:Nat}{vs:List Value}(h:(l.drop n).take vs.length=vs):dq l n vs=l:=by
 unfold dq;have h2:l.drop n=vs++l.drop (n+vs.length):=by
  conv=>lhs;rw[<-dE vs.length (l.drop n)]
  rw[h,fI]
 have h3:=dE n l;rw[h2]at h3;simpa[aC]using h3
theorem Inv.aZm(h:Inv C g β s a w){j:Nat}{p:List Ke}(R4:(s.at j p).eval=some .cV){q:Nat}(hq:s.dV q=true){e:TypeId}{t:Ty}(hz:0 < t.size){s':AS}
  (he:((s.born q [.obj 0 false (.vec e t [])]).putAt j (.bu (.new q 0) 0 [] 0 0 0) p).eval=some s'):ia C s' a w:=by
 obtain⟨β',h1,h2,h3⟩:=h.aLc hq (e:=e) hz;cases p with
 |nil=>
  simp only[AS.at]at R4;have hj:=ax.1 R4;simp only[AS.putAt]at he;obtain rfl:=ax.1 he;refine⟨g,β',h1.aZw j ?_⟩;have:=h.cg j;rw[hj]at this;rw[kU this];exact h3
 |cons st p=>
  simp only[AS.at]at R4;simp only[AS.putAt]at he;have ZT:(s.born q [.obj 0 false (.vec e t [])]).slot j=s.slot j:=rfl;rw[ZT]at he;split at R4
  ·rename_i id ver p0 nn hj;split at R4
   ·rename_i v fr c lK;obtain⟨hv,R4⟩:=aB.1 R4;obtain⟨⟨n,u⟩,hl,R4⟩:=av.1 R4;have hu:=ax.1 R4;simp only at hu;subst hu;have cM:=dX lK;have gg:id≠ .new q 0:=λe=>by rw[e,(ka hq).1 0]at cM;cases cM
    have hne':∀j',id≠ .new q j':=λj' e=>by rw[e,(ka hq).1 j']at cM;cases cM
    have xM:(s.born q [.obj 0 false (.vec e t [])]).bQ id=some (.obj v fr c):=(iS _ hne').trans cM;have aVP:(s.born q [.obj 0 false (.vec e t [])]).obj id=some (v,fr,c):=by simp only[AS.obj,xM]
    simp only[hj,aVP]at he;split at he
    ·simp only[au]at he
    ·rename_i c1 baS;obtain⟨c',WY,he⟩:=av.1 he;obtain rfl:=ax.1 he;have hn:c.iy=false:=by cases c <;> first | rfl | (exact(baS _ _ _ rfl).elim) | (exact absurd WY adG) | (exact absurd WY al8) | (exact absurd WY al9)
     have hO:=h1.bI id v fr c xM;obtain⟨pl,cur,e0,hp,hh,hg,hk,hV⟩:=hO.box hn;have ht:=Trans.refl w g;have hN:=Xz hk;have hle:=cJ.bg (s:=s.born q [.obj 0 false (.vec e t [])]) (β:=β') (v':=v) (fr':=fr) (c':=c.wrap c') xM (aw _) ht (λ_ _=>rfl) (λ_=>rfl);refine⟨g,β',h1.step (da _ _ _) ht hle (iG.bg h1.bI (by rw[xM];simp) hle (λ_ _=>rfl) (λ_ _ _ _ _ _ _ _=>⟨rfl,rfl⟩) ?_ (pY xM λk v1 l e=>by subst e;exact absurd WY adG))⟩;obtain⟨cs,k1,k2⟩:=h3;have k2:cs=[.slice none 0 0]:=k2;subst k2;obtain⟨u1,u2,u3⟩:=qs (p0++st::p) c.strip (cur.toList.take (c.xv cur.size)) n .cV _ c' [.slice none 0 0] (VO.of hV) hl k1 WY;have u4:=u2.to (u3.uf hV.uf);have Dw:((cur.toList.take (c.xv cur.size)).drop n).take 1=[.slice none 0 0]:=by
      rcases sK (p0++st::p) c.strip (cur.toList.take (c.xv cur.size)) n .cV (VO.of hV) hl with⟨aQQ,XH⟩ | ⟨q1,q2⟩
      ·rw[<-XH]at hV;simp only[V]at hV;rw[hV,aQQ];rfl
      ·simpa only[V,aA.size]using q1
     rw[Wu (vs:=[.slice none 0 0]) Dw]at u4;have tc:c'.size=c.strip.size:=by have e1:=u4.size;have e2:=hV.size;omega
     exact R8.obj ⟨pl,cur,e0,hp,hh,hg,Mu hk u4.AG tc,by rw[NY c u4.AG,Su u4.AG tc];exact V.mono hle u4⟩
   ·simp only[au]at R4
  ·simp only[au]at R4
theorem KZ:∀(ids:List Id) {s:AS} {i:Id} {v:Nat} {fr:Bool} {c:aA},s.bQ i=some (.obj v fr c)->∃fr',(s.bt ids).bQ i=some (.obj v fr' c)
 |[],s,i,v,fr,c,h=>⟨fr,h⟩
 |id::ids,s,i,v,fr,c,h=>by obtain⟨fr',h'⟩:=Zy (id:=id) h;exact KZ ids h'
theorem Inv.aYi(h:Inv C g β s a w){j:Nat}{p:List Ke}{u:aA}(R4:(s.at j p).eval=some u){t:Ty}{x:t.den}(ht:(s.iW t u).eval=some x){s':AS}
  (he:((s.bt u.shared).putAt j (.d t x) p).eval=some s'):ia C s' a w:=by
 cases p with
 |nil=>
  simp only[AS.at]at R4;have hj:=ax.1 R4;simp only[AS.putAt]at he;obtain rfl:=ax.1 he;have hs:=h.cg j;rw[hj]at hs;obtain⟨g',i1,_,_,cs,hR,hO⟩:=A7 h hs ht;exact⟨g',β,i1.aZw j (VS.of (a:= .d t x) (cs:=cs) (by simpa only[V]using hR) hO)⟩
 |cons st p=>
  simp only[AS.at]at R4;simp only[AS.putAt]at he;have ZT:(s.bt u.shared).slot j=s.slot j:=by simp only[AS.slot,nF]
  rw[ZT]at he;split at R4
  ·rename_i id ver p0 nn hj;split at R4
   ·rename_i v fr c lK;obtain⟨hv,R4⟩:=aB.1 R4;obtain⟨⟨n,u'⟩,hl,R4⟩:=av.1 R4;have hu:=ax.1 R4;simp only at hu;subst hu;have cM:=dX lK;obtain⟨g',h1,h2,h3,h4⟩:=fo u'.shared h;obtain⟨fr',xM⟩:=KZ u'.shared cM;have aVP:(s.bt u'.shared).obj id=some (v,fr',c):=by simp only[AS.obj,xM]
    simp only[hj,aVP]at he;split at he
    ·simp only[au]at he
    ·rename_i c1 baS;obtain⟨c',WY,he⟩:=av.1 he;obtain rfl:=ax.1 he;have hn:c.iy=false:=by cases c <;> first | rfl | (exact(baS _ _ _ rfl).elim) | (exact absurd WY adG) | (exact absurd WY al8) | (exact absurd WY al9)
     obtain⟨pl0,cur0,e00,aVR,aVI,baY,aYR,hV0⟩:=(h.bI id v fr c cM).box hn;obtain⟨pl,cur,e0,hp,hh,hg,hk,hV⟩:=(h1.bI id v fr' c xM).box hn;have Oi:pl0=pl:=by have aVR:β id=some pl0:=aVR;have hp:β id=some pl:=hp;rw[aVR]at hp;exact bk hp
     subst Oi;have fk:cur0=cur:=by
      have aVI:w.heap[pl0.b]? =_:=aVI
      have hh:w.heap[pl0.b]? =_:=hh
      rw[aVI]at hh;simpa using(bl (λo=>match o with | some (.cells x _ _)=>x | _=>cur0) hh)
     subst fk;obtain⟨cs,hVu,Dw⟩:∃cs,V (s.env w g β) u' cs/\((cur0.toList.take (c.xv cur0.size)).drop n).take cs.length=cs:=by
      rcases sK (p0++st::p) c.strip (cur0.toList.take (c.xv cur0.size)) n u' (VO.of hV0) hl with⟨aQQ,XH⟩ | ⟨q1,q2⟩
      ·refine⟨cur0.toList.take (c.xv cur0.size),by rw[XH];exact hV0,?_⟩;rw[aQQ,aF,bJ]
      ·refine⟨_,q1,?_⟩;rw[bq,di];congr 1;omega
     have hR:=xn rfl h.bI h2 u' t x cs hVu ht h4;have hVx:V ((s.bt u'.shared).env w g' β) (.d t x) cs:=by simpa only[V]using hR
     have ht':=Trans.refl w g';have hle:=cJ.bg (s:=s.bt u'.shared) (β:=β) (v':=v) (fr':=fr') (c':=c.wrap c') xM (aw _) ht' (λ_ _=>rfl) (λ_=>rfl);refine⟨g',β,h1.step (da _ _ _) ht' hle (iG.bg h1.bI (by rw[xM];simp) hle (λ_ _=>rfl) (λ_ _ _ _ _ _ _ _=>⟨rfl,rfl⟩) ?_ (pY xM λk v1 l e=>by subst e;exact absurd WY adG))⟩;obtain⟨u1,u2,u3⟩:=qs (p0++st::p) c.strip (cur0.toList.take (c.xv cur0.size)) n u' _ c' cs (VO.of hV) hl hVx WY;have u4:=u2.to (u3.uf hV.uf);rw[Wu (vs:=cs) Dw]at u4;have tc:c'.size=c.strip.size:=by have e1:=u4.size;have e2:=hV.size;omega
     exact R8.obj ⟨pl0,cur0,e0,hp,hh,hg,Mu hk u4.AG tc,by rw[NY c u4.AG,Su u4.AG tc];exact V.mono hle u4⟩
   ·simp only[au]at R4
  ·simp only[au]at R4
theorem M4{E:Env}:∀(t:Ty) (x:t.den) (u:aA),(Pw t x).eval=some u->∀cs,cW E t cs x->V E u cs
 | .gM t,x,u,h,cs,hr=>by simp only[Pw]at h;obtain⟨h1,h2⟩:=bM.1 h;obtain rfl:=ax.1 h2;simp only[cW]at hr;simp only[V];exact hr.1 (Option.isNone_iff_eq_none.1 h1)
 | .pair a b,x,u,h,cs,hr=>by simp only[Pw]at h;obtain⟨u1,h1,h2⟩:=av.1 h;obtain⟨u2,h3,h4⟩:=av.1 h2;obtain rfl:=ax.1 h4;simp only[cW]at hr;obtain⟨ca,cb,rfl,ha,hb⟩:=hr;exact as5 (M4 a x.1 u1 h1 ca ha) (M4 b x.2 u2 h3 cb hb)
 | .int k,x,u,h,cs,hr=>by simp only[Pw]at h;obtain rfl:=ax.1 h;simpa only[V]using hr
 | .bool,x,u,h,cs,hr=>by simp only[Pw]at h;obtain rfl:=ax.1 h;simpa only[V]using hr
 | .str,x,u,h,cs,hr=>by simp only[Pw]at h;obtain rfl:=ax.1 h;simpa only[V]using hr
 | .slice t,x,u,h,cs,hr=>by simp only[Pw]at h;obtain rfl:=ax.1 h;simpa only[V]using hr
 | .unit,x,u,h,cs,hr=>by simp only[Pw]at h;obtain rfl:=ax.1 h;simpa only[V]using hr
 | .arr n t,x,u,h,cs,hr=>by simp only[Pw]at h;obtain rfl:=ax.1 h;simpa only[V]using hr
 | .tR t,x,u,h,cs,hr=>by simp only[Pw]at h;obtain rfl:=ax.1 h;simpa only[V]using hr
theorem aBi{e:TypeId}{z:Nat}{c:aA}{pl:Pl}{n:Nat}(hz:0 < z)(h1:n=pl.cap*z)(h2:pl.cap<=maxLen)(h3:c.size<=n):(aA.bx e z c).Hf pl n e:=by
 cases z with
 |zero=>omega
 |succ z=>exact⟨rfl,h1,h2,h3⟩
theorem anl{e:TypeId}{z:Nat}{c:aA}{n:Nat}(hz:0 < z):(aA.bx e z c).xv n=c.size:=by
 cases z with
 |zero=>omega
 |succ z=>rfl
theorem akG{e e':TypeId}{z:Nat}{c:aA}{pl:Pl}{n:Nat}(hz:0 < z)(h:(aA.bx e z c).Hf pl n e'):e'=e/\n=pl.cap*z/\pl.cap<=maxLen/\c.size<=n:=by
 cases z with
 |zero=>omega
 |succ z=>exact h
theorem aqx{E:Env}{id:Id}{ver n:Nat}{p p':List Ke}{y:Value}(h:VS E (.ptr id ver p n) y):VS E (.ptr id ver p' n) y:=by obtain⟨cs,h1,h2⟩:=h;exact⟨cs,by simpa only[V]using h1,h2⟩
theorem Inv.aYm(h:Inv C g β s a w){j:Nat}{id:Id}{ver n k v:Nat}{p p':List Ke}(hj:s.slot j= .ptr id ver p n){e:TypeId}{t:Ty}{r:List t.den}(lK:s.obj id=some (v,false,.vec e t r))
  (hk:k < r.length) {u:aA} (hu:(Pw t (nth t r k)).eval=some u):
  ia C ((s.bg id (.obj v false (.bx e t.size (.pr (.d (.arr k t) (r.take k)) (.pr u (.d (.arr (r.drop (k+1)).length t) (r.drop (k+1)))))))).put (some j) (.ptr id ver p' n)) a w:=by
 have cM:=dX lK;obtain⟨hz,hO⟩:wQ (s.env w g β) id false (.vec e t r):=h.bI id v false _ cM;have hO:(match β id with
  |none=>r=[]
  |some pl=>∃cur k,w.heap[pl.b]? =some (.cells cur e (0,0))/\cur.size=pl.cap*t.size/\r.length<=pl.cap/\pl.cap<=maxLen/\g pl.b= .own (.id id) k/\
    k<=r.length*t.size/\(false=false->k=0)/\bz (cW (s.env w g β) t) (cur.toList.take (r.length*t.size)) r):=hO
 have ht:=Trans.refl w g
 have hle:cJ (s.env w g β) ((s.bg id (.obj v false (.bx e t.size (.pr (.d (.arr k t) (r.take k)) (.pr u (.d (.arr (r.drop (k+1)).length t) (r.drop (k+1)))))))).env w g β):=
  cJ.bg cM (aw _) ht (λ_ _=>rfl) (λ_=>rfl)
 have hI:=h.step (da _ _ _) ht hle (iG.bg h.bI (by rw[cM];simp) hle (λ_ _=>rfl) (λ_ _ _ _ _ _ _ _=>⟨rfl,rfl⟩) (amu:=P4 cM) (by
  cases hp:β id with
  |none=>rw[hp]at hO;simp only at hO;subst hO;simp at hk
  |some pl=>
   rw[hp]at hO;obtain⟨cur,k0,q1,q2,q3,q4,q5,q6,q7,q8⟩:=hO;have aYR:=q7 rfl;subst aYR;have asY:∀c x,cW (s.env w g β) t c x->c.length=t.size:=λc x hx=>hx.size
   have c1:=bz.take asY k q8;have c2:=(q8.get asY k hk);have c3:=bz.drop asY (k+1) q8;have amv:V (s.env w g β) u (((cur.toList.take (r.length*t.size)).drop (k*t.size)).take t.size):=M4 t _ u (by rw[aa2 hk]at hu;exact hu) _ c2;have bed:=amv.size;have hlen:(cur.toList.take (r.length*t.size)).length=r.length*t.size:=bz.length asY q8;have tc:r.length*t.size<=cur.size:=by rw[q2];exact cO _ q3
   have beK:(k+1)*t.size<=r.length*t.size:=cO _ hk;have aj0:(k+1)*t.size=k*t.size+t.size:=Nat.succ_mul k t.size;have aVX:u.size=t.size:=by rw[<-bed,bq,di,hlen];omega
   have hm:(r.drop (k+1)).length*t.size=r.length*t.size - (k+1)*t.size:=by rw[di,Nat.sub_mul]
   have aCx:(aA.pr (.d (.arr k t) (r.take k)) (.pr u (.d (.arr (r.drop (k+1)).length t) (r.drop (k+1))))).size=r.length*t.size:=by simp only[aA.size,Ty.size,aVX,hm];omega
   refine R8.obj ⟨pl,cur,e,hp,q1,q5,aBi hz q2 q4 (by rw[aCx];exact tc),?_⟩;rw[anl hz,aCx];refine V.mono hle ?_
   show V _ (.pr (.d (.arr k t) (r.take k)) (.pr u (.d (.arr (r.drop (k+1)).length t) (r.drop (k+1))))) _;simp only[V];generalize cur.toList.take (r.length*t.size)=R at*;refine⟨R.take (k*t.size),R.drop (k*t.size),(dE _ _).symm,?_,(R.drop (k*t.size)).take t.size,R.drop ((k+1)*t.size),?_,amv,?_⟩
   ·simp only[cW];exact⟨by rw[bq];omega,c1⟩
   ·rw[aj0,<-fI,dE]
   ·simp only[cW];exact⟨trivial,c3⟩))
 refine⟨g,β,hI.aZw j ?_⟩;have:=h.cg j;rw[hj]at this;exact aqx (VS.mono hle this)
theorem SP:∀(l:List Nat) {s s1:AS},ia C s a w->(aCg s l).eval=some s1->ia C s1 a w
 |[],s,s1,h,he=>by simp only[aCg]at he;obtain rfl:=ax.1 he;exact h
 |j::l,s,s1,h,he=>by
  obtain⟨g,β,h⟩:=h;simp only[aCg]at he;split at he
  ·rename_i id ver k p n hj;split at he
   ·rename_i v e t r lK;obtain⟨h1,he⟩:=aB.1 he;obtain⟨h2,he⟩:=bM.1 he;obtain⟨u,h3,he⟩:=av.1 he;exact SP l (h.aYm hj lK (of_decide_eq_true h2) h3) he
   ·simp only[au]at he
  ·exact SP l ⟨g,β,h⟩ he
  ·simp only[au]at he
theorem SM{s:AS}{id i:Id}(h:i≠id):(s.freeze id).bQ i=s.bQ i:=by
 unfold AS.freeze;split
 ·exact cQ s id i _ h
 ·rfl
theorem xL:∀(ids:List Id) {s:AS} {i:Id},i ∉ ids->(s.bt ids).bQ i=s.bQ i
 |[],_,_,_=>rfl
 |id::ids,s,i,h=>by
  have h1:i≠id:=λe=>h (by rw[e];exact aN)
  exact(xL ids λhi=>h (aI _ hi)).trans (SM h1)
theorem Inv.aZK(h:Inv C g β s a w){j:Nat}{id:Id}{ver n k m v z:Nat}{p p':List Ke}(hj:s.slot j= .ptr id ver p n){e:TypeId}{t:Ty}{l1 l2:List t.den}{u:aA}
  (lK:s.obj id=some (v,false,.bx e z (.pr (.d (.arr k t) l1) (.pr u (.d (.arr m t) l2))))) (hz:z=t.size) (aV3:0 < z) (cR:id ∉ u.shared) {x:t.den} (hx:(s.iW t u).eval=some x):
  ia C (((s.bt u.shared).bg id (.obj v false (.vec e t (l1++x::l2)))).put (some j) (.ptr id ver p' n)) a w:=by
 have cM:=dX lK;obtain⟨pl0,cur0,e0,aVR,aVI,baY,aYR,hV0⟩:=(h.bI id v false _ cM).box rfl;obtain⟨g',h1,h2,h3,h4⟩:=fo u.shared h;have xM:(s.bt u.shared).bQ id=some (.obj v false (.bx e z (.pr (.d (.arr k t) l1) (.pr u (.d (.arr m t) l2))))):=(xL _ cR).trans cM;obtain⟨pl,cur,e1,hp,hh,hg,hk,hV⟩:=(h1.bI id v false _ xM).box rfl;have hp:β id=some pl:=hp;have Oi:pl0=pl:=by have aVR:β id=some pl0:=aVR;rw[aVR]at hp;exact bk hp
 subst Oi;have fk:cur0=cur:=by
  have aVI:w.heap[pl0.b]? =_:=aVI
  have hh:w.heap[pl0.b]? =_:=hh
  rw[aVI]at hh;simpa using(bl (λo=>match o with | some (.cells x _ _)=>x | _=>cur0) hh)
 subst fk;obtain⟨rfl,q2,q4,q3⟩:=akG aV3 hk;rw[anl aV3]at hV0;have hV0:V (s.env w g β) (.pr (.d (.arr k t) l1) (.pr u (.d (.arr m t) l2))) _:=hV0;have bd9:=hV0.size;simp only[V]at hV0;obtain⟨ca,cb,hR,hA,cu,cc,aVC,hU,hB⟩:=hV0;subst aVC;simp only[cW]at hA hB;have hX:=xn rfl h.bI h2 u t x cu hU hx h4;have asY:∀c x,cW ((s.bt u.shared).env w g' β) t c x->c.length=t.size:=λc x hx=>hx.size
 have cA:=hA.2.mono λ_ _ hx=>hx.mono h2.mem
 have cB:=hB.2.mono λ_ _ hx=>hx.mono h2.mem
 have vY:bz (cW ((s.bt u.shared).env w g' β) t) (ca++(cu++cc)) (l1++x::l2):=bz.append cA ⟨cu,cc,rfl,hX,cB⟩;have hlen:=bz.length asY vY;have aCx:(aA.pr (.d (.arr k t) l1) (.pr u (.d (.arr m t) l2))).size=(l1++x::l2).length*t.size:=by rw[<-hlen,<-hR];exact bd9.symm
 rw[aCx]at hR q3;rw[hz]at q2;have auN:(l1++x::l2).length<=pl0.cap:=by rw[q2]at q3;exact Nat.le_of_mul_le_mul_right q3 (by omega)
 have ht:=Trans.refl w g';have hle:cJ ((s.bt u.shared).env w g' β) (((s.bt u.shared).bg id (.obj v false (.vec e1 t (l1++x::l2)))).env w g' β):=cJ.bg xM (aw _) ht (λ_ _=>rfl) (λ_=>rfl);have hI:=h1.step (da _ _ _) ht hle (iG.bg h1.bI (by rw[xM];simp) hle (λ_ _=>rfl) (λ_ _ _ _ _ _ _ _=>⟨rfl,rfl⟩) (amu:=pY xM λ_ _ _ e=>by cases e) (by
  refine⟨by omega,?_⟩;show(match β id with
   |none=>l1++x::l2=[]
   |some pl=>_)
  rw[hp];exact⟨cur0,0,hh,q2,auN,q4,hg,aL _,λ_=>rfl,by rw[hR];exact vY.mono λ_ _ hx=>hx.mono hle.mem⟩))
 refine⟨g',β,hI.aZw j ?_⟩;have:=h.cg j;rw[hj]at this;exact aqx (VS.mono (h2.trans hle) this)
theorem aio:∀(l:List Nat) {s s1:AS},ia C s a w->(aN9 s l).eval=some s1->ia C s1 a w
 |[],s,s1,h,he=>by simp only[aN9]at he;obtain rfl:=ax.1 he;exact h
 |j::l,s,s1,h,he=>by
  obtain⟨g,β,h⟩:=h;simp only[aN9]at he;split at he
  ·rename_i id ver p n hj;split at he
   ·rename_i v e z k t l1 u m t' l2 lK;obtain⟨h1,he⟩:=aB.1 he;obtain⟨l2',h2,he⟩:=av.1 he;obtain⟨x,h3,he⟩:=av.1 he;simp only[aq,dp,cr,gf]at h1;obtain⟨⟨⟨h5,h6⟩,h7⟩,h8⟩:=h1;obtain⟨et,hl⟩:=ju (jW.1 h2);have et':t'=t:=by simpa using et
    subst et';simp only at hl;subst hl;refine aio l (h.aZK hj lK h6 (by omega) (λhi=> ?_) h3) he;have:(u.shared.any λi=>decide (i=id))=true:=pH.2 ⟨id,hi,by simp⟩;rw[this]at h8;cases h8
   ·simp only[au]at he
  ·simp only[au]at he
theorem Ao:∀(l:List aZS) {s s1:AS},ia C s a w->(UZ s l).eval=some s1->ia C s1 a w
 |[],s,s1,h,he=>by simp only[UZ]at he;obtain rfl:=ax.1 he;exact h
 |o::l,s,s1,h,he=>by
  obtain⟨g,β,h⟩:=h;unfold UZ at he;split at he
  ·exact Ao l ⟨g,β,h⟩ he
  obtain⟨u,hu,he⟩:=av.1 he;obtain⟨x,hx,he⟩:=av.1 he;obtain⟨s',hs,he⟩:=av.1 he;exact Ao l (h.aYi hu hx hs) he
theorem lB(hC:C.ok):∀(l:List aGz) {s s1:AS},ia C s a w->(wk P s l).eval=some s1->ia C s1 a w
 |[],s,s1,h,he=>by simp only[wk]at he;obtain rfl:=ax.1 he;exact h
 |o::l,s,s1,h,he=>by
  obtain⟨g,β,h⟩:=h;unfold wk at he;split at he
  ·exact lB hC l ⟨g,β,h⟩ he
  obtain⟨u,hu,he⟩:=av.1 he;split at he
  ·split at he
   ·rename_i e t b Kk hv;obtain⟨s',h1,h2⟩:=av.1 he;exact lB hC l (h.aZm hu hv (aeq Kk) h1) h2
   ·simp only[au]at he
  ·split at he
   ·rename_i b j ver bcM;split at he
    ·rename_i v fr c lK hm;split at he
     ·have aXD:b < s.news.length:=by
       have:=dX lK;simp only[AS.bQ,aD]at this;cases hn:s.news[b]? with
       |none=>rw[hn]at this;simp at this
       |some es=>exact(dC.1 hn).1
      obtain⟨g1,β1,h1⟩:=h.IH hC aXD (by simpa using hm);exact lB hC l ⟨g1,β1,h1⟩ he
     ·simp only[au]at he
    ·simp only[au]at he
   ·simp only[au]at he
theorem Ob:∀(l:List Nat) {s s1:AS},ia C s a w->(ail s l).eval=some s1->ia C s1 a w
 |[],s,s1,h,he=>by simp only[ail]at he;obtain rfl:=ax.1 he;exact h
 |j::l,s,s1,h,he=>by
  obtain⟨g,β,h⟩:=h;simp only[ail]at he;split at he
  ·rename_i id ver len hj;split at he
   ·rename_i v e t r lK;split at he
    ·obtain⟨h1,h2⟩:=bM.1 he;have h1:len<=r.length:=by simpa using h1
     refine Ob l ?_ h2
     have cM:=dX lK;have hO:wQ (s.env w g β) id false (.vec e t r):=h.bI id v false _ cM;have ht:=Trans.refl w g;have hle:cJ (s.env w g β) ((s.bg id (.obj v false (.vec e t (r.take len)))).env w g β):=cJ.bg cM (aw _) ht (λ_ _=>rfl) (λ_=>rfl);refine⟨g,β,h.step (da _ _ _) ht hle (iG.bg h.bI (by rw[cM];simp) hle (λ_ _=>rfl) (λ_ _ _ _ _ _ _ _=>⟨rfl,rfl⟩) ?_ (P4 cM))⟩;obtain⟨hz,hO⟩:=hO;refine⟨hz,?_⟩;have hO:(match β id with
      |none=>r=[]
      |some pl=>∃cur k,w.heap[pl.b]? =some (.cells cur e (0,0))/\cur.size=pl.cap*t.size/\r.length<=pl.cap/\pl.cap<=maxLen/\g pl.b= .own (.id id) k/\
        k<=r.length*t.size/\(false=false->k=0)/\bz (cW (s.env w g β) t) (cur.toList.take (r.length*t.size)) r):=hO
     show(match β id with
      |none=>r.take len=[]
      |some pl=>_)
     cases hp:β id with
     |none=>rw[hp]at hO;simp only at hO;subst hO;simp
     |some pl=>
      rw[hp]at hO;obtain⟨cur,k,q1,q2,q3,q4,q5,q6,q7,q8⟩:=hO;have hk:=q7 rfl;subst hk;have hlen:(r.take len).length=len:=by simp;omega
      refine⟨cur,0,q1,q2,by omega,q4,q5,aL _,λ_=>rfl,?_⟩;have:=bz.take (λ_ _ hx=>cW.size hx) len q8;rw[gZ,fM (cO _ h1)]at this;rw[hlen];exact this.mono λ_ _ hx=>hx.mono hle.mem
    ·simp only[au]at he
   ·simp only[au]at he
  ·simp only[au]at he
theorem Oy:∀(l:List (Nat×Ty)) {s s1:AS},ia C s a w->(asData s l).eval=some s1->ia C s1 a w
 |[],s,s1,h,he=>by simp only[asData]at he;obtain rfl:=ax.1 he;exact h
 | (j,t)::l,s,s1,h,he=>by obtain⟨g,β,h⟩:=h;simp only[asData]at he;obtain⟨x,h1,h2⟩:=av.1 he;obtain⟨g',i1,_,_,cs,hR,hO⟩:=A7 h (h.cg j) h1;exact Oy l ⟨g',β,i1.aZw j (VS.of (a:= .d t x) (cs:=cs) (by simpa only[V]using hR) hO)⟩ h2
theorem Inv.still:∀(l:List Nat) {s:AS},Inv C g β s a w->Inv C g β (s.still l) a w
 |[],s,h=>h
 |q::l,s,h=>by
  simp only[AS.still];split
  ·rename_i v fr i ver k t r cu lK;exact Inv.still l (h.aT4 (dX lK) (.inr ⟨rfl,rfl,rfl⟩))
  ·exact Inv.still l h
theorem wU{α:Type}(l:List α):(iH l).Perm l:=Quotient.exact (s:=ahu α) (qA (Quotient.mk (ahu α) l)).choose_spec
theorem aBp{α:Type}{l l':List α}(h:l.Perm l'):iH l=iH l':=by
 have e:Quotient.mk (ahu α) l=Quotient.mk (ahu α) l':=Quotient.sound h;unfold iH;have:∀q q':Quotient (ahu α),q=q'->(qA q).choose=(qA q').choose:=λq q' h=>by subst h;rfl
 exact this _ _ e
theorem Inv.canon:∀(l:List Id) {s:AS},Inv C g β s a w->Inv C g β (s.canon l) a w
 |[],s,h=>h
 |id::l,s,h=>by
  simp only[AS.canon];split
  ·rename_i v fr k t r lK;have cM:=dX lK;have ht:=Trans.refl w g;have hle:cJ (s.env w g β) ((s.bg id (.obj v fr (.mp k t (iH r)))).env w g β):=cJ.bg cM (aw _) ht (λ_ _=>rfl) (λ_=>rfl);obtain⟨pl,es,clock,h1,h2,h3,⟨⟨l',h4,h5⟩,h6⟩,h7⟩:=h.bI id v fr _ cM
   refine Inv.canon l (h.step (da _ _ _) ht hle (iG.bg h.bI (by rw[cM];simp) hle (λ_ _=>rfl) (λ_ _ _ _ _ _ _ _=>⟨rfl,rfl⟩)
    ⟨pl,es,clock,h1,h2,h3,⟨⟨l',h4.mono λ_ _ he=>he.mono hle.mem,h5.trans (wU r).symm⟩,(((wU r).map _).nodup_iff).2 h6⟩,h7⟩ ?_))
   intro ver k' v' l2 hl;rw[cM]at hl;simp only[ay,dB.obj.injEq]at hl;obtain⟨rfl,rfl,_⟩:=hl;exact⟨rfl,rfl,⟨_,_,_,rfl⟩,λ_ _=>⟨rfl,rfl⟩⟩
  ·exact Inv.canon l h
theorem UD(k v n:Nat)(i:Id)(ver:Nat):(i= .bh k/\ver=v/\uT k v n i ver=some (.bh k,n))\/(i= .bh k/\uT k v n i ver=none)\/(i≠ .bh k/\uT k v n i ver=some (i,ver)):=by
 cases i with
 |new x j=>exact .inr (.inr ⟨by simp,rfl⟩)
 |bh j=>
  simp only[uT];cases h1:iv j k with
  |false=>exact .inr (.inr ⟨λe=>by injection e with e;subst e;simp at h1,rfl⟩)
  |true=>
   obtain rfl:=eO h1;cases h2:iv ver v with
   |false=>exact .inr (.inl ⟨rfl,rfl⟩)
   |true=>exact .inl ⟨rfl,eO h2,rfl⟩
theorem anr(hC:C.ok){s s1:AS}(h:Inv C g β s a w){k n:Nat}(he:(s.aHA k n).eval=some s1):Inv C g β s1 a w:=by
 unfold AS.aHA at he;split at he;rotate_left
 ·exact(au.1 he).elim
 rename_i v fr c hk;obtain⟨bc1,he⟩:=aB.1 he;have bc1:v<=n\/1<=n:=(Bool.or_eq_true_iff.1 bc1).imp dG dG;have hz:∀ver,C.E.F4 (.bh k) ver->ver=0:=λver hb=>by
  obtain⟨h1,h2⟩:=hb;cases hs:C.E.s (.bh k) with
  |none=>exact absurd hs h1
  |some en=>
   cases en with
   |dead=>
    have:=(h.le.F4 (.bh k) (v+1) ⟨h1,λv' fr' c' hh=>by rw[hs]at hh;cases hh⟩).2 _ _ _ hk;omega
   |obj v0 fr0 c0=>
    have:=hC.2 _ _ _ _ hs;have:=h2 _ _ _ hs;omega
 obtain rfl:=ax.1 he;have aYT:k < s.bU.length:=by
  rcases pM k s.bU.length with h | h
  ·exact h
  ·simp[AS.bQ,dD h]at hk
 generalize R6:({cg:=s.cg.map (aA.iC (uT k v n)),bU:=(s.bU.map (dB.awr (uT k v n) (HK k))).set k (.obj n fr (c.iC (uT k v n))),news:=s.news.map λes=>es.map (dB.awr (uT k v n) (HK k))}:AS)=s1;have e0:s1.bQ (.bh k)=some (.obj n fr (c.iC (uT k v n))):=by rw[<-R6];simp[AS.bQ,aYT]
 have e1:∀i,i≠ .bh k->s1.bQ i=(s.bQ i).map (dB.awr (uT k v n) (HK k)):=λi hi=>by
  rw[<-R6];cases i with
  |bh j=>
   have:¬k=j:=λe=>hi (by rw[e])
   simp only[AS.bQ];rw[dW this,dY]
  |new x j=>
   simp only[AS.bQ,aD,dY];cases s.news[x]? <;> simp
 have e2:∀i v' fr' c',i≠ .bh k->s1.bQ i=some (.obj v' fr' c')->∃c0,s.bQ i=some (.obj v' fr' c0)/\c'=c0.aEy (uT k v n) (HK k):=λi v' fr' c' hi hh=>by
  rw[e1 i hi]at hh;cases hs:s.bQ i with
  |none=>rw[hs]at hh;cases hh
  |some en=>
   rw[hs]at hh;cases en with
   |dead=>simp[dB.awr]at hh
   |obj v0 fr0 c0=>
    simp only[dQ,dB.awr,ay,dB.obj.injEq]at hh;obtain⟨rfl,rfl,rfl⟩:=hh;exact⟨c0,rfl,rfl⟩
 have e3:∀i,i≠ .bh k->s.bQ i≠none->s1.bQ i≠none:=λi hi hh=>by
  rw[e1 i hi];cases hs:s.bQ i with
  |none=>exact absurd hs hh
  |some en=>simp
 have hle:zU (uT k v n) (s.env w g β) (s1.env w g β):=by
  refine⟨Trans.mem (E:=s.env w g β) (E':=s1.env w g β) (Trans.refl w g),λi ver r hr aoR=> ?_⟩;rcases UD k v n i ver with⟨rfl,rfl,e⟩ | ⟨rfl,e⟩ | ⟨hi,e⟩
  ·rw[e]at hr;obtain rfl:=bk hr;refine⟨⟨by show s1.bQ (.bh k)≠none;rw[e0];simp,λv' fr' c' hh=> ?_⟩,λ_=>⟨⟨fr,c,hk⟩,rfl⟩⟩;have hh:s1.bQ (.bh k)=some (.obj v' fr' c'):=hh;rw[e0]at hh;simp only[ay,dB.obj.injEq]at hh;exact tp hh.1
  ·rw[e]at hr;cases hr
  ·rw[e]at hr;obtain rfl:=bk hr;obtain⟨k1,k2⟩:=aoR;have k1:s.bQ i≠none:=k1;have k2:∀v' fr' c',s.bQ i=some (.obj v' fr' c')->ver<=v':=k2;refine⟨⟨e3 i hi k1,λv' fr' c' hh=> ?_⟩,λ⟨fr',c',hh⟩=> ?_⟩
   ·obtain⟨c0,XH,_⟩:=e2 i v' fr' c' hi hh;exact k2 _ _ _ XH
   ·obtain⟨c0,XH,_⟩:=e2 i ver fr' c' hi hh;exact⟨⟨fr',c0,XH⟩,rfl⟩
 refine⟨h.defers,by rw[<-R6];simpa using h.size,λi=> ?_,λid ver fr' c' cR=> ?_,h.trans,?_⟩
 ·have:s1.slot i=(s.slot i).iC (uT k v n):=by rw[<-R6];exact acL _ rfl _ _
  rw[this];exact G4 hle (h.cg i)
 ·have cR:s1.bQ id=some (.obj ver fr' c'):=cR;by_cases hi:id= .bh k
  ·subst hi;rw[e0]at cR;simp only[ay,dB.obj.injEq]at cR;obtain⟨rfl,rfl,rfl⟩:=cR;exact wR hle (h.bI (.bh k) v fr c hk) (id':= .bh k) rfl λpl _=>⟨rfl,λ_ h=>h,λh=>h⟩
  ·obtain⟨c0,XH,rfl⟩:=e2 id ver fr' c' hi cR;have h0:=h.bI id ver fr' c0 XH;rcases au2 c0 with⟨q2,vq,kt,vt,l,cu,rfl⟩ | ⟨aVT,_⟩
   ·simp only[aA.aEy];cases aZ7:HK k q2 with
    |true=>
     have gg:q2≠ .bh k:=λe=>by subst e;simp[HK]at aZ7
     have hρq:∀vr,uT k v n q2 vr=some (q2,vr):=λvr=>by
      rcases UD k v n q2 vr with⟨e,_⟩ | ⟨e,_⟩ | ⟨_,e⟩
      ·exact absurd e gg
      ·exact absurd e gg
      ·exact e
     refine aUu.aU hle.mem (λ_=>rfl) h0 rfl (λ_ _ h=>h) λvr _=>⟨λhb=>hle.ref q2 vr (q2,vr) (hρq vr) hb,λkt vt l asT=> ?_,λ_ _ h=>h⟩
     have asT:s.bQ q2=some (.obj vr true (.mp kt vt l)):=asT;show s1.bQ q2=_;rw[e1 q2 gg,asT];rfl
    |false=>
     obtain⟨pl,mb,since,seen,c0,h1,h2,h3,h4⟩:=h0;exact⟨pl,mb,since,seen,c0,h1,h2,h3,λvr asV=>by omega⟩
   ·rw[aVT];exact wR hle h0 (id':=id) rfl λpl _=>⟨rfl,λ_ h=>h,λh=>h⟩
 ·have hl:=h.le;refine⟨hl.mem.trans (Trans.mem (E:=s.env w g β) (E':=s1.env w g β) (Trans.refl w g)),λid ver hb=> ?_,λid ver hb hc=> ?_⟩
  ·obtain⟨h1,h2⟩:=hl.F4 _ ver hb;have h1:s.bQ id≠none:=h1;have h2:∀v' fr' c',s.bQ id=some (.obj v' fr' c')->ver<=v':=h2;by_cases hi:id= .bh k
   ·subst hi;obtain rfl:=hz ver hb;exact⟨by show s1.bQ (.bh k)≠none;rw[e0];simp,λv' fr' c' hh=>aL _⟩
   ·exact⟨e3 id hi h1,λv' fr' c' hh=>let⟨c0,XH,_⟩:=e2 id v' fr' c' hi hh;h2 _ _ _ XH⟩
  ·obtain⟨fr',c',hc⟩:=hc;have hc:s1.bQ id=some (.obj ver fr' c'):=hc;by_cases hi:id= .bh k
   ·subst hi;obtain rfl:=hz ver hb;rw[e0]at hc;simp only[ay,dB.obj.injEq]at hc;have e4:=hc.1;obtain rfl:v=0:=by omega
    exact hl.cur _ _ hb ⟨fr,c,hk⟩
   ·obtain⟨c0,XH,_⟩:=e2 id ver fr' c' hi hc;exact hl.cur _ _ hb ⟨fr',c0,XH⟩
theorem Eo(hC:C.ok):∀(l:List (Nat×Nat)) {s s1:AS},Inv C g β s a w->(ans s l).eval=some s1->Inv C g β s1 a w
 |[],s,s1,h,he=>by obtain rfl:=ax.1 he;exact h
 |x::l,s,s1,h,he=>by obtain⟨s2,h1,h2⟩:=av.1 he;exact Eo hC l (anr hC h h1) h2
def W2(ids:List Id)(q:Nat):lS->lS
 | .own (.id (.new x y)) k=>match idxOf (.new x y) ids with | some m=> .own (.id (.new q m)) k | none=> .free
 |l=>l
def aWI(β:Id->Option Pl)(ids:List Id)(q:Nat):Id->Option Pl
 | .bh k=>β (.bh k)
 | .new x y=>if x=q then(ids[y]?).bind β else none
theorem Trans.W2(w:World)(g:Nat->lS)(ids:List Id)(q:Nat):Trans w w g λx=>W2 ids q (g x):=by
 refine⟨rfl,rfl,⟨rfl,aw _⟩,aw _,λy _=> ?_⟩;cases hg:g y with
 |free=>exact⟨by simp[Ab.W2],rfl⟩
 |own o k=>cases o with
  |dZ=>exact⟨by simp[Ab.W2],rfl⟩
  |id x=>
   refine⟨?_,λ_ _ _ h=>h⟩;cases x with
   |bh m=>exact .inr ⟨_,_,rfl,aw _⟩
   |new x j=>
    simp only[Ab.W2];split
    ·exact .inr ⟨_,_,rfl,aw _⟩
    ·exact .inl rfl
theorem Inv.ajU(h:Inv C g β s a w)(hC:C.ok){ids:List Id}{q:Nat}(hn:ids.Nodup)(GR:∀id∈ids,∃i j,id= .new i j)(bbo:q < s.news.length):
  ∃g1 β1,Inv C g1 β1 (s.HA ids q) a w:=by
 let ρ:Ren:=aCo s ids q
 obtain⟨s1,R6⟩:∃s1,s1=s.HA ids q:=⟨_,rfl⟩;have hold:∀k,s1.bQ (.bh k)=(s.bQ (.bh k)).map (dB.aMp ρ):=λk=>by
  rw[R6];show(s.bU.map (dB.aMp ρ))[k]? =_
  rw[dY];rfl
 have kQ:∀j,s1.bQ (.new q j)=(ids[j]?).map λid=>((s.bQ id).getD .dead).awq ρ:=λj=>by rw[R6];simp[AS.HA,AS.bQ,aD,bbo,ρ]
 have Kl:∀x j,x≠q->s1.bQ (.new x j)=none:=λx j hx=>by
  have hx':¬q=x:=λe=>hx e.symm
  rw[R6];simp only[AS.HA,AS.bQ,aD];rw[dW hx',dY];cases s.news[x]? <;> simp
 let g1:Nat->lS:=λx=>W2 ids q (g x)
 let β1:=aWI β ids q
 have ht:Trans w w g g1:=Trans.W2 w g ids q;have hβ:∀j,β1 (.new q j)=(ids[j]?).bind β:=λj=>if_pos rfl
 have hρ:∀i ver r,ρ i ver=some r->(∃k,i= .bh k/\r=(i,ver))\/∃j fr c,ids[j]? =some i/\s.bQ i=some (.obj ver fr c)/\r=(.new q j,0):=λi ver r hr=>by
  replace hr:aCo s ids q i ver=some r:=hr
  cases i with
  |bh k=>exact .inl ⟨k,rfl,(bk hr).symm⟩
  |new x y=>
   unfold aCo at hr;simp only at hr;split at hr
   ·rename_i j v fr c hj ho;split at hr
    ·rename_i hv;have hv:ver=v:=by simpa using hv
     subst hv;exact .inr ⟨j,fr,c,oO hj,dX ho,(bk hr).symm⟩
    ·cases hr
   ·cases hr
 have hrenA:∀e v fr c,dB.aMp ρ e= .obj v fr c->∃c0,e= .obj v fr c0/\c0.iC ρ=c:=λe v fr c he=>by
  cases e with
  |dead=>cases he
  |obj v0 fr0 c0=>
   simp only[dB.aMp,dB.obj.injEq]at he;obtain⟨rfl,rfl,rfl⟩:=he;exact⟨c0,rfl,rfl⟩
 have hle:zU ρ (s.env w g β) (s1.env w g1 β1):=by
  refine⟨Trans.mem (E:=s.env w g β) (E':=s1.env w g1 β1) ht,λi ver r hr aoR=> ?_⟩;rcases hρ i ver r hr with⟨k,rfl,rfl⟩ | ⟨j,fr,c,hj,he,rfl⟩
  ·obtain⟨k1,k2⟩:=aoR;have k1:s.bQ (.bh k)≠none:=k1;refine⟨⟨?_,λv' fr' c' hh=> ?_⟩,λ⟨fr',c',hh⟩=>⟨?_,rfl⟩⟩
   ·show s1.bQ (.bh k)≠none;rw[hold];cases hs:s.bQ (.bh k) with
    |none=>exact absurd hs k1
    |some en=>simp
   ·have hh:s1.bQ (.bh k)=some (.obj v' fr' c'):=hh;rw[hold,cU]at hh;obtain⟨e,he,hh⟩:=hh;obtain⟨c0,rfl,_⟩:=hrenA _ _ _ _ hh;exact k2 v' fr' c0 he
   ·have hh:s1.bQ (.bh k)=some (.obj ver fr' c'):=hh;rw[hold,cU]at hh;obtain⟨e,he,hh⟩:=hh;obtain⟨c0,rfl,_⟩:=hrenA _ _ _ _ hh;exact⟨fr',c0,he⟩
  ·refine⟨⟨by show s1.bQ (.new q j)≠none;rw[kQ,hj];simp,λ_ _ _ _=>aL _⟩,λ_=>⟨⟨fr,c,he⟩,?_⟩⟩;show β1 (.new q j)=β i;rw[hβ,hj];rfl
 have e1:s1.cg=s.cg.map (aA.iC ρ):=by rw[R6];rfl
 rw[<-R6];refine⟨g1,β1,h.TD hC ρ (by rw[e1];simp) ht hle (λi=> ?_) (λid ver fr c cR=> .inr ?_) λk=>⟨λhk=> ?_,λv' fr' c' hh=> ?_,rfl⟩⟩
 ·have:s1.slot i=(s.slot i).iC ρ:=by unfold AS.slot;rw[e1];exact acL _ rfl _ _
  rw[this];exact G4 hle (h.cg i)
 ·cases id with
  |bh k=>
   rw[hold,cU]at cR;obtain⟨e,he,cR⟩:=cR;obtain⟨c0,rfl,hc⟩:=hrenA _ _ _ _ cR;exact⟨.bh k,ver,c0,he,hc,rfl,λpl _=>⟨λn hg=>by show W2 ids q (g pl.b)=_;rw[hg];rfl,λhg=>by show W2 ids q (g pl.b)=_;rw[hg];rfl⟩⟩
  |new x y=>
   by_cases hx:x=q
   ·subst hx;rw[kQ,cU]at cR;obtain⟨i,hi,cR⟩:=cR;obtain⟨i0,j0,rfl⟩:=GR i (cG hi);cases hs:s.bQ (.new i0 j0) with
    |none=>rw[hs]at cR;cases cR
    |some e=>
     rw[hs]at cR;cases e with
     |dead=>cases cR
     |obj v0 fr0 c0=>
      simp only[dK,dB.awq,dB.obj.injEq]at cR;obtain⟨_,rfl,hc⟩:=cR;refine⟨.new i0 j0,v0,c0,hs,hc,by rw[hβ,hi];rfl,λpl _=>⟨λn hg=> ?_,λhg=>by show W2 ids _ (g pl.b)=_;rw[hg];rfl⟩⟩;show W2 ids _ (g pl.b)=_;rw[hg];simp only[W2,wZ hn hi]
   ·rw[Kl x y hx]at cR;cases cR
 ·show s1.bQ (.bh k)≠none;rw[hold];cases hs:s.bQ (.bh k) with
  |none=>exact absurd hs hk
  |some en=>simp
 ·have hh:s1.bQ (.bh k)=some (.obj v' fr' c'):=hh;rw[hold,cU]at hh;obtain⟨e,he,hh⟩:=hh;obtain⟨c0,rfl,_⟩:=hrenA _ _ _ _ hh;exact⟨c0,he⟩
theorem ajV(hC:C.ok){s s1:AS}{o:Option Nat}(h:ia C s a w)(he:(s.ajU o).eval=some s1):ia C s1 a w:=by
 cases o with
 |none=>
  obtain rfl:=ax.1 he;exact h
 |some q=>
  obtain⟨h1,h2⟩:=aB.1 he;obtain rfl:=ax.1 h2;obtain⟨g,β,h⟩:=h;obtain⟨g1,β1,h3⟩:=h.ajU hC (ids:=s.aYo) ((sS s _ _ _ (by simp)).filter _) (λid cR=>by
   have:=(nq.1 cR).2;cases id with
   |bh k=>cases this
   |new i j=>exact⟨i,j,rfl⟩) (dG h1)
  exact⟨g1,β1,h3⟩
theorem oX(hC:C.ok){an:nZ}{s1:AS}(h:ia C s a w)(he:(norm P an s).eval=some s1):ia C s1 a w:=by unfold norm at he;obtain⟨sb,bds,he⟩:=av.1 he;obtain⟨su,bdt,he⟩:=av.1 he;obtain⟨sd,baK,he⟩:=av.1 he;obtain⟨s0,h1,h2⟩:=av.1 he;obtain⟨h3,h4⟩:=aB.1 h2;obtain⟨sf,h5,h6⟩:=av.1 h4;obtain⟨sg,h6,h7⟩:=av.1 h6;obtain⟨g0,β0,h0⟩:=h;obtain⟨g1,i1,_⟩:=fo an.ayR (Eo hC _ h0 bds);obtain⟨g,β,h⟩:=Oy _ (Ao _ (aio _ ⟨g1,β0,(i1.still an.bah).canon an.aUZ⟩ bdt) baK) h1;exact ajV hC (lB hC _ (SP _ ⟨g,β,h.aU hC h3⟩ h5) h6) h7
end
end Go.Ab
end
