/-
  Made short by a program of mine (wip/tools/mini.py).
-/
import Derived.Test.YtlfkbbankpbinaaGreatS31x1
import Derived.Lib.Builder
import Derived.Lib.UnsafeStr
import Derived.Lib.AppendZeros
import Derived.Maps.RangeRun
set_option linter.unusedVariables false
set_option linter.unusedSimpArgs false
set_option maxRecDepth 100000
set_option synthInstance.maxSize 5000
open Go renaming IntKind->kR,FuncId->fK,Operand->bK,Program->aM,World->bW,MapEntry->fN
open List renaming replicate->ai,length->ag
open UInt8 renaming ofNat->fo
open Nat renaming beq->iG
open Go.World renaming cell?->eN
open Go.Sem renaming run_bind->cg,run_pure->dY
open Go.Result renaming andThen_ok->bH
open Go.Addr renaming add_lit->fv
open Go.Op renaming equalIn->df,operands->bY
open Go.Call renaming operands->ej
open Option renaming some->ao,none->aJ
open Bool renaming true->aT,false->aR
noncomputable section
namespace Go.Ab
section
variable {P:aM} {C:Ctx} {g:Nat->lY} {β:Id->Option Pl} {s:AS} {a:Act} {w:bW} {o:Oper}
theorem Bf{b:Builtin}{args:Array bK}{ts:Array TypeId}{f:Sem Value}{x:Value}{w':bW}(ho:o.op= .call {callee:= .builtin b,args,argTypes:=ts})
  (hb:∀ty cs xs,xs=args.map a.eval->builtin b ts ty cs xs=(do pure (.value (<-f)))) (hf:f.run P w= .ok x w'):(execOp a.eval o).run P w= .ok (.value x) w':=by
 simp only[execOp,ho,resolve,cg,dY,bH,invoke];rw[hb _ _ _ rfl,cg,hf];rfl
theorem avC(h:Inv C g β s a w){c:Call}{x:bK}{T:TypeId}(ho:o.op= .call c)(hc:c.callee= .builtin .len)(ha:c.args.toList=[x])(ht:c.argTypes.toList=[T]){v:aD}(he:(aAx P T (s.ev x)).eval=ao v):
  fL P o a w (gT C (s.put o.dst v)):=by
 obtain⟨cal,args,tys⟩:=c;simp only at hc ha ht;have ha':args= #[x]:=by apply gg;simpa using ha
 have ht':tys= #[T]:=by apply gg;simpa using ht
 subst hc ha' ht';have hx:=h.ev x;have fin:∀z,(Builtin.len_ #[T] 0 #[a.eval x]).run P w= .ok z w->VS (s.env w g β) v z->fL P o a w (gT C (s.put o.dst v)):=by intro z h1 h2;refine h.value h2 (Bf ho (f:=Builtin.len_ #[T] 0 #[a.eval x]) (λty cs xs ah4=> ?_) h1);subst ah4;have e1:Builtin.len_ #[T] 0 #[a.eval x]=Builtin.len_ #[T] ty #[a.eval x]:=rfl;rw[e1];simp[builtin]
 unfold aAx at he;split at he
 ·rename_i st hT hl;rw[hl]at hx;obtain rfl:=ay.1 he;refine fin (.int .i64 (st.size:Int)) ?_ (lH _ _)
  rw[Gr hx];simp[Builtin.len_,run_underlying hT,goInt]
 ·rename_i e t l hT hl;rw[hl]at hx;obtain rfl:=ay.1 he;obtain⟨ad,cap,vs,hy,_⟩:=tQ hx;refine fin (.int .i64 (l.length:Int)) ?_ (lH _ _)
  rw[hy];simp[Builtin.len_,run_underlying hT,goInt]
 ·rename_i e hT hl;rw[hl]at hx;obtain rfl:=ay.1 he;refine fin (.int .i64 0) ?_ (lH _ _)
  rw[lu hx];simp[Builtin.len_,run_underlying hT,goInt]
 ·rename_i e id ver p c i len hT hl;rw[hl]at hx;obtain rfl:=ay.1 he;obtain⟨ad,cap,hy,_⟩:=qY hx;refine fin (.int .i64 (len:Int)) ?_ (lH _ _)
  rw[hy];simp[Builtin.len_,run_underlying hT,goInt]
 ·rename_i n e hT;obtain rfl:=ay.1 he;refine fin (.int .i64 (n:Int)) ?_ (lH _ _)
  simp[Builtin.len_,run_underlying hT,goInt]
 ·simp only[aw]at he
def Env.open(E:Env):Env:= {E with g:=λ_=> .free}
theorem aAS(E:Env):cU E E.open:=⟨⟨λ_ _ _ h=>⟨h.1,trivial⟩,λ_ _ _ h=>⟨rfl,h⟩⟩,λ_ _ h=>h,λ_ _ _ h=>⟨h,rfl⟩⟩
theorem akl(h:Inv C g β s a w){v:aD}{y:Value}(hv:VS (s.env w g β) v y){t:Ty}{x:t.den}(ht:(s.akk t v).eval=ao x):
  ∃cs,cI (s.env w g β).open t cs x/\fR t.agg cs y:=by
 obtain⟨cs,hV,hO⟩:=hv.eQ (A7 ht);exact⟨cs,tV rfl h.bN (aAS _) v t x cs hV ht (λid _ v fr c _ pl _ j x hx _=>⟨hx,trivial⟩),by rw[<-WH ht];exact hO⟩
theorem vQ{E:Env}{k:kR}:∀ {vs:List Value} {l:List Int},bq (cI E (.int k)) vs l->vs=l.map (Value.int k)
 |vs,[],h=>h
 |_,x::xs,⟨c,cs',e,hx,hr⟩=>by
  have hx':c=[Value.int k x]:=by simpa only[cI]using hx
  rw[e,hx',vQ hr];rfl
theorem vU{E:Env}{k:kR}:∀(l:List Int),bq (cI E (.int k)) (l.map (Value.int k)) l
 |[]=>rfl
 |x::xs=>⟨[.int k x],xs.map (Value.int k),rfl,by simp[cI],vU xs⟩
theorem foldl_push(l:List Int):∀b:ByteArray,l.foldl (λr n=>r.push (fo n.toNat)) b=⟨b.data++(l.map λn=>fo n.toNat).toArray⟩:=by
 induction l with
 |nil=>intro b;simp
 |cons n l ih=>
  intro b;rw[aX,ih];simp[ByteArray.push]
theorem agU{α:Type}(xs:Array α)(x:α)(f:α->α):(xs.push x).modify xs.size f=xs.push (f x):=by
 apply rj;intro i;rw[gl,Array.getElem?_push,Array.getElem?_push];by_cases h:i=xs.size
 ·subst h;simp
 ·have h':¬xs.size=i:=λe=>h e.symm
  simp[h,h']
theorem abm(w:bW)(c:Array Value)(e:TypeId)(n:Nat):(w.alloc (.cells c e)).freeze ⟨w.heap.size,n,aJ⟩ 1=w.alloc (.cells c e (n,n+1)):=by show({w with heap:=(w.heap.push (.cells c e)).modify w.heap.size _}:bW)= {w with heap:=w.heap.push (.cells c e (n,n+1))};rw[agU];rfl
theorem afd{w:bW}{b:Nat}{c:Array Value}{e:TypeId}{n:Nat}(h:w.heap[b]? =ao (.cells c e (n,n+1))):w.freeze ⟨b,n,aJ⟩ 1=w:=by
 unfold World.freeze;rw[if_neg au];have:∀f:Obj->Obj,f (.cells c e (n,n+1))= .cells c e (n,n+1)->w.heap.modify b f=w.heap:=λf hf=>by
  apply rj;intro i;rw[gl];split
  ·rename_i hi;subst hi;rw[h];simp[hf]
  ·rfl
 rw[this];simp
theorem M6(e:TypeId)(st:ByteArray)(w:bW):∃cap:Nat,st.size<=cap/\∃arr:Array Value,(∀(j:Nat) (v:Value),((cE st).map (Value.int .u8))[j]? =ao v->arr[j]? =ao v)/\
  (Conv.stringToBytes e st).run P w= .ok (.slice (ao ⟨w.heap.size,0,aJ⟩) st.size cap) (w.drew.alloc (.cells arr e (arr.size,arr.size+1))):=by
 refine⟨(Question.appendCap st.size 0 e).cut (w.tape w.drawn (.appendCap st.size 0 e)),by simp[Question.cut],
  (st.data.map λb=>Value.int .u8 b.toNat)++Array.replicate ((Question.appendCap st.size 0 e).cut (w.tape w.drawn (.appendCap st.size 0 e)) - st.size) (.int .u8 0),?_,?_⟩
 ·intro j v hj;have hl:j < st.data.size:=by have:=(dN.1 hj).1;simpa[cE]using this
  rw[kr,if_pos (by simpa using hl)];simpa[cE,hl]using hj
 ·have hs:∀(arr:Array Value),(markStringish ⟨w.heap.size,0,aJ⟩).run P (w.drew.alloc (.cells arr e))= .ok () (w.drew.alloc (.cells arr e (arr.size,arr.size+1))):=by
   intro arr;have h1:(w.drew.alloc (.cells arr e)).shape? w.heap.size=ao (e,arr.size):=by
    have h2:(w.drew.alloc (.cells arr e)).heap[w.heap.size]? =ao (.cells arr e):=sW w.drew _
    simp only[World.shape?,h2]
   have h3:=abm w.drew arr e arr.size;have h4:w.drew.heap.size=w.heap.size:=rfl;rw[h4]at h3;simp only[markStringish,cg,run_shape,h1,bH,run_freeze,h3]
  simp[Conv.stringToBytes,Question.forced,newRow,hs]
theorem Inv.kill(h:Inv C g β s a w){id:Id}{v:Nat}{fr:Bool}{c:aD}(hs:s.bU id=ao (.obj v fr c)){b:Nat}(hg:g b= .own (.id id) 0){w':bW}(aCw:w'.os=w.os)(aJo:w'.tape=w.tape)(Ru:w'.output=w.output/\w.drawn<=w'.drawn)(sj:w'.heap.size=w.heap.size)
  (HA:∀b',b'≠b->w'.heap[b']? =w.heap[b']?):Inv C (nu g b .free) β (s.aZ id .dead) a w':=by
 have ht:Trans w w' g (nu g b .free):=by
  refine⟨aCw,aJo,Ru,au,λb' hb'=> ?_⟩;by_cases he:b'=b
  ·subst he;rw[hg,fH];exact⟨.inl rfl,λ_ _ hh=>au⟩
  ·rw[fC _ _ _ he,HA b' he];cases Rt:g b' with
   |free=>exact⟨rfl,rfl⟩
   |own o k=>cases o with
    |eL=>exact⟨rfl,rfl⟩
    |id i=>exact⟨.inr ⟨i,k,rfl,aF _⟩,λoff v _ hv=>by simp only[eN,HA b' he]at hv ⊢;exact hv⟩
 have lj:=eK s id .dead (by rw[hs];simp);have hle:cU (s.env w g β) ((s.aZ id .dead).env w' (nu g b .free) β):=by
  refine⟨Trans.mem ht,λi ver hb=> ?_,λi ver hb hc=> ?_⟩
  ·by_cases hi:i=id
   ·subst hi;exact⟨by show(s.aZ i .dead).bU i≠aJ;rw[lj];simp,λv fr c hh=>by
     have hh:(s.aZ i .dead).bU i=ao (.obj v fr c):=hh;rw[lj]at hh;cases hh⟩
   ·have:=dd s id i .dead hi;obtain⟨h1,h2⟩:=hb;exact⟨by show(s.aZ id .dead).bU i≠aJ;rw[this];exact h1,λv fr c hh=>h2 v fr c (this.symm.trans hh)⟩
  ·obtain⟨fr,c,hc⟩:=hc;have hc:(s.aZ id .dead).bU i=ao (.obj ver fr c):=hc;by_cases hi:i=id
   ·subst hi;rw[lj]at hc;cases hc
   ·rw[dd s id i .dead hi]at hc;exact⟨⟨fr,c,hc⟩,rfl⟩
 refine h.step (dr _ _ _) ht hle λi ver fr c hi=> ?_
 have hi:(s.aZ id .dead).bU i=ao (.obj ver fr c):=hi;by_cases de:i=id
 ·subst de;rw[lj]at hi;cases hi
 ·rw[dd s id i .dead de]at hi;refine(h.bN i ver fr c hi).mono hle rfl (λpl hp=> ?_) λq2 vq k2 v2 l2 Oi aGi=> ?_
  ·have gj:=h.apart hg de hi (pl:=pl) hp;exact⟨HA pl.b gj,fC _ _ _ gj⟩
  ·have Oi:s.bU q2=ao (.obj vq aT (.mp k2 v2 l2)):=Oi;have hd:q2≠id:=λe=>by obtain⟨fr3,c3,aCk⟩:=aGi;have aCk:(s.aZ id .dead).bU q2=ao (.obj vq fr3 c3):=aCk;rw[e,lj]at aCk;cases aCk
   refine⟨⟨k2,v2,l2,by show(s.aZ id .dead).bU q2=_;rw[dd s id q2 .dead hd];exact Oi⟩,λpl hp=> ?_⟩;have gj:=h.apart hg hd Oi (pl:=pl) hp;exact⟨HA pl.b gj,fC _ _ _ gj⟩
theorem aiR(h:Inv C g β s a w){src dst:TypeId}{x:bK}(ho:o.op= .convert src dst x){id:Id}{ver len:Nat}(hx:s.ev x= .b8 id ver [] 0 0 len){s':AS}(he:(aew P s o.dst src dst id ver len).eval=ao s'):fL P o a w (gT C s'):=by
 unfold aew at he;split at he
 ·rename_i v e0 l e kA hD;split at he
  ·rename_i hE;obtain⟨h1,h2⟩:=aG.1 he;obtain⟨h3,h4⟩:=bS.1 h2;obtain rfl:=ay.1 h4;simp only[av,dB]at h1;obtain⟨rfl,rfl⟩:=h1;simp only[aW]at h3;obtain⟨h5,h6⟩:=h3;have cP:=dZ kA;have hv:=h.ev x;rw[hx]at hv;obtain⟨ad,cap,hy,LH,_,_,fD⟩:=qY hv;have fD:=fD ⟨aR,_,cP⟩;have hO:vK (s.env w g β) id aR (.vec e0 (.int .u8) l):=h.bN id v aR _ cP;obtain⟨hz,hO⟩:=hO;have hO:(match β id with
    |none=>l=[]
    |some pl=>∃cur k,w.heap[pl.b]? =ao (.cells cur e0 (0,0))/\cur.size=pl.cap*(Ty.int .u8).size/\l.length<=pl.cap/\pl.cap<=maxLen/\g pl.b= .own (.id id) k/\
      k<=l.length*(Ty.int .u8).size/\(aR=aR->k=0)/\bq (cI (s.env w g β) (.int .u8)) (cur.toList.take (l.length*(Ty.int .u8).size)) l):=hO
   have fD:(match β id with
    |some pl=>(0 < len\/0=0->ad=ao ⟨pl.b,0,aJ⟩)/\(([]:List Hw)=[]->0=0->cap=pl.cap)
    |none=>ad=aJ/\len=0/\cap=0):=fD
   cases hp:β id with
   |none=>rw[hp]at hO;simp only at hO;subst hO;simp at h6;omega
   |some pl=>
    rw[hp]at hO fD;obtain⟨cur,k,q1,q2,q3,q4,q5,q6,q7,q8⟩:=hO;have hk:=q7 rfl;subst hk;have ajj:=fD.1 (.inr rfl);subst ajj;have hb:pl.b < w.heap.size:=(bO.1 q1).1;have aGv:∃w',w.freeze ⟨pl.b,cur.size,aJ⟩ 1=w'/\w'.heap[pl.b]? =ao (.cells cur e0 (cur.size,cur.size+1))/\w'.os=w.os/\w'.tape=w.tape/\(w'.output=w.output/\w.drawn<=w'.drawn)/\w'.heap.size=w.heap.size/\∀b',b'≠pl.b->w'.heap[b']? =w.heap[b']? :=by
     refine⟨_,rfl,?_⟩;unfold World.freeze;rw[if_neg au];refine⟨?_,rfl,rfl,⟨rfl,aF _⟩,by simp,λb' hb'=> ?_⟩
     ·simp only[gl,cY,q1,eo];rfl
     ·simp only[gl];rw[if_neg (λe=>hb' e.symm)]
    obtain⟨w',hw',f1,f2,f3,f4,f5,f6⟩:=aGv;have ajq:w.shape? pl.b=ao (e0,cur.size):=by simp only[World.shape?,q1]
    have hm:(markStringish ⟨pl.b,0,aJ⟩).run P w= .ok () w':=by simp only[markStringish,cg,run_shape,ajq,bH,run_freeze,hw']
    have i1:=h.kill cP q5 f2 f3 f4 f5 f6;refine .inl ⟨.slice (ao ⟨pl.b,0,aJ⟩) len cap,w',eu (f:=convert src src (a.eval x)) (by simp only[execOp,ho]) ?_,_,β,i1.put o.dst ⟨_,?_,rfl⟩⟩
    ·rw[hy];simp[convert,run_underlying hD,run_underlying hE,hm]
    ·have P9:=vQ q8;have aD6:(Ty.int .u8).size=1:=rfl;rw[aD6,jG]at P9;simp only[V,cI];refine⟨_,cap,l.map (Value.int .u8),by rw[h6],by rw[<-h6];exact LH,λ_=>rfl,λj vv hj=>⟨_,_,rfl,?_,?_⟩,vU (E:=(s.aZ id .dead).env w' (nu g pl.b .free) β) _⟩
     ·rw[bg];show w'.cell? ⟨pl.b,j,aJ⟩=ao vv;simp only[eN,f1];rw[<-P9,c9]at hj;split at hj
      ·simpa using hj
      ·cases hj
     ·show sM (nu g pl.b .free) pl.b (0+j);unfold sM;rw[fH];trivial
  ·simp only[aw]at he
 ·simp only[aw]at he
theorem azz(h:Inv C g β s a w){src dst:TypeId}{x:bK}(ho:o.op= .convert src dst x){l:List Int}(hl:s.ev x= .sb l){v:aD}(he:(atO P src dst l).eval=ao v):fL P o a w (gT C (s.put o.dst v)):=by
 have hx:=h.ev x;have fin:∀z,(convert src dst (a.eval x)).run P w= .ok z w->VS (s.env w g β) v z->fL P o a w (gT C (s.put o.dst v)):=by intro z h1 h2;exact h.value h2 (eu (f:=convert src dst (a.eval x)) (by simp only[execOp,ho]) h1)
 unfold atO at he;split at he
 ·rename_i e e' hD hS;rw[hl]at hx;split at he
  ·rename_i hE;obtain⟨h1,h2⟩:=aG.1 he;obtain rfl:=ay.1 h2;have h1:src=dst:=by simpa using h1
   subst h1;obtain⟨cs,hv,hO⟩:=hx;simp only[V]at hv;obtain⟨b,cap,arr,e2,apx,LH,aDW,hb,ajk⟩:=hv;have hO':cs=[a.eval x]:=hO;rw[apx]at hO';have hy:a.eval x= .slice (ao ⟨b,0,aJ⟩) l.length cap:=by simpa using hO'.symm
   rw[hD]at hS;obtain rfl:e=e':=by simpa using hS
   refine fin (.slice (ao ⟨b,0,aJ⟩) l.length cap) ?_ ⟨_,?_,rfl⟩
   ·rw[hy];have hb:w.heap[b]? =ao (.cells arr e2 (arr.size,arr.size+1)):=hb
    have aGv:=afd hb;have ajq:w.shape? b=ao (e2,arr.size):=by simp only[World.shape?,hb]
    have hm:(markStringish ⟨b,0,aJ⟩).run P w= .ok () w:=by simp only[markStringish,cg,run_shape,ajq,bH,run_freeze,aGv]
    simp[convert,run_underlying hD,run_underlying hE,hm]
   ·simp only[V,cI];refine⟨_,cap,l.map (Value.int .u8),rfl,LH,λ_=>rfl,λj v hj=>⟨_,_,rfl,?_,?_⟩,vU (E:=s.env w g β) _⟩
    ·rw[bg];show w.cell? ⟨b,j,aJ⟩=ao v;have hb:w.heap[b]? =ao (.cells arr e2 (arr.size,arr.size+1)):=hb
     simp only[eN,hb];simpa using ajk j v hj
    ·show sM g b (0+j);unfold sM;have aDW:g b= .free:=aDW;rw[aDW];trivial
  ·simp only[aw]at he
 ·simp only[aw]at he
theorem aaI(h:Inv C g β s a w){obj:Bool}{src dst:TypeId}{x:bK}(ho:o.op= .convert src dst x){v:aD}(he:(YJ P s obj src dst (s.ev x)).eval=ao v):fL P o a w (gT C (s.put o.dst v)):=by
 have hx:=h.ev x;have fin:∀z,(convert src dst (a.eval x)).run P w= .ok z w->VS (s.env w g β) v z->fL P o a w (gT C (s.put o.dst v)):=by intro z h1 h2;exact h.value h2 (eu (f:=convert src dst (a.eval x)) (by simp only[execOp,ho]) h1)
 unfold YJ at he;split at he
 ·rename_i l hl;exact azz h ho hl he
 rename_i aGD;unfold atN at he;split at he
 ·rename_i k n k' d hl hD hS;rw[hl]at hx;obtain rfl:=ay.1 he;refine fin (.int k' (k'.wrap n)) ?_ (lH _ _)
  rw[uq hx];simp[convert,run_underlying hD,run_underlying hS,Conv.intToInt]
 ·rename_i st d hl hD hS;rw[hl]at hx;obtain rfl:=ay.1 he;refine fin (.string st) ?_ (aal _)
  rw[Gr hx];simp[convert,run_underlying hD,run_underlying hS]
 ·rename_i st e d hl hD hS;rw[hl]at hx;split at he
  ·rename_i hE;obtain⟨cap,LH,arr,ajk,pK⟩:=M6 (P:=P) e st w;have i1:=(h.drew).GX (.cells arr e (arr.size,arr.size+1));have hlen:(cE st).length=st.size:=by simp only[cE,cH,cR];rfl
   have h2:=sW w.drew (.cells arr e (arr.size,arr.size+1));have hex:(execOp a.eval o).run P w= .ok (.value (.slice (ao ⟨w.heap.size,0,aJ⟩) st.size cap)) (w.drew.alloc (.cells arr e (arr.size,arr.size+1))):=by
    refine eu (f:=convert src dst (a.eval x)) (by simp only[execOp,ho]) ?_
    rw[Gr hx];simp[convert,run_underlying hD,run_underlying hS,run_underlying hE,pK]
   have amq:nu g w.drew.heap.size .free w.heap.size= .free:=by rw[show w.drew.heap.size=w.heap.size from rfl,fH]
   cases obj with
   |false=>
    obtain rfl:=ay.1 he;refine .inl ⟨_,_,hex,_,β,i1.put o.dst ⟨_,?_,rfl⟩⟩;simp only[V,cI];refine⟨_,cap,(cE st).map (Value.int .u8),by rw[hlen],au,λ_=>rfl,λj v hj=>⟨_,_,rfl,?_,?_⟩,vU (E:=s.env (w.drew.alloc (.cells arr e (arr.size,arr.size+1))) (nu g w.drew.heap.size .free) β) _⟩
    ·have:=ajk j v hj;rw[bg];show(w.drew.alloc (.cells arr e (arr.size,arr.size+1))).cell? ⟨w.drew.heap.size,j,aJ⟩=ao v;simp only[eN,h2];simpa using this
    ·show sM (nu g w.drew.heap.size .free) w.heap.size (0+j);unfold sM;rw[amq];trivial
   |true=>
    obtain rfl:=ay.1 he;refine .inl ⟨_,_,hex,_,β,i1.put o.dst ⟨_,?_,rfl⟩⟩;simp only[V];exact⟨w.heap.size,cap,arr,e,by rw[hlen],au,amq,h2,ajk⟩
  ·simp only[aw]at he
 ·rename_i e hD hS gj;clear gj;split at he
  ·rename_i hE;obtain⟨l,h1,h2⟩:=ax.1 he;obtain rfl:=ay.1 h2;obtain⟨cs,hR,hO⟩:=akl h hx h1;simp only[cI]at hR;obtain⟨ad,cap,vs,rfl,asq,qh,sJ,uZ⟩:=hR;have hO': [Value.slice ad (ag l) cap]=[a.eval x]:=hO;have hy:a.eval x= .slice ad (ag l) cap:=by simpa using hO'.symm
   refine fin (.string (fB l)) ?_ (aal _)
   rw[hy,run_convert_bytes_string w src dst e ad _ _ hS hE hD];have P9:=vQ (E:=(s.env w g β).open) (k:= .u8) (vs:=vs) (l:=l) uZ;cases ad with
   |none=>
    have aGD:l=[]:=by
     cases l with
     |nil=>rfl
     |cons _ _=>simp at qh
    subst aGD;rfl
   |some ad=>
    have au1:(loadCells ad (ag l)).run P w= .ok (l.map (Value.int .u8)).toArray w:=by
     have:=run_loadCells_list (P:=P) w ad (l.map (Value.int .u8)) (λj v hj=>by
      rw[<-P9]at hj;obtain⟨bb,off,e1,hh⟩:=sJ j v hj;simp only[az]at e1;subst e1;rw[fv];exact hh.1)
     simpa using this
    rw[run_bytesToString w ad _ _ l au1,foldl_push];simp[fB]
  ·simp only[aw]at he
 ·simp only[aw]at he
end
end Go.Ab
namespace Go.Ab
section
variable {P:aM} {C:Ctx} {g:Nat->lY} {β:Id->Option Pl} {s:AS} {a:Act} {w:bW} {o:Oper}
theorem Y0(off:Nat):∀(vs:List Value) (k:Nat) (cells:Array Value),off+k+vs.length<=cells.size->
  ((vs.zipIdx k).foldl (λcs (c,j)=>cs.setIfInBounds (off+j) c) cells).toList=dD cells.toList (off+k) vs
 |[],k,cells,_=>by simp[dD]
 |v::vs,k,cells,h=>by simp only[aH]at h;rw[List.zipIdx_cons,aX,Y0 off vs (k+1) _ (by simpa using(by omega:off+(k+1)+vs.length<=cells.size))];rw[Array.toList_setIfInBounds];have:=list_seg_step cells.toList (off+k) v vs (by simp;omega);unfold dD;simpa[fF]using this
theorem YY{place:Nat->Option (Nat×Nat)}{cells:Array Value}{i off:Nat}{v:Value}{vs:List Value}{rest:List (Nat×Value)}(hp:place i=ao (off,vs.length))(hv:v.cells=vs.toArray)(hl:off+vs.length<=cells.size):
  Instr.fill place cells ((i,v)::rest)=Instr.fill place (dD cells.toList off vs).toArray rest:=by
 have h1:v.cells.size=vs.length:=by rw[hv];simp
 have h2:¬(v.cells.size≠vs.length || off+v.cells.size > cells.size)=aT:=by simp[h1];omega
 simp only[Instr.fill,hp];rw[if_neg h2];congr 1;apply gg;have:=Y0 off vs 0 cells au;simp only[cX]at this;rw[<-this,hv];rw[<-Array.foldl_toList];simp
theorem BS{E E':Env}(hs:E.s=s.bU)(ho:iN E)(he:cU E E'){t:Ty}(afq:∀x,VS E (s.ev x) (a.eval x)):
  ∀(ps:List (Nat×bK)) (l:List t.den) (r:List t.den×List Id) (cells:Array Value),(jv t s ps l).eval=ao r->aFM E E' r.2->bq (cI E' t) cells.toList l->
   ∃cells',Instr.fill (λi=>ao (i*t.size,t.size)) cells (ps.map λ(i,x)=>(i,a.eval x))=ao cells'/\bq (cI E' t) cells'.toList r.1
 |[],l,r,cells,h,_,hc=>by obtain rfl:=ay.1 h;exact⟨cells,rfl,hc⟩
 | (i,x)::ps,l,r,cells,h,hf,hc=>by
  simp only[jv]at h;obtain⟨h1,h2⟩:=aG.1 h;obtain⟨y,h3,h4⟩:=ax.1 h2;obtain⟨r',h5,h6⟩:=ax.1 h4;obtain rfl:=ay.1 h6;have hi:i < l.length:=by simpa using h1
  obtain⟨cs,hV,hO⟩:=(afq x).eQ (A7 h3);have hR:=tV hs ho he _ t y cs hV h3 (λid de=>hf id (by simp[de]));have Cm:=hO.cells hV.one;have hlen:=hc.length (λ_ _ hx=>cI.size hx);have sj:=hR.size;have hle:i*t.size+cs.length<=cells.size:=by have:=c8 t.size (show i+1<=l.length by omega);rw[eM,ik]at this;simp at hlen;omega
  have abw:=bq.set (λ_ _ hx=>cI.size hx) hc i hi hR;obtain⟨cells',q1,q2⟩:=BS hs ho he afq ps (l.set i y) r' (dD cells.toList (i*t.size) cs).toArray h5 (λid de=>hf id (by simp[de])) abw;refine⟨cells',?_,q2⟩;rw[cr,YY (by rw[sj]) Cm hle];exact q1
theorem tN{E:Env}{t:Ty}{zc:Array Value}(hz:cI E t zc.toList t.zero):∀n:Nat,bq (cI E t) (madeCells zc (n*t.size)).toList (ai n t.zero):=by
 have sj:zc.size=t.size:=by have:=hz.size;simpa using this
 intro n
 induction n with
 |zero=>simp[madeCells,bq]
 |succ n ih=>
  have e:(madeCells zc ((n+1)*t.size)).toList=(madeCells zc (n*t.size)).toList++zc.toList:=by
   apply kT;intro j;rw[eM,ik];simp only[madeCells,Array.toList_map,Array.toList_range,eJ,List.getElem?_append,cH,List.length_range];by_cases hj:j < n*t.size
   ·have hj':j < n*t.size+t.size:=au;simp[hj,hj',sj]
   ·by_cases hj':j < n*t.size+t.size
    ·have je:j - n*t.size < zc.size:=au;have hm:j%t.size=j - n*t.size:=by
      have:j=(j - n*t.size)+t.size*n:=by rw[pD t.size n];omega
      rw[this,Nat.add_mul_mod_self_left,jZ au];rw[pD t.size n];omega
     simp[hj,hj',sj,hm];rw[getElem?_pos zc _ je,lh zc _ je]
    ·have h1:¬j - n*t.size < zc.size:=au;simp[hj,hj',h1]
  rw[e,List.replicate_succ'];exact bq.append ih (bq.one hz)
theorem qz{nl:Bool}{T:TypeId}{e:TypeId}{t:Ty}{b:Nat}(h:Dp P nl T=ao (e,t,b)):
  P.underlying T=ao (.slice e)/\0 < t.size/\∃i zv,P.info? e=ao i/\i.size=t.size/\i.bytes=b/\i.zero=ao zv/\∀E,cI E t zv.cells.toList t.zero:=by
 unfold Dp at h;split at h
 ·rename_i e' hT;split at h
  ·rename_i t' ht;split at h
   ·rename_i hg;simp only[az,cK]at h;obtain⟨rfl,rfl,rfl⟩:=h;simp only[av,cv,dB,gh]at hg;obtain⟨⟨h1,h2⟩,h3⟩:=hg;obtain⟨i,zv,hi,hz,_,_⟩:=uO h3 {w:=default,g:=λ_=> .free,β:=λ_=>aJ,s:=λ_=>aJ};refine⟨hT,au,i,zv,hi,by rw[<-mW hi];exact h1,by simp[Program.bytesOf,hi],hz,λE=> ?_⟩;obtain⟨i',zv',hi',hz',hV,_⟩:=uO h3 E;rw[hi]at hi';obtain rfl:i=i':=by simpa using hi'
    rw[hz]at hz';obtain rfl:zv=zv':=by simpa using hz'
    simpa only[V]using hV
   ·cases h
  ·cases h
 ·cases h
theorem Bm{T:TypeId}{e:TypeId}{t:Ty}{b:Nat}(h:R1 P T=ao (e,t,b)):P.underlying T=ao (.slice e)/\0 < t.size/\∃i zv,P.info? e=ao i/\i.size=t.size/\i.bytes=b/\i.zero=ao zv/\∀E,cI E t zv.cells.toList t.zero:=qz h
theorem Xl{T:TypeId}{e:TypeId}{t:Ty}{b:Nat}(h:aa9 P T=ao (e,t,b)):0 < t.size:=by
 unfold aa9 at h;split at h
 ·exact(qz h).2.1
 ·exact(qz h).2.1
theorem Inv.abZ(h:Inv C g β s a w){q:Nat}(hq:s.ez q=aT){e:TypeId}{t:Ty}{l:List t.den}{cur:Array Value}{cap:Nat}(hz:0 < t.size)(hc:bq (cI (s.env w g β) t) (cur.toList.take (l.length*t.size)) l)
  (hs:cur.size=cap*t.size) (hl:l.length<=cap) (hm:cap<=maxLen):
  ∃g' β',Inv C g' β' (s.born q [.obj 0 aR (.vec e t l)]) a (w.alloc (.cells cur e))/\
   VS ((s.born q [.obj 0 aR (.vec e t l)]).env (w.alloc (.cells cur e)) g' β') (.b8 (.new q 0) 0 [] 0 0 l.length) (.slice (ao ⟨w.heap.size,0,aJ⟩) l.length cap):=by
 have ht:=Trans.alloc w g (.cells cur e) (.own (.id (.new q 0)) 0);obtain⟨h1,h2⟩:=h.NV hq (c:= .vec e t l) (p:=ao ⟨w.heap.size,cap⟩) ht (λb hb=>⟨qv w _ hb,fC _ _ _ au⟩) (λhe=>by
  refine⟨hz,?_⟩;show(match GW β (.new q 0) (ao ⟨w.heap.size,cap⟩) (.new q 0) with
   |none=>l=[]
   |some pl=>_)
  rw[j7];exact⟨cur,0,sW w _,hs,hl,hm,fH _ _ _,aN _,λ_=>rfl,hc.mono λ_ _ hx=>hx.mono he.mem⟩)
 refine⟨_,_,h1,_,?_,rfl⟩;simp only[V];refine⟨_,_,rfl,hl,λ_=>rfl,pI hq _ _ _ _,λ_=> ?_⟩;show(match GW β (.new q 0) (ao ⟨w.heap.size,cap⟩) (.new q 0) with
   |some pl=>_
   |none=>_)
 rw[j7];exact⟨λ_=>rfl,λ_ _=>rfl⟩
theorem Inv.av6(h:Inv C g β s a w){q:Nat}(hq:s.ez q=aT){e:TypeId}{t:Ty}(hz:0 < t.size):
  ∃β',Inv C g β' (s.born q [.obj 0 aR (.vec e t [])]) a w/\cU (s.env w g β) ((s.born q [.obj 0 aR (.vec e t [])]).env w g β')/\
   VS ((s.born q [.obj 0 aR (.vec e t [])]).env w g β') (.b8 (.new q 0) 0 [] 0 0 0) (.slice aJ 0 0):=by
 have ht:=Trans.refl w g;obtain⟨h1,h2⟩:=h.NV hq (c:= .vec e t []) (p:=aJ) ht (λb hb=>⟨rfl,rfl⟩) (λhe=>by
  refine⟨hz,?_⟩;show(match GW β (.new q 0) aJ (.new q 0) with
   |none=>([]:List t.den)=[]
   |some pl=>_)
  rw[j7])
 refine⟨_,h1,h2,_,?_,rfl⟩;simp only[V];refine⟨_,_,rfl,aF _,λhh=>au,pI hq _ _ _ _,λ_=> ?_⟩;simp[AS.env]
theorem OD(parts:Array (Nat×bK)):(parts.map λ(i,x)=>(i,a.eval x)).toList=parts.toList.map λ(i,x)=>(i,a.eval x):=by simp
theorem Rn(h:Inv C g β s a w){T:TypeId}{n:Nat}{parts:Array (Nat×bK)}{nl obj:Bool}(ho:o.op= .buildSlice T n parts){s':AS}(he:(mw P s nl obj o.dst T n parts.toList).eval=ao s'):fL P o a w (gT C s'):=by
 unfold mw at he;split at he
 ·rename_i e t b q Hz hd;obtain⟨hT,hz,i,zv,hi,apz,aDZ,ah5,apD⟩:=qz Hz;obtain⟨h1,h2⟩:=aG.1 he;obtain⟨r,h3,h4⟩:=ax.1 h2;simp only[aW]at h1;obtain⟨g1,i1,e1,t1,f1⟩:=fb r.2 h;have aFE:zv.cells.size=t.size:=by have:=(apD (s.env w g β)).size;simpa using this
  obtain⟨cells',aGt,uZ⟩:=BS (a:=a) rfl h.bN e1 h.ev parts.toList _ r (madeCells zv.cells (n*t.size)) h3 f1 (tN (apD _) n);have aGG:r.1.length=n:=by
   have:∀(ps:List (Nat×bK)) (l:List t.den) (r:List t.den×List Id),(jv t s ps l).eval=ao r->r.1.length=l.length:=by
    intro ps
    induction ps with
    |nil=>intro l r hh;obtain rfl:=ay.1 hh;rfl
    |cons p ps ih=>
     intro l r hh;obtain⟨i,x⟩:=p;simp only[jv]at hh;obtain⟨_,h2⟩:=aG.1 hh;obtain⟨y,h3,h4⟩:=ax.1 h2;obtain⟨r',h5,h6⟩:=ax.1 h4;obtain rfl:=ay.1 h6;have:=ih _ _ h5;simpa using this
   rw[this _ _ _ h3];simp
  have asp:=uZ.length (λ_ _ hx=>cI.size hx);have pK:(execOp a.eval o).run P w= .ok (.value (.slice (ao ⟨w.heap.size,0,aJ⟩) n n)) (w.alloc (.cells cells' e)):=by
   refine eu (f:=Instr.buildSlice T n (parts.map λ(i,x)=>(i,a.eval x))) (by simp only[execOp,ho]) ?_
   have aGc:¬n*t.size > 2^24:=au;have hfill':Instr.fill (λi=>ao (i*t.size,t.size)) ((Array.range (n*t.size)).map (λx=>(zv.cells)[x%zv.cells.size]!)) (parts.map λ(i,x)=>(i,a.eval x)).toList=ao cells':=by rw[OD];exact aGt
   by_cases hn:n*t.size=0
   ·have az6:n=0:=by
     rcases Nat.mul_eq_zero.1 hn with h' | h'
     ·exact h'
     ·omega
    subst az6;simp only[mN]at hfill' aGc;have h0:Array.range 0= #[]:=rfl;rw[h0,Array.map_empty]at hfill';simp at hfill';simp[Instr.buildSlice,run_underlying hT,run_sizeOf hi,apz,newRow,h0,hfill']
   ·simp[Instr.buildSlice,run_underlying hT,run_sizeOf hi,apz,newRow,hn,aGc,zeroValue,typeInfo,hi,ah5];simp at hfill';simp[hfill']
  cases obj with
  |true=>
   simp only at h4;obtain⟨hq,h5⟩:=aG.1 h4;obtain rfl:=ay.1 h5;rw[<-uM r.2]at hq;have aGu:cells'.toList.take (r.1.length*t.size)=cells'.toList:=bJ au;obtain⟨g2,β2,i2,NJ⟩:=i1.abZ hq (e:=e) (l:=r.1) (cur:=cells') (cap:=n) hz (by rw[aGu];exact uZ) (by simp at asp;rw[asp,aGG]) au (by
    have:n<=n*t.size:=Nat.le_mul_of_pos_right n hz;unfold maxLen;omega)
   refine .inl ⟨_,_,pK,g2,β2,?_⟩;rw[hd];rw[aGG]at NJ ⊢;exact i2.put (ao q) NJ
  |false=>
   simp only at h4;obtain rfl:=ay.1 h4;have i2:=i1.GX (.cells cells' e);refine .inl ⟨_,_,pK,nu g1 w.heap.size .free,β,?_⟩;rw[hd];refine i2.put (ao q) ⟨[.slice (ao ⟨w.heap.size,0,aJ⟩) n n],?_,rfl⟩;simp only[V,cI];refine⟨_,n,cells'.toList,by rw[aGG],au,λ_=>rfl,λj v hj=>⟨_,_,rfl,?_,?_⟩,uZ.mono λ_ _ hx=>hx.mono (Trans.mem (E:=(s.bt r.2).env w g1 β) (E':=(s.bt r.2).env (w.alloc (.cells cells' e)) (nu g1 w.heap.size .free) β) (Trans.alloc w g1 (.cells cells' e) .free))⟩
   ·show(w.alloc (.cells cells' e)).cell? ⟨w.heap.size,0+j,aJ⟩=ao v;rw[World.cell?_alloc_new,bg];simpa using hj
   ·show sM (nu g1 w.heap.size .free) w.heap.size (0+j);unfold sM;rw[fH];trivial
 ·simp only[aw]at he
theorem Uq(h:Inv C g β s a w){T:TypeId}{x y:bK}(ho:o.op= .makeSlice T x y){len cap:Int}(hx:(asInt (s.ev x)).eval=ao len)(hy:(asInt (s.ev y)).eval=ao cap){s':AS}
  (he:(rM P s o.dst T len cap).eval=ao s'):fL P o a w (gT C s'):=by
 obtain⟨k,hx⟩:=y6 (h.ev x) hx;obtain⟨k',hy⟩:=y6 (h.ev y) hy;unfold rM at he;split at he
 ·rename_i e t b q Hz hd;obtain⟨hT,hz,i,zv,hi,apz,aDZ,ah5,apD⟩:=Bm Hz;obtain⟨hq,h2⟩:=aG.1 he;obtain⟨h3,h4⟩:=bS.1 h2;obtain rfl:=ay.1 h4;simp only[av,aW,ea]at h3;obtain⟨⟨h5,h6⟩,h7,h8⟩:=h3;have hbytes:(i.bytes:Int)*cap<=281474976710656:=by rw[aDZ];have:((cap.toNat*b:Nat):Int)<=140737488355328:=au;rw[kG,show((cap.toNat:Nat):Int)=cap by omega,Int.mul_comm]at this;omega
  have hr:=run_make (P:=P) w T e i zv hT hi ah5 k k' len cap h5 h6 hbytes au;rw[apz]at hr;have aFE:zv.cells.size=t.size:=by have:=(apD (s.env w g β)).size;simpa using this
  have vS:=tN (apD (s.env w g β)) cap.toNat;have aEc:=bq.take (λ_ _ hx=>cI.size hx) len.toNat vS;rw[List.take_replicate,gC au]at aEc;obtain⟨g2,β2,i2,NJ⟩:=h.abZ hq (e:=e) (l:=ai len.toNat t.zero) (cur:=madeCells zv.cells (cap.toNat*t.size)) (cap:=cap.toNat) hz (by rw[dE];exact aEc) (size_madeCells _ _) (by rw[dE];omega) (by unfold maxLen;omega);rw[dE]at NJ;refine .inl ⟨_,_,eu (f:=Instr.makeSlice T (a.eval x) (a.eval y)) (by simp only[execOp,ho]) (by rw[hx,hy];exact hr),g2,β2,?_⟩;rw[hd];exact i2.put (ao q) NJ
 ·simp only[aw]at he
end
end Go.Ab
namespace Go.Ab
section
variable {P:aM} {C:Ctx} {g:Nat->lY} {β:Id->Option Pl} {s:AS} {a:Act} {w:bW} {o:Oper}
theorem ake:∀(c:aD) (f off:Nat) (v:aD),partOf c f=ao (off,v)->(loc c (nI f)).eval=ao (off,v):=by
 intro c f
 induction f generalizing c with
 |zero=>
  intro off v h;cases c with
  |d t y=>
   cases t <;> simp only[partOf,reduceCtorEq]at h;simp only[az,cK]at h;obtain⟨rfl,rfl⟩:=h;rfl
  |pr b c=>
   simp only[partOf,az,cK]at h;obtain⟨rfl,rfl⟩:=h;simp only[nI,loc];cases b <;> rfl
  |_=>simp only[partOf,reduceCtorEq]at h
 |succ f ih=>
  intro off v h;cases c with
  |d t y=>
   cases t with
   |pair ta tb=>
    simp only[partOf]at h;cases hp:partOf (.d tb y.2) f with
    |none=>rw[hp]at h;cases h
    |some r=>
     rw[hp]at h;simp only[az,cK]at h;obtain⟨rfl,rfl⟩:=h;simp only[nI,loc,ax];exact⟨_,ih _ _ _ hp,rfl⟩
   |_=>simp only[partOf,reduceCtorEq]at h
  |pr b c=>
   simp only[partOf]at h;cases hp:partOf c f with
   |none=>rw[hp]at h;cases h
   |some r=>
    rw[hp]at h;simp only[az,cK]at h;obtain⟨rfl,rfl⟩:=h;simp only[nI,loc,ax];exact⟨_,ih _ _ _ hp,rfl⟩
  |_=>simp only[partOf,reduceCtorEq]at h
theorem af7(a b:aD):(Me a b).agg=aT:=by unfold Me;split <;> rfl
theorem Yh{v x v':aD}{i:Nat}(h:(w6 v (nI i) x).eval=ao v'):v'.agg=aT:=by
 have fin:∀ {o:Out aD} {f:aD->aD},(∀a,(f a).agg=aT)->(o.bind λa=>Out.ok (f a)).eval=ao v'->v'.agg=aT:=by intro o f hf hh;obtain⟨_,_,h2⟩:=ax.1 hh;obtain rfl:=ay.1 h2;exact hf _
 cases i <;> simp only[nI]at h
 all_goals
  cases v with
  |d t y=>cases t <;> first | (simp only[w6,aw]at h;done) | (simp only[w6]at h;exact fin (λ_=>af7 _ _) h)
  |pr b c=>simp only[w6]at h;exact fin (λ_=>af7 _ _) h
  |_=>simp only[w6,aw]at h
theorem Gh{E:Env}(afq:∀x,VS E (s.ev x) (a.eval x)){fs:Array Field}{places:Array (Nat×Nat)}(Rw:∀(i:Nat) (f:Field),fs[i]? =ao f->places[i]? =ao (f.offset,P.cellsOf f.type)):
  ∀(ps:List (Nat×bK)) (v v':aD) (cells:Array Value),(pY P fs s ps v).eval=ao v'->V E v cells.toList->v.agg=aT->
   ∃cells',Instr.fill (places[·]?) cells (ps.map λ(i,x)=>(i,a.eval x))=ao cells'/\V E v' cells'.toList/\v'.agg=aT
 |[],v,v',cells,h,hV,Kv=>by obtain rfl:=ay.1 h;exact⟨cells,rfl,hV,Kv⟩
 | (i,x)::ps,v,v',cells,h,hV,Kv=>by
  simp only[pY]at h;split at h
  ·rename_i f off bF hf hp;obtain⟨h1,h2⟩:=aG.1 h;obtain⟨v1,h3,h4⟩:=ax.1 h2;simp only[av,dB]at h1;obtain⟨⟨rfl,aHS⟩,aKs⟩:=h1;obtain⟨ajl,_⟩:=rH aKs;obtain⟨cs,hVx,hO⟩:=(afq x).eQ ajl;have hcells:=hO.cells hVx.one;have aIX:=ake _ _ _ _ hp;obtain⟨u1,u2,u3⟩:=qg (nI i) v cells.toList f.offset bF (s.ev x) v1 cs (VO.of hV) aIX hVx h3;have aGK:v1.il=aR:=u3.tA hV.tA;have sj:P.cellsOf f.type=cs.length:=by rw[(Fl aKs).2.1];exact hVx.size.symm
   obtain⟨cells',q1,q2,q3⟩:=Gh afq Rw ps v1 v' (dD cells.toList f.offset cs).toArray h4 (by simpa using u2.to aGK) (Yh h3);refine⟨cells',?_,q2,q3⟩;rw[cr,YY (by rw[Rw i f hf,sj]) hcells (by simpa using u1)];exact q1
  ·simp only[aw]at h
theorem ag9{α γ:Type}(f:α->Sem γ)(r:α->γ):∀(l:List α),(∀x∈l,(f x).run P w= .ok (r x) w)->(l.mapM f).run P w= .ok (l.map r) w
 |[],_=>by simp
 |x::xs,h=>by rw[List.mapM_cons];simp only[cg,h x (by simp),bH,ag9 f r xs (λy hy=>h y (by simp[hy])),dY,cr]
theorem aiH(h:Inv C g β s a w){T:TypeId}{parts:Array (Nat×bK)}(ho:o.op= .build T parts){s':AS}(he:(E4 P s o.dst T parts.toList).eval=ao s'):fL P o a w (gT C s'):=by
 unfold E4 at he;split at he
 ·rename_i fs hT;split at he
  ·rename_i z aMi;obtain⟨h1,h2⟩:=aG.1 he;obtain⟨v,h3,h4⟩:=ax.1 h2;obtain rfl:=ay.1 h4;simp only[av,cS]at h1;obtain⟨⟨hz,Kv⟩,aIU⟩:=h1;obtain⟨i,zv,hi,ah5,hV,hO⟩:=uO hz (s.env w g β)
   let places:Array (Nat×Nat):=fs.map λf=>(f.offset,P.cellsOf f.type)
   have Rw:∀(i:Nat) (f:Field),fs[i]? =ao f->places[i]? =ao (f.offset,P.cellsOf f.type):=by intro i f hf;simp[places,hf]
   obtain⟨cells',q1,q2,q3⟩:=Gh (a:=a) h.ev Rw parts.toList z v zv.cells h3 hV Kv;have hm:(fs.mapM λf=>(do pure (f.offset,<-sizeOf f.type):Sem (Nat×Nat))).run P w= .ok places w:=by
    rw[Array.mapM_eq_mapM_toList];have:=ag9 (P:=P) (w:=w) (λf=>(do pure (f.offset,<-sizeOf f.type):Sem (Nat×Nat))) (λf=>(f.offset,P.cellsOf f.type)) fs.toList (by
     intro f hf;obtain⟨j,hj⟩:=bA.1 (aIU f hf);rw[cg,run_sizeOf hj,mW hj];rfl)
    rw[Sem.run_map,this];show Result.ok _ w=Result.ok _ w;congr 1;apply gg;simp[places]
   refine h.value (x:= .agg cells') (VS.of q2 (by rw[q3];simp[fR])) (eu (f:=Instr.build T (parts.map λ(i,x)=>(i,a.eval x))) (by simp only[execOp,ho]) ?_);have q1':Instr.fill (places[·]?) zv.cells (parts.map λ(i,x)=>(i,a.eval x)).toList=ao cells':=by rw[OD];exact q1
   simp only[Instr.build,cg,zeroValue,typeInfo,run_program,hi,bH,dY,ah5,run_underlying hT,hm,q1']
  ·simp only[aw]at he
 ·rename_i n e hT;split at he
  ·rename_i t ht;obtain⟨h1,h2⟩:=aG.1 he;obtain⟨r,h3,h4⟩:=ax.1 h2;obtain rfl:=ay.1 h4;simp only[av,dB]at h1;obtain⟨sj,hz⟩:=h1;obtain⟨g1,i1,e1,t1,f1⟩:=fb r.2 h;obtain⟨i,zv,hi,ah5,hV,hO⟩:=uO hz ((s.bt r.2).env w g1 β);simp only[V,cI]at hV;obtain⟨cells',q1,q2⟩:=BS (a:=a) rfl h.bN e1 h.ev parts.toList _ r zv.cells h3 f1 hV.2;have aGG:r.1.length=n:=by
    have:∀(ps:List (Nat×bK)) (l:List t.den) (r:List t.den×List Id),(jv t s ps l).eval=ao r->r.1.length=l.length:=by
     intro ps
     induction ps with
     |nil=>intro l r hh;obtain rfl:=ay.1 hh;rfl
     |cons p ps ih=>
      intro l r hh;obtain⟨i,x⟩:=p;simp only[jv]at hh;obtain⟨_,h2⟩:=aG.1 hh;obtain⟨y,h3,h4⟩:=ax.1 h2;obtain⟨r',h5,h6⟩:=ax.1 h4;obtain rfl:=ay.1 h6;have:=ih _ _ h5;simpa using this
    rw[this _ _ _ h3];simp
   refine .inl ⟨.agg cells',w,eu (f:=Instr.build T (parts.map λ(i,x)=>(i,a.eval x))) (by simp only[execOp,ho]) ?_,g1,β,i1.put o.dst ⟨cells'.toList,?_,by simp[fR,aD.agg,Ty.agg]⟩⟩
   ·have q1':Instr.fill (λi=>ao (i*t.size,t.size)) zv.cells (parts.map λ(i,x)=>(i,a.eval x)).toList=ao cells':=by rw[OD];exact q1
    cases aIS:P.info? e with
    |none=>
     exfalso;unfold ahP WY at ht;simp only[depth]at ht;have:P.underlying e=aJ:=by simp[Program.underlying,aIS]
     rw[this]at ht;cases ht
    |some ie=>
     have aKF:=run_sizeOf aIS w;rw[<-mW aIS,sj]at aKF;simp only[Instr.build,cg,zeroValue,typeInfo,run_program,hi,bH,dY,ah5,run_underlying hT,aKF,q1']
   ·simp only[V,cI];exact⟨aGG,q2⟩
  ·simp only[aw]at he
 ·simp only[aw]at he
theorem Pb{T X ty e:TypeId}{i:TypeInfo}(hT:P.underlying T=ao (.slice e))(hX:P.underlying X=ao .string\/∃e',P.underlying X=ao (.slice e'))(hi:P.info? e=ao i)
  {b sLen sCap:Nat} {cur:Array Value} (hg:w.heap[b]? =ao (.cells cur e (0,0))) {x:Value} {n:Nat} {news:List Value} (h1:∀u∈news,u.oneCell'=aT)
  (hlen:(Builtin.lenOf x).run P w= .ok n w) (hf:(Builtin.firstCells i.size n x).run P w= .ok news.toArray w) (H5:sLen+n<=sCap) (abt:sLen*i.size+news.length<=cur.size):
  (Builtin.append_ #[T,X] ty #[.slice (ao ⟨b,0,aJ⟩) sLen sCap,x]).run P w= .ok (.slice (ao ⟨b,0,aJ⟩) (sLen+n) sCap) (w.setRow b (dD cur.toList (sLen*i.size) news).toArray):=by
 have nQ:=run_storeCells_at P b (sLen*i.size) e news 0 cur w hg (by simpa using abt) h1;simp only[cX]at nQ;rcases hX with hX | ⟨e',hX⟩ <;> simp[Builtin.append_,run_underlying hT,run_underlying hX,sizeOf,typeInfo,hi,hlen,H5,hf,fv,nQ,dD]
theorem Er{T X ty e:TypeId}{i:TypeInfo}(hT:P.underlying T=ao (.slice e))(hX:P.underlying X=ao .string\/∃e',P.underlying X=ao (.slice e'))(hi:P.info? e=ao i)
  {x:Value} (hlen:(Builtin.lenOf x).run P w= .ok 0 w) (hf:(Builtin.firstCells i.size 0 x).run P w= .ok #[] w):
  (Builtin.append_ #[T,X] ty #[.slice aJ 0 0,x]).run P w= .ok (.slice aJ 0 0) w:=by
 rcases hX with hX | ⟨e',hX⟩ <;> simp[Builtin.append_,run_underlying hT,run_underlying hX,sizeOf,typeInfo,hi,hlen,hf]
theorem Pa{T X ty e:TypeId}{i:TypeInfo}{zv:Value}(hT:P.underlying T=ao (.slice e))(hX:P.underlying X=ao .string\/∃e',P.underlying X=ao (.slice e'))(hi:P.info? e=ao i)(ah5:i.zero=ao zv)
  {ad:Option Addr} {sLen sCap:Nat} {cn:List Value} (ho:(Builtin.firstCells i.size sLen (.slice ad sLen sCap)).run P w.drew= .ok cn.toArray w.drew) {x:Value} {n:Nat} {news:List Value}
  (hlen:(Builtin.lenOf x).run P w= .ok n w) (hf:(Builtin.firstCells i.size n x).run P w.drew= .ok news.toArray w.drew) (H5:sCap < sLen+n)
  (aKl:((sLen+n:Nat):Int)<=9223372036854775807) (abt:(sLen+n)*i.bytes<=140737488355328):
  (Builtin.append_ #[T,X] ty #[.slice ad sLen sCap,x]).run P w= .ok (.slice (ao ⟨w.heap.size,0,aJ⟩) (sLen+n) (grownCap w (sLen+n) sCap e))
   (w.drew.alloc (.cells (cn.toArray++news.toArray++Builtin.zeroCells zv.cells (grownCap w (sLen+n) sCap e - (sLen+n))) e)):=by
 have hn:¬(sLen+n<=sCap):=au;have h63':¬(9223372036854775807 < ((sLen:Int)+(n:Int))):=au;have hfit':=growslice_fits (bytes:=i.bytes) H5 abt;have h48':¬(281474976710656 < Builtin.nextslicecap (sLen+n) sCap*i.bytes):=au;rcases hX with hX | ⟨e',hX⟩
 all_goals
  simp[Builtin.append_,run_underlying hT,run_underlying hX,sizeOf,typeInfo,zeroValue,hi,ah5,hlen,hn,h63',h48',Question.forced,hf,ho,newRow,grownCap];congr 2;apply gg;simp[aO]
end
end Go.Ab
namespace Go.Ab
section
variable {P:aM} {C:Ctx} {g:Nat->lY} {β:Id->Option Pl} {s:AS} {a:Act} {w:bW} {o:Oper}
theorem awK(h:Inv C g β s a w){v:aD}{y:Value}(hv:VS (s.env w g β) v y){t:Ty}{m:List t.den}(he:(s.akk (.slice t) v).eval=ao m):
  ∃ad cap vs,y= .slice ad m.length cap/\(0 < m.length->ad.isSome=aT)/\(∀j u,vs[j]? =ao u->∃bb off,ad=ao ⟨bb,off,aJ⟩/\w.cell? ⟨bb,off+j,aJ⟩=ao u)/\bq (cI (s.env w g β) t) vs m:=by
 have hp:(s.iK (.slice t) v).eval=ao m:=he;cases v <;> first | (simp only[AS.iK,aw]at hp;done) | skip
 case dH=>
  simp only[AS.iK,ay]at hp;subst hp;exact⟨aJ,0,[],lu hv,by simp,λj u hj=>by simp at hj,rfl⟩
 case d t' x=>
  simp only[AS.iK]at hp;have hp:=jd.1 hp;have ha:(aD.d t' x).agg=aR:=YI hp;have hV:=hv.single rfl ha;simp only[V]at hV;have hv:VS (s.env w g β) (.d (.slice t) m) y:=VS.of (cs:=[y]) (by simp only[V];exact C6 hp hV) rfl;obtain⟨ad,cap,vs,hy,_,hs,hr,hc⟩:=tQ hv;exact⟨ad,cap,vs,hy,hs,λj u hj=>let⟨bb,off,e,hh⟩:=hr j u hj;⟨bb,off,e,hh.1⟩,hc⟩
 case b8 id ver p c i len=>
  simp only[AS.iK]at hp;obtain⟨⟨n,t',l⟩,h1,h2⟩:=ax.1 hp;obtain⟨h3,h4⟩:=bS.1 h2;obtain⟨aFt,aLp⟩:=aoQ (E:=s.env w g β) (jd.1 h4);rw[aFt];simp only[aW]at h3;obtain⟨hc,hlen⟩:=h3
  suffices hg:∃ad cap vs,y= .slice ad (cut l i len).length cap/\(0 < (cut l i len).length->ad.isSome=aT)/\(∀j u,vs[j]? =ao u->∃bb off,ad=ao ⟨bb,off,aJ⟩/\w.cell? ⟨bb,off+j,aJ⟩=ao u)/\bq (cI (s.env w g β) t') vs (cut l i len) by obtain⟨ad,cap,vs,e1,e2,e3,e4⟩:=hg;exact⟨ad,cap,vs,e1,e2,e3,aLp _ e4⟩
  obtain⟨fr,c0,cP,sJ⟩:=O6 rfl h.bN h1;obtain⟨ad,cap,hy,hle,qh,hb,fD⟩:=qY hv;have fD:=fD ⟨fr,c0,cP⟩;have ayQ:(cut l i len).length=len:=Di hlen;rcases sJ with⟨hp,hl,_⟩ | ⟨pl,cur,e,hp,hh,sj,uZ,hbound⟩
  ·rw[hp]at fD;simp only at fD;obtain⟨rfl,rfl,rfl⟩:=fD;have:cut l i 0=[]:=by simp[cut]
   refine⟨aJ,0,[],by rw[ayQ];exact hy,by rw[ayQ];omega,λ_ _ hh=>by simp at hh,?_⟩;rw[this];rfl
  ·rw[hp]at fD;simp only at fD;have hmul:(i+len)*t'.size<=l.length*t'.size:=c8 _ hlen;rw[eM]at hmul;refine⟨ad,cap,_,by rw[ayQ];exact hy,by rw[ayQ];exact qh,?_,I5 uZ i len⟩;rw[U6 _ _ _ _ _ hmul];intro j v hj;rw[c9]at hj;split at hj
   ·rename_i aD1;rw[fx,hc]at hj;have aIY:0 < len:=by
     rcases iM len with h0 | h0
     ·subst h0;simp at aD1
     ·exact h0
    refine⟨pl.b,c,fD.1 (.inl aIY),?_⟩;have hh':w.heap[pl.b]? =ao (.cells cur e (0,0)):=hh
    rw[cell_of_row w pl.b (c+j) cur e (0,0) hh'];simpa using hj
   ·cases hj
theorem Qs(h:Inv C g β s a w){t:Ty}{X:TypeId}{x:aD}{y:Value}(hx:VS (s.env w g β) x y){m:List t.den}(he:(FF P s t X x).eval=ao m):
  (P.underlying X=ao .string\/∃e',P.underlying X=ao (.slice e'))/\∃news:List Value,bq (cI (s.env w g β) t) news m/\(Builtin.lenOf y).run P w= .ok m.length w/\
   ∀w',w'.heap=w.heap->(Builtin.firstCells t.size m.length y).run P w'= .ok news.toArray w':=by
 have sl:∀(x:aD),VS (s.env w g β) x y->(match P.underlying X with
   |some (.slice _)=>s.akk (.slice t) x
   |_=> .fail).eval=ao m->(P.underlying X=ao .string\/∃e',P.underlying X=ao (.slice e'))/\∃news:List Value,bq (cI (s.env w g β) t) news m/\(Builtin.lenOf y).run P w= .ok m.length w/\
   ∀w',w'.heap=w.heap->(Builtin.firstCells t.size m.length y).run P w'= .ok news.toArray w':=by
  intro x hx he;split at he
  ·rename_i e' hX;refine⟨.inr ⟨e',hX⟩,?_⟩;obtain⟨ad,cap,vs,rfl,qh,sJ,uZ⟩:=awK h hx he;have hlen:=bq.length (λ_ _ hx=>cI.size hx) uZ;refine⟨vs,uZ,rfl,λw' hw'=> ?_⟩;cases ad with
   |none=>
    have aFs:m.length=0:=by
     rcases iM m.length with h0 | h0
     ·exact h0
     ·have:=qh h0;simp at this
    have:vs=[]:=bu (by rw[hlen,aFs,mN]);subst this;rfl
   |some ad=>
    refine run_firstCells_some (P:=P) w' t.size _ ad _ _ vs hlen (λj v hj=> ?_);obtain⟨bb,off,e1,hh⟩:=sJ j v hj;simp only[az]at e1;subst e1;rw[fv];simpa[eN,hw']using hh
  ·simp only[aw]at he
 unfold FF at he;split at he
 ·rename_i st;split at he
  ·rename_i hX;refine⟨.inl hX,?_⟩;obtain⟨e,hm⟩:=jb (jd.1 he);have e':Ty.int .u8=t:=by simpa using e
   subst e';simp only at hm;subst hm;have hy:=Gr hx;subst hy;have hlen:(cE st).length=st.size:=by simp only[cE,cH,cR];rfl
   refine⟨(cE st).map (Value.int .u8),vU _,by rw[hlen];rfl,λw' _=> ?_⟩;rw[hlen];simp only[Builtin.firstCells,dY];congr 1;apply gg;rw[ByteArray.extract_zero_size];simp[cE]
  ·simp only[aw]at he
 ·exact sl _ hx he
theorem Aj(z:Array Value)(n:Nat):(Builtin.zeroCells z n).size=n*z.size:=by simp[Builtin.zeroCells]
theorem aoR(h:Inv C g β s a w){c:Call}{x y:bK}{T X:TypeId}(ho:o.op= .call c)(hc:c.callee= .builtin .copy)(ha:c.args.toList=[x,y])(ht:c.argTypes.toList=[T,X]){s':AS}
  (he:(S6 P s o.dst T X (s.ev x) (s.ev y)).eval=ao s'):fL P o a w (gT C s'):=by
 obtain⟨cal,args,tys⟩:=c;simp only at hc ha ht;have ha':args= #[x,y]:=by apply gg;simpa using ha
 have ht':tys= #[T,X]:=by apply gg;simpa using ht
 subst hc ha' ht';have hx:=h.ev x;have hy:=h.ev y;have fin:∀z w',(Builtin.copy_ #[T,X] 0 #[a.eval x,a.eval y]).run P w= .ok z w'->(∃g' β',Inv C g' β' s' (a.put o.dst z) w')->fL P o a w (gT C s'):=by intro z w' h1 h2;refine .inl ⟨z,w',Bf ho (f:=Builtin.copy_ #[T,X] 0 #[a.eval x,a.eval y]) (λty cs xs ah4=> ?_) h1,h2⟩;subst ah4;have e1:Builtin.copy_ #[T,X] 0 #[a.eval x,a.eval y]=Builtin.copy_ #[T,X] ty #[a.eval x,a.eval y]:=rfl;rw[e1];simp[builtin]
 unfold S6 at he;split at he
 ·rename_i e t b id ver len Hz ah4;obtain⟨hT,hz,i,zv,hi,apz,aDZ,ah5,apD⟩:=Bm Hz;obtain⟨m,hm,he⟩:=ax.1 he;obtain⟨hX,news,uZ,hlen,aCp⟩:=Qs h hy hm;have az7:=uZ.length (λ_ _ hx=>cI.size hx);have h1news:∀u∈news,u.oneCell'=aT:=bq.all (λ_ _ hx=>hx.one) uZ;rw[<-apz]at aCp;split at he
  ·rename_i ve n t' l kA;obtain⟨h1,EP⟩:=aG.1 he;simp only[av,dB]at h1;obtain⟨ava,aLn⟩:=h1;subst ava aLn;obtain⟨l',hl',Xa⟩:=ax.1 EP;obtain⟨et,hl'⟩:=jb (jd.1 hl');have et':t'=t:=by simpa using et
   subst et';simp only at hl';subst hl';obtain⟨aFt,aFq⟩:=bS.1 Xa;have aFt:m.length<=len:=by simpa using aFt
   obtain rfl:=ay.1 aFq;have cP:=dZ kA;rw[ah4]at hx;obtain⟨ad,cap,asu,asq,qh,TN,fD⟩:=qY hx;have fD:=fD ⟨aR,_,cP⟩;obtain⟨pl,cur,e0,hp,hh,hg,hk,hV⟩:=(h.bN id ve aR _ cP).box rfl;have hp:β id=ao pl:=hp;have hh:w.heap[pl.b]? =ao (.cells cur e0 (0,0)):=hh
   have hg:g pl.b= .own (.id id) 0:=hg;have hcur':(match β id with
    |some pl=>(0 < len\/0=0->ad=ao ⟨pl.b,0,aJ⟩)/\(([.arr]:List Hw)=[]->0=0->cap=pl.cap)
    |none=>ad=aJ/\len=0/\cap=0):=fD
   rw[hp]at hcur';simp only at hcur';have ajj:=hcur'.1 (.inr trivial);subst ajj;have hV:V (s.env w g β) (.d (.arr len t') l) (cur.toList.take cur.size):=hV;rw[<-cR,cJ]at hV;simp only[V,cI]at hV;obtain⟨aCr,hVc⟩:=hV;have asp:=hVc.length (λ_ _ hx=>cI.size hx);have abt:news.length<=cur.size:=by
    rw[az7];have:cur.size=l.length*t'.size:=by simpa using asp
    rw[this,aCr];exact c8 _ aFt
   have nQ:=run_storeCells_at P pl.b 0 e0 news 0 cur w hh (by simpa using abt) h1news;have pK:(Builtin.copy_ #[T,X] 0 #[a.eval x,a.eval y]).run P w= .ok (goInt m.length) (w.setRow pl.b (dD cur.toList 0 news).toArray):=by have aI1:Nat.min m.length len=m.length:=gC aFt;rw[asu];simp only[cX,bg]at nQ;simp[Builtin.copy_,run_underlying hT,hlen,sizeOf,typeInfo,hi,aI1,aCp w rfl,nQ,dD]
   have ajy:=Trans.setRow w hg (dD cur.toList 0 news).toArray;have hle:cU (s.env w g β) ((s.aZ id (.obj ve aR (.d (.arr len t') (m++l.drop m.length)))).env (w.setRow pl.b (dD cur.toList 0 news).toArray) g β):=cU.aZ cP (aF _) ajy (λ_ _=>rfl) (λ_=>rfl);have i1:=h.step (dr _ _ _) ajy hle (iN.aZ (adz:=pP cP λk v1 l e=>by cases e) h.bN (by rw[cP];simp) hle (λ_ _=>rfl) (λi ver fr c pl2 hi TQ Rv=>⟨setRow_other w pl.b pl2.b _ (h.apart hg hi TQ Rv),rfl⟩) (NM.obj ⟨pl,_,e0,hp,setRow_heap w pl.b cur _ e0 (0,0) hh,hg,trivial,by
    show V _ (.d (.arr len t') (m++l.drop m.length)) ((dD cur.toList 0 news).toArray.toList.take (dD cur.toList 0 news).toArray.size);rw[<-cR,cJ];simp only[V,cI];refine⟨by rw[ak,dx];omega,?_⟩;have e2:dD cur.toList 0 news=news++cur.toList.drop (m.length*t'.size):=by simp[dD,az7]
    have q:bq (cI (s.env w g β) t') (dD cur.toList 0 news) (m++l.drop m.length):=by rw[e2];exact bq.append uZ (bq.drop (λ_ _ hx=>cI.size hx) m.length hVc)
    exact q.mono λ_ _ hx=>hx.mono hle.mem⟩))
   exact fin _ _ pK ⟨g,β,i1.put o.dst ⟨[.int .i64 (m.length:Int)],by simp only[V,cI],rfl⟩⟩
  ·exact(aw.1 he).elim
 ·exact(aw.1 he).elim
theorem adS(h:Inv C g β s a w){c:Call}{x y:bK}{T X:TypeId}(ho:o.op= .call c)(hc:c.callee= .builtin .append)(ha:c.args.toList=[x,y])(ht:c.argTypes.toList=[T,X]){s':AS}
  {nl dt:Bool} (he:(w9 P s nl dt o.dst T X (s.ev x) (s.ev y)).eval=ao s'):fL P o a w (gT C s'):=by
 obtain⟨cal,args,tys⟩:=c;simp only at hc ha ht;have ha':args= #[x,y]:=by apply gg;simpa using ha
 have ht':tys= #[T,X]:=by apply gg;simpa using ht
 subst hc ha' ht';have hx:=h.ev x;have hy:=h.ev y;have fin:∀z w',(Builtin.append_ #[T,X] 0 #[a.eval x,a.eval y]).run P w= .ok z w'->(∃g' β',Inv C g' β' s' (a.put o.dst z) w')->fL P o a w (gT C s'):=by intro z w' h1 h2;refine .inl ⟨z,w',Bf ho (f:=Builtin.append_ #[T,X] 0 #[a.eval x,a.eval y]) (λty cs xs ah4=> ?_) h1,h2⟩;subst ah4;have e1:Builtin.append_ #[T,X] 0 #[a.eval x,a.eval y]=Builtin.append_ #[T,X] ty #[a.eval x,a.eval y]:=rfl;rw[e1];simp[builtin]
 unfold w9 at he;split at he
 ·rename_i e t b q Hz hd;obtain⟨hT,hz,i,zv,hi,apz,aDZ,ah5,apD⟩:=qz Hz;obtain⟨m,hm,he⟩:=ax.1 he;obtain⟨hX,news,uZ,hlen,aCp⟩:=Qs h hy hm;have az7:=uZ.length (λ_ _ hx=>cI.size hx);have h1news:∀u∈news,u.oneCell'=aT:=bq.all (λ_ _ hx=>hx.one) uZ;rw[<-apz]at aCp;have aFE:zv.cells.size=t.size:=by have:=(apD (s.env w g β)).size;simpa using this
  have aJt:∀n,(Builtin.zeroCells zv.cells n).size=n*t.size:=λn=>by rw[Aj,aFE]
  have grow:∀(ad:Option Addr) (sLen sCap:Nat) (cn:List Value) (l0:List t.den),a.eval x= .slice ad sLen sCap->cn.length=sLen*t.size->l0.length=sLen->bq (cI (s.env w g β) t) cn l0->
    (Builtin.firstCells i.size sLen (.slice ad sLen sCap)).run P w.drew= .ok cn.toArray w.drew->sCap < sLen+m.length->ea (sLen+m.length) b=aT->
    ∃(cur:Array Value) (cap:Nat),(Builtin.append_ #[T,X] 0 #[a.eval x,a.eval y]).run P w= .ok (.slice (ao ⟨w.heap.size,0,aJ⟩) (sLen+m.length) cap) (w.drew.alloc (.cells cur e))/\
     cur.size=cap*t.size/\sLen+m.length<=cap/\cap<=maxLen/\cur.toList.take ((sLen+m.length)*t.size)=cn++news:=by
   intro ad sLen sCap cn l0 asu R6 aGD aGl aHS H5 ah2;simp only[ea,aW]at ah2;have hr:=Pa (P:=P) (w:=w) (ty:=0) hT hX hi ah5 aHS hlen (aCp w.drew rfl) H5 au (by rw[aDZ];exact ah2.1);rw[asu];refine⟨_,_,hr,?_,grownCap_ge _ _ _ _,grownCap_le_maxLen _ _ _ _ (by unfold maxLen;omega),?_⟩
   ·have aMa:=grownCap_ge w (sLen+m.length) sCap e;simp only[Array.size_append,gW,aJt,R6,az7,<-eM];congr 1;omega
   ·have ajo:(cn++news).length=(sLen+m.length)*t.size:=by rw[ak,R6,az7,eM]
    simp only[bZ];rw[<-ajo];exact List.take_left
  split at he
  ·rename_i aLH;rw[aLH]at hx;have asu:=lu hx;cases dt with
   |true=>
    simp only at he;obtain⟨ah2,he⟩:=bS.1 he;obtain rfl:=ay.1 he;simp only[av,aW]at ah2;obtain⟨ah2,aFs⟩:=ah2;obtain⟨cur,cap,hr,q1,q2,q3,q4⟩:=grow aJ 0 0 [] [] asu (by simp) rfl rfl rfl au (by simpa using ah2);simp only[bg,aY]at hr q2 q4;have aIH:bq (cI (s.env w.drew g β) t) news m:=uZ.mono λ_ _ hx=>hx.mono (cU.same (s:=s) (β:=β) (Trans.drew w g)).mem
    refine fin _ _ hr ⟨nu g w.heap.size .free,β,(h.drew.GX (.cells cur e)).put o.dst ⟨[.slice (ao ⟨w.heap.size,0,aJ⟩) m.length cap],?_,rfl⟩⟩;simp only[V,cI];refine⟨λh0=>(by cases h0),λm' hm'=> ?_⟩;obtain rfl:m=m':=aP hm';refine⟨_,cap,cur.toList.take (m.length*t.size),rfl,q2,λ_=>rfl,λj v hj=>⟨_,_,rfl,?_,?_⟩,?_⟩
    ·show(w.drew.alloc (.cells cur e)).cell? ⟨w.drew.heap.size,0+j,aJ⟩=ao v;rw[World.cell?_alloc_new,bg];rw[c9]at hj;split at hj
     ·simpa using hj
     ·cases hj
    ·show sM (nu g w.heap.size .free) w.heap.size (0+j);unfold sM;rw[fH];trivial
    ·rw[q4];exact aIH.mono λ_ _ hx=>hx.mono (Trans.mem (E:=s.env w.drew g β) (E':=s.env (w.drew.alloc (.cells cur e)) (nu g w.drew.heap.size .free) β) (Trans.alloc w.drew g (.cells cur e) .free))
   |false=>
   simp only at he;obtain⟨hq,he⟩:=aG.1 he;obtain⟨ah2,he⟩:=bS.1 he;obtain rfl:=ay.1 he;by_cases aFs:m.length=0
   ·have aI2:m=[]:=bu aFs;subst aI2;have aI5:news=[]:=bu (by rw[az7];simp);subst aI5;obtain⟨β',i1,e1,v1⟩:=h.av6 hq (e:=e) hz;refine fin (.slice aJ 0 0) w ?_ ⟨g,β',?_⟩
    ·rw[asu];exact Er (P:=P) hT hX hi hlen (aCp w rfl)
    ·exact i1.put o.dst v1
   ·obtain⟨cur,cap,hr,q1,q2,q3,q4⟩:=grow aJ 0 0 [] [] asu (by simp) rfl rfl rfl au (by simpa using ah2);simp only[bg,aY]at hr q2 q4;obtain⟨g2,β2,i2,v2⟩:=(h.drew).abZ hq (e:=e) (l:=m) (cur:=cur) (cap:=cap) hz (by rw[q4];exact uZ.mono λ_ _ hx=>hx.mono (cU.same (s:=s) (β:=β) (Trans.drew w g)).mem) q1 q2 q3;refine fin _ _ hr ⟨g2,β2,?_⟩;exact i2.put o.dst v2
  ·rename_i id ver len ah4;rw[ah4]at hx;obtain⟨ad,cap,asu,asq,qh,TN,fD⟩:=qY hx;split at he
   ·rename_i v fr e' t' l kA;obtain⟨h1,EP⟩:=aG.1 he;clear he;simp only[av,dB]at h1;obtain⟨ava,aLa⟩:=h1;subst ava aLa;obtain⟨l',hl',Xa⟩:=ax.1 EP;obtain⟨et,hl'⟩:=jb (jd.1 hl');have et':t'=t:=by simpa using et
    subst et';simp only at hl';subst hl';obtain⟨az5,aGp⟩:=bS.1 Xa;have az5:len<=l.length:=by simpa using az5
    obtain⟨aKr,aFq⟩:=bS.1 aGp;obtain⟨ah2,aKq⟩:=bS.1 aFq;obtain rfl:=ay.1 aKq;clear EP Xa aGp aFq aKq;have cP:=dZ kA;have fD:=fD ⟨fr,_,cP⟩;obtain⟨_,hO⟩:=h.bN id v fr _ cP;have hO':(match β id with
     |none=>l=[]
     |some pl=>∃cur k,w.heap[pl.b]? =ao (.cells cur e (0,0))/\cur.size=pl.cap*t'.size/\l.length<=pl.cap/\pl.cap<=maxLen/\g pl.b= .own (.id id) k/\
       k<=l.length*t'.size/\(fr=aR->k=0)/\bq (cI (s.env w g β) t') (cur.toList.take (l.length*t'.size)) l):=hO
    have hcur':(match β id with
     |some pl=>(0 < len\/0=0->ad=ao ⟨pl.b,0,aJ⟩)/\(([]:List Hw)=[]->0=0->cap=pl.cap)
     |none=>ad=aJ/\len=0/\cap=0):=fD
    have aDW:fr=aR\/len=l.length:=by simp only[ij,cv,aW]at aKr;exact aKr
    have gj:s.bU id≠aJ:=by rw[cP];simp
    have fresh:∀(cur:Array Value) (cp:Nat) (g0:Nat->lY),Trans w (w.drew.alloc (.cells cur e)) g (nu g0 w.heap.size (.own (.id (id)) 0))->
      (∀i ver fr c pl,i≠id->s.bU i=ao (.obj ver fr c)->β i=ao pl->g0 pl.b=g pl.b)->cur.size=cp*t'.size->len+m.length<=cp->cp<=maxLen->
      bq (cI (s.env w g β) t') (cur.toList.take ((len+m.length)*t'.size)) (l.take len++m)->len<=l.length->
      ∃g' β',Inv C g' β' ((s.aZ id (.obj (v+1) fr (.vec e t' (l.take len++m)))).put o.dst (.b8 id (v+1) [] 0 0 (len+m.length))) (a.put o.dst (.slice (ao ⟨w.heap.size,0,aJ⟩) (len+m.length) cp)) (w.drew.alloc (.cells cur e)):=by
     intro cur cp g0 ht aIN q1 q2 q3 q4 q5;have aCr:(l.take len++m).length=len+m.length:=by simp;omega
     have hle:cU (s.env w g β) ((s.aZ id (.obj (v+1) fr (.vec e t' (l.take len++m)))).env (w.drew.alloc (.cells cur e)) (nu g0 w.heap.size (.own (.id id) 0)) (GW β id (ao ⟨w.heap.size,cp⟩))):=
      cU.aZ cP au ht (λi hi=>Ag _ _ _ hi) (λhh=>au)
     have i1:=h.step (dr _ _ _) ht hle (iN.aZ (adz:=pP cP λk v1 l e=>by cases e) h.bN gj hle (λi hi=>Ag _ _ _ hi) (λi ver fr' c' pl hi TQ Rv=>by
       have je:pl.b < w.heap.size:=((h.bN i ver fr' c' TQ).label (pl:=pl) Rv).1;exact⟨qv w.drew _ je,by rw[fC _ _ _ au];exact aIN i ver fr' c' pl hi TQ Rv⟩) (by
      refine⟨hz,?_⟩;show(match GW β id (ao ⟨w.heap.size,cp⟩) id with
       |none=>(l.take len++m)=[]
       |some pl=>_)
      rw[j7];refine⟨cur,0,sW w.drew _,q1,by rw[aCr];exact q2,q3,fH _ _ _,aN _,λ_=>rfl,?_⟩;rw[aCr];exact q4.mono λ_ _ hx=>hx.mono hle.mem))
     refine⟨_,_,i1.put o.dst ⟨_,?_,rfl⟩⟩;simp only[V];have lj:=eK s id (.obj (v+1) fr (.vec e t' (l.take len++m))) gj;refine⟨_,_,rfl,q2,λ_=>rfl,⟨by show(s.aZ id _).bU id≠aJ;rw[lj];simp,λv' fr' c' hh=> ?_⟩,λ_=> ?_⟩
     ·have hh':(s.aZ id (.obj (v+1) fr (.vec e t' (l.take len++m)))).bU id=ao (.obj v' fr' c'):=hh;rw[lj]at hh';simp only[az,dU.obj.injEq]at hh';omega
     ·show(match GW β id (ao ⟨w.heap.size,cp⟩) id with
       |some pl=>_
       |none=>_)
      rw[j7];exact⟨λ_=>rfl,λ_ _=>rfl⟩
    cases hp:β id with
    |none=>
     rw[hp]at hO' hcur';simp only at hO' hcur';obtain⟨rfl,rfl,rfl⟩:=hcur';subst hO';by_cases aFs:m.length=0
     ·have aI2:m=[]:=bu aFs;subst aI2;have aI5:news=[]:=bu (by rw[az7];simp);subst aI5;have ht:=Trans.refl w g;have hle:cU (s.env w g β) ((s.aZ id (.obj (v+1) fr (.vec e t' []))).env w g β):=cU.aZ cP au ht (λ_ _=>rfl) (λ_=>rfl);have i1:=h.step (dr _ _ _) ht hle (iN.aZ (adz:=pP cP λk v1 l e=>by cases e) h.bN gj hle (λ_ _=>rfl) (λ_ _ _ _ _ _ _ _=>⟨rfl,rfl⟩) (by
       refine⟨hz,?_⟩;show(match β id with
        |none=>([]:List t'.den)=[]
        |some pl=>_)
       rw[hp]))
      refine fin (.slice aJ 0 0) w ?_ ⟨g,β,i1.put o.dst ⟨_,?_,rfl⟩⟩
      ·rw[asu];exact Er (P:=P) hT hX hi hlen (aCp w rfl)
      ·simp only[V];have lj:=eK s id (.obj (v+1) fr (.vec e t' [])) gj;refine⟨_,_,rfl,aF _,λhh=>by simp at hh,⟨by show(s.aZ id _).bU id≠aJ;rw[lj];simp,λv' fr' c' hh=> ?_⟩,λ_=> ?_⟩
       ·have hh':(s.aZ id (.obj (v+1) fr (.vec e t' []))).bU id=ao (.obj v' fr' c'):=hh;rw[lj]at hh';simp only[az,dU.obj.injEq]at hh';omega
       ·show(match β id with
         |some pl=>_
         |none=>_)
        rw[hp];exact⟨rfl,by simp,rfl⟩
     ·obtain⟨cur,cp,hr,q1,q2,q3,q4⟩:=grow aJ 0 0 [] [] asu (by simp) rfl rfl rfl au ah2;refine fin _ _ hr (fresh cur cp g (Trans.trans (Trans.drew w g) (Trans.alloc w.drew g _ _)) (λ_ _ _ _ _ _ _ _=>rfl) q1 q2 q3 ?_ (by simp));rw[q4];simpa using uZ
    |some pl=>
     rw[hp]at hO' hcur';simp only at hO' hcur';obtain⟨ajj,LH⟩:=hcur';have ajj:=ajj (.inr trivial);have LH:=LH trivial trivial;subst ajj LH;obtain⟨cur,k,p1,p2,p3,p4,p5,p6,p7,p8⟩:=hO';have hk:k<=len*t'.size:=by
      rcases aDW with hf | hf
      ·rw[p7 hf];exact aN _
      ·rw[hf];exact p6
     have hmul:len*t'.size<=l.length*t'.size:=c8 _ az5;have aKB:l.length*t'.size<=cur.size:=by rw[p2];exact c8 _ p3
     have aEc:=bq.take (λ_ _ hx=>cI.size hx) len p8;rw[l5,gC hmul]at aEc;have R6:(cur.toList.take (len*t'.size)).length=len*t'.size:=by simp;omega
     by_cases H5:len+m.length<=pl.cap
     ·have aLx:(len+m.length)*t'.size<=cur.size:=by rw[p2];exact c8 _ H5
      have abt:len*i.size+news.length<=cur.size:=by rw[apz,az7,<-eM];exact aLx
      have hr:=Pb (P:=P) (w:=w) (ty:=0) hT hX hi p1 h1news hlen (aCp w rfl) H5 abt;rw[apz]at hr abt;have ht:Trans w (w.setRow pl.b (dD cur.toList (len*t'.size) news).toArray) g g:=by
       refine⟨by simp,by simp,by simp,by simp,λb' hb=> ?_⟩;by_cases abq:b'=pl.b
       ·subst abq;rw[p5];refine⟨.inr ⟨id,k,rfl,aF _⟩,λoff u az9 hu=> ?_⟩;rw[cell_of_row w pl.b off cur e (0,0) p1]at hu;rw[cell_setRow_same w pl.b off cur _ e (0,0) p1];simp only[dD,aO,List.getElem?_toArray];rw[fq (by rw[R6];omega),c9,if_pos au];simpa using hu
       ·rw[setRow_other w pl.b b' _ abq];cases Rt:g b' with
        |free=>exact⟨rfl,rfl⟩
        |own o' k=>cases o' with
         |eL=>exact⟨rfl,rfl⟩
         |id i'=>exact⟨.inr ⟨i',k,rfl,aF _⟩,λoff v _ hv=>by rw[cell_setRow_other w pl.b _ _ abq];exact hv⟩
      have hle:cU (s.env w g β) ((s.aZ id (.obj (v+1) fr (.vec e t' (l.take len++m)))).env (w.setRow pl.b (dD cur.toList (len*t'.size) news).toArray) g β):=
       cU.aZ cP au ht (λ_ _=>rfl) (λ_=>rfl)
      have aCr:(l.take len++m).length=len+m.length:=by simp;omega
      have aJh:(dD cur.toList (len*t'.size) news).length=cur.toList.length:=jS (by simpa using abt);have i1:=h.step (dr _ _ _) ht hle (iN.aZ (adz:=pP cP λk v1 l e=>by cases e) h.bN gj hle (λ_ _=>rfl) (λi ver fr c pl2 hi TQ Rv=>⟨setRow_other w pl.b pl2.b _ (h.apart p5 hi TQ Rv),rfl⟩) (by
       refine⟨hz,?_⟩;show(match β id with
        |none=>(l.take len++m)=[]
        |some pl=>_)
       rw[hp];refine⟨_,k,setRow_heap w pl.b cur _ e (0,0) p1,by rw[gW,aJh];simpa using p2,by rw[aCr];exact H5,p4,p5,?_,p7,?_⟩
       ·rw[aCr,eM];omega
       ·rw[aCr,show(dD cur.toList (len*t'.size) news).toArray.toList=dD cur.toList (len*t'.size) news from rfl];have e1:(dD cur.toList (len*t'.size) news).take ((len+m.length)*t'.size)=cur.toList.take (len*t'.size)++news:=by
         unfold dD;have ajo:(cur.toList.take (len*t'.size)++news).length=(len+m.length)*t'.size:=by rw[ak,R6,az7,eM]
         rw[<-ajo];exact List.take_left
        rw[e1];exact(bq.append aEc uZ).mono λ_ _ hx=>hx.mono hle.mem))
      rw[<-asu]at hr;refine fin _ _ hr ⟨g,β,i1.put o.dst ⟨_,?_,rfl⟩⟩;simp only[V];have lj:=eK s id (.obj (v+1) fr (.vec e t' (l.take len++m))) gj;refine⟨_,_,rfl,H5,λ_=>rfl,⟨by show(s.aZ id _).bU id≠aJ;rw[lj];simp,λv' fr' c' hh=> ?_⟩,λ_=> ?_⟩
      ·have hh':(s.aZ id (.obj (v+1) fr (.vec e t' (l.take len++m)))).bU id=ao (.obj v' fr' c'):=hh;rw[lj]at hh';simp only[az,dU.obj.injEq]at hh';omega
      ·show(match β id with
        |some pl=>_
        |none=>_)
       rw[hp];exact⟨λ_=>rfl,λ_ _=>rfl⟩
     ·have aHS:(Builtin.firstCells i.size len (.slice (ao ⟨pl.b,0,aJ⟩) len pl.cap)).run P w.drew= .ok (cur.toList.take (len*t'.size)).toArray w.drew:=by
       refine run_firstCells_some (P:=P) w.drew i.size _ _ _ _ _ (by rw[R6,apz]) (λj u hj=> ?_);rw[fv,bg];show w.cell? ⟨pl.b,j,aJ⟩=ao u;rw[cell_of_row w pl.b j cur e (0,0) p1];rw[c9]at hj;split at hj
       ·simpa using hj
       ·cases hj
      obtain⟨cur2,cp,hr,q1,q2,q3,q4⟩:=grow (ao ⟨pl.b,0,aJ⟩) len pl.cap (cur.toList.take (len*t'.size)) (l.take len) asu R6 (by simp;omega) aEc aHS au ah2;have je:pl.b < w.heap.size:=(bO.1 p1).1;have amq:Trans w w.drew g (nu g pl.b .free):=by
       refine⟨rfl,rfl,⟨rfl,Nat.le_succ _⟩,aF _,λb' hb=> ?_⟩;by_cases abq:b'=pl.b
       ·subst abq;rw[p5,fH];exact⟨.inl rfl,λ_ _ _ hh=>hh⟩
       ·rw[fC _ _ _ abq];exact(Trans.drew w g).xo b' hb
      refine fin _ _ hr (fresh cur2 cp (nu g pl.b .free) (Trans.trans amq (Trans.alloc w.drew _ _ _)) (λi ver fr c pl2 hi TQ Rv=>fC _ _ _ (h.apart p5 hi TQ Rv)) q1 q2 q3 ?_ az5);rw[q4];exact bq.append aEc uZ
   ·simp only[aw]at he
  ·simp only[aw]at he
 ·simp only[aw]at he
end
end Go.Ab
namespace Go.Ab
abbrev Ren:=Id->Nat->Option (Id×Nat)
structure y5(ρ:Ren)(E E':Env):Prop where
 mem:sU E E'
 ref:∀id ver r,ρ id ver=ao r->E.Eg id ver->E'.Eg r.1 r.2/\(E'.cur r.1 r.2->E.cur id ver/\E'.β r.1=E.β id)
theorem anr(ρ:Ren)(a:aD):(a.iJ ρ).agg=a.agg:=by
 cases a with
 |ptr id v p n=>simp only[aD.iJ];cases ρ id v <;> rfl
 |b8 id v p c i l=>simp only[aD.iJ];cases ρ id v <;> rfl
 |cO id v=>simp only[aD.iJ];cases ρ id v <;> rfl
 |yl id v=>simp only[aD.iJ];cases ρ id v <;> rfl
 |_=>rfl
mutual
theorem adG{ρ:Ren}{E E':Env}(h:y5 ρ E E'):∀ {a:aD} {cs:List Value},V E a cs->V E' (a.iJ ρ) cs
 | .undef,_,hv=>by simp only[V]at hv
 | .gone,_,hv=>by simpa only[aD.iJ,V]using hv
 | .dH,_,hv=>by simpa only[aD.iJ,V]using hv
 | .kh,_,hv=>by simpa only[aD.iJ,V]using hv
 | .vY,_,hv=>by simpa only[aD.iJ,V]using hv
 | .By,_,hv=>by simpa only[aD.iJ,V]using hv
 | .sb l,_,hv=>by simp only[aD.iJ,V]at hv ⊢;obtain⟨b,cap,arr,e,h1,h2,h3,h4,h5⟩:=hv;obtain⟨h6,h7⟩:=h.mem.fz b _ h3 h4;exact⟨b,cap,arr,e,h1,h2,h6,h7,h5⟩
 | .d t x,_,hv=>by simp only[aD.iJ,V]at hv ⊢;exact hv.mono h.mem
 | .pr a b,_,hv=>by simp only[aD.iJ,V]at hv ⊢;obtain⟨ca,cb,e,ha,hb⟩:=hv;exact⟨ca,cb,e,adG h ha,adG h hb⟩
 | .ptr id ver p n,_,hv=>by
  have h1:=hv.one;simp only[aD.iJ];cases hr:ρ id ver with
  |none=>
   simp only[V]at hv ⊢;obtain⟨a,e,_⟩:=hv;exact⟨_,e,h1 _ (by simp[e])⟩
  |some r=>
   simp only[V]at hv ⊢;obtain⟨a,e,hb,hc⟩:=hv;obtain⟨b1,b2⟩:=h.ref id ver r hr hb;refine⟨a,e,b1,λc=> ?_⟩;obtain⟨c1,e1⟩:=b2 c;rw[e1];exact hc c1
 | .eI t x,_,hv=>by simp only[aD.iJ,V]at hv ⊢;obtain⟨b,off,vs,e,hr,hx⟩:=hv;exact⟨b,off,vs,e,hr.mono h.mem,hx.mono h.mem⟩
 | .b8 id ver p c i len,_,hv=>by
  have h1:=hv.one;simp only[aD.iJ];cases hr:ρ id ver with
  |none=>
   simp only[V]at hv ⊢;obtain⟨a,cap,e,_⟩:=hv;exact⟨_,e,h1 _ (by simp[e])⟩
  |some r=>
   simp only[V]at hv ⊢;obtain⟨a,cap,e,hl,hs,hb,hc⟩:=hv;obtain⟨b1,b2⟩:=h.ref id ver r hr hb;refine⟨a,cap,e,hl,hs,b1,λc=> ?_⟩;obtain⟨c1,e1⟩:=b2 c;rw[e1];exact hc c1
 | .fn f c,_,hv=>by simp only[aD.iJ,V]at hv ⊢;obtain⟨vs,e,hc⟩:=hv;exact⟨vs,e,aib h hc⟩
 | .cons _ _,_,hv=>by simp only[V]at hv
 | .nil,_,hv=>by simp only[V]at hv
 | .vec ..,_,hv=>by simp only[V]at hv
 | .bx ..,_,hv=>by simp only[V]at hv
 | .yl id ver,_,hv=>by
  have h1:=hv.one;simp only[aD.iJ];cases hr:ρ id ver with
  |none=>
   simp only[V]at hv ⊢;obtain⟨b,e,_⟩:=hv;exact⟨_,e,h1 _ (by simp[e])⟩
  |some r=>
   simp only[V]at hv ⊢;obtain⟨b,e,hb,hc⟩:=hv;obtain⟨b1,b2⟩:=h.ref id ver r hr hb;refine⟨b,e,b1,λc=> ?_⟩;obtain⟨c1,e1⟩:=b2 c;rw[e1];exact hc c1
 | .cO id ver,_,hv=>by
  have h1:=hv.one;simp only[aD.iJ];cases hr:ρ id ver with
  |none=>
   simp only[V]at hv ⊢;obtain⟨b,e,_⟩:=hv;exact⟨_,e,h1 _ (by simp[e])⟩
  |some r=>
   simp only[V]at hv ⊢;obtain⟨b,e,hb,hc⟩:=hv;obtain⟨b1,b2⟩:=h.ref id ver r hr hb;refine⟨b,e,b1,λc=> ?_⟩;obtain⟨c1,e1⟩:=b2 c;rw[e1];exact hc c1
 | .mp ..,_,hv | .qo ..,_,hv | .yZ ..,_,hv=>by simp only[V]at hv
theorem aib{ρ:Ren}{E E':Env}(h:y5 ρ E E'):∀ {a:aD} {vs:List Value},VC E a vs->VC E' (a.iJ ρ) vs
 | .nil,_,hv=>by simpa only[aD.iJ,VC]using hv
 | .cons a b,_,hv=>by simp only[aD.iJ,VC]at hv ⊢;obtain⟨v,vs',cs,e,ha,ho,hb⟩:=hv;exact⟨v,vs',cs,e,adG h ha,by rw[anr];exact ho,aib h hb⟩
 | .undef,_,hv=>by simp only[VC]at hv
 | .gone,_,hv=>by simp only[VC]at hv
 | .dH,_,hv=>by simp only[VC]at hv
 | .kh,_,hv=>by simp only[VC]at hv
 | .vY,_,hv=>by simp only[VC]at hv
 | .yl ..,_,hv | .yZ ..,_,hv=>by simp only[VC]at hv
 | .By,_,hv=>by simp only[VC]at hv
 | .sb _,_,hv=>by simp only[VC]at hv
 | .d t x,_,hv=>by simp only[VC]at hv
 | .pr a b,_,hv=>by simp only[VC]at hv
 | .ptr ..,_,hv=>by simp only[VC]at hv
 | .eI ..,_,hv=>by simp only[VC]at hv
 | .b8 ..,_,hv=>by simp only[VC]at hv
 | .fn ..,_,hv=>by simp only[VC]at hv
 | .vec ..,_,hv=>by simp only[VC]at hv
 | .bx ..,_,hv=>by simp only[VC]at hv
 | .cO ..,_,hv=>by simp only[VC]at hv
 | .mp ..,_,hv | .qo ..,_,hv=>by simp only[VC]at hv
end
theorem ET{ρ:Ren}{E E':Env}(h:y5 ρ E E'){a:aD}{v:Value}(hv:VS E a v):VS E' (a.iJ ρ) v:=by
 by_cases hc:a.eQ=aT
 ·obtain⟨cs,h1,h2⟩:=hv.eQ hc;exact VS.of (adG h h1) (by rw[anr];exact h2)
 ·cases a <;> first | (exact absurd rfl hc) | skip
  ·trivial
  ·obtain⟨vs,e,aFB⟩:=hv;have:=aib h aFB;simp only[aD.iJ]at this ⊢;exact⟨vs,e,this⟩
  ·exact hv
  ·obtain⟨cs,h1,_⟩:=hv;simp only[V]at h1
  ·obtain⟨cs,h1,_⟩:=hv;simp only[V]at h1
  ·obtain⟨cs,h1,_⟩:=hv;simp only[V]at h1
  ·obtain⟨cs,h1,_⟩:=hv;simp only[V]at h1
  ·obtain⟨cs,h1,_⟩:=hv;simp only[V]at h1
theorem VR(ρ:Ren):∀f:aD,(f.iJ ρ).list=f.list.map (aD.iJ ρ)
 | .cons a b=>by simp only[aD.iJ,aD.list,cr,VR ρ b]
 | .undef | .gone | .dH | .kh | .vY | .By | .d _ _ | .eI _ _ | .fn _ _ | .pr _ _ | .nil | .vec .. | .sb _ | .bx .. | .mp .. | .qo .. | .yZ .. =>rfl
 | .ptr id ver p n=>by simp only[aD.iJ];cases ρ id ver <;> rfl
 | .b8 id ver p c i len=>by simp only[aD.iJ];cases ρ id ver <;> rfl
 | .cO id ver=>by simp only[aD.iJ];cases ρ id ver <;> rfl
 | .yl id ver=>by simp only[aD.iJ];cases ρ id ver <;> rfl
theorem aia{ρ:Ren}{E E':Env}(h:y5 ρ E E'){f:aD}{tmps:Array Value}(hs:CX E f tmps):CX E' (f.iJ ρ) tmps:=by
 refine⟨by rw[VR,cH];exact hs.1,λi=> ?_⟩;have:=ET h (hs.2 i);rw[VR,aI,eJ];rw[aI]at this;cases hi:f.list[i]? with
 |none=>exact VS.undef
 |some x=>rw[hi]at this;exact this
theorem ari(ρ:Ren)(c:aD):(c.iJ ρ).strip=c.strip.iJ ρ:=by
 cases c <;> first
  |rfl
  | (rename_i id ver p n;simp only[aD.strip,aD.iJ];cases ρ id ver <;> rfl)
  | (rename_i id ver p c i len;simp only[aD.strip,aD.iJ];cases ρ id ver <;> rfl)
  | (rename_i i v;simp only[aD.strip,aD.iJ];cases ρ i v <;> rfl)
theorem Nf(ρ:Ren):∀c:aD,(c.iJ ρ).size=c.size
 | .pr a b=>by simp only[aD.iJ,aD.size,Nf ρ a,Nf ρ b]
 | .ptr id ver p n=>by simp only[aD.iJ];cases ρ id ver <;> rfl
 | .b8 id ver p c i len=>by simp only[aD.iJ];cases ρ id ver <;> rfl
 | .cO id ver=>by simp only[aD.iJ];cases ρ id ver <;> rfl
 | .undef | .gone | .dH | .kh | .vY | .By | .d _ _ | .eI _ _ | .fn _ _ | .cons _ _ | .nil | .vec .. | .sb _ | .bx .. | .mp .. | .qo .. | .yZ .. =>rfl
 | .yl id ver=>by simp only[aD.iJ];cases ρ id ver <;> rfl
theorem ate(ρ:Ren){c:aD}(n:Nat):(c.iJ ρ).vN n=c.vN n:=by
 cases c with
 |bx e z c=>cases z with
  |zero=>rfl
  |succ z=>exact Nf ρ c
 |_=>first | rfl | (simp only[aD.iJ];split <;> rfl)
theorem aov(ρ:Ren){c:aD}{pl:Pl}{n:Nat}{e:TypeId}(h:c.E3 pl n e):(c.iJ ρ).E3 pl n e:=by
  cases c <;> first
    | (rename_i e' z c;cases z with
       |zero=>exact h
       |succ z=>exact⟨h.1,h.2.1,h.2.2.1,by rw[Nf];exact h.2.2.2⟩)
    |exact h
    |trivial
    | (rename_i id ver p n;simp only[aD.iJ];cases ρ id ver <;> trivial)
    | (rename_i id ver p c i len;simp only[aD.iJ];cases ρ id ver <;> trivial)
    | (rename_i i v;simp only[aD.iJ];cases ρ i v <;> trivial)
theorem vL{ρ:Ren}{E E':Env}(h:y5 ρ E E'){id id':Id}{fr:Bool}{c:aD}(ho:vK E id fr c)(hβ:E'.β id'=E.β id)
  (hb:∀pl,E.β id=ao pl->E'.w.heap[pl.b]? =E.w.heap[pl.b]? /\(∀k,E.g pl.b= .own (.id id) k->E'.g pl.b= .own (.id id') k)/\(E.g pl.b= .free->E'.g pl.b= .free)):vK E' id' fr (c.iJ ρ):=by
 by_cases hn:c.il=aR
 ·obtain⟨pl,cur,e,h1,h2,h3,h5,h4⟩:=ho.box hn;obtain⟨b1,b2,b3⟩:=hb pl h1;have h6:=adG h h4;refine NM.obj ⟨pl,cur,e,by rw[hβ,h1],by rw[b1,h2],?_,aov ρ h5,by rw[ari,ate];exact h6⟩;cases fr with
  |true=>exact b3 h3
  |false=>exact b2 0 h3
 ·cases c <;> first
   | (exact absurd rfl hn)
   |skip
  rotate_left;rotate_left
  ·obtain⟨pl,mb,since,seen,c0,h1,h2,h3,_⟩:=ho;obtain⟨b1,b2,_⟩:=hb pl h1;exact⟨pl,mb,since,seen,c0,by rw[hβ,h1],by rw[b1,h2],b2 0 h3,λvr ah3=>by cases ah3⟩
  ·obtain⟨pl,r,h1,h2,h3,h4,h5,h6⟩:=ho;obtain⟨b1,b2,_⟩:=hb pl h1;exact⟨pl,r,by rw[hβ,h1],by rw[b1,h2],b2 0 h3,h4,aia h h5,h6⟩
  rotate_left
  ·obtain⟨pl,es,clock,h1,h2,h3,h4⟩:=ho;obtain⟨b1,b2,_⟩:=hb pl h1;exact⟨pl,es,clock,by rw[hβ,h1],by rw[b1,h2],b2 0 h3,⟨h4.1.1.mono h.mem,h4.1.2⟩,h4.2⟩
  rename_i e t l;obtain⟨hz,ho⟩:=ho;refine⟨hz,?_⟩;rw[hβ];cases hp:E.β id with
  |none=>rw[hp]at ho;exact ho
  |some pl=>
   rw[hp]at ho;simp only at ho ⊢;obtain⟨b1,b2,_⟩:=hb pl hp;obtain⟨cur,k,h1,h2,h3,h4,h5,h6,h7,h8⟩:=ho;exact⟨cur,k,by rw[b1,h1],h2,h3,h4,b2 k h5,h6,h7,h8.mono λc x hx=>hx.mono h.mem⟩
def w8(E:Env):List aD->List Value->Prop
 |[],[]=>True
 |a::as,v::vs=>VS E a v/\w8 E as vs
 |_,_=>False
def ig.st(G:ig):AS:= {ct:=[],cn:=G.cn,news:=[G.news]}
def fM(cn:List dU):AS:= {ct:=[],cn,news:=[]}
def sR(E:Env)(G:ig)(v:Value)(w':bW):Prop:=∃g' β',VS (G.st.env w' g' β') G.val v/\iN (G.st.env w' g' β')/\Trans E.w w' E.g g'/\cU E (G.st.env w' g' β')
def rp(P:aM)(f:fK)(en:Entry):Prop:=∀w g β args cn jk x,w8 ((fM cn).env w g β) args jk->iN ((fM cn).env w g β)->en.run args cn=ao x->((callFunc f jk.toArray).run P w= .ok (.enter f jk.toArray) w/\Calls P f jk.toArray w λe w'=>∃v,e= .returned v/\sR ((fM cn).env w g β) (en.out args cn x) v w')\/(∃v w',(callFunc f jk.toArray).run P w= .ok (.value v) w'/\sR ((fM cn).env w g β) (en.out args cn x) v w')
def Kx(P:aM)(y:Nat)(en:Entry):Prop:=∀w g β args cn jk x,w8 ((fM cn).env w g β) args jk->iN ((fM cn).env w g β)->en.run args cn=ao x->∀l us ts f rd n,jk= .func (.yield l) #[] #[]::(us++ts)->us.length=(VW P y).ps.size->RoundIn (Fr rd) n P l f (((VW P y).ps.zip us.toArray).foldl (λtmps (t,a)=>tmps.setIfInBounds t a) ts.toArray) (VW P y).as (VW P y).b w λe w'=>∃v,e= .returned v/\sR ((fM cn).env w g β) (en.out args cn x) v w'
def Kw(P:aM)(f:fK)(en:Entry):Prop:=∀w g β args cn jk,w8 ((fM cn).env w g β) args jk->iN ((fM cn).env w g β)->(∃x,en.set args cn x)->(callFunc f jk.toArray).run P w= .ok (.enter f jk.toArray) w/\Calls P f jk.toArray w λe w'=>∃v x,e= .returned v/\en.set args cn x/\sR ((fM cn).env w g β) (en.out args cn x) v w'
def B6(P:aM)(f:Nat)(en:Entry):Prop:=(Nat.blt f yB=aT->rp P f en)/\(Nat.ble yB f=aT->Kx P f en)/\(Nat.blt f yB=aT->Kw P f en)
theorem B6.no{f:Nat}(h1:Nat.blt f yB=aT)(h2:Nat.ble yB f=aT):False:=gv _ (Nat.lt_of_lt_of_le (dF h1) (dF h2))
theorem B6.of{P:aM}{f:fK}{en:Entry}(h:rp P f en)(hf:Nat.blt f yB=aT)(hs:∀a o x,¬en.set a o x:=by exact λ_ _ _ h=>h):B6 P f en:=
 ⟨λ_=>h,λh2=>(B6.no hf h2).elim,λ_ _ _ _ _ _ _ _ _ ⟨x,hx⟩=>(hs _ _ x hx).elim⟩
theorem B6.aLO{P:aM}{f:fK}{en:Entry}(h:Kw P f en)(hf:Nat.blt f yB=aT)(hs:∀a o,en.run a o=aJ:=by exact λ_ _=>rfl):B6 P f en:=
 ⟨λ_ _ _ _ _ _ _ _ _ _ hx=>(by rw[hs]at hx;cases hx),λh2=>(B6.no hf h2).elim,λ_=>h⟩
def Sound(P:aM)(Γ:qi):Prop:=∀f vs en,Γ f vs=ao en->B6 P f en
theorem w8.mono{E E':Env}(h:cU E E'):∀ {as:List aD} {vs:List Value},w8 E as vs->w8 E' as vs
 |[],[],_=>trivial
 |_::_,_::_,⟨h1,h2⟩=>⟨h1.mono h,w8.mono h h2⟩
theorem w8.iJ{ρ:Ren}{E E':Env}(h:y5 ρ E E'):∀ {as:List aD} {vs:List Value},w8 E as vs->w8 E' (as.map (aD.iJ ρ)) vs
 |[],[],_=>trivial
 |_::_,_::_,⟨h1,h2⟩=>⟨ET h h1,w8.iJ h h2⟩
theorem w8.append{E:Env}:∀ {as:List aD} {vs:List Value} {bs:List aD} {us:List Value},w8 E as vs->w8 E bs us->w8 E (as++bs) (vs++us)
 |[],[],_,_,_,h=>h
 |_::_,_::_,_,_,⟨h1,h2⟩,h=>⟨h1,w8.append h2 h⟩
theorem aak{E:Env}:∀ {c:aD} {vs:List Value},VC E c vs->w8 E c.list vs
 | .cons a b,vs,h=>by simp only[VC]at h;obtain⟨v,vs',cs,rfl,ha,ho,hb⟩:=h;exact⟨VS.of ha ho,aak hb⟩
 | .nil,vs,h=>by simp only[VC]at h;subst h;trivial
 | .undef,_,hv=>by simp only[VC]at hv
 | .gone,_,hv=>by simp only[VC]at hv
 | .dH,_,hv=>by simp only[VC]at hv
 | .kh,_,hv=>by simp only[VC]at hv
 | .vY,_,hv=>by simp only[VC]at hv
 | .yl ..,_,hv | .yZ ..,_,hv=>by simp only[VC]at hv
 | .By,_,hv=>by simp only[VC]at hv
 | .sb _,_,hv=>by simp only[VC]at hv
 | .d t x,_,hv=>by simp only[VC]at hv
 | .pr a b,_,hv=>by simp only[VC]at hv
 | .ptr ..,_,hv=>by simp only[VC]at hv
 | .eI ..,_,hv=>by simp only[VC]at hv
 | .b8 ..,_,hv=>by simp only[VC]at hv
 | .fn ..,_,hv=>by simp only[VC]at hv
 | .vec ..,_,hv=>by simp only[VC]at hv
 | .bx ..,_,hv=>by simp only[VC]at hv
 | .cO ..,_,hv=>by simp only[VC]at hv
 | .mp ..,_,hv | .qo ..,_,hv=>by simp only[VC]at hv
theorem Inv.aHM{C:Ctx}{g:Nat->lY}{β:Id->Option Pl}{s:AS}{a:Act}{w:bW}(h:Inv C g β s a w):∀l:List bK,w8 (s.env w g β) (l.map s.ev) (l.map a.eval)
 |[]=>trivial
 |x::l=>⟨h.ev x,h.aHM l⟩
theorem Cf{E E':Env}{s:AS}(hs:E.s=s.bU)(ho:iN E)(he:cU E E'):∀(ps:List (Option Ty)) (vs:List aD) (ys:List Value) (r:List aD×List Id),w8 E vs ys->(s.conv ps vs).eval=ao r->aFM E E' r.2->w8 E' r.1 ys
 |[],[],ys,r,hv,h,_=>by
  simp only[AS.conv,ay]at h;subst h;cases ys with
  |nil=>trivial
  |cons _ _=>exact hv.elim
 |some t::ps,v::vs,y::ys,r,⟨hv,P9⟩,h,hf=>by
  simp only[AS.conv]at h;obtain⟨x,h1,h2⟩:=ax.1 h;obtain⟨r',h3,h4⟩:=ax.1 h2;obtain rfl:=ay.1 h4;obtain⟨cs,hV,hO⟩:=hv.eQ (A7 h1);refine⟨VS.of (cs:=cs) ?_ ?_,Cf hs ho he ps vs ys r' P9 h3 λid de=>hf id (bC.2 (.inr de))⟩
  ·simp only[V];exact tV hs ho he v t x cs hV h1 λid de=>hf id (bC.2 (.inl de))
  ·show fR t.agg cs y;rw[<-WH h1];exact hO
 |none::ps,v::vs,y::ys,r,⟨hv,P9⟩,h,hf=>by simp only[AS.conv]at h;obtain⟨r',h3,h4⟩:=ax.1 h;obtain rfl:=ay.1 h4;exact⟨hv.mono he,Cf hs ho he ps vs ys r' P9 h3 hf⟩
 |[],_::_,_,_,_,h,_=>by simp only[AS.conv,aw]at h
 |some _::_,[],_,_,_,h,_=>by simp only[AS.conv,aw]at h
 |none::_,[],_,_,_,h,_=>by simp only[AS.conv,aw]at h
end Go.Ab
namespace Go.Ab
theorem oN{id:Id}:∀ {ids:List Id} {k:Nat},idxOf id ids=ao k->ids[k]? =ao id
 |[],_,h=>by simp[idxOf]at h
 |x::xs,k,h=>by
  simp only[idxOf]at h;split at h
  ·rename_i e;simp only[az]at h;subst h e;rfl
  ·simp only[dw]at h;obtain⟨j,hj,rfl⟩:=h;simpa using oN hj
theorem vT{id:Id}:∀ {ids:List Id} {k:Nat},ids.Nodup->ids[k]? =ao id->idxOf id ids=ao k
 |[],_,_,h=>by simp at h
 |x::xs,0,hn,h=>by simp only[fQ,az]at h;simp[idxOf,h]
 |x::xs,k+1,hn,h=>by
  simp only[lZ]at h;obtain⟨h1,h2⟩:=dm.1 hn;have gj:x≠id:=λe=>h1 (e▸c7 h)
  simp[idxOf,gj,vT h2 h]
theorem BU(s0:AS)(all:List Id)(t:Nat):∀(ids:List Id) (es:List dU) (s:AS),(AS.jF s0 all t s ids es).ct=s.ct
 |[],_,_=>by simp[AS.jF]
 |_::_,[],_=>by simp[AS.jF]
 |id::ids,e::es,s=>by rw[AS.jF,BU s0 all t ids es,dr]
theorem Wi(s:AS)(ids:List Id)(t:Nat)(es:List dU):(s.made ids t es).ct=s.ct:=by cases es <;> rfl
theorem Fi(s0:AS)(all:List Id)(t:Nat):∀(ids:List Id) (es:List dU) (s:AS),ids.Nodup->es.length=ids.length->(∀id∈ids,s.bU id≠aJ)->
  (∀id,id ∉ ids->(AS.jF s0 all t s ids es).bU id=s.bU id)/\
  ∀(k:Nat) (id:Id) (e:dU),ids[k]? =ao id->es[k]? =ao e->(AS.jF s0 all t s ids es).bU id=ao (s0.rG all t (s0.Ba id) e)
 |[],es,s,_,_,_=>⟨λ_ _=>by simp[AS.jF],λk id e h=>by simp at h⟩
 |_::_,[],s,_,hl,_=>by simp at hl
 |i::ids,e::es,s,hn,hl,hp=>by
  obtain⟨h1,h2⟩:=dm.1 hn;have hp':∀id∈ids,(s.aZ i (s0.rG all t (s0.Ba i) e)).bU id≠aJ:=λid de=>by rw[dd s i id _ (λe=>h1 (e▸de))];exact hp id (aL _ de)
  obtain⟨r1,r2⟩:=Fi s0 all t ids es (s.aZ i (s0.rG all t (s0.Ba i) e)) h2 (by simpa using hl) hp';rw[AS.jF];refine⟨λid de=> ?_,λk id e' hk he=> ?_⟩
  ·simp only[cj,not_or]at de;rw[r1 id de.2,dd s i id _ de.1]
  ·cases k with
   |zero=>
    simp only[fQ,az]at hk he;subst hk he;rw[r1 i h1,eK s i _ (hp i (aK ..))]
   |succ k=>
    simp only[lZ]at hk he;exact r2 k id e' hk he
theorem ae4(s:AS)(ids:List Id)(t:Nat)(es:List dU)(hv:es=[]\/s.ez t=aT):
  (∀id,(es=[]\/∀j,id≠ .new t j)->(s.made ids t es).bU id=s.bU id)/\(es≠ []->∀j,(s.made ids t es).bU (.new t j)=(es[j]?).map (s.rG ids t 0)):=by
 cases es with
 |nil=>exact⟨λ_ _=>rfl,λh=>absurd rfl h⟩
 |cons e es=>
  have hv:s.ez t=aT:=by
   rcases hv with h | h
   ·cases h
   ·exact h
  refine⟨λid h=> ?_,λ_ j=> ?_⟩
  ·rcases h with h | h
   ·cases h
   ·exact jc _ h
  ·rw[AS.made,xL (kq hv).2,eJ]
def nC(ids:List Id):lY->lY
 | .free=> .free
 | .own .eL n=> .own .eL n
 | .own (.id i) n=>match idxOf i ids with | some k=> .own (.id (.bF k)) n | none=> .own .eL n
def AU(β:Id->Option Pl)(ids:List Id):Id->Option Pl
 | .bF k=>(ids[k]?).bind β
 | .new _ _=>aJ
def nR(g:Nat->lY)(size:Nat)(ids:List Id)(t:Nat)(b:Nat):lY->lY
 | .free=> .free
 | .own .eL n=>if b < size then g b else .own .eL n
 | .own (.id i) n=> .own (.id (aCA ids t i)) n
def we(β β':Id->Option Pl)(ids:List Id)(t:Nat)(some?:Bool)(id:Id):Option Pl:=
 match idxOf id ids with
 |some k=>β' (.bF k)
 |none=>match id with
  | .new i j=>if i=t/\some?=aT then β' (.new 0 j) else β (.new i j)
  |id=>β id
theorem avw{ids:List Id}{l:lY}{off:Nat}(h:sM (λ_=>l) 0 off):sM (λ_=>nC ids l) 0 off:=by
 cases l with
 |free=>trivial
 |own o k=>cases o with
  |eL=>exact h
  |id i=>simp only[nC];cases idxOf i ids <;> exact h
section
variable {P:aM} {C:Ctx} {g:Nat->lY} {β:Id->Option Pl} {s:AS} {a:Act} {w:bW} {o:Oper}
theorem avg(ids:List Id):
  y5 (s.wi ids) (s.env w g β) ((fM (ids.map (s.mz ids))).env w (λb=>nC ids (g b)) (AU β ids)):=by
 refine⟨⟨λb off v ⟨h1,h2⟩=>⟨h1,?_⟩,λb ob h1 h2=>⟨by show nC ids (g b)= .free;have h1:g b= .free:=h1;rw[h1];rfl,h2⟩⟩,λid ver r hr _=> ?_⟩
 ·exact avw (l:=g b) h2
 ·unfold AS.wi at hr;split at hr
  ·rename_i k v fr c hk ho;split at hr
   ·rename_i aGX;simp only[az]at hr;subst hr aGX;have de:=oN hk;have cP:=dZ ho;refine⟨⟨?_,λ_ _ _ _=>aN _⟩,λ_=>⟨⟨fr,c,cP⟩,?_⟩⟩
    ·show(ids.map (s.mz ids))[k]? ≠aJ
     simp[de]
    ·show(ids[k]?).bind β=β id;rw[de];rfl
   ·cases hr
  ·cases hr
theorem amz(ids:List Id)(hn:ids.Nodup)(h:iN (s.env w g β)):iN ((fM (ids.map (s.mz ids))).env w (λb=>nC ids (g b)) (AU β ids)):=by
 intro id ver fr c de;have de:(fM (ids.map (s.mz ids))).bU id=ao (.obj ver fr c):=de;cases id with
 |new i j=>simp[fM,AS.bU]at de
 |bF k=>
  simp only[fM,AS.bU,eJ,dw]at de;obtain⟨id1,hk,he⟩:=de;unfold AS.mz at he;split at he
  ·rename_i v fr1 c1 cP;simp only[dU.obj.injEq]at he;obtain⟨rfl,rfl,rfl⟩:=he;refine vL (avg ids) (h id1 v fr1 c1 cP) (by show(ids[k]?).bind β=β id1;rw[hk];rfl) λpl hp=>⟨rfl,λn hg=> ?_,λhg=> ?_⟩
   ·have hg:g pl.b= .own (.id id1) n:=hg;show nC ids (g pl.b)=_;rw[hg];simp[nC,vT hn hk]
   ·have hg:g pl.b= .free:=hg;show nC ids (g pl.b)=_;rw[hg];rfl
  ·cases he
theorem Sz(h:Inv C g β s a w){ids:List Id}(hn:ids.Nodup)(hp:∀id∈ids,∃r,s.obj id=ao r)(R6:∀id∈ids,s.Oy id=aT){G:ig}{t:Nat}(hl:G.cn.length=ids.length)(hv:G.news=[]\/s.ez t=aT){v:Value}{w':bW}
  (ha:sR ((fM (ids.map (s.mz ids))).env w (λb=>nC ids (g b)) (AU β ids)) G v w'):
  ∃g' β',Inv C g' β' (AS.jF s ids t (s.made ids t G.news) ids G.cn) a w'/\VS ((AS.jF s ids t (s.made ids t G.news) ids G.cn).env w' g' β') (G.val.iJ (s.uG ids t)) v:=by
 obtain⟨g1,β1,zx,aCv,ajy,hle⟩:=ha;have ajy:Trans w w' (λb=>nC ids (g b)) g1:=ajy;obtain⟨m1,m2⟩:=ae4 s ids t G.news hv;have aI9:∀id∈ids,s.bU id≠aJ:=λid de=>by obtain⟨⟨v,fr,c⟩,hr⟩:=hp id de;rw[dZ hr];simp
 have Co:∀id,s.bU id≠aJ->G.news=[]\/∀j,id≠ .new t j:=λid de=>by
  rcases hv with hv | hv
  ·exact .inl hv
  ·exact .inr λj e=>de (by rw[e];exact(kq hv).1 j)
 obtain⟨n1,n2⟩:=Fi s ids t ids G.cn (s.made ids t G.news) hn hl (λid de=>by rw[m1 id (Co id (aI9 id de))];exact aI9 id de);have aEf:∀j,G.news≠ []->Id.new t j ∉ ids:=λj gj de=>by
  rcases hv with hv | hv
  ·exact gj hv
  ·exact aI9 _ de ((kq hv).1 j)
 generalize TQ:AS.jF s ids t (s.made ids t G.news) ids G.cn=s2 at*;have hgO:∀(k:Nat) (id:Id),ids[k]? =ao id->∃e,G.cn[k]? =ao e/\s2.bU id=ao (s.rG ids t (s.Ba id) e):=λk id hk=>by
  have je:k < G.cn.length:=by rw[hl];exact(dN.1 hk).1
  exact⟨_,bQ je,n2 k id _ hk (bQ je)⟩
 have hgN:G.news≠ []->∀j,s2.bU (.new t j)=(G.news[j]?).map (s.rG ids t 0):=λgj j=>by rw[n1 _ (aEf j gj),m2 gj j]
 have hgS:∀id,id ∉ ids->(G.news=[]\/∀j,id≠ .new t j)->s2.bU id=s.bU id:=λid h1 h2=>by rw[n1 id h1,m1 id h2]
 have hverOf:∀id∈ids,∃fr c,s.bU id=ao (.obj (s.Ba id) fr c):=λid de=>by obtain⟨⟨v,fr,c⟩,hr⟩:=hp id de;refine⟨fr,c,?_⟩;rw[dZ hr];simp[AS.Ba,hr]
 have aIM:∀b n,b < w.heap.size->g1 b= .own .eL n->(g b= .own .eL n\/∃i,g b= .own (.id i) n/\idxOf i ids=aJ):=λb n hb hg=>by
  have h1:=ajy.xo b hb;cases Rt:g b with
  |free=>simp only[Rt,nC]at h1;rw[h1.1]at hg;cases hg
  |own o k=>cases o with
   |eL=>simp only[Rt,nC]at h1;rw[h1.1]at hg;left;exact hg
   |id i=>
    cases hi:idxOf i ids with
    |none=>
     simp only[Rt,nC,hi]at h1;rw[h1.1]at hg;simp only[lY.own.injEq,Ae]at hg;subst hg;exact .inr ⟨i,rfl,hi⟩
    |some k'=>
     simp only[Rt,nC,hi]at h1;rcases h1.1 with h2 | ⟨_,_,h2,_⟩ <;> (rw[h2]at hg;cases hg)
 let g2:Nat->lY:=λb=>nR g w.heap.size ids t b (g1 b)
 let β2:Id->Option Pl:=we β β1 ids t (!G.news.isEmpty)
 have hβO:∀k id,ids[k]? =ao id->β2 id=β1 (.bF k):=λk id hk=>by show we _ _ _ _ _ id=_;simp[we,vT hn hk]
 have hβN:G.news≠ []->∀j,β2 (.new t j)=β1 (.new 0 j):=λgj j=>by
  show we _ _ _ _ _ _=_;have:idxOf (.new t j) ids=aJ:=by
   cases hi:idxOf (.new t j) ids with
   |none=>rfl
   |some k=>exact absurd (c7 (oN hi)) (aEf j gj)
  have hne':G.news.isEmpty=aR:=by cases hh:G.news with
   |nil=>exact absurd hh gj
   |cons _ _=>rfl
  simp[we,this,hne']
 have hβS:∀id,id ∉ ids->(G.news=[]\/∀j,id≠ .new t j)->β2 id=β id:=λid h1 h2=>by
  show we _ _ _ _ _ _=_;have:idxOf id ids=aJ:=by
   cases hi:idxOf id ids with
   |none=>rfl
   |some k=>exact absurd (c7 (oN hi)) h1
  cases id with
  |bF k=>simp[we,this]
  |new i j=>
   have:¬(i=t/\(!G.news.isEmpty)=aT):=by
    rintro⟨rfl,h3⟩;rcases h2 with h2 | h2
    ·rw[h2]at h3;cases h3
    ·exact h2 j rfl
   simp only[we, *,cF]
 have aGT:Trans w w' g g2:=by
  refine⟨ajy.os,ajy.tape,ajy.output,ajy.size,λb hb=> ?_⟩;have h1:=ajy.xo b hb;show match g b with | .free=>nR g w.heap.size ids t b (g1 b)= .free/\_ | .own .eL k=>nR g w.heap.size ids t b (g1 b)= .own .eL k/\_ | .own (.id _) k=>(nR g w.heap.size ids t b (g1 b)= .free\/∃i k',nR g w.heap.size ids t b (g1 b)= .own (.id i) k'/\k<=k')/\_
  cases Rt:g b with
  |free=>simp only[Rt,nC]at h1 ⊢;rw[h1.1];exact⟨rfl,h1.2⟩
  |own o k=>cases o with
   |eL=>simp only[Rt,nC]at h1 ⊢;rw[h1.1];simp only[nR,hb,cY,Rt];exact⟨trivial,h1.2⟩
   |id i=>
    cases hi:idxOf i ids with
    |none=>
     simp only[Rt,nC,hi]at h1 ⊢;rw[h1.1];simp only[nR,hb,cY,Rt];exact⟨.inr ⟨i,k,rfl,aF _⟩,λoff v _ hv=>by simpa only[eN,h1.2]using hv⟩
    |some k'=>
     simp only[Rt,nC,hi]at h1 ⊢;refine⟨?_,h1.2⟩;rcases h1.1 with h2 | ⟨i',k'',h2,h3⟩
     ·rw[h2];exact .inl rfl
     ·rw[h2];exact .inr ⟨_,k'',rfl,h3⟩
 have tn:sU (G.st.env w' g1 β1) (s2.env w' g2 β2):=by
  refine⟨λb off v ⟨h1,h2⟩=> ?_,λb ob h1 h2=>⟨by show nR g w.heap.size ids t b (g1 b)= .free;have h1:g1 b= .free:=h1;rw[h1];rfl,h2⟩⟩;refine⟨h1,?_⟩;have h2:sM g1 b off:=h2;show sM g2 b off;unfold sM at h2 ⊢;show match nR g w.heap.size ids t b (g1 b) with | .free=>True | .own _ k=>off < k
  cases Rt:g1 b with
  |free=>simp[nR]
  |own o k=>
   rw[Rt]at h2;cases o with
   |eL=>
    simp only[nR];by_cases hb:b < w.heap.size
    ·rw[if_pos hb];rcases aIM b k hb Rt with h3 | ⟨i,h3,_⟩ <;> (rw[h3];exact h2)
    ·rw[if_neg hb];exact h2
   |id i=>exact h2
 have hentOut:∀(base:Nat) (e:dU) (ver:Nat) (fr:Bool) (c:aD),s.rG ids t base e= .obj ver fr c->∃v0 c0,e= .obj v0 fr c0/\ver=base+v0/\c=c0.iJ (s.uG ids t):=λbase e ver fr c he=>by
  cases e with
  |dead=>cases he
  |obj v0 fr0 c0=>
   simp only[AS.rG,dU.obj.injEq]at he;obtain⟨rfl,rfl,rfl⟩:=he;exact⟨v0,c0,rfl,rfl,rfl⟩
 have Ru:y5 (s.uG ids t) (G.st.env w' g1 β1) (s2.env w' g2 β2):=by
  refine⟨tn,λid ver r hr hb=> ?_⟩;cases id with
  |bF k=>
   obtain⟨NH,R4⟩:=hb;have NH:G.cn[k]? ≠aJ:=NH
   have hk:k < ids.length:=by
    rcases pC k ids.length with h' | h'
    ·exact h'
    ·exact absurd (dP au) NH
   have de:ids[k]? =ao ids[k]:=bQ hk
   simp only[AS.uG,de,az]at hr;subst hr;obtain⟨e,EP,Xa⟩:=hgO k _ de;refine⟨⟨by show s2.bU _≠aJ;rw[Xa];simp,λv fr c hh=> ?_⟩,λ⟨fr,c,hh⟩=>⟨?_,hβO k _ de⟩⟩
   ·have hh:s2.bU ids[k]=ao (.obj v fr c):=hh;rw[Xa,az]at hh;obtain⟨v0,c0,rfl,rfl,_⟩:=hentOut _ _ _ _ _ hh;have:=R4 v0 fr c0 EP;omega
   ·have hh:s2.bU ids[k]=ao (.obj (s.Ba ids[k]+ver) fr c):=hh;rw[Xa,az]at hh;obtain⟨v0,c0,rfl,aFA,_⟩:=hentOut _ _ _ _ _ hh;obtain rfl:ver=v0:=au;exact⟨fr,c0,EP⟩
  |new i j=>
   simp only[AS.uG,az]at hr;subst hr;obtain⟨NH,R4⟩:=hb;have NH:([G.news].getD i [])[j]? ≠aJ:=NH
   have R4:∀v fr c,([G.news].getD i [])[j]? =ao (.obj v fr c)->ver<=v:=R4
   cases i with
   |succ i=>simp at NH
   |zero=>
    simp only[lV]at NH R4;have gj:G.news≠ []:=λe=>by rw[e]at NH;simp at NH
    obtain⟨e,he⟩:=Option.ne_none_iff_exists'.1 NH;have Xa:=hgN gj j;rw[he,eo]at Xa;refine⟨⟨by show s2.bU (.new t j)≠aJ;rw[Xa];simp,λv fr c hh=> ?_⟩,λ⟨fr,c,hh⟩=>⟨?_,hβN gj j⟩⟩
    ·have hh:s2.bU (.new t j)=ao (.obj v fr c):=hh;rw[Xa,az]at hh;obtain⟨v0,c0,rfl,rfl,_⟩:=hentOut _ _ _ _ _ hh;have:=R4 v0 fr c0 he;simp only;omega
    ·have hh:s2.bU (.new t j)=ao (.obj ver fr c):=hh;rw[Xa,az]at hh;obtain⟨v0,c0,rfl,aFA,_⟩:=hentOut _ _ _ _ _ hh;obtain rfl:ver=v0:=au;exact⟨fr,c0,he⟩
 have aGE:cU (s.env w g β) (s2.env w' g2 β2):=by
  refine⟨Trans.mem aGT,λid ver hb=> ?_,λid ver hb hc=> ?_⟩
  ·obtain⟨NH,R4⟩:=hb;have NH:s.bU id≠aJ:=NH;have R4:∀v fr c,s.bU id=ao (.obj v fr c)->ver<=v:=R4;by_cases de:id∈ids
   ·obtain⟨k,hk⟩:=ku.1 de;obtain⟨e,EP,Xa⟩:=hgO k id hk;obtain⟨fr1,c1,NI⟩:=hverOf id de;refine⟨by show s2.bU _≠aJ;rw[Xa];simp,λv fr c hh=> ?_⟩;have hh:s2.bU id=ao (.obj v fr c):=hh;rw[Xa,az]at hh;obtain⟨v0,c0,rfl,rfl,_⟩:=hentOut _ _ _ _ _ hh;have:=R4 _ _ _ NI;omega
   ·have:=hgS id de (Co id NH);exact⟨by show s2.bU _≠aJ;rw[this];exact NH,λv fr c hh=>R4 v fr c (this.symm.trans hh)⟩
  ·obtain⟨NH,R4⟩:=hb;have NH:s.bU id≠aJ:=NH;have R4:∀v fr c,s.bU id=ao (.obj v fr c)->ver<=v:=R4;obtain⟨fr,c,hh⟩:=hc;have hh:s2.bU id=ao (.obj ver fr c):=hh;by_cases de:id∈ids
   ·obtain⟨k,hk⟩:=ku.1 de;obtain⟨e,EP,Xa⟩:=hgO k id hk;obtain⟨fr1,c1,NI⟩:=hverOf id de;rw[Xa,az]at hh;obtain⟨v0,c0,rfl,aFA,_⟩:=hentOut _ _ _ _ _ hh;have aGX:=R4 _ _ _ NI;obtain rfl:v0=0:=au;have hver':ver=s.Ba id:=au;refine⟨⟨fr1,c1,by rw[hver'];exact NI⟩,?_⟩;show β2 id=β id;rw[hβO k id hk];have afr:s.mz ids id= .obj 0 fr1 (c1.iJ (s.wi ids)):=by simp[AS.mz,NI]
    have h0:((fM (ids.map (s.mz ids))).env w (λb=>nC ids (g b)) (AU β ids)).Eg (.bF k) 0:=by
     refine⟨?_,λ_ _ _ _=>aN _⟩;show(ids.map (s.mz ids))[k]? ≠aJ
     simp[hk]
    have:=(hle.cur (.bF k) 0 h0 ⟨fr,c0,EP⟩).2;have this:β1 (.bF k)=(ids[k]?).bind β:=this;rw[this,hk];rfl
   ·have:=hgS id de (Co id NH);exact⟨⟨fr,c,this.symm.trans hh⟩,hβS id de (Co id NH)⟩
 have aGM:iN (s2.env w' g2 β2):=by
  intro id ver fr c hh;have hh:s2.bU id=ao (.obj ver fr c):=hh;by_cases de:id∈ids
  ·obtain⟨k,hk⟩:=ku.1 de;obtain⟨e,EP,Xa⟩:=hgO k id hk;rw[Xa,az]at hh;obtain⟨v0,c0,rfl,_,rfl⟩:=hentOut _ _ _ _ _ hh;refine vL Ru (aCv (.bF k) v0 fr c0 EP) (hβO k id hk) λpl _=>⟨rfl,λn hg=> ?_,λhg=> ?_⟩
   ·have hg:g1 pl.b= .own (.id (.bF k)) n:=hg;show nR g w.heap.size ids t pl.b (g1 pl.b)=_;rw[hg];simp[nR,aCA,aI,hk]
   ·have hg:g1 pl.b= .free:=hg;show nR g w.heap.size ids t pl.b (g1 pl.b)=_;rw[hg];rfl
  ·by_cases gj:G.news≠ []/\∃j,id= .new t j
   ·obtain⟨gj,j,rfl⟩:=gj;rw[hgN gj j,dw]at hh;obtain⟨e,he,hh⟩:=hh;obtain⟨v0,c0,rfl,_,rfl⟩:=hentOut _ _ _ _ _ hh;refine vL Ru (aCv (.new 0 j) v0 fr c0 (by show([G.news].getD 0 [])[j]? =_;simpa using he)) (hβN gj j) λpl _=>⟨rfl,λn hg=> ?_,λhg=> ?_⟩
    ·have hg:g1 pl.b= .own (.id (.new 0 j)) n:=hg;show nR g w.heap.size ids t pl.b (g1 pl.b)=_;rw[hg];rfl
    ·have hg:g1 pl.b= .free:=hg;show nR g w.heap.size ids t pl.b (g1 pl.b)=_;rw[hg];rfl
   ·have aKD:G.news=[]\/∀j,id≠ .new t j:=by
     by_cases hh:G.news=[]
     ·exact .inl hh
     ·exact .inr λj e=>gj ⟨hh,j,e⟩
    rw[hgS id de aKD]at hh;have same:∀id,id ∉ ids->∀ver fr c,s.bU id=ao (.obj ver fr c)->∀pl,β id=ao pl->w'.heap[pl.b]? =w.heap[pl.b]? /\nR g w.heap.size ids t pl.b (g1 pl.b)=g pl.b:=by
     intro id de ver fr c hh pl Rw;obtain⟨hb,apA⟩:=(h.bN id ver fr c hh).label (pl:=pl) Rw;have hb:pl.b < w.heap.size:=hb;have h1:=ajy.xo pl.b hb;have aIR:idxOf id ids=aJ:=by
      cases hi:idxOf id ids with
      |none=>rfl
      |some k=>exact absurd (c7 (oN hi)) de
     rcases apA with⟨k,hk⟩ | ⟨_,hk⟩
     ·have hk:g pl.b= .own (.id id) k:=hk;simp only[hk,nC,aIR]at h1;rw[h1.1];simp only[nR,hb,cY];exact⟨h1.2,trivial⟩
     ·have hk:g pl.b= .free:=hk;simp only[hk,nC]at h1;rw[h1.1,hk];exact⟨h1.2,rfl⟩
    have ho:=h.bN id ver fr c hh;refine ho.mono aGE (hβS id de aKD) (λpl Rw=>same id de ver fr c hh pl Rw) λq2 vq k2 v2 l2 Oi _=> ?_
    have Oi:s.bU q2=ao (.obj vq aT (.mp k2 v2 l2)):=Oi;have aCs:q2 ∉ ids:=λhm=>by
     have:=R6 q2 hm;have e:s.obj q2=ao (vq,aT,.mp k2 v2 l2):=by simp[AS.obj,Oi]
     unfold AS.Oy at this;rw[e]at this;cases this
    refine⟨⟨k2,v2,l2,?_⟩,λpl Rw=>same q2 aCs vq aT _ Oi pl Rw⟩;show s2.bU q2=_;rw[hgS q2 aCs (Co q2 (by rw[Oi];simp))];exact Oi
 have asr:s2.ct=s.ct:=by rw[<-TQ,BU,Wi]
 exact⟨g2,β2,h.step asr aGT aGE aGM,ET Ru zx⟩
end
end Go.Ab
namespace Go.Ab
theorem sC(s:AS):∀(n:Nat) (todo acc:List Id),acc.Nodup->(s.reach n todo acc).Nodup
 | 0,_,acc,h=>by simpa[AS.reach]using h
 |_+1,[],acc,h=>by simpa[AS.reach]using h
 |n+1,id::todo,acc,h=>by
  rw[AS.reach];split
  ·exact sC s n todo acc h
  ·rename_i hc;refine sC s n _ _ ?_
   rw[List.nodup_append];refine⟨h,by simp,λx hx y hy e=> ?_⟩;simp only[bw]at hy;subst hy e;exact hc (by simpa using hx)
theorem AK(s:AS)(vs:List aD):(s.Zf vs).Nodup:=sC s _ _ _ (by simp)
section
variable {P:aM} {C:Ctx} {g:Nat->lY} {β:Id->Option Pl} {s:AS} {a:Act} {w:bW} {o:Oper}
theorem adU(h:Inv C g β s a w){ids:List Id}(hn:ids.Nodup)(vS:s.amG ids=aT){G:ig}{s':AS}(he:(s.back ids o.dst G).eval=ao s'){v:Value}{w':bW}
  (ha:sR ((fM (ids.map (s.mz ids))).env w (λb=>nC ids (g b)) (AU β ids)) G v w'):gT C s' (a.put o.dst v) w':=by
 have hp:∀id∈ids,∃r,s.obj id=ao r:=λid de=>by have:=cS.1 vS id de;rw[av]at this;exact bA.1 this.1
 have R6:∀id∈ids,s.Oy id=aT:=λid de=>by have:=cS.1 vS id de;rw[av]at this;exact this.2
 unfold AS.back at he;cases aGo:o.dst with
 |some t=>
  rw[aGo]at he;obtain⟨hg,he⟩:=aG.1 he;obtain rfl:=ay.1 he;simp only[av,dB,ij]at hg;obtain⟨hl,hg⟩:=hg;have avc:G.news=[]\/s.ez t=aT:=by
   rcases hg with hg | hg
   ·exact .inl (by simpa using hg)
   ·exact .inr hg
  obtain⟨g2,β2,h1,h2⟩:=Sz h hn hp R6 hl avc ha;exact⟨g2,β2,h1.put (ao t) h2⟩
 |none=>
  rw[aGo]at he;obtain⟨hg,he⟩:=aG.1 he;obtain rfl:=ay.1 he;simp only[av,dB]at hg;obtain⟨hl,hg⟩:=hg;have Co:G.news=[]:=by simpa using hg
  obtain⟨g2,β2,h1,_⟩:=Sz (t:=0) h hn hp R6 hl (.inl Co) ha;rw[Co]at h1;exact⟨g2,β2,h1⟩
theorem Ob(h:Inv C g β s a w){en:Entry}{ids:List Id}(hn:ids.Nodup){vs:List aD}{ys:List Value}(hv:w8 (s.env w g β) vs ys)
  {s':AS} (he:(s.enter en o.dst ids vs).eval=ao s'):∃x,en.run (vs.map (aD.iJ (s.wi ids))) (ids.map (s.mz ids))=ao x/\
   w8 ((fM (ids.map (s.mz ids))).env w (λb=>nC ids (g b)) (AU β ids)) (vs.map (aD.iJ (s.wi ids))) ys/\
   iN ((fM (ids.map (s.mz ids))).env w (λb=>nC ids (g b)) (AU β ids))/\
   ∀v w',sR ((fM (ids.map (s.mz ids))).env w (λb=>nC ids (g b)) (AU β ids)) (en.out (vs.map (aD.iJ (s.wi ids))) (ids.map (s.mz ids)) x) v w'->gT C s' (a.put o.dst v) w':=by
 unfold AS.enter at he;obtain⟨vS,he⟩:=aG.1 he;obtain⟨x,hx,he⟩:=mf.1 he;obtain⟨x0,aEg,he⟩:=ax.1 he;rw[en.anz _ _ aEg]at he;exact⟨x,hx,w8.iJ (avg ids) hv,amz ids hn h.bN,λv w' ha=>adU h hn vS he ha⟩
theorem ai5(h:Inv C g β s a w){f:fK}{en:Entry}(hd:rp P f en){ids:List Id}(hn:ids.Nodup){vs:List aD}{ys:List Value}(hv:w8 (s.env w g β) vs ys)
  (hr:(execOp a.eval o).run P w=(callFunc f ys.toArray).run P w) {s':AS} (he:(s.enter en o.dst ids vs).eval=ao s'):fL P o a w (gT C s'):=by
 obtain⟨x,hx,h1,h2,key⟩:=Ob h hn hv he;rcases hd _ _ _ _ _ _ _ h1 h2 hx with⟨ajm,hc⟩ | ⟨v,w',aH2,ha⟩
 ·exact .inr (.inr (.inl ⟨f,ys.toArray,w,hr.trans ajm,hc.mono λe w' ⟨v,he,ha⟩=>⟨v,he,key v w' ha⟩⟩))
 ·exact .inl ⟨v,w',hr.trans aH2,key v w' ha⟩
theorem aoD(h:Inv C g β s a w){c:Call}{F:bK}{f:fK}{caps:aD}{en:Entry}(ho:o.op= .call c)(hc:c.callee= .value F)(hF:s.ev F= .fn f caps)(hd:rp P f en){s':AS}
  (he:(s.call en o.dst (c.args.toList.map s.ev++caps.list)).eval=ao s'):fL P o a w (gT C s'):=by
 obtain⟨cal,args,tys⟩:=c;simp only at hc he;subst hc;obtain⟨vs,hy,aFB⟩:=TE (hF▸h.ev F);have H3:=(h.aHM args.toList).append (aak aFB);have hr:(execOp a.eval o).run P w=(callFunc f (args.toList.map a.eval++vs).toArray).run P w:=by
  have e1:execOp a.eval o=(do let d <-resolve a.eval {callee:= .value F,args,argTypes:=tys} o.type;invoke d.target d.args):=by simp only[execOp,ho]
  rw[e1];simp only[resolve,hy,Deferred.ofValue,cg,dY,bH,invoke];congr 2;simp
 unfold AS.call at he;obtain⟨r,h1,h2⟩:=ax.1 he;obtain⟨g',i1,e1,_,f1⟩:=fb r.2 h;exact ai5 i1 hd (AK _ _) (Cf rfl h.bN e1 _ _ _ r H3 h1 f1) hr h2
theorem N9{X R:Type}{S:X->Prop}{k:X->Option R}{r:R}(h:Rq S k=ao r):(∃x,S x)/\∀x,S x->k x=ao r:=by
 unfold Rq at h;split at h
 ·rename_i hx;obtain rfl:=aP h;exact hx.choose_spec
 ·cases h
theorem PF(h:Inv C g β s a w){f:fK}{en:Entry}(hd:Kw P f en){vs:List aD}{ys:List Value}(H3:w8 (s.env w g β) vs ys){R:Type}{k:AS->Option R}{r:R}
  (he:s.aeq en o.dst vs k=ao r):(callFunc f ys.toArray).run P w= .ok (.enter f ys.toArray) w/\Calls P f ys.toArray w λe w'=>∃v,e= .returned v/\∃s',gT C s' (a.put o.dst v) w'/\k s'=ao r:=by
 unfold AS.aeq at he;obtain⟨r2,h0,he⟩:=gQ.1 he;obtain⟨r3,h1,h3⟩:=ax.1 h0;obtain⟨vS,h3⟩:=aG.1 h3;obtain rfl:=ay.1 h3;obtain⟨g',i1,e1,_,f1⟩:=fb r3.2 h;have hn:=AK (s.bt r3.2) r3.1;have hv:=Cf rfl h.bN e1 _ _ _ r3 H3 h1 f1;unfold AS.aus at he;obtain⟨hx,hk⟩:=N9 he;obtain⟨c1,c2⟩:=hd _ _ _ _ _ _ (w8.iJ (avg _) hv) (amz _ hn i1.bN) hx;refine⟨c1,c2.mono λe w' ⟨v,x,afq,hs,ha⟩=>⟨v,afq,?_⟩⟩;obtain⟨s',h4,h5⟩:=gQ.1 (hk x hs);obtain⟨x0,aEg,h4⟩:=ax.1 h4;rw[en.anz _ _ aEg]at h4;exact⟨s',adU i1 hn vS h4 ha,h5⟩
theorem aiM(h:Inv C g β s a w){c:Call}{F:bK}{f:fK}{caps:aD}{en:Entry}(ho:o.op= .call c)(hc:c.callee= .value F)(hF:s.ev F= .fn f caps)(hd:Kw P f en){R:Type}{k:AS->Option R}{r:R}
  (he:s.aeq en o.dst (c.args.toList.map s.ev++caps.list) k=ao r):fL P o a w λa' w'=>∃s',gT C s' a' w'/\k s'=ao r:=by
 obtain⟨cal,args,tys⟩:=c;simp only at hc he;subst hc;obtain⟨vs,hy,aFB⟩:=TE (hF▸h.ev F);obtain⟨c1,c2⟩:=PF h hd ((h.aHM args.toList).append (aak aFB)) he;refine .inr (.inr (.inl ⟨f,(args.toList.map a.eval++vs).toArray,w,Eq.trans ?_ c1,c2⟩));have e1:execOp a.eval o=(do let d <-resolve a.eval {callee:= .value F,args,argTypes:=tys} o.type;invoke d.target d.args):=by simp only[execOp,ho]
 rw[e1];simp only[resolve,hy,Deferred.ofValue,cg,dY,bH,invoke];congr 2;simp
theorem CX.aLY{E:Env}{f:aD}{tmps:Array Value}(h:CX E f tmps):w8 E f.list tmps.toList:=by
 obtain⟨h1,h2⟩:=h;have gen:∀(l:List aD) (ys:List Value),l.length=ys.length->(∀i,VS E (l.getD i .undef) (ys.getD i undef))->w8 E l ys:=by
  intro l
  induction l with
  |nil=>intro ys hl _;cases ys with
   |nil=>trivial
   |cons _ _=>simp at hl
  |cons x l ih=>intro ys hl hi;cases ys with
   |nil=>simp at hl
   |cons y ys=>exact⟨by simpa using hi 0,ih ys (by simpa using hl) λi=>by simpa using hi (i+1)⟩
 exact gen _ _ (by simpa using h1) λi=>by simpa[cQ,aI]using h2 i
theorem alB(h:Inv C g β s a w){c:Call}{F:bK}{id:Id}{ver:Nat}{rc:uk}{f:aD}{en:Entry}(ho:o.op= .call c)(hc:c.callee= .value F)
  (hF:s.yielded (s.ev F) c.args.size=ao (id,ver,rc,f)) (aH1:rc=VW P rc.y) (hd:B6 P rc.y en) {s':AS}
  (he:(s.call en o.dst (.yl id ver::(c.args.toList.map s.ev++f.list))).eval=ao s'):fL P o a w (gT C s'):=by
 obtain⟨cal,args,tys⟩:=c;simp only at hc he hF;subst hc;unfold AS.yielded at hF;split at hF;rotate_left
 ·cases hF
 rename_i id' ver' afq;split at hF;rotate_left
 ·cases hF
 rename_i v c0 f0 kA;split at hF;rotate_left
 ·cases hF
 rename_i auY;simp only[az,cK]at hF;obtain⟨rfl,rfl,rfl,rfl⟩:=hF;simp only[av,dB]at auY;obtain⟨⟨rfl,sj⟩,hy⟩:=auY;have cP:=dZ kA;have hv:=h.ev F;rw[afq]at hv;obtain⟨cs,hV,hO⟩:=hv;simp only[V]at hV;obtain⟨l,rfl,hb,fD⟩:=hV;have aGZ:a.eval F= .func (.yield l) #[] #[]:=by simpa[fR,aD.agg]using hO.symm
 obtain⟨pl,hp,rfl⟩:=fD ⟨aR,_,cP⟩;obtain⟨pl',r,hp',hh,hg,⟨q1,q2,q3⟩,asr,nQ⟩:=h.bN id' v aR _ cP;have hp':β id'=ao pl':=hp';have hp:β id'=ao pl:=hp;rw[hp']at hp;obtain rfl:pl'=pl:=by simpa using hp
 have hh:w.heap[pl'.b]? =ao (.loop r):=hh
 have H3:w8 (s.env w g β) (.yl id' v::(args.toList.map s.ev++f0.list)) (.func (.yield pl'.b) #[] #[]::(args.toList.map a.eval++r.tmps.toList)):=
  ⟨by rw[<-aGZ,<-afq];exact h.ev F,(h.aHM args.toList).append asr.aLY⟩
 have hr:(execOp a.eval o).run P w= .ok (.round pl'.b r.fn ((c0.ps.zip (args.toList.map a.eval).toArray).foldl (λtmps (t,a)=>tmps.setIfInBounds t a) r.tmps.toList.toArray) c0.as c0.b) w:=by
  have e1:execOp a.eval o=(do let d <-resolve a.eval {callee:= .value F,args,argTypes:=tys} o.type;invoke d.target d.args):=by simp only[execOp,ho]
  have e2:=run_yield (P:=P) (args:=args.map a.eval) hh (by simpa[q1]using sj);rw[q1,q2,q3]at e2;rw[e1];simp only[resolve,aGZ,Deferred.ofValue,cg,dY,bH,invoke];have e3:(args.toList.map a.eval).toArray=args.map a.eval:=by apply gg;simp
  rw[e3];simpa using e2
 unfold AS.call at he;obtain⟨r2,h1,h2⟩:=ax.1 he;obtain⟨g',i1,e1,_,f1⟩:=fb r2.2 h;obtain⟨x,hx,k1,k2,key⟩:=Ob i1 (AK _ _) (Cf rfl h.bN e1 _ _ _ r2 H3 h1 f1) h2;refine .inr (.inr (.inr ⟨pl'.b,r.fn,_,c0.as,c0.b,w,hr,λrd n=> ?_⟩));have:=hd.2.1 hy _ _ _ _ _ _ x k1 k2 hx pl'.b (args.toList.map a.eval) r.tmps.toList r.fn rd n rfl (by rw[<-aH1];simpa using sj);rw[<-aH1]at this;exact this.mono λe w' ⟨v,he,ha⟩=>⟨v,he,key v w' ha⟩
end
end Go.Ab
namespace Go.Ab
section
variable {P:aM} {C:Ctx} {g:Nat->lY} {β:Id->Option Pl} {s:AS} {a:Act} {w:bW} {o:Oper}
theorem jB{b:Builtin}{args:Array bK}{ts:Array TypeId}{F:TypeId->Array Value->Sem Value}{x:Value}{w':bW}{s':AS}(ho:o.op= .call {callee:= .builtin b,args,argTypes:=ts})
  (hb:∀ty cs xs,builtin b ts ty cs xs=(do pure (.value (<-F ty xs)))) (hf:∀ty,(F ty (args.map a.eval)).run P w= .ok x w') (h2:∃g' β',Inv C g' β' s' (a.put o.dst x) w'):fL P o a w (gT C s'):=by
 refine .inl ⟨x,w',?_,h2⟩;simp only[execOp,ho,resolve,cg,dY,bH,invoke];rw[hb,cg,hf];rfl
theorem aiS(h:Inv C g β s a w){src dst:TypeId}{x:bK}(ho:o.op= .convert src dst x){id:Id}{ver:Nat}(hx:s.ev x= .ptr id ver [] 0){v:aD}(he:(YK P s src dst id ver).eval=ao v):fL P o a w (gT C (s.put o.dst v)):=by
 have hv:=h.ev x;rw[hx]at hv;obtain⟨ad,hy,hb,hc⟩:=tM hv;have fin:v= .ptr id ver [] 0->(convert src dst (a.eval x)).run P w= .ok (a.eval x) w->fL P o a w (gT C (s.put o.dst v)):=by intro h1 h2;subst h1;exact h.value hv (eu (f:=convert src dst (a.eval x)) (by simp only[execOp,ho]) h2)
 unfold YK at he;split at he
 ·rename_i v0 fr e c kA;have cP:=dZ kA;obtain⟨pl',cur,e',hp',hh,hg,hk,hV⟩:=(h.bN id v0 fr _ cP).box rfl;have hk:e'=e:=hk;subst hk;have hV:V (s.env w g β) c (cur.toList.take cur.size):=hV;rw[<-cR,cJ]at hV;have hh:w.heap[pl'.b]? =ao (.cells cur e' (0,0)):=hh
  have sj:=hV.size;have sj:cur.toList.length=c.size:=sj;have ajq:w.shape? pl'.b=ao (e',c.size):=by simp only[World.shape?,hh];rw[<-sj];simp
  have hp':β id=ao pl':=hp';split at he
  ·rename_i t hS hD;obtain⟨h1,h2⟩:=aG.1 he;have h2:=ay.1 h2;simp only[av,dB,cv,gh]at h1;obtain⟨⟨rfl,h3⟩,h4⟩:=h1;obtain⟨pl,hp,rfl⟩:=hc ⟨fr,_,cP⟩;have hp:β id=ao pl:=hp;rw[hp']at hp;obtain rfl:pl'=pl:=by simpa using hp
   refine fin h2.symm ?_
   rw[hy];cases hi:P.info? t with
   |none=>exact absurd (by simp[Program.cellsOf,hi]) h3
   |some j=>
    have hj:j.size≠0:=by rw[<-mW hi]at*;exact h3
    exact Go.Lib.run_to_unsafe w _ hS hD hi hj ajq (by show 0 < c.size;omega)
  ·rename_i u hS hD;obtain⟨h1,h2⟩:=aG.1 he;have h2:=ay.1 h2;simp only[av,dB,cv,gh]at h1;obtain⟨⟨rfl,h3⟩,h4⟩:=h1;obtain⟨pl,hp,rfl⟩:=hc ⟨fr,_,cP⟩;have hp:β id=ao pl:=hp;rw[hp']at hp;obtain rfl:pl'=pl:=by simpa using hp
   refine fin h2.symm ?_
   rw[hy];cases hi:P.info? u with
   |none=>exact absurd (by simp[Program.cellsOf,hi]) h3
   |some j=>exact Go.Lib.run_from_unsafe w _ hS hD hi ajq h4
  ·simp only[aw]at he
 ·simp only[aw]at he
theorem auv(h:Inv C g β s a w){T U:TypeId}{op:BinOp}{x y:bK}(ho:o.op= .binOp op T x y U){i j:Id}{v1 v2:Nat}(hx:s.ev x= .ptr i v1 [] 0)(hy:s.ev y= .ptr j v2 [] 0){v:aD}(he:(aFn P s T op i v1 j v2).eval=ao v):
  fL P o a w (gT C (s.put o.dst v)):=by
 unfold aFn at he;split at he
 ·rename_i v' fr c kA;obtain⟨h1,h2⟩:=aG.1 he;simp only[av,dB,aW]at h1;obtain⟨⟨⟨rfl,rfl⟩,rfl⟩,aFw⟩:=h1;have cP:=dZ kA;have TS:=h.ev x;have aCz:=h.ev y;rw[hx]at TS;rw[hy]at aCz;obtain⟨ad,aF9,_,hc⟩:=tM TS;obtain⟨ad',aGa,_,hc'⟩:=tM aCz;obtain⟨pl,hp,rfl⟩:=hc ⟨fr,c,cP⟩;obtain⟨pl',hp',rfl⟩:=hc' ⟨fr,c,cP⟩;rw[hp]at hp';obtain rfl:pl=pl':=by simpa using hp'
  have hT:∃t j,P.underlying T=ao (.pointer t)/\P.info? t=ao j:=by
   unfold aHk at aFw;split at aFw
   ·rename_i t ht;obtain⟨j,hj⟩:=bA.1 aFw;exact⟨t,j,ht,hj⟩
   ·cases aFw
  obtain⟨t,j,hT,hj⟩:=hT
  have hq:(Op.equal T (.pointer (ao ⟨pl.b,0,aJ⟩)) (.pointer (ao ⟨pl.b,0,aJ⟩))).run P w= .ok aT w:=
   eH λd=>by simp[df,run_underlying hT,sizeOf,typeInfo,hj,run_sameAddr_same]
  have aLe:(eqGuard op T x y (a.eval x) (a.eval y)).run P w= .ok () w:=by rw[aF9,aGa];exact nH (by simp) rfl
  have fin:∀z,(binOp op T (a.eval x) (a.eval y)).run P w= .ok z w->VS (s.env w g β) v z->fL P o a w (gT C (s.put o.dst v)):=by
   intro z h1 h3;refine h.value h3 ?_
   simp[execOp,ho,h1,aLe]
  split at h2
  ·obtain rfl:=ay.1 h2;refine fin (.bool aT) ?_ (uQ aT)
   rw[aF9,aGa];simp[binOp,hq]
  ·obtain rfl:=ay.1 h2;refine fin (.bool aR) ?_ (uQ aR)
   rw[aF9,aGa];simp[binOp,hq]
  ·simp only[aw]at h2
 ·simp only[aw]at he
theorem aB8{c:Call}{b:Builtin}{x:bK}(hc:c.callee= .builtin b)(ha:c.args.toList=[x]):c= {callee:= .builtin b,args:= #[x],argTypes:=c.argTypes}:=by
 obtain⟨cal,args,tys⟩:=c;simp only at hc ha;have ha':args= #[x]:=by apply gg;simpa using ha
 subst hc ha';rfl
theorem alK{c:Call}{b:Builtin}{x y:bK}(hc:c.callee= .builtin b)(ha:c.args.toList=[x,y]):c= {callee:= .builtin b,args:= #[x,y],argTypes:=c.argTypes}:=by
 obtain⟨cal,args,tys⟩:=c;simp only at hc ha;have ha':args= #[x,y]:=by apply gg;simpa using ha
 subst hc ha';rfl
theorem aJZ{ts:Array TypeId}{T:TypeId}(h:ts.toList=[T]):ts= #[T]:=by apply gg;simpa using h
theorem aE6{ts:Array TypeId}{T U:TypeId}(h:ts.toList=[T,U]):ts= #[T,U]:=by apply gg;simpa using h
theorem atr(h:Inv C g β s a w){c:Call}{x:bK}{T e:TypeId}(ho:o.op= .call c)(hc:c.callee= .builtin .cap)(ha:c.args.toList=[x])(ht:c.argTypes.toList=[T])(hx:s.ev x= .dH)(hT:P.underlying T=ao (.slice e)):
  fL P o a w (gT C (s.put o.dst (.d (.int .i64) (0:Int)))):=by
 rw[aB8 hc ha,aJZ ht]at ho;have hv:=h.ev x;rw[hx]at hv;have hy:=lu hv;refine jB ho (F:=λty xs=>Builtin.cap_ #[T] ty xs) (λty cs xs=>rfl) (x:= .int .i64 0) (w':=w) (λty=> ?_) ⟨g,β,h.put o.dst (lH _ _)⟩;simp[Builtin.cap_,run_underlying hT,hy,goInt]
theorem aho(h:Inv C g β s a w){c:Call}{x:bK}{id:Id}{ver len:Nat}(ho:o.op= .call c)(hc:c.callee= .builtin .unsafeSliceData)(ha:c.args.toList=[x])(hx:s.ev x= .b8 id ver [] 0 0 len)(hl:0 < len):
  fL P o a w (gT C (s.put o.dst (.ptr id ver [.idx 0] 0))):=by
 rw[aB8 hc ha]at ho;have hv:=h.ev x;rw[hx]at hv;obtain⟨ad,cap,hy,LH,hs,hb,fD⟩:=qY hv;obtain⟨ad,rfl⟩:=bA.1 (hs hl);refine jB ho (F:=λty xs=>Builtin.unsafeSliceData_ c.argTypes ty xs) (λty cs xs=>rfl) (x:= .pointer (ao ad)) (w':=w) (λty=> ?_) ⟨g,β,h.put o.dst ?_⟩
 ·rw[show(#[x].map a.eval)= #[a.eval x] by simp,hy];exact Go.Lib.run_unsafeSliceData_row w _ _ _ _ _ au
 ·refine⟨[.pointer (ao ad)],?_,rfl⟩;simp only[V];refine⟨ad,rfl,hb,λhc=> ?_⟩;have h1:=fD hc;cases hp:(s.env w g β).β id with
  |none=>rw[hp]at h1;simp only at h1;cases h1.1
  |some pl=>
   rw[hp]at h1;simp only at h1;exact⟨pl,rfl,by simpa using h1.1 (.inl hl)⟩
theorem af6(h:Inv C g β s a w){c:Call}{mx:Bool}(ho:o.op= .call c)(hc:c.callee= .builtin (if mx then .max else .min)){v:aD}(he:(ap9 mx (c.args.toList.map s.ev)).eval=ao v):fL P o a w (gT C (s.put o.dst v)):=by
 unfold ap9 at he;split at he
 ·rename_i k x k' y Qa;obtain⟨h1,h2⟩:=aG.1 he;obtain rfl:=ay.1 h2;have h1:k=k':=by simpa using h1
  subst h1;have auW:∃p q,c.args.toList=[p,q]/\s.ev p= .d (.int k) x/\s.ev q= .d (.int k) y:=by
   match hh:c.args.toList,Qa with
   |[p,q],Qa=>simp only[cr,iU,cz]at Qa;exact⟨p,q,rfl,Qa.1,Qa.2.1⟩
   |[],Qa=>simp at Qa
   |[_],Qa=>simp at Qa
   |_::_::_::_,Qa=>simp at Qa
  obtain⟨p,q,ha,hp,hq⟩:=auW;rw[alK hc ha]at ho;have aEe:=h.ev p;have aCy:=h.ev q;rw[hp]at aEe;rw[hq]at aCy;have ep:=uq aEe;have eq:=uq aCy;cases mx with
  |true=>
   refine jB ho (F:=λty xs=>Builtin.max_ c.argTypes ty xs) (λty cs xs=>rfl) (x:= .int k (if x < y then y else x)) (w':=w) (λty=> ?_) ⟨g,β,h.put o.dst (lH _ _)⟩;rw[show(#[p,q].map a.eval)= #[a.eval p,a.eval q] by simp,ep,eq];simp[Builtin.max_,Builtin.max2]
  |false=>
   refine jB ho (F:=λty xs=>Builtin.min_ c.argTypes ty xs) (λty cs xs=>rfl) (x:= .int k (if y < x then y else x)) (w':=w) (λty=> ?_) ⟨g,β,h.put o.dst (lH _ _)⟩;rw[show(#[p,q].map a.eval)= #[a.eval p,a.eval q] by simp,ep,eq];simp[Builtin.min_,Builtin.min2]
 ·rename_i k x k' y k2 z Qa;obtain⟨h1,h2⟩:=aG.1 he;obtain rfl:=ay.1 h2;simp only[av,aW]at h1;obtain⟨rfl,rfl⟩:=h1;have auW:∃p q r,c.args.toList=[p,q,r]/\s.ev p= .d (.int k) x/\s.ev q= .d (.int k) y/\s.ev r= .d (.int k) z:=by
   match hh:c.args.toList,Qa with
   |[p,q,r],Qa=>simp only[cr,iU,cz]at Qa;exact⟨p,q,r,rfl,Qa.1,Qa.2.1,Qa.2.2.1⟩
   |[],Qa=>simp at Qa
   |[_],Qa=>simp at Qa
   |[_,_],Qa=>simp at Qa
   |_::_::_::_::_,Qa=>simp at Qa
  obtain⟨p,q,r,ha,hp,hq,hr⟩:=auW;have aCk:c= {callee:= .builtin (if mx then .max else .min),args:= #[p,q,r],argTypes:=c.argTypes}:=by
   obtain⟨cal,args,tys⟩:=c;simp only at hc ha;have ha':args= #[p,q,r]:=by apply gg;simpa using ha
   subst hc ha';rfl
  rw[aCk]at ho;have aEe:=h.ev p;have aCy:=h.ev q;have ah3:=h.ev r;rw[hp]at aEe;rw[hq]at aCy;rw[hr]at ah3;have ep:=uq aEe;have eq:=uq aCy;have er:=uq ah3;cases mx with
  |true=>
   refine jB ho (F:=λty xs=>Builtin.max_ c.argTypes ty xs) (λty cs xs=>rfl) (x:= .int k (if(if x < y then y else x) < z then z else(if x < y then y else x))) (w':=w) (λty=> ?_) ⟨g,β,h.put o.dst (lH _ _)⟩;rw[show(#[p,q,r].map a.eval)= #[a.eval p,a.eval q,a.eval r] by simp,ep,eq,er];simp[Builtin.max_,Builtin.max2]
  |false=>
   refine jB ho (F:=λty xs=>Builtin.min_ c.argTypes ty xs) (λty cs xs=>rfl) (x:= .int k (if z < (if y < x then y else x) then z else(if y < x then y else x))) (w':=w) (λty=> ?_) ⟨g,β,h.put o.dst (lH _ _)⟩;rw[show(#[p,q,r].map a.eval)= #[a.eval p,a.eval q,a.eval r] by simp,ep,eq,er];simp[Builtin.min_,Builtin.min2]
 ·simp only[aw]at he
theorem W9(z:Array Value)(n:Nat):Builtin.zeroCells z n=madeCells z (n*z.size):=rfl
theorem apt(h:Inv C g β s a w){c:Call}{x y:bK}{T X:TypeId}{k:kR}{n:Int}(ho:o.op= .call c)(hc:c.callee= .builtin .append)(ha:c.args.toList=[x,y])(ht:c.argTypes.toList=[T,X])(hx:s.ev x= .dH)(hy:s.ev y= .d (.int k) n){s':AS}
  (he:(afl P s o.dst T X n).eval=ao s'):fL P o a w (gT C s'):=by
 rw[alK hc ha,aE6 ht]at ho;have TS:=h.ev x;have aCz:=h.ev y;rw[hx]at TS;rw[hy]at aCz;have ex:=lu TS;have ey:=uq aCz;unfold afl at he;split at he
 ·rename_i e t b q kn Hz hd hX;obtain⟨hT,hz,i,zv,hi,apz,aDZ,ah5,apD⟩:=Bm Hz;obtain⟨hq,h2⟩:=aG.1 he;obtain⟨h3,h4⟩:=bS.1 h2;obtain rfl:=ay.1 h4;simp only[av,aW,ea]at h3;obtain⟨h5,h7,h8⟩:=h3;obtain⟨m,rfl⟩:=Int.eq_ofNat_of_zero_le (Int.le_of_lt h5);simp only[aa]at h7 h8 ⊢;have aFE:zv.cells.size=t.size:=by have:=(apD (s.env w g β)).size;simpa using this
  have hr:=λty=>Go.Lib.run_append_nil_zeros (P:=P) w T X ty e i zv k kn hT hX hi ah5 m au (by rw[apz];exact hz) au (by rw[aDZ];omega)
  obtain⟨cap,LH⟩:∃cap,grownCap w m 0 e=cap:=⟨_,rfl⟩;have c1:m<=cap:=by rw[<-LH];exact grownCap_ge _ _ _ _
  have c2:cap<=maxLen:=by rw[<-LH];exact grownCap_le_maxLen _ _ _ _ (by unfold maxLen;omega)
  rw[LH]at hr;obtain⟨cur,fD⟩:∃cur,Builtin.zeroCells zv.cells m++Builtin.zeroCells zv.cells (cap - m)=cur:=⟨_,rfl⟩;rw[fD]at hr;have s1:cur.size=cap*t.size:=by rw[<-fD,Array.size_append,Aj,Aj,aFE,<-eM];congr 1;omega
  have vS:=tN (apD (s.env w.drew g β)) m;have s2:cur.toList.take (m*t.size)=(madeCells zv.cells (m*t.size)).toList:=by
   rw[<-fD,bZ,W9,aFE];have hl:(madeCells zv.cells (m*t.size)).toList.length=m*t.size:=by simp[size_madeCells]
   rw[iZ au,bJ au]
  obtain⟨g2,β2,i2,NJ⟩:=(h.drew).abZ hq (e:=e) (l:=ai m t.zero) (cur:=cur) (cap:=cap) hz (by rw[dE,s2];exact vS) s1 (by rw[dE];exact c1) c2;rw[dE]at NJ;refine jB ho (F:=λty xs=>Builtin.append_ #[T,X] ty xs) (λty cs xs=>rfl) (λty=> ?_) ⟨g2,β2,i2.put o.dst NJ⟩;rw[show(#[x,y].map a.eval)= #[a.eval x,a.eval y] by simp,ex,ey];exact hr ty
 ·simp only[aw]at he
theorem ZU:∀(xs:List Int) (a:Addr) (acc:ByteArray),(∀j x,xs[j]? =ao x->w.cell? (a.add j)=ao (.int .u8 x))->
  (loadBytes a acc xs.length).run P w= .ok ⟨acc.data++(xs.map λn=>fo n.toNat).toArray⟩ w
 |[],a,acc,_=>by simp[loadBytes]
 |x::l,a,acc,h=>by
  have h0:w.cell? a=ao (.int .u8 x):=by have:=h 0 x rfl;simpa[Addr.add]using this
  have ih:=ZU l (a.add 1) (acc.push x.toNat.toUInt8) (λj y hy=>by
   have:=h (j+1) y (by simpa using hy);have e:(a.add 1).add j=a.add (j+1):=by
    unfold Addr.add;by_cases hj:j=0
    ·subst hj;simp
    ·simp[hj];omega
   rw[e];exact this)
  simp only[aH,loadBytes,cg,run_load,h0,Result.andThen];rw[ih];congr 1;apply ByteArray.ext;simp[ByteArray.push]
theorem arZ(h:Inv C g β s a w){c:Call}{x y:bK}{T U:TypeId}{id:Id}{ver:Nat}{n:Int}(ho:o.op= .call c)(hc:c.callee= .builtin .unsafeString)(ha:c.args.toList=[x,y])(ht:c.argTypes.toList=[T,U])
  (hx:s.ev x= .ptr id ver [.idx 0] 0) (hy:s.ev y= .d (.int .i64) n) {s':AS} (he:(ahC P s o.dst T id ver n).eval=ao s'):fL P o a w (gT C s'):=by
 rw[alK hc ha,aE6 ht]at ho;have TS:=h.ev x;rw[hx]at TS;obtain⟨ad,aF9,_,aK6⟩:=tM TS;have aCz:=h.ev y;rw[hy]at aCz;have aGa:=uq aCz;unfold ahC at he;split at he
 ·rename_i v e l u kA hT;obtain⟨h1,h2⟩:=aG.1 he;obtain⟨h3,h4⟩:=bS.1 h2;obtain rfl:=ay.1 h4;simp only[av,dB]at h1;obtain⟨⟨rfl,rfl⟩,aDT⟩:=h1;simp only[aW]at h3;obtain⟨h5,h6⟩:=h3;obtain⟨n,rfl⟩:=Int.eq_ofNat_of_zero_le (Int.le_of_lt h5);have h6:n<=(l:List Int).length:=au;have cP:=dZ kA;obtain⟨pl,hp,rfl⟩:=aK6 ⟨aR,_,cP⟩;have hp:β id=ao pl:=hp;have hO:vK (s.env w g β) id aR (.vec u (.int .u8) l):=h.bN id v aR _ cP;obtain⟨hz,hO⟩:=hO;have hO:(match β id with
   |none=>l=[]
   |some pl=>∃cur k,w.heap[pl.b]? =ao (.cells cur u (0,0))/\cur.size=pl.cap*(Ty.int .u8).size/\(l:List Int).length<=pl.cap/\pl.cap<=maxLen/\g pl.b= .own (.id id) k/\
     k<=(l:List Int).length*(Ty.int .u8).size/\(aR=aR->k=0)/\bq (cI (s.env w g β) (.int .u8)) (cur.toList.take ((l:List Int).length*(Ty.int .u8).size)) l):=hO
  rw[hp]at hO;obtain⟨cur,k,q1,q2,q3,q4,q5,q6,q7,q8⟩:=hO;have hk:=q7 rfl;subst hk;have aD6:(Ty.int .u8).size=1:=rfl;rw[aD6,jG]at q2 q8;have P9:=vQ q8;have ajq:w.shape? pl.b=ao (u,cur.size):=by simp only[World.shape?,q1]
  have Cm:∀j z,((l:List Int).take n)[j]? =ao z->w.cell? ((⟨pl.b,0,aJ⟩:Addr).add j)=ao (.int .u8 z):=λj z hj=>by
   rw[c9]at hj;split at hj
   ·rename_i aKy;have aD1:j < (l:List Int).length:=au;rw[fv,bg];simp only[eN,q1];have:(cur.toList.take (l:List Int).length)[j]? =ao (.int .u8 z):=by rw[P9,eJ,hj];rfl
    rw[c9,if_pos aD1]at this;simpa using this
   ·cases hj
  have hlen:((l:List Int).take n).length=n:=by rw[cT];omega
  have aD3:=ZU (P:=P) (w:=w) ((l:List Int).take n) ⟨pl.b,0,aJ⟩ .empty Cm;rw[hlen]at aD3;have aGF:=Go.Lib.liesAt_bytes (P:=P) (e:=u) (by simpa using aDT) (cur.size / P.cellsOf u) n (by
   rw[show P.cellsOf u=1 by simpa using aDT,Nat.div_one];omega)
  have aGv:∃w',w.freeze ⟨pl.b,0,aJ⟩ n=w'/\w'.os=w.os/\w'.tape=w.tape/\(w'.output=w.output/\w.drawn<=w'.drawn)/\w'.heap.size=w.heap.size/\∀b',b'≠pl.b->w'.heap[b']? =w.heap[b']? :=by refine⟨_,rfl,?_⟩;unfold World.freeze;rw[if_neg au];refine⟨rfl,rfl,⟨rfl,aF _⟩,by simp,λb' hb'=> ?_⟩;simp only[gl];rw[if_neg (λe=>hb' e.symm)]
  obtain⟨w',hw',f1,f2,f3,f4,f5⟩:=aGv;have i1:=h.kill cP q5 f1 f2 f3 f4 f5;have aKl:¬(9223372036854775807:Int) < (n:Int):=by unfold maxLen at q4;omega
  have aI3:¬(n:Int) < 0:=au;have az6:n≠0:=au;have aI0:IntKind.i64.max=9223372036854775807:=rfl;refine jB ho (F:=λty xs=>Builtin.unsafeString_ #[T,U] ty xs) (λty cs xs=>rfl) (x:= .string (fB ((l:List Int).take n))) (w':=w') (λty=> ?_) ⟨_,β,i1.put o.dst ⟨[.string (fB ((l:List Int).take n))],by simp only[V,cI];rfl,rfl⟩⟩;rw[show(#[x,y].map a.eval)= #[a.eval x,a.eval y] by simp,aF9,aGa]
  have aDU:Builtin.unsafeString_ #[T,U] ty #[.pointer (ao ⟨pl.b,0,aJ⟩),.int .i64 n]=
    (do
     let n <-Go.asInt (.int .i64 n)
     if n < 0 then runtimePanic (.error "unsafe.String: len out of range")
     if n > IntKind.i64.max then unsupported (.unsafePointer "String: a length above the largest int")
     if n=0 then pure (.string .empty)
     else if <-variablesAt ⟨pl.b,0,aJ⟩ (<-elemOf T) n.toNat then do
      let s <-loadBytes ⟨pl.b,0,aJ⟩ .empty n.toNat
      freeze ⟨pl.b,0,aJ⟩ n.toNat
      pure (.string s)
     else unsupported (.unsafePointer "String: not so many bytes at ptr")):=rfl
  rw[aDU];simp[Go.asInt,asIntOf,aI0,aKl,aI3,az6,variablesAt,ajq,elemOf,run_underlying hT,aGF,aD3,hw',fB]
 ·simp only[aw]at he
end
end Go.Ab
namespace Go.Ab
section
variable {P:aM} {C:Ctx} {g:Nat->lY} {β:Id->Option Pl} {s:AS} {a:Act} {w:bW} {o:Oper}
theorem af1(h:Inv C g β s a w){c:Call}{T T2:TypeId}{m k:bK}(dj:o.op= .call c)(hc:c.callee= .builtin .delete)(ha:c.args.toList=[m,k])(ht:c.argTypes.toList=[T,T2]){s':AS}(he:(DB P s T (s.ev m) (s.ev k)).eval=ao s'):fL P o a w (gT C (s'.put o.dst .nil)):=by
 have dj:o.op= .call {callee:= .builtin .delete,args:= #[m,k],argTypes:= #[T,T2]}:=by rw[dj,alK hc ha,aE6 ht]
 unfold DB at he;split at he
 ·rename_i K V' kt vt id ver hm hx;obtain⟨l,h1,he⟩:=ax.1 he;obtain⟨kx,h2,he⟩:=ax.1 he;obtain⟨aEd,he⟩:=aG.1 he;obtain rfl:=ay.1 he;obtain⟨hT,hK,_⟩:=AL hm;have TS:=h.ev m;rw[hx]at TS;obtain⟨fr,pl,es,clock,g1,g2,g3,g4,g5,g6,g7,gn⟩:=yf h h1 TS;obtain⟨l0,g6,gp⟩:=g6;have H4:=zr depth K kt hK;have hk:=DQ (h.ev k) h2;have ayM:=oA (P:=P) (w:=w) es.isEmpty depth K kt hK 10000 eZ _ _ hk;obtain⟨r,hf,hr⟩:=Jx (P:=P) (w:=w) hK hk rfl g6
  have fin:∀(es':Array fN) (clock':Nat),(∀ty,(Builtin.delete_ #[T,T2] ty (#[m,k].map a.eval)).run P w= .ok (.tuple #[]) {w with heap:=w.heap.setIfInBounds pl.b (.map es' clock')})->Alike (CW (s.env w g β) kt vt) es'.toList (kg kt kx l0)->oh es'.toList clock'->
    fL P o a w (gT C ((s.aZ id (.obj ver aR (.mp kt vt (kg kt kx l)))).put o.dst .nil)):=λes' clock' pK auW aGe=>
   jB (F:=λty xs=>Builtin.delete_ #[T,T2] ty xs) dj (λ_ _ _=>rfl) pK ⟨g,β,(h.axO g1 g2 g4 g5 ⟨_,auW,Ux H4 gn gp⟩ (FG H4 gn) aGe aEd).put o.dst rfl⟩
  cases r with
  |none=>
   simp only at hr;refine fin es clock (λty=> ?_) (by simp only[kg,hr];exact g6) g7;simp[Builtin.delete_,run_underlying hT,g3,Go.MapKept.run_getObj_map g4,ayM,hf,Go.MapKept.run_setObj_map _ g4]
  |some u=>
   obtain⟨j,u⟩:=u;obtain⟨e,m1,m2,rfl⟩:=hr;refine fin (es.eraseIdxIfInBounds j) clock (λty=> ?_) ?_ (by rw[Array.toList_eraseIdxIfInBounds];exact g7.erase j)
   ·simp[Builtin.delete_,run_underlying hT,g3,Go.MapKept.run_getObj_map g4,ayM,hf,Go.MapKept.run_setObj_map _ g4]
   ·simp only[kg,m1,Array.toList_eraseIdxIfInBounds];exact g6.erase j
 ·simp only[aw]at he
theorem Yi{s:AS}{id:Id}{e:dU}{q:Nat}(hq:s.ez q=aT)(gj:s.bU id≠aJ):(s.aZ id e).ez q=aT:=by
 cases id with
 |bF k=>exact hq
 |new i j=>
  by_cases hi:i=q
  ·subst hi;exact absurd ((kq hq).1 j) gj
  ·unfold AS.ez AS.aZ;simp only[eF hi];exact hq
theorem VM(h:Inv C g β s a w){T:TypeId}{m:bK}(dj:o.op= .range T m){s':AS}(he:(OU P s o.dst T (s.ev m)).eval=ao s'):fL P o a w (gT C s'):=by
 unfold OU at he;split at he
 ·rename_i K V' kt vt id ver q hm hx hd;obtain⟨l,h1,he⟩:=ax.1 he;obtain⟨hq,he⟩:=aG.1 he;obtain rfl:=ay.1 he;rw[av]at hq;obtain⟨hT,_,_⟩:=AL hm;have TS:=h.ev m;rw[hx]at TS;obtain⟨fr,pl,es,clock,g1,g2,g3,g4,g5,g6,g7,gn⟩:=yf h h1 TS;obtain rfl:=Af g1 hq.1;have gj:s.bU id≠aJ:=by rw[g1];simp
  have aJk:=Trans.refl w g;have ajp:cU (s.env w g β) ((s.aZ id (.obj ver aT (.mp kt vt l))).env w g β):=cU.aZ g1 (aF _) aJk (λ_ _=>rfl) (λ_=>rfl)
  have i0:Inv C g β (s.aZ id (.obj ver aT (.mp kt vt l))) a w:=
   h.step (dr _ _ _) aJk ajp (iN.aZ h.bN gj ajp (λ_ _=>rfl) (λ_ _ _ _ _ _ _ _=>⟨rfl,rfl⟩) ⟨pl,es,clock,g2,g4,g5,⟨g6.mono ajp.mem,gn⟩,g7⟩ (L7 g1))
  have cP:=eK s id (.obj ver aT (.mp kt vt l)) gj;have hq':=Yi (e:= .obj ver aT (.mp kt vt l)) hq.2 gj;generalize aMg:s.aZ id (.obj ver aT (.mp kt vt l))=s0 at i0 cP hq' ajp;have Co:∀j,id≠ .new q j:=λj e=>by rw[e,(kq hq').1 j]at cP;cases cP
  have je:pl.b < w.heap.size:=(bO.1 g4).1;have ht:=Trans.alloc w g (.mapIter (ao pl.b) clock #[] clock) (.own (.id (.new q 0)) 0);obtain⟨h3,h4⟩:=i0.NV hq' (c:= .qo id (ver+1) kt vt l aJ) (p:=ao ⟨w.heap.size,0⟩) ht (λb hb=>⟨qv w _ hb,fC _ _ _ au⟩) (λhE=>
   ⟨⟨w.heap.size,0⟩,pl.b,clock,#[],clock,j7 _ _ _,sW w _,fH _ _ _,λvr ah3=>by
    obtain rfl:ver=vr:=au;have hb:(s0.env w g β).Eg id ver:=⟨by show s0.bU id≠aJ;rw[cP];simp,λv2 fr2 c2 h2=>by
     have h2:s0.bU id=ao (.obj v2 fr2 c2):=h2;rw[cP]at h2;simp only[az,dU.obj.injEq]at h2;omega⟩
    refine⟨hE.Eg _ _ hb,λ_=>⟨⟨kt,vt,l,?_⟩,pl,es,clock,?_,rfl,?_,?_,λx hx=>g7.2 x hx,⟨aF _,aF _⟩,g7.1,?_,λx hx=>by cases hx⟩⟩
    ·show(s0.born q _).bU id=_;rw[jc _ Co];exact cP
    ·show GW β (.new q 0) _ id=_;rw[Ag _ _ _ (Co 0)];exact g2
    ·exact(qv w _ je).trans g4
    ·show nu g w.heap.size _ pl.b=_;rw[fC _ _ _ au];exact g5
    ·have:es.toList.filter (λe=> !(#[]:Array Nat).contains e.born)=es.toList:=jt.2 λx _=>by simp
     rw[this];exact(g6.mono ajp.mem).mono hE.mem⟩)
  refine .inl ⟨.pointer (ao ⟨w.heap.size,0,aJ⟩),w.alloc (.mapIter (ao pl.b) clock #[] clock),?_,_,_,h3.put o.dst (v:= .ptr (.new q 0) 0 [] 0) ⟨[.pointer (ao ⟨w.heap.size,0,aJ⟩)],?_,rfl⟩⟩
  ·refine eu (f:=Instr.range T (a.eval m)) (by simp only[execOp,dj]) ?_
   rw[g3];exact run_range_map w T K V' pl.b es clock hT g4
  ·simp only[V];exact⟨_,rfl,pI hq' _ _ _ _,λ_=>⟨_,j7 _ _ _,rfl⟩⟩
 ·simp only[aw]at he
theorem adR{Γ:qi}(hΓ:Sound P Γ){bN:List Nat}(h:Inv C g β s a w){s':AS}(he:(pE P Γ bN o s).eval=ao s'):fL P o a w (gT C s'):=by
 unfold pE at he;split at he
 ·rename_i x dj;obtain rfl:=ay.1 he;exact Zk h (.inl dj)
 ·rename_i x dj;obtain rfl:=ay.1 he;exact Zk h (.inr dj)
 ·rename_i c x y dj;obtain⟨v,h1,h2⟩:=ax.1 he;obtain rfl:=ay.1 h2;exact aqL h dj h1
 ·rename_i T dj;split at he
  ·rename_i z q hz hq;obtain⟨h1,h2⟩:=aG.1 he;obtain rfl:=ay.1 h2;simp only[av]at h1;exact aie h dj h1.1 h1.2
  ·exact(aw.1 he).elim
 ·rename_i T x dj;exact atf h dj he
 ·rename_i T parts dj;exact aiH h dj he
 ·rename_i T n parts dj;exact Rn h dj he
 ·rename_i T x dj;obtain⟨v,h1,h2⟩:=ax.1 he;obtain rfl:=ay.1 h2;exact apX h dj h1
 ·rename_i T x v dj;obtain⟨v,h1,h2⟩:=ax.1 he;obtain rfl:=ay.1 h2;exact ale h dj h1
 ·rename_i x dj;exact XB h dj he
 ·rename_i op T x y U dj;split at he
  ·rename_i i v1 j v2 hx hy;obtain⟨v,h1,h2⟩:=ax.1 he;obtain rfl:=ay.1 h2;exact auv h dj hx hy h1
  ·obtain⟨v,h1,h2⟩:=ax.1 he;obtain rfl:=ay.1 h2;exact aip h dj h1
 ·rename_i op T x dj;obtain⟨v,h1,h2⟩:=ax.1 he;obtain rfl:=ay.1 h2;exact asf h dj h1
 ·rename_i T U x dj;split at he
  ·rename_i id ver len hTU hx;exact aiR h dj hx he
  ·rename_i id ver hx;obtain⟨v,h1,h2⟩:=ax.1 he;obtain rfl:=ay.1 h2;exact aiS h dj hx h1
  ·obtain⟨v,h1,h2⟩:=ax.1 he;obtain rfl:=ay.1 h2;exact aaI h dj h1
 ·rename_i T x dj;exact alp h dj he
 ·rename_i f first caps dj
  obtain⟨h1,h2⟩:=aG.1 he;obtain rfl:=ay.1 h2;simp only[av]at h1;exact Xv h dj h1.1 h1.2
 ·rename_i T l c dj;obtain⟨n,h1,h2⟩:=ax.1 he;obtain⟨m,h3,h4⟩:=ax.1 h2;exact Uq h dj h1 h3 h4
 ·rename_i T x lo hi dj;obtain⟨v,h1,h2⟩:=ax.1 he;obtain rfl:=ay.1 h2;exact Wf h dj (.inl rfl) h1
 ·rename_i T x lo y m dj;obtain⟨v',h0,h8⟩:=ax.1 he;obtain rfl:=ay.1 h8;obtain⟨hv,h1,h2⟩:=ax.1 h0;obtain⟨mv,h3,h4⟩:=ax.1 h2;obtain⟨h5,h6⟩:=bS.1 h4;obtain⟨v,h7,h9⟩:=ax.1 h6;obtain rfl:=ay.1 h9;simp only[aW]at h5;exact Wf h dj (.inr ⟨m,y,hv,mv,rfl,rfl,h1,h3,h5.1,h5.2.1,h5.2.2⟩) h7
 ·rename_i T x f dj;obtain⟨v,h1,h2⟩:=ax.1 he;obtain rfl:=ay.1 h2;exact TD h dj h1
 ·rename_i T x f dj;obtain⟨v,h1,h2⟩:=ax.1 he;obtain rfl:=ay.1 h2;exact aja h dj h1
 ·rename_i T x i dj;obtain⟨n,h0,he⟩:=ax.1 he;obtain⟨v,h1,h2⟩:=ax.1 he;obtain rfl:=ay.1 h2;exact TY h dj h0 h1
 ·rename_i T x i dj;obtain⟨n,h0,he⟩:=ax.1 he;obtain⟨v,h1,h2⟩:=ax.1 he;obtain rfl:=ay.1 h2;exact ajA h dj h0 h1
 ·rename_i x i dj;obtain⟨v,h1,h2⟩:=ax.1 he;obtain rfl:=ay.1 h2;exact abd h dj h1
 ·rename_i T dj;exact abU h dj he
 ·rename_i T x i ok dj;obtain⟨v,h1,h2⟩:=ax.1 he;obtain rfl:=ay.1 h2;exact afW h dj h1
 ·rename_i T m k x dj;obtain⟨s1,h1,h2⟩:=ax.1 he;obtain rfl:=ay.1 h2;exact af3 h dj h1
 ·rename_i T m dj;exact VM h dj he
 ·rename_i c dj;split at he
  ·rename_i hc;split at he
   ·rename_i m k T T2 ha ht;obtain⟨s1,h1,h2⟩:=ax.1 he;obtain rfl:=ay.1 h2;exact af1 h dj hc ha ht h1
   ·exact(aw.1 he).elim
  ·rename_i hc;split at he
   ·rename_i x y T X ha ht;exact aoR h dj hc ha ht he
   ·exact(aw.1 he).elim
  ·rename_i hc;split at he
   ·rename_i x T ha ht;obtain⟨v,h1,h2⟩:=ax.1 he;obtain rfl:=ay.1 h2;exact avC h dj hc ha ht h1
   ·exact(aw.1 he).elim
  ·rename_i hc;split at he
   ·rename_i x y T X ha ht;split at he
    ·rename_i k n hx hy;exact apt h dj hc ha ht hx hy he
    ·exact adS h dj hc ha ht he
   ·exact(aw.1 he).elim
  ·rename_i hc;split at he
   ·rename_i x T ha ht;split at he
    ·rename_i e hx hT;obtain rfl:=ay.1 he;exact atr h dj hc ha ht hx hT
    ·exact(aw.1 he).elim
   ·exact(aw.1 he).elim
  ·rename_i hc;obtain⟨v,h1,h2⟩:=ax.1 he;obtain rfl:=ay.1 h2;exact af6 (mx:=aT) h dj hc h1
  ·rename_i hc;obtain⟨v,h1,h2⟩:=ax.1 he;obtain rfl:=ay.1 h2;exact af6 (mx:=aR) h dj hc h1
  ·rename_i hc;split at he
   ·rename_i x ha;split at he
    ·rename_i id ver len hx;obtain⟨h1,h2⟩:=bS.1 he;obtain rfl:=ay.1 h2;exact aho h dj hc ha hx (by simpa using h1)
    ·exact(aw.1 he).elim
   ·exact(aw.1 he).elim
  ·rename_i hc;split at he
   ·rename_i x y T U ha ht;split at he
    ·rename_i id ver n hx hy;exact arZ h dj hc ha ht hx hy he
    ·exact(aw.1 he).elim
   ·exact(aw.1 he).elim
  ·rename_i F hc;split at he
   ·rename_i f caps hF;split at he
    ·rename_i en ajm;obtain⟨je,he⟩:=aG.1 he;exact aoD h dj hc hF ((hΓ f _ en ajm).1 je) he
    ·exact(aw.1 he).elim
   ·exact(aw.1 he).elim
  ·exact(aw.1 he).elim
 ·exact(aw.1 he).elim
end
end Go.Ab
namespace Go.Ab
def qt(P:aM)(ops:Array Oper)(o:Oper)(a:Act)(w:bW)(K:Act->bW->Prop):Prop:=if Region.wanted o (yielded ops a.tmps) then fL P o a w K else K (a.put o.dst undef) w
theorem qt.mono{P:aM}{ops:Array Oper}{o:Oper}{a:Act}{w:bW}{K K':Act->bW->Prop}(h:qt P ops o a w K)(hk:∀a w,K a w->K' a w):qt P ops o a w K':=by
 unfold qt at*;split
 ·rename_i hw;rw[if_pos hw]at h;exact h.mono hk
 ·rename_i hw;rw[if_neg hw]at h;exact hk _ _ h
theorem fL.some{P:aM}{o:Oper}{a:Act}{w:bW}{K:Act->bW->Prop}(h:fL P o a w K):∃a' w',K a' w':=by
 rcases h with⟨x,w',_,h⟩ | ⟨w',_,h⟩ | ⟨f,args,w',_,h⟩ | ⟨l,f,tmps,as,b,w',_,h⟩
 ·exact⟨_,_,h⟩
 ·exact⟨_,_,h⟩
 ·obtain⟨e,w'',_,⟨x,_,hx⟩,_⟩:=h [];exact⟨_,_,hx⟩
 ·obtain⟨e,w'',⟨x,_,hx⟩,_⟩:=(h aJ 0).2 default [] (room_wide _);exact⟨_,_,hx⟩
theorem qt.some{P:aM}{ops:Array Oper}{o:Oper}{a:Act}{w:bW}{K:Act->bW->Prop}(h:qt P ops o a w K):∃a' w',K a' w':=by
 unfold qt at h;split at h
 ·exact h.some
 ·exact⟨_,_,h⟩
theorem qt.wpListIn{r:Option Nat}{n:Nat}{P:aM}{ops:Array Oper}{o:Oper}{a:Act}{w:bW}{Q:Exit->Act->bW->Prop}{l:List Oper}(h:qt P ops o a w (wpListIn (Fr r) n P ops Q l)):Go.wpListIn (Fr r) n P ops Q (o::l) a w:=by
 unfold qt at h;unfold Go.wpListIn;split
 ·rename_i hw;rw[if_pos hw]at h;exact h.wpIn
 ·rename_i hw;rw[if_neg hw]at h;exact⟨λ_ _=>trivial,h⟩
theorem qt.wpOpIn{r:Option Nat}{n:Nat}{P:aM}{ops:Array Oper}{o:Oper}{i:Nat}{a:Act}{w:bW}{Q:Exit->Act->bW->Prop}{K:Act->bW->Prop}(ho:ops[i]? =Option.some o)(h:qt P ops o a w K):Go.wpOpIn (Fr r) n P ops Q i K a w:=by
 unfold qt at h;unfold Go.wpOpIn;simp only[ho];split
 ·rename_i hw;rw[if_pos hw]at h;exact h.wpIn
 ·rename_i hw;rw[if_neg hw]at h;exact⟨λ_ _=>trivial,h⟩
theorem axl{s:AS}{q:Nat}{v:aD}(h:s.slot q=v)(hq:q < s.ct.length):s.put (ao q) v=s:=by
 have hv:s.ct[q]=v:=by simpa[AS.slot,aI,hq]using h
 simp only[AS.put];rw[<-hv,gm]
theorem anx{s:AS}{q:Nat}{t:Ty}{x:t.den}(h:s.slot q= .d t x):q < s.ct.length:=by
 rcases pC q s.ct.length with h' | h'
 ·exact h'
 ·simp[AS.slot,aI,dP h']at h
def Hx(P:aM)(Γ:qi)(bN:List Nat)(ops:Array Oper)(o:Oper)(s:AS):Option AS:=
 match o.guard with
 |none=>(pE P Γ bN o s).eval
 |some (j,want)=>match(ops[j]?).bind (·.dst) with
  |some q=>match s.slot q with
   | .d .bool b=>if b=want then(pE P Γ bN o s).eval else ao (s.put o.dst .nil)
   | .nil=>ao (s.put o.dst .nil)
   |_=>aJ
  |none=>aJ
theorem afk{R:Type}{P:aM}{Γ:qi}{bN:List Nat}{ops:Array Oper}{o:Oper}{s:AS}{k:AS->Option R}{r:R}(h:azX P Γ bN ops o s k=ao r):∃s',Hx P Γ bN ops o s=ao s'/\k s'=ao r:=by
 unfold azX at h;unfold Hx;split at h
 ·rename_i hg;simp only[hg];exact gQ.1 h
 ·rename_i j want hg;simp only[hg];split at h
  ·rename_i q hq;simp only[hq];split at h
   ·rename_i b hb;have e:=axl hb (anx hb);simp only[hb];cases want <;> cases b <;> simp only[aS]at h <;> rw[e]at h
    ·obtain⟨s',h1,h2⟩:=gQ.1 h;exact⟨s',by simpa using h1,h2⟩
    ·exact⟨_,by simp,h⟩
    ·exact⟨_,by simp,h⟩
    ·obtain⟨s',h1,h2⟩:=gQ.1 h;exact⟨s',by simpa using h1,h2⟩
   ·rename_i hb;simp only[hb];exact⟨_,rfl,h⟩
   ·cases h
  ·cases h
section
variable {P:aM} {C:Ctx} {g:Nat->lY} {β:Id->Option Pl} {s:AS} {a:Act} {w:bW} {o:Oper}
theorem alC(h:Inv C g β s a w){ops:Array Oper}{j q:Nat}{b:Bool}(hq:(ops[j]?).bind (·.dst)=ao q)(hb:s.slot q= .d .bool b):yielded ops a.tmps j=ao b:=by
 have hv:=h.ct q;rw[hb]at hv;have hv:=RW hv;have hl:=anx hb;rw[<-h.size]at hl;unfold yielded;rw[hq,Option.bind_some];have:a.tmps[q]? =ao (.bool b):=by rw[fp hl];simpa[Array.getD,hl]using hv
 rw[this]
theorem ah1(h:Inv C g β s a w){ops:Array Oper}{j q:Nat}(hq:(ops[j]?).bind (·.dst)=ao q)(hb:s.slot q= .nil):yielded ops a.tmps j=aJ:=by
 have hv:=h.ct q;rw[hb]at hv;have hv:a.tmps.getD q undef= .tuple #[]:=hv;unfold yielded;rw[hq,Option.bind_some];split
 ·rename_i b hb;rw[cQ,hb]at hv;cases hv
 ·rfl
theorem Y4{Γ:qi}(hΓ:Sound P Γ){bN:List Nat}{ops:Array Oper}(h:gT C s a w){s':AS}(he:Hx P Γ bN ops o s=ao s'):qt P ops o a w (gT C s'):=by
 obtain⟨g,β,h⟩:=h;unfold Hx at he;unfold qt;split at he
 ·rename_i hg;have:Region.wanted o (yielded ops a.tmps)=aT:=by simp[Region.wanted,hg]
  rw[if_pos this];exact adR hΓ h he
 ·rename_i j want hg;split at he
  ·rename_i q hq;split at he
   ·rename_i b hb;have hy:=alC h hq hb;have hw:Region.wanted o (yielded ops a.tmps)=(b==want):=by simp[Region.wanted,hg,hy]
    rw[hw];by_cases e:b=want
    ·rw[if_pos e]at he;rw[if_pos (by simp[e])];exact adR hΓ h he
    ·rw[if_neg e]at he;rw[if_neg (by simp[e])];simp only[az]at he;subst he;exact⟨g,β,h.put o.dst rfl⟩
   ·rename_i hb;have hy:=ah1 h hq hb;have hw:Region.wanted o (yielded ops a.tmps)=aR:=by simp[Region.wanted,hg,hy]
    rw[hw,if_neg (by simp)];simp only[az]at he;subst he;exact⟨g,β,h.put o.dst rfl⟩
   ·cases he
  ·cases he
theorem arB{R:Type}{c c':uk}{x:Option R}{r:R}(h:same c c' x=ao r):c=c'/\x=ao r:=by
 unfold same at h;split at h
 ·exact⟨‹_›,h⟩
 ·cases h
theorem amQ{R:Type}{x y:Option R}{r:R}(h:nd x y=ao r):x=ao r/\y=ao r:=by
 unfold nd at h;split at h
 ·rename_i e;exact⟨h,e▸h⟩
 ·cases h
theorem aj3(h:Inv C g β s a w){x y:bK}{n:Nat}(hn:UU s x y=ao n){T:TypeId}(hT:xM.isSl P T=aT):∃b,(0 < n->b=aR)/\(Op.equal T (a.eval x) (a.eval y)).run P w= .ok b w/\
  rJ (a.eval x)=aR/\a.eval x≠ .nilIface/\∀op,binOp op T (a.eval x) (a.eval y)=(match op with | .eql=>do pure (.bool (<-Op.equal T (a.eval x) (a.eval y))) | .neq=>do pure (.bool (!(<-Op.equal T (a.eval x) (a.eval y)))) | _=>binOp op T (a.eval x) (a.eval y)):=by
 have hx:=h.ev x;have hy:=h.ev y;unfold xM.isSl at hT;split at hT <;> try (cases hT;done)
 rename_i e hU;unfold UU at hn;split at hn
 ·rename_i t l h1 h2;rw[h1]at hx;rw[h2]at hy;obtain⟨ad,cap,vs,hv,_,hs,_⟩:=tQ hx;have NJ:=lu hy;rw[hv,NJ];refine⟨ad.isNone,λhp=> ?_,?_,rfl,by simp,λop=>by cases op <;> rfl⟩
  ·obtain rfl:=aP hn;obtain⟨ad',rfl⟩:=bA.1 (hs hp);rfl
  ·cases ad with
   |none=>exact eH λd=>by simp[df,run_underlying hU]
   |some ad=>exact eH λd=>by simp[df,run_underlying hU]
 ·rename_i t l h1 h2;rw[h1]at hx;rw[h2]at hy;obtain⟨ad,cap,vs,hv,_,hs,_⟩:=tQ hy;have NJ:=lu hx;rw[hv,NJ];refine⟨ad.isNone,λhp=> ?_,?_,rfl,by simp,λop=>by cases op <;> rfl⟩
  ·obtain rfl:=aP hn;obtain⟨ad',rfl⟩:=bA.1 (hs hp);rfl
  ·exact eH λd=>by simp[df,run_underlying hU]
 ·rename_i id ver pp c i len h1 h2;rw[h1]at hx;rw[h2]at hy;obtain⟨ad,cap,hv,_,hs,_⟩:=qY hx;have NJ:=lu hy;rw[hv,NJ];refine⟨ad.isNone,λhp=> ?_,?_,rfl,by simp,λop=>by cases op <;> rfl⟩
  ·obtain rfl:=aP hn;obtain⟨ad',rfl⟩:=bA.1 (hs hp);rfl
  ·cases ad with
   |none=>exact eH λd=>by simp[df,run_underlying hU]
   |some ad=>exact eH λd=>by simp[df,run_underlying hU]
 ·rename_i id ver pp c i len h1 h2;rw[h1]at hx;rw[h2]at hy;obtain⟨ad,cap,hv,_,hs,_⟩:=qY hy;have NJ:=lu hx;rw[hv,NJ];refine⟨ad.isNone,λhp=> ?_,?_,rfl,by simp,λop=>by cases op <;> rfl⟩
  ·obtain rfl:=aP hn;obtain⟨ad',rfl⟩:=bA.1 (hs hp);rfl
  ·exact eH λd=>by simp[df,run_underlying hU]
 ·cases hn
theorem Mn(h:Inv C g β s a w){x y:bK}{n:Nat}{T U:TypeId}(hn:UU s x y=ao n)(hT:xM.isSl P T=aT):
  (o.op= .binOp .eql T x y U->∃b,(0 < n->b=aR)/\fL P o a w (gT C (s.put o.dst (.d .bool b))))/\(o.op= .binOp .neq T x y U->∃b,(0 < n->b=aT)/\fL P o a w (gT C (s.put o.dst (.d .bool b)))):=by
 obtain⟨b,h1,h2,h3,h4,h5⟩:=aj3 (w:=w) h hn hT;have hg:∀op,(eqGuard op T x y (a.eval x) (a.eval y)).run P w= .ok () w:=λop=>nH h4 h3
 refine⟨λho=>⟨b,h1,h.value (uQ b) ?_⟩,λho=>⟨!b,λhp=>by rw[h1 hp];rfl,h.value (uQ (!b)) ?_⟩⟩
 ·have h6:(binOp .eql T (a.eval x) (a.eval y)).run P w= .ok (.bool b) w:=by rw[h5 .eql];simp[h2]
  simp[execOp,ho,hg,h6]
 ·have h6:(binOp .neq T (a.eval x) (a.eval y)).run P w= .ok (.bool (!b)) w:=by rw[h5 .neq];simp[h2]
  simp[execOp,ho,hg,h6]
theorem Na{R:Type}{c:Bool}{x y:Option R}{r:R}(h:aS c x y=ao r):(c=aT/\x=ao r)\/(c=aR/\y=ao r):=by
 cases c
 ·exact .inr ⟨rfl,h⟩
 ·exact .inl ⟨rfl,h⟩
theorem auk{R:Type}{n:Nat}{k:Nat->Option R}{r:R}(h:adx n k=ao r):0 < n/\∀j,j < n->k j=ao r:=by
 unfold adx at h;split at h
 ·rename_i hx;obtain rfl:=aP h;exact hx.choose_spec
 ·cases h
theorem ai2{R:Type}{n:Nat}{k:Nat->Option R}{x:Option R}(hn:0 < n)(h:∀j,j < n->k j=x):adx n k=x:=by
 unfold adx;cases x with
 |none=>exact AA λ⟨r,_,hr⟩=>by have:=h 0 hn;rw[hr 0 hn]at this;cases this
 |some r=>
  have hx:∃r,0 < n/\∀j,j < n->k j=ao r:=⟨r,hn,h⟩;rw[xJ hx];have:=hx.choose_spec.2 0 hn;rw[h 0 hn]at this;exact this.symm
theorem Alike.len{α β:Type}{R:α->β->Prop}:∀ {xs:List α} {ys:List β},Alike R xs ys->xs.length=ys.length
 |[],[],_=>rfl
 |_::_,_::_,⟨_,h⟩=>by simp[h.len]
 |[],_::_,h=>h.elim
 |_::_,[],h=>h.elim
theorem akm{α:Type}:∀ {xs ys:List α} {i j:Nat} {x:α},xs.Perm ys->xs[i]? =ao x->ys[j]? =ao x->(xs.eraseIdx i).Perm (ys.eraseIdx j):=by
 have key:∀ {xs:List α} {i:Nat} {x:α},xs[i]? =ao x->xs.Perm (x::xs.eraseIdx i):=by
  intro xs
  induction xs with
  |nil=>intro i x h;simp at h
  |cons y xs ih=>
   intro i x h;cases i with
   |zero=>simp at h;subst h;exact oo _
   |succ i=>
    have h:xs[i]? =ao x:=by simpa using h
    exact((ih h).cons y).trans (List.Perm.swap x y _)
 intro xs ys i j x hp hi hj;exact((key hi).symm.trans (hp.trans (key hj))).cons_inv
theorem Ua(h:Inv C g β s a w){x:bK}{t:anT}(ht:s.avp (s.ev x)=ao t):
  s.bU t.i=ao (.obj t.v t.fr (.qo t.q (t.vr+1) t.kt t.vt t.rest t.cur))/\(∃k v l,s.bU t.q=ao (.obj t.vr aT (.mp k v l)))/\
  ∃pl plq since seen c0 es clock,a.eval x= .pointer (ao ⟨pl.b,0,aJ⟩)/\β t.i=ao pl/\w.heap[pl.b]? =ao (.mapIter (ao plq.b) since seen c0)/\g pl.b= .own (.id t.i) 0/\
   β t.q=ao plq/\w.heap[plq.b]? =ao (.map es clock)/\g plq.b= .own (.id t.q) 0/\(∀x∈es.toList,x.born < since)/\(since<=c0/\since<=clock)/\(es.toList.map (·.born)).Nodup/\
   aaj (s.env w g β) t.kt t.vt (es.toList.filter λe=> !seen.contains e.born) t.rest/\
   ∀x,t.cur=ao x->∃(e:fN) (seen':Array Nat),e∈es.toList/\seen=seen'.push e.born/\c0=clock/\CW (s.env w g β) t.kt t.vt e x:=by
 have TS:=h.ev x;generalize s.ev x=y at ht TS;unfold AS.avp at ht;split at ht
 ·rename_i i ver;split at ht
  ·rename_i v fr q vr kt vt rest cur kA;split at ht
   ·rename_i hv hl;obtain rfl:=aP ht;have hv:v=ver:=by simpa using hv
    subst hv;have cP:=dZ kA;unfold AS.afU at hl;split at hl
    ·rename_i v2 k2 t2 l2 aI8;have hl:v2=vr:=by simpa using hl
     subst hl;have hq:=dZ aI8;refine⟨cP,⟨_,_,_,hq⟩,?_⟩;obtain⟨pl,mb,since,seen,c0,h1,h2,h3,h4⟩:=h.bN i v fr _ cP;obtain⟨h5,h6⟩:=h4 v2 rfl;obtain⟨_,plq,es,clock,k1,k2,k3,k4,k5,k6,k7,k8,k9⟩:=h6 ⟨_,_,hq⟩;subst k2;obtain⟨ad,m1,m2,m3⟩:=tM TS;obtain⟨pl',m4,rfl⟩:=m3 ⟨_,_,cP⟩;have h1:β i=ao pl:=h1;have m4:β i=ao pl':=m4;rw[h1]at m4;obtain rfl:pl=pl':=by simpa using m4
     exact⟨pl,plq,since,seen,c0,es,clock,m1,h1,h2,h3,k1,k3,k4,k5,k6,k7,k8,k9⟩
    ·cases hl
   ·cases ht
  ·cases ht
 ·cases ht
theorem CW.aLW{E:Env}{kt vt:Ty}{e:fN}{x:kt.den×vt.den}(h:CW E kt vt e x):VS E (.cons (.d kt x.1) (.cons (.d vt x.2) .nil)) (.tuple #[e.key,e.val]):=by obtain⟨⟨c1,a1,b1⟩,c2,a2,b2⟩:=h;refine⟨[e.key,e.val],rfl,?_⟩;simp only[VC];exact⟨_,_,c1,rfl,by simpa only[V]using a1,b1,_,_,c2,rfl,by simpa only[V]using a2,b2,rfl⟩
theorem CW.aLX{E:Env}{kt vt:Ty}{e:fN}{x:kt.den×vt.den}(h:CW E kt vt e x):VS E (.cons (.d .bool aT) (.cons (.d kt x.1) (.cons (.d vt x.2) .nil))) (.tuple #[.bool aT,e.key,e.val]):=by obtain⟨⟨c1,a1,b1⟩,c2,a2,b2⟩:=h;refine⟨[.bool aT,e.key,e.val],rfl,?_⟩;simp only[VC];exact⟨_,_,[.bool aT],rfl,by simp only[V,cI],rfl,_,_,c1,rfl,by simpa only[V]using a1,b1,_,_,c2,rfl,by simpa only[V]using a2,b2,rfl⟩
theorem ai7(h:Inv C g β s a w){x:bK}(dj:o.op= .entry x){v:aD}(he:(ai6 s (s.ev x)).eval=ao v):fL P o a w (gT C (s.put o.dst v)):=by
 unfold ai6 at he;split at he
 ·rename_i i v0 fr q vr kt vt rest c ht;obtain rfl:=ay.1 he;obtain⟨_,_,pl,plq,since,seen,c0,es,clock,m1,m2,m3,_,m5,m6,m7,_,_,m10,_,m12⟩:=Ua h ht;obtain⟨e,seen',n1,rfl,rfl,n4⟩:=m12 c rfl;refine h.value n4.aLW (eu (f:=Instr.entry (a.eval x)) (by simp only[execOp,dj]) ?_);rw[m1];exact run_entry_at w pl.b plq.b since seen' es _ e m3 m6 n1 m10
 ·simp only[aw]at he
theorem heap_drew{w w1:bW}(hw:w1=w\/w1=w.drew):w1.heap=w.heap/\w1.os=w.os/\w1.tape=w.tape/\(w1.output=w.output/\w.drawn<=w1.drawn):=by
 rcases hw with rfl | rfl
 ·exact⟨rfl,rfl,rfl,rfl,aF _⟩
 ·exact⟨rfl,rfl,rfl,rfl,Nat.le_succ _⟩
theorem Inv.aHq(h:Inv C g β s a w){i q:Id}{v vr:Nat}{fr:Bool}{kt vt:Ty}{rest:List (kt.den×vt.den)}{cur:Option (kt.den×vt.den)}(cP:s.bU i=ao (.obj v fr (.qo q (vr+1) kt vt rest cur)))
  {k2 v2:Ty} {l2:List (k2.den×v2.den)} (hq:s.bU q=ao (.obj vr aT (.mp k2 v2 l2))) {pl plq:Pl} {m0:Option Nat} {since0 c00:Nat} {seen0:Array Nat} (hp:β i=ao pl) (hb:w.heap[pl.b]? =ao (.mapIter m0 since0 seen0 c00)) (hg:g pl.b= .own (.id i) 0)
  {w1:bW} (hw:w1=w\/w1=w.drew) {es:Array fN} {clock since c0:Nat} {seen:Array Nat} (aLw:β q=ao plq) (aDR:w.heap[plq.b]? =ao (.map es clock)) (aLf:g plq.b= .own (.id q) 0)
  (h1:∀x∈es.toList,x.born < since) (h2:since<=c0/\since<=clock) (h3:(es.toList.map (·.born)).Nodup) {rest':List (kt.den×vt.den)} {cur':Option (kt.den×vt.den)} (h4:aaj (s.env w g β) kt vt (es.toList.filter λe=> !seen.contains e.born) rest')
  (h5:∀x,cur'=ao x->∃(e:fN) (seen':Array Nat),e∈es.toList/\seen=seen'.push e.born/\c0=clock/\CW (s.env w g β) kt vt e x):
  Inv C g β (s.aZ i (.obj v fr (.qo q (vr+1) kt vt rest' cur'))) a (Go.ChangeMaps.setBlock w1 pl.b (.mapIter (ao plq.b) since seen c0))/\
   sU (s.env w g β) ((s.aZ i (.obj v fr (.qo q (vr+1) kt vt rest' cur'))).env (Go.ChangeMaps.setBlock w1 pl.b (.mapIter (ao plq.b) since seen c0)) g β):=by
 obtain⟨d1,d2,d3,d4⟩:=heap_drew hw;have je:pl.b < w.heap.size:=(bO.1 hb).1;have amr:(Go.ChangeMaps.setBlock w1 pl.b (.mapIter (ao plq.b) since seen c0)).heap=w.heap.setIfInBounds pl.b (.mapIter (ao plq.b) since seen c0):=by show w1.heap.setIfInBounds _ _=_;rw[d1]
 have aCw:(Go.ChangeMaps.setBlock w1 pl.b (.mapIter (ao plq.b) since seen c0)).os=w.os/\(Go.ChangeMaps.setBlock w1 pl.b (.mapIter (ao plq.b) since seen c0)).tape=w.tape/\((Go.ChangeMaps.setBlock w1 pl.b (.mapIter (ao plq.b) since seen c0)).output=w.output/\w.drawn<=(Go.ChangeMaps.setBlock w1 pl.b (.mapIter (ao plq.b) since seen c0)).drawn):=⟨d2,d3,d4⟩;generalize Go.ChangeMaps.setBlock w1 pl.b (.mapIter (ao plq.b) since seen c0)=w' at amr aCw;have hother:∀b',b'≠pl.b->w'.heap[b']? =w.heap[b']? :=λb' gj=>by rw[amr,ek,if_neg (λe=>gj e.symm)]
 have lj:w'.heap[pl.b]? =ao (.mapIter (ao plq.b) since seen c0):=by rw[amr,ek,if_pos rfl,if_pos je]
 have ht:Trans w w' g g:=by
  refine⟨aCw.1,aCw.2.1,aCw.2.2,by rw[amr];simp,λb' _=> ?_⟩;by_cases he:b'=pl.b
  ·subst he;rw[hg];exact⟨.inr ⟨i,0,rfl,aF _⟩,λ_ _ hh=>au⟩
  ·rw[hother b' he];cases Rt:g b' with
   |free=>exact⟨rfl,rfl⟩
   |own o' k=>cases o' with
    |eL=>exact⟨rfl,rfl⟩
    |id i'=>exact⟨.inr ⟨i',k,rfl,aF _⟩,λoff v _ hv=>by simpa only[eN,hother b' he]using hv⟩
 have hle:cU (s.env w g β) ((s.aZ i (.obj v fr (.qo q (vr+1) kt vt rest' cur'))).env w' g β):=cU.aZ cP (aF _) ht (λ_ _=>rfl) (λ_=>rfl);have aGQ:q≠i:=λe=>by rw[e,cP]at hq;cases hq
 have aLv:plq.b≠pl.b:=λe=>by rw[e,hb]at aDR;cases aDR
 refine⟨h.step (dr _ _ _) ht hle (iN.aZ h.bN (by rw[cP];simp) hle (λ_ _=>rfl) (λi' ver' fr' c' pl2 hi TQ Rv=>⟨hother _ (h.apart hg hi TQ Rv),rfl⟩) ?_ (pP cP λ_ _ _ e=>by cases e)),hle.mem⟩;refine⟨pl,plq.b,since,seen,c0,hp,lj,hg,λvr' ah3=> ?_⟩;obtain rfl:vr=vr':=au;have afp:(s.env w g β).Eg q vr:=⟨by show s.bU q≠aJ;rw[hq];simp,λv3 fr3 c3 h3=>by
  have h3:s.bU q=ao (.obj v3 fr3 c3):=h3;rw[hq]at h3;simp only[az,dU.obj.injEq]at h3;omega⟩
 refine⟨hle.Eg _ _ afp,λ_=>⟨⟨k2,v2,l2,?_⟩,plq,es,clock,aLw,rfl,(hother _ aLv).trans aDR,aLf,h1,h2,h3,h4.mono hle.mem,λx hx=> ?_⟩⟩
 ·show(s.aZ i _).bU q=_;rw[dd s i q _ aGQ];exact hq
 ·obtain⟨e,se,a1,a2,a3,a4⟩:=h5 x hx;exact⟨e,se,a1,a2,a3,a4.mono hle.mem⟩
theorem Inv.aCB(h:Inv C g β s a w){i q:Id}{v ver ver':Nat}{fr:Bool}{kt vt:Ty}{rest rest':List (kt.den×vt.den)}{cur cur':Option (kt.den×vt.den)}(cP:s.bU i=ao (.obj v fr (.qo q ver kt vt rest cur)))
  (hk:ver'=0\/(ver'=ver/\rest'=rest/\cur'=aJ)):Inv C g β (s.aZ i (.obj v fr (.qo q ver' kt vt rest' cur'))) a w:=by
 have ht:=Trans.refl w g;have hle:cU (s.env w g β) ((s.aZ i (.obj v fr (.qo q ver' kt vt rest' cur'))).env w g β):=cU.aZ cP (aF _) ht (λ_ _=>rfl) (λ_=>rfl);refine h.step (dr _ _ _) ht hle (iN.aZ h.bN (by rw[cP];simp) hle (λ_ _=>rfl) (λ_ _ _ _ _ _ _ _=>⟨rfl,rfl⟩) ?_ (pP cP λ_ _ _ e=>by cases e));obtain⟨pl,mb,since,seen,c0,h1,h2,h3,h4⟩:=h.bN i v fr _ cP;refine⟨pl,mb,since,seen,c0,h1,h2,h3,λvr ah3=> ?_⟩;rcases hk with hk | ⟨rfl,rfl,rfl⟩
 ·omega
 ·obtain⟨h5,h6⟩:=h4 vr ah3;refine⟨hle.Eg _ _ h5,λhc=> ?_⟩;obtain⟨c1,_⟩:=hle.cur _ _ h5 hc;obtain⟨⟨k,v1,l,hq⟩,plq,es,clock,k1,k2,k3,k4,k5,k6,k7,k8,_⟩:=h6 c1;have aGQ:q≠i:=λe=>by have hq:s.bU q=_:=hq;rw[e,cP]at hq;cases hq
  exact⟨⟨k,v1,l,by show(s.aZ i _).bU q=_;rw[dd s i q _ aGQ];exact hq⟩,plq,es,clock,k1,k2,k3,k4,k5,k6,k7,k8.mono hle.mem,λx hx=>by cases hx⟩
theorem akH{s:AS}{q i:Id}{e:dU}(h:s.VN q=aR)(hi:s.bU i=ao e):e.avq q=aR:=by
 unfold AS.VN at h;rw[Bool.or_eq_false_iff]at h;cases i with
 |bF k=>simpa using jl.1 h.1 _ (c7 hi)
 |new a b=>
  have hi:(s.news.getD a [])[b]? =ao e:=hi
  by_cases ha:a < s.news.length
  ·have h2:(s.news.getD a []).any (dU.avq q)=aR:=by simpa using jl.1 h.2 (s.news.getD a []) (by simp[aI,bQ ha])
   simpa using jl.1 h2 _ (c7 hi)
  ·simp[aI,dP (Nat.le_of_not_lt ha)]at hi
theorem Inv.unlock(h:Inv C g β s a w){q:Id}{vr:Nat}{k v:Ty}{l:List (k.den×v.den)}(cP:s.bU q=ao (.obj vr aT (.mp k v l)))(hr:s.VN q=aR):Inv C g β (s.aZ q (.obj vr aR (.mp k v l))) a w:=by
 have ht:=Trans.refl w g;have hle:cU (s.env w g β) ((s.aZ q (.obj vr aR (.mp k v l))).env w g β):=cU.aZ cP (aF _) ht (λ_ _=>rfl) (λ_=>rfl);refine h.step (dr _ _ _) ht hle λi ver fr c hi=> ?_
 have hi:(s.aZ q (.obj vr aR (.mp k v l))).bU i=ao (.obj ver fr c):=hi;by_cases aKw:i=q
 ·subst aKw;rw[eK s i _ (by rw[cP];simp)]at hi;simp only[az,dU.obj.injEq]at hi;obtain⟨rfl,rfl,rfl⟩:=hi;obtain⟨pl,es,clock,h1,h2,h3,h4,h5⟩:=h.bN i vr aT _ cP;exact⟨pl,es,clock,h1,h2,h3,⟨h4.1.mono hle.mem,h4.2⟩,h5⟩
 ·rw[dd s q i _ aKw]at hi;refine(h.bN i ver fr c hi).aCJ hle rfl (λ_ _=>⟨rfl,rfl⟩) λq2 v2 k2 v3 l2 hc Oi _=>⟨⟨k2,v3,l2,?_⟩,λ_ _=>⟨rfl,rfl⟩⟩
  obtain⟨kt,vt,rest,cu,rfl⟩:=hc;have hn:=akH hr hi;have gj:q2≠q:=λe=>by simp[dU.avq,e]at hn
  show(s.aZ q _).bU q2=_;rw[dd s q q2 _ gj];exact Oi
theorem ajI{es:List fN}{seen:Array Nat}(hn:(es.map (·.born)).Nodup){j:Nat}{e:fN}(hj:(es.filter λe=> !seen.contains e.born)[j]? =ao e):
  es.filter (λx=> !(seen.push e.born).contains x.born)=(es.filter λe=> !seen.contains e.born).eraseIdx j:=by
 have h1:es.filter (λx=> !(seen.push e.born).contains x.born)=(es.filter λe=> !seen.contains e.born).filter λx=>x.born !=e.born:=by
  rw[List.filter_filter];refine List.filter_congr λx _=> ?_
  rw[contains_push];cases seen.contains x.born <;> cases hb:x.born==e.born <;> simp[bne,hb]
 rw[h1];have aCs:((es.filter λe=> !seen.contains e.born).map (·.born)).Nodup:=hn.sublist (List.filter_sublist.map _);generalize es.filter (λe=> !seen.contains e.born)=L at hj aCs
 induction L generalizing j with
 |nil=>simp at hj
 |cons x L ih=>
  rw[cr,dm]at aCs;cases j with
  |zero=>
   simp only[fQ,az]at hj;subst hj;have:L.filter (λy=>y.born !=x.born)=L:=jt.2 λy hy=>by
    have:y.born≠x.born:=λe=>aCs.1 (e▸dO.2 ⟨y,hy,rfl⟩)
    simpa using this
   simp[this]
  |succ j=>
   have hj:L[j]? =ao e:=by simpa using hj
   have hx:(x.born !=e.born)=aT:=by
    have:x.born≠e.born:=λh=>aCs.1 (h▸dO.2 ⟨e,c7 hj,rfl⟩)
    simpa using this
   rw[List.filter_cons,hx,List.eraseIdx_cons_succ];simp only[cY];rw[ih hj aCs.2]
theorem aqk(h:Inv C g β s a w){x:bK}(dj:o.op= .next x aR){t:anT}(ht:s.avp (s.ev x)=ao t){R:Type}{k:AS->Option R}{r:R}(he:av5 s o.dst t k=ao r):
  fL P o a w λa' w'=>∃s',gT C s' a' w'/\k s'=ao r:=by
 obtain⟨hi,⟨k2,v2,l2,hq⟩,pl,plq,since,seen,c0,es,clock,m1,m2,m3,m4,m5,m6,m7,m8,m9,m10,m11,_⟩:=Ua h ht;have hex:∀ {y:Value} {w':bW},(Instr.next (a.eval x) aR o.type).run P w= .ok y w'->(execOp a.eval o).run P w= .ok (.value y) w':=λhr=>
  eu (f:=Instr.next (a.eval x) aR o.type) (by simp only[execOp,dj]) hr
 have R6:(leftOf es seen).toList=es.toList.filter λe=> !seen.contains e.born:=by unfold leftOf;rw[Array.toList_filter]
 obtain⟨l',m11,afs⟩:=m11;have hlen:=m11.len;rw[afs.length_eq]at hlen;rw[<-R6,cR]at hlen;unfold av5 at he;rcases run_next_at (P:=P) w o.type pl.b plq.b since c0 seen es clock m3 m6 m8 m9.1 with⟨h0,pK⟩ | ⟨e,aFr,w1,hw,pK⟩
 ·rcases Na he with⟨hc,_⟩ | ⟨_,he⟩
  ·have:0 < t.rest.length:=by simpa using hc
   omega
  ·unfold AS.aAX at he;have i1:=h.aCB (rest':=[]) (cur':=aJ) hi (.inl rfl);have aGQ:t.q≠t.i:=λe=>by rw[e,hi]at hq;simp at hq
   have aFx:(s.aZ t.i (.obj t.v t.fr (.qo t.q 0 t.kt t.vt [] aJ))).bU t.q=ao (.obj t.vr aT (.mp k2 v2 l2)):=by rw[dd s t.i t.q _ aGQ];exact hq
   generalize s.aZ t.i (.obj t.v t.fr (.qo t.q 0 t.kt t.vt [] aJ))=s1 at he i1 aFx;cases hr:s1.VN t.q with
   |true=>rw[hr]at he;cases he
   |false=>
    rw[hr]at he;simp only at he;have aLE:s1.unlock t.q=s1.aZ t.q (.obj t.vr aR (.mp k2 v2 l2)):=by simp only[AS.unlock,AS.obj,aFx]
    rw[aLE]at he;rw[<-m1]at pK;refine .inl ⟨_,w,hex pK,_,⟨g,β,(i1.unlock aFx hr).put o.dst (v:= .cons (.d .bool aR) .nil) ⟨[.bool aR],rfl,?_⟩⟩,he⟩;simp only[VC];exact⟨_,_,[.bool aR],rfl,by simp only[V,cI],rfl,rfl⟩
 ·rcases Na he with⟨hc,he⟩ | ⟨hc,_⟩
  ·obtain⟨_,hd⟩:=auk he;rw[R6]at aFr;obtain⟨i,az3⟩:=List.getElem?_of_mem aFr;obtain⟨y,aGZ,aFD⟩:=m11.get az3;obtain⟨j,hj⟩:=List.getElem?_of_mem (afs.mem_iff.1 (c7 aGZ));have aD1:j < t.rest.length:=(dN.1 hj).1;have hy:pR t.kt t.vt t.rest j=y:=by simp[pR,aI,hj]
   have vS:e∈es.toList:=(nv.1 aFr).1;have i1:=h.aHq (rest':=t.rest.eraseIdx j) (cur':=ao (pR t.kt t.vt t.rest j)) (since:=since) (c0:=clock) (seen:=seen.push e.born) hi hq m2 m3 m4 hw m5 m6 m7 m8 ⟨m9.2,m9.2⟩ m10 ?_ ?_
   rotate_left
   ·rw[ajI m10 az3];exact⟨_,m11.erase i,akm afs aGZ hj⟩
   ·intro z hz;obtain rfl:=aP hz;exact⟨e,seen,vS,rfl,rfl,by rw[hy];exact aFD⟩
   rw[<-m1]at pK;have hVS:=(hy▸aFD:CW (s.env w g β) t.kt t.vt e (pR t.kt t.vt t.rest j));refine .inl ⟨_,_,hex pK,_,⟨g,β,i1.1.put o.dst (v:= .cons (.d .bool aT) (.cons (.d t.kt (pR t.kt t.vt t.rest j).1) (.cons (.d t.vt (pR t.kt t.vt t.rest j).2) .nil))) ?_⟩,hd j aD1⟩;exact CW.aLX (hVS.mono i1.2)
  ·have hc:¬0 < t.rest.length:=by simpa using hc
   have:0 < (leftOf es seen).toList.length:=List.length_pos_of_mem aFr;rw[cR]at this;omega
theorem aps{Γ:qi}(hΓ:Sound P Γ){bN:List Nat}{ops:Array Oper}{R:Type}{k:AS->Option R}{r:R}(h:gT C s a w)(he:azY P Γ bN ops o s k=ao r):
  qt P ops o a w λa' w'=>∃s',gT C s' a' w'/\k s'=ao r:=by
 have plain:azX P Γ bN ops o s k=ao r->qt P ops o a w λa' w'=>∃s',gT C s' a' w'/\k s'=ao r:=λhe=>by obtain⟨s1,h1,h2⟩:=afk he;exact(Y4 hΓ h h1).mono λa' w' hs=>⟨s1,hs,h2⟩
 have stepK:∀(hg:o.guard=aJ),(fL P o a w λa' w'=>∃s',gT C s' a' w'/\k s'=ao r)->qt P ops o a w λa' w'=>∃s',gT C s' a' w'/\k s'=ao r:=λhg hr=>by
  unfold qt;have:Region.wanted o (yielded ops a.tmps)=aT:=by simp[Region.wanted,hg]
  rw[if_pos this];exact hr
 have step:∀(hg:o.guard=aJ) (b:Bool),fL P o a w (gT C (s.put o.dst (.d .bool b)))->k (s.put o.dst (.d .bool b))=ao r->qt P ops o a w λa' w'=>∃s',gT C s' a' w'/\k s'=ao r:=λhg b hr hk=>by
  unfold qt;have:Region.wanted o (yielded ops a.tmps)=aT:=by simp[Region.wanted,hg]
  rw[if_pos this];exact hr.mono λa' w' hs=>⟨_,hs,hk⟩
 unfold azY at he;split at he
 ·rename_i T x y U hg ho;split at he
  ·rename_i n hn hT;obtain⟨g,β,hi⟩:=h;obtain⟨b,hb,hr⟩:=(Mn (o:=o) (U:=U) hi hn hT).1 ho;refine step hg b hr ?_
   rcases Na he with⟨hc,hk⟩ | ⟨_,hk⟩
   ·rw[hb (by simpa using hc)];exact hk
   ·obtain⟨k1,k2⟩:=amQ hk;cases b
    ·exact k2
    ·exact k1
  ·exact plain he
 ·rename_i T x y U hg ho;split at he
  ·rename_i n hn hT;obtain⟨g,β,hi⟩:=h;obtain⟨b,hb,hr⟩:=(Mn (o:=o) (U:=U) hi hn hT).2 ho;refine step hg b hr ?_
   rcases Na he with⟨hc,hk⟩ | ⟨_,hk⟩
   ·rw[hb (by simpa using hc)];exact hk
   ·obtain⟨k1,k2⟩:=amQ hk;cases b
    ·exact k2
    ·exact k1
  ·exact plain he
 ·rename_i T m hg ho;obtain⟨s1,h1,h2⟩:=gQ.1 he;obtain⟨g,β,hi⟩:=h;exact stepK hg ((VM hi ho h1).mono λ_ _ hs=>⟨_,hs,h2⟩)
 ·rename_i x hg ho;obtain⟨s1,h1,h2⟩:=gQ.1 he;obtain⟨v,h3,h4⟩:=ax.1 h1;obtain rfl:=ay.1 h4;obtain⟨g,β,hi⟩:=h;exact stepK hg ((ai7 hi ho h3).mono λ_ _ hs=>⟨_,hs,h2⟩)
 ·rename_i x hg ho;split at he
  ·rename_i t ht;obtain⟨g,β,hi⟩:=h;exact stepK hg (aqk hi ho ht he)
  ·cases he
 ·rename_i c hg ho;split at he
  ·rename_i F hc;split at he
   ·rename_i id ver rc f hF;split at he
    ·rename_i en ajm;obtain⟨aH1,he⟩:=arB he;obtain⟨s1,h1,h2⟩:=gQ.1 he;obtain⟨g,β,hi⟩:=h;exact stepK hg ((alB hi ho hc hF aH1 (hΓ _ _ en ajm) h1).mono λ_ _ hs=>⟨_,hs,h2⟩)
    ·cases he
   ·split at he
    ·rename_i en vs hr;unfold aCT at hr;split at hr;rotate_left
     ·cases hr
     rename_i f caps hF;split at hr;rotate_left
     ·cases hr
     rename_i en' ajm;split at hr;rotate_left
     ·cases hr
     rename_i auY;rw[av]at auY;simp only[az,cK]at hr;obtain⟨rfl,rfl⟩:=hr;obtain⟨g,β,hi⟩:=h;exact stepK hg (aiM hi ho hc hF ((hΓ _ _ _ ajm).2.2 auY.2) he)
    ·exact plain he
  ·exact plain he
 ·exact plain he
theorem P2{rd:Option Nat}{n:Nat}{Γ:qi}(hΓ:Sound P Γ){bN:List Nat}{ops:Array Oper}{R:Type}{Q:Exit->Act->bW->Prop}:∀(l:List Oper) {s:AS} {a:Act} {w:bW} {k:AS->Option R} {r:R},gT C s a w->azZ P Γ bN ops l s k=ao r->
  (∀s' a' w',gT C s' a' w'->k s'=ao r->Q .normal a' w')->wpListIn (Fr rd) n P ops Q l a w
 |[],s,a,w,k,r,h,he,hk=>hk s a w h he
 |o::l,s,a,w,k,r,h,he,hk=>by have he:azY P Γ bN ops o s (λs'=>s'.seen λs'=>azZ P Γ bN ops l s' k)=ao r:=he;simp only[AS.M9]at he;exact((aps hΓ h he).mono λa' w' ⟨s',hs,h2⟩=>P2 hΓ l hs h2 hk).wpListIn
end
end Go.Ab
namespace Go.Ab
theorem AS.auy{s t:AS}(h1:s.ct=t.ct)(h2:s.news.length=t.news.length)(h3:∀id,s.bU id=t.bU id):s=t:=by
 obtain⟨a,b,c⟩:=s;obtain⟨a',b',c'⟩:=t;simp only at h1 h2;subst h1;have hb:b=b':=kT λk=>h3 (.bF k)
 subst hb;have hc:c=c':=by apply py h2;intro i h h';apply kT;intro j;have:=h3 (.new i j);simpa[AS.bU,aI,h,h']using this
 rw[hc]
def dU.adC:dU->dU->Prop
 | .obj v _ c,.obj v' _ c'=>v=v'/\c=c'
 | .dead,.dead=>True
 |_,_=>False
def yH:Option dU->Option dU->Prop
 |some a,ao b=>a.adC b
 |none,aJ=>True
 |_,_=>False
def dU.amn:dU->dU
 | .obj v _ c=> .obj v aT c
 | .dead=> .dead
theorem dU.axU(a:dU):a.adC a:=by cases a <;> simp[dU.adC]
theorem arE(a:Option dU):yH a a:=by cases a <;> simp[yH,dU.axU]
theorem arD(a:Option dU):yH (a.map dU.amn) a:=by
 cases a with
 |none=>trivial
 |some x=>cases x <;> simp[yH,dU.adC,dU.amn]
theorem dU.azU(a:dU):a.amn.amn=a.amn:=by cases a <;> rfl
structure mr(f:ER)(s t:AS):Prop where
 ct:∀i∈f.ct,t.slot i=s.slot i
 ws:∀id∈f.ws,t.bU id=s.bU id
 rs:∀id∈f.rs,yH (t.bU id) (s.bU id)
 ez:∀q,f.dst=ao q->t.ez q=s.ez q
structure aFj where
 v:aD
 up:Id->Option dU
 fz:List Id
structure App(d:Option Tmp)(E:aFj)(s s':AS):Prop where
 ct:s'.ct=(s.put d E.v).ct
 len:s'.news.length=s.news.length
 bU:∀id,s'.bU id=match E.up id with | some e=>ao e | none=>if id∈E.fz then(s.bU id).map dU.amn else s.bU id
theorem App.aDy{d:Option Tmp}{E:aFj}{s s1 s2:AS}(h1:App d E s s1)(h2:App d E s s2):s1=s2:=
 AS.auy (by rw[h1.ct,h2.ct]) (by rw[h1.len,h2.len]) λid=>by rw[h1.bU,h2.bU]
structure aam(f:ER)(s:AS)(E:aFj):Prop where
 up:∀id e,E.up id=ao e->(id∈f.ws/\s.bU id≠aJ)\/∃q j,f.dst=ao q/\id= .new q j
 fz:∀id∈E.fz,id∈f.rs
theorem JJ(s:AS)(id:Id)(e:dU):(s.aZ id e).news.length=s.news.length:=by cases id <;> simp[AS.aZ]
theorem Xm(s:AS)(id i:Id):(s.freeze id).bU i=if i=id then(s.bU i).map dU.amn else s.bU i:=by
 unfold AS.freeze;cases hs:s.bU id with
 |none=>
  by_cases hi:i=id
  ·subst hi;simp[hs]
  ·simp[hi]
 |some e=>
  cases e with
  |dead=>
   by_cases hi:i=id
   ·subst hi;simp[hs,dU.amn]
   ·simp[hi]
  |obj v fr c=>
   simp only;by_cases hi:i=id
   ·subst hi;rw[eK s i _ (by rw[hs];simp)];simp[hs,dU.amn]
   ·rw[dd s id i _ hi];simp[hi]
theorem fG(i:Id):∀(ids:List Id) (s:AS),(s.bt ids).bU i=if i∈ids then(s.bU i).map dU.amn else s.bU i
 |[],s=>by simp[AS.bt]
 |id::ids,s=>by
  rw[AS.bt,fG i ids,Xm];by_cases h1:i=id
  ·subst h1;by_cases h2:i∈ids
   ·simp[h2,Option.map_map,Function.comp_def,dU.azU]
   ·simp[h2]
  ·simp[h1]
theorem ajJ(s:AS)(id:Id):(s.freeze id).news.length=s.news.length:=by
 unfold AS.freeze;split
 ·exact JJ _ _ _
 ·rfl
theorem qA:∀(ids:List Id) (s:AS),(s.bt ids).news.length=s.news.length
 |[],_=>rfl
 |id::ids,s=>by rw[AS.bt,qA ids,ajJ]
theorem Ah{s:AS}{q:Nat}:s.ez q=aT↔q < s.news.length/\∀j,s.bU (.new q j)=aJ:=by
 refine⟨λh=>⟨(kq h).2,(kq h).1⟩,λ⟨h1,h2⟩=> ?_⟩;unfold AS.ez;rw[bQ h1];have h0:=h2 0;simp only[AS.bU,aI,bQ h1,dz]at h0;cases hh:s.news[q]with
 |nil=>rfl
 |cons x xs=>rw[hh]at h0;simp at h0
theorem App.Oe(d:Option Tmp)(v:aD)(ids:List Id)(s:AS):App d ⟨v,λ_=>aJ,ids⟩ s ((s.bt ids).put d v):=by
 refine⟨?_,?_,λid=> ?_⟩
 ·cases d <;> simp[AS.put,nF]
 ·cases d <;> simp[AS.put,qA]
 ·rw[Ha,fG]
theorem App.Hi(d:Option Tmp)(v:aD)(s:AS):App d ⟨v,λ_=>aJ,[]⟩ s (s.put d v):=App.Oe d v [] s
def NW(q:Nat)(es:List dU):Id->Option dU
 | .new i j=>if i=q then es[j]? else aJ
 | .bF _=>aJ
theorem aur(s:AS){q:Nat}(hq:q < s.news.length)(es:List dU)(id:Id):(s.born q es).bU id=match id with | .new i j=>if i=q then es[j]? else s.bU (.new i j) | .bF k=>s.bU (.bF k):=by
 cases id with
 |bF k=>rfl
 |new i j=>
  simp only;by_cases h:i=q
  ·subst h;rw[if_pos rfl];exact xL hq _ j
  ·rw[if_neg h];exact jc _ λj' e=>by simp only[Id.new.injEq]at e;exact h e.1
theorem App.al0{s:AS}{q:Nat}(hv:s.ez q=aT)(v:aD)(ids:List Id)(es:List dU):App (ao q) ⟨v,NW q es,ids⟩ s (((s.bt ids).born q es).put (ao q) v):=by
 obtain⟨h1,h2⟩:=Ah.1 hv;refine⟨?_,?_,λid=> ?_⟩
 ·simp[AS.put,nF]
 ·simp[AS.put,AS.born,qA]
 ·rw[Ha,aur _ (by rw[qA];exact h1)];cases id with
  |bF k=>simp only[NW];exact fG _ _ _
  |new i j=>
   simp only[NW];by_cases h:i=q
   ·subst h;rw[if_pos rfl];cases he:es[j]? with
    |none=>simp[h2]
    |some e=>simp
   ·rw[if_neg h];simp only[if_neg h];exact fG _ _ _
theorem App.axP{s:AS}{id:Id}{e0:dU}(hs:s.bU id=ao e0)(d:Option Tmp)(v:aD)(e:dU):App d ⟨v,λi=>if i=id then ao e else aJ,[]⟩ s ((s.aZ id e).put d v):=by
 refine⟨?_,?_,λi=> ?_⟩
 ·cases d <;> simp[AS.put]
 ·cases d <;> simp[AS.put,JJ]
 ·rw[Ha];by_cases hi:i=id
  ·subst hi;rw[eK s i _ (by rw[hs];simp)];simp
  ·rw[dd s id i _ hi];simp[hi]
section
variable {P:aM} {Γ:qi} {bN:List Nat} {ops:Array Oper} {o:Oper} {s t:AS}
def Kz(P:aM)(Γ:qi)(bN:List Nat)(ops:Array Oper)(o:Oper)(s s':AS):Prop:=∃E,App o.dst E s s'/\aam (gK Γ ops s o) s E/\∀t,mr (gK Γ ops s o) s t->∃t',(pE P Γ bN o t).eval=ao t'/\App o.dst E t t'
theorem Qm{xs:Array bK}{i:Nat}(h:Operand.tmp i∈xs.toList):i∈Si xs:=by unfold Si;exact List.mem_filterMap.2 ⟨_,h,rfl⟩
theorem mr.ev(h:mr (gK Γ ops s o) s t){x:bK}(hx:x∈o.op.operands.toList):t.ev x=s.ev x:=by
 cases x with
 |tmp i=>exact h.ct i (bC.2 (.inl (Qm hx)))
 |_=>rfl
theorem agl(v:Value):(ofConst v).ids=[]:=by unfold ofConst;split <;> rfl
theorem Zu{o:Oper}{x:Op}(h:o.op=x)(hx:Zj x=aR):Zj o.op=aR:=by rw[h];exact hx
theorem JD(hn:Zj o.op=aR){x:bK}(hx:x∈o.op.operands.toList){id:Id}(de:id∈(s.ev x).ids):id∈(gK Γ ops s o).rs:=by
 refine bC.2 (.inl ?_);unfold agn;rw[hn];cases x with
 |tmp i=>exact iL.2 ⟨i,Qm hx,de⟩
 |const v=>simp[AS.ev,agl]at de
 |global _=>simp[AS.ev,aD.ids]at de
 |func f=>simp[AS.ev,aD.ids]at de
theorem mr.adC(h:mr (gK Γ ops s o) s t)(hn:Zj o.op=aR){x:bK}(hx:x∈o.op.operands.toList){id:Id}(de:id∈(s.ev x).ids):yH (t.bU id) (s.bU id):=h.rs id (JD hn hx de)
theorem Nc{id:Id}(h:yH (t.bU id) (s.bU id)):(t.obj id=aJ/\s.obj id=aJ)\/∃v f f' c,t.obj id=ao (v,f,c)/\s.obj id=ao (v,f',c):=by
 unfold AS.obj
 revert h
 cases t.bU id with
 |none=>cases s.bU id with
  |none=>intro _;simp
  |some b=>intro h;exact h.elim
 |some a=>cases s.bU id with
  |none=>intro h;exact h.elim
  |some b=>cases a <;> cases b <;> intro h <;> first
    |exact h.elim
    | (left;exact⟨rfl,rfl⟩)
    | (obtain⟨rfl,rfl⟩:=h;right;exact⟨_,_,_,_,rfl,rfl⟩)
theorem O5{id:Id}(h:yH (t.bU id) (s.bU id))(ver:Nat)(p:List Hw):t.row id ver p=s.row id ver p:=by unfold AS.row;rcases Nc h with⟨h1,h2⟩ | ⟨v,f,f',c,h1,h2⟩ <;> rw[h1,h2]
theorem ph:∀(v:aD) (ty:Ty),(∀id∈v.ids,yH (t.bU id) (s.bU id))->t.iK ty v=s.iK ty v
 | .b8 id ver p c i len,ty,h=>by
  cases ty <;> first
   |rfl
   | (simp only[AS.iK];rw[O5 (h id (by simp[aD.ids]))])
 | .pr a b,ty,h=>by
  cases ty <;> first
   |rfl
   | (simp only[AS.iK];rw[ph a _ λid de=>h id (by simp[aD.ids,de]),ph b _ λid de=>h id (by simp[aD.ids,de])])
 | .undef,ty,_ | .gone,ty,_ | .dH,ty,_ | .kh,ty,_ | .vY,ty,_ | .By,ty,_ | .d _ _,ty,_ | .ptr ..,ty,_ | .eI ..,ty,_ | .fn ..,ty,_ | .cons ..,ty,_ | .nil,ty,_ | .vec ..,ty,_ | .bx ..,ty,_ | .cO ..,ty,_ | .mp ..,ty,_ | .qo ..,ty,_ | .yl ..,ty,_ | .yZ ..,ty,_ | .sb _,ty,_=>by cases ty <;> simp only[AS.iK]
theorem uJ:∀(v:aD),∀id∈v.shared,id∈v.ids
 | .b8 ..,id,h=>by simpa[aD.shared,aD.ids]using h
 | .pr a b,id,h=>by
  simp only[aD.shared,bC,aD.ids]at h ⊢;rcases h with h | h
  ·exact .inl (uJ a id h)
  ·exact .inr (uJ b id h)
 | .undef,_,h | .gone,_,h | .dH,_,h | .kh,_,h | .vY,_,h | .By,_,h | .d _ _,_,h | .ptr ..,_,h | .eI ..,_,h | .fn ..,_,h | .cons ..,_,h | .nil,_,h | .vec ..,_,h | .bx ..,_,h | .cO ..,_,h | .mp ..,_,h | .qo ..,_,h | .yl ..,_,h | .yZ ..,_,h | .sb _,_,h=>by simp[aD.shared]at h
theorem afT{T:TypeId}{x:aD}(h:∀id∈x.ids,yH (t.bU id) (s.bU id)):L8 P t T x=L8 P s T x:=by
 unfold L8;split
 ·rename_i id ver p n;rcases Nc (h id (by simp[aD.ids])) with⟨h1,h2⟩ | ⟨v,f,f',c,h1,h2⟩ <;> rw[h1,h2]
 ·rfl
 ·rfl
 ·rfl
 ·rfl
theorem aaw{n:Nat}{lo hi:Option bK}(hl:∀x,lo=ao x->t.ev x=s.ev x)(hh:∀x,hi=ao x->t.ev x=s.ev x):bounds t n lo hi=bounds s n lo hi:=by
 unfold bounds
 cases lo <;> cases hi <;> simp only[] <;> first
  |rfl
  | (rw[hl _ rfl,hh _ rfl])
  |rw[hl _ rfl]
  |rw[hh _ rfl]
theorem Nh{T:TypeId}{x:aD}{lo hi:Option bK}(h:∀id∈x.ids,yH (t.bU id) (s.bU id))(hl:∀x,lo=ao x->t.ev x=s.ev x)(hh:∀x,hi=ao x->t.ev x=s.ev x):
  Gn P t T x lo hi=Gn P s T x lo hi:=by
 have hb:∀n,bounds t n lo hi=bounds s n lo hi:=λn=>aaw hl hh
 unfold Gn
 split <;> first
  |rfl
  | (rw[O5 (h _ (by simp[aD.ids]))];simp only[hb];done)
  | (simp only[hb];done)
theorem XY{T:TypeId}{x:aD}{lo:Option bK}{y m:bK}(h:∀id∈x.ids,yH (t.bU id) (s.bU id))(hl:∀x,lo=ao x->t.ev x=s.ev x)(hh:t.ev y=s.ev y)(hm:t.ev m=s.ev m):
  Ng P t T x lo y m=Ng P s T x lo y m:=by
 unfold Ng;rw[hh,hm,Nh h hl λz hz=>by obtain rfl:=aP hz;exact hh]
theorem Ot{T:TypeId}{x:aD}{i:Int}(h:∀id∈x.ids,yH (t.bU id) (s.bU id)):rI P t T x i=rI P s T x i:=by
 unfold rI
 split <;> first
  |rfl
  |rw[O5 (h _ (by simp[aD.ids]))]
theorem aev{obj:Bool}{src dst:TypeId}{x:aD}(h:∀id∈x.ids,yH (t.bU id) (s.bU id)):YJ P t obj src dst x=YJ P s obj src dst x:=by
 unfold YJ;split
 ·rfl
 ·unfold atN
  split <;> first
   |rfl
   | (simp only[AS.akk,ph _ _ h])
theorem apb{T:TypeId}{op:BinOp}{i:Id}{v:Nat}{j:Id}{w:Nat}(h:yH (t.bU i) (s.bU i)):aFn P t T op i v j w=aFn P s T op i v j w:=by unfold aFn;rcases Nc h with⟨h1,h2⟩ | ⟨v,f,f',c,h1,h2⟩ <;> rw[h1,h2]
theorem aex{src dst:TypeId}{id:Id}{ver:Nat}(h:yH (t.bU id) (s.bU id)):YK P t src dst id ver=YK P s src dst id ver:=by
 unfold YK;rcases Nc h with⟨h1,h2⟩ | ⟨v,f,f',c,h1,h2⟩
 ·rw[h1,h2]
 ·rw[h1,h2]
  cases c <;> first
   |rfl
   | (rename_i e z c;cases z <;> rfl)
theorem zX{ty:Ty}:∀(ps:List (Nat×bK)) (l:List ty.den),(∀x∈ps,t.ev x.2=s.ev x.2/\∀id∈(s.ev x.2).ids,yH (t.bU id) (s.bU id))->jv ty t ps l=jv ty s ps l
 |[],_,_=>rfl
 | (i,x)::ps,l,h=>by obtain⟨h1,h2⟩:=h (i,x) (aK ..);simp only[jv];simp only at h1 h2;rw[h1,ph _ _ h2];congr 2;funext y;rw[zX ps _ λz hz=>h z (aL _ hz)]
theorem wN{ty:Ty}:∀(ps:List (Nat×bK)) (l:List ty.den) (r:List ty.den×List Id),(jv ty s ps l).eval=ao r->∀id∈r.2,∃x∈ps,id∈(s.ev x.2).ids
 |[],l,r,h,id,de=>by obtain rfl:=ay.1 h;cases de
 | (i,x)::ps,l,r,h,id,de=>by
  simp only[jv]at h;obtain⟨h1,h2⟩:=aG.1 h;obtain⟨y,h3,h4⟩:=ax.1 h2;obtain⟨r',h5,h6⟩:=ax.1 h4;obtain rfl:=ay.1 h6;rcases bC.1 de with de | de
  ·exact⟨(i,x),aK ..,uJ _ _ de⟩
  ·obtain⟨z,hz,LQ⟩:=wN ps _ r' h5 id de;exact⟨z,aL _ hz,LQ⟩
theorem Eu{fs:Array Field}:∀(ps:List (Nat×bK)) (v:aD),(∀x∈ps,t.ev x.2=s.ev x.2)->pY P fs t ps v=pY P fs s ps v
 |[],_,_=>rfl
 | (i,x)::ps,v,h=>by
  have h1:=h (i,x) (aK ..);simp only at h1;simp only[pY,h1];have ih:∀v,pY P fs t ps v=pY P fs s ps v:=λv=>Eu ps v λz hz=>h z (aL _ hz)
  simp only[ih]
theorem KX:∀(l:List bK),(∀x∈l,t.ev x=s.ev x)->rB t l=rB s l
 |[],_=>rfl
 |x::l,h=>by simp only[rB];rw[h x (aK ..),KX l λy hy=>h y (aL _ hy)]
theorem Qr{ty:Ty}{X:TypeId}{x:aD}(h:∀id∈x.ids,yH (t.bU id) (s.bU id)):FF P t ty X x=FF P s ty X x:=by
 unfold FF;split
 ·rfl
 ·simp only[AS.akk,ph _ _ h]
theorem lp{v:aD}(h:∀t,mr (gK Γ ops s o) s t->(pE P Γ bN o t).eval=ao (t.put o.dst v)):Kz P Γ bN ops o s (s.put o.dst v):=
 ⟨⟨v,λ_=>aJ,[]⟩,App.Hi _ _ _,⟨λ_ _ h=>by simp at h,λ_ h=>by simp at h⟩,λt ht=>⟨_,h t ht,App.Hi _ _ _⟩⟩
theorem nY{F:AS->Out aD}(ho:∀t,pE P Γ bN o t=(F t).bind λv=> .ok (t.put o.dst v))(hF:∀t,mr (gK Γ ops s o) s t->F t=F s){s':AS}(he:(pE P Γ bN o s).eval=ao s'):Kz P Γ bN ops o s s':=by
 rw[ho]at he;obtain⟨v,h1,h2⟩:=ax.1 he;obtain rfl:=ay.1 h2;refine lp λt ht=> ?_
 rw[ho,hF t ht,ax];exact⟨v,h1,rfl⟩
theorem Sb{v:aD}{ids:List Id}(hi:∀id∈ids,id∈(gK Γ ops s o).rs)(h:∀t,mr (gK Γ ops s o) s t->(pE P Γ bN o t).eval=ao ((t.bt ids).put o.dst v)):Kz P Γ bN ops o s ((s.bt ids).put o.dst v):=
 ⟨⟨v,λ_=>aJ,ids⟩,App.Oe _ _ _ _,⟨λ_ _ h=>by simp at h,hi⟩,λt ht=>⟨_,h t ht,App.Oe _ _ _ _⟩⟩
theorem vV{v:aD}{ids:List Id}{q:Nat}{es:List dU}(hd:o.dst=ao q)(hv:s.ez q=aT)(hi:∀id∈ids,id∈(gK Γ ops s o).rs)
  (h:∀t,mr (gK Γ ops s o) s t->t.ez q=aT->(pE P Γ bN o t).eval=ao (((t.bt ids).born q es).put o.dst v)):Kz P Γ bN ops o s (((s.bt ids).born q es).put o.dst v):=by
 refine⟨⟨v,NW q es,ids⟩,by rw[hd];exact App.al0 hv _ _ _,⟨λid e h=> .inr ?_,hi⟩,λt ht=> ?_⟩
 ·cases id with
  |bF _=>simp[NW]at h
  |new i j=>
   simp only[NW]at h;split at h
   ·rename_i hq;exact⟨q,j,hd,by rw[hq]⟩
   ·cases h
 ·have hv':t.ez q=aT:=by rw[ht.ez q hd];exact hv
  exact⟨_,h t ht hv',by rw[hd];exact App.al0 hv' _ _ _⟩
theorem Dw{v:aD}{id:Id}{e0 e:dU}(hs:s.bU id=ao e0)(hw:id∈(gK Γ ops s o).ws)(h:∀t,mr (gK Γ ops s o) s t->t.bU id=s.bU id->(pE P Γ bN o t).eval=ao ((t.aZ id e).put o.dst v)):
  Kz P Γ bN ops o s ((s.aZ id e).put o.dst v):=by
 refine⟨⟨v,λi=>if i=id then ao e else aJ,[]⟩,App.axP hs _ _ _,⟨λi e' h=> .inl ?_,λ_ h=>by simp at h⟩,λt ht=> ?_⟩
 ·simp only at h;split at h
  ·rename_i hi;subst hi;exact⟨hw,by rw[hs];simp⟩
  ·cases h
 ·have:=ht.ws id hw;exact⟨_,h t ht this,App.axP (this.trans hs) _ _ _⟩
end
end Go.Ab
namespace Go.Ab
section
variable {P:aM} {Γ:qi} {bN:List Nat} {ops:Array Oper} {o:Oper} {s t:AS}
theorem acU{T:TypeId}{x v:aD}{s':AS}(h:(Gq P s T x v).eval=ao s'):
  ∃id e0 e,x.ids=[id]/\s.bU id=ao e0/\s'=s.aZ id e/\∀t:AS,t.bU id=s.bU id->(Gq P t T x v).eval=ao (t.aZ id e):=by
 unfold Gq at h;split at h
 ·rename_i id ver p n;cases kA:s.obj id with
  |none=>rw[kA]at h;simp only[aw]at h
  |some r=>
   obtain⟨ve,fr,c⟩:=r;rw[kA]at h;obtain⟨h1,h2⟩:=aG.1 h;obtain⟨r,h3,h4⟩:=ax.1 h2;obtain⟨h5,h6⟩:=aG.1 h4;obtain⟨h7,h8⟩:=bS.1 h6;obtain⟨c',h9,aF5⟩:=ax.1 h8;obtain rfl:=ay.1 aF5;refine⟨id,_,_,rfl,dZ kA,rfl,λt ht=> ?_⟩;have hob':t.obj id=ao (ve,fr,c):=by simp only[AS.obj,ht];exact kA
   unfold Gq;simp only[hob'];exact aG.2 ⟨h1,ax.2 ⟨r,h3,aG.2 ⟨h5,bS.2 ⟨h7,ax.2 ⟨c',h9,ay.2 rfl⟩⟩⟩⟩⟩
 ·simp only[aw]at h
theorem aiT{c:Call}{x y:bK}{T X:TypeId}(dj:o.op= .call c)(hc:c.callee= .builtin .copy)(ha:c.args.toList=[x,y])(ht:c.argTypes.toList=[T,X]){s':AS}
  (he:(S6 P s o.dst T X (s.ev x) (s.ev y)).eval=ao s'):Kz P Γ bN ops o s s':=by
 have Y8:∀t:AS,pE P Γ bN o t=S6 P t o.dst T X (t.ev x) (t.ev y):=λt=>by unfold pE;rw[dj];simp only[hc,ha,ht]
 have tn:∀z,z=x\/z=y->z∈o.op.operands.toList:=λz hz=>by rw[dj];simp only[bY,ej,hc,aY,bZ,ha];simpa using hz
 have hx:∀t,mr (gK Γ ops s o) s t->t.ev x=s.ev x:=λt h=>h.ev (tn x (.inl rfl))
 have hy:∀t,mr (gK Γ ops s o) s t->t.ev y=s.ev y:=λt h=>h.ev (tn y (.inr rfl))
 have hm:∀t,mr (gK Γ ops s o) s t->∀ty,FF P t ty X (s.ev y)=FF P s ty X (s.ev y):=λt h ty=>Qr λid de=>h.adC (Zu dj rfl) (tn y (.inr rfl)) de
 unfold S6 at he;split at he
 ·rename_i e t b id ver len Hz ah4;obtain⟨m,h1,he⟩:=ax.1 he;split at he
  ·rename_i ve n t' l kA;obtain⟨h2,EP⟩:=aG.1 he;obtain⟨l',h3,Xa⟩:=ax.1 EP;obtain⟨h4,aFq⟩:=bS.1 Xa;obtain rfl:=ay.1 aFq;have hw:id∈(gK Γ ops s o).ws:=by show id∈writes Γ s o;unfold writes;rw[dj];simp only[hc,ha,ah4];simp[aD.ids]
   refine Dw (dZ kA) hw λt ht afA=> ?_
   rw[Y8 t,hx t ht,hy t ht];have hob':t.obj id=ao (ve,aR,.d (.arr n t') l):=by simp only[AS.obj,afA];exact kA
   unfold S6;simp only[Hz,ah4];refine ax.2 ⟨m,by rw[hm t ht];exact h1,?_⟩;simp only[hob'];exact aG.2 ⟨h2,ax.2 ⟨l',h3,bS.2 ⟨h4,ay.2 rfl⟩⟩⟩
  ·exact(aw.1 he).elim
 ·exact(aw.1 he).elim
theorem aap{c:Call}{x y:bK}{T X:TypeId}(dj:o.op= .call c)(hc:c.callee= .builtin .append)(ha:c.args.toList=[x,y])(ht:c.argTypes.toList=[T,X])(gj:∀k n,s.ev x= .dH->s.ev y= .d (.int k) n->False){s':AS}
  (he:(w9 P s (apK bN o.dst) (ajB bN o.dst) o.dst T X (s.ev x) (s.ev y)).eval=ao s'):Kz P Γ bN ops o s s':=by
 have Y8:∀t:AS,t.ev x=s.ev x->t.ev y=s.ev y->pE P Γ bN o t=w9 P t (apK bN o.dst) (ajB bN o.dst) o.dst T X (t.ev x) (t.ev y):=λt e1 e2=>by
  unfold pE;rw[dj];simp only[hc,ha,ht];split
  ·rename_i k n hx hy;rw[e1]at hx;rw[e2]at hy;exact(gj k n hx hy).elim
  ·rfl
 have tn:∀z,z=x\/z=y->z∈o.op.operands.toList:=λz hz=>by rw[dj];simp only[bY,ej,hc,aY,bZ,ha];simpa using hz
 have hx:∀t,mr (gK Γ ops s o) s t->t.ev x=s.ev x:=λt h=>h.ev (tn x (.inl rfl))
 have hy:∀t,mr (gK Γ ops s o) s t->t.ev y=s.ev y:=λt h=>h.ev (tn y (.inr rfl))
 have hm:∀t,mr (gK Γ ops s o) s t->∀ty,FF P t ty X (s.ev y)=FF P s ty X (s.ev y):=λt h ty=>Qr λid de=>h.adC (Zu dj rfl) (tn y (.inr rfl)) de
 unfold w9 at he;split at he
 ·rename_i e ty b q Hz hd;obtain⟨m,h1,h2⟩:=ax.1 he;split at h2
  ·rename_i aGL;cases aFp:ajB bN o.dst with
   |true=>
    rw[aFp]at h2;simp only at h2;obtain⟨h5,h6⟩:=bS.1 h2;obtain rfl:=ay.1 h6;refine lp λt ht=> ?_
    rw[Y8 t (hx t ht) (hy t ht),hx t ht,hy t ht];unfold w9;simp only[hd]at aFp Hz ⊢;simp only[Hz,aGL,aFp];refine ax.2 ⟨m,by rw[hm t ht];exact h1,?_⟩;exact bS.2 ⟨h5,ay.2 rfl⟩
   |false=>
   rw[aFp]at h2;simp only at h2;obtain⟨h3,h4⟩:=aG.1 h2;obtain⟨h5,h6⟩:=bS.1 h4;obtain rfl:=ay.1 h6;refine vV (ids:=[]) hd h3 (λ_ h=>by cases h) λt ht hv=> ?_
   rw[Y8 t (hx t ht) (hy t ht),hx t ht,hy t ht];unfold w9;simp only[hd]at aFp Hz ⊢;simp only[Hz,aGL,aFp];refine ax.2 ⟨m,by rw[hm t ht];exact h1,?_⟩;exact aG.2 ⟨hv,bS.2 ⟨h5,ay.2 rfl⟩⟩
  ·rename_i id ver len aGL;split at h2
   ·rename_i v fr e' t' l kA;obtain⟨h3,h4⟩:=aG.1 h2;obtain⟨l',h5,h6⟩:=ax.1 h4;obtain⟨h7,h8⟩:=bS.1 h6;obtain⟨h9,aF5⟩:=bS.1 h8;obtain⟨aK2,aso⟩:=bS.1 aF5;obtain rfl:=ay.1 aso;have hw:id∈(gK Γ ops s o).ws:=by show id∈writes Γ s o;unfold writes;rw[dj];simp only[hc,ha,aGL];simp[aD.ids]
    refine Dw (dZ kA) hw λt ht afA=> ?_
    rw[Y8 t (hx t ht) (hy t ht),hx t ht,hy t ht];have hob':t.obj id=ao (v,fr,.vec e' t' l):=by simp only[AS.obj,afA];exact kA
    unfold w9;simp only[hd]at Hz ⊢;simp only[Hz,aGL];refine ax.2 ⟨m,by rw[hm t ht];exact h1,?_⟩;simp only[hob'];exact aG.2 ⟨h3,ax.2 ⟨l',h5,bS.2 ⟨h7,bS.2 ⟨h9,bS.2 ⟨aK2,ay.2 rfl⟩⟩⟩⟩⟩
   ·simp only[aw]at h2
  ·simp only[aw]at h2
 ·simp only[aw]at he
theorem OV:∀(n:Nat) (todo acc:List Id),∀id∈acc,id∈s.reach n todo acc
 | 0,_,_,id,h=>h
 |_+1,[],_,id,h=>h
 |n+1,x::todo,acc,id,h=>by
  rw[AS.reach];split
  ·exact OV n todo acc id h
  ·exact OV n _ _ id (bC.2 (.inl h))
theorem wg:∀(n:Nat) (todo acc:List Id),(∀id∈s.reach n todo acc,((t.bU id).getD .dead).ids=((s.bU id).getD .dead).ids)->t.reach n todo acc=s.reach n todo acc
 | 0,_,_,_=>rfl
 |_+1,[],_,_=>rfl
 |n+1,x::todo,acc,h=>by
  rw[AS.reach]at h;rw[AS.reach,AS.reach];split
  ·rename_i hc;rw[if_pos hc]at h;exact wg n todo acc h
  ·rename_i hc;rw[if_neg hc]at h;have hx:=h x (OV n _ _ x (bC.2 (.inr (bw.2 rfl))));rw[hx];exact wg n _ _ h
theorem aAn(e:Option dU):((e.map dU.amn).getD .dead).ids=(e.getD .dead).ids:=by
 cases e with
 |none=>rfl
 |some x=>cases x <;> rfl
theorem RK(ids:List Id)(n:Nat)(todo acc:List Id):(s.bt ids).reach n todo acc=s.reach n todo acc:=by
 refine wg n todo acc λid _=> ?_
 rw[fG];split
 ·exact aAn _
 ·rfl
theorem Ja:∀(ps:List (Option Ty)) (vs:List aD),(∀v∈vs,∀id∈v.ids,yH (t.bU id) (s.bU id))->t.conv ps vs=s.conv ps vs
 |[],[],_=>rfl
 |[],_::_,_=>rfl
 |some _::_,[],_=>rfl
 |none::_,[],_=>rfl
 |some ty::ps,v::vs,h=>by simp only[AS.conv];rw[ph v ty (h v (aK ..)),Ja ps vs λx hx=>h x (aL _ hx)]
 |none::ps,v::vs,h=>by simp only[AS.conv];rw[Ja ps vs λx hx=>h x (aL _ hx)]
theorem Jb:∀(ps:List (Option Ty)) (vs:List aD) (r:List aD×List Id),(s.conv ps vs).eval=ao r->r.1.flatMap aD.ids=u6 ps vs/\∀id∈r.2,∃v∈vs,id∈v.ids
 |[],[],r,h=>by simp only[AS.conv,ay]at h;subst h;exact⟨rfl,λ_ h=>by cases h⟩
 |some ty::ps,v::vs,r,h=>by
  simp only[AS.conv]at h;obtain⟨x,h1,h2⟩:=ax.1 h;obtain⟨r',h3,h4⟩:=ax.1 h2;obtain rfl:=ay.1 h4;obtain⟨i1,i2⟩:=Jb ps vs r' h3;refine⟨by simp[u6,i1,aD.ids],λid de=> ?_⟩;rcases bC.1 de with de | de
  ·exact⟨v,aK ..,uJ v id de⟩
  ·obtain⟨u,hu,adA⟩:=i2 id de;exact⟨u,aL _ hu,adA⟩
 |none::ps,v::vs,r,h=>by simp only[AS.conv]at h;obtain⟨r',h3,h4⟩:=ax.1 h;obtain rfl:=ay.1 h4;obtain⟨i1,i2⟩:=Jb ps vs r' h3;refine⟨by simp[u6,i1],λid de=> ?_⟩;obtain⟨u,hu,adA⟩:=i2 id de;exact⟨u,aL _ hu,adA⟩
 |[],_::_,_,h=>by simp only[AS.conv,aw]at h
 |some _::_,[],_,h=>by simp only[AS.conv,aw]at h
 |none::_,[],_,h=>by simp only[AS.conv,aw]at h
theorem afS:∀(c:aD),∀v∈c.list,∀id∈v.ids,id∈c.ids
 | .cons a b,v,hv,id,de=>by
  simp only[aD.list,cj]at hv;simp only[aD.ids,bC];rcases hv with rfl | hv
  ·exact .inl de
  ·exact .inr (afS b v hv id de)
 | .sb _,_,h,_,_ | .undef,_,h,_,_ | .gone,_,h,_,_ | .dH,_,h,_,_ | .kh,_,h,_,_ | .vY,_,h,_,_ | .By,_,h,_,_ | .d _ _,_,h,_,_ | .ptr ..,_,h,_,_ | .eI ..,_,h,_,_
 | .fn ..,_,h,_,_ | .pr ..,_,h,_,_ | .nil,_,h,_,_ | .vec ..,_,h,_,_ | .bx ..,_,h,_,_ | .cO ..,_,h,_,_ | .mp ..,_,h,_,_ | .qo ..,_,h,_,_ | .yl ..,_,h,_,_ | .yZ ..,_,h,_,_ | .b8 ..,_,h,_,_=>by simp[aD.list]at h
theorem Q1{ids:List Id}(h:∀id∈ids,t.bU id=s.bU id):t.wi ids=s.wi ids:=by
 funext id ver;unfold AS.wi;cases hi:idxOf id ids with
 |none=>rfl
 |some k=>
  have:t.obj id=s.obj id:=by simp only[AS.obj,h id (c7 (oN hi))]
  rw[this]
theorem Rm{id:Id}(h:t.bU id=s.bU id):t.Ba id=s.Ba id:=by simp only[AS.Ba,AS.obj,h]
theorem MS{ids:List Id}(h:∀id∈ids,t.bU id=s.bU id)(q:Nat):t.uG ids q=s.uG ids q:=by
 funext id ver;cases id with
 |new i j=>rfl
 |bF k=>
  simp only[AS.uG];cases hk:ids[k]? with
  |none=>rfl
  |some id=>simp only[Rm (h id (c7 hk))]
theorem Lz{ids:List Id}(h:∀id∈ids,t.bU id=s.bU id)(q b:Nat):t.rG ids q b=s.rG ids q b:=by funext e;cases e <;> simp only[AS.rG,MS h]
theorem ae3{ids:List Id}(h:∀id∈ids,t.bU id=s.bU id){id:Id}(de:id∈ids):t.mz ids id=s.mz ids id:=by unfold AS.mz;rw[h id de,Q1 h]
def nP(s:AS)(ids:List Id)(d:Option Tmp)(G:ig):AS:=(AS.jF s ids (d.getD 0) (s.made ids (d.getD 0) G.news) ids G.cn).put d (G.val.iJ (s.uG ids (d.getD 0)))
theorem Ys{ids:List Id}{d:Option Tmp}{G:ig}{s':AS}:(s.back ids d G).eval=ao s'↔(G.cn.length=ids.length/\(G.news=[]\/∃q,d=ao q/\s.ez q=aT))/\s'=nP s ids d G:=by
 unfold AS.back;cases d with
 |none=>
  rw[aG,ay];simp only[av,dB,List.isEmpty_iff,nP,AS.put,Option.getD_none];constructor
  ·rintro⟨⟨h1,h2⟩,rfl⟩;rw[h2];exact⟨⟨h1,.inl rfl⟩,rfl⟩
  ·rintro⟨⟨h1,h2⟩,rfl⟩;rcases h2 with h2 | ⟨q,hq,_⟩
   ·rw[h2];exact⟨⟨h1,rfl⟩,rfl⟩
   ·cases hq
 |some q=>
  rw[aG,ay];simp only[av,dB,ij,List.isEmpty_iff,nP,dz];constructor
  ·rintro⟨⟨h1,h2⟩,rfl⟩;exact⟨⟨h1,h2.imp id λh=>⟨q,rfl,h⟩⟩,rfl⟩
  ·rintro⟨⟨h1,h2⟩,rfl⟩;refine⟨⟨h1,h2.imp id λ⟨q',hq,h⟩=> ?_⟩,rfl⟩;obtain rfl:q=q':=by simpa using hq
   exact h
theorem Qe(s0:AS)(all:List Id)(q:Nat):∀(ids:List Id) (es:List dU) (s:AS),(AS.jF s0 all q s ids es).news.length=s.news.length
 |[],_,_=>by simp[AS.jF]
 |_::_,[],_=>by simp[AS.jF]
 |id::ids,e::es,s=>by rw[AS.jF,Qe s0 all q ids es,JJ]
theorem avB(s:AS)(ids:List Id)(q:Nat)(es:List dU):(s.made ids q es).news.length=s.news.length:=by cases es <;> simp[AS.made,AS.born]
def Hr(ids:List Id)(d:Option Tmp)(G:ig)(id:Id):Prop:=id∈ids\/(G.news≠ []/\∃q j,d=ao q/\id= .new q j)
theorem Sy{ids:List Id}{d:Option Tmp}{G:ig}(hn:ids.Nodup)(hp:∀id∈ids,s.bU id≠aJ)(hl:G.cn.length=ids.length)(hv:G.news=[]\/∃q,d=ao q/\s.ez q=aT):
  (∀id,¬Hr ids d G id->(nP s ids d G).bU id=s.bU id)/\
  (∀(k:Nat) (id:Id) (e:dU),ids[k]? =ao id->G.cn[k]? =ao e->(nP s ids d G).bU id=ao (s.rG ids (d.getD 0) (s.Ba id) e))/\
  (∀q j,G.news≠ []->d=ao q->(nP s ids d G).bU (.new q j)=(G.news[j]?).map (s.rG ids q 0))/\
  (∀q j,G.news≠ []->d=ao q->s.bU (.new q j)=aJ):=by
 have hv':G.news=[]\/s.ez (d.getD 0)=aT:=by
  rcases hv with h | ⟨q,rfl,h⟩
  ·exact .inl h
  ·exact .inr h
 obtain⟨m1,m2⟩:=ae4 s ids (d.getD 0) G.news hv';have aCu:∀q j,G.news≠ []->d=ao q->s.bU (.new q j)=aJ:=λq j h1 h2=>by
  rcases hv' with h | h
  ·exact absurd h h1
  ·subst h2;exact(Ah.1 h).2 j
 have Co:∀id,s.bU id≠aJ->G.news=[]\/∀j,id≠ .new (d.getD 0) j:=λid de=>by
  rcases hv with h | ⟨q,rfl,h⟩
  ·exact .inl h
  ·exact .inr λj e=>de (by rw[e];exact(Ah.1 h).2 j)
 obtain⟨n1,n2⟩:=Fi s ids (d.getD 0) ids G.cn (s.made ids (d.getD 0) G.news) hn hl (λid de=>by rw[m1 id (Co id (hp id de))];exact hp id de);refine⟨λid de=> ?_,λk id e h1 h2=> ?_,λq j h1 h2=> ?_,aCu⟩
 ·unfold Hr at de;simp only[not_or]at de;rw[nP,Ha,n1 id de.1];refine m1 id ?_
  by_cases gj:G.news=[]
  ·exact .inl gj
  ·right;intro j e;rcases hv with h | ⟨q,hq,_⟩
   ·exact gj h
   ·exact de.2 ⟨gj,q,j,hq,by rw[e,hq];rfl⟩
 ·rw[nP,Ha,n2 k id e h1 h2]
 ·subst h2;have aI6:Id.new q j ∉ ids:=λde=>hp _ de (aCu q j h1 rfl)
  rw[nP,Ha,n1 _ aI6];exact m2 h1 j
open Classical in
theorem aiN{c:Call}{F:bK}{f:fK}{caps:aD}{en:Entry}(dj:o.op= .call c)(hc:c.callee= .value F)(hF:s.ev F= .fn f caps)(hΓ:Γ f (c.args.toList.map s.ev++caps.list)=ao en)(je:Nat.blt f yB=aT){s':AS}
  (he:(s.call en o.dst (c.args.toList.map s.ev++caps.list)).eval=ao s'):Kz P Γ bN ops o s s':=by
 have tn:∀z,z=F\/z∈c.args.toList->z∈o.op.operands.toList:=λz hz=>by
  rw[dj];simp only[bY,ej,hc,bZ,bC];rcases hz with rfl | hz
  ·exact .inl (by simp)
  ·exact .inr hz
 have avb:∀v∈c.args.toList.map s.ev++caps.list,∀id∈v.ids,id∈(gK Γ ops s o).rs:=λv hv id de=>by
  rcases bC.1 hv with hv | hv
  ·obtain⟨x,hx,rfl⟩:=dO.1 hv;exact JD (Zu dj rfl) (tn x (.inr hx)) de
  ·refine JD (Zu dj rfl) (tn F (.inl rfl)) ?_
   rw[hF];exact afS caps v hv id de
 generalize P9:c.args.toList.map s.ev++caps.list=vs at he avb hΓ;have ayP:(gK Γ ops s o).ws=s.reach 64 (u6 en.params vs) []:=by show writes Γ s o=_;unfold writes;rw[dj];simp only[hc,hF,P9,hΓ]
 have Y8:∀t,mr (gK Γ ops s o) s t->pE P Γ bN o t=t.call en o.dst vs:=λt ht=>by
  unfold pE;rw[dj];have h1:t.ev F= .fn f caps:=by rw[ht.ev (tn F (.inl rfl)),hF]
  have h2:c.args.toList.map t.ev=c.args.toList.map s.ev:=hZ λx hx=>ht.ev (tn x (.inr hx))
  obtain⟨cal,args,tys⟩:=c;simp only at hc P9 h2;subst hc;simp only[h1,h2,P9,hΓ,je,Out.guard]
 unfold AS.call at he;obtain⟨r,h1,h2⟩:=ax.1 he;obtain⟨aD8,aft⟩:=Jb _ _ r h1;have hlends:∀t:AS,(t.bt r.2).Zf r.1=t.reach 64 (u6 en.params vs) []:=λt=>by unfold AS.Zf;rw[RK,aD8]
 rw[hlends]at h2;generalize hW:s.reach 64 (u6 en.params vs) []=W at h2 ayP;have hWn:W.Nodup:=by rw[<-hW];exact sC s _ _ _ (by simp)
 unfold AS.enter at h2;obtain⟨vS,h3⟩:=aG.1 h2;obtain⟨x,hx,h4⟩:=mf.1 h3;obtain⟨x0,aEg,h4⟩:=ax.1 h4;have apC:=en.anz _ _ aEg;rw[apC]at h4 aEg;obtain⟨⟨hl,hv⟩,rfl⟩:=Ys.1 h4;generalize hG:en.out (r.1.map (aD.iJ ((s.bt r.2).wi W))) (W.map ((s.bt r.2).mz W)) x=G at hl hv h4 ⊢;have hp:∀id∈W,(s.bt r.2).bU id≠aJ:=λid de=>by have:=(av _ _▸cS.1 vS id de).1;obtain⟨⟨v,fr,c⟩,hr⟩:=bA.1 this;rw[dZ hr];simp
 obtain⟨b1,b2,b3,b4⟩:=Sy (s:=s.bt r.2) (d:=o.dst) hWn hp hl hv;have hfzent:∀(u:AS) id,u.bU id=aJ↔(u.bt r.2).bU id=aJ:=λu id=>by rw[fG];split <;> simp
 let E:aFj:=⟨G.val.iJ ((s.bt r.2).uG W (o.dst.getD 0)),λid=>if Hr W o.dst G id then(nP (s.bt r.2) W o.dst G).bU id else aJ,r.2⟩
 have hslots:∀u:AS,(nP (u.bt r.2) W o.dst G).ct=(u.put o.dst (G.val.iJ ((u.bt r.2).uG W (o.dst.getD 0)))).ct:=λu=>by unfold nP;cases o.dst <;> simp[AS.put,BU,Wi,nF]
 have hlen:∀u:AS,(nP (u.bt r.2) W o.dst G).news.length=u.news.length:=λu=>by unfold nP;cases o.dst <;> simp[AS.put,Qe,avB,qA]
 refine⟨E,⟨hslots s,hlen s,λid=> ?_⟩,⟨λid e Rx=> ?_,λid de=> ?_⟩,λt ht=> ?_⟩
 ·by_cases ass:Hr W o.dst G id
  ·have Rx:E.up id=(nP (s.bt r.2) W o.dst G).bU id:=if_pos ass;rw[Rx];cases hb:(nP (s.bt r.2) W o.dst G).bU id with
   |some e=>rfl
   |none=>
    rcases ass with de | ⟨gj,q,j,hq,rfl⟩
    ·obtain⟨k,hk⟩:=ku.1 de;have je:k < G.cn.length:=by rw[hl];exact(dN.1 hk).1
     rw[b2 k id _ hk (bQ je)]at hb;cases hb
    ·have:=(hfzent s _).2 (b4 q j gj hq);simp[this]
  ·have Rx:E.up id=aJ:=if_neg ass;rw[Rx,b1 id ass,fG]
 ·by_cases ass:Hr W o.dst G id
  ·rcases ass with de | ⟨_,q,j,hq,rfl⟩
   ·left;refine⟨by rw[ayP];exact de,λh=>hp id de ((hfzent s id).1 h)⟩
   ·exact .inr ⟨q,j,hq,rfl⟩
  ·have:E.up id=aJ:=if_neg ass;rw[this]at Rx;cases Rx
 ·obtain⟨v,hv,de⟩:=aft id de;exact avb v hv id de
 ·have aGl:t.conv en.params vs=s.conv en.params vs:=Ja _ _ λv hv id de=>ht.rs id (avb v hv id de)
  have Kv:∀id∈W,t.bU id=s.bU id:=λid de=>ht.ws id (by rw[ayP];exact de)
  have afm:∀id∈W,(t.bt r.2).bU id=(s.bt r.2).bU id:=λid de=>by rw[fG,fG,Kv id de]
  have hWt:t.reach 64 (u6 en.params vs) []=W:=by
   rw[<-hW];refine wg _ _ _ λid de=> ?_
   rw[Kv id (by rw[<-hW];exact de)]
  have aEf:G.news=[]\/∃q,o.dst=ao q/\(t.bt r.2).ez q=aT:=hv.imp id λ⟨q,hq,h⟩=>⟨q,hq,by
   rw[uM]at h ⊢;rw[ht.ez q hq];exact h⟩
  have aFw:∀id∈W,(t.bt r.2).bU id≠aJ:=λid de=>by rw[afm id de];exact hp id de
  obtain⟨d1,d2,d3,d4⟩:=Sy (s:=t.bt r.2) (d:=o.dst) hWn aFw hl aEf;refine⟨nP (t.bt r.2) W o.dst G,?_,⟨?_,hlen t,λid=> ?_⟩⟩
  ·rw[Y8 t ht];unfold AS.call;rw[aGl];refine ax.2 ⟨r,h1,?_⟩;rw[hlends,hWt];unfold AS.enter;have hA:(t.bt r.2).wi W=(s.bt r.2).wi W:=Q1 afm;have hO:W.map ((t.bt r.2).mz W)=W.map ((s.bt r.2).mz W):=hZ λid de=>ae3 afm de
   refine aG.2 ⟨?_,mf.2 ⟨x,?_,ax.2 ⟨x,aEg,?_⟩⟩⟩
   ·refine cS.2 λid de=> ?_
    have:=cS.1 vS id de;simp only[AS.obj,AS.Oy]at this ⊢;rw[afm id de];exact this
   ·rw[hA,hO,<-hx]
   ·rw[hA,hO,hG];exact Ys.2 ⟨⟨hl,aEf⟩,rfl⟩
  ·rw[hslots t,MS afm]
  ·by_cases ass:Hr W o.dst G id
   ·have Rx:E.up id=(nP (s.bt r.2) W o.dst G).bU id:=if_pos ass;rw[Rx];rcases ass with de | ⟨gj,q,j,hq,rfl⟩
    ·obtain⟨k,hk⟩:=ku.1 de;have je:k < G.cn.length:=by rw[hl];exact(dN.1 hk).1
     rw[b2 k id _ hk (bQ je),d2 k id _ hk (bQ je),Lz afm,Rm (afm id de)]
    ·rw[b3 q j gj hq,d3 q j gj hq,Lz afm];cases hn:G.news[j]? with
     |some e=>rfl
     |none=>
      have:=(hfzent t _).2 (d4 q j gj hq);simp[this]
   ·have Rx:E.up id=aJ:=if_neg ass;rw[Rx,d1 id ass,fG]
end
end Go.Ab
namespace Go.Ab
section
variable {P:aM} {Γ:qi} {bN:List Nat} {ops:Array Oper} {o:Oper} {s t:AS}
theorem Out.bind_assoc{α β γ:Type}(o:Out α)(f:α->Out β)(g:β->Out γ):(o.bind f).bind g=o.bind λa=>(f a).bind g:=by
 induction o with
 |ok a=>rfl
 |fail=>rfl
 |ue c r ih=>simp only[Out.bind,ih]
 |get x h ih=>simp only[Out.bind,ih]
 |br c x y ih1 ih2=>simp only[Out.bind,ih1,ih2]
theorem agx{parts:Array (Nat×bK)}{x:Nat×bK}(h:x∈parts.toList):x.2∈(parts.toList.map (·.2)).toArray.toList:=dO.2 ⟨x,h,rfl⟩
theorem aox{T:TypeId}{x:bK}(dj:o.op= .box T x){s':AS}(he:(aei P s (isObj bN o.dst) (ajB bN o.dst) o.dst T (s.ev x)).eval=ao s'):Kz P Γ bN ops o s s':=by
 have Y8:∀t,pE P Γ bN o t=aei P t (isObj bN o.dst) (ajB bN o.dst) o.dst T (t.ev x):=λt=>by unfold pE;rw[dj]
 have hm:x∈o.op.operands.toList:=by rw[dj];simp[bY]
 unfold aei at he;split at he
 ·rename_i q hd;split at he
  ·rename_i ho;obtain⟨h1,h2⟩:=aG.1 he;obtain rfl:=ay.1 h2;simp only[av]at h1;refine vV (ids:=[]) hd h1.1 (λ_ h=>by cases h) λt ht hv=> ?_
   rw[Y8,ht.ev hm];unfold aei;simp only[hd]at ho ⊢;simp only[ho];exact aG.2 ⟨by simp[hv,h1.2],ay.2 rfl⟩
  ·rename_i ho;split at he
   ·rename_i ty aGU;obtain⟨h1,h2⟩:=aG.1 he;obtain⟨y,h3,h4⟩:=ax.1 h2;obtain rfl:=ay.1 h4;refine Sb (λid de=>JD (Zu dj rfl) hm (uJ _ _ de)) λt ht=> ?_
    rw[Y8,ht.ev hm];unfold aei;simp only[hd]at ho ⊢;simp only[ho,aGU];refine aG.2 ⟨h1,ax.2 ⟨y,?_,ay.2 rfl⟩⟩;rw[ph _ _ λid de=>ht.adC (Zu dj rfl) hm de];exact h3
   ·simp only[aw]at he
 ·simp only[aw]at he
theorem ahG{T:TypeId}{x:bK}(dj:o.op= .sliceToArrayPointer T x){s':AS}(he:(Kg P s o.dst T (s.ev x)).eval=ao s'):Kz P Γ bN ops o s s':=by
 have Y8:∀t,pE P Γ bN o t=Kg P t o.dst T (t.ev x):=λt=>by unfold pE;rw[dj]
 have hm:x∈o.op.operands.toList:=by rw[dj];simp[bY]
 unfold Kg at he;split at he
 ·rename_i n e hT;split at he
  ·rename_i ty aGU;obtain⟨h1,h2⟩:=aG.1 he;obtain⟨l,h3,h4⟩:=ax.1 h2;obtain⟨h5,h6⟩:=bS.1 h4;obtain rfl:=ay.1 h6;refine Sb (λid de=>JD (Zu dj rfl) hm (uJ _ _ de)) λt ht=> ?_
   rw[Y8,ht.ev hm];unfold Kg;simp only[hT,aGU];refine aG.2 ⟨h1,ax.2 ⟨l,?_,bS.2 ⟨h5,ay.2 rfl⟩⟩⟩;rw[ph _ _ λid de=>ht.adC (Zu dj rfl) hm de];exact h3
  ·simp only[aw]at he
 ·simp only[aw]at he
theorem ael{T:TypeId}{parts:Array (Nat×bK)}(dj:o.op= .build T parts){s':AS}(he:(E4 P s o.dst T parts.toList).eval=ao s'):Kz P Γ bN ops o s s':=by
 have Y8:∀t,pE P Γ bN o t=E4 P t o.dst T parts.toList:=λt=>by unfold pE;rw[dj]
 have hm:∀x∈parts.toList,x.2∈o.op.operands.toList:=λx hx=>by rw[dj];exact agx hx
 unfold E4 at he;split at he
 ·rename_i fs hT;split at he
  ·rename_i z hz;obtain⟨h1,h2⟩:=aG.1 he;obtain⟨v,h3,h4⟩:=ax.1 h2;obtain rfl:=ay.1 h4;refine lp λt ht=> ?_
   rw[Y8];unfold E4;simp only[hT,hz];refine aG.2 ⟨h1,ax.2 ⟨v,?_,ay.2 rfl⟩⟩;rw[Eu _ _ λx hx=>ht.ev (hm x hx)];exact h3
  ·simp only[aw]at he
 ·rename_i n e hT;split at he
  ·rename_i ty aGU;obtain⟨h1,h2⟩:=aG.1 he;obtain⟨r,h3,h4⟩:=ax.1 h2;obtain rfl:=ay.1 h4;refine Sb (λid de=> ?_) λt ht=> ?_
   ·obtain⟨x,hx,hi⟩:=wN _ _ _ h3 id de;exact JD (Zu dj rfl) (hm x hx) hi
   ·rw[Y8];unfold E4;simp only[hT,aGU];refine aG.2 ⟨h1,ax.2 ⟨r,?_,ay.2 rfl⟩⟩;rw[zX _ _ λx hx=>⟨ht.ev (hm x hx),λid de=>ht.adC (Zu dj rfl) (hm x hx) de⟩];exact h3
  ·simp only[aw]at he
 ·simp only[aw]at he
theorem NZ{T:TypeId}{n:Nat}{parts:Array (Nat×bK)}(dj:o.op= .buildSlice T n parts){s':AS}(he:(mw P s (apK bN o.dst) (isObj bN o.dst) o.dst T n parts.toList).eval=ao s'):Kz P Γ bN ops o s s':=by
 have Y8:∀t,pE P Γ bN o t=mw P t (apK bN o.dst) (isObj bN o.dst) o.dst T n parts.toList:=λt=>by unfold pE;rw[dj]
 have hm:∀x∈parts.toList,x.2∈o.op.operands.toList:=λx hx=>by rw[dj];exact agx hx
 unfold mw at he;split at he
 ·rename_i e ty b q Hz hd;obtain⟨h1,h2⟩:=aG.1 he;obtain⟨r,h3,h4⟩:=ax.1 h2;have ajq:∀id∈r.2,id∈(gK Γ ops s o).rs:=λid de=>by obtain⟨x,hx,hi⟩:=wN _ _ _ h3 id de;exact JD (Zu dj rfl) (hm x hx) hi
  have aGl:∀t,mr (gK Γ ops s o) s t->∀l,jv ty t parts.toList l=jv ty s parts.toList l:=λt ht l=>zX _ _ λx hx=>⟨ht.ev (hm x hx),λid de=>ht.adC (Zu dj rfl) (hm x hx) de⟩
  split at h4
  ·rename_i ho;obtain⟨h5,h6⟩:=aG.1 h4;obtain rfl:=ay.1 h6;refine vV hd h5 ajq λt ht hv=> ?_
   rw[Y8];unfold mw;simp only[hd]at ho Hz ⊢;simp only[Hz,ho];refine aG.2 ⟨h1,ax.2 ⟨r,by rw[aGl t ht];exact h3,aG.2 ⟨hv,ay.2 rfl⟩⟩⟩
  ·rename_i ho;obtain rfl:=ay.1 h4;refine Sb ajq λt ht=> ?_
   rw[Y8];unfold mw;simp only[hd]at ho Hz ⊢;simp only[Hz,ho];exact aG.2 ⟨h1,ax.2 ⟨r,by rw[aGl t ht];exact h3,ay.2 rfl⟩⟩
 ·simp only[aw]at he
theorem RB{T:TypeId}{x y:bK}(dj:o.op= .makeSlice T x y){len cap:Int}(hx:(asInt (s.ev x)).eval=ao len)(hy:(asInt (s.ev y)).eval=ao cap){s':AS}(he:(rM P s o.dst T len cap).eval=ao s'):Kz P Γ bN ops o s s':=by
 have Y8:∀t,pE P Γ bN o t=(asInt (t.ev x)).bind λl=>(asInt (t.ev y)).bind λc=>rM P t o.dst T l c:=λt=>by unfold pE;rw[dj]
 have hm:∀z,z=x\/z=y->z∈o.op.operands.toList:=λz hz=>by rw[dj];simpa[bY]using hz
 unfold rM at he;split at he
 ·rename_i e ty b q Hz hd;obtain⟨h1,h2⟩:=aG.1 he;obtain⟨h3,h4⟩:=bS.1 h2;obtain rfl:=ay.1 h4;refine vV (ids:=[]) hd h1 (λ_ h=>by cases h) λt ht hv=> ?_
  rw[Y8,ht.ev (hm x (.inl rfl)),ht.ev (hm y (.inr rfl))];refine ax.2 ⟨len,hx,ax.2 ⟨cap,hy,?_⟩⟩;unfold rM;simp only[Hz,hd];exact aG.2 ⟨hv,bS.2 ⟨h3,ay.2 rfl⟩⟩
 ·simp only[aw]at he
theorem abV{id:Id}{ver:Nat}{kt vt:Ty}(h:yH (t.bU id) (s.bU id)):t.ql id ver kt vt=s.ql id ver kt vt:=by
 unfold AS.ql;rcases Nc h with⟨h1,h2⟩ | ⟨v,f,f',c,h1,h2⟩
 ·rw[h1,h2]
 ·rw[h1,h2];cases c <;> rfl
theorem Xt{T:TypeId}{m k:aD}{ok:Bool}(h:∀id∈m.ids,yH (t.bU id) (s.bU id)):Dx P t T m k ok=Dx P s T m k ok:=by
 unfold Dx;split
 ·rename_i id ver hm;rw[abV (h id (by simp[aD.ids]))]
 ·rfl
theorem Zh{id:Id}{ver:Nat}{kt vt:Ty}{l:List (kt.den×vt.den)}(h:(s.ql id ver kt vt).eval=ao l):∃e,s.bU id=ao e:=by
 unfold AS.ql at h;split at h
 ·rename_i v fr k' v' l' kA;exact⟨_,dZ kA⟩
 ·simp only[aw]at h
theorem ajS{id:Id}{ver:Nat}{kt vt:Ty}{l:List (kt.den×vt.den)}(h:(s.ql id ver kt vt).eval=ao l):∃fr,s.bU id=ao (.obj ver fr (.mp kt vt l)):=by
 unfold AS.ql at h;split at h
 ·rename_i v fr k' v' l' kA;obtain⟨ava,aI7⟩:=aG.1 h;have ava:v=ver:=by simpa using ava
  obtain⟨rfl,rfl,rfl⟩:=PG (jd.1 aI7);subst ava;exact⟨fr,dZ kA⟩
 ·simp only[aw]at h
theorem FE{id:Id}{ver:Nat}{kt vt:Ty}(h:t.bU id=s.bU id):t.ql id ver kt vt=s.ql id ver kt vt:=by unfold AS.ql AS.obj;rw[h]
theorem B3{id:Id}(h:t.bU id=s.bU id):t.ua id=s.ua id:=by unfold AS.ua AS.obj;rw[h]
theorem Xx{T:TypeId}{m k v:aD}{s':AS}(h:(DC P s T m k v).eval=ao s'):
  ∃id e0 e,m.ids=[id]/\s.bU id=ao e0/\s'=s.aZ id e/\∀t:AS,t.bU id=s.bU id->(DC P t T m k v).eval=ao (t.aZ id e):=by
 unfold DC at h;split at h
 ·rename_i K V kt vt id ver hm;obtain⟨l,h1,h⟩:=ax.1 h;obtain⟨kx,h2,h⟩:=ax.1 h;obtain⟨vx,h3,h⟩:=ax.1 h;obtain⟨hu,h⟩:=aG.1 h;obtain rfl:=ay.1 h;obtain⟨e0,abr⟩:=Zh h1;refine⟨id,e0,_,rfl,abr,rfl,λt ht=> ?_⟩;unfold DC;simp only[hm];exact ax.2 ⟨l,by rw[FE ht];exact h1,ax.2 ⟨kx,h2,ax.2 ⟨vx,h3,aG.2 ⟨by rw[B3 ht];exact hu,ay.2 rfl⟩⟩⟩⟩
 ·simp only[aw]at h
theorem Xw{T:TypeId}{m k:aD}{s':AS}(h:(DB P s T m k).eval=ao s'):
  ∃id e0 e,m.ids=[id]/\s.bU id=ao e0/\s'=s.aZ id e/\∀t:AS,t.bU id=s.bU id->(DB P t T m k).eval=ao (t.aZ id e):=by
 unfold DB at h;split at h
 ·rename_i K V kt vt id ver hm;obtain⟨l,h1,h⟩:=ax.1 h;obtain⟨kx,h2,h⟩:=ax.1 h;obtain⟨hu,h⟩:=aG.1 h;obtain rfl:=ay.1 h;obtain⟨e0,abr⟩:=Zh h1;refine⟨id,e0,_,rfl,abr,rfl,λt ht=> ?_⟩;unfold DB;simp only[hm];exact ax.2 ⟨l,by rw[FE ht];exact h1,ax.2 ⟨kx,h2,aG.2 ⟨by rw[B3 ht];exact hu,ay.2 rfl⟩⟩⟩
 ·simp only[aw]at h
theorem Yq{s':AS}(he:(pE P Γ bN o s).eval=ao s'):Kz P Γ bN ops o s s':=by
 have abr:=he;have one:∀x,o.op.operands= #[x]->∀t,mr (gK Γ ops s o) s t->t.ev x=s.ev x/\(Zj o.op=aR->∀id∈(s.ev x).ids,yH (t.bU id) (s.bU id)):=λx hx t ht=>
  have hm:x∈o.op.operands.toList:=by rw[hx];simp
  ⟨ht.ev hm,λhn _ de=>ht.adC hn hm de⟩
 unfold pE at he;split at he
 ·rename_i x dj;obtain rfl:=ay.1 he;refine lp λt ht=> ?_
  unfold pE;rw[dj];simp only;rw[(one x (by rw[dj];rfl) t ht).1];rfl
 ·rename_i x dj;obtain rfl:=ay.1 he;refine lp λt ht=> ?_
  unfold pE;rw[dj];simp only;rw[(one x (by rw[dj];rfl) t ht).1];rfl
 ·rename_i c x y dj;refine nY (F:=λt=>am9 (t.ev c) (t.ev x) (t.ev y)) (λt=>by unfold pE;rw[dj]) (λt ht=> ?_) abr;rw[ht.ev (by rw[dj];simp[bY]),ht.ev (by rw[dj];simp[bY]),ht.ev (by rw[dj];simp[bY])]
 ·rename_i T dj;split at he
  ·rename_i z q hz hq;obtain⟨h1,h2⟩:=aG.1 he;obtain rfl:=ay.1 h2;simp only[av]at h1;refine vV (ids:=[]) hq h1.1 (λ_ h=>by cases h) λt ht hv=> ?_
   unfold pE;rw[dj];simp only[hz,hq];exact aG.2 ⟨by simp[hv,h1.2],ay.2 rfl⟩
  ·exact(aw.1 he).elim
 ·rename_i T x dj;exact aox dj he
 ·rename_i T parts dj;exact ael dj he
 ·rename_i T n parts dj;exact NZ dj he
 ·rename_i T x dj;refine nY (F:=λt=>L8 P t T (t.ev x)) (λt=>by unfold pE;rw[dj]) (λt ht=> ?_) abr;obtain⟨h1,h2⟩:=one x (by rw[dj];rfl) t ht;rw[h1,afT (h2 (Zu dj rfl))]
 ·rename_i T x v dj;obtain⟨s1,h1,h2⟩:=ax.1 he;obtain rfl:=ay.1 h2;obtain⟨id,e0,e,de,hs,rfl,hl⟩:=acU h1;refine Dw hs ?_ λt ht afA=> ?_
  ·show id∈writes Γ s o;unfold writes;rw[dj];simp only[de,bw]
  ·unfold pE;rw[dj];simp only;rw[ht.ev (x:=x) (by rw[dj];simp[bY]),ht.ev (x:=v) (by rw[dj];simp[bY])];exact ax.2 ⟨_,hl t afA,ay.2 rfl⟩
 ·rename_i x dj;split at he
  ·rename_i id v p n hx;obtain rfl:=ay.1 he;refine lp λt ht=> ?_
   unfold pE;rw[dj];simp only[(one x (by rw[dj];rfl) t ht).1,hx];rfl
  ·rename_i ty y hx;obtain rfl:=ay.1 he;refine lp λt ht=> ?_
   unfold pE;rw[dj];simp only[(one x (by rw[dj];rfl) t ht).1,hx];rfl
  ·rename_i ty y hx;obtain⟨z,e,he⟩:=mf.1 he;obtain rfl:=ay.1 he;refine lp λt ht=> ?_
   unfold pE;rw[dj];simp only[(one x (by rw[dj];rfl) t ht).1,hx];exact mf.2 ⟨z,e,ay.2 rfl⟩
  ·rename_i ty y hx;obtain⟨z,e,he⟩:=mf.1 he;obtain rfl:=ay.1 he;refine lp λt ht=> ?_
   unfold pE;rw[dj];simp only[(one x (by rw[dj];rfl) t ht).1,hx];exact mf.2 ⟨z,e,ay.2 rfl⟩
  ·rename_i f c hx;obtain rfl:=ay.1 he;refine lp λt ht=> ?_
   unfold pE;rw[dj];simp only[(one x (by rw[dj];rfl) t ht).1,hx];rfl
  ·exact(aw.1 he).elim
 ·rename_i op T x y U dj;have au3:x∈o.op.operands.toList:=by rw[dj];simp[bY]
  have aFu:y∈o.op.operands.toList:=by rw[dj];simp[bY]
  split at he
  ·rename_i i v1 j v2 hx hy;obtain⟨v,h1,h2⟩:=ax.1 he;obtain rfl:=ay.1 h2;refine lp λt ht=> ?_
   unfold pE;rw[dj];simp only[ht.ev au3,ht.ev aFu,hx,hy];exact ax.2 ⟨v,by rw[apb (ht.adC (Zu dj rfl) au3 (by rw[hx];simp[aD.ids]))];exact h1,rfl⟩
  ·rename_i gj;obtain⟨v,h1,h2⟩:=ax.1 he;obtain rfl:=ay.1 h2;refine lp λt ht=> ?_
   unfold pE;rw[dj];simp only[ht.ev au3,ht.ev aFu];exact ax.2 ⟨v,h1,rfl⟩
 ·rename_i op T x dj;refine nY (F:=λt=>aIg op (t.ev x)) (λt=>by unfold pE;rw[dj]) (λt ht=> ?_) abr;rw[(one x (by rw[dj];rfl) t ht).1]
 ·rename_i T U x dj;split at he
  ·rename_i id ver len hTU hx;unfold aew at he;split at he
   ·rename_i v e0 l e kA hD;split at he
    ·rename_i hE;obtain⟨h1,h2⟩:=aG.1 he;obtain⟨h3,h4⟩:=bS.1 h2;obtain rfl:=ay.1 h4;refine Dw (dZ kA) ?_ λt ht afA=> ?_
     ·show id∈writes Γ s o;unfold writes;rw[dj];simp only[hTU,hx];simp[aD.ids]
     ·have hob':t.obj id=ao (v,aR,.vec e0 (.int .u8) l):=by simp only[AS.obj,afA];exact kA
      unfold pE;rw[dj];simp only[hTU,(one x (by rw[dj];rfl) t ht).1,hx];unfold aew;simp only[hob',hD,hE];exact aG.2 ⟨h1,bS.2 ⟨h3,ay.2 rfl⟩⟩
    ·exact(aw.1 he).elim
   ·exact(aw.1 he).elim
  ·rename_i id ver hx;obtain⟨v,h1,h2⟩:=ax.1 he;obtain rfl:=ay.1 h2;refine lp λt ht=> ?_
   obtain⟨h3,h4⟩:=one x (by rw[dj];rfl) t ht;unfold pE;rw[dj];simp only[h3,hx];exact ax.2 ⟨v,by rw[aex (h4 (Zu dj rfl) _ (by rw[hx];simp[aD.ids]))];exact h1,rfl⟩
  ·rename_i gj;obtain⟨v,h1,h2⟩:=ax.1 he;obtain rfl:=ay.1 h2;refine lp λt ht=> ?_
   obtain⟨h3,h4⟩:=one x (by rw[dj];rfl) t ht;unfold pE;rw[dj];simp only[h3];exact ax.2 ⟨v,by rw[aev (h4 (Zu dj rfl))];exact h1,rfl⟩
 ·rename_i T x dj;exact ahG dj he
 ·rename_i f first caps dj
  obtain⟨h1,h2⟩:=aG.1 he;obtain rfl:=ay.1 h2;refine lp λt ht=> ?_
  have hc:rB t caps.toList=rB s caps.toList:=KX _ λx hx=>ht.ev (by rw[dj];simp only[bY,bZ];exact bC.2 (.inr hx))
  unfold pE;rw[dj];simp only[hc];exact aG.2 ⟨h1,ay.2 rfl⟩
 ·rename_i T l c dj;obtain⟨n,h1,h2⟩:=ax.1 he;obtain⟨m,h3,h4⟩:=ax.1 h2;exact RB dj h1 h3 h4
 ·rename_i T x lo hi dj;refine nY (F:=λt=>Gn P t T (t.ev x) lo hi) (λt=>by unfold pE;rw[dj]) (λt ht=> ?_) abr;have hm:∀z,(z=x\/lo=ao z\/hi=ao z)->z∈o.op.operands.toList:=λz hz=>by
   rw[dj];simp only[bY,bZ,bC];rcases hz with rfl | rfl | rfl
   ·left;left;left;simp
   ·left;left;right;simp
   ·left;right;simp
  have hx:=hm x (.inl rfl);rw[ht.ev hx];exact Nh (λid de=>ht.adC (Zu dj rfl) hx de) (λy hy=>ht.ev (hm y (.inr (.inl hy)))) (λy hy=>ht.ev (hm y (.inr (.inr hy))))
 ·rename_i T x lo y m dj;refine nY (F:=λt=>Ng P t T (t.ev x) lo y m) (λt=>by unfold pE;rw[dj]) (λt ht=> ?_) abr;have hm:∀z,(z=x\/lo=ao z\/y=z\/m=z)->z∈o.op.operands.toList:=λz hz=>by
   rw[dj];simp only[bY,bZ,bC];rcases hz with rfl | rfl | rfl | rfl
   ·left;left;left;simp
   ·left;left;right;simp
   ·left;right;simp
   ·right;simp
  have hx:=hm x (.inl rfl);rw[ht.ev hx];exact XY (λid de=>ht.adC (Zu dj rfl) hx de) (λz hz=>ht.ev (hm z (.inr (.inl hz)))) (ht.ev (hm y (.inr (.inr (.inl rfl))))) (ht.ev (hm m (.inr (.inr (.inr rfl)))))
 ·rename_i T x f dj;refine nY (F:=λt=>Ds P T (t.ev x) f) (λt=>by unfold pE;rw[dj]) (λt ht=> ?_) abr;rw[(one x (by rw[dj];rfl) t ht).1]
 ·rename_i T x f dj;refine nY (F:=λt=>abk P T (t.ev x) f) (λt=>by unfold pE;rw[dj]) (λt ht=> ?_) abr;rw[(one x (by rw[dj];rfl) t ht).1]
 ·rename_i T x i dj;refine nY (F:=λt=>(asInt (t.ev i)).bind λi=>rI P t T (t.ev x) i) (λt=>by unfold pE;rw[dj,Out.bind_assoc]) (λt ht=> ?_) abr;have hx:x∈o.op.operands.toList:=by rw[dj];simp[bY]
  rw[ht.ev (x:=i) (by rw[dj];simp[bY]),ht.ev hx];congr 1;funext i;exact Ot λid de=>ht.adC (Zu dj rfl) hx de
 ·rename_i T x i dj;refine nY (F:=λt=>(asInt (t.ev i)).bind λi=>abB P T (t.ev x) i) (λt=>by unfold pE;rw[dj,Out.bind_assoc]) (λt ht=> ?_) abr;rw[ht.ev (x:=i) (by rw[dj];simp[bY]),ht.ev (x:=x) (by rw[dj];simp[bY])]
 ·rename_i x i dj;refine nY (F:=λt=>Out.opt ((t.ev x).list[i]?)) (λt=>by unfold pE;rw[dj]) (λt ht=> ?_) abr;rw[(one x (by rw[dj];rfl) t ht).1]
 ·rename_i T dj;have EP:=he;unfold FD at EP;split at EP
  ·rename_i K V kt vt q hm hd;obtain⟨h1,h2⟩:=aG.1 EP;obtain rfl:=ay.1 h2;refine vV (ids:=[]) hd h1 (λ_ h=>by cases h) λt ht hv=> ?_
   unfold pE;rw[dj];simp only;unfold FD;simp only[hm,hd];exact aG.2 ⟨hv,ay.2 rfl⟩
  ·exact(aw.1 EP).elim
 ·rename_i T x i ok dj;refine nY (F:=λt=>Dx P t T (t.ev x) (t.ev i) ok) (λt=>by unfold pE;rw[dj]) (λt ht=> ?_) abr;have hx:x∈o.op.operands.toList:=by rw[dj];simp[bY]
  rw[ht.ev (x:=i) (by rw[dj];simp[bY]),ht.ev hx];exact Xt λid de=>ht.adC (Zu dj rfl) hx de
 ·rename_i T m k x dj;obtain⟨s1,h1,h2⟩:=ax.1 he;obtain rfl:=ay.1 h2;obtain⟨id,e0,e,de,hs,rfl,hl⟩:=Xx h1;refine Dw hs ?_ λt ht afA=> ?_
  ·show id∈writes Γ s o;unfold writes;rw[dj];simp only[de,bw]
  ·unfold pE;rw[dj];simp only;rw[ht.ev (x:=m) (by rw[dj];simp[bY]),ht.ev (x:=k) (by rw[dj];simp[bY]),ht.ev (x:=x) (by rw[dj];simp[bY])];exact ax.2 ⟨_,hl t afA,ay.2 rfl⟩
 ·rename_i T m dj;have EP:=he;unfold OU at EP;split at EP
  ·rename_i K V kt vt id ver q hm hv hd;obtain⟨l,h1,h2⟩:=ax.1 EP;obtain⟨h3,h4⟩:=aG.1 h2;obtain rfl:=ay.1 h4;simp only[av]at h3;obtain⟨hu,hq⟩:=h3;have cP:=ajS h1;obtain⟨fr,cP⟩:=cP;obtain rfl:=Af cP hu;have hf:∀t:AS,t.bU id=s.bU id->t.bt [id]=t.aZ id (.obj ver aT (.mp kt vt l)):=λt ht=>by show t.freeze id=_;unfold AS.freeze;rw[ht,cP]
   have aGH:m∈o.op.operands.toList:=by rw[dj];simp[bY]
   have hw:id∈writes Γ s o:=by unfold writes;rw[dj];simp only[hv,aD.ids,bw]
   rw[<-hf s rfl];refine vV (ids:=[id]) hd hq (λi hi=> ?_) λt ht aEf=> ?_
   ·rw[bw.1 hi];exact bC.2 (.inr hw)
   ·have afA:t.bU id=s.bU id:=ht.ws id hw;unfold pE;rw[dj];simp only;unfold OU;rw[ht.ev aGH];simp only[hm,hv,hd];rw[hf t afA];exact ax.2 ⟨l,by rw[FE afA];exact h1,aG.2 ⟨by rw[B3 afA,hu,aEf];rfl,ay.2 rfl⟩⟩
  ·simp only[aw]at EP
 ·rename_i c dj;obtain⟨cal,args,tys⟩:=c;simp only at he;split at he
  ·split at he
   ·rename_i m k T T2 ha ht';have aGH:m∈o.op.operands.toList:=by rw[dj];simp only[bY,ej,aY,bZ,ha];simp
    have au2:k∈o.op.operands.toList:=by rw[dj];simp only[bY,ej,aY,bZ,ha];simp
    obtain⟨s1,h1,h2⟩:=ax.1 he;obtain rfl:=ay.1 h2;obtain⟨id,e0,e,de,hs,rfl,hl⟩:=Xw h1;refine Dw hs ?_ λt ht afA=> ?_
    ·show id∈writes Γ s o;unfold writes;rw[dj];simp only[ha,de,bw]
    ·unfold pE;rw[dj];simp only[ha,ht'];rw[ht.ev aGH,ht.ev au2];exact ax.2 ⟨_,hl t afA,ay.2 rfl⟩
   ·exact(aw.1 he).elim
  ·split at he
   ·rename_i x y T X ha ht';exact aiT dj rfl ha ht' he
   ·exact(aw.1 he).elim
  ·split at he
   ·rename_i x T ha ht';refine nY (F:=λt=>aAx P T (t.ev x)) (λt=>by unfold pE;rw[dj];simp only[ha,ht']) (λt ht=> ?_) abr;rw[ht.ev (by rw[dj];simp only[bY,ej,aY,bZ,ha];simp)]
   ·exact(aw.1 he).elim
  ·split at he
   ·rename_i x y T X ha ht';have au3:x∈o.op.operands.toList:=by rw[dj];simp only[bY,ej,aY,bZ,ha];simp
    have aFu:y∈o.op.operands.toList:=by rw[dj];simp only[bY,ej,aY,bZ,ha];simp
    split at he
    ·rename_i k n hx hy;have EP:=he;unfold afl at EP;split at EP
     ·rename_i e t0 b q kn Hz hd hX;obtain⟨h1,h2⟩:=aG.1 EP;obtain⟨h3,h4⟩:=bS.1 h2;obtain rfl:=ay.1 h4;refine vV (ids:=[]) hd h1 (λ_ h=>by cases h) λt ht hv=> ?_
      unfold pE;rw[dj];simp only[ha,ht',ht.ev au3,ht.ev aFu,hx,hy];unfold afl;simp only[Hz,hd,hX];exact aG.2 ⟨hv,bS.2 ⟨h3,ay.2 rfl⟩⟩
     ·exact(aw.1 EP).elim
    ·rename_i gj;exact aap dj rfl ha ht' gj he
   ·exact(aw.1 he).elim
  ·split at he
   ·rename_i x T ha ht';have au3:x∈o.op.operands.toList:=by rw[dj];simp only[bY,ej,aY,bZ,ha];simp
    split at he
    ·rename_i e hx hT;obtain rfl:=ay.1 he;refine lp λt ht=> ?_
     unfold pE;rw[dj];simp only[ha,ht',ht.ev au3,hx,hT];rfl
    ·exact(aw.1 he).elim
   ·exact(aw.1 he).elim
  ·refine nY (F:=λt=>ap9 aT (args.toList.map t.ev)) (λt=>by unfold pE;rw[dj]) (λt ht=> ?_) abr;congr 1;exact hZ λx hx=>ht.ev (by rw[dj];simp only[bY,ej,aY,bZ];exact hx)
  ·refine nY (F:=λt=>ap9 aR (args.toList.map t.ev)) (λt=>by unfold pE;rw[dj]) (λt ht=> ?_) abr;congr 1;exact hZ λx hx=>ht.ev (by rw[dj];simp only[bY,ej,aY,bZ];exact hx)
  ·split at he
   ·rename_i x ha;have au3:x∈o.op.operands.toList:=by rw[dj];simp only[bY,ej,aY,bZ,ha];simp
    split at he
    ·rename_i id ver len hx;obtain⟨h1,h2⟩:=bS.1 he;obtain rfl:=ay.1 h2;refine lp λt ht=> ?_
     unfold pE;rw[dj];simp only[ha,ht.ev au3,hx];exact bS.2 ⟨h1,rfl⟩
    ·exact(aw.1 he).elim
   ·exact(aw.1 he).elim
  ·split at he
   ·rename_i x y T U ha ht';have au3:x∈o.op.operands.toList:=by rw[dj];simp only[bY,ej,aY,bZ,ha];simp
    have aFu:y∈o.op.operands.toList:=by rw[dj];simp only[bY,ej,aY,bZ,ha];simp
    split at he
    ·rename_i id ver n hx hy;have EP:=he;unfold ahC at EP;split at EP
     ·rename_i v e l u kA hT;obtain⟨h1,h2⟩:=aG.1 EP;obtain⟨h3,h4⟩:=bS.1 h2;obtain rfl:=ay.1 h4;refine Dw (dZ kA) ?_ λt ht afA=> ?_
      ·show id∈writes Γ s o;unfold writes;rw[dj];simp only[ha,hx];simp[aD.ids]
      ·have hob':t.obj id=ao (v,aR,.vec e (.int .u8) l):=by simp only[AS.obj,afA];exact kA
       unfold pE;rw[dj];simp only[ha,ht',ht.ev au3,ht.ev aFu,hx,hy];unfold ahC;simp only[hob',hT];exact aG.2 ⟨h1,bS.2 ⟨h3,ay.2 rfl⟩⟩
     ·exact(aw.1 EP).elim
    ·exact(aw.1 he).elim
   ·exact(aw.1 he).elim
  ·rename_i F _;split at he
   ·rename_i f caps hF;split at he
    ·rename_i en ajm;obtain⟨je,he⟩:=aG.1 he;exact aiN dj rfl hF ajm je he
    ·exact(aw.1 he).elim
   ·exact(aw.1 he).elim
  ·exact(aw.1 he).elim
 ·exact(aw.1 he).elim
end
end Go.Ab
namespace Go.Ab
section
variable {P:aM} {Γ:qi} {bN:List Nat} {ops:Array Oper} {o:Oper} {s t:AS}
def Loc(P:aM)(Γ:qi)(bN:List Nat)(ops:Array Oper)(o:Oper)(s s':AS):Prop:=∃E,App o.dst E s s'/\aam (gK Γ ops s o) s E/\∀t,mr (gK Γ ops s o) s t->∃t',Hx P Γ bN ops o t=ao t'/\App o.dst E t t'
theorem TM{s':AS}(he:Hx P Γ bN ops o s=ao s'):Loc P Γ bN ops o s s':=by
 unfold Hx at he;split at he
 ·rename_i hg;obtain⟨E,h1,h2,h3⟩:=Yq (ops:=ops) he;refine⟨E,h1,h2,λt ht=> ?_⟩;obtain⟨t',h4,h5⟩:=h3 t ht;exact⟨t',by unfold Hx;simp only[hg];exact h4,h5⟩
 ·rename_i j want hg;split at he
  ·rename_i q hq;split at he
   ·rename_i b hb;have asr:∀t,mr (gK Γ ops s o) s t->t.slot q= .d .bool b:=λt ht=>by rw[ht.ct q (bC.2 (.inr (by unfold Oh;simp only[hg,hq];simp)))];exact hb
    by_cases e:b=want
    ·rw[if_pos e]at he;obtain⟨E,h1,h2,h3⟩:=Yq (ops:=ops) he;refine⟨E,h1,h2,λt ht=> ?_⟩;obtain⟨t',h4,h5⟩:=h3 t ht;exact⟨t',by unfold Hx;simp only[hg,hq,asr t ht,if_pos e];exact h4,h5⟩
    ·rw[if_neg e]at he;simp only[az]at he;subst he;exact⟨⟨.nil,λ_=>aJ,[]⟩,App.Hi _ _ _,⟨λ_ _ h=>by simp at h,λ_ h=>by simp at h⟩,λt ht=>⟨_,by unfold Hx;simp only[hg,hq,asr t ht,if_neg e],App.Hi _ _ _⟩⟩
   ·rename_i hb;have asr:∀t,mr (gK Γ ops s o) s t->t.slot q= .nil:=λt ht=>by rw[ht.ct q (bC.2 (.inr (by unfold Oh;simp only[hg,hq];simp)))];exact hb
    simp only[az]at he;subst he;exact⟨⟨.nil,λ_=>aJ,[]⟩,App.Hi _ _ _,⟨λ_ _ h=>by simp at h,λ_ h=>by simp at h⟩,λt ht=>⟨_,by unfold Hx;simp only[hg,hq,asr t ht],App.Hi _ _ _⟩⟩
   ·cases he
  ·cases he
theorem adp(h:mr (gK Γ ops s o) s t):writes Γ t o=writes Γ s o:=by
 have ayP:∀id∈writes Γ s o,t.bU id=s.bU id:=h.ws;unfold writes at ayP ⊢;split
 ·rename_i x v dj;rw[h.ev (by rw[dj];simp[bY])]
 ·rename_i m k v dj;rw[h.ev (by rw[dj];simp[bY])]
 ·rename_i m dj;rw[h.ev (by rw[dj];simp[bY])]
 ·rename_i T U x dj;rw[h.ev (by rw[dj];simp[bY])]
 ·rename_i c dj;obtain⟨cal,args,tys⟩:=c;simp only[dj]at ayP;simp only;split
  ·split
   ·rename_i x l ha;rw[h.ev (by rw[dj];simp only[bY,ej,aY,bZ,ha];simp)]
   ·rfl
  ·split
   ·rename_i x l ha;rw[h.ev (by rw[dj];simp only[bY,ej,aY,bZ,ha];simp)]
   ·rfl
  ·split
   ·rename_i x l ha;rw[h.ev (by rw[dj];simp only[bY,ej,aY,bZ,ha];simp)]
   ·rfl
  ·split
   ·rename_i x l ha;rw[h.ev (by rw[dj];simp only[bY,ej,aY,bZ,ha];simp)]
   ·rfl
  ·rename_i F;simp only at ayP;have hm:∀z,z=F\/z∈args.toList->z∈o.op.operands.toList:=λz hz=>by
    rw[dj];simp only[bY,ej,bZ,bC];rcases hz with rfl | hz
    ·exact .inl (by simp)
    ·exact .inr hz
   have h1:t.ev F=s.ev F:=h.ev (hm F (.inl rfl));have h2:args.toList.map t.ev=args.toList.map s.ev:=hZ λx hx=>h.ev (hm x (.inr hx))
   rw[h1];split
   ·rename_i f caps hF;simp only[hF]at ayP;rw[h2];split
    ·rename_i en ajm;simp only[ajm]at ayP;exact wg _ _ _ λid de=>by rw[ayP id de]
    ·rfl
   ·rfl
  ·rfl
 ·rfl
theorem TF(h:mr (gK Γ ops s o) s t):gK Γ ops t o=gK Γ ops s o:=by
 have h1:=adp h;have h2:agn t o=agn s o:=by
  unfold agn;split
  ·rfl
  unfold List.flatMap;congr 1;exact hZ λi hi=>by rw[h.ct i (bC.2 (.inl hi))]
 unfold gK;rw[h1,h2]
theorem vX{xs ys:List Id}(h:meets xs ys=aR){id:Id}(hx:id∈xs):id ∉ ys:=by
 intro hy;have:meets xs ys=aT:=by unfold meets;exact List.any_eq_true.2 ⟨id,hx,List.any_eq_true.2 ⟨id,hy,by simp⟩⟩
 rw[h]at this;cases this
theorem tP{d:Option Tmp}{ids:List Id}(h:We d ids=aR){q:Nat}(hd:d=ao q)(j:Nat):Id.new q j ∉ ids:=by
 intro hy;have:We d ids=aT:=by subst hd;exact List.any_eq_true.2 ⟨_,hy,by simp⟩
 rw[h]at this;cases this
theorem Hb{f g:ER}(h:f.aGx g=aR){q:Nat}(hd:f.dst=ao q):q ∉ g.ct/\g.dst≠ao q:=by unfold ER.aGx at h;rw[hd]at h;simp only[Bool.or_eq_false_iff,jl,aW,gJ]at h;exact⟨λhx=>h.1 q hx rfl,h.2⟩
theorem ahp(s:AS)(d:Option Tmp)(v:aD)(i:Nat)(h:d≠ao i):(s.put d v).slot i=s.slot i:=by
 cases d with
 |none=>rfl
 |some q=>rw[Wh,if_neg];rintro⟨rfl,_⟩;exact h rfl
theorem App.slot{d:Option Tmp}{E:aFj}{s s':AS}(h:App d E s s')(i:Nat)(hi:d≠ao i):s'.slot i=s.slot i:=by rw[<-ahp s d E.v i hi];simp only[AS.slot,h.ct]
theorem adJ{f f':ER}{E:aFj}{s s1:AS}(ha:App f.dst E s s1)(hw:aam f s E)(aJj:∀id∈f'.ws,id∈f'.rs)(h1:f.aGx f'=aR)(h2:meets f.ws f'.rs=aR)(h3:meets f'.ws f.rs=aR)
  (h4:We f.dst f'.rs=aR):(∀i∈f'.ct,s1.slot i=s.slot i)/\(∀id∈f'.ws,s1.bU id=s.bU id)/\(∀id∈f'.rs,yH (s1.bU id) (s.bU id))/\∀q,f'.dst=ao q->s1.ez q=s.ez q:=by
 have Rx:∀id∈f'.rs,E.up id=aJ:=λid de=>by
  cases hu:E.up id with
  |none=>rfl
  |some e=>
   rcases hw.up id e hu with⟨h,_⟩ | ⟨q,j,hd,rfl⟩
   ·exact absurd de (vX h2 h)
   ·exact absurd de (tP h4 hd j)
 refine⟨λi hi=>ha.slot i λhd=>(Hb h1 hd).1 hi,λid de=> ?_,λid de=> ?_,λq hq=> ?_⟩
 ·rw[ha.bU,Rx id (aJj id de)];have:id ∉ E.fz:=λhz=>vX h3 de (hw.fz id hz)
  simp only[if_neg this]
 ·rw[ha.bU,Rx id de];simp only;split
  ·exact arD _
  ·exact arE _
 ·have gj:∀j,(s1.bU (.new q j)=aJ↔s.bU (.new q j)=aJ):=λj=>by
   rw[ha.bU];cases hu:E.up (.new q j) with
   |none=>
    simp only;split <;> simp
   |some e=>
    rcases hw.up _ e hu with⟨_,h⟩ | ⟨q',j',hd,he⟩
    ·simp[h]
    ·simp only[Id.new.injEq]at he;obtain⟨rfl,_⟩:=he;exact absurd hq (Hb h1 hd).2
  rw[Bool.eq_iff_iff,Ah,Ah,ha.len];exact and_congr Iff.rfl (forall_congr' gj)
theorem Fm(s:AS)(o:Oper):∀id∈(gK Γ ops s o).ws,id∈(gK Γ ops s o).rs:=λ_ de=>bC.2 (.inr de)
theorem swap{o':Oper}{s1 s2:AS}(h1:Hx P Γ bN ops o s=ao s1)(h2:Hx P Γ bN ops o' s1=ao s2)(hi:(gK Γ ops s o).indep (gK Γ ops s1 o')=aT):
  ∃t1,Hx P Γ bN ops o' s=ao t1/\Hx P Γ bN ops o t1=ao s2/\gK Γ ops s o'=gK Γ ops s1 o'/\gK Γ ops t1 o=gK Γ ops s o:=by
 unfold ER.indep at hi;simp only[av,cv]at hi;obtain⟨⟨⟨⟨⟨i1,i2⟩,i3⟩,i4⟩,i5⟩,i6⟩:=hi;obtain⟨E,a1,w1,l1⟩:=TM h1;obtain⟨E',a2,w2,l2⟩:=TM h2;obtain⟨g1,g2,g3,g4⟩:=adJ (f:=gK Γ ops s o) (f':=gK Γ ops s1 o') a1 w1 (Fm _ _) i1 i3 i4 i5;have Kv:mr (gK Γ ops s1 o') s1 s:=⟨λi hi=>(g1 i hi).symm,λid de=>(g2 id de).symm,λid de=>by
  have:=g3 id de
  revert this
  cases s1.bU id <;> cases s.bU id <;> simp only[yH] <;> intro h <;> first | trivial | exact h | skip
  rename_i a b;cases a <;> cases b <;> simp_all [dU.adC],λq hq=>(g4 q hq).symm⟩
 obtain⟨t1,k1,k2⟩:=l2 s Kv;have hf':=TF Kv;have w2':aam (gK Γ ops s1 o') s E':=⟨λid e hu=>by
  rcases w2.up id e hu with⟨h,hn⟩ | h
  ·exact .inl ⟨h,by rw[<-g2 id h];exact hn⟩
  ·exact .inr h,w2.fz⟩
 obtain⟨m1,m2,m3,m4⟩:=adJ (f:=gK Γ ops s1 o') (f':=gK Γ ops s o) k2 w2' (Fm _ _) i2 i4 i3 i6;have aF7:mr (gK Γ ops s o) s t1:=⟨m1,m2,m3,m4⟩;obtain⟨t2,k3,k4⟩:=l1 t1 aF7;refine⟨t1,k1,?_,hf',TF aF7⟩;rw[k3];congr 1;have aGV:∀id e,E.up id=ao e->E'.up id=aJ/\id ∉ E'.fz:=λid e hu=>by
  rcases w1.up id e hu with⟨h,hn⟩ | ⟨q,j,hd,rfl⟩
  ·refine⟨?_,λhz=>vX i3 h (w2.fz id hz)⟩;cases hu':E'.up id with
   |none=>rfl
   |some e'=>
    rcases w2.up id e' hu' with⟨h',_⟩ | ⟨q,j,hd,rfl⟩
    ·exact absurd (Fm _ _ id h') (vX i3 h)
    ·exact absurd (Fm _ _ _ h) (tP i6 hd j)
  ·refine⟨?_,λhz=>tP i5 hd j (w2.fz _ hz)⟩;cases hu':E'.up (.new q j) with
   |none=>rfl
   |some e'=>
    rcases w2.up _ e' hu' with⟨h',_⟩ | ⟨q',j',hd',he⟩
    ·exact absurd (Fm _ _ _ h') (tP i5 hd j)
    ·simp only[Id.new.injEq]at he;obtain⟨rfl,_⟩:=he;exact absurd hd' (Hb i1 hd).2
 have aJq:∀id e,E'.up id=ao e->E.up id=aJ/\id ∉ E.fz:=λid e hu=>by
  have hn:E.up id=aJ:=by
   cases aLD:E.up id with
   |none=>rfl
   |some e1=>rw[(aGV id e1 aLD).1]at hu;cases hu
  refine⟨hn,λhz=> ?_⟩;rcases w2.up id e hu with⟨h,_⟩ | ⟨q,j,hd,rfl⟩
  ·exact vX i4 h (w1.fz id hz)
  ·exact tP i6 hd j (w1.fz _ hz)
 refine AS.auy ?_ (by rw[k4.len,k2.len,a2.len,a1.len]) λid=> ?_
 ·have e1:∀(u u':AS) (d:Option Tmp) (v:aD),u.ct=u'.ct->(u.put d v).ct=(u'.put d v).ct:=λu u' d v h=>by cases d <;> simp[AS.put,h]
  rw[k4.ct,a2.ct,e1 t1 (s.put o'.dst E'.v) _ _ k2.ct,e1 s1 (s.put o.dst E.v) _ _ a1.ct];cases hd:o.dst with
  |none=>cases o'.dst <;> rfl
  |some q=>
   cases hd':o'.dst with
   |none=>rfl
   |some q'=>
    have gj:q'≠q:=λe=>(Hb (f:=gK Γ ops s o) i1 hd).2 (by show o'.dst=ao q;rw[hd',e])
    simp only[AS.put];exact List.set_comm _ _ gj
 ·rw[k4.bU,k2.bU,a2.bU,a1.bU];cases hu:E.up id with
  |some e=>
   obtain⟨h3,h4⟩:=aGV id e hu;simp only[h3,if_neg h4]
  |none=>
   simp only;cases hu':E'.up id with
   |some e=>
    obtain⟨_,h4⟩:=aJq id e hu';simp only[if_neg h4]
   |none=>
    simp only;by_cases z1:id∈E.fz <;> by_cases z2:id∈E'.fz <;> simp only[if_pos,if_neg,z1,z2,not_false_eq_true]
end
end Go.Ab
namespace Go.Ab
section
variable {P:aM} {Γ:qi} {bN:List Nat} {ops:Array Oper}
def adF(P:aM)(Γ:qi)(bN:List Nat)(ops:Array Oper)(fs:Nat->ER):List Nat->AS->AS->Prop
 |[],s,sn=>s=sn
 |i::l,s,sn=>∃o,ops[i]? =ao o/\gK Γ ops s o=fs i/\∃s',Hx P Γ bN ops o s=ao s'/\adF P Γ bN ops fs l s' sn
theorem adF.atj{fs:Nat->ER}{i:Nat}{l2:List Nat}{sn:AS}:∀(l1:List Nat) {s:AS},adF P Γ bN ops fs (l1++i::l2) s sn->(∀j∈l1,(fs j).indep (fs i)=aT)->adF P Γ bN ops fs (i::(l1++l2)) s sn
 |[],_,h,_=>h
 |j::l1,s,h,hi=>by
  obtain⟨oj,h1,h2,s1,h3,h4⟩:=h;obtain⟨oi,h5,h6,s2,h7,h8⟩:=adF.atj l1 h4 λj hj=>hi j (aL _ hj)
  have hd:=hi j (aK ..);rw[<-h2,<-h6]at hd;obtain⟨t1,k1,k2,k3,k4⟩:=swap h3 h7 hd;exact⟨oi,h5,by rw[k3,h6],t1,k1,oj,h1,by rw[k4,h2],s2,k2,h8⟩
theorem Y6{R:Type}{anc:List Nat}{k:AS->Option R}{r:R}:∀(l:List Oper) (i:Nat) (acc:List (Nat×ER)) (s:AS) (f0:Nat->ER),(∀n o,l[n]? =ao o->ops[i+n]? =ao o)->(∀x∈acc,f0 x.1=x.2/\x.1 < i)->
  Y5 P Γ bN ops anc i l acc s k=ao r->∃fs sn,(∀j,j < i->fs j=f0 j)/\adF P Γ bN ops fs (List.range' i l.length) s sn/\k sn=ao r/\
   (∀x∈acc,∀m,i<=m->m < i+l.length->(anc.getD m 0).testBit x.1=aT\/x.2.indep (fs m)=aT)/\(∀m1 m2,i<=m1->m1 < m2->m2 < i+l.length->(anc.getD m2 0).testBit m1=aT\/(fs m1).indep (fs m2)=aT)
 |[],i,acc,s,f0,_,_,h=>⟨f0,s,λ_ _=>rfl,rfl,h,λ_ _ m h1 h2=>by simp at h2;omega,λ_ _ h1 h2 h3=>by simp at h3;omega⟩
 |o::l,i,acc,s,f0,ho,hf,h=>by
  unfold Y5 at h;split at h
  ·rename_i vS;simp only[AS.M9]at h;obtain⟨s',h1,h2⟩:=afk (k:=λs'=>Y5 P Γ bN ops anc (i+1) l ((i,gK Γ ops s o)::acc) s' k) h;have aIA:∀x∈(i,gK Γ ops s o)::acc,(if x.1=i then gK Γ ops s o else f0 x.1)=x.2/\x.1 < i+1:=λx hx=>by
    rcases cj.1 hx with rfl | hx
    ·simp
    ·obtain⟨q1,q2⟩:=hf x hx;rw[if_neg au];exact⟨q1,au⟩
   obtain⟨fs,sn,g1,g2,g3,g4,g5⟩:=Y6 l (i+1) ((i,gK Γ ops s o)::acc) s' (λn=>if n=i then gK Γ ops s o else f0 n)
    (λn o' hn=>by have:=ho (n+1) o' (by simpa using hn);rw[<-this];congr 1;omega) aIA h2
   have gi:fs i=gK Γ ops s o:=by rw[g1 i au,if_pos rfl]
   refine⟨fs,sn,λj hj=>by rw[g1 j au,if_neg au],?_,g3,λx hx m h3 h4=> ?_,λm1 m2 h3 h4 h5=> ?_⟩
   ·rw[aH,List.range'_succ];exact⟨o,ho 0 o rfl,gi.symm,s',h1,g2⟩
   ·rcases Nat.eq_or_lt_of_le h3 with rfl | h3
    ·have:=cS.1 vS x hx;simp only[ij]at this;rcases this with h | h
     ·exact .inl h
     ·right;rw[gi];exact h
    ·exact g4 x (aL _ hx) m au (by simp only[aH]at h4;omega)
   ·rcases Nat.eq_or_lt_of_le h3 with rfl | h3
    ·rw[gi];exact g4 (i,gK Γ ops s o) (aK ..) m2 au (by simp only[aH]at h5;omega)
    ·exact g5 m1 m2 au h4 (by simp only[aH]at h5;omega)
  ·cases h
theorem adO{acc:List Nat}{j:Nat}:∀ {l:List Edge},(l.foldr (λe m=>Nat.lor (Nat.lor (Nat.pow 2 e.on) (acc.getD e.on 0)) m) 0).testBit j=aT->∃e∈l,j=e.on\/(acc.getD e.on 0).testBit j=aT
 |[],h=>by simp at h
 |e::l,h=>by
  rw[List.foldr_cons,show ∀x y,Nat.lor x y=x ||| y from λ_ _=>rfl,show ∀x y,Nat.lor x y=x ||| y from λ_ _=>rfl,Nat.testBit_or,Nat.testBit_or,show Nat.pow 2 e.on=2^e.on from rfl,Nat.testBit_two_pow]at h;simp only[ij,aW]at h;rcases h with(h | h) | h
  ·exact⟨e,aK ..,.inl h.symm⟩
  ·exact⟨e,aK ..,.inr h⟩
  ·obtain⟨e',h1,h2⟩:=adO h;exact⟨e',aL _ h1,h2⟩
theorem Yp:∀(l:List Oper) (acc:List Nat),(∀i,i < acc.length->(l.foldl (λacc o=>acc++ [aan acc o]) acc)[i]? =acc[i]?)/\
  ∀i o,l[i]? =ao o->(l.foldl (λacc o=>acc++ [aan acc o]) acc)[acc.length+i]? =ao (aan ((l.foldl (λacc o=>acc++ [aan acc o]) acc).take (acc.length+i)) o)
 |[],acc=>⟨λ_ _=>rfl,λi o h=>by simp at h⟩
 |x::l,acc=>by
  obtain⟨h1,h2⟩:=Yp l (acc++ [aan acc x]);simp only[aX];refine⟨λi hi=> ?_,λi o hi=> ?_⟩
  ·rw[h1 i (by simp;omega),fq hi]
  ·cases i with
   |zero=>
    simp only[fQ,az]at hi;subst hi;rw[cX,h1 _ (by simp)];have:(l.foldl (λacc o=>acc++ [aan acc o]) (acc++ [aan acc x])).take acc.length=acc:=by
     apply kT;intro j;rw[c9];split
     ·rename_i hj;rw[h1 j (by simp;omega),fq hj]
     ·rename_i hj;rw[dP au]
    rw[this];simp
   |succ i=>
    have:=h2 i o (by simpa using hi);simp only[ak,aH,bB,bg]at this;rw[show acc.length+(i+1)=acc.length+1+i by omega];exact this
theorem asK{l:List Oper}{i:Nat}{o:Oper}(hi:l[i]? =ao o){j:Nat}(hj:((adP l).getD i 0).testBit j=aT):∃e∈o.after.toList,Region.binds .any e=aT/\(j=e.on\/((adP l).getD e.on 0).testBit j=aT):=by
 have h:=(Yp l []).2 i o hi;have e:adP l=l.foldl (λacc o=>acc++ [aan acc o]) []:=rfl;rw[<-e]at h;simp only[bB,bg]at h;rw[aI,h]at hj;obtain⟨e,h1,h3⟩:=adO hj;obtain⟨h1,h2⟩:=nv.1 h1;refine⟨e,h1,h2,h3.imp id λh4=> ?_⟩;rw[aI,c9]at h4;split at h4
 ·rw[aI];exact h4
 ·simp at h4
def aab(n:Nat)(listed:Array Bool):List Nat:=(List.range n).filter λi=> !listed.getD i aT
theorem Mc{n:Nat}{listed:Array Bool}{i:Nat}:i∈aab n listed↔i < n/\listed.getD i aT=aR:=by simp[aab]
theorem Kr(n:Nat)(listed:Array Bool):(aab n listed).Pairwise (· < ·):=(List.pairwise_lt_range).filter _
theorem TK{listed:Array Bool}{i j:Nat}(d:Bool)(hi:i < listed.size):(listed.setIfInBounds i aT).getD j d=if j=i then aT else listed.getD j d:=by
 simp only[cQ,ek];by_cases h:i=j
 ·subst h;simp[hi]
 ·simp[h,Ne.symm h]
theorem aBW{listed:Array Bool}{i:Nat}(hi:i < listed.size){l1 l2:List Nat}(h:aab listed.size listed=l1++i::l2):aab listed.size (listed.setIfInBounds i aT)=l1++l2:=by
 have hs:=Kr listed.size listed;rw[h]at hs;obtain⟨p1,p2,p3⟩:=List.pairwise_append.1 hs;obtain⟨p4,_⟩:=List.pairwise_cons.1 p2;have e:aab listed.size (listed.setIfInBounds i aT)=(aab listed.size listed).filter λj=>decide (j≠i):=by
  unfold aab;rw[List.filter_filter];refine List.filter_congr λj _=> ?_
  rw[TK aT hi];by_cases hj:j=i
  ·simp[hj]
  ·simp[hj]
 rw[e,h,List.filter_append,List.filter_cons];have f1:l1.filter (λj=>decide (j≠i))=l1:=jt.2 λj hj=>by have:=p3 j hj i (aK ..);simp;omega
 have f2:l2.filter (λj=>decide (j≠i))=l2:=jt.2 λj hj=>by have:=p4 j hj;simp;omega
 rw[f1,f2];simp
theorem an0{rd:Option Nat}{n:Nat}{C:Ctx}(hΓ:Sound P Γ){fs:Nat->ER}{sn:AS}{Q:Exit->Act->bW->Prop}(hE:aa8 ops.toList=aT)
  (aIT:∀m1 m2,m1 < m2->m2 < ops.size->((adP ops.toList).getD m2 0).testBit m1=aT\/(fs m1).indep (fs m2)=aT) (hQ:∀a w,gT C sn a w->Q .normal a w):
  ∀(fuel:Nat) (listed:Array Bool) (s:AS) (a:Act) (w:bW),listed.size=ops.size->(aab ops.size listed).length=fuel->
   (∀i,i < ops.size->listed.getD i aT=aT->∀j,((adP ops.toList).getD i 0).testBit j=aT->listed.getD j aR=aT)->adF P Γ bN ops fs (aab ops.size listed) s sn->gT C s a w->wpAnyIn (Fr rd) n P .any ops Q fuel listed a w:=by
 have aCm:∀i o,ops[i]? =ao o->∀e∈o.after.toList,Region.binds .any e=aT->e.on < i:=λi o hi e he hb=>by have:=cS.1 hE (o,i) (List.mem_zipIdx_iff_getElem?.2 (by simpa using hi));have:=cS.1 this e he;simpa[hb]using this
 have aD9:∀(listed:Array Bool),listed.size=ops.size->∀i,i∈Region.ready .any ops listed↔i∈aab ops.size listed/\∀o,ops[i]? =ao o->∀e∈o.after.toList,Region.binds .any e=aT->listed.getD e.on aR=aT:=λlisted _ i=>by
  rw[Mc];unfold Region.ready;simp only[nv,List.mem_range,av,cv];constructor
  ·rintro⟨h1,h2,h3⟩;refine⟨⟨h1,h2⟩,λo ho e he hb=> ?_⟩;rw[ho]at h3;simp only[eo,dz,Array.all_eq_true',ij,cv]at h3;rcases h3 e (by simpa using he) with h | h
   ·rw[hb]at h;cases h
   ·exact h
  ·rintro⟨⟨h1,h2⟩,h3⟩;refine⟨h1,h2,?_⟩;obtain⟨o,ho⟩:∃o,ops[i]? =ao o:=⟨ops[i],by simp[h1]⟩
   rw[ho];simp only[eo,dz,Array.all_eq_true',ij,cv];intro e he;cases hb:Region.binds .any e with
   |false=>exact .inl rfl
   |true=>exact .inr (h3 o ho e (by simpa using he) hb)
 have qh:∀(listed:Array Bool),listed.size=ops.size->Region.ready .any ops listed=[]->aab ops.size listed=[]:=λlisted hs hr=>by
  cases hu:aab ops.size listed with
  |nil=>rfl
  |cons i l=>
   exfalso;have hi:i∈aab ops.size listed:=by rw[hu];exact aK ..
   have aGS:=Kr ops.size listed;rw[hu]at aGS;have:i∈Region.ready .any ops listed:=(aD9 listed hs i).2 ⟨hi,λo ho e he hb=>by
    have je:=aCm i o ho e he hb;have afr:=(Mc.1 hi).1;cases hl:listed.getD e.on aT with
    |false=>
     have hm:e.on∈aab ops.size listed:=Mc.2 ⟨au,hl⟩;rw[hu]at hm;rcases cj.1 hm with h | h
     ·omega
     ·have:=(List.pairwise_cons.1 aGS).1 _ h;omega
    |true=>
     have:e.on < listed.size:=au;simp only[cQ,fp this,dz]at hl ⊢;exact hl⟩
   rw[hr]at this;cases this
 intro fuel
 induction fuel with
 |zero=>
  intro listed s a w hs hl _ hr nQ;have hn:aab ops.size listed=[]:=bu hl;refine⟨?_,?_⟩
  ·cases aFy:Region.ready .any ops listed with
   |nil=>rfl
   |cons i l=>
    have:i∈Region.ready .any ops listed:=by rw[aFy];exact aK ..
    have:=((aD9 listed hs i).1 this).1;rw[hn]at this;cases this
  ·rw[hn]at hr;have:s=sn:=hr;subst this;exact hQ a w nQ
 |succ fuel ih=>
  intro listed s a w hs hl asp hr nQ;refine⟨λaFy=> ?_,λi hi=> ?_⟩
  ·have:=qh listed hs aFy;rw[this]at hl;simp at hl
  ·obtain⟨hu,aGn⟩:=(aD9 listed hs i).1 hi;obtain⟨afr,aMd⟩:=Mc.1 hu;obtain⟨o,ho⟩:∃o,ops[i]? =ao o:=⟨ops[i],by simp[afr]⟩
   obtain⟨l1,l2,ajr⟩:=List.append_of_mem hu;have aGS:=Kr ops.size listed;rw[ajr]at aGS;have aF8:∀j,((adP ops.toList).getD i 0).testBit j=aT->listed.getD j aR=aT:=λj hj=>by
    obtain⟨e,he,hb,h | h⟩:=asK (by simpa using ho) hj
    ·rw[h];exact aGn o ho e he hb
    ·have h1:=aGn o ho e he hb;have h2:=aCm i o ho e he hb;refine asp e.on au ?_ j h
     have:e.on < listed.size:=au;simp only[cQ,fp this,dz]at h1 ⊢;exact h1
   rw[ajr]at hr;have hb:=adF.atj l1 hr λj hj=>by
    have je:j < i:=(List.pairwise_append.1 aGS).2.2 j hj i (aK ..);rcases aIT j i je afr with h | h
    ·have h1:=aF8 j h;have aLk:j∈aab ops.size listed:=by rw[ajr];exact bC.2 (.inl hj)
     have h2:=(Mc.1 aLk).2;have:j < listed.size:=au;simp only[cQ,fp this,dz]at h1 h2;rw[h1]at h2;cases h2
    ·exact h
   obtain⟨o',ho',hf,s',hg,pK⟩:=hb;obtain rfl:o=o':=by rw[ho]at ho';simpa using ho'
   have abw:aab ops.size (listed.setIfInBounds i aT)=l1++l2:=by rw[<-hs]at ajr ⊢;exact aBW au ajr
   refine((Y4 hΓ nQ hg).mono λa' w' hst'=>ih (listed.setIfInBounds i aT) s' a' w' (by simpa using hs) ?_ ?_ (by rw[abw];exact pK) hst').wpOpIn ho
   ·rw[abw];rw[ajr]at hl;simp only[ak,aH]at hl ⊢;omega
   ·intro m hm aHZ j hj;rw[TK aR au];split
    ·rfl
    ·rw[TK aT au]at aHZ;split at aHZ
     ·rename_i aLq;subst aLq;exact aF8 j hj
     ·exact asp m hm aHZ j hj
theorem ag0{rd:Option Nat}{n:Nat}{C:Ctx}(hm:P.follows .mixedOrders=aT)(hΓ:Sound P Γ){id:Nat}{R:Type}{Q:Exit->Act->bW->Prop}{s:AS}{a:Act}{w:bW}{k:AS->Option R}{r:R}(h:gT C s a w)(hE:aa8 ops.toList=aT)
  (he:Y5 P Γ bN ops (adP ops.toList) 0 ops.toList [] s k=ao r) (hk:∀s' a' w',gT C s' a' w'->k s'=ao r->Q .normal a' w'):(Code.region id ops aT).wpIn (Fr rd) n P Q a w:=by
 obtain⟨fs,sn,_,g2,g3,_,g5⟩:=Y6 ops.toList 0 [] s (λ_=>⟨aJ,[],[],[]⟩) (λn o hn=>by simpa using hn) (λ_ hx=>by cases hx) he;refine wpIn_region_any hm ?_
 obtain⟨g,β,h⟩:=h;have hu:aab ops.size (Array.replicate ops.size aR)=List.range' 0 ops.toList.length:=by
  unfold aab;rw[jt.2]
  ·simp[List.range_eq_range']
  ·intro i hi;have hi:i < ops.size:=by simpa using hi
   simp[cQ,hi]
 refine an0 (bN:=bN) hΓ hE (fs:=fs) (sn:=sn) (λm1 m2 h1 h2=>g5 m1 m2 (aN _) h1 (by simpa using h2)) (λa' w' hs=>hk sn a' w' hs g3) ops.size _ s a _ (by simp) (by rw[hu];simp) (λi hi hl=> ?_) (by rw[hu];exact g2) ⟨g,β,h.drew⟩;simp[cQ,hi]at hl
end
end Go.Ab
namespace Go.Ab
theorem wj{ρ:Ren}{s:AS}(h:∀id,(s.obj id).isSome=aT->∀ver,ρ id ver=ao (id,ver)):∀(v:aD),v.there s=aT->v.iJ ρ=v
 | .ptr id ver p n,ht=>by simp only[aD.iJ];rw[h id ht]
 | .b8 id ver p c i len,ht=>by simp only[aD.iJ];rw[h id ht]
 | .pr a b,ht=>by simp only[aD.there,av]at ht;simp only[aD.iJ];rw[wj h a ht.1,wj h b ht.2]
 | .cons a b,ht=>by simp only[aD.there,av]at ht;simp only[aD.iJ];rw[wj h a ht.1,wj h b ht.2]
 | .fn f c,ht=>by simp only[aD.iJ];rw[wj h c ht]
 | .bx e z c,ht=>by simp only[aD.iJ];rw[wj h c ht]
 | .cO id ver,ht=>by simp only[aD.iJ];rw[h id ht]
 | .yl id ver,ht=>by simp only[aD.iJ];rw[h id ht]
 | .yZ k f p,ht=>by simp only[aD.iJ];rw[wj h f ht]
 | .qo ..,ht=>by cases ht
 | .undef,_ | .gone,_ | .dH,_ | .kh,_ | .vY,_ | .By,_ | .d _ _,_ | .eI _ _,_ | .nil,_ | .vec ..,_ | .mp ..,_ | .sb _,_=>rfl
theorem aC4.bp{E E':Env}(hm:sU E E')(hh:∀b:Nat,E'.w.heap[b]? =E.w.heap[b]?){i q:Id}{ver:Nat}{kt vt:Ty}{rest:List (kt.den×vt.den)}{cur:Option (kt.den×vt.den)}(h:aC4 E i q ver kt vt rest cur)(hβ:E'.β i=E.β i)
  (hg:∀pl,E.β i=ao pl->E.g pl.b= .own (.id i) 0->E'.g pl.b= .own (.id i) 0)
  (hq:∀vr,ver=vr+1->(E.Eg q vr->E'.Eg q vr/\(E'.cur q vr->E.cur q vr/\E'.β q=E.β q))/\(∀k v l,E.s q=ao (.obj vr aT (.mp k v l))->E'.s q=ao (.obj vr aT (.mp k v l)))/\
   ∀pl,E.β q=ao pl->E.g pl.b= .own (.id q) 0->E'.g pl.b= .own (.id q) 0):aC4 E' i q ver kt vt rest cur:=by
 obtain⟨pl,mb,since,seen,c0,h1,h2,h3,h4⟩:=h;refine⟨pl,mb,since,seen,c0,by rw[hβ,h1],by rw[hh,h2],hg pl h1 h3,λvr ah3=> ?_⟩;obtain⟨h5,h6⟩:=h4 vr ah3;obtain⟨q1,q2,q3⟩:=hq vr ah3;obtain⟨b1,b2⟩:=q1 h5;refine⟨b1,λhc=> ?_⟩;obtain⟨c1,c2⟩:=b2 hc;obtain⟨⟨k,v,l,k0⟩,plq,es,clock,k1,k2,k3,k4,k5,k6,k7,k8,k9⟩:=h6 c1;exact⟨⟨k,v,l,q2 _ _ _ k0⟩,plq,es,clock,by rw[c2,k1],k2,by rw[hh,k3],q3 _ k1 k4,k5,k6,k7,k8.mono hm,λx hx=>
  let⟨e,se,a1,a2,a3,a4⟩:=k9 x hx
  ⟨e,se,a1,a2,a3,a4.mono hm⟩⟩
theorem ajC(c:aD):(∃q ver k v l cu,c= .qo q ver k v l cu)\/(∀ρ kp,c.arh ρ kp=c.iJ ρ)/\∀s v fr,dU.there s (.obj v fr c)=c.there s:=by cases c <;> first | exact .inl ⟨_,_,_,_,_,_,rfl⟩ | exact .inr ⟨λ_ _=>rfl,λ_ _ _=>rfl⟩
section
variable {P:aM} {C:Ctx} {g:Nat->lY} {β:Id->Option Pl} {s:AS} {a:Act} {w:bW}
theorem Inv.OZ(h:Inv C g β s a w)(hC:C.ok){s1:AS}{g1:Nat->lY}{β1:Id->Option Pl}(ρ:Ren)(hlen:s1.ct.length=s.ct.length)(ht:Trans w w g g1)(hle:y5 ρ (s.env w g β) (s1.env w g1 β1))
  (TR:∀i,VS (s1.env w g1 β1) (s1.slot i) (a.tmps.getD i undef))
  (cP:∀id ver fr c,s1.bU id=ao (.obj ver fr c)->vK (s1.env w g1 β1) id fr c\/∃id0 v0 c0,s.bU id0=ao (.obj v0 fr c0)/\c0.iJ ρ=c/\β1 id=β id0/\∀pl,β id0=ao pl->(∀k,g pl.b= .own (.id id0) k->g1 pl.b= .own (.id id) k)/\(g pl.b= .free->g1 pl.b= .free))
  (hold:∀k,(s.bU (.bF k)≠aJ->s1.bU (.bF k)≠aJ)/\(∀v fr c,s1.bU (.bF k)=ao (.obj v fr c)->∃c0,s.bU (.bF k)=ao (.obj v fr c0))/\β1 (.bF k)=β (.bF k)):Inv C g1 β1 s1 a w:=by
 refine⟨h.defers.mono ht,by rw[hlen];exact h.size,TR,λid ver fr c de=> ?_,h.trans.trans ht,?_⟩
 ·rcases cP id ver fr c de with ho | ⟨id0,v0,c0,h1,h2,h3,h4⟩
  ·exact ho
  have:=vL hle (h.bN id0 v0 fr c0 h1) (id':=id) h3 λpl hp=>⟨rfl,(h4 pl hp).1,(h4 pl hp).2⟩
  rw[h2]at this;exact this
 ·have hl:=h.le;have ho:∀id ver,C.E.Eg id ver->∃k,id= .bF k:=λid ver hb=>by
   cases id with
   |bF k=>exact⟨k,rfl⟩
   |new i j=>exact absurd (hC.1 i j) hb.1
  refine⟨hl.mem.trans (Trans.mem (E:=s.env w g β) (E':=s1.env w g1 β1) ht),λid ver hb=> ?_,λid ver hb hc=> ?_⟩
  ·obtain⟨k,rfl⟩:=ho id ver hb;obtain⟨h1,h2⟩:=hl.Eg _ ver hb;obtain⟨e1,e2,_⟩:=hold k;exact⟨e1 h1,λv fr c hh=>let⟨c0,R5⟩:=e2 v fr c hh;h2 v fr c0 R5⟩
  ·obtain⟨k,rfl⟩:=ho id ver hb;obtain⟨fr,c,hc⟩:=hc;obtain⟨_,e2,e3⟩:=hold k;obtain⟨c0,R5⟩:=e2 _ _ _ hc;obtain⟨h1,h2⟩:=hl.cur _ ver hb ⟨fr,c0,R5⟩;exact⟨h1,e3.trans h2⟩
theorem Inv.renamed(h:Inv C g β s a w)(hC:C.ok){s1:AS}{β1:Id->Option Pl}(ρ:Ren)(hlen:s1.ct.length=s.ct.length)(hle:y5 ρ (s.env w g β) (s1.env w g β1))
  (TR:∀i,VS (s1.env w g β1) (s1.slot i) (a.tmps.getD i undef)) (cP:∀id ver fr c,s1.bU id=ao (.obj ver fr c)->vK (s1.env w g β1) id fr c\/∃v0,s.bU id=ao (.obj v0 fr c)/\c.iJ ρ=c/\β1 id=β id)
  (hold:∀k,s1.bU (.bF k)=s.bU (.bF k)/\β1 (.bF k)=β (.bF k)):Inv C g β1 s1 a w:=
 h.OZ hC ρ hlen (Trans.refl w g) hle TR (λid ver fr c de=>(cP id ver fr c de).imp (λh=>h) λ⟨v0,h1,h2,h3⟩=>⟨id,v0,c,h1,h2,h3,λ_ _=>⟨λ_ h=>h,λh=>h⟩⟩)
  λk=>⟨λhh=>by rw[(hold k).1];exact hh,λv fr c hh=>⟨c,(hold k).1.symm.trans hh⟩,(hold k).2⟩
theorem Inv.aFI(h:Inv C g β s a w)(j:Nat){v:aD}(hv:VS (s.env w g β) v (a.tmps.getD j undef)):Inv C g β (s.put (ao j) v) a w:=by
 refine⟨h.defers,by simpa[AS.put]using h.size,λi=> ?_,by simpa using h.bN,h.trans,by simpa using h.le⟩;rw[aba,Wh];split
 ·rename_i aHW;rw[aHW.1];exact hv
 ·exact h.ct i
theorem Pc(bp:List Nat):∀(l:List aD) (n i:Nat),(eV bp n l).getD i .undef= .undef\/(eV bp n l).getD i .undef=l.getD i .undef
 |[],n,i=>by simp[eV]
 |v::l,n,0=>by
  simp only[eV,lV];split
  ·exact .inr rfl
  ·exact .inl rfl
 |v::l,n,i+1=>by simp only[eV,List.getD_cons_succ];exact Pc bp l (n+1) i
theorem Br(bp:List Nat):∀(l:List aD) (n:Nat),(eV bp n l).length=l.length
 |[],n=>rfl
 |v::l,n=>by simp[eV,Br bp l]
theorem ZZ(bp:List Nat):∀(l:List (List dU)) (n i:Nat),(nJ bp n l).getD i []=[]\/(nJ bp n l).getD i []=l.getD i []
 |[],n,i=>by simp[nJ]
 |v::l,n,0=>by
  simp only[nJ,lV];split
  ·exact .inr rfl
  ·exact .inl rfl
 |v::l,n,i+1=>by simp only[nJ,List.getD_cons_succ];exact ZZ bp l (n+1) i
theorem ap8{s:AS}(i:Nat):s.slot i= .undef\/s.slot i∈s.ct:=by
 unfold AS.slot;rw[aI];cases h:s.ct[i]? with
 |none=>exact .inl rfl
 |some v=>exact .inr (c7 h)
theorem azJ{s:AS}{id:Id}{e:dU}(h:s.bU id=ao e):e∈s.cn\/∃es∈s.news,e∈es:=by
 cases id with
 |bF k=>exact .inl (c7 h)
 |new i j=>
  simp only[AS.bU,aI]at h;cases hi:s.news[i]? with
  |none=>rw[hi]at h;simp at h
  |some es=>rw[hi]at h;exact .inr ⟨es,c7 hi,c7 h⟩
theorem Inv.bp(h:Inv C g β s a w)(hC:C.ok){an:nU}(ht:(LZ an s).adL=aT):Inv C g β (LZ an s) a w:=by
 obtain⟨ks,kt,_,_,_⟩:=an;obtain⟨s1,NI⟩:∃s1:AS,s1= {ct:=eV ks 0 s.ct,cn:=s.cn,news:=nJ kt 0 s.news}:=⟨_,rfl⟩;have e1:s1.ct=eV ks 0 s.ct:=by rw[NI]
 have e2:s1.cn=s.cn:=by rw[NI]
 have e3:s1.news=nJ kt 0 s.news:=by rw[NI]
 have ht:(s1.ct.all (aD.there s1) && s1.cn.all (dU.there s1) && s1.news.all λes=>es.all (dU.there s1))=aT:=by rw[NI];exact ht
 show Inv C g β {ct:=eV ks 0 s.ct,cn:=s.cn,news:=nJ kt 0 s.news} a w;rw[<-NI];rw[av,av]at ht;obtain⟨⟨t1,t2⟩,t3⟩:=ht;have cP:∀id,s1.bU id=aJ\/s1.bU id=s.bU id:=λid=>by
  cases id with
  |bF k=>right;simp only[AS.bU,e2]
  |new i j=>
   simp only[AS.bU,e3];rcases ZZ kt s.news 0 i with h | h
   ·rw[h];exact .inl rfl
   ·rw[h];exact .inr rfl
 have az8:∀id,(s1.obj id).isSome=aT->s1.bU id=s.bU id:=λid hi=>by
  rcases cP id with h | h
  ·simp[AS.obj,h]at hi
  ·exact h
 let ρ:Ren:=λid ver=>if(s1.obj id).isSome=aT then ao (id,ver) else aJ
 have hρ:∀v:aD,v.there s1=aT->v.iJ ρ=v:=wj λid de ver=>if_pos de
 have hle:y5 ρ (s.env w g β) (s1.env w g β):=by
  refine⟨⟨λ_ _ _ h=>h,λ_ _ h h'=>⟨h,h'⟩⟩,λid ver r hr hb=> ?_⟩;by_cases hi:(s1.obj id).isSome=aT
  ·have:ρ id ver=ao (id,ver):=if_pos hi;rw[this,az]at hr;subst hr;have e:=az8 id hi;obtain⟨b1,b2⟩:=hb;exact⟨⟨by show s1.bU id≠aJ;rw[e];exact b1,λv fr c hh=>b2 v fr c (e.symm.trans hh)⟩,λ⟨fr,c,hc⟩=>⟨⟨fr,c,e.symm.trans hc⟩,rfl⟩⟩
  ·have:ρ id ver=aJ:=if_neg hi;rw[this]at hr;cases hr
 refine h.renamed hC ρ (by rw[e1,Br]) hle (λi=> ?_) (λid ver fr c de=> ?_) λk=>⟨by simp only[AS.bU,e2],rfl⟩
 ·rcases ap8 (s:=s1) i with hi | hi
  ·rw[hi];exact VS.undef
  ·have aJn:=cS.1 t1 _ hi;rcases Pc ks s.ct 0 i with h1 | h1
   ·have:s1.slot i= .undef:=by simp only[AS.slot,e1,h1]
    rw[this];exact VS.undef
   ·have:s1.slot i=s.slot i:=by simp only[AS.slot,e1,h1]
    have hv:=ET hle (h.ct i);rw[<-this,hρ _ aJn]at hv;exact hv
 ·have:s1.bU id=s.bU id:=by
   rcases cP id with h | h
   ·rw[h]at de;cases de
   ·exact h
  have hc:dU.there s1 (.obj ver fr c)=aT:=by
   rcases azJ de with h | ⟨es,h1,h2⟩
   ·exact cS.1 t2 _ h
   ·exact cS.1 (cS.1 t3 _ h1) _ h2
  rcases ajC c with⟨q,vq,k,v,l,cu,rfl⟩ | ⟨_,aJn⟩
  ·have e:=az8 q hc;refine .inl (aC4.bp hle.mem (λ_=>rfl) (h.bN id ver fr _ (this.symm.trans de)) rfl (λ_ _ h=>h) λvr _=>⟨λhb=>hle.ref q vr (q,vr) (if_pos hc) hb,λk v l hk=>e.trans hk,λ_ _ h=>h⟩)
  ·rw[aJn]at hc;exact .inr ⟨ver,this.symm.trans de,hρ c hc,rfl⟩
theorem Inv.drop(h:Inv C g β s a w)(ks:List Nat):Inv C g β (s.drop ks) a w:=by
 refine⟨h.defers,by simpa[AS.drop,Br]using h.size,λi=> ?_,h.bN,h.trans,h.le⟩;rcases Pc ks s.ct 0 i with h1 | h1
 ·have:(s.drop ks).slot i= .undef:=h1;rw[this];exact VS.undef
 ·have:(s.drop ks).slot i=s.slot i:=h1;rw[this];exact h.ct i
def DS(b q:Nat):lY->lY
 | .own (.id (.new x j)) k=>if x=b then .own (.id (.new q j)) k else .own (.id (.new x j)) k
 |l=>l
theorem Trans.aHl(w:bW)(g:Nat->lY)(b q:Nat):Trans w w g λx=>DS b q (g x):=by
 refine⟨rfl,rfl,⟨rfl,aF _⟩,aF _,λy _=> ?_⟩;cases hg:g y with
 |free=>exact⟨by simp[DS],rfl⟩
 |own o k=>cases o with
  |eL=>exact⟨by simp[DS],rfl⟩
  |id x=>
   refine⟨.inr ?_,λ_ _ _ h=>h⟩;cases x with
   |bF m=>exact⟨_,_,rfl,aF _⟩
   |new x j=>
    simp only[DS];split
    ·exact⟨_,_,rfl,aF _⟩
    ·exact⟨_,_,rfl,aF _⟩
theorem Wg(f:aD->aD)(hf:f .undef= .undef)(l:List aD)(i:Nat):(l.map f).getD i .undef=f (l.getD i .undef):=by simp only[aI,eJ];cases l[i]? <;> simp[hf]
theorem Inv.Gd(h:Inv C g β s a w)(hC:C.ok){b q:Nat}(aDQ:b < s.news.length)(aJd:q < s.news.length):
  ∃g1 β1,Inv C g1 β1 (s.Gd b q (s.news.getD b [])) a w:=by
 generalize aLb:s.news.getD b []=es;have aGr:∀j,s.bU (.new b j)=es[j]? :=λj=>by rw[<-aLb];rfl
 let ρ:Ren:=MV es b q
 let s1:=s.Gd b q es
 have lj:∀j',s1.bU (.new q j')=(es[j']?).map (dU.akM ρ):=λj'=>by simp[s1,AS.Gd,AS.bU,aI,aJd,ρ]
 have aGw:b≠q->∀j',s1.bU (.new b j')=aJ:=λaDR j'=>by
  have hbq':¬q=b:=λe=>aDR e.symm
  simp only[s1,AS.Gd,AS.bU,aI];rw[eF hbq',List.getElem?_set,if_pos rfl];split <;> simp
 have HA:∀i,(∀j',i≠ .new q j')->(∀j',i≠ .new b j')->s1.bU i=(s.bU i).map (dU.XS ρ (Hj b q)):=λi hi hi'=>by
  cases i with
  |bF k=>simp[s1,AS.Gd,AS.bU,ρ]
  |new x y=>
   have h1:¬q=x:=λe=>hi y (by rw[e])
   have h2:¬b=x:=λe=>hi' y (by rw[e])
   simp only[s1,AS.Gd,AS.bU,aI];rw[eF h1,eF h2,eJ];cases s.news[x]? <;> simp[ρ]
 let g1:Nat->lY:=λx=>DS b q (g x)
 let β1:Id->Option Pl:=λi=>match i with | .new x j=>if x=q then β (.new b j) else β (.new x j) | .bF k=>β (.bF k)
 have hβ1:∀i,(∀j',i≠ .new q j')->β1 i=β i:=λi hi=>by
  cases i with
  |bF k=>rfl
  |new x y=>exact if_neg λe=>hi y (by rw[e])
 have ht:Trans w w g g1:=Trans.aHl w g _ _;have hρ:∀i ver r,ρ i ver=ao r->(∃j fr c,i= .new b j/\es[j]? =ao (.obj ver fr c)/\r=(.new q j,0))\/((∀j',i≠ .new q j')/\(∀j',i≠ .new b j')/\r=(i,ver)):=λi ver r hr=>by
  replace hr:MV es b q i ver=ao r:=hr
  cases i with
  |bF k=>exact .inr ⟨λ_=>by simp,λ_=>by simp,(aP hr).symm⟩
  |new x j=>
   unfold MV at hr;simp only at hr;split at hr
   ·rename_i hx;have hx:x=b:=by simpa using hx
    subst hx;split at hr
    ·rename_i v fr c he;split at hr
     ·rename_i hv;have hv:ver=v:=by simpa using hv
      subst hv;exact .inl ⟨j,fr,c,rfl,he,(aP hr).symm⟩
     ·cases hr
    ·cases hr
   ·rename_i hx;have hx:¬x=b:=by simpa using hx
    split at hr
    ·cases hr
    ·rename_i hx';have hx':¬x=q:=by simpa using hx'
     exact .inr ⟨λ_ e=>hx' (by injection e),λ_ e=>hx (by injection e),(aP hr).symm⟩
 have hle:y5 ρ (s.env w g β) (s1.env w g1 β1):=by
  refine⟨Trans.mem (E:=s.env w g β) (E':=s1.env w g1 β1) ht,λi ver r hr afp=> ?_⟩;rcases hρ i ver r hr with⟨j,fr,c,rfl,he,rfl⟩ | ⟨hi,hi',rfl⟩
  ·refine⟨⟨by show s1.bU (.new q j)≠aJ;rw[lj,he];simp,λ_ _ _ _=>aN _⟩,λ_=>⟨⟨fr,c,(aGr j).trans he⟩,if_pos rfl⟩⟩
  ·obtain⟨k1,k2⟩:=afp;have k1:s.bU i≠aJ:=k1;have e:s1.bU i=(s.bU i).map (dU.XS ρ (Hj b q)):=HA i hi hi';have back:∀v' fr' c',s1.bU i=ao (.obj v' fr' c')->∃c0,s.bU i=ao (.obj v' fr' c0):=λv' fr' c' hh=>by
    rw[e]at hh;cases hs:s.bU i with
    |none=>exact absurd hs k1
    |some en=>
     rw[hs]at hh;cases en with
     |dead=>simp[dU.XS]at hh
     |obj v0 fr0 c0=>
      simp only[eo,dU.XS,az,dU.obj.injEq]at hh;obtain⟨rfl,rfl,_⟩:=hh;exact⟨c0,rfl⟩
   refine⟨⟨by
    show s1.bU i≠aJ;rw[e];cases hs:s.bU i with
    |none=>exact absurd hs k1
    |some en=>simp,λv' fr' c' hh=> ?_⟩,λ⟨fr',c',hh⟩=> ?_⟩
   ·obtain⟨c0,R5⟩:=back v' fr' c' hh;exact k2 v' fr' c0 R5
   ·obtain⟨c0,R5⟩:=back ver fr' c' hh;exact⟨⟨fr',c0,R5⟩,hβ1 i hi⟩
 have aHT:∀(i:Id),(∀j',i≠ .new b j')->∀(x:Nat) (k:Nat),g x= .own (.id i) k->g1 x= .own (.id i) k:=λi hi x k hk=>by
  show DS b q (g x)=_;rw[hk];cases i with
  |bF m=>rfl
  |new y j=>exact if_neg λe=>hi j (by rw[e])
 refine⟨g1,β1,h.OZ hC ρ (by simp[AS.Gd]) ht hle (λi=> ?_) (λid ver fr' c' de=> ?_) λk=>⟨λhk=> ?_,λv' fr' c' hh=> ?_,rfl⟩⟩
 ·have:(s.Gd b q es).slot i=(s.slot i).iJ ρ:=Wg _ rfl _ _;rw[this];exact ET hle (h.ct i)
 ·have de:s1.bU id=ao (.obj ver fr' c'):=de;by_cases hi:∃j',id= .new q j'
  ·obtain⟨j',rfl⟩:=hi;rw[lj]at de;cases he:es[j']? with
   |none=>rw[he]at de;cases de
   |some en=>
    rw[he]at de;cases en with
    |dead=>simp[dU.akM]at de
    |obj v0 fr0 c0=>
     simp only[eo,dU.akM,az,dU.obj.injEq]at de;obtain⟨_,rfl,rfl⟩:=de;exact .inr ⟨.new b j',v0,c0,(aGr j').trans he,rfl,if_pos rfl,λpl hp=>⟨λk hk=>by
      show DS b q (g pl.b)=_;rw[hk];exact if_pos rfl,λhk=>by
      show DS b q (g pl.b)=_;rw[hk];rfl⟩⟩
  ·by_cases hi':∃j',id= .new b j'
   ·obtain⟨j',rfl⟩:=hi';have aDR:b≠q:=λe=>hi ⟨j',by rw[e]⟩
    rw[aGw aDR]at de;cases de
   ·have aH0:∀j',id≠ .new q j':=λj' e=>hi ⟨j',e⟩
    have hni':∀j',id≠ .new b j':=λj' e=>hi' ⟨j',e⟩
    have e:=HA id aH0 hni';rw[e]at de;cases hs:s.bU id with
    |none=>rw[hs]at de;cases de
    |some en=>
     rw[hs]at de;cases en with
     |dead=>simp[dU.XS]at de
     |obj v0 fr0 c0=>
      simp only[eo,dU.XS,az,dU.obj.injEq]at de;obtain⟨rfl,rfl,rfl⟩:=de;rcases ajC c0 with⟨q2,vq,k,v2,l,cu,rfl⟩ | ⟨aEa,_⟩
      ·have h0:=h.bN id v0 fr0 _ hs;left;simp only[aD.arh];cases aHX:Hj b q q2 with
       |true=>
        have ams:(∀j',q2≠ .new b j')/\(∀j',q2≠ .new q j')/\∀vr,ρ q2 vr=ao (q2,vr):=by
         cases q2 with
         |bF k=>exact⟨λ_=>by simp,λ_=>by simp,λ_=>rfl⟩
         |new x y=>
          simp only[Hj,av,cv,gJ]at aHX;obtain⟨k1,k2⟩:=aHX;refine⟨λ_ e=>k1 (by injection e),λ_ e=>k2 (by injection e),λvr=> ?_⟩;show MV es b q (.new x y) vr=_;unfold MV;simp only[jq k1,jq k2]
        obtain⟨ams,amu,hρq⟩:=ams;refine aC4.bp hle.mem (λ_=>rfl) h0 (hβ1 id aH0) (λpl _ hk=>aHT id hni' _ _ hk) λvr _=>⟨λhb=>hle.ref q2 vr (q2,vr) (hρq vr) hb,λk v l hk=> ?_,λpl _ hk=>aHT q2 ams _ _ hk⟩
        have hk:s.bU q2=ao (.obj vr aT (.mp k v l)):=hk;show s1.bU q2=_;rw[HA q2 amu ams,hk];rfl
       |false=>
        obtain⟨pl,mb,since,seen,c0,h1,h2,h3,h4⟩:=h0;exact⟨pl,mb,since,seen,c0,(hβ1 id aH0).trans h1,h2,aHT id hni' _ _ h3,λvr ah3=>au⟩
      rw[aEa];exact .inr ⟨id,v0,c0,hs,rfl,hβ1 id aH0,λpl hp=>⟨λk hk=>aHT id hni' _ _ hk,λhk=>by
       show DS b q (g pl.b)=_;rw[hk];rfl⟩⟩
 ·have e:=HA (.bF k) (λ_=>by simp) (λ_=>by simp);show s1.bU (.bF k)≠aJ;rw[e];cases hs:s.bU (.bF k) with
  |none=>exact absurd hs hk
  |some en=>simp
 ·have e:=HA (.bF k) (λ_=>by simp) (λ_=>by simp);have hh:s1.bU (.bF k)=ao (.obj v' fr' c'):=hh;rw[e]at hh;cases hs:s.bU (.bF k) with
  |none=>rw[hs]at hh;cases hh
  |some en=>
   rw[hs]at hh;cases en with
   |dead=>simp[dU.XS]at hh
   |obj v0 fr0 c0=>
    simp only[eo,dU.XS,az,dU.obj.injEq]at hh;obtain⟨rfl,rfl,_⟩:=hh;exact⟨c0,rfl⟩
theorem W4{k t:Ty}{l:List (k.den×t.den)}:∀ {p:List Hw} {x c':aD},¬(w6 (.mp k t l) p x).eval=ao c'
 |[],x,c',h=>by simp only[w6,aw]at h
 | .arr::p,x,c',h=>by simp only[w6]at h;exact W4 h
 | .idx i::p,x,c',h=>by simp only[w6,aw]at h
 | .fst::p,x,c',h=>by simp only[w6,aw]at h
 | .snd::p,x,c',h=>by simp only[w6,aw]at h
theorem adn{q:Id}{vq:Nat}{k t:Ty}{l:List (k.den×t.den)}{cu:Option (k.den×t.den)}:∀ {p:List Hw} {x c':aD},¬(w6 (.qo q vq k t l cu) p x).eval=ao c'
 |[],x,c',h=>by simp only[w6,aw]at h
 | .arr::p,x,c',h=>by simp only[w6]at h;exact adn h
 | .idx i::p,x,c',h=>by simp only[w6,aw]at h
 | .fst::p,x,c',h=>by simp only[w6,aw]at h
 | .snd::p,x,c',h=>by simp only[w6,aw]at h
theorem ado{k:uk}{f:aD}{m:Nat}:∀ {p:List Hw} {x c':aD},¬(w6 (.yZ k f m) p x).eval=ao c'
 |[],x,c',h=>by simp only[w6,aw]at h
 | .arr::p,x,c',h=>by simp only[w6]at h;exact ado h
 | .idx i::p,x,c',h=>by simp only[w6,aw]at h
 | .fst::p,x,c',h=>by simp only[w6,aw]at h
 | .snd::p,x,c',h=>by simp only[w6,aw]at h
theorem Q7{l:List Value}{n:Nat}{vs:List Value}(h:(l.drop n).take vs.length=vs):dD l n vs=l:=by
 unfold dD;have h2:l.drop n=vs++l.drop (n+vs.length):=by
  conv=>lhs;rw[<-dR vs.length (l.drop n)]
  rw[h,gq]
 have h3:=dR n l;rw[h2]at h3;simpa[aO]using h3
theorem Inv.aHb(h:Inv C g β s a w){j:Nat}{p:List Hw}(NG:(s.at j p).eval=ao .dH){q:Nat}(hq:s.ez q=aT){e:TypeId}{t:Ty}(hz:0 < t.size){s':AS}
  (he:((s.born q [.obj 0 aR (.vec e t [])]).putAt j (.b8 (.new q 0) 0 [] 0 0 0) p).eval=ao s'):gT C s' a w:=by
 obtain⟨β',h1,h2,h3⟩:=h.av6 hq (e:=e) hz;cases p with
 |nil=>
  simp only[AS.at]at NG;have hj:=ay.1 NG;simp only[AS.putAt]at he;obtain rfl:=ay.1 he;refine⟨g,β',h1.aFI j ?_⟩;have:=h.ct j;rw[hj]at this;rw[lu this];exact h3
 |cons st p=>
  simp only[AS.at]at NG;simp only[AS.putAt]at he;have TR:(s.born q [.obj 0 aR (.vec e t [])]).slot j=s.slot j:=rfl;rw[TR]at he;split at NG
  ·rename_i id ver p0 nn hj;split at NG
   ·rename_i v fr c kA;obtain⟨hv,NG⟩:=aG.1 NG;obtain⟨⟨n,u⟩,hl,NG⟩:=ax.1 NG;have hu:=ay.1 NG;simp only at hu;subst hu;have cP:=dZ kA;have gj:id≠ .new q 0:=λe=>by rw[e,(kq hq).1 0]at cP;cases cP
    have hne':∀j',id≠ .new q j':=λj' e=>by rw[e,(kq hq).1 j']at cP;cases cP
    have tm:(s.born q [.obj 0 aR (.vec e t [])]).bU id=ao (.obj v fr c):=(jc _ hne').trans cP;have aD5:(s.born q [.obj 0 aR (.vec e t [])]).obj id=ao (v,fr,c):=by simp only[AS.obj,tm]
    simp only[hj,aD5]at he;split at he
    ·simp only[aw]at he
    ·rename_i c1 aIG;obtain⟨c',Rx,he⟩:=ax.1 he;obtain rfl:=ay.1 he;have hn:c.il=aR:=by cases c <;> first | rfl | (exact(aIG _ _ _ rfl).elim) | (exact absurd Rx W4) | (exact absurd Rx adn) | (exact absurd Rx ado)
     have hO:=h1.bN id v fr c tm;obtain⟨pl,cur,e0,hp,hh,hg,hk,hV⟩:=hO.box hn;have ht:=Trans.refl w g;have hN:=RX hk;have hle:=cU.aZ (s:=s.born q [.obj 0 aR (.vec e t [])]) (β:=β') (v':=v) (fr':=fr) (c':=c.wrap c') tm (aF _) ht (λ_ _=>rfl) (λ_=>rfl);refine⟨g,β',h1.step (dr _ _ _) ht hle (iN.aZ h1.bN (by rw[tm];simp) hle (λ_ _=>rfl) (λ_ _ _ _ _ _ _ _=>⟨rfl,rfl⟩) ?_ (pP tm λk v1 l e=>by subst e;exact absurd Rx W4))⟩;obtain⟨cs,k1,k2⟩:=h3;have k2:cs=[.slice aJ 0 0]:=k2;subst k2;obtain⟨u1,u2,u3⟩:=qg (p0++st::p) c.strip (cur.toList.take (c.vN cur.size)) n .dH _ c' [.slice aJ 0 0] (VO.of hV) hl k1 Rx;have u4:=u2.to (u3.tA hV.tA);have Cm:((cur.toList.take (c.vN cur.size)).drop n).take 1=[.slice aJ 0 0]:=by
      rcases sq (p0++st::p) c.strip (cur.toList.take (c.vN cur.size)) n .dH (VO.of hV) hl with⟨az6,R5⟩ | ⟨q1,q2⟩
      ·rw[<-R5]at hV;simp only[V]at hV;rw[hV,az6];rfl
      ·simpa only[V,aD.size]using q1
     rw[Q7 (vs:=[.slice aJ 0 0]) Cm]at u4;have sj:c'.size=c.strip.size:=by have e1:=u4.size;have e2:=hV.size;omega
     exact NM.obj ⟨pl,cur,e0,hp,hh,hg,I3 hk u4.zH sj,by rw[Ke c u4.zH,NX u4.zH sj];exact V.mono hle u4⟩
   ·simp only[aw]at NG
  ·simp only[aw]at NG
theorem HY:∀(ids:List Id) {s:AS} {i:Id} {v:Nat} {fr:Bool} {c:aD},s.bU i=ao (.obj v fr c)->∃fr',(s.bt ids).bU i=ao (.obj v fr' c)
 |[],s,i,v,fr,c,h=>⟨fr,h⟩
 |id::ids,s,i,v,fr,c,h=>by obtain⟨fr',h'⟩:=Tx (id:=id) h;exact HY ids h'
theorem Inv.aFW(h:Inv C g β s a w){j:Nat}{p:List Hw}{u:aD}(NG:(s.at j p).eval=ao u){t:Ty}{x:t.den}(ht:(s.iK t u).eval=ao x){s':AS}
  (he:((s.bt u.shared).putAt j (.d t x) p).eval=ao s'):gT C s' a w:=by
 cases p with
 |nil=>
  simp only[AS.at]at NG;have hj:=ay.1 NG;simp only[AS.putAt]at he;obtain rfl:=ay.1 he;have hs:=h.ct j;rw[hj]at hs;obtain⟨g',i1,_,_,cs,hR,hO⟩:=z8 h hs ht;exact⟨g',β,i1.aFI j (VS.of (a:= .d t x) (cs:=cs) (by simpa only[V]using hR) hO)⟩
 |cons st p=>
  simp only[AS.at]at NG;simp only[AS.putAt]at he;have TR:(s.bt u.shared).slot j=s.slot j:=by simp only[AS.slot,nF]
  rw[TR]at he;split at NG
  ·rename_i id ver p0 nn hj;split at NG
   ·rename_i v fr c kA;obtain⟨hv,NG⟩:=aG.1 NG;obtain⟨⟨n,u'⟩,hl,NG⟩:=ax.1 NG;have hu:=ay.1 NG;simp only at hu;subst hu;have cP:=dZ kA;obtain⟨g',h1,h2,h3,h4⟩:=fb u'.shared h;obtain⟨fr',tm⟩:=HY u'.shared cP;have aD5:(s.bt u'.shared).obj id=ao (v,fr',c):=by simp only[AS.obj,tm]
    simp only[hj,aD5]at he;split at he
    ·simp only[aw]at he
    ·rename_i c1 aIG;obtain⟨c',Rx,he⟩:=ax.1 he;obtain rfl:=ay.1 he;have hn:c.il=aR:=by cases c <;> first | rfl | (exact(aIG _ _ _ rfl).elim) | (exact absurd Rx W4) | (exact absurd Rx adn) | (exact absurd Rx ado)
     obtain⟨pl0,cur0,e00,aD7,aDY,aIN,aGy,hV0⟩:=(h.bN id v fr c cP).box hn;obtain⟨pl,cur,e0,hp,hh,hg,hk,hV⟩:=(h1.bN id v fr' c tm).box hn;have Rw:pl0=pl:=by have aD7:β id=ao pl0:=aD7;have hp:β id=ao pl:=hp;rw[aD7]at hp;exact aP hp
     subst Rw;have fD:cur0=cur:=by
      have aDY:w.heap[pl0.b]? =_:=aDY
      have hh:w.heap[pl0.b]? =_:=hh
      rw[aDY]at hh;simpa using(bD (λo=>match o with | some (.cells x _ _)=>x | _=>cur0) hh)
     subst fD;obtain⟨cs,hVu,Cm⟩:∃cs,V (s.env w g β) u' cs/\((cur0.toList.take (c.vN cur0.size)).drop n).take cs.length=cs:=by
      rcases sq (p0++st::p) c.strip (cur0.toList.take (c.vN cur0.size)) n u' (VO.of hV0) hl with⟨az6,R5⟩ | ⟨q1,q2⟩
      ·refine⟨cur0.toList.take (c.vN cur0.size),by rw[R5];exact hV0,?_⟩;rw[az6,aQ,cJ]
      ·refine⟨_,q1,?_⟩;rw[cT,dx];congr 1;omega
     have hR:=tV rfl h.bN h2 u' t x cs hVu ht h4;have hVx:V ((s.bt u'.shared).env w g' β) (.d t x) cs:=by simpa only[V]using hR
     have ht':=Trans.refl w g';have hle:=cU.aZ (s:=s.bt u'.shared) (β:=β) (v':=v) (fr':=fr') (c':=c.wrap c') tm (aF _) ht' (λ_ _=>rfl) (λ_=>rfl);refine⟨g',β,h1.step (dr _ _ _) ht' hle (iN.aZ h1.bN (by rw[tm];simp) hle (λ_ _=>rfl) (λ_ _ _ _ _ _ _ _=>⟨rfl,rfl⟩) ?_ (pP tm λk v1 l e=>by subst e;exact absurd Rx W4))⟩;obtain⟨u1,u2,u3⟩:=qg (p0++st::p) c.strip (cur0.toList.take (c.vN cur0.size)) n u' _ c' cs (VO.of hV) hl hVx Rx;have u4:=u2.to (u3.tA hV.tA);rw[Q7 (vs:=cs) Cm]at u4;have sj:c'.size=c.strip.size:=by have e1:=u4.size;have e2:=hV.size;omega
     exact NM.obj ⟨pl0,cur0,e0,hp,hh,hg,I3 hk u4.zH sj,by rw[Ke c u4.zH,NX u4.zH sj];exact V.mono hle u4⟩
   ·simp only[aw]at NG
  ·simp only[aw]at NG
theorem Jt{E:Env}:∀(t:Ty) (x:t.den) (u:aD),(Js t x).eval=ao u->∀cs,cI E t cs x->V E u cs
 | .fS t,x,u,h,cs,hr=>by simp only[Js]at h;obtain⟨h1,h2⟩:=bS.1 h;obtain rfl:=ay.1 h2;simp only[cI]at hr;simp only[V];exact hr.1 (Option.isNone_iff_eq_none.1 h1)
 | .pair a b,x,u,h,cs,hr=>by simp only[Js]at h;obtain⟨u1,h1,h2⟩:=ax.1 h;obtain⟨u2,h3,h4⟩:=ax.1 h2;obtain rfl:=ay.1 h4;simp only[cI]at hr;obtain⟨ca,cb,rfl,ha,hb⟩:=hr;exact aic (Jt a x.1 u1 h1 ca ha) (Jt b x.2 u2 h3 cb hb)
 | .int k,x,u,h,cs,hr=>by simp only[Js]at h;obtain rfl:=ay.1 h;simpa only[V]using hr
 | .bool,x,u,h,cs,hr=>by simp only[Js]at h;obtain rfl:=ay.1 h;simpa only[V]using hr
 | .str,x,u,h,cs,hr=>by simp only[Js]at h;obtain rfl:=ay.1 h;simpa only[V]using hr
 | .slice t,x,u,h,cs,hr=>by simp only[Js]at h;obtain rfl:=ay.1 h;simpa only[V]using hr
 | .unit,x,u,h,cs,hr=>by simp only[Js]at h;obtain rfl:=ay.1 h;simpa only[V]using hr
 | .arr n t,x,u,h,cs,hr=>by simp only[Js]at h;obtain rfl:=ay.1 h;simpa only[V]using hr
 | .od t,x,u,h,cs,hr=>by simp only[Js]at h;obtain rfl:=ay.1 h;simpa only[V]using hr
 | .gN t,x,u,h,cs,hr=>by simp only[Js]at h;obtain rfl:=ay.1 h;simpa only[V]using hr
theorem aow{e:TypeId}{z:Nat}{c:aD}{pl:Pl}{n:Nat}(hz:0 < z)(h1:n=pl.cap*z)(h2:pl.cap<=maxLen)(h3:c.size<=n):(aD.bx e z c).E3 pl n e:=by
 cases z with
 |zero=>omega
 |succ z=>exact⟨rfl,h1,h2,h3⟩
theorem aej{e:TypeId}{z:Nat}{c:aD}{n:Nat}(hz:0 < z):(aD.bx e z c).vN n=c.size:=by
 cases z with
 |zero=>omega
 |succ z=>rfl
theorem ab2{e e':TypeId}{z:Nat}{c:aD}{pl:Pl}{n:Nat}(hz:0 < z)(h:(aD.bx e z c).E3 pl n e'):e'=e/\n=pl.cap*z/\pl.cap<=maxLen/\c.size<=n:=by
 cases z with
 |zero=>omega
 |succ z=>exact h
theorem agT{E:Env}{id:Id}{ver n:Nat}{p p':List Hw}{y:Value}(h:VS E (.ptr id ver p n) y):VS E (.ptr id ver p' n) y:=by obtain⟨cs,h1,h2⟩:=h;exact⟨cs,by simpa only[V]using h1,h2⟩
theorem Inv.aF0(h:Inv C g β s a w){j:Nat}{id:Id}{ver n k v:Nat}{p p':List Hw}(hj:s.slot j= .ptr id ver p n){e:TypeId}{t:Ty}{r:List t.den}(kA:s.obj id=ao (v,aR,.vec e t r))
  (hk:k < r.length) {u:aD} (hu:(Js t (nth t r k)).eval=ao u):
  gT C ((s.aZ id (.obj v aR (.bx e t.size (.pr (.d (.arr k t) (r.take k)) (.pr u (.d (.arr (r.drop (k+1)).length t) (r.drop (k+1)))))))).put (ao j) (.ptr id ver p' n)) a w:=by
 have cP:=dZ kA;obtain⟨hz,hO⟩:vK (s.env w g β) id aR (.vec e t r):=h.bN id v aR _ cP;have hO:(match β id with
  |none=>r=[]
  |some pl=>∃cur k,w.heap[pl.b]? =ao (.cells cur e (0,0))/\cur.size=pl.cap*t.size/\r.length<=pl.cap/\pl.cap<=maxLen/\g pl.b= .own (.id id) k/\
    k<=r.length*t.size/\(aR=aR->k=0)/\bq (cI (s.env w g β) t) (cur.toList.take (r.length*t.size)) r):=hO
 have ht:=Trans.refl w g
 have hle:cU (s.env w g β) ((s.aZ id (.obj v aR (.bx e t.size (.pr (.d (.arr k t) (r.take k)) (.pr u (.d (.arr (r.drop (k+1)).length t) (r.drop (k+1)))))))).env w g β):=
  cU.aZ cP (aF _) ht (λ_ _=>rfl) (λ_=>rfl)
 have hI:=h.step (dr _ _ _) ht hle (iN.aZ h.bN (by rw[cP];simp) hle (λ_ _=>rfl) (λ_ _ _ _ _ _ _ _=>⟨rfl,rfl⟩) (adz:=L7 cP) (by
  cases hp:β id with
  |none=>rw[hp]at hO;simp only at hO;subst hO;simp at hk
  |some pl=>
   rw[hp]at hO;obtain⟨cur,k0,q1,q2,q3,q4,q5,q6,q7,q8⟩:=hO;have aGy:=q7 rfl;subst aGy;have ah6:∀c x,cI (s.env w g β) t c x->c.length=t.size:=λc x hx=>hx.size
   have c1:=bq.take ah6 k q8;have c2:=(q8.get ah6 k hk);have c3:=bq.drop ah6 (k+1) q8;have adA:V (s.env w g β) u (((cur.toList.take (r.length*t.size)).drop (k*t.size)).take t.size):=Jt t _ u (by rw[UW hk]at hu;exact hu) _ c2;have aLF:=adA.size;have hlen:(cur.toList.take (r.length*t.size)).length=r.length*t.size:=bq.length ah6 q8;have sj:r.length*t.size<=cur.size:=by rw[q2];exact c8 _ q3
   have aMc:(k+1)*t.size<=r.length*t.size:=c8 _ hk;have ams:(k+1)*t.size=k*t.size+t.size:=Nat.succ_mul k t.size;have aEd:u.size=t.size:=by rw[<-aLF,cT,dx,hlen];omega
   have hm:(r.drop (k+1)).length*t.size=r.length*t.size - (k+1)*t.size:=by rw[dx,Nat.sub_mul]
   have apx:(aD.pr (.d (.arr k t) (r.take k)) (.pr u (.d (.arr (r.drop (k+1)).length t) (r.drop (k+1))))).size=r.length*t.size:=by simp only[aD.size,Ty.size,aEd,hm];omega
   refine NM.obj ⟨pl,cur,e,hp,q1,q5,aow hz q2 q4 (by rw[apx];exact sj),?_⟩;rw[aej hz,apx];refine V.mono hle ?_
   show V _ (.pr (.d (.arr k t) (r.take k)) (.pr u (.d (.arr (r.drop (k+1)).length t) (r.drop (k+1))))) _;simp only[V];generalize cur.toList.take (r.length*t.size)=R at*;refine⟨R.take (k*t.size),R.drop (k*t.size),(dR _ _).symm,?_,(R.drop (k*t.size)).take t.size,R.drop ((k+1)*t.size),?_,adA,?_⟩
   ·simp only[cI];exact⟨by rw[cT];omega,c1⟩
   ·rw[ams,<-gq,dR]
   ·simp only[cI];exact⟨trivial,c3⟩))
 refine⟨g,β,hI.aFI j ?_⟩;have:=h.ct j;rw[hj]at this;exact agT (VS.mono hle this)
theorem Od:∀(l:List Nat) {s s1:AS},gT C s a w->(api s l).eval=ao s1->gT C s1 a w
 |[],s,s1,h,he=>by simp only[api]at he;obtain rfl:=ay.1 he;exact h
 |j::l,s,s1,h,he=>by
  obtain⟨g,β,h⟩:=h;simp only[api]at he;split at he
  ·rename_i id ver k p n hj;split at he
   ·rename_i v e t r kA;obtain⟨h1,he⟩:=aG.1 he;obtain⟨h2,he⟩:=bS.1 he;obtain⟨u,h3,he⟩:=ax.1 he;exact Od l (h.aF0 hj kA (of_decide_eq_true h2) h3) he
   ·simp only[aw]at he
  ·exact Od l ⟨g,β,h⟩ he
  ·simp only[aw]at he
theorem Oa{s:AS}{id i:Id}(h:i≠id):(s.freeze id).bU i=s.bU i:=by
 unfold AS.freeze;split
 ·exact dd s id i _ h
 ·rfl
theorem qk:∀(ids:List Id) {s:AS} {i:Id},i ∉ ids->(s.bt ids).bU i=s.bU i
 |[],_,_,_=>rfl
 |id::ids,s,i,h=>by
  have h1:i≠id:=λe=>h (by rw[e];exact aK)
  exact(qk ids λhi=>h (aL _ hi)).trans (Oa h1)
theorem bq.mem{α:Type}{R:List Value->α->Prop}:∀ {cs:List Value} {l:List α},bq R cs l->∀x∈l,∃c,R c x
 |_,[],_,x,hx=>by cases hx
 |_,_::_,⟨c,cs',_,hc,hr⟩,x,hx=>by
  rcases cj.1 hx with rfl | hx
  ·exact⟨c,hc⟩
  ·exact bq.mem hr x hx
theorem cI.RD{E:Env}:∀ {t:Ty} {cs:List Value} {x:t.den},cI E t cs x->∀n∈hJ t x,E.g n= .free
 | .int _,_,_,_,n,hn=>by simp[hJ]at hn
 | .bool,_,_,_,n,hn=>by simp[hJ]at hn
 | .str,_,_,_,n,hn=>by simp[hJ]at hn
 | .unit,_,_,_,n,hn=>by simp[hJ]at hn
 | .slice t,_,x,h,n,hn=>by simp only[cI]at h;obtain⟨_,_,_,_,_,_,_,hc⟩:=h;obtain⟨y,hy,hn⟩:=iL.1 (show n∈(x:List t.den).flatMap (hJ t) from hn);obtain⟨c,hc⟩:=hc.mem y hy;exact cI.RD hc n hn
 | .arr _ t,_,x,h,n,hn=>by simp only[cI]at h;obtain⟨y,hy,hn⟩:=iL.1 (show n∈(x:List t.den).flatMap (hJ t) from hn);obtain⟨c,hc⟩:=h.2.mem y hy;exact cI.RD hc n hn
 | .pair a b,_,x,h,n,hn=>by
  simp only[cI]at h;obtain⟨_,_,_,ha,hb⟩:=h;rcases bC.1 (show n∈hJ a x.1++hJ b x.2 from hn) with hn | hn
  ·exact cI.RD ha n hn
  ·exact cI.RD hb n hn
 | .fS t,_,x,h,n,hn=>by
  simp only[cI]at h;obtain⟨y,hy,hn⟩:=iL.1 (show n∈((x:Option (List t.den)).getD []).flatMap (hJ t) from hn);cases hx:(x:Option (List t.den)) with
  |none=>rw[hx]at hy;cases hy
  |some l=>
   rw[hx]at hy;obtain⟨_,_,_,_,_,_,_,hc⟩:=h.2 l hx;obtain⟨c,hc⟩:=hc.mem y hy;exact cI.RD hc n hn
 | .od t,_,x,h,n,hn=>by
  simp only[cI]at h;cases hx:(x:Option t.den) with
  |none=>rw[hx]at hn;simp[hJ]at hn
  |some y=>
   rw[hx]at hn;obtain⟨_,_,_,_,_,hc⟩:=h.2 y hx;exact cI.RD hc n (by simpa only[hJ]using hn)
 | .gN t,_,x,h,n,hn=>by
  simp only[cI]at h;cases hx:(x:Option (Nat×t.den)) with
  |none=>rw[hx]at hn;simp[hJ]at hn
  |some y=>
   rw[hx]at hn;obtain⟨_,_,_,_,hf,_,hc⟩:=h.2 y hx;rcases cj.1 (show n∈y.1::hJ t y.2 by simpa only[hJ]using hn) with rfl | hn
   ·exact hf.1
   ·exact cI.RD hc n hn
theorem Inv.OH(h:Inv C g β s a w){v:aD}{y:Value}(hv:VS (s.env w g β) v y):∀n∈s.OH v,g n= .free:=by
 intro n hn;unfold AS.OH at hn;split at hn
 ·rename_i t x;obtain⟨cs,hV,_⟩:=hv.eQ rfl;simp only[V]at hV;exact cI.RD hV n hn
 ·rename_i id _ _ _ _ _;split at hn
  ·rename_i ve fr e t l kA;have hO:=h.bN id ve fr _ (dZ kA);obtain⟨_,hO⟩:=(hO:aC9 (s.env w g β) id fr e t l);split at hO
   ·subst hO;simp at hn
   ·obtain⟨_,_,_,_,_,_,_,_,_,hc⟩:=hO;obtain⟨y,hy,hn⟩:=iL.1 hn;obtain⟨c,hc⟩:=hc.mem y hy;exact cI.RD hc n hn
  ·cases hn
 ·cases hn
theorem agk{x:aFO}{R:Type}{r:R}{k:AS->Option R}(h:gT C s a w)(he:awb s x k=ao r):∃s',gT C s' a w/\k s'=ao r:=by
 obtain⟨g,β,h⟩:=h;unfold awb at he;split at he <;> try (cases he;done)
 rename_i id ver hj;split at he <;> try (cases he;done)
 rename_i v c kA;obtain⟨y,h1,EP⟩:=gQ.1 he;obtain⟨y',h2,h3⟩:=ax.1 h1;obtain⟨h4,h5⟩:=aG.1 h3;obtain rfl:=ay.1 h5;simp only[av,dB,cv]at h4;obtain⟨⟨rfl,aIF⟩,ajq⟩:=h4;have aAg:c.il=aR:=by cases c <;> first | rfl | (simp[aD.aFT]at aIF)
 have ajq:id ∉ c.strip.shared:=by simpa using ajq
 obtain⟨_,vS⟩:=N9 EP;have cP:=dZ kA;obtain⟨pl,cur,e,hp,hh,apA,iO,hV⟩:=(h.bN id v aR c cP).box aAg;have hp:β id=ao pl:=hp;have hh:w.heap[pl.b]? =ao (.cells cur e (0,0)):=hh
 have apA:g pl.b= .own (.id id) 0:=apA;obtain⟨g1,i1,e1,t1,f1⟩:=fb c.strip.shared h;have hR1:=tV rfl h.bN e1 c.strip x.t y' _ hV h2 f1;have tm:(s.bt c.strip.shared).bU id=ao (.obj v aR c):=(qk _ ajq).trans cP;obtain⟨g2,i2,e2,t2,f2⟩:=LC i1 id;have aGq:((s.bt c.strip.shared).freeze id).bU id=ao (.obj v aT c):=by unfold AS.freeze;rw[tm];exact eK _ id _ (by rw[tm];simp)
 obtain⟨pl2,cur2,e2',Rv,aHU,amv,_,_⟩:=(i2.bN id v aT c aGq).box aAg;have Rv:β id=ao pl2:=Rv;rw[hp]at Rv;obtain rfl:=aP Rv;have amv:g2 pl.b= .free:=amv;have hfresh:pl.b ∉ s.OH (s.slot x.r):=λhn=>by have:=h.OH (h.ct x.r) _ hn;rw[apA]at this;cases this
 refine⟨_,⟨g2,β,i2.aFI x.j ?_⟩,vS pl.b hfresh⟩;have hs:=h.ct x.j;rw[hj]at hs;obtain⟨ad,hy,_,hc⟩:=tM hs;obtain⟨pl',hp',ajj⟩:=hc ⟨aR,c,cP⟩;have hp':β id=ao pl':=hp';rw[hp]at hp';obtain rfl:=aP hp';rw[hy,ajj];refine⟨[.pointer (ao ⟨pl.b,0,aJ⟩)],?_,rfl⟩;simp only[V,cI];refine⟨λhn=>by simp at hn,λz hz=> ?_⟩;have hz:(pl.b,y')=z:=aP hz;subst hz;refine⟨cur,e,cur.toList.take (c.vN cur.size),rfl,⟨amv,hh⟩,λi u hu=>⟨pl.b,0,rfl,?_,?_⟩,cI.mono e2.mem hR1⟩
 ·rw[c9]at hu;split at hu
  ·show w.cell? ⟨pl.b,0+i,aJ⟩=ao u;rw[bg];simp[eN,hh];simpa using hu
  ·cases hu
 ·show sM g2 pl.b _;unfold sM;rw[amv];trivial
theorem Qz:∀(l:List aFO) {s:AS} {R:Type} {r:R} {k:AS->Option R},gT C s a w->awc l s k=ao r->∃s',gT C s' a w/\k s'=ao r
 |[],s,_,_,_,h,he=>⟨s,h,he⟩
 |x::l,s,_,_,_,h,he=>by obtain⟨s',h',he'⟩:=agk h he;exact Qz l h' he'
theorem Inv.aHz(h:Inv C g β s a w){j:Nat}{id:Id}{ver n k m v z:Nat}{p p':List Hw}(hj:s.slot j= .ptr id ver p n){e:TypeId}{t:Ty}{l1 l2:List t.den}{u:aD}
  (kA:s.obj id=ao (v,aR,.bx e z (.pr (.d (.arr k t) l1) (.pr u (.d (.arr m t) l2))))) (hz:z=t.size) (aEh:0 < z) (de:id ∉ u.shared) {x:t.den} (hx:(s.iK t u).eval=ao x):
  gT C (((s.bt u.shared).aZ id (.obj v aR (.vec e t (l1++x::l2)))).put (ao j) (.ptr id ver p' n)) a w:=by
 have cP:=dZ kA;obtain⟨pl0,cur0,e0,aD7,aDY,aIN,aGy,hV0⟩:=(h.bN id v aR _ cP).box rfl;obtain⟨g',h1,h2,h3,h4⟩:=fb u.shared h;have tm:(s.bt u.shared).bU id=ao (.obj v aR (.bx e z (.pr (.d (.arr k t) l1) (.pr u (.d (.arr m t) l2))))):=(qk _ de).trans cP;obtain⟨pl,cur,e1,hp,hh,hg,hk,hV⟩:=(h1.bN id v aR _ tm).box rfl;have hp:β id=ao pl:=hp;have Rw:pl0=pl:=by have aD7:β id=ao pl0:=aD7;rw[aD7]at hp;exact aP hp
 subst Rw;have fD:cur0=cur:=by
  have aDY:w.heap[pl0.b]? =_:=aDY
  have hh:w.heap[pl0.b]? =_:=hh
  rw[aDY]at hh;simpa using(bD (λo=>match o with | some (.cells x _ _)=>x | _=>cur0) hh)
 subst fD;obtain⟨rfl,q2,q4,q3⟩:=ab2 aEh hk;rw[aej aEh]at hV0;have hV0:V (s.env w g β) (.pr (.d (.arr k t) l1) (.pr u (.d (.arr m t) l2))) _:=hV0;have aLA:=hV0.size;simp only[V]at hV0;obtain⟨ca,cb,hR,hA,cu,cc,aDS,hU,hB⟩:=hV0;subst aDS;simp only[cI]at hA hB;have hX:=tV rfl h.bN h2 u t x cu hU hx h4;have ah6:∀c x,cI ((s.bt u.shared).env w g' β) t c x->c.length=t.size:=λc x hx=>hx.size
 have cA:=hA.2.mono λ_ _ hx=>hx.mono h2.mem
 have cB:=hB.2.mono λ_ _ hx=>hx.mono h2.mem
 have uZ:bq (cI ((s.bt u.shared).env w g' β) t) (ca++(cu++cc)) (l1++x::l2):=bq.append cA ⟨cu,cc,rfl,hX,cB⟩;have hlen:=bq.length ah6 uZ;have apx:(aD.pr (.d (.arr k t) l1) (.pr u (.d (.arr m t) l2))).size=(l1++x::l2).length*t.size:=by rw[<-hlen,<-hR];exact aLA.symm
 rw[apx]at hR q3;rw[hz]at q2;have ajp:(l1++x::l2).length<=pl0.cap:=by rw[q2]at q3;exact Nat.le_of_mul_le_mul_right q3 au
 have ht:=Trans.refl w g';have hle:cU ((s.bt u.shared).env w g' β) (((s.bt u.shared).aZ id (.obj v aR (.vec e1 t (l1++x::l2)))).env w g' β):=cU.aZ tm (aF _) ht (λ_ _=>rfl) (λ_=>rfl);have hI:=h1.step (dr _ _ _) ht hle (iN.aZ h1.bN (by rw[tm];simp) hle (λ_ _=>rfl) (λ_ _ _ _ _ _ _ _=>⟨rfl,rfl⟩) (adz:=pP tm λ_ _ _ e=>by cases e) (by
  refine⟨au,?_⟩;show(match β id with
   |none=>l1++x::l2=[]
   |some pl=>_)
  rw[hp];exact⟨cur0,0,hh,q2,ajp,q4,hg,aN _,λ_=>rfl,by rw[hR];exact uZ.mono λ_ _ hx=>hx.mono hle.mem⟩))
 refine⟨g',β,hI.aFI j ?_⟩;have:=h.ct j;rw[hj]at this;exact agT (VS.mono (h2.trans hle) this)
theorem aaa:∀(l:List Nat) {s s1:AS},gT C s a w->(ayy s l).eval=ao s1->gT C s1 a w
 |[],s,s1,h,he=>by simp only[ayy]at he;obtain rfl:=ay.1 he;exact h
 |j::l,s,s1,h,he=>by
  obtain⟨g,β,h⟩:=h;simp only[ayy]at he;split at he
  ·rename_i id ver p n hj;split at he
   ·rename_i v e z k t l1 u m t' l2 kA;obtain⟨h1,he⟩:=aG.1 he;obtain⟨l2',h2,he⟩:=ax.1 he;obtain⟨x,h3,he⟩:=ax.1 he;simp only[av,dB,cv,gh]at h1;obtain⟨⟨⟨h5,h6⟩,h7⟩,h8⟩:=h1;obtain⟨et,hl⟩:=jb (jd.1 h2);have et':t'=t:=by simpa using et
    subst et';simp only at hl;subst hl;refine aaa l (h.aHz hj kA h6 au (λhi=> ?_) h3) he;have:(u.shared.any λi=>decide (i=id))=aT:=List.any_eq_true.2 ⟨id,hi,by simp⟩;rw[this]at h8;cases h8
   ·simp only[aw]at he
  ·simp only[aw]at he
theorem zq:∀(l:List aHG) {s s1:AS},gT C s a w->(PX s l).eval=ao s1->gT C s1 a w
 |[],s,s1,h,he=>by simp only[PX]at he;obtain rfl:=ay.1 he;exact h
 |o::l,s,s1,h,he=>by
  obtain⟨g,β,h⟩:=h;unfold PX at he;split at he
  ·exact zq l ⟨g,β,h⟩ he
  obtain⟨u,hu,he⟩:=ax.1 he;obtain⟨x,hx,he⟩:=ax.1 he;obtain⟨s',hs,he⟩:=ax.1 he;exact zq l (h.aFW hu hx hs) he
theorem lK(hC:C.ok):∀(l:List asB) {s s1:AS},gT C s a w->(vl P s l).eval=ao s1->gT C s1 a w
 |[],s,s1,h,he=>by simp only[vl]at he;obtain rfl:=ay.1 he;exact h
 |o::l,s,s1,h,he=>by
  obtain⟨g,β,h⟩:=h;unfold vl at he;split at he
  ·exact lK hC l ⟨g,β,h⟩ he
  obtain⟨u,hu,he⟩:=ax.1 he;split at he
  ·split at he
   ·rename_i e t b Hz hv;obtain⟨s',h1,h2⟩:=ax.1 he;exact lK hC l (h.aHb hu hv (Xl Hz) h1) h2
   ·simp only[aw]at he
  ·split at he
   ·rename_i b j ver aKu;split at he
    ·rename_i v fr c kA hm;split at he
     ·have aDQ:b < s.news.length:=by
       have:=dZ kA;simp only[AS.bU,aI]at this;cases hn:s.news[b]? with
       |none=>rw[hn]at this;simp at this
       |some es=>exact(dN.1 hn).1
      obtain⟨g1,β1,h1⟩:=h.Gd hC aDQ (by simpa using hm);exact lK hC l ⟨g1,β1,h1⟩ he
     ·simp only[aw]at he
    ·simp only[aw]at he
   ·simp only[aw]at he
theorem Kp:∀(l:List Nat) {s s1:AS},gT C s a w->(Z9 s l).eval=ao s1->gT C s1 a w
 |[],s,s1,h,he=>by simp only[Z9]at he;obtain rfl:=ay.1 he;exact h
 |j::l,s,s1,h,he=>by
  obtain⟨g,β,h⟩:=h;simp only[Z9]at he;split at he
  ·rename_i id ver len hj;split at he
   ·rename_i v e t r kA;split at he
    ·obtain⟨h1,h2⟩:=bS.1 he;have h1:len<=r.length:=by simpa using h1
     refine Kp l ?_ h2
     have cP:=dZ kA;have hO:vK (s.env w g β) id aR (.vec e t r):=h.bN id v aR _ cP;have ht:=Trans.refl w g;have hle:cU (s.env w g β) ((s.aZ id (.obj v aR (.vec e t (r.take len)))).env w g β):=cU.aZ cP (aF _) ht (λ_ _=>rfl) (λ_=>rfl);refine⟨g,β,h.step (dr _ _ _) ht hle (iN.aZ h.bN (by rw[cP];simp) hle (λ_ _=>rfl) (λ_ _ _ _ _ _ _ _=>⟨rfl,rfl⟩) ?_ (L7 cP))⟩;obtain⟨hz,hO⟩:=hO;refine⟨hz,?_⟩;have hO:(match β id with
      |none=>r=[]
      |some pl=>∃cur k,w.heap[pl.b]? =ao (.cells cur e (0,0))/\cur.size=pl.cap*t.size/\r.length<=pl.cap/\pl.cap<=maxLen/\g pl.b= .own (.id id) k/\
        k<=r.length*t.size/\(aR=aR->k=0)/\bq (cI (s.env w g β) t) (cur.toList.take (r.length*t.size)) r):=hO
     show(match β id with
      |none=>r.take len=[]
      |some pl=>_)
     cases hp:β id with
     |none=>rw[hp]at hO;simp only at hO;subst hO;simp
     |some pl=>
      rw[hp]at hO;obtain⟨cur,k,q1,q2,q3,q4,q5,q6,q7,q8⟩:=hO;have hk:=q7 rfl;subst hk;have hlen:(r.take len).length=len:=by simp;omega
      refine⟨cur,0,q1,q2,au,q4,q5,aN _,λ_=>rfl,?_⟩;have:=bq.take (λ_ _ hx=>cI.size hx) len q8;rw[l5,gC (c8 _ h1)]at this;rw[hlen];exact this.mono λ_ _ hx=>hx.mono hle.mem
    ·simp only[aw]at he
   ·simp only[aw]at he
  ·simp only[aw]at he
theorem KA:∀(l:List (Nat×Ty)) {s s1:AS},gT C s a w->(asData s l).eval=ao s1->gT C s1 a w
 |[],s,s1,h,he=>by simp only[asData]at he;obtain rfl:=ay.1 he;exact h
 | (j,t)::l,s,s1,h,he=>by obtain⟨g,β,h⟩:=h;simp only[asData]at he;obtain⟨x,h1,h2⟩:=ax.1 he;obtain⟨g',i1,_,_,cs,hR,hO⟩:=z8 h (h.ct j) h1;exact KA l ⟨g',β,i1.aFI j (VS.of (a:= .d t x) (cs:=cs) (by simpa only[V]using hR) hO)⟩ h2
theorem Inv.still:∀(l:List Nat) {s:AS},Inv C g β s a w->Inv C g β (s.still l) a w
 |[],s,h=>h
 |q::l,s,h=>by
  simp only[AS.still];split
  ·rename_i v fr i ver k t r cu kA;exact Inv.still l (h.aCB (dZ kA) (.inr ⟨rfl,rfl,rfl⟩))
  ·exact Inv.still l h
theorem vP{α:Type}(l:List α):(eP l).Perm l:=Quotient.exact (s:=ZC α) (qj (Quotient.mk (ZC α) l)).choose_spec
theorem aoE{α:Type}{l l':List α}(h:l.Perm l'):eP l=eP l':=by
 have e:Quotient.mk (ZC α) l=Quotient.mk (ZC α) l':=Quotient.sound h;unfold eP;have:∀q q':Quotient (ZC α),q=q'->(qj q).choose=(qj q').choose:=λq q' h=>by subst h;rfl
 exact this _ _ e
theorem Inv.canon:∀(l:List Id) {s:AS},Inv C g β s a w->Inv C g β (s.canon l) a w
 |[],s,h=>h
 |id::l,s,h=>by
  simp only[AS.canon];split
  ·rename_i v fr k t r kA;have cP:=dZ kA;have ht:=Trans.refl w g;have hle:cU (s.env w g β) ((s.aZ id (.obj v fr (.mp k t (eP r)))).env w g β):=cU.aZ cP (aF _) ht (λ_ _=>rfl) (λ_=>rfl);obtain⟨pl,es,clock,h1,h2,h3,⟨⟨l',h4,h5⟩,h6⟩,h7⟩:=h.bN id v fr _ cP
   refine Inv.canon l (h.step (dr _ _ _) ht hle (iN.aZ h.bN (by rw[cP];simp) hle (λ_ _=>rfl) (λ_ _ _ _ _ _ _ _=>⟨rfl,rfl⟩)
    ⟨pl,es,clock,h1,h2,h3,⟨⟨l',h4.mono λ_ _ he=>he.mono hle.mem,h5.trans (vP r).symm⟩,(((vP r).map _).nodup_iff).2 h6⟩,h7⟩ ?_))
   intro ver k' v' l2 hl;rw[cP]at hl;simp only[az,dU.obj.injEq]at hl;obtain⟨rfl,rfl,_⟩:=hl;exact⟨rfl,rfl,⟨_,_,_,rfl⟩,λ_ _=>⟨rfl,rfl⟩⟩
  ·exact Inv.canon l h
theorem PA(k v n:Nat)(i:Id)(ver:Nat):(i= .bF k/\ver=v/\uh k v n i ver=ao (.bF k,n))\/(i= .bF k/\uh k v n i ver=aJ)\/(i≠ .bF k/\uh k v n i ver=ao (i,ver)):=by
 cases i with
 |new x j=>exact .inr (.inr ⟨by simp,rfl⟩)
 |bF j=>
  simp only[uh];cases h1:iG j k with
  |false=>exact .inr (.inr ⟨λe=>by injection e with e;subst e;simp at h1,rfl⟩)
  |true=>
   obtain rfl:=fa h1;cases h2:iG ver v with
   |false=>exact .inr (.inl ⟨rfl,rfl⟩)
   |true=>exact .inl ⟨rfl,fa h2,rfl⟩
theorem aem(hC:C.ok){s s1:AS}(h:Inv C g β s a w){k n:Nat}(he:(s.atk k n).eval=ao s1):Inv C g β s1 a w:=by
 unfold AS.atk at he;split at he;rotate_left
 ·exact(aw.1 he).elim
 rename_i v fr c hk;obtain⟨aKH,he⟩:=aG.1 he;have aKH:v<=n\/1<=n:=(Bool.or_eq_true_iff.1 aKH).imp dF dF;have hz:∀ver,C.E.Eg (.bF k) ver->ver=0:=λver hb=>by
  obtain⟨h1,h2⟩:=hb;cases hs:C.E.s (.bF k) with
  |none=>exact absurd hs h1
  |some en=>
   cases en with
   |dead=>
    have:=(h.le.Eg (.bF k) (v+1) ⟨h1,λv' fr' c' hh=>by rw[hs]at hh;cases hh⟩).2 _ _ _ hk;omega
   |obj v0 fr0 c0=>
    have:=hC.2 _ _ _ _ hs;have:=h2 _ _ _ hs;omega
 obtain rfl:=ay.1 he;have aGB:k < s.cn.length:=by
  rcases pC k s.cn.length with h | h
  ·exact h
  ·simp[AS.bU,dP h]at hk
 generalize NI:({ct:=s.ct.map (aD.iJ (uh k v n)),cn:=(s.cn.map (dU.akN (uh k v n) (Fq k))).set k (.obj n fr (c.iJ (uh k v n))),news:=s.news.map λes=>es.map (dU.akN (uh k v n) (Fq k))}:AS)=s1;have e0:s1.bU (.bF k)=ao (.obj n fr (c.iJ (uh k v n))):=by rw[<-NI];simp[AS.bU,aGB]
 have e1:∀i,i≠ .bF k->s1.bU i=(s.bU i).map (dU.akN (uh k v n) (Fq k)):=λi hi=>by
  rw[<-NI];cases i with
  |bF j=>
   have:¬k=j:=λe=>hi (by rw[e])
   simp only[AS.bU];rw[eF this,eJ]
  |new x j=>
   simp only[AS.bU,aI,eJ];cases s.news[x]? <;> simp
 have e2:∀i v' fr' c',i≠ .bF k->s1.bU i=ao (.obj v' fr' c')->∃c0,s.bU i=ao (.obj v' fr' c0)/\c'=c0.arh (uh k v n) (Fq k):=λi v' fr' c' hi hh=>by
  rw[e1 i hi]at hh;cases hs:s.bU i with
  |none=>rw[hs]at hh;cases hh
  |some en=>
   rw[hs]at hh;cases en with
   |dead=>simp[dU.akN]at hh
   |obj v0 fr0 c0=>
    simp only[eo,dU.akN,az,dU.obj.injEq]at hh;obtain⟨rfl,rfl,rfl⟩:=hh;exact⟨c0,rfl,rfl⟩
 have e3:∀i,i≠ .bF k->s.bU i≠aJ->s1.bU i≠aJ:=λi hi hh=>by
  rw[e1 i hi];cases hs:s.bU i with
  |none=>exact absurd hs hh
  |some en=>simp
 have hle:y5 (uh k v n) (s.env w g β) (s1.env w g β):=by
  refine⟨Trans.mem (E:=s.env w g β) (E':=s1.env w g β) (Trans.refl w g),λi ver r hr afp=> ?_⟩;rcases PA k v n i ver with⟨rfl,rfl,e⟩ | ⟨rfl,e⟩ | ⟨hi,e⟩
  ·rw[e]at hr;obtain rfl:=aP hr;refine⟨⟨by show s1.bU (.bF k)≠aJ;rw[e0];simp,λv' fr' c' hh=> ?_⟩,λ_=>⟨⟨fr,c,hk⟩,rfl⟩⟩;have hh:s1.bU (.bF k)=ao (.obj v' fr' c'):=hh;rw[e0]at hh;simp only[az,dU.obj.injEq]at hh;exact Nat.le_of_eq hh.1
  ·rw[e]at hr;cases hr
  ·rw[e]at hr;obtain rfl:=aP hr;obtain⟨k1,k2⟩:=afp;have k1:s.bU i≠aJ:=k1;have k2:∀v' fr' c',s.bU i=ao (.obj v' fr' c')->ver<=v':=k2;refine⟨⟨e3 i hi k1,λv' fr' c' hh=> ?_⟩,λ⟨fr',c',hh⟩=> ?_⟩
   ·obtain⟨c0,R5,_⟩:=e2 i v' fr' c' hi hh;exact k2 _ _ _ R5
   ·obtain⟨c0,R5,_⟩:=e2 i ver fr' c' hi hh;exact⟨⟨fr',c0,R5⟩,rfl⟩
 refine⟨h.defers,by rw[<-NI];simpa using h.size,λi=> ?_,λid ver fr' c' de=> ?_,h.trans,?_⟩
 ·have:s1.slot i=(s.slot i).iJ (uh k v n):=by rw[<-NI];exact Wg _ rfl _ _
  rw[this];exact ET hle (h.ct i)
 ·have de:s1.bU id=ao (.obj ver fr' c'):=de;by_cases hi:id= .bF k
  ·subst hi;rw[e0]at de;simp only[az,dU.obj.injEq]at de;obtain⟨rfl,rfl,rfl⟩:=de;exact vL hle (h.bN (.bF k) v fr c hk) (id':= .bF k) rfl λpl _=>⟨rfl,λ_ h=>h,λh=>h⟩
  ·obtain⟨c0,R5,rfl⟩:=e2 id ver fr' c' hi de;have h0:=h.bN id ver fr' c0 R5;rcases ajC c0 with⟨q2,vq,kt,vt,l,cu,rfl⟩ | ⟨aEa,_⟩
   ·simp only[aD.arh];cases aHX:Fq k q2 with
    |true=>
     have gj:q2≠ .bF k:=λe=>by subst e;simp[Fq]at aHX
     have hρq:∀vr,uh k v n q2 vr=ao (q2,vr):=λvr=>by
      rcases PA k v n q2 vr with⟨e,_⟩ | ⟨e,_⟩ | ⟨_,e⟩
      ·exact absurd e gj
      ·exact absurd e gj
      ·exact e
     refine aC4.bp hle.mem (λ_=>rfl) h0 rfl (λ_ _ h=>h) λvr _=>⟨λhb=>hle.ref q2 vr (q2,vr) (hρq vr) hb,λkt vt l amu=> ?_,λ_ _ h=>h⟩
     have amu:s.bU q2=ao (.obj vr aT (.mp kt vt l)):=amu;show s1.bU q2=_;rw[e1 q2 gj,amu];rfl
    |false=>
     obtain⟨pl,mb,since,seen,c0,h1,h2,h3,h4⟩:=h0;exact⟨pl,mb,since,seen,c0,h1,h2,h3,λvr ah3=>au⟩
   ·rw[aEa];exact vL hle h0 (id':=id) rfl λpl _=>⟨rfl,λ_ h=>h,λh=>h⟩
 ·have hl:=h.le;refine⟨hl.mem.trans (Trans.mem (E:=s.env w g β) (E':=s1.env w g β) (Trans.refl w g)),λid ver hb=> ?_,λid ver hb hc=> ?_⟩
  ·obtain⟨h1,h2⟩:=hl.Eg _ ver hb;have h1:s.bU id≠aJ:=h1;have h2:∀v' fr' c',s.bU id=ao (.obj v' fr' c')->ver<=v':=h2;by_cases hi:id= .bF k
   ·subst hi;obtain rfl:=hz ver hb;exact⟨by show s1.bU (.bF k)≠aJ;rw[e0];simp,λv' fr' c' hh=>aN _⟩
   ·exact⟨e3 id hi h1,λv' fr' c' hh=>let⟨c0,R5,_⟩:=e2 id v' fr' c' hi hh;h2 _ _ _ R5⟩
  ·obtain⟨fr',c',hc⟩:=hc;have hc:s1.bU id=ao (.obj ver fr' c'):=hc;by_cases hi:id= .bF k
   ·subst hi;obtain rfl:=hz ver hb;rw[e0]at hc;simp only[az,dU.obj.injEq]at hc;have e4:=hc.1;obtain rfl:v=0:=au;exact hl.cur _ _ hb ⟨fr,c,hk⟩
   ·obtain⟨c0,R5,_⟩:=e2 id ver fr' c' hi hc;exact hl.cur _ _ hb ⟨fr',c0,R5⟩
theorem C4(hC:C.ok):∀(l:List (Nat×Nat)) {s s1:AS},Inv C g β s a w->(aen s l).eval=ao s1->Inv C g β s1 a w
 |[],s,s1,h,he=>by obtain rfl:=ay.1 he;exact h
 |x::l,s,s1,h,he=>by obtain⟨s2,h1,h2⟩:=ax.1 he;exact C4 hC l (aem hC h h1) h2
def RA(ids:List Id)(q:Nat):lY->lY
 | .own (.id (.new x y)) k=>match idxOf (.new x y) ids with | some m=> .own (.id (.new q m)) k | none=> .free
 |l=>l
def aEL(β:Id->Option Pl)(ids:List Id)(q:Nat):Id->Option Pl
 | .bF k=>β (.bF k)
 | .new x y=>if x=q then(ids[y]?).bind β else aJ
theorem Trans.RA(w:bW)(g:Nat->lY)(ids:List Id)(q:Nat):Trans w w g λx=>RA ids q (g x):=by
 refine⟨rfl,rfl,⟨rfl,aF _⟩,aF _,λy _=> ?_⟩;cases hg:g y with
 |free=>exact⟨by simp[Ab.RA],rfl⟩
 |own o k=>cases o with
  |eL=>exact⟨by simp[Ab.RA],rfl⟩
  |id x=>
   refine⟨?_,λ_ _ _ h=>h⟩;cases x with
   |bF m=>exact .inr ⟨_,_,rfl,aF _⟩
   |new x j=>
    simp only[Ab.RA];split
    ·exact .inr ⟨_,_,rfl,aF _⟩
    ·exact .inl rfl
theorem Inv.abo(h:Inv C g β s a w)(hC:C.ok){ids:List Id}{q:Nat}(hn:ids.Nodup)(Co:∀id∈ids,∃i j,id= .new i j)(aJd:q < s.news.length):
  ∃g1 β1,Inv C g1 β1 (s.Fo ids q) a w:=by
 let ρ:Ren:=apr s ids q
 obtain⟨s1,NI⟩:∃s1,s1=s.Fo ids q:=⟨_,rfl⟩;have hold:∀k,s1.bU (.bF k)=(s.bU (.bF k)).map (dU.axt ρ):=λk=>by
  rw[NI];show(s.cn.map (dU.axt ρ))[k]? =_
  rw[eJ];rfl
 have lj:∀j,s1.bU (.new q j)=(ids[j]?).map λid=>((s.bU id).getD .dead).akM ρ:=λj=>by rw[NI];simp[AS.Fo,AS.bU,aI,aJd,ρ]
 have HA:∀x j,x≠q->s1.bU (.new x j)=aJ:=λx j hx=>by
  have hx':¬q=x:=λe=>hx e.symm
  rw[NI];simp only[AS.Fo,AS.bU,aI];rw[eF hx',eJ];cases s.news[x]? <;> simp
 let g1:Nat->lY:=λx=>RA ids q (g x)
 let β1:=aEL β ids q
 have ht:Trans w w g g1:=Trans.RA w g ids q;have hβ:∀j,β1 (.new q j)=(ids[j]?).bind β:=λj=>if_pos rfl
 have hρ:∀i ver r,ρ i ver=ao r->(∃k,i= .bF k/\r=(i,ver))\/∃j fr c,ids[j]? =ao i/\s.bU i=ao (.obj ver fr c)/\r=(.new q j,0):=λi ver r hr=>by
  replace hr:apr s ids q i ver=ao r:=hr
  cases i with
  |bF k=>exact .inl ⟨k,rfl,(aP hr).symm⟩
  |new x y=>
   unfold apr at hr;simp only at hr;split at hr
   ·rename_i j v fr c hj ho;split at hr
    ·rename_i hv;have hv:ver=v:=by simpa using hv
     subst hv;exact .inr ⟨j,fr,c,oN hj,dZ ho,(aP hr).symm⟩
    ·cases hr
   ·cases hr
 have hrenA:∀e v fr c,dU.axt ρ e= .obj v fr c->∃c0,e= .obj v fr c0/\c0.iJ ρ=c:=λe v fr c he=>by
  cases e with
  |dead=>cases he
  |obj v0 fr0 c0=>
   simp only[dU.axt,dU.obj.injEq]at he;obtain⟨rfl,rfl,rfl⟩:=he;exact⟨c0,rfl,rfl⟩
 have hle:y5 ρ (s.env w g β) (s1.env w g1 β1):=by
  refine⟨Trans.mem (E:=s.env w g β) (E':=s1.env w g1 β1) ht,λi ver r hr afp=> ?_⟩;rcases hρ i ver r hr with⟨k,rfl,rfl⟩ | ⟨j,fr,c,hj,he,rfl⟩
  ·obtain⟨k1,k2⟩:=afp;have k1:s.bU (.bF k)≠aJ:=k1;refine⟨⟨?_,λv' fr' c' hh=> ?_⟩,λ⟨fr',c',hh⟩=>⟨?_,rfl⟩⟩
   ·show s1.bU (.bF k)≠aJ;rw[hold];cases hs:s.bU (.bF k) with
    |none=>exact absurd hs k1
    |some en=>simp
   ·have hh:s1.bU (.bF k)=ao (.obj v' fr' c'):=hh;rw[hold,dw]at hh;obtain⟨e,he,hh⟩:=hh;obtain⟨c0,rfl,_⟩:=hrenA _ _ _ _ hh;exact k2 v' fr' c0 he
   ·have hh:s1.bU (.bF k)=ao (.obj ver fr' c'):=hh;rw[hold,dw]at hh;obtain⟨e,he,hh⟩:=hh;obtain⟨c0,rfl,_⟩:=hrenA _ _ _ _ hh;exact⟨fr',c0,he⟩
  ·refine⟨⟨by show s1.bU (.new q j)≠aJ;rw[lj,hj];simp,λ_ _ _ _=>aN _⟩,λ_=>⟨⟨fr,c,he⟩,?_⟩⟩;show β1 (.new q j)=β i;rw[hβ,hj];rfl
 have e1:s1.ct=s.ct.map (aD.iJ ρ):=by rw[NI];rfl
 rw[<-NI];refine⟨g1,β1,h.OZ hC ρ (by rw[e1];simp) ht hle (λi=> ?_) (λid ver fr c de=> .inr ?_) λk=>⟨λhk=> ?_,λv' fr' c' hh=> ?_,rfl⟩⟩
 ·have:s1.slot i=(s.slot i).iJ ρ:=by unfold AS.slot;rw[e1];exact Wg _ rfl _ _
  rw[this];exact ET hle (h.ct i)
 ·cases id with
  |bF k=>
   rw[hold,dw]at de;obtain⟨e,he,de⟩:=de;obtain⟨c0,rfl,hc⟩:=hrenA _ _ _ _ de;exact⟨.bF k,ver,c0,he,hc,rfl,λpl _=>⟨λn hg=>by show RA ids q (g pl.b)=_;rw[hg];rfl,λhg=>by show RA ids q (g pl.b)=_;rw[hg];rfl⟩⟩
  |new x y=>
   by_cases hx:x=q
   ·subst hx;rw[lj,dw]at de;obtain⟨i,hi,de⟩:=de;obtain⟨i0,j0,rfl⟩:=Co i (c7 hi);cases hs:s.bU (.new i0 j0) with
    |none=>rw[hs]at de;cases de
    |some e=>
     rw[hs]at de;cases e with
     |dead=>cases de
     |obj v0 fr0 c0=>
      simp only[dz,dU.akM,dU.obj.injEq]at de;obtain⟨_,rfl,hc⟩:=de;refine⟨.new i0 j0,v0,c0,hs,hc,by rw[hβ,hi];rfl,λpl _=>⟨λn hg=> ?_,λhg=>by show RA ids _ (g pl.b)=_;rw[hg];rfl⟩⟩;show RA ids _ (g pl.b)=_;rw[hg];simp only[RA,vT hn hi]
   ·rw[HA x y hx]at de;cases de
 ·show s1.bU (.bF k)≠aJ;rw[hold];cases hs:s.bU (.bF k) with
  |none=>exact absurd hs hk
  |some en=>simp
 ·have hh:s1.bU (.bF k)=ao (.obj v' fr' c'):=hh;rw[hold,dw]at hh;obtain⟨e,he,hh⟩:=hh;obtain⟨c0,rfl,_⟩:=hrenA _ _ _ _ hh;exact⟨c0,he⟩
theorem abp(hC:C.ok){s s1:AS}{o:Option Nat}(h:gT C s a w)(he:(s.abo o).eval=ao s1):gT C s1 a w:=by
 cases o with
 |none=>
  obtain rfl:=ay.1 he;exact h
 |some q=>
  obtain⟨h1,h2⟩:=aG.1 he;obtain rfl:=ay.1 h2;obtain⟨g,β,h⟩:=h;obtain⟨g1,β1,h3⟩:=h.abo hC (ids:=s.aF1) ((sC s _ _ _ (by simp)).filter _) (λid de=>by
   have:=(nv.1 de).2;cases id with
   |bF k=>cases this
   |new i j=>exact⟨i,j,rfl⟩) (dF h1)
  exact⟨g1,β1,h3⟩
theorem oX(hC:C.ok){an:nU}{s1:AS}(h:gT C s a w)(he:(norm P an s).eval=ao s1):gT C s1 a w:=by unfold norm at he;obtain⟨sb,aK0,he⟩:=ax.1 he;obtain⟨su,aK1,he⟩:=ax.1 he;obtain⟨sd,aIx,he⟩:=ax.1 he;obtain⟨s0,h1,h2⟩:=ax.1 he;obtain⟨h3,h4⟩:=aG.1 h2;obtain⟨sf,h5,h6⟩:=ax.1 h4;obtain⟨sg,h6,h7⟩:=ax.1 h6;obtain⟨g0,β0,h0⟩:=h;obtain⟨g1,i1,_⟩:=fb an.amn (C4 hC _ h0 aK0);obtain⟨g,β,h⟩:=KA _ (zq _ (aaa _ ⟨g1,β0,(i1.still an.aEo).canon an.aDr⟩ aK1) aIx) h1;exact abp hC (lK hC _ (Od _ ⟨g,β,h.bp hC h3⟩ h5) h6) h7
end
end Go.Ab
end
