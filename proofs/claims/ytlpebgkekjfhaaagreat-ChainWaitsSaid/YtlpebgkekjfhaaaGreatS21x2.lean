/-
  Made short by a program of mine (wip/tools/mini.py).
-/
import Derived.Test.YtlpebgkekjfhaaaGreatS21x1
import Derived.Lib.Builder
import Derived.Lib.UnsafeStr
import Derived.Lib.AppendZeros
import Derived.Maps.RangeRun
set_option linter.unusedVariables false
set_option linter.unusedSimpArgs false
set_option maxRecDepth 100000
set_option synthInstance.maxSize 5000
noncomputable section
namespace Go.Ab
section
variable {P:Program} {C:Ctx} {g:Nat->kY} {β:Id->Option Pl} {s:AS} {a:Act} {w:World} {o:Oper}
theorem sk{b:Builtin}{args:Array Operand}{ts:Array TypeId}{f:Sem Value}{x:Value}{w':World}(ho:o.op= .call {callee:= .builtin b,args,argTypes:=ts})
  (hb:∀ty cs xs,xs=args.map a.eval->builtin b ts ty cs xs=(do pure (.value (<-f)))) (hf:f.run P w= .ok x w'):(execOp a.eval o).run P w= .ok (.value x) w':=by
 simp only[execOp,ho,resolve,Sem.run_bind,Sem.run_pure,Result.andThen_ok,invoke]
 rw[hb _ _ _ rfl,Sem.run_bind,hf]
 rfl
theorem M5(h:Inv C g β s a w){c:Call}{x:Operand}{T:TypeId}(ho:o.op= .call c)(hc:c.callee= .builtin .len)(ha:c.args.toList=[x])(ht:c.argTypes.toList=[T]){v:av}(he:(O3 P T (s.ev x)).eval=some v):
  fM P o a w (iE C (s.put o.dst v)):=by
 obtain⟨cal,args,tys⟩:=c
 simp only at hc ha ht
 have ha':args= #[x]:=by apply gq;simpa using ha
 have ht':tys= #[T]:=by apply gq;simpa using ht
 subst hc ha' ht'
 have hx:=h.ev x
 have fin:∀z,(Builtin.len_ #[T] 0 #[a.eval x]).run P w= .ok z w->VS (s.env w g β) v z->fM P o a w (iE C (s.put o.dst v)):=by
  intro z h1 h2
  refine h.value h2 (sk ho (f:=Builtin.len_ #[T] 0 #[a.eval x]) (λty cs xs Hs=> ?_) h1)
  subst Hs
  have e1:Builtin.len_ #[T] 0 #[a.eval x]=Builtin.len_ #[T] ty #[a.eval x]:=rfl
  rw[e1]
  simp[builtin]
 unfold O3 at he
 split at he
 ·rename_i st hT hl
  rw[hl]at hx
  obtain rfl:=ao.1 he
  refine fin (.int .i64 (st.size:Int)) ?_ (kj _ _)
  rw[u7 hx]
  simp[Builtin.len_,run_underlying hT,goInt]
 ·rename_i e t l hT hl
  rw[hl]at hx
  obtain rfl:=ao.1 he
  obtain⟨ad,cap,vs,hy,_⟩:=oJ hx
  refine fin (.int .i64 (l.length:Int)) ?_ (kj _ _)
  rw[hy]
  simp[Builtin.len_,run_underlying hT,goInt]
 ·rename_i e hT hl
  rw[hl]at hx
  obtain rfl:=ao.1 he
  refine fin (.int .i64 0) ?_ (kj _ _)
  rw[kg hx]
  simp[Builtin.len_,run_underlying hT,goInt]
 ·rename_i e id ver p c i len hT hl
  rw[hl]at hx
  obtain rfl:=ao.1 he
  obtain⟨ad,cap,hy,_⟩:=np hx
  refine fin (.int .i64 (len:Int)) ?_ (kj _ _)
  rw[hy]
  simp[Builtin.len_,run_underlying hT,goInt]
 ·rename_i n e hT
  obtain rfl:=ao.1 he
  refine fin (.int .i64 (n:Int)) ?_ (kj _ _)
  simp[Builtin.len_,run_underlying hT,goInt]
 ·simp only[ai]at he
def Env.open(E:Env):Env:= {E with g:=λ_=> .free}
theorem Pf(E:Env):cP E E.open:=⟨⟨λ_ _ _ h=>⟨h.1,trivial⟩,λ_ _ _ h=>⟨rfl,h⟩⟩,λ_ _ h=>h,λ_ _ _ h=>⟨h,rfl⟩⟩
theorem IE(h:Inv C g β s a w){v:av}{y:Value}(hv:VS (s.env w g β) v y){t:Ty}{x:t.den}(ht:(s.ID t v).eval=some x):
  ∃cs,dm (s.env w g β).open t cs x/\fV t.agg cs y:=by
 obtain⟨cs,hV,hO⟩:=hv.eX (si ht)
 exact⟨cs,pZ rfl h.bK (Pf _) v t x cs hV ht (λid _ v fr c _ pl _ j x hx _=>⟨hx,trivial⟩),by rw[<-Cm ht];exact hO⟩
theorem pH{E:Env}{k:IntKind}:∀ {vs:List Value} {l:List Int},bj (dm E (.int k)) vs l->vs=l.map (Value.int k)
 |vs,[],h=>h
 |_,x::xs,⟨c,cs',e,hx,hr⟩=>by
  have hx':c=[Value.int k x]:=by simpa only[dm]using hx
  rw[e,hx',pH hr]
  rfl
theorem pJ{E:Env}{k:IntKind}:∀(l:List Int),bj (dm E (.int k)) (l.map (Value.int k)) l
 |[]=>rfl
 |x::xs=>⟨[.int k x],xs.map (Value.int k),rfl,by simp[dm],pJ xs⟩
theorem foldl_push(l:List Int):∀b:ByteArray,l.foldl (λr n=>r.push (UInt8.ofNat n.toNat)) b=⟨b.data++(l.map λn=>UInt8.ofNat n.toNat).toArray⟩:=by
 induction l with
 |nil=>intro b;simp
 |cons n l ih=>
  intro b
  rw[bT,ih]
  simp[ByteArray.push]
theorem GS{α:Type}(xs:Array α)(x:α)(f:α->α):(xs.push x).modify xs.size f=xs.push (f x):=by
 apply nq
 intro i
 rw[gA,Array.getElem?_push,Array.getElem?_push]
 by_cases h:i=xs.size
 ·subst h;simp
 ·have h':¬xs.size=i:=λe=>h e.symm
  simp[h,h']
theorem Et(w:World)(c:Array Value)(e:TypeId)(n:Nat):(w.alloc (.cells c e)).freeze ⟨w.heap.size,n,none⟩ 1=w.alloc (.cells c e (n,n+1)):=by
 show({w with heap:=(w.heap.push (.cells c e)).modify w.heap.size _}:World)= {w with heap:=w.heap.push (.cells c e (n,n+1))}
 rw[GS]
 rfl
theorem FZ{w:World}{b:Nat}{c:Array Value}{e:TypeId}{n:Nat}(h:w.heap[b]? =some (.cells c e (n,n+1))):w.freeze ⟨b,n,none⟩ 1=w:=by
 unfold World.freeze
 rw[if_neg (by omega)]
 have:∀f:Obj->Obj,f (.cells c e (n,n+1))= .cells c e (n,n+1)->w.heap.modify b f=w.heap:=λf hf=>by
  apply nq
  intro i
  rw[gA]
  split
  ·rename_i hi;subst hi;rw[h];simp[hf]
  ·rfl
 rw[this]
 simp
theorem xV(e:TypeId)(st:ByteArray)(w:World):∃cap:Nat,st.size<=cap/\∃arr:Array Value,(∀(j:Nat) (v:Value),((cD st).map (Value.int .u8))[j]? =some v->arr[j]? =some v)/\
  (Conv.stringToBytes e st).run P w= .ok (.slice (some ⟨w.heap.size,0,none⟩) st.size cap) (w.drew.alloc (.cells arr e (arr.size,arr.size+1))):=by
 refine⟨(Question.appendCap st.size 0 e).cut (w.tape w.drawn (.appendCap st.size 0 e)),by simp[Question.cut],
  (st.data.map λb=>Value.int .u8 b.toNat)++Array.replicate ((Question.appendCap st.size 0 e).cut (w.tape w.drawn (.appendCap st.size 0 e)) - st.size) (.int .u8 0),?_,?_⟩
 ·intro j v hj
  have hl:j < st.data.size:=by
   have:=(dL.1 hj).1
   simpa[cD]using this
  rw[jR,if_pos (by simpa using hl)]
  simpa[cD,hl]using hj
 ·have hs:∀(arr:Array Value),(markStringish ⟨w.heap.size,0,none⟩).run P (w.drew.alloc (.cells arr e))= .ok () (w.drew.alloc (.cells arr e (arr.size,arr.size+1))):=by
   intro arr
   have h1:(w.drew.alloc (.cells arr e)).shape? w.heap.size=some (e,arr.size):=by
    have h2:(w.drew.alloc (.cells arr e)).heap[w.heap.size]? =some (.cells arr e):=oh w.drew _
    simp only[World.shape?,h2]
   have h3:=Et w.drew arr e arr.size
   have h4:w.drew.heap.size=w.heap.size:=rfl
   rw[h4]at h3
   simp only[markStringish,Sem.run_bind,run_shape,h1,Result.andThen_ok,run_freeze,h3]
  simp[Conv.stringToBytes,Question.forced,newRow,hs]
theorem Inv.kill(h:Inv C g β s a w){id:Id}{v:Nat}{fr:Bool}{c:av}(hs:s.bZ id=some (.obj v fr c)){b:Nat}(hg:g b= .own (.id id) 0){w':World}(P6:w'.os=w.os)(WO:w'.tape=w.tape)(Ez:w'.output=w.output/\w.drawn<=w'.drawn)(ou:w'.heap.size=w.heap.size)
  (xt:∀b',b'≠b->w'.heap[b']? =w.heap[b']?):Inv C (lp g b .free) β (s.aO id .dead) a w':=by
 have ht:Trans w w' g (lp g b .free):=by
  refine⟨P6,WO,Ez,by omega,λb' hb'=> ?_⟩
  by_cases he:b'=b
  ·subst he
   rw[hg,fJ]
   exact⟨.inl rfl,λ_ _ hh=>by omega⟩
  ·rw[fA _ _ _ he,xt b' he]
   cases zN:g b' with
   |free=>exact⟨rfl,rfl⟩
   |own o k=>cases o with
    |eL=>exact⟨rfl,rfl⟩
    |id i=>exact⟨.inr ⟨i,k,rfl,aw _⟩,λoff v _ hv=>by simp only[World.cell?,xt b' he]at hv ⊢;exact hv⟩
 have kW:=eS s id .dead (by rw[hs];simp)
 have hle:cP (s.env w g β) ((s.aO id .dead).env w' (lp g b .free) β):=by
  refine⟨Trans.mem ht,λi ver hb=> ?_,λi ver hb hc=> ?_⟩
  ·by_cases hi:i=id
   ·subst hi
    exact⟨by show(s.aO i .dead).bZ i≠none;rw[kW];simp,λv fr c hh=>by
     have hh:(s.aO i .dead).bZ i=some (.obj v fr c):=hh
     rw[kW]at hh;cases hh⟩
   ·have:=da s id i .dead hi
    obtain⟨h1,h2⟩:=hb
    exact⟨by show(s.aO id .dead).bZ i≠none;rw[this];exact h1,λv fr c hh=>h2 v fr c (this.symm.trans hh)⟩
  ·obtain⟨fr,c,hc⟩:=hc
   have hc:(s.aO id .dead).bZ i=some (.obj ver fr c):=hc
   by_cases hi:i=id
   ·subst hi;rw[kW]at hc;cases hc
   ·rw[da s id i .dead hi]at hc
    exact⟨⟨fr,c,hc⟩,rfl⟩
 refine h.step (du _ _ _) ht hle λi ver fr c hi=> ?_
 have hi:(s.aO id .dead).bZ i=some (.obj ver fr c):=hi
 by_cases dq:i=id
 ·subst dq;rw[kW]at hi;cases hi
 ·rw[da s id i .dead dq]at hi
  refine(h.bK i ver fr c hi).mono hle rfl (λpl hp=> ?_) λq2 vq k2 v2 l2 yL V6=> ?_
  ·have fL:=h.apart hg dq hi (pl:=pl) hp
   exact⟨xt pl.b fL,fA _ _ _ fL⟩
  ·have yL:s.bZ q2=some (.obj vq true (.mp k2 v2 l2)):=yL
   have hd:q2≠id:=λe=>by
    obtain⟨fr3,c3,PR⟩:=V6
    have PR:(s.aO id .dead).bZ q2=some (.obj vq fr3 c3):=PR
    rw[e,kW]at PR
    cases PR
   refine⟨⟨k2,v2,l2,by show(s.aO id .dead).bZ q2=_;rw[da s id q2 .dead hd];exact yL⟩,λpl hp=> ?_⟩
   have fL:=h.apart hg hd yL (pl:=pl) hp
   exact⟨xt pl.b fL,fA _ _ _ fL⟩
theorem HR(h:Inv C g β s a w){src dst:TypeId}{x:Operand}(ho:o.op= .convert src dst x){id:Id}{ver len:Nat}(hx:s.ev x= .aS id ver [] 0 0 len){s':AS}(he:(FL P s o.dst src dst id ver len).eval=some s'):fM P o a w (iE C s'):=by
 unfold FL at he
 split at he
 ·rename_i v e0 l e kr hD
  split at he
  ·rename_i hE
   obtain⟨h1,h2⟩:=ay.1 he
   obtain⟨h3,h4⟩:=bO.1 h2
   obtain rfl:=ao.1 h4
   simp only[aj,beq_iff_eq]at h1
   obtain⟨rfl,rfl⟩:=h1
   simp only[decide_eq_true_eq]at h3
   obtain⟨h5,h6⟩:=h3
   have cV:=eH kr
   have hv:=h.ev x
   rw[hx]at hv
   obtain⟨ad,cap,hy,xq,_,_,fB⟩:=np hv
   have fB:=fB ⟨false,_,cV⟩
   have hO:pE (s.env w g β) id false (.vec e0 (.int .u8) l):=h.bK id v false _ cV
   obtain⟨hz,hO⟩:=hO
   have hO:(match β id with
    |none=>l=[]
    |some pl=>∃cur k,w.heap[pl.b]? =some (.cells cur e0 (0,0))/\cur.size=pl.cap*(Ty.int .u8).size/\l.length<=pl.cap/\pl.cap<=maxLen/\g pl.b= .own (.id id) k/\
      k<=l.length*(Ty.int .u8).size/\(false=false->k=0)/\bj (dm (s.env w g β) (.int .u8)) (cur.toList.take (l.length*(Ty.int .u8).size)) l):=hO
   have fB:(match β id with
    |some pl=>(0 < len\/0=0->ad=some ⟨pl.b,0,none⟩)/\(([]:List vI)=[]->0=0->cap=pl.cap)
    |none=>ad=none/\len=0/\cap=0):=fB
   cases hp:β id with
   |none=>rw[hp]at hO;simp only at hO;subst hO;simp at h6;omega
   |some pl=>
    rw[hp]at hO fB
    obtain⟨cur,k,q1,q2,q3,q4,q5,q6,q7,q8⟩:=hO
    have hk:=q7 rfl
    subst hk
    have Kz:=fB.1 (.inr rfl)
    subst Kz
    have hb:pl.b < w.heap.size:=(bJ.1 q1).1
    have TR:∃w',w.freeze ⟨pl.b,cur.size,none⟩ 1=w'/\w'.heap[pl.b]? =some (.cells cur e0 (cur.size,cur.size+1))/\w'.os=w.os/\w'.tape=w.tape/\(w'.output=w.output/\w.drawn<=w'.drawn)/\w'.heap.size=w.heap.size/\∀b',b'≠pl.b->w'.heap[b']? =w.heap[b']? :=by
     refine⟨_,rfl,?_⟩
     unfold World.freeze
     rw[if_neg (by omega)]
     refine⟨?_,rfl,rfl,⟨rfl,aw _⟩,by simp,λb' hb'=> ?_⟩
     ·simp only[gA,if_true,q1,ee]
      rfl
     ·simp only[gA]
      rw[if_neg (λe=>hb' e.symm)]
    obtain⟨w',hw',f1,f2,f3,f4,f5,f6⟩:=TR
    have MN:w.shape? pl.b=some (e0,cur.size):=by simp only[World.shape?,q1]
    have hm:(markStringish ⟨pl.b,0,none⟩).run P w= .ok () w':=by
     simp only[markStringish,Sem.run_bind,run_shape,MN,Result.andThen_ok,run_freeze,hw']
    have i1:=h.kill cV q5 f2 f3 f4 f5 f6
    refine .inl ⟨.slice (some ⟨pl.b,0,none⟩) len cap,w',eg (f:=convert src src (a.eval x)) (by simp only[execOp,ho]) ?_,_,β,i1.put o.dst ⟨_,?_,rfl⟩⟩
    ·rw[hy]
     simp[convert,run_underlying hD,run_underlying hE,hm]
    ·have zi:=pH q8
     have Rq:(Ty.int .u8).size=1:=rfl
     rw[Rq,jA]at zi
     simp only[V,dm]
     refine⟨_,cap,l.map (Value.int .u8),by rw[h6],by rw[<-h6];exact xq,λ_=>rfl,λj vv hj=>⟨_,_,rfl,?_,?_⟩,pJ (E:=(s.aO id .dead).env w' (lp g pl.b .free) β) _⟩
     ·rw[aI]
      show w'.cell? ⟨pl.b,j,none⟩=some vv
      simp only[World.cell?,f1]
      rw[<-zi,dp]at hj
      split at hj
      ·simpa using hj
      ·cases hj
     ·show oT (lp g pl.b .free) pl.b (0+j)
      unfold oT
      rw[fJ]
      trivial
  ·simp only[ai]at he
 ·simp only[ai]at he
theorem Oz(h:Inv C g β s a w){src dst:TypeId}{x:Operand}(ho:o.op= .convert src dst x){l:List Int}(hl:s.ev x= .sb l){v:av}(he:(Mq P src dst l).eval=some v):fM P o a w (iE C (s.put o.dst v)):=by
 have hx:=h.ev x
 have fin:∀z,(convert src dst (a.eval x)).run P w= .ok z w->VS (s.env w g β) v z->fM P o a w (iE C (s.put o.dst v)):=by
  intro z h1 h2
  exact h.value h2 (eg (f:=convert src dst (a.eval x)) (by simp only[execOp,ho]) h1)
 unfold Mq at he
 split at he
 ·rename_i e e' hD hS
  rw[hl]at hx
  split at he
  ·rename_i hE
   obtain⟨h1,h2⟩:=ay.1 he
   obtain rfl:=ao.1 h2
   have h1:src=dst:=by simpa using h1
   subst h1
   obtain⟨cs,hv,hO⟩:=hx
   simp only[V]at hv
   obtain⟨b,cap,arr,e2,KC,xq,Re,hb,H5⟩:=hv
   have hO':cs=[a.eval x]:=hO
   rw[KC]at hO'
   have hy:a.eval x= .slice (some ⟨b,0,none⟩) l.length cap:=by simpa using hO'.symm
   rw[hD]at hS
   obtain rfl:e=e':=by simpa using hS
   refine fin (.slice (some ⟨b,0,none⟩) l.length cap) ?_ ⟨_,?_,rfl⟩
   ·rw[hy]
    have hb:w.heap[b]? =some (.cells arr e2 (arr.size,arr.size+1)):=hb
    have TR:=FZ hb
    have MN:w.shape? b=some (e2,arr.size):=by simp only[World.shape?,hb]
    have hm:(markStringish ⟨b,0,none⟩).run P w= .ok () w:=by
     simp only[markStringish,Sem.run_bind,run_shape,MN,Result.andThen_ok,run_freeze,TR]
    simp[convert,run_underlying hD,run_underlying hE,hm]
   ·simp only[V,dm]
    refine⟨_,cap,l.map (Value.int .u8),rfl,xq,λ_=>rfl,λj v hj=>⟨_,_,rfl,?_,?_⟩,pJ (E:=s.env w g β) _⟩
    ·rw[aI]
     show w.cell? ⟨b,j,none⟩=some v
     have hb:w.heap[b]? =some (.cells arr e2 (arr.size,arr.size+1)):=hb
     simp only[World.cell?,hb]
     simpa using H5 j v hj
    ·show oT g b (0+j)
     unfold oT
     have Re:g b= .free:=Re
     rw[Re]
     trivial
  ·simp only[ai]at he
 ·simp only[ai]at he
theorem Ej(h:Inv C g β s a w){obj:Bool}{src dst:TypeId}{x:Operand}(ho:o.op= .convert src dst x){v:av}(he:(Df P s obj src dst (s.ev x)).eval=some v):fM P o a w (iE C (s.put o.dst v)):=by
 have hx:=h.ev x
 have fin:∀z,(convert src dst (a.eval x)).run P w= .ok z w->VS (s.env w g β) v z->fM P o a w (iE C (s.put o.dst v)):=by
  intro z h1 h2
  exact h.value h2 (eg (f:=convert src dst (a.eval x)) (by simp only[execOp,ho]) h1)
 unfold Df at he
 split at he
 ·rename_i l hl
  exact Oz h ho hl he
 rename_i TY
 unfold Mp at he
 split at he
 ·rename_i k n k' d hl hD hS
  rw[hl]at hx
  obtain rfl:=ao.1 he
  refine fin (.int k' (k'.wrap n)) ?_ (kj _ _)
  rw[oZ hx]
  simp[convert,run_underlying hD,run_underlying hS,Conv.intToInt]
 ·rename_i st d hl hD hS
  rw[hl]at hx
  obtain rfl:=ao.1 he
  refine fin (.string st) ?_ (D9 _)
  rw[u7 hx]
  simp[convert,run_underlying hD,run_underlying hS]
 ·rename_i st e d hl hD hS
  rw[hl]at hx
  split at he
  ·rename_i hE
   obtain⟨cap,xq,arr,H5,mF⟩:=xV (P:=P) e st w
   have i1:=(h.drew).vh (.cells arr e (arr.size,arr.size+1))
   have hlen:(cD st).length=st.size:=by simp only[cD,cK,cO];rfl
   have h2:=oh w.drew (.cells arr e (arr.size,arr.size+1))
   have hex:(execOp a.eval o).run P w= .ok (.value (.slice (some ⟨w.heap.size,0,none⟩) st.size cap)) (w.drew.alloc (.cells arr e (arr.size,arr.size+1))):=by
    refine eg (f:=convert src dst (a.eval x)) (by simp only[execOp,ho]) ?_
    rw[u7 hx]
    simp[convert,run_underlying hD,run_underlying hS,run_underlying hE,mF]
   have Jw:lp g w.drew.heap.size .free w.heap.size= .free:=by
    rw[show w.drew.heap.size=w.heap.size from rfl,fJ]
   cases obj with
   |false=>
    obtain rfl:=ao.1 he
    refine .inl ⟨_,_,hex,_,β,i1.put o.dst ⟨_,?_,rfl⟩⟩
    simp only[V,dm]
    refine⟨_,cap,(cD st).map (Value.int .u8),by rw[hlen],by omega,λ_=>rfl,λj v hj=>⟨_,_,rfl,?_,?_⟩,pJ (E:=s.env (w.drew.alloc (.cells arr e (arr.size,arr.size+1))) (lp g w.drew.heap.size .free) β) _⟩
    ·have:=H5 j v hj
     rw[aI]
     show(w.drew.alloc (.cells arr e (arr.size,arr.size+1))).cell? ⟨w.drew.heap.size,j,none⟩=some v
     simp only[World.cell?,h2]
     simpa using this
    ·show oT (lp g w.drew.heap.size .free) w.heap.size (0+j)
     unfold oT
     rw[Jw]
     trivial
   |true=>
    obtain rfl:=ao.1 he
    refine .inl ⟨_,_,hex,_,β,i1.put o.dst ⟨_,?_,rfl⟩⟩
    simp only[V]
    exact⟨w.heap.size,cap,arr,e,by rw[hlen],by omega,Jw,h2,H5⟩
  ·simp only[ai]at he
 ·rename_i e hD hS fL
  clear fL
  split at he
  ·rename_i hE
   obtain⟨l,h1,h2⟩:=ak.1 he
   obtain rfl:=ao.1 h2
   obtain⟨cs,hR,hO⟩:=IE h hx h1
   simp only[dm]at hR
   obtain⟨ad,cap,vs,rfl,LK,mJ,nC,pt⟩:=hR
   have hO': [Value.slice ad (List.length l) cap]=[a.eval x]:=hO
   have hy:a.eval x= .slice ad (List.length l) cap:=by simpa using hO'.symm
   refine fin (.string (fy l)) ?_ (D9 _)
   rw[hy,run_convert_bytes_string w src dst e ad _ _ hS hE hD]
   have zi:=pH (E:=(s.env w g β).open) (k:= .u8) (vs:=vs) (l:=l) pt
   cases ad with
   |none=>
    have TY:l=[]:=by
     cases l with
     |nil=>rfl
     |cons _ _=>simp at mJ
    subst TY
    rfl
   |some ad=>
    have MJ:(loadCells ad (List.length l)).run P w= .ok (l.map (Value.int .u8)).toArray w:=by
     have:=run_loadCells_list (P:=P) w ad (l.map (Value.int .u8)) (λj v hj=>by
      rw[<-zi]at hj
      obtain⟨bb,off,e1,hh⟩:=nC j v hj
      simp only[aq]at e1
      subst e1
      rw[Addr.add_lit]
      exact hh.1)
     simpa using this
    rw[run_bytesToString w ad _ _ l MJ,foldl_push]
    simp[fy]
  ·simp only[ai]at he
 ·simp only[ai]at he
end
end Go.Ab
namespace Go.Ab
section
variable {P:Program} {C:Ctx} {g:Nat->kY} {β:Id->Option Pl} {s:AS} {a:Act} {w:World} {o:Oper}
theorem Dn(off:Nat):∀(vs:List Value) (k:Nat) (cells:Array Value),off+k+vs.length<=cells.size->
  ((vs.zipIdx k).foldl (λcs (c,j)=>cs.setIfInBounds (off+j) c) cells).toList=dD cells.toList (off+k) vs
 |[],k,cells,_=>by simp[dD]
 |v::vs,k,cells,h=>by
  simp only[aB]at h
  rw[List.zipIdx_cons,bT,Dn off vs (k+1) _ (by simpa using(by omega:off+(k+1)+vs.length<=cells.size))]
  rw[Array.toList_setIfInBounds]
  have:=list_seg_step cells.toList (off+k) v vs (by simp;omega)
  unfold dD
  simpa[gb]using this
theorem Dk{place:Nat->Option (Nat×Nat)}{cells:Array Value}{i off:Nat}{v:Value}{vs:List Value}{rest:List (Nat×Value)}(hp:place i=some (off,vs.length))(hv:v.cells=vs.toArray)(hl:off+vs.length<=cells.size):
  Instr.fill place cells ((i,v)::rest)=Instr.fill place (dD cells.toList off vs).toArray rest:=by
 have h1:v.cells.size=vs.length:=by rw[hv];simp
 have h2:¬(v.cells.size≠vs.length || off+v.cells.size > cells.size)=true:=by simp[h1];omega
 simp only[Instr.fill,hp]
 rw[if_neg h2]
 congr 1
 apply gq
 have:=Dn off vs 0 cells (by omega)
 simp only[cF]at this
 rw[<-this,hv]
 rw[<-Array.foldl_toList]
 simp
theorem sB{E E':Env}(hs:E.s=s.bZ)(ho:jc E)(he:cP E E'){t:Ty}(KD:∀x,VS E (s.ev x) (a.eval x)):
  ∀(ps:List (Nat×Operand)) (l:List t.den) (r:List t.den×List Id) (cells:Array Value),(jt t s ps l).eval=some r->Ta E E' r.2->bj (dm E' t) cells.toList l->
   ∃cells',Instr.fill (λi=>some (i*t.size,t.size)) cells (ps.map λ(i,x)=>(i,a.eval x))=some cells'/\bj (dm E' t) cells'.toList r.1
 |[],l,r,cells,h,_,hc=>by
  obtain rfl:=ao.1 h
  exact⟨cells,rfl,hc⟩
 | (i,x)::ps,l,r,cells,h,hf,hc=>by
  simp only[jt]at h
  obtain⟨h1,h2⟩:=ay.1 h
  obtain⟨y,h3,h4⟩:=ak.1 h2
  obtain⟨r',h5,h6⟩:=ak.1 h4
  obtain rfl:=ao.1 h6
  have hi:i < l.length:=by simpa using h1
  obtain⟨cs,hV,hO⟩:=(KD x).eX (si h3)
  have hR:=pZ hs ho he _ t y cs hV h3 (λid dq=>hf id (by simp[dq]))
  have sN:=hO.cells hV.one
  have hlen:=hc.length (λ_ _ hx=>dm.size hx)
  have ou:=hR.size
  have hle:i*t.size+cs.length<=cells.size:=by
   have:=cY t.size (show i+1<=l.length by omega)
   rw[eM,iy]at this
   simp at hlen
   omega
  have EB:=bj.set (λ_ _ hx=>dm.size hx) hc i hi hR
  obtain⟨cells',q1,q2⟩:=sB hs ho he KD ps (l.set i y) r' (dD cells.toList (i*t.size) cs).toArray h5 (λid dq=>hf id (by simp[dq])) EB
  refine⟨cells',?_,q2⟩
  rw[bX,Dk (by rw[ou]) sN hle]
  exact q1
theorem oG{E:Env}{t:Ty}{zc:Array Value}(hz:dm E t zc.toList t.zero):∀n:Nat,bj (dm E t) (madeCells zc (n*t.size)).toList (List.replicate n t.zero):=by
 have ou:zc.size=t.size:=by have:=hz.size;simpa using this
 intro n
 induction n with
 |zero=>simp[madeCells,bj]
 |succ n ih=>
  have e:(madeCells zc ((n+1)*t.size)).toList=(madeCells zc (n*t.size)).toList++zc.toList:=by
   apply j5
   intro j
   rw[eM,iy]
   simp only[madeCells,Array.toList_map,Array.toList_range,fj,List.getElem?_append,cK,List.length_range]
   by_cases hj:j < n*t.size
   ·have hj':j < n*t.size+t.size:=by omega
    simp[hj,hj',ou]
   ·by_cases hj':j < n*t.size+t.size
    ·have iv:j - n*t.size < zc.size:=by omega
     have hm:j%t.size=j - n*t.size:=by
      have:j=(j - n*t.size)+t.size*n:=by rw[mD t.size n];omega
      rw[this,Nat.add_mul_mod_self_left,jG (by omega)]
      rw[mD t.size n];omega
     simp[hj,hj',ou,hm]
     rw[getElem?_pos zc _ iv,getElem!_pos zc _ iv]
    ·have h1:¬j - n*t.size < zc.size:=by omega
     simp[hj,hj',h1]
  rw[e,List.replicate_succ']
  exact bj.append ih (bj.one hz)
theorem mY{nl:Bool}{T:TypeId}{e:TypeId}{t:Ty}{b:Nat}(h:tm P nl T=some (e,t,b)):
  P.underlying T=some (.slice e)/\0 < t.size/\∃i zv,P.info? e=some i/\i.size=t.size/\i.bytes=b/\i.zero=some zv/\∀E,dm E t zv.cells.toList t.zero:=by
 unfold tm at h
 split at h
 ·rename_i e' hT
  split at h
  ·rename_i t' ht
   split at h
   ·rename_i hg
    simp only[aq,cR]at h
    obtain⟨rfl,rfl,rfl⟩:=h
    simp only[aj,cC,beq_iff_eq,beq_eq_false_iff_ne]at hg
    obtain⟨⟨h1,h2⟩,h3⟩:=hg
    obtain⟨i,zv,hi,hz,_,_⟩:=pn h3 {w:=default,g:=λ_=> .free,β:=λ_=>none,s:=λ_=>none}
    refine⟨hT,by omega,i,zv,hi,by rw[<-lg hi];exact h1,by simp[Program.bytesOf,hi],hz,λE=> ?_⟩
    obtain⟨i',zv',hi',hz',hV,_⟩:=pn h3 E
    rw[hi]at hi'
    obtain rfl:i=i':=by simpa using hi'
    rw[hz]at hz'
    obtain rfl:zv=zv':=by simpa using hz'
    simpa only[V]using hV
   ·cases h
  ·cases h
 ·cases h
theorem sq{T:TypeId}{e:TypeId}{t:Ty}{b:Nat}(h:z7 P T=some (e,t,b)):
  P.underlying T=some (.slice e)/\0 < t.size/\∃i zv,P.info? e=some i/\i.size=t.size/\i.bytes=b/\i.zero=some zv/\∀E,dm E t zv.cells.toList t.zero:=mY h
theorem CJ{T:TypeId}{e:TypeId}{t:Ty}{b:Nat}(h:El P T=some (e,t,b)):0 < t.size:=by
 unfold El at h
 split at h
 ·exact(mY h).2.1
 ·exact(mY h).2.1
theorem Inv.ER(h:Inv C g β s a w){q:Nat}(hq:s.ek q=true){e:TypeId}{t:Ty}{l:List t.den}{cur:Array Value}{cap:Nat}(hz:0 < t.size)(hc:bj (dm (s.env w g β) t) (cur.toList.take (l.length*t.size)) l)
  (hs:cur.size=cap*t.size) (hl:l.length<=cap) (hm:cap<=maxLen):
  ∃g' β',Inv C g' β' (s.born q [.obj 0 false (.vec e t l)]) a (w.alloc (.cells cur e))/\
   VS ((s.born q [.obj 0 false (.vec e t l)]).env (w.alloc (.cells cur e)) g' β') (.aS (.new q 0) 0 [] 0 0 l.length) (.slice (some ⟨w.heap.size,0,none⟩) l.length cap):=by
 have ht:=Trans.alloc w g (.cells cur e) (.own (.id (.new q 0)) 0)
 obtain⟨h1,h2⟩:=h.yw hq (c:= .vec e t l) (p:=some ⟨w.heap.size,cap⟩) ht (λb hb=>⟨mW w _ hb,fA _ _ _ (by omega)⟩) (λhe=>by
  refine⟨hz,?_⟩
  show(match vd β (.new q 0) (some ⟨w.heap.size,cap⟩) (.new q 0) with
   |none=>l=[]
   |some pl=>_)
  rw[jI]
  exact⟨cur,0,oh w _,hs,hl,hm,fJ _ _ _,aK _,λ_=>rfl,hc.mono λ_ _ hx=>hx.mono he.mem⟩)
 refine⟨_,_,h1,_,?_,rfl⟩
 simp only[V]
 refine⟨_,_,rfl,hl,λ_=>rfl,mE hq _ _ _ _,λ_=> ?_⟩
 show(match vd β (.new q 0) (some ⟨w.heap.size,cap⟩) (.new q 0) with
   |some pl=>_
   |none=>_)
 rw[jI]
 exact⟨λ_=>rfl,λ_ _=>rfl⟩
theorem Inv.Ng(h:Inv C g β s a w){q:Nat}(hq:s.ek q=true){e:TypeId}{t:Ty}(hz:0 < t.size):
  ∃β',Inv C g β' (s.born q [.obj 0 false (.vec e t [])]) a w/\cP (s.env w g β) ((s.born q [.obj 0 false (.vec e t [])]).env w g β')/\
   VS ((s.born q [.obj 0 false (.vec e t [])]).env w g β') (.aS (.new q 0) 0 [] 0 0 0) (.slice none 0 0):=by
 have ht:=Trans.refl w g
 obtain⟨h1,h2⟩:=h.yw hq (c:= .vec e t []) (p:=none) ht (λb hb=>⟨rfl,rfl⟩) (λhe=>by
  refine⟨hz,?_⟩
  show(match vd β (.new q 0) none (.new q 0) with
   |none=>([]:List t.den)=[]
   |some pl=>_)
  rw[jI])
 refine⟨_,h1,h2,_,?_,rfl⟩
 simp only[V]
 refine⟨_,_,rfl,aw _,λhh=>by omega,mE hq _ _ _ _,λ_=> ?_⟩
 simp[AS.env]
theorem yS(parts:Array (Nat×Operand)):(parts.map λ(i,x)=>(i,a.eval x)).toList=parts.toList.map λ(i,x)=>(i,a.eval x):=by simp
theorem zL(h:Inv C g β s a w){T:TypeId}{n:Nat}{parts:Array (Nat×Operand)}{nl obj:Bool}(ho:o.op= .buildSlice T n parts){s':AS}(he:(kU P s nl obj o.dst T n parts.toList).eval=some s'):fM P o a w (iE C s'):=by
 unfold kU at he
 split at he
 ·rename_i e t b q vL hd
  obtain⟨hT,hz,i,zv,hi,KF,Rh,Ht,KJ⟩:=mY vL
  obtain⟨h1,h2⟩:=ay.1 he
  obtain⟨r,h3,h4⟩:=ak.1 h2
  simp only[decide_eq_true_eq]at h1
  obtain⟨g1,i1,e1,t1,f1⟩:=gf r.2 h
  have SY:zv.cells.size=t.size:=by have:=(KJ (s.env w g β)).size;simpa using this
  obtain⟨cells',TP,pt⟩:=sB (a:=a) rfl h.bK e1 h.ev parts.toList _ r (madeCells zv.cells (n*t.size)) h3 f1 (oG (KJ _) n)
  have T3:r.1.length=n:=by
   have:∀(ps:List (Nat×Operand)) (l:List t.den) (r:List t.den×List Id),(jt t s ps l).eval=some r->r.1.length=l.length:=by
    intro ps
    induction ps with
    |nil=>intro l r hh;obtain rfl:=ao.1 hh;rfl
    |cons p ps ih=>
     intro l r hh
     obtain⟨i,x⟩:=p
     simp only[jt]at hh
     obtain⟨_,h2⟩:=ay.1 hh
     obtain⟨y,h3,h4⟩:=ak.1 h2
     obtain⟨r',h5,h6⟩:=ak.1 h4
     obtain rfl:=ao.1 h6
     have:=ih _ _ h5
     simpa using this
   rw[this _ _ _ h3]
   simp
  have LI:=pt.length (λ_ _ hx=>dm.size hx)
  have mF:(execOp a.eval o).run P w= .ok (.value (.slice (some ⟨w.heap.size,0,none⟩) n n)) (w.alloc (.cells cells' e)):=by
   refine eg (f:=Instr.buildSlice T n (parts.map λ(i,x)=>(i,a.eval x))) (by simp only[execOp,ho]) ?_
   have TB:¬n*t.size > 2^24:=by omega
   have hfill':Instr.fill (λi=>some (i*t.size,t.size)) ((Array.range (n*t.size)).map (λx=>(zv.cells)[x%zv.cells.size]!)) (parts.map λ(i,x)=>(i,a.eval x)).toList=some cells':=by
    rw[yS];exact TP
   by_cases hn:n*t.size=0
   ·have Ro:n=0:=by
     rcases Nat.mul_eq_zero.1 hn with h' | h'
     ·exact h'
     ·omega
    subst Ro
    simp only[lf]at hfill' TB
    have h0:Array.range 0= #[]:=rfl
    rw[h0,Array.map_empty]at hfill'
    simp at hfill'
    simp[Instr.buildSlice,run_underlying hT,run_sizeOf hi,KF,newRow,h0,hfill']
   ·simp[Instr.buildSlice,run_underlying hT,run_sizeOf hi,KF,newRow,hn,TB,zeroValue,typeInfo,hi,Ht]
    simp at hfill'
    simp[hfill']
  cases obj with
  |true=>
   simp only at h4
   obtain⟨hq,h5⟩:=ay.1 h4
   obtain rfl:=ao.1 h5
   rw[<-pj r.2]at hq
   have TQ:cells'.toList.take (r.1.length*t.size)=cells'.toList:=bk (by omega)
   obtain⟨g2,β2,i2,zh⟩:=i1.ER hq (e:=e) (l:=r.1) (cur:=cells') (cap:=n) hz (by rw[TQ];exact pt) (by simp at LI;rw[LI,T3]) (by omega) (by
    have:n<=n*t.size:=Nat.le_mul_of_pos_right n hz
    unfold maxLen;omega)
   refine .inl ⟨_,_,mF,g2,β2,?_⟩
   rw[hd]
   rw[T3]at zh ⊢
   exact i2.put (some q) zh
  |false=>
   simp only at h4
   obtain rfl:=ao.1 h4
   have i2:=i1.vh (.cells cells' e)
   refine .inl ⟨_,_,mF,lp g1 w.heap.size .free,β,?_⟩
   rw[hd]
   refine i2.put (some q) ⟨[.slice (some ⟨w.heap.size,0,none⟩) n n],?_,rfl⟩
   simp only[V,dm]
   refine⟨_,n,cells'.toList,by rw[T3],by omega,λ_=>rfl,λj v hj=>⟨_,_,rfl,?_,?_⟩,pt.mono λ_ _ hx=>hx.mono (Trans.mem (E:=(s.bl r.2).env w g1 β) (E':=(s.bl r.2).env (w.alloc (.cells cells' e)) (lp g1 w.heap.size .free) β) (Trans.alloc w g1 (.cells cells' e) .free))⟩
   ·show(w.alloc (.cells cells' e)).cell? ⟨w.heap.size,0+j,none⟩=some v
    rw[World.cell?_alloc_new,aI];simpa using hj
   ·show oT (lp g1 w.heap.size .free) w.heap.size (0+j)
    unfold oT;rw[fJ];trivial
 ·simp only[ai]at he
theorem Bh(h:Inv C g β s a w){T:TypeId}{x y:Operand}(ho:o.op= .makeSlice T x y){len cap:Int}(hx:(asInt (s.ev x)).eval=some len)(hy:(asInt (s.ev y)).eval=some cap){s':AS}
  (he:(nJ P s o.dst T len cap).eval=some s'):fM P o a w (iE C s'):=by
 obtain⟨k,hx⟩:=qW (h.ev x) hx
 obtain⟨k',hy⟩:=qW (h.ev y) hy
 unfold nJ at he
 split at he
 ·rename_i e t b q vL hd
  obtain⟨hT,hz,i,zv,hi,KF,Rh,Ht,KJ⟩:=sq vL
  obtain⟨hq,h2⟩:=ay.1 he
  obtain⟨h3,h4⟩:=bO.1 h2
  obtain rfl:=ao.1 h4
  simp only[aj,decide_eq_true_eq,dZ]at h3
  obtain⟨⟨h5,h6⟩,h7,h8⟩:=h3
  have hbytes:(i.bytes:Int)*cap<=281474976710656:=by
   rw[Rh]
   have:((cap.toNat*b:Nat):Int)<=140737488355328:=by omega
   rw[jX,show((cap.toNat:Nat):Int)=cap by omega,Int.mul_comm]at this
   omega
  have hr:=run_make (P:=P) w T e i zv hT hi Ht k k' len cap h5 h6 hbytes (by omega)
  rw[KF]at hr
  have SY:zv.cells.size=t.size:=by have:=(KJ (s.env w g β)).size;simpa using this
  have uH:=oG (KJ (s.env w g β)) cap.toNat
  have Rv:=bj.take (λ_ _ hx=>dm.size hx) len.toNat uH
  rw[List.take_replicate,gH (by omega)]at Rv
  obtain⟨g2,β2,i2,zh⟩:=h.ER hq (e:=e) (l:=List.replicate len.toNat t.zero) (cur:=madeCells zv.cells (cap.toNat*t.size)) (cap:=cap.toNat) hz (by rw[dg];exact Rv) (size_madeCells _ _) (by rw[dg];omega) (by unfold maxLen;omega)
  rw[dg]at zh
  refine .inl ⟨_,_,eg (f:=Instr.makeSlice T (a.eval x) (a.eval y)) (by simp only[execOp,ho]) (by rw[hx,hy];exact hr),g2,β2,?_⟩
  rw[hd]
  exact i2.put (some q) zh
 ·simp only[ai]at he
end
end Go.Ab
namespace Go.Ab
section
variable {P:Program} {C:Ctx} {g:Nat->kY} {β:Id->Option Pl} {s:AS} {a:Act} {w:World} {o:Oper}
theorem IC:∀(c:av) (f off:Nat) (v:av),partOf c f=some (off,v)->(loc c (lG f)).eval=some (off,v):=by
 intro c f
 induction f generalizing c with
 |zero=>
  intro off v h
  cases c with
  |d t y=>
   cases t <;> simp only[partOf,reduceCtorEq]at h
   simp only[aq,cR]at h
   obtain⟨rfl,rfl⟩:=h
   rfl
  |pr b c=>
   simp only[partOf,aq,cR]at h
   obtain⟨rfl,rfl⟩:=h
   simp only[lG,loc]
   cases b <;> rfl
  |_=>simp only[partOf,reduceCtorEq]at h
 |succ f ih=>
  intro off v h
  cases c with
  |d t y=>
   cases t with
   |pair ta tb=>
    simp only[partOf]at h
    cases hp:partOf (.d tb y.2) f with
    |none=>rw[hp]at h;cases h
    |some r=>
     rw[hp]at h
     simp only[aq,cR]at h
     obtain⟨rfl,rfl⟩:=h
     simp only[lG,loc,ak]
     exact⟨_,ih _ _ _ hp,rfl⟩
   |_=>simp only[partOf,reduceCtorEq]at h
  |pr b c=>
   simp only[partOf]at h
   cases hp:partOf c f with
   |none=>rw[hp]at h;cases h
   |some r=>
    rw[hp]at h
    simp only[aq,cR]at h
    obtain⟨rfl,rfl⟩:=h
    simp only[lG,loc,ak]
    exact⟨_,ih _ _ _ hp,rfl⟩
  |_=>simp only[partOf,reduceCtorEq]at h
theorem Gv(a b:av):(xE a b).agg=true:=by unfold xE;split <;> rfl
theorem C3{v x v':av}{i:Nat}(h:(qw v (lG i) x).eval=some v'):v'.agg=true:=by
 have fin:∀ {o:Out av} {f:av->av},(∀a,(f a).agg=true)->(o.bind λa=>Out.ok (f a)).eval=some v'->v'.agg=true:=by
  intro o f hf hh
  obtain⟨_,_,h2⟩:=ak.1 hh
  obtain rfl:=ao.1 h2
  exact hf _
 cases i <;> simp only[lG]at h
 all_goals
  cases v with
  |d t y=>cases t <;> first | (simp only[qw,ai]at h;done) | (simp only[qw]at h;exact fin (λ_=>Gv _ _) h)
  |pr b c=>simp only[qw]at h;exact fin (λ_=>Gv _ _) h
  |_=>simp only[qw,ai]at h
theorem uY{E:Env}(KD:∀x,VS E (s.ev x) (a.eval x)){fs:Array Field}{places:Array (Nat×Nat)}(zO:∀(i:Nat) (f:Field),fs[i]? =some f->places[i]? =some (f.offset,P.cellsOf f.type)):
  ∀(ps:List (Nat×Operand)) (v v':av) (cells:Array Value),(mH P fs s ps v).eval=some v'->V E v cells.toList->v.agg=true->
   ∃cells',Instr.fill (places[·]?) cells (ps.map λ(i,x)=>(i,a.eval x))=some cells'/\V E v' cells'.toList/\v'.agg=true
 |[],v,v',cells,h,hV,w7=>by
  obtain rfl:=ao.1 h
  exact⟨cells,rfl,hV,w7⟩
 | (i,x)::ps,v,v',cells,h,hV,w7=>by
  simp only[mH]at h
  split at h
  ·rename_i f off aV hf hp
   obtain⟨h1,h2⟩:=ay.1 h
   obtain⟨v1,h3,h4⟩:=ak.1 h2
   simp only[aj,beq_iff_eq]at h1
   obtain⟨⟨rfl,Vc⟩,XS⟩:=h1
   obtain⟨H7,_⟩:=nB XS
   obtain⟨cs,hVx,hO⟩:=(KD x).eX H7
   have hcells:=hO.cells hVx.one
   have Wl:=IC _ _ _ _ hp
   obtain⟨u1,u2,u3⟩:=mI (lG i) v cells.toList f.offset aV (s.ev x) v1 cs (VO.of hV) Wl hVx h3
   have T5:v1.iI=false:=u3.oF hV.oF
   have ou:P.cellsOf f.type=cs.length:=by rw[(uF XS).2.1];exact hVx.size.symm
   obtain⟨cells',q1,q2,q3⟩:=uY KD zO ps v1 v' (dD cells.toList f.offset cs).toArray h4 (by simpa using u2.to T5) (C3 h3)
   refine⟨cells',?_,q2,q3⟩
   rw[bX,Dk (by rw[zO i f hf,ou]) hcells (by simpa using u1)]
   exact q1
  ·simp only[ai]at h
theorem GZ{α γ:Type}(f:α->Sem γ)(r:α->γ):∀(l:List α),(∀x∈l,(f x).run P w= .ok (r x) w)->(l.mapM f).run P w= .ok (l.map r) w
 |[],_=>by simp
 |x::xs,h=>by
  rw[List.mapM_cons]
  simp only[Sem.run_bind,h x (by simp),Result.andThen_ok,GZ f r xs (λy hy=>h y (by simp[hy])),Sem.run_pure,bX]
theorem HL(h:Inv C g β s a w){T:TypeId}{parts:Array (Nat×Operand)}(ho:o.op= .build T parts){s':AS}(he:(uA P s o.dst T parts.toList).eval=some s'):fM P o a w (iE C s'):=by
 unfold uA at he
 split at he
 ·rename_i fs hT
  split at he
  ·rename_i z ZW
   obtain⟨h1,h2⟩:=ay.1 he
   obtain⟨v,h3,h4⟩:=ak.1 h2
   obtain rfl:=ao.1 h4
   simp only[aj,dv]at h1
   obtain⟨⟨hz,w7⟩,Wj⟩:=h1
   obtain⟨i,zv,hi,Ht,hV,hO⟩:=pn hz (s.env w g β)
   let places:Array (Nat×Nat):=fs.map λf=>(f.offset,P.cellsOf f.type)
   have zO:∀(i:Nat) (f:Field),fs[i]? =some f->places[i]? =some (f.offset,P.cellsOf f.type):=by
    intro i f hf
    simp[places,hf]
   obtain⟨cells',q1,q2,q3⟩:=uY (a:=a) h.ev zO parts.toList z v zv.cells h3 hV w7
   have hm:(fs.mapM λf=>(do pure (f.offset,<-sizeOf f.type):Sem (Nat×Nat))).run P w= .ok places w:=by
    rw[Array.mapM_eq_mapM_toList]
    have:=GZ (P:=P) (w:=w) (λf=>(do pure (f.offset,<-sizeOf f.type):Sem (Nat×Nat))) (λf=>(f.offset,P.cellsOf f.type)) fs.toList (by
     intro f hf
     obtain⟨j,hj⟩:=bY.1 (Wj f hf)
     rw[Sem.run_bind,run_sizeOf hj,lg hj]
     rfl)
    rw[Sem.run_map,this]
    show Result.ok _ w=Result.ok _ w
    congr 1
    apply gq
    simp[places]
   refine h.value (x:= .agg cells') (VS.of q2 (by rw[q3];simp[fV])) (eg (f:=Instr.build T (parts.map λ(i,x)=>(i,a.eval x))) (by simp only[execOp,ho]) ?_)
   have q1':Instr.fill (places[·]?) zv.cells (parts.map λ(i,x)=>(i,a.eval x)).toList=some cells':=by rw[yS];exact q1
   simp only[Instr.build,Sem.run_bind,zeroValue,typeInfo,run_program,hi,Result.andThen_ok,Sem.run_pure,Ht,run_underlying hT,hm,q1']
  ·simp only[ai]at he
 ·rename_i n e hT
  split at he
  ·rename_i t ht
   obtain⟨h1,h2⟩:=ay.1 he
   obtain⟨r,h3,h4⟩:=ak.1 h2
   obtain rfl:=ao.1 h4
   simp only[aj,beq_iff_eq]at h1
   obtain⟨ou,hz⟩:=h1
   obtain⟨g1,i1,e1,t1,f1⟩:=gf r.2 h
   obtain⟨i,zv,hi,Ht,hV,hO⟩:=pn hz ((s.bl r.2).env w g1 β)
   simp only[V,dm]at hV
   obtain⟨cells',q1,q2⟩:=sB (a:=a) rfl h.bK e1 h.ev parts.toList _ r zv.cells h3 f1 hV.2
   have T3:r.1.length=n:=by
    have:∀(ps:List (Nat×Operand)) (l:List t.den) (r:List t.den×List Id),(jt t s ps l).eval=some r->r.1.length=l.length:=by
     intro ps
     induction ps with
     |nil=>intro l r hh;obtain rfl:=ao.1 hh;rfl
     |cons p ps ih=>
      intro l r hh
      obtain⟨i,x⟩:=p
      simp only[jt]at hh
      obtain⟨_,h2⟩:=ay.1 hh
      obtain⟨y,h3,h4⟩:=ak.1 h2
      obtain⟨r',h5,h6⟩:=ak.1 h4
      obtain rfl:=ao.1 h6
      have:=ih _ _ h5
      simpa using this
    rw[this _ _ _ h3]
    simp
   refine .inl ⟨.agg cells',w,eg (f:=Instr.build T (parts.map λ(i,x)=>(i,a.eval x))) (by simp only[execOp,ho]) ?_,g1,β,i1.put o.dst ⟨cells'.toList,?_,by simp[fV,av.agg,Ty.agg]⟩⟩
   ·have q1':Instr.fill (λi=>some (i*t.size,t.size)) zv.cells (parts.map λ(i,x)=>(i,a.eval x)).toList=some cells':=by rw[yS];exact q1
    cases Wh:P.info? e with
    |none=>
     exfalso
     unfold Hk Co at ht
     simp only[depth]at ht
     have:P.underlying e=none:=by simp[Program.underlying,Wh]
     rw[this]at ht
     cases ht
    |some ie=>
     have X9:=run_sizeOf Wh w
     rw[<-lg Wh,ou]at X9
     simp only[Instr.build,Sem.run_bind,zeroValue,typeInfo,run_program,hi,Result.andThen_ok,Sem.run_pure,Ht,run_underlying hT,X9,q1']
   ·simp only[V,dm]
    exact⟨T3,q2⟩
  ·simp only[ai]at he
 ·simp only[ai]at he
theorem y3{T X ty e:TypeId}{i:TypeInfo}(hT:P.underlying T=some (.slice e))(hX:P.underlying X=some .string\/∃e',P.underlying X=some (.slice e'))(hi:P.info? e=some i)
  {b sLen sCap:Nat} {cur:Array Value} (hg:w.heap[b]? =some (.cells cur e (0,0))) {x:Value} {n:Nat} {news:List Value} (h1:∀u∈news,u.oneCell'=true)
  (hlen:(Builtin.lenOf x).run P w= .ok n w) (hf:(Builtin.firstCells i.size n x).run P w= .ok news.toArray w) (vX:sLen+n<=sCap) (Ex:sLen*i.size+news.length<=cur.size):
  (Builtin.append_ #[T,X] ty #[.slice (some ⟨b,0,none⟩) sLen sCap,x]).run P w= .ok (.slice (some ⟨b,0,none⟩) (sLen+n) sCap) (w.setRow b (dD cur.toList (sLen*i.size) news).toArray):=by
 have lZ:=run_storeCells_at P b (sLen*i.size) e news 0 cur w hg (by simpa using Ex) h1
 simp only[cF]at lZ
 rcases hX with hX | ⟨e',hX⟩ <;> simp[Builtin.append_,run_underlying hT,run_underlying hX,sizeOf,typeInfo,hi,hlen,vX,hf,Addr.add_lit,lZ,dD]
theorem ue{T X ty e:TypeId}{i:TypeInfo}(hT:P.underlying T=some (.slice e))(hX:P.underlying X=some .string\/∃e',P.underlying X=some (.slice e'))(hi:P.info? e=some i)
  {x:Value} (hlen:(Builtin.lenOf x).run P w= .ok 0 w) (hf:(Builtin.firstCells i.size 0 x).run P w= .ok #[] w):
  (Builtin.append_ #[T,X] ty #[.slice none 0 0,x]).run P w= .ok (.slice none 0 0) w:=by
 rcases hX with hX | ⟨e',hX⟩ <;> simp[Builtin.append_,run_underlying hT,run_underlying hX,sizeOf,typeInfo,hi,hlen,hf]
theorem yZ{T X ty e:TypeId}{i:TypeInfo}{zv:Value}(hT:P.underlying T=some (.slice e))(hX:P.underlying X=some .string\/∃e',P.underlying X=some (.slice e'))(hi:P.info? e=some i)(Ht:i.zero=some zv)
  {ad:Option Addr} {sLen sCap:Nat} {cz:List Value} (ho:(Builtin.firstCells i.size sLen (.slice ad sLen sCap)).run P w.drew= .ok cz.toArray w.drew) {x:Value} {n:Nat} {news:List Value}
  (hlen:(Builtin.lenOf x).run P w= .ok n w) (hf:(Builtin.firstCells i.size n x).run P w.drew= .ok news.toArray w.drew) (vX:sCap < sLen+n)
  (XK:((sLen+n:Nat):Int)<=9223372036854775807) (Ex:(sLen+n)*i.bytes<=140737488355328):
  (Builtin.append_ #[T,X] ty #[.slice ad sLen sCap,x]).run P w= .ok (.slice (some ⟨w.heap.size,0,none⟩) (sLen+n) (grownCap w (sLen+n) sCap e))
   (w.drew.alloc (.cells (cz.toArray++news.toArray++Builtin.zeroCells zv.cells (grownCap w (sLen+n) sCap e - (sLen+n))) e)):=by
 have hn:¬(sLen+n<=sCap):=by omega
 have h63':¬(9223372036854775807 < ((sLen:Int)+(n:Int))):=by omega
 have hfit':=growslice_fits (bytes:=i.bytes) vX Ex
 have h48':¬(281474976710656 < Builtin.nextslicecap (sLen+n) sCap*i.bytes):=by omega
 rcases hX with hX | ⟨e',hX⟩
 all_goals
  simp[Builtin.append_,run_underlying hT,run_underlying hX,sizeOf,typeInfo,zeroValue,hi,Ht,hlen,hn,h63',h48',Question.forced,hf,ho,newRow,grownCap]
  congr 2
  apply gq
  simp[aD]
end
end Go.Ab
namespace Go.Ab
section
variable {P:Program} {C:Ctx} {g:Nat->kY} {β:Id->Option Pl} {s:AS} {a:Act} {w:World} {o:Oper}
theorem Nq(h:Inv C g β s a w){v:av}{y:Value}(hv:VS (s.env w g β) v y){t:Ty}{m:List t.den}(he:(s.ID (.slice t) v).eval=some m):
  ∃ad cap vs,y= .slice ad m.length cap/\(0 < m.length->ad.isSome=true)/\(∀j u,vs[j]? =some u->∃bb off,ad=some ⟨bb,off,none⟩/\w.cell? ⟨bb,off+j,none⟩=some u)/\bj (dm (s.env w g β) t) vs m:=by
 have hp:(s.ji (.slice t) v).eval=some m:=he
 cases v <;> first | (simp only[AS.ji,ai]at hp;done) | skip
 case di=>
  simp only[AS.ji,ao]at hp
  subst hp
  exact⟨none,0,[],kg hv,by simp,λj u hj=>by simp at hj,rfl⟩
 case d t' x=>
  simp only[AS.ji]at hp
  have hp:=jM.1 hp
  have ha:(av.d t' x).agg=false:=De hp
  have hV:=hv.single rfl ha
  simp only[V]at hV
  have hv:VS (s.env w g β) (.d (.slice t) m) y:=VS.of (cs:=[y]) (by simp only[V];exact th hp hV) rfl
  obtain⟨ad,cap,vs,hy,_,hs,hr,hc⟩:=oJ hv
  exact⟨ad,cap,vs,hy,hs,λj u hj=>let⟨bb,off,e,hh⟩:=hr j u hj;⟨bb,off,e,hh.1⟩,hc⟩
 case aS id ver p c i len=>
  simp only[AS.ji]at hp
  obtain⟨⟨n,t',l⟩,h1,h2⟩:=ak.1 hp
  obtain⟨h3,h4⟩:=bO.1 h2
  obtain⟨SO,YW⟩:=Kq (E:=s.env w g β) (jM.1 h4)
  rw[SO]
  simp only[decide_eq_true_eq]at h3
  obtain⟨hc,hlen⟩:=h3
  suffices hg:∃ad cap vs,y= .slice ad (cut l i len).length cap/\(0 < (cut l i len).length->ad.isSome=true)/\(∀j u,vs[j]? =some u->∃bb off,ad=some ⟨bb,off,none⟩/\w.cell? ⟨bb,off+j,none⟩=some u)/\bj (dm (s.env w g β) t') vs (cut l i len) by
   obtain⟨ad,cap,vs,e1,e2,e3,e4⟩:=hg
   exact⟨ad,cap,vs,e1,e2,e3,YW _ e4⟩
  obtain⟨fr,c0,cV,nC⟩:=yY rfl h.bK h1
  obtain⟨ad,cap,hy,hle,mJ,hb,fB⟩:=np hv
  have fB:=fB ⟨fr,c0,cV⟩
  have Oc:(cut l i len).length=len:=tj hlen
  rcases nC with⟨hp,hl,_⟩ | ⟨pl,cur,e,hp,hh,ou,pt,hbound⟩
  ·rw[hp]at fB
   simp only at fB
   obtain⟨rfl,rfl,rfl⟩:=fB
   have:cut l i 0=[]:=by simp[cut]
   refine⟨none,0,[],by rw[Oc];exact hy,by rw[Oc];omega,λ_ _ hh=>by simp at hh,?_⟩
   rw[this];rfl
  ·rw[hp]at fB
   simp only at fB
   have hmul:(i+len)*t'.size<=l.length*t'.size:=cY _ hlen
   rw[eM]at hmul
   refine⟨ad,cap,_,by rw[Oc];exact hy,by rw[Oc];exact mJ,?_,wq pt i len⟩
   rw[BQ _ _ _ _ _ hmul]
   intro j v hj
   rw[dp]at hj
   split at hj
   ·rename_i Rj
    rw[fW,hc]at hj
    have Wm:0 < len:=by
     rcases iK len with h0 | h0
     ·subst h0;simp at Rj
     ·exact h0
    refine⟨pl.b,c,fB.1 (.inl Wm),?_⟩
    have hh':w.heap[pl.b]? =some (.cells cur e (0,0)):=hh
    rw[cell_of_row w pl.b (c+j) cur e (0,0) hh']
    simpa using hj
   ·cases hj
theorem zt(h:Inv C g β s a w){t:Ty}{X:TypeId}{x:av}{y:Value}(hx:VS (s.env w g β) x y){m:List t.den}(he:(uQ P s t X x).eval=some m):
  (P.underlying X=some .string\/∃e',P.underlying X=some (.slice e'))/\∃news:List Value,bj (dm (s.env w g β) t) news m/\(Builtin.lenOf y).run P w= .ok m.length w/\
   ∀w',w'.heap=w.heap->(Builtin.firstCells t.size m.length y).run P w'= .ok news.toArray w':=by
 have sl:∀(x:av),VS (s.env w g β) x y->(match P.underlying X with
   |some (.slice _)=>s.ID (.slice t) x
   |_=> .fail).eval=some m->(P.underlying X=some .string\/∃e',P.underlying X=some (.slice e'))/\∃news:List Value,bj (dm (s.env w g β) t) news m/\(Builtin.lenOf y).run P w= .ok m.length w/\
   ∀w',w'.heap=w.heap->(Builtin.firstCells t.size m.length y).run P w'= .ok news.toArray w':=by
  intro x hx he
  split at he
  ·rename_i e' hX
   refine⟨.inr ⟨e',hX⟩,?_⟩
   obtain⟨ad,cap,vs,rfl,mJ,nC,pt⟩:=Nq h hx he
   have hlen:=bj.length (λ_ _ hx=>dm.size hx) pt
   refine⟨vs,pt,rfl,λw' hw'=> ?_⟩
   cases ad with
   |none=>
    have SN:m.length=0:=by
     rcases iK m.length with h0 | h0
     ·exact h0
     ·have:=mJ h0;simp at this
    have:vs=[]:=bF (by rw[hlen,SN,lf])
    subst this
    rfl
   |some ad=>
    refine run_firstCells_some (P:=P) w' t.size _ ad _ _ vs hlen (λj v hj=> ?_)
    obtain⟨bb,off,e1,hh⟩:=nC j v hj
    simp only[aq]at e1
    subst e1
    rw[Addr.add_lit]
    simpa[World.cell?,hw']using hh
  ·simp only[ai]at he
 unfold uQ at he
 split at he
 ·rename_i st
  split at he
  ·rename_i hX
   refine⟨.inl hX,?_⟩
   obtain⟨e,hm⟩:=jB (jM.1 he)
   have e':Ty.int .u8=t:=by simpa using e
   subst e'
   simp only at hm
   subst hm
   have hy:=u7 hx
   subst hy
   have hlen:(cD st).length=st.size:=by simp only[cD,cK,cO];rfl
   refine⟨(cD st).map (Value.int .u8),pJ _,by rw[hlen];rfl,λw' _=> ?_⟩
   rw[hlen]
   simp only[Builtin.firstCells,Sem.run_pure]
   congr 1
   apply gq
   rw[ByteArray.extract_zero_size]
   simp[cD]
  ·simp only[ai]at he
 ·exact sl _ hx he
theorem rJ(z:Array Value)(n:Nat):(Builtin.zeroCells z n).size=n*z.size:=by simp[Builtin.zeroCells]
theorem Kr(h:Inv C g β s a w){c:Call}{x y:Operand}{T X:TypeId}(ho:o.op= .call c)(hc:c.callee= .builtin .copy)(ha:c.args.toList=[x,y])(ht:c.argTypes.toList=[T,X]){s':AS}
  (he:(Ay P s o.dst T X (s.ev x) (s.ev y)).eval=some s'):fM P o a w (iE C s'):=by
 obtain⟨cal,args,tys⟩:=c
 simp only at hc ha ht
 have ha':args= #[x,y]:=by apply gq;simpa using ha
 have ht':tys= #[T,X]:=by apply gq;simpa using ht
 subst hc ha' ht'
 have hx:=h.ev x
 have hy:=h.ev y
 have fin:∀z w',(Builtin.copy_ #[T,X] 0 #[a.eval x,a.eval y]).run P w= .ok z w'->(∃g' β',Inv C g' β' s' (a.put o.dst z) w')->fM P o a w (iE C s'):=by
  intro z w' h1 h2
  refine .inl ⟨z,w',sk ho (f:=Builtin.copy_ #[T,X] 0 #[a.eval x,a.eval y]) (λty cs xs Hs=> ?_) h1,h2⟩
  subst Hs
  have e1:Builtin.copy_ #[T,X] 0 #[a.eval x,a.eval y]=Builtin.copy_ #[T,X] ty #[a.eval x,a.eval y]:=rfl
  rw[e1]
  simp[builtin]
 unfold Ay at he
 split at he
 ·rename_i e t b id ver len vL Hs
  obtain⟨hT,hz,i,zv,hi,KF,Rh,Ht,KJ⟩:=sq vL
  obtain⟨m,hm,he⟩:=ak.1 he
  obtain⟨hX,news,pt,hlen,PX⟩:=zt h hy hm
  have OU:=pt.length (λ_ _ hx=>dm.size hx)
  have h1news:∀u∈news,u.oneCell'=true:=bj.all (λ_ _ hx=>hx.one) pt
  rw[<-KF]at PX
  split at he
  ·rename_i ve n t' l kr
   obtain⟨h1,xr⟩:=ay.1 he
   simp only[aj,beq_iff_eq]at h1
   obtain⟨Ry,YU⟩:=h1
   subst Ry YU
   obtain⟨l',hl',Cz⟩:=ak.1 xr
   obtain⟨et,hl'⟩:=jB (jM.1 hl')
   have et':t'=t:=by simpa using et
   subst et'
   simp only at hl'
   subst hl'
   obtain⟨SO,SL⟩:=bO.1 Cz
   have SO:m.length<=len:=by simpa using SO
   obtain rfl:=ao.1 SL
   have cV:=eH kr
   rw[Hs]at hx
   obtain⟨ad,cap,LO,LK,mJ,AO,fB⟩:=np hx
   have fB:=fB ⟨false,_,cV⟩
   obtain⟨pl,cur,e0,hp,hh,hg,hk,hV⟩:=(h.bK id ve false _ cV).box rfl
   have hp:β id=some pl:=hp
   have hh:w.heap[pl.b]? =some (.cells cur e0 (0,0)):=hh
   have hg:g pl.b= .own (.id id) 0:=hg
   have hcur':(match β id with
    |some pl=>(0 < len\/0=0->ad=some ⟨pl.b,0,none⟩)/\(([.arr]:List vI)=[]->0=0->cap=pl.cap)
    |none=>ad=none/\len=0/\cap=0):=fB
   rw[hp]at hcur'
   simp only at hcur'
   have Kz:=hcur'.1 (.inr trivial)
   subst Kz
   have hV:V (s.env w g β) (.d (.arr len t') l) (cur.toList.take cur.size):=hV
   rw[<-cO,dh]at hV
   simp only[V,dm]at hV
   obtain⟨PZ,hVc⟩:=hV
   have LI:=hVc.length (λ_ _ hx=>dm.size hx)
   have Ex:news.length<=cur.size:=by
    rw[OU]
    have:cur.size=l.length*t'.size:=by simpa using LI
    rw[this,PZ]
    exact cY _ SO
   have lZ:=run_storeCells_at P pl.b 0 e0 news 0 cur w hh (by simpa using Ex) h1news
   have mF:(Builtin.copy_ #[T,X] 0 #[a.eval x,a.eval y]).run P w= .ok (goInt m.length) (w.setRow pl.b (dD cur.toList 0 news).toArray):=by
    have Wp:Nat.min m.length len=m.length:=gH SO
    rw[LO]
    simp only[cF,aI]at lZ
    simp[Builtin.copy_,run_underlying hT,hlen,sizeOf,typeInfo,hi,Wp,PX w rfl,lZ,dD]
   have Ib:=Trans.setRow w hg (dD cur.toList 0 news).toArray
   have hle:cP (s.env w g β) ((s.aO id (.obj ve false (.d (.arr len t') (m++l.drop m.length)))).env (w.setRow pl.b (dD cur.toList 0 news).toArray) g β):=cP.aO cV (aw _) Ib (λ_ _=>rfl) (λ_=>rfl)
   have i1:=h.step (du _ _ _) Ib hle (jc.aO (Fc:=mG cV λk v1 l e=>by cases e) h.bK (by rw[cV];simp) hle (λ_ _=>rfl) (λi ver fr c pl2 hi AR Dx=>⟨setRow_other w pl.b pl2.b _ (h.apart hg hi AR Dx),rfl⟩) (yp.obj ⟨pl,_,e0,hp,setRow_heap w pl.b cur _ e0 (0,0) hh,hg,trivial,by
    show V _ (.d (.arr len t') (m++l.drop m.length)) ((dD cur.toList 0 news).toArray.toList.take (dD cur.toList 0 news).toArray.size)
    rw[<-cO,dh]
    simp only[V,dm]
    refine⟨by rw[ae,dy];omega,?_⟩
    have e2:dD cur.toList 0 news=news++cur.toList.drop (m.length*t'.size):=by
     simp[dD,OU]
    have q:bj (dm (s.env w g β) t') (dD cur.toList 0 news) (m++l.drop m.length):=by
     rw[e2]
     exact bj.append pt (bj.drop (λ_ _ hx=>dm.size hx) m.length hVc)
    exact q.mono λ_ _ hx=>hx.mono hle.mem⟩))
   exact fin _ _ mF ⟨g,β,i1.put o.dst ⟨[.int .i64 (m.length:Int)],by simp only[V,dm],rfl⟩⟩
  ·exact(ai.1 he).elim
 ·exact(ai.1 he).elim
theorem Fy(h:Inv C g β s a w){c:Call}{x y:Operand}{T X:TypeId}(ho:o.op= .call c)(hc:c.callee= .builtin .append)(ha:c.args.toList=[x,y])(ht:c.argTypes.toList=[T,X]){s':AS}
  {nl dt:Bool} (he:(qA P s nl dt o.dst T X (s.ev x) (s.ev y)).eval=some s'):fM P o a w (iE C s'):=by
 obtain⟨cal,args,tys⟩:=c
 simp only at hc ha ht
 have ha':args= #[x,y]:=by apply gq;simpa using ha
 have ht':tys= #[T,X]:=by apply gq;simpa using ht
 subst hc ha' ht'
 have hx:=h.ev x
 have hy:=h.ev y
 have fin:∀z w',(Builtin.append_ #[T,X] 0 #[a.eval x,a.eval y]).run P w= .ok z w'->(∃g' β',Inv C g' β' s' (a.put o.dst z) w')->fM P o a w (iE C s'):=by
  intro z w' h1 h2
  refine .inl ⟨z,w',sk ho (f:=Builtin.append_ #[T,X] 0 #[a.eval x,a.eval y]) (λty cs xs Hs=> ?_) h1,h2⟩
  subst Hs
  have e1:Builtin.append_ #[T,X] 0 #[a.eval x,a.eval y]=Builtin.append_ #[T,X] ty #[a.eval x,a.eval y]:=rfl
  rw[e1]
  simp[builtin]
 unfold qA at he
 split at he
 ·rename_i e t b q vL hd
  obtain⟨hT,hz,i,zv,hi,KF,Rh,Ht,KJ⟩:=mY vL
  obtain⟨m,hm,he⟩:=ak.1 he
  obtain⟨hX,news,pt,hlen,PX⟩:=zt h hy hm
  have OU:=pt.length (λ_ _ hx=>dm.size hx)
  have h1news:∀u∈news,u.oneCell'=true:=bj.all (λ_ _ hx=>hx.one) pt
  rw[<-KF]at PX
  have SY:zv.cells.size=t.size:=by have:=(KJ (s.env w g β)).size;simpa using this
  have WW:∀n,(Builtin.zeroCells zv.cells n).size=n*t.size:=λn=>by rw[rJ,SY]
  have grow:∀(ad:Option Addr) (sLen sCap:Nat) (cz:List Value) (l0:List t.den),a.eval x= .slice ad sLen sCap->cz.length=sLen*t.size->l0.length=sLen->bj (dm (s.env w g β) t) cz l0->
    (Builtin.firstCells i.size sLen (.slice ad sLen sCap)).run P w.drew= .ok cz.toArray w.drew->sCap < sLen+m.length->dZ (sLen+m.length) b=true->
    ∃(cur:Array Value) (cap:Nat),(Builtin.append_ #[T,X] 0 #[a.eval x,a.eval y]).run P w= .ok (.slice (some ⟨w.heap.size,0,none⟩) (sLen+m.length) cap) (w.drew.alloc (.cells cur e))/\
     cur.size=cap*t.size/\sLen+m.length<=cap/\cap<=maxLen/\cur.toList.take ((sLen+m.length)*t.size)=cz++news:=by
   intro ad sLen sCap cz l0 LO Ad TY TI Vc vX Hr
   simp only[dZ,decide_eq_true_eq]at Hr
   have hr:=yZ (P:=P) (w:=w) (ty:=0) hT hX hi Ht Vc hlen (PX w.drew rfl) vX (by omega) (by rw[Rh];exact Hr.1)
   rw[LO]
   refine⟨_,_,hr,?_,grownCap_ge _ _ _ _,grownCap_le_maxLen _ _ _ _ (by unfold maxLen;omega),?_⟩
   ·have ZO:=grownCap_ge w (sLen+m.length) sCap e
    simp only[Array.size_append,ik,WW,Ad,OU,<-eM]
    congr 1
    omega
   ·have H9:(cz++news).length=(sLen+m.length)*t.size:=by rw[ae,Ad,OU,eM]
    simp only[bW]
    rw[<-H9]
    exact List.take_left
  split at he
  ·rename_i Zj
   rw[Zj]at hx
   have LO:=kg hx
   cases dt with
   |true=>
    simp only at he
    obtain⟨Hr,he⟩:=bO.1 he
    obtain rfl:=ao.1 he
    simp only[aj,decide_eq_true_eq]at Hr
    obtain⟨Hr,SN⟩:=Hr
    obtain⟨cur,cap,hr,q1,q2,q3,q4⟩:=grow none 0 0 [] [] LO (by simp) rfl rfl rfl (by omega) (by simpa using Hr)
    simp only[aI,aR]at hr q2 q4
    have V7:bj (dm (s.env w.drew g β) t) news m:=pt.mono λ_ _ hx=>hx.mono (cP.same (s:=s) (β:=β) (Trans.drew w g)).mem
    refine fin _ _ hr ⟨lp g w.heap.size .free,β,(h.drew.vh (.cells cur e)).put o.dst ⟨[.slice (some ⟨w.heap.size,0,none⟩) m.length cap],?_,rfl⟩⟩
    simp only[V,dm]
    refine⟨λh0=>(by cases h0),λm' hm'=> ?_⟩
    obtain rfl:m=m':=ba hm'
    refine⟨_,cap,cur.toList.take (m.length*t.size),rfl,q2,λ_=>rfl,λj v hj=>⟨_,_,rfl,?_,?_⟩,?_⟩
    ·show(w.drew.alloc (.cells cur e)).cell? ⟨w.drew.heap.size,0+j,none⟩=some v
     rw[World.cell?_alloc_new,aI]
     rw[dp]at hj
     split at hj
     ·simpa using hj
     ·cases hj
    ·show oT (lp g w.heap.size .free) w.heap.size (0+j)
     unfold oT;rw[fJ];trivial
    ·rw[q4]
     exact V7.mono λ_ _ hx=>hx.mono (Trans.mem (E:=s.env w.drew g β) (E':=s.env (w.drew.alloc (.cells cur e)) (lp g w.drew.heap.size .free) β) (Trans.alloc w.drew g (.cells cur e) .free))
   |false=>
   simp only at he
   obtain⟨hq,he⟩:=ay.1 he
   obtain⟨Hr,he⟩:=bO.1 he
   obtain rfl:=ao.1 he
   by_cases SN:m.length=0
   ·have Wr:m=[]:=bF SN
    subst Wr
    have Wu:news=[]:=bF (by rw[OU];simp)
    subst Wu
    obtain⟨β',i1,e1,v1⟩:=h.Ng hq (e:=e) hz
    refine fin (.slice none 0 0) w ?_ ⟨g,β',?_⟩
    ·rw[LO]
     exact ue (P:=P) hT hX hi hlen (PX w rfl)
    ·exact i1.put o.dst v1
   ·obtain⟨cur,cap,hr,q1,q2,q3,q4⟩:=grow none 0 0 [] [] LO (by simp) rfl rfl rfl (by omega) (by simpa using Hr)
    simp only[aI,aR]at hr q2 q4
    obtain⟨g2,β2,i2,v2⟩:=(h.drew).ER hq (e:=e) (l:=m) (cur:=cur) (cap:=cap) hz (by rw[q4];exact pt.mono λ_ _ hx=>hx.mono (cP.same (s:=s) (β:=β) (Trans.drew w g)).mem) q1 q2 q3
    refine fin _ _ hr ⟨g2,β2,?_⟩
    exact i2.put o.dst v2
  ·rename_i id ver len Hs
   rw[Hs]at hx
   obtain⟨ad,cap,LO,LK,mJ,AO,fB⟩:=np hx
   split at he
   ·rename_i v fr e' t' l kr
    obtain⟨h1,xr⟩:=ay.1 he
    clear he
    simp only[aj,beq_iff_eq]at h1
    obtain⟨Ry,YG⟩:=h1
    subst Ry YG
    obtain⟨l',hl',Cz⟩:=ak.1 xr
    obtain⟨et,hl'⟩:=jB (jM.1 hl')
    have et':t'=t:=by simpa using et
    subst et'
    simp only at hl'
    subst hl'
    obtain⟨OS,TM⟩:=bO.1 Cz
    have OS:len<=l.length:=by simpa using OS
    obtain⟨XR,SL⟩:=bO.1 TM
    obtain⟨Hr,XQ⟩:=bO.1 SL
    obtain rfl:=ao.1 XQ
    clear xr Cz TM SL XQ
    have cV:=eH kr
    have fB:=fB ⟨fr,_,cV⟩
    obtain⟨_,hO⟩:=h.bK id v fr _ cV
    have hO':(match β id with
     |none=>l=[]
     |some pl=>∃cur k,w.heap[pl.b]? =some (.cells cur e (0,0))/\cur.size=pl.cap*t'.size/\l.length<=pl.cap/\pl.cap<=maxLen/\g pl.b= .own (.id id) k/\
       k<=l.length*t'.size/\(fr=false->k=0)/\bj (dm (s.env w g β) t') (cur.toList.take (l.length*t'.size)) l):=hO
    have hcur':(match β id with
     |some pl=>(0 < len\/0=0->ad=some ⟨pl.b,0,none⟩)/\(([]:List vI)=[]->0=0->cap=pl.cap)
     |none=>ad=none/\len=0/\cap=0):=fB
    have Re:fr=false\/len=l.length:=by
     simp only[ix,cC,decide_eq_true_eq]at XR
     exact XR
    have fL:s.bZ id≠none:=by rw[cV];simp
    have fresh:∀(cur:Array Value) (cp:Nat) (g0:Nat->kY),Trans w (w.drew.alloc (.cells cur e)) g (lp g0 w.heap.size (.own (.id (id)) 0))->
      (∀i ver fr c pl,i≠id->s.bZ i=some (.obj ver fr c)->β i=some pl->g0 pl.b=g pl.b)->cur.size=cp*t'.size->len+m.length<=cp->cp<=maxLen->
      bj (dm (s.env w g β) t') (cur.toList.take ((len+m.length)*t'.size)) (l.take len++m)->len<=l.length->
      ∃g' β',Inv C g' β' ((s.aO id (.obj (v+1) fr (.vec e t' (l.take len++m)))).put o.dst (.aS id (v+1) [] 0 0 (len+m.length))) (a.put o.dst (.slice (some ⟨w.heap.size,0,none⟩) (len+m.length) cp)) (w.drew.alloc (.cells cur e)):=by
     intro cur cp g0 ht Wc q1 q2 q3 q4 q5
     have PZ:(l.take len++m).length=len+m.length:=by simp;omega
     have hle:cP (s.env w g β) ((s.aO id (.obj (v+1) fr (.vec e t' (l.take len++m)))).env (w.drew.alloc (.cells cur e)) (lp g0 w.heap.size (.own (.id id) 0)) (vd β id (some ⟨w.heap.size,cp⟩))):=
      cP.aO cV (by omega) ht (λi hi=>rH _ _ _ hi) (λhh=>by omega)
     have i1:=h.step (du _ _ _) ht hle (jc.aO (Fc:=mG cV λk v1 l e=>by cases e) h.bK fL hle (λi hi=>rH _ _ _ hi) (λi ver fr' c' pl hi AR Dx=>by
       have iv:pl.b < w.heap.size:=((h.bK i ver fr' c' AR).label (pl:=pl) Dx).1
       exact⟨mW w.drew _ iv,by rw[fA _ _ _ (by omega)];exact Wc i ver fr' c' pl hi AR Dx⟩) (by
      refine⟨hz,?_⟩
      show(match vd β id (some ⟨w.heap.size,cp⟩) id with
       |none=>(l.take len++m)=[]
       |some pl=>_)
      rw[jI]
      refine⟨cur,0,oh w.drew _,q1,by rw[PZ];exact q2,q3,fJ _ _ _,aK _,λ_=>rfl,?_⟩
      rw[PZ]
      exact q4.mono λ_ _ hx=>hx.mono hle.mem))
     refine⟨_,_,i1.put o.dst ⟨_,?_,rfl⟩⟩
     simp only[V]
     have kW:=eS s id (.obj (v+1) fr (.vec e t' (l.take len++m))) fL
     refine⟨_,_,rfl,q2,λ_=>rfl,⟨by show(s.aO id _).bZ id≠none;rw[kW];simp,λv' fr' c' hh=> ?_⟩,λ_=> ?_⟩
     ·have hh':(s.aO id (.obj (v+1) fr (.vec e t' (l.take len++m)))).bZ id=some (.obj v' fr' c'):=hh
      rw[kW]at hh'
      simp only[aq,dS.obj.injEq]at hh'
      omega
     ·show(match vd β id (some ⟨w.heap.size,cp⟩) id with
       |some pl=>_
       |none=>_)
      rw[jI]
      exact⟨λ_=>rfl,λ_ _=>rfl⟩
    cases hp:β id with
    |none=>
     rw[hp]at hO' hcur'
     simp only at hO' hcur'
     obtain⟨rfl,rfl,rfl⟩:=hcur'
     subst hO'
     by_cases SN:m.length=0
     ·have Wr:m=[]:=bF SN
      subst Wr
      have Wu:news=[]:=bF (by rw[OU];simp)
      subst Wu
      have ht:=Trans.refl w g
      have hle:cP (s.env w g β) ((s.aO id (.obj (v+1) fr (.vec e t' []))).env w g β):=cP.aO cV (by omega) ht (λ_ _=>rfl) (λ_=>rfl)
      have i1:=h.step (du _ _ _) ht hle (jc.aO (Fc:=mG cV λk v1 l e=>by cases e) h.bK fL hle (λ_ _=>rfl) (λ_ _ _ _ _ _ _ _=>⟨rfl,rfl⟩) (by
       refine⟨hz,?_⟩
       show(match β id with
        |none=>([]:List t'.den)=[]
        |some pl=>_)
       rw[hp]))
      refine fin (.slice none 0 0) w ?_ ⟨g,β,i1.put o.dst ⟨_,?_,rfl⟩⟩
      ·rw[LO]
       exact ue (P:=P) hT hX hi hlen (PX w rfl)
      ·simp only[V]
       have kW:=eS s id (.obj (v+1) fr (.vec e t' [])) fL
       refine⟨_,_,rfl,aw _,λhh=>by simp at hh,⟨by show(s.aO id _).bZ id≠none;rw[kW];simp,λv' fr' c' hh=> ?_⟩,λ_=> ?_⟩
       ·have hh':(s.aO id (.obj (v+1) fr (.vec e t' []))).bZ id=some (.obj v' fr' c'):=hh
        rw[kW]at hh'
        simp only[aq,dS.obj.injEq]at hh'
        omega
       ·show(match β id with
         |some pl=>_
         |none=>_)
        rw[hp]
        exact⟨rfl,by simp,rfl⟩
     ·obtain⟨cur,cp,hr,q1,q2,q3,q4⟩:=grow none 0 0 [] [] LO (by simp) rfl rfl rfl (by omega) Hr
      refine fin _ _ hr (fresh cur cp g (Trans.trans (Trans.drew w g) (Trans.alloc w.drew g _ _)) (λ_ _ _ _ _ _ _ _=>rfl) q1 q2 q3 ?_ (by simp))
      rw[q4]
      simpa using pt
    |some pl=>
     rw[hp]at hO' hcur'
     simp only at hO' hcur'
     obtain⟨Kz,xq⟩:=hcur'
     have Kz:=Kz (.inr trivial)
     have xq:=xq trivial trivial
     subst Kz xq
     obtain⟨cur,k,p1,p2,p3,p4,p5,p6,p7,p8⟩:=hO'
     have hk:k<=len*t'.size:=by
      rcases Re with hf | hf
      ·rw[p7 hf];exact aK _
      ·rw[hf];exact p6
     have hmul:len*t'.size<=l.length*t'.size:=cY _ OS
     have X4:l.length*t'.size<=cur.size:=by rw[p2];exact cY _ p3
     have Rv:=bj.take (λ_ _ hx=>dm.size hx) len p8
     rw[kE,gH hmul]at Rv
     have Ad:(cur.toList.take (len*t'.size)).length=len*t'.size:=by simp;omega
     by_cases vX:len+m.length<=pl.cap
     ·have Y9:(len+m.length)*t'.size<=cur.size:=by rw[p2];exact cY _ vX
      have Ex:len*i.size+news.length<=cur.size:=by rw[KF,OU,<-eM];exact Y9
      have hr:=y3 (P:=P) (w:=w) (ty:=0) hT hX hi p1 h1news hlen (PX w rfl) vX Ex
      rw[KF]at hr Ex
      have ht:Trans w (w.setRow pl.b (dD cur.toList (len*t'.size) news).toArray) g g:=by
       refine⟨by simp,by simp,by simp,by simp,λb' hb=> ?_⟩
       by_cases Ew:b'=pl.b
       ·subst Ew
        rw[p5]
        refine⟨.inr ⟨id,k,rfl,aw _⟩,λoff u OW hu=> ?_⟩
        rw[cell_of_row w pl.b off cur e (0,0) p1]at hu
        rw[cell_setRow_same w pl.b off cur _ e (0,0) p1]
        simp only[dD,aD,List.getElem?_toArray]
        rw[fq (by rw[Ad];omega),dp,if_pos (by omega)]
        simpa using hu
       ·rw[setRow_other w pl.b b' _ Ew]
        cases zN:g b' with
        |free=>exact⟨rfl,rfl⟩
        |own o' k=>cases o' with
         |eL=>exact⟨rfl,rfl⟩
         |id i'=>exact⟨.inr ⟨i',k,rfl,aw _⟩,λoff v _ hv=>by rw[cell_setRow_other w pl.b _ _ Ew];exact hv⟩
      have hle:cP (s.env w g β) ((s.aO id (.obj (v+1) fr (.vec e t' (l.take len++m)))).env (w.setRow pl.b (dD cur.toList (len*t'.size) news).toArray) g β):=
       cP.aO cV (by omega) ht (λ_ _=>rfl) (λ_=>rfl)
      have PZ:(l.take len++m).length=len+m.length:=by simp;omega
      have WH:(dD cur.toList (len*t'.size) news).length=cur.toList.length:=jE (by simpa using Ex)
      have i1:=h.step (du _ _ _) ht hle (jc.aO (Fc:=mG cV λk v1 l e=>by cases e) h.bK fL hle (λ_ _=>rfl) (λi ver fr c pl2 hi AR Dx=>⟨setRow_other w pl.b pl2.b _ (h.apart p5 hi AR Dx),rfl⟩) (by
       refine⟨hz,?_⟩
       show(match β id with
        |none=>(l.take len++m)=[]
        |some pl=>_)
       rw[hp]
       refine⟨_,k,setRow_heap w pl.b cur _ e (0,0) p1,by rw[ik,WH];simpa using p2,by rw[PZ];exact vX,p4,p5,?_,p7,?_⟩
       ·rw[PZ,eM];omega
       ·rw[PZ,show(dD cur.toList (len*t'.size) news).toArray.toList=dD cur.toList (len*t'.size) news from rfl]
        have e1:(dD cur.toList (len*t'.size) news).take ((len+m.length)*t'.size)=cur.toList.take (len*t'.size)++news:=by
         unfold dD
         have H9:(cur.toList.take (len*t'.size)++news).length=(len+m.length)*t'.size:=by rw[ae,Ad,OU,eM]
         rw[<-H9]
         exact List.take_left
        rw[e1]
        exact(bj.append Rv pt).mono λ_ _ hx=>hx.mono hle.mem))
      rw[<-LO]at hr
      refine fin _ _ hr ⟨g,β,i1.put o.dst ⟨_,?_,rfl⟩⟩
      simp only[V]
      have kW:=eS s id (.obj (v+1) fr (.vec e t' (l.take len++m))) fL
      refine⟨_,_,rfl,vX,λ_=>rfl,⟨by show(s.aO id _).bZ id≠none;rw[kW];simp,λv' fr' c' hh=> ?_⟩,λ_=> ?_⟩
      ·have hh':(s.aO id (.obj (v+1) fr (.vec e t' (l.take len++m)))).bZ id=some (.obj v' fr' c'):=hh
       rw[kW]at hh'
       simp only[aq,dS.obj.injEq]at hh'
       omega
      ·show(match β id with
        |some pl=>_
        |none=>_)
       rw[hp]
       exact⟨λ_=>rfl,λ_ _=>rfl⟩
     ·have Vc:(Builtin.firstCells i.size len (.slice (some ⟨pl.b,0,none⟩) len pl.cap)).run P w.drew= .ok (cur.toList.take (len*t'.size)).toArray w.drew:=by
       refine run_firstCells_some (P:=P) w.drew i.size _ _ _ _ _ (by rw[Ad,KF]) (λj u hj=> ?_)
       rw[Addr.add_lit,aI]
       show w.cell? ⟨pl.b,j,none⟩=some u
       rw[cell_of_row w pl.b j cur e (0,0) p1]
       rw[dp]at hj
       split at hj
       ·simpa using hj
       ·cases hj
      obtain⟨cur2,cp,hr,q1,q2,q3,q4⟩:=grow (some ⟨pl.b,0,none⟩) len pl.cap (cur.toList.take (len*t'.size)) (l.take len) LO Ad (by simp;omega) Rv Vc (by omega) Hr
      have iv:pl.b < w.heap.size:=(bJ.1 p1).1
      have Jw:Trans w w.drew g (lp g pl.b .free):=by
       refine⟨rfl,rfl,⟨rfl,Nat.le_succ _⟩,aw _,λb' hb=> ?_⟩
       by_cases Ew:b'=pl.b
       ·subst Ew
        rw[p5,fJ]
        exact⟨.inl rfl,λ_ _ _ hh=>hh⟩
       ·rw[fA _ _ _ Ew]
        exact(Trans.drew w g).yu b' hb
      refine fin _ _ hr (fresh cur2 cp (lp g pl.b .free) (Trans.trans Jw (Trans.alloc w.drew _ _ _)) (λi ver fr c pl2 hi AR Dx=>fA _ _ _ (h.apart p5 hi AR Dx)) q1 q2 q3 ?_ OS)
      rw[q4]
      exact bj.append Rv pt
   ·simp only[ai]at he
  ·simp only[ai]at he
 ·simp only[ai]at he
end
end Go.Ab
namespace Go.Ab
abbrev Ren:=Id->Nat->Option (Id×Nat)
structure rQ(ρ:Ren)(E E':Env):Prop where
 mem:oe E E'
 ref:∀id ver r,ρ id ver=some r->E.tT id ver->E'.tT r.1 r.2/\(E'.cur r.1 r.2->E.cur id ver/\E'.β r.1=E.β id)
theorem JV(ρ:Ren)(a:av):(a.iW ρ).agg=a.agg:=by
 cases a with
 |ptr id v p n=>simp only[av.iW];cases ρ id v <;> rfl
 |aS id v p c i l=>simp only[av.iW];cases ρ id v <;> rfl
 |db id v=>simp only[av.iW];cases ρ id v <;> rfl
 |yl id v=>simp only[av.iW];cases ρ id v <;> rfl
 |_=>rfl
mutual
theorem Fk{ρ:Ren}{E E':Env}(h:rQ ρ E E'):∀ {a:av} {cs:List Value},V E a cs->V E' (a.iW ρ) cs
 | .undef,_,hv=>by simp only[V]at hv
 | .gone,_,hv=>by simpa only[av.iW,V]using hv
 | .di,_,hv=>by simpa only[av.iW,V]using hv
 | .mO,_,hv=>by simpa only[av.iW,V]using hv
 | .pL,_,hv=>by simpa only[av.iW,V]using hv
 | .sx,_,hv=>by simpa only[av.iW,V]using hv
 | .sb l,_,hv=>by
  simp only[av.iW,V]at hv ⊢
  obtain⟨b,cap,arr,e,h1,h2,h3,h4,h5⟩:=hv
  obtain⟨h6,h7⟩:=h.mem.fz b _ h3 h4
  exact⟨b,cap,arr,e,h1,h2,h6,h7,h5⟩
 | .d t x,_,hv=>by simp only[av.iW,V]at hv ⊢;exact hv.mono h.mem
 | .pr a b,_,hv=>by
  simp only[av.iW,V]at hv ⊢
  obtain⟨ca,cb,e,ha,hb⟩:=hv
  exact⟨ca,cb,e,Fk h ha,Fk h hb⟩
 | .ptr id ver p n,_,hv=>by
  have h1:=hv.one
  simp only[av.iW]
  cases hr:ρ id ver with
  |none=>
   simp only[V]at hv ⊢
   obtain⟨a,e,_⟩:=hv
   exact⟨_,e,h1 _ (by simp[e])⟩
  |some r=>
   simp only[V]at hv ⊢
   obtain⟨a,e,hb,hc⟩:=hv
   obtain⟨b1,b2⟩:=h.ref id ver r hr hb
   refine⟨a,e,b1,λc=> ?_⟩
   obtain⟨c1,e1⟩:=b2 c
   rw[e1];exact hc c1
 | .eD t x,_,hv=>by
  simp only[av.iW,V]at hv ⊢
  obtain⟨b,off,vs,e,hr,hx⟩:=hv
  exact⟨b,off,vs,e,hr.mono h.mem,hx.mono h.mem⟩
 | .aS id ver p c i len,_,hv=>by
  have h1:=hv.one
  simp only[av.iW]
  cases hr:ρ id ver with
  |none=>
   simp only[V]at hv ⊢
   obtain⟨a,cap,e,_⟩:=hv
   exact⟨_,e,h1 _ (by simp[e])⟩
  |some r=>
   simp only[V]at hv ⊢
   obtain⟨a,cap,e,hl,hs,hb,hc⟩:=hv
   obtain⟨b1,b2⟩:=h.ref id ver r hr hb
   refine⟨a,cap,e,hl,hs,b1,λc=> ?_⟩
   obtain⟨c1,e1⟩:=b2 c
   rw[e1];exact hc c1
 | .fn f c,_,hv=>by
  simp only[av.iW,V]at hv ⊢
  obtain⟨vs,e,hc⟩:=hv
  exact⟨vs,e,HB h hc⟩
 | .cons _ _,_,hv=>by simp only[V]at hv
 | .nil,_,hv=>by simp only[V]at hv
 | .vec ..,_,hv=>by simp only[V]at hv
 | .bx ..,_,hv=>by simp only[V]at hv
 | .yl id ver,_,hv=>by
  have h1:=hv.one
  simp only[av.iW]
  cases hr:ρ id ver with
  |none=>
   simp only[V]at hv ⊢
   obtain⟨b,e,_⟩:=hv
   exact⟨_,e,h1 _ (by simp[e])⟩
  |some r=>
   simp only[V]at hv ⊢
   obtain⟨b,e,hb,hc⟩:=hv
   obtain⟨b1,b2⟩:=h.ref id ver r hr hb
   refine⟨b,e,b1,λc=> ?_⟩
   obtain⟨c1,e1⟩:=b2 c
   rw[e1];exact hc c1
 | .db id ver,_,hv=>by
  have h1:=hv.one
  simp only[av.iW]
  cases hr:ρ id ver with
  |none=>
   simp only[V]at hv ⊢
   obtain⟨b,e,_⟩:=hv
   exact⟨_,e,h1 _ (by simp[e])⟩
  |some r=>
   simp only[V]at hv ⊢
   obtain⟨b,e,hb,hc⟩:=hv
   obtain⟨b1,b2⟩:=h.ref id ver r hr hb
   refine⟨b,e,b1,λc=> ?_⟩
   obtain⟨c1,e1⟩:=b2 c
   rw[e1];exact hc c1
 | .mp ..,_,hv | .nH ..,_,hv | .mr ..,_,hv=>by simp only[V]at hv
theorem HB{ρ:Ren}{E E':Env}(h:rQ ρ E E'):∀ {a:av} {vs:List Value},VC E a vs->VC E' (a.iW ρ) vs
 | .nil,_,hv=>by simpa only[av.iW,VC]using hv
 | .cons a b,_,hv=>by
  simp only[av.iW,VC]at hv ⊢
  obtain⟨v,vs',cs,e,ha,ho,hb⟩:=hv
  exact⟨v,vs',cs,e,Fk h ha,by rw[JV];exact ho,HB h hb⟩
 | .undef,_,hv=>by simp only[VC]at hv
 | .gone,_,hv=>by simp only[VC]at hv
 | .di,_,hv=>by simp only[VC]at hv
 | .mO,_,hv=>by simp only[VC]at hv
 | .pL,_,hv=>by simp only[VC]at hv
 | .yl ..,_,hv | .mr ..,_,hv=>by simp only[VC]at hv
 | .sx,_,hv=>by simp only[VC]at hv
 | .sb _,_,hv=>by simp only[VC]at hv
 | .d t x,_,hv=>by simp only[VC]at hv
 | .pr a b,_,hv=>by simp only[VC]at hv
 | .ptr ..,_,hv=>by simp only[VC]at hv
 | .eD ..,_,hv=>by simp only[VC]at hv
 | .aS ..,_,hv=>by simp only[VC]at hv
 | .fn ..,_,hv=>by simp only[VC]at hv
 | .vec ..,_,hv=>by simp only[VC]at hv
 | .bx ..,_,hv=>by simp only[VC]at hv
 | .db ..,_,hv=>by simp only[VC]at hv
 | .mp ..,_,hv | .nH ..,_,hv=>by simp only[VC]at hv
end
theorem wj{ρ:Ren}{E E':Env}(h:rQ ρ E E'){a:av}{v:Value}(hv:VS E a v):VS E' (a.iW ρ) v:=by
 by_cases hc:a.eX=true
 ·obtain⟨cs,h1,h2⟩:=hv.eX hc
  exact VS.of (Fk h h1) (by rw[JV];exact h2)
 ·cases a <;> first | (exact absurd rfl hc) | skip
  ·trivial
  ·obtain⟨vs,e,Vl⟩:=hv
   have:=HB h Vl
   simp only[av.iW]at this ⊢
   exact⟨vs,e,this⟩
  ·exact hv
  ·obtain⟨cs,h1,_⟩:=hv
   simp only[V]at h1
  ·obtain⟨cs,h1,_⟩:=hv
   simp only[V]at h1
  ·obtain⟨cs,h1,_⟩:=hv
   simp only[V]at h1
  ·obtain⟨cs,h1,_⟩:=hv
   simp only[V]at h1
  ·obtain⟨cs,h1,_⟩:=hv
   simp only[V]at h1
theorem BV(ρ:Ren):∀f:av,(f.iW ρ).list=f.list.map (av.iW ρ)
 | .cons a b=>by simp only[av.iW,av.list,bX,BV ρ b]
 | .undef | .gone | .di | .mO | .pL | .sx | .d _ _ | .eD _ _ | .fn _ _ | .pr _ _ | .nil | .vec .. | .sb _ | .bx .. | .mp .. | .nH .. | .mr .. =>rfl
 | .ptr id ver p n=>by simp only[av.iW];cases ρ id ver <;> rfl
 | .aS id ver p c i len=>by simp only[av.iW];cases ρ id ver <;> rfl
 | .db id ver=>by simp only[av.iW];cases ρ id ver <;> rfl
 | .yl id ver=>by simp only[av.iW];cases ρ id ver <;> rfl
theorem Hx{ρ:Ren}{E E':Env}(h:rQ ρ E E'){f:av}{tmps:Array Value}(hs:tc E f tmps):tc E' (f.iW ρ) tmps:=by
 refine⟨by rw[BV,cK];exact hs.1,λi=> ?_⟩
 have:=wj h (hs.2 i)
 rw[BV,aA,fj]
 rw[aA]at this
 cases hi:f.list[i]? with
 |none=>exact VS.undef
 |some x=>rw[hi]at this;exact this
theorem Li(ρ:Ren)(c:av):(c.iW ρ).strip=c.strip.iW ρ:=by
 cases c <;> first
  |rfl
  | (rename_i id ver p n;simp only[av.strip,av.iW];cases ρ id ver <;> rfl)
  | (rename_i id ver p c i len;simp only[av.strip,av.iW];cases ρ id ver <;> rfl)
  | (rename_i i v;simp only[av.strip,av.iW];cases ρ i v <;> rfl)
theorem yc(ρ:Ren):∀c:av,(c.iW ρ).size=c.size
 | .pr a b=>by simp only[av.iW,av.size,yc ρ a,yc ρ b]
 | .ptr id ver p n=>by simp only[av.iW];cases ρ id ver <;> rfl
 | .aS id ver p c i len=>by simp only[av.iW];cases ρ id ver <;> rfl
 | .db id ver=>by simp only[av.iW];cases ρ id ver <;> rfl
 | .undef | .gone | .di | .mO | .pL | .sx | .d _ _ | .eD _ _ | .fn _ _ | .cons _ _ | .nil | .vec .. | .sb _ | .bx .. | .mp .. | .nH .. | .mr .. =>rfl
 | .yl id ver=>by simp only[av.iW];cases ρ id ver <;> rfl
theorem Mc(ρ:Ren){c:av}(n:Nat):(c.iW ρ).qd n=c.qd n:=by
 cases c with
 |bx e z c=>cases z with
  |zero=>rfl
  |succ z=>exact yc ρ c
 |_=>first | rfl | (simp only[av.iW];split <;> rfl)
theorem Kg(ρ:Ren){c:av}{pl:Pl}{n:Nat}{e:TypeId}(h:c.uz pl n e):(c.iW ρ).uz pl n e:=by
  cases c <;> first
    | (rename_i e' z c;cases z with
       |zero=>exact h
       |succ z=>exact⟨h.1,h.2.1,h.2.2.1,by rw[yc];exact h.2.2.2⟩)
    |exact h
    |trivial
    | (rename_i id ver p n;simp only[av.iW];cases ρ id ver <;> trivial)
    | (rename_i id ver p c i len;simp only[av.iW];cases ρ id ver <;> trivial)
    | (rename_i i v;simp only[av.iW];cases ρ i v <;> trivial)
theorem pF{ρ:Ren}{E E':Env}(h:rQ ρ E E'){id id':Id}{fr:Bool}{c:av}(ho:pE E id fr c)(hβ:E'.β id'=E.β id)
  (hb:∀pl,E.β id=some pl->E'.w.heap[pl.b]? =E.w.heap[pl.b]? /\(∀k,E.g pl.b= .own (.id id) k->E'.g pl.b= .own (.id id') k)/\(E.g pl.b= .free->E'.g pl.b= .free)):pE E' id' fr (c.iW ρ):=by
 by_cases hn:c.iI=false
 ·obtain⟨pl,cur,e,h1,h2,h3,h5,h4⟩:=ho.box hn
  obtain⟨b1,b2,b3⟩:=hb pl h1
  have h6:=Fk h h4
  refine yp.obj ⟨pl,cur,e,by rw[hβ,h1],by rw[b1,h2],?_,Kg ρ h5,by rw[Li,Mc];exact h6⟩
  cases fr with
  |true=>exact b3 h3
  |false=>exact b2 0 h3
 ·cases c <;> first
   | (exact absurd rfl hn)
   |skip
  rotate_left
  rotate_left
  ·obtain⟨pl,mb,since,seen,c0,h1,h2,h3,_⟩:=ho
   obtain⟨b1,b2,_⟩:=hb pl h1
   exact⟨pl,mb,since,seen,c0,by rw[hβ,h1],by rw[b1,h2],b2 0 h3,λvr Ic=>by cases Ic⟩
  ·obtain⟨pl,r,h1,h2,h3,h4,h5,h6⟩:=ho
   obtain⟨b1,b2,_⟩:=hb pl h1
   exact⟨pl,r,by rw[hβ,h1],by rw[b1,h2],b2 0 h3,h4,Hx h h5,h6⟩
  rotate_left
  ·obtain⟨pl,es,clock,h1,h2,h3,h4⟩:=ho
   obtain⟨b1,b2,_⟩:=hb pl h1
   exact⟨pl,es,clock,by rw[hβ,h1],by rw[b1,h2],b2 0 h3,⟨h4.1.1.mono h.mem,h4.1.2⟩,h4.2⟩
  rename_i e t l
  obtain⟨hz,ho⟩:=ho
  refine⟨hz,?_⟩
  rw[hβ]
  cases hp:E.β id with
  |none=>rw[hp]at ho;exact ho
  |some pl=>
   rw[hp]at ho
   simp only at ho ⊢
   obtain⟨b1,b2,_⟩:=hb pl hp
   obtain⟨cur,k,h1,h2,h3,h4,h5,h6,h7,h8⟩:=ho
   exact⟨cur,k,by rw[b1,h1],h2,h3,h4,b2 k h5,h6,h7,h8.mono λc x hx=>hx.mono h.mem⟩
def rO(E:Env):List av->List Value->Prop
 |[],[]=>True
 |a::as,v::vs=>VS E a v/\rO E as vs
 |_,_=>False
def gV.st(G:gV):AS:= {cr:=[],cz:=G.cz,news:=[G.news]}
def gl(cz:List dS):AS:= {cr:=[],cz,news:=[]}
def qq(E:Env)(G:gV)(v:Value)(w':World):Prop:=
 ∃g' β',VS (G.st.env w' g' β') G.val v/\jc (G.st.env w' g' β')/\Trans E.w w' E.g g'/\cP E (G.st.env w' g' β')
def nX(P:Program)(f:FuncId)(en:Entry):Prop:=
 ∀w g β args cz km x,rO ((gl cz).env w g β) args km->jc ((gl cz).env w g β)->en.run args cz=some x->
  ((callFunc f km.toArray).run P w= .ok (.enter f km.toArray) w/\
   Calls P f km.toArray w λe w'=>∃v,e= .returned v/\qq ((gl cz).env w g β) (en.out args cz x) v w')\/
  (∃v w',(callFunc f km.toArray).run P w= .ok (.value v) w'/\qq ((gl cz).env w g β) (en.out args cz x) v w')
def tQ(P:Program)(y:Nat)(en:Entry):Prop:=
 ∀w g β args cz km x,rO ((gl cz).env w g β) args km->jc ((gl cz).env w g β)->en.run args cz=some x->
  ∀l us ts f rd n,km= .func (.yield l) #[] #[]::(us++ts)->us.length=(ln P y).ps.size->
   RoundIn (Fr rd) n P l f (((ln P y).ps.zip us.toArray).foldl (λtmps (t,a)=>tmps.setIfInBounds t a) ts.toArray) (ln P y).as (ln P y).b w
    λe w'=>∃v,e= .returned v/\qq ((gl cz).env w g β) (en.out args cz x) v w'
def vS(P:Program)(f:Nat)(en:Entry):Prop:=(Nat.blt f yB=true->nX P f en)/\(Nat.ble yB f=true->tQ P f en)
theorem vS.of{P:Program}{f:FuncId}{en:Entry}(h:nX P f en)(hf:Nat.blt f yB=true):vS P f en:=
 ⟨λ_=>h,λh2=>by
  exact absurd (nu (eK hf) (eK h2)) (gE _)⟩
theorem vS.Ye{P:Program}{f:FuncId}{en:Entry}(h:tQ P f en)(hf:Nat.ble yB f=true):vS P f en:=
 ⟨λh2=>by
  exact absurd (nu (eK h2) (eK hf)) (gE _),λ_=>h⟩
def Sound(P:Program)(Γ:mR):Prop:=∀f vs en,Γ f vs=some en->vS P f en
theorem rO.mono{E E':Env}(h:cP E E'):∀ {as:List av} {vs:List Value},rO E as vs->rO E' as vs
 |[],[],_=>trivial
 |_::_,_::_,⟨h1,h2⟩=>⟨h1.mono h,rO.mono h h2⟩
theorem rO.iW{ρ:Ren}{E E':Env}(h:rQ ρ E E'):∀ {as:List av} {vs:List Value},rO E as vs->rO E' (as.map (av.iW ρ)) vs
 |[],[],_=>trivial
 |_::_,_::_,⟨h1,h2⟩=>⟨wj h h1,rO.iW h h2⟩
theorem rO.append{E:Env}:∀ {as:List av} {vs:List Value} {bs:List av} {us:List Value},rO E as vs->rO E bs us->rO E (as++bs) (vs++us)
 |[],[],_,_,_,h=>h
 |_::_,_::_,_,_,⟨h1,h2⟩,h=>⟨h1,rO.append h2 h⟩
theorem HA{E:Env}:∀ {c:av} {vs:List Value},VC E c vs->rO E c.list vs
 | .cons a b,vs,h=>by
  simp only[VC]at h
  obtain⟨v,vs',cs,rfl,ha,ho,hb⟩:=h
  exact⟨VS.of ha ho,HA hb⟩
 | .nil,vs,h=>by
  simp only[VC]at h
  subst h
  trivial
 | .undef,_,hv=>by simp only[VC]at hv
 | .gone,_,hv=>by simp only[VC]at hv
 | .di,_,hv=>by simp only[VC]at hv
 | .mO,_,hv=>by simp only[VC]at hv
 | .pL,_,hv=>by simp only[VC]at hv
 | .yl ..,_,hv | .mr ..,_,hv=>by simp only[VC]at hv
 | .sx,_,hv=>by simp only[VC]at hv
 | .sb _,_,hv=>by simp only[VC]at hv
 | .d t x,_,hv=>by simp only[VC]at hv
 | .pr a b,_,hv=>by simp only[VC]at hv
 | .ptr ..,_,hv=>by simp only[VC]at hv
 | .eD ..,_,hv=>by simp only[VC]at hv
 | .aS ..,_,hv=>by simp only[VC]at hv
 | .fn ..,_,hv=>by simp only[VC]at hv
 | .vec ..,_,hv=>by simp only[VC]at hv
 | .bx ..,_,hv=>by simp only[VC]at hv
 | .db ..,_,hv=>by simp only[VC]at hv
 | .mp ..,_,hv | .nH ..,_,hv=>by simp only[VC]at hv
theorem Inv.VU{C:Ctx}{g:Nat->kY}{β:Id->Option Pl}{s:AS}{a:Act}{w:World}(h:Inv C g β s a w):∀l:List Operand,rO (s.env w g β) (l.map s.ev) (l.map a.eval)
 |[]=>trivial
 |x::l=>⟨h.ev x,h.VU l⟩
theorem uC{E E':Env}{s:AS}(hs:E.s=s.bZ)(ho:jc E)(he:cP E E'):∀(ps:List (Option Ty)) (vs:List av) (ys:List Value) (r:List av×List Id),rO E vs ys->(s.conv ps vs).eval=some r->Ta E E' r.2->rO E' r.1 ys
 |[],[],ys,r,hv,h,_=>by
  simp only[AS.conv,ao]at h
  subst h
  cases ys with
  |nil=>trivial
  |cons _ _=>exact hv.elim
 |some t::ps,v::vs,y::ys,r,⟨hv,zi⟩,h,hf=>by
  simp only[AS.conv]at h
  obtain⟨x,h1,h2⟩:=ak.1 h
  obtain⟨r',h3,h4⟩:=ak.1 h2
  obtain rfl:=ao.1 h4
  obtain⟨cs,hV,hO⟩:=hv.eX (si h1)
  refine⟨VS.of (cs:=cs) ?_ ?_,uC hs ho he ps vs ys r' zi h3 λid dq=>hf id (bt.2 (.inr dq))⟩
  ·simp only[V]
   exact pZ hs ho he v t x cs hV h1 λid dq=>hf id (bt.2 (.inl dq))
  ·show fV t.agg cs y
   rw[<-Cm h1];exact hO
 |none::ps,v::vs,y::ys,r,⟨hv,zi⟩,h,hf=>by
  simp only[AS.conv]at h
  obtain⟨r',h3,h4⟩:=ak.1 h
  obtain rfl:=ao.1 h4
  exact⟨hv.mono he,uC hs ho he ps vs ys r' zi h3 hf⟩
 |[],_::_,_,_,_,h,_=>by simp only[AS.conv,ai]at h
 |some _::_,[],_,_,_,h,_=>by simp only[AS.conv,ai]at h
 |none::_,[],_,_,_,h,_=>by simp only[AS.conv,ai]at h
end Go.Ab
namespace Go.Ab
theorem nE{id:Id}:∀ {ids:List Id} {k:Nat},idxOf id ids=some k->ids[k]? =some id
 |[],_,h=>by simp[idxOf]at h
 |x::xs,k,h=>by
  simp only[idxOf]at h
  split at h
  ·rename_i e
   simp only[aq]at h
   subst h e
   rfl
  ·simp only[fv]at h
   obtain⟨j,hj,rfl⟩:=h
   simpa using nE hj
theorem rV{id:Id}:∀ {ids:List Id} {k:Nat},ids.Nodup->ids[k]? =some id->idxOf id ids=some k
 |[],_,_,h=>by simp at h
 |x::xs,0,hn,h=>by
  simp only[fS,aq]at h
  simp[idxOf,h]
 |x::xs,k+1,hn,h=>by
  simp only[kD]at h
  obtain⟨h1,h2⟩:=dI.1 hn
  have fL:x≠id:=λe=>h1 (e▸dd h)
  simp[idxOf,fL,rV h2 h]
theorem sC(s0:AS)(all:List Id)(t:Nat):∀(ids:List Id) (es:List dS) (s:AS),(AS.jy s0 all t s ids es).cr=s.cr
 |[],_,_=>by simp[AS.jy]
 |_::_,[],_=>by simp[AS.jy]
 |id::ids,e::es,s=>by rw[AS.jy,sC s0 all t ids es,du]
theorem Ca(s:AS)(ids:List Id)(t:Nat)(es:List dS):(s.made ids t es).cr=s.cr:=by cases es <;> rfl
theorem uD(s0:AS)(all:List Id)(t:Nat):∀(ids:List Id) (es:List dS) (s:AS),ids.Nodup->es.length=ids.length->(∀id∈ids,s.bZ id≠none)->
  (∀id,id ∉ ids->(AS.jy s0 all t s ids es).bZ id=s.bZ id)/\
  ∀(k:Nat) (id:Id) (e:dS),ids[k]? =some id->es[k]? =some e->(AS.jy s0 all t s ids es).bZ id=some (s0.nA all t (s0.sj id) e)
 |[],es,s,_,_,_=>⟨λ_ _=>by simp[AS.jy],λk id e h=>by simp at h⟩
 |_::_,[],s,_,hl,_=>by simp at hl
 |i::ids,e::es,s,hn,hl,hp=>by
  obtain⟨h1,h2⟩:=dI.1 hn
  have hp':∀id∈ids,(s.aO i (s0.nA all t (s0.sj i) e)).bZ id≠none:=λid dq=>by
   rw[da s i id _ (λe=>h1 (e▸dq))]
   exact hp id (aF _ dq)
  obtain⟨r1,r2⟩:=uD s0 all t ids es (s.aO i (s0.nA all t (s0.sj i) e)) h2 (by simpa using hl) hp'
  rw[AS.jy]
  refine⟨λid dq=> ?_,λk id e' hk he=> ?_⟩
  ·simp only[cX,not_or]at dq
   rw[r1 id dq.2,da s i id _ dq.1]
  ·cases k with
   |zero=>
    simp only[fS,aq]at hk he
    subst hk he
    rw[r1 i h1,eS s i _ (hp i (aH ..))]
   |succ k=>
    simp only[kD]at hk he
    exact r2 k id e' hk he
theorem FT(s:AS)(ids:List Id)(t:Nat)(es:List dS)(hv:es=[]\/s.ek t=true):
  (∀id,(es=[]\/∀j,id≠ .new t j)->(s.made ids t es).bZ id=s.bZ id)/\(es≠ []->∀j,(s.made ids t es).bZ (.new t j)=(es[j]?).map (s.nA ids t 0)):=by
 cases es with
 |nil=>exact⟨λ_ _=>rfl,λh=>absurd rfl h⟩
 |cons e es=>
  have hv:s.ek t=true:=by
   rcases hv with h | h
   ·cases h
   ·exact h
  refine⟨λid h=> ?_,λ_ j=> ?_⟩
  ·rcases h with h | h
   ·cases h
   ·exact je _ h
  ·rw[AS.made,qG (jQ hv).2,fj]
def lU(ids:List Id):kY->kY
 | .free=> .free
 | .own .eL n=> .own .eL n
 | .own (.id i) n=>match idxOf i ids with | some k=> .own (.id (.aV k)) n | none=> .own .eL n
def tE(β:Id->Option Pl)(ids:List Id):Id->Option Pl
 | .aV k=>(ids[k]?).bind β
 | .new _ _=>none
def lM(g:Nat->kY)(size:Nat)(ids:List Id)(t:Nat)(b:Nat):kY->kY
 | .free=> .free
 | .own .eL n=>if b < size then g b else .own .eL n
 | .own (.id i) n=> .own (.id (Qa ids t i)) n
def pP(β β':Id->Option Pl)(ids:List Id)(t:Nat)(some?:Bool)(id:Id):Option Pl:=
 match idxOf id ids with
 |some k=>β' (.aV k)
 |none=>match id with
  | .new i j=>if i=t/\some?=true then β' (.new 0 j) else β (.new i j)
  |id=>β id
theorem M3{ids:List Id}{l:kY}{off:Nat}(h:oT (λ_=>l) 0 off):oT (λ_=>lU ids l) 0 off:=by
 cases l with
 |free=>trivial
 |own o k=>cases o with
  |eL=>exact h
  |id i=>simp only[lU];cases idxOf i ids <;> exact h
section
variable {P:Program} {C:Ctx} {g:Nat->kY} {β:Id->Option Pl} {s:AS} {a:Act} {w:World} {o:Oper}
theorem Qb(ids:List Id):
  rQ (s.pT ids) (s.env w g β) ((gl (ids.map (s.lr ids))).env w (λb=>lU ids (g b)) (tE β ids)):=by
 refine⟨⟨λb off v ⟨h1,h2⟩=>⟨h1,?_⟩,λb ob h1 h2=>⟨by show lU ids (g b)= .free;have h1:g b= .free:=h1;rw[h1];rfl,h2⟩⟩,λid ver r hr _=> ?_⟩
 ·exact M3 (l:=g b) h2
 ·unfold AS.pT at hr
  split at hr
  ·rename_i k v fr c hk ho
   split at hr
   ·rename_i Ui
    simp only[aq]at hr
    subst hr Ui
    have dq:=nE hk
    have cV:=eH ho
    refine⟨⟨?_,λ_ _ _ _=>aK _⟩,λ_=>⟨⟨fr,c,cV⟩,?_⟩⟩
    ·show(ids.map (s.lr ids))[k]? ≠none
     simp[dq]
    ·show(ids[k]?).bind β=β id
     rw[dq];rfl
   ·cases hr
  ·cases hr
theorem O1(ids:List Id)(hn:ids.Nodup)(h:jc (s.env w g β)):jc ((gl (ids.map (s.lr ids))).env w (λb=>lU ids (g b)) (tE β ids)):=by
 intro id ver fr c dq
 have dq:(gl (ids.map (s.lr ids))).bZ id=some (.obj ver fr c):=dq
 cases id with
 |new i j=>simp[gl,AS.bZ]at dq
 |aV k=>
  simp only[gl,AS.bZ,fj,fv]at dq
  obtain⟨id1,hk,he⟩:=dq
  unfold AS.lr at he
  split at he
  ·rename_i v fr1 c1 cV
   simp only[dS.obj.injEq]at he
   obtain⟨rfl,rfl,rfl⟩:=he
   refine pF (Qb ids) (h id1 v fr1 c1 cV) (by show(ids[k]?).bind β=β id1;rw[hk];rfl) λpl hp=>⟨rfl,λn hg=> ?_,λhg=> ?_⟩
   ·have hg:g pl.b= .own (.id id1) n:=hg
    show lU ids (g pl.b)=_
    rw[hg]
    simp[lU,rV hn hk]
   ·have hg:g pl.b= .free:=hg
    show lU ids (g pl.b)=_
    rw[hg];rfl
  ·cases he
theorem As(h:Inv C g β s a w){ids:List Id}(hn:ids.Nodup)(hp:∀id∈ids,∃r,s.obj id=some r)(Ad:∀id∈ids,s.A9 id=true){G:gV}{t:Nat}(hl:G.cz.length=ids.length)(hv:G.news=[]\/s.ek t=true){v:Value}{w':World}
  (ha:qq ((gl (ids.map (s.lr ids))).env w (λb=>lU ids (g b)) (tE β ids)) G v w'):
  ∃g' β',Inv C g' β' (AS.jy s ids t (s.made ids t G.news) ids G.cz) a w'/\VS ((AS.jy s ids t (s.made ids t G.news) ids G.cz).env w' g' β') (G.val.iW (s.pf ids t)) v:=by
 obtain⟨g1,β1,ri,P5,Ib,hle⟩:=ha
 have Ib:Trans w w' (λb=>lU ids (g b)) g1:=Ib
 obtain⟨m1,m2⟩:=FT s ids t G.news hv
 have Wx:∀id∈ids,s.bZ id≠none:=λid dq=>by
  obtain⟨⟨v,fr,c⟩,hr⟩:=hp id dq
  rw[eH hr];simp
 have vM:∀id,s.bZ id≠none->G.news=[]\/∀j,id≠ .new t j:=λid dq=>by
  rcases hv with hv | hv
  ·exact .inl hv
  ·exact .inr λj e=>dq (by rw[e];exact(jQ hv).1 j)
 obtain⟨n1,n2⟩:=uD s ids t ids G.cz (s.made ids t G.news) hn hl (λid dq=>by rw[m1 id (vM id (Wx id dq))];exact Wx id dq)
 have Uj:∀j,G.news≠ []->Id.new t j ∉ ids:=λj fL dq=>by
  rcases hv with hv | hv
  ·exact fL hv
  ·exact Wx _ dq ((jQ hv).1 j)
 generalize AR:AS.jy s ids t (s.made ids t G.news) ids G.cz=s2 at*
 have hgO:∀(k:Nat) (id:Id),ids[k]? =some id->∃e,G.cz[k]? =some e/\s2.bZ id=some (s.nA ids t (s.sj id) e):=λk id hk=>by
  have iv:k < G.cz.length:=by rw[hl];exact(dL.1 hk).1
  exact⟨_,cj iv,n2 k id _ hk (cj iv)⟩
 have hgN:G.news≠ []->∀j,s2.bZ (.new t j)=(G.news[j]?).map (s.nA ids t 0):=λfL j=>by
  rw[n1 _ (Uj j fL),m2 fL j]
 have hgS:∀id,id ∉ ids->(G.news=[]\/∀j,id≠ .new t j)->s2.bZ id=s.bZ id:=λid h1 h2=>by
  rw[n1 id h1,m1 id h2]
 have hverOf:∀id∈ids,∃fr c,s.bZ id=some (.obj (s.sj id) fr c):=λid dq=>by
  obtain⟨⟨v,fr,c⟩,hr⟩:=hp id dq
  refine⟨fr,c,?_⟩
  rw[eH hr]
  simp[AS.sj,hr]
 have Wb:∀b n,b < w.heap.size->g1 b= .own .eL n->(g b= .own .eL n\/∃i,g b= .own (.id i) n/\idxOf i ids=none):=λb n hb hg=>by
  have h1:=Ib.yu b hb
  cases zN:g b with
  |free=>simp only[zN,lU]at h1;rw[h1.1]at hg;cases hg
  |own o k=>cases o with
   |eL=>simp only[zN,lU]at h1;rw[h1.1]at hg;left;exact hg
   |id i=>
    cases hi:idxOf i ids with
    |none=>
     simp only[zN,lU,hi]at h1
     rw[h1.1]at hg
     simp only[kY.own.injEq,true_and]at hg
     subst hg
     exact .inr ⟨i,rfl,hi⟩
    |some k'=>
     simp only[zN,lU,hi]at h1
     rcases h1.1 with h2 | ⟨_,_,h2,_⟩ <;> (rw[h2]at hg;cases hg)
 let g2:Nat->kY:=λb=>lM g w.heap.size ids t b (g1 b)
 let β2:Id->Option Pl:=pP β β1 ids t (!G.news.isEmpty)
 have hβO:∀k id,ids[k]? =some id->β2 id=β1 (.aV k):=λk id hk=>by
  show pP _ _ _ _ _ id=_
  simp[pP,rV hn hk]
 have hβN:G.news≠ []->∀j,β2 (.new t j)=β1 (.new 0 j):=λfL j=>by
  show pP _ _ _ _ _ _=_
  have:idxOf (.new t j) ids=none:=by
   cases hi:idxOf (.new t j) ids with
   |none=>rfl
   |some k=>exact absurd (dd (nE hi)) (Uj j fL)
  have hne':G.news.isEmpty=false:=by cases hh:G.news with
   |nil=>exact absurd hh fL
   |cons _ _=>rfl
  simp[pP,this,hne']
 have hβS:∀id,id ∉ ids->(G.news=[]\/∀j,id≠ .new t j)->β2 id=β id:=λid h1 h2=>by
  show pP _ _ _ _ _ _=_
  have:idxOf id ids=none:=by
   cases hi:idxOf id ids with
   |none=>rfl
   |some k=>exact absurd (dd (nE hi)) h1
  cases id with
  |aV k=>simp[pP,this]
  |new i j=>
   have:¬(i=t/\(!G.news.isEmpty)=true):=by
    rintro⟨rfl,h3⟩
    rcases h2 with h2 | h2
    ·rw[h2]at h3;cases h3
    ·exact h2 j rfl
   simp only[pP, *,if_false]
 have Ue:Trans w w' g g2:=by
  refine⟨Ib.os,Ib.tape,Ib.output,Ib.size,λb hb=> ?_⟩
  have h1:=Ib.yu b hb
  show match g b with | .free=>lM g w.heap.size ids t b (g1 b)= .free/\_ | .own .eL k=>lM g w.heap.size ids t b (g1 b)= .own .eL k/\_ | .own (.id _) k=>(lM g w.heap.size ids t b (g1 b)= .free\/∃i k',lM g w.heap.size ids t b (g1 b)= .own (.id i) k'/\k<=k')/\_
  cases zN:g b with
  |free=>simp only[zN,lU]at h1 ⊢;rw[h1.1];exact⟨rfl,h1.2⟩
  |own o k=>cases o with
   |eL=>simp only[zN,lU]at h1 ⊢;rw[h1.1];simp only[lM,hb,if_true,zN];exact⟨trivial,h1.2⟩
   |id i=>
    cases hi:idxOf i ids with
    |none=>
     simp only[zN,lU,hi]at h1 ⊢
     rw[h1.1]
     simp only[lM,hb,if_true,zN]
     exact⟨.inr ⟨i,k,rfl,aw _⟩,λoff v _ hv=>by simpa only[World.cell?,h1.2]using hv⟩
    |some k'=>
     simp only[zN,lU,hi]at h1 ⊢
     refine⟨?_,h1.2⟩
     rcases h1.1 with h2 | ⟨i',k'',h2,h3⟩
     ·rw[h2];exact .inl rfl
     ·rw[h2];exact .inr ⟨_,k'',rfl,h3⟩
 have tp:oe (G.st.env w' g1 β1) (s2.env w' g2 β2):=by
  refine⟨λb off v ⟨h1,h2⟩=> ?_,λb ob h1 h2=>⟨by show lM g w.heap.size ids t b (g1 b)= .free;have h1:g1 b= .free:=h1;rw[h1];rfl,h2⟩⟩
  refine⟨h1,?_⟩
  have h2:oT g1 b off:=h2
  show oT g2 b off
  unfold oT at h2 ⊢
  show match lM g w.heap.size ids t b (g1 b) with | .free=>True | .own _ k=>off < k
  cases zN:g1 b with
  |free=>simp[lM]
  |own o k=>
   rw[zN]at h2
   cases o with
   |eL=>
    simp only[lM]
    by_cases hb:b < w.heap.size
    ·rw[if_pos hb]
     rcases Wb b k hb zN with h3 | ⟨i,h3,_⟩ <;> (rw[h3];exact h2)
    ·rw[if_neg hb];exact h2
   |id i=>exact h2
 have hentOut:∀(base:Nat) (e:dS) (ver:Nat) (fr:Bool) (c:av),s.nA ids t base e= .obj ver fr c->∃v0 c0,e= .obj v0 fr c0/\ver=base+v0/\c=c0.iW (s.pf ids t):=λbase e ver fr c he=>by
  cases e with
  |dead=>cases he
  |obj v0 fr0 c0=>
   simp only[AS.nA,dS.obj.injEq]at he
   obtain⟨rfl,rfl,rfl⟩:=he
   exact⟨v0,c0,rfl,rfl,rfl⟩
 have Ez:rQ (s.pf ids t) (G.st.env w' g1 β1) (s2.env w' g2 β2):=by
  refine⟨tp,λid ver r hr hb=> ?_⟩
  cases id with
  |aV k=>
   obtain⟨yn,Aa⟩:=hb
   have yn:G.cz[k]? ≠none:=yn
   have hk:k < ids.length:=by
    rcases mC k ids.length with h' | h'
    ·exact h'
    ·exact absurd (dM (by omega)) yn
   have dq:ids[k]? =some ids[k]:=cj hk
   simp only[AS.pf,dq,aq]at hr
   subst hr
   obtain⟨e,xr,Cz⟩:=hgO k _ dq
   refine⟨⟨by show s2.bZ _≠none;rw[Cz];simp,λv fr c hh=> ?_⟩,λ⟨fr,c,hh⟩=>⟨?_,hβO k _ dq⟩⟩
   ·have hh:s2.bZ ids[k]=some (.obj v fr c):=hh
    rw[Cz,aq]at hh
    obtain⟨v0,c0,rfl,rfl,_⟩:=hentOut _ _ _ _ _ hh
    have:=Aa v0 fr c0 xr
    omega
   ·have hh:s2.bZ ids[k]=some (.obj (s.sj ids[k]+ver) fr c):=hh
    rw[Cz,aq]at hh
    obtain⟨v0,c0,rfl,SU,_⟩:=hentOut _ _ _ _ _ hh
    obtain rfl:ver=v0:=by omega
    exact⟨fr,c0,xr⟩
  |new i j=>
   simp only[AS.pf,aq]at hr
   subst hr
   obtain⟨yn,Aa⟩:=hb
   have yn:([G.news].getD i [])[j]? ≠none:=yn
   have Aa:∀v fr c,([G.news].getD i [])[j]? =some (.obj v fr c)->ver<=v:=Aa
   cases i with
   |succ i=>simp at yn
   |zero=>
    simp only[kz]at yn Aa
    have fL:G.news≠ []:=λe=>by rw[e]at yn;simp at yn
    obtain⟨e,he⟩:=Option.ne_none_iff_exists'.1 yn
    have Cz:=hgN fL j
    rw[he,ee]at Cz
    refine⟨⟨by show s2.bZ (.new t j)≠none;rw[Cz];simp,λv fr c hh=> ?_⟩,λ⟨fr,c,hh⟩=>⟨?_,hβN fL j⟩⟩
    ·have hh:s2.bZ (.new t j)=some (.obj v fr c):=hh
     rw[Cz,aq]at hh
     obtain⟨v0,c0,rfl,rfl,_⟩:=hentOut _ _ _ _ _ hh
     have:=Aa v0 fr c0 he
     simp only
     omega
    ·have hh:s2.bZ (.new t j)=some (.obj ver fr c):=hh
     rw[Cz,aq]at hh
     obtain⟨v0,c0,rfl,SU,_⟩:=hentOut _ _ _ _ _ hh
     obtain rfl:ver=v0:=by omega
     exact⟨fr,c0,he⟩
 have T0:cP (s.env w g β) (s2.env w' g2 β2):=by
  refine⟨Trans.mem Ue,λid ver hb=> ?_,λid ver hb hc=> ?_⟩
  ·obtain⟨yn,Aa⟩:=hb
   have yn:s.bZ id≠none:=yn
   have Aa:∀v fr c,s.bZ id=some (.obj v fr c)->ver<=v:=Aa
   by_cases dq:id∈ids
   ·obtain⟨k,hk⟩:=jS.1 dq
    obtain⟨e,xr,Cz⟩:=hgO k id hk
    obtain⟨fr1,c1,CA⟩:=hverOf id dq
    refine⟨by show s2.bZ _≠none;rw[Cz];simp,λv fr c hh=> ?_⟩
    have hh:s2.bZ id=some (.obj v fr c):=hh
    rw[Cz,aq]at hh
    obtain⟨v0,c0,rfl,rfl,_⟩:=hentOut _ _ _ _ _ hh
    have:=Aa _ _ _ CA
    omega
   ·have:=hgS id dq (vM id yn)
    exact⟨by show s2.bZ _≠none;rw[this];exact yn,λv fr c hh=>Aa v fr c (this.symm.trans hh)⟩
  ·obtain⟨yn,Aa⟩:=hb
   have yn:s.bZ id≠none:=yn
   have Aa:∀v fr c,s.bZ id=some (.obj v fr c)->ver<=v:=Aa
   obtain⟨fr,c,hh⟩:=hc
   have hh:s2.bZ id=some (.obj ver fr c):=hh
   by_cases dq:id∈ids
   ·obtain⟨k,hk⟩:=jS.1 dq
    obtain⟨e,xr,Cz⟩:=hgO k id hk
    obtain⟨fr1,c1,CA⟩:=hverOf id dq
    rw[Cz,aq]at hh
    obtain⟨v0,c0,rfl,SU,_⟩:=hentOut _ _ _ _ _ hh
    have Ui:=Aa _ _ _ CA
    obtain rfl:v0=0:=by omega
    have hver':ver=s.sj id:=by omega
    refine⟨⟨fr1,c1,by rw[hver'];exact CA⟩,?_⟩
    show β2 id=β id
    rw[hβO k id hk]
    have F8:s.lr ids id= .obj 0 fr1 (c1.iW (s.pT ids)):=by simp[AS.lr,CA]
    have h0:((gl (ids.map (s.lr ids))).env w (λb=>lU ids (g b)) (tE β ids)).tT (.aV k) 0:=by
     refine⟨?_,λ_ _ _ _=>aK _⟩
     show(ids.map (s.lr ids))[k]? ≠none
     simp[hk]
    have:=(hle.cur (.aV k) 0 h0 ⟨fr,c0,xr⟩).2
    have this:β1 (.aV k)=(ids[k]?).bind β:=this
    rw[this,hk];rfl
   ·have:=hgS id dq (vM id yn)
    exact⟨⟨fr,c,this.symm.trans hh⟩,hβS id dq (vM id yn)⟩
 have T7:jc (s2.env w' g2 β2):=by
  intro id ver fr c hh
  have hh:s2.bZ id=some (.obj ver fr c):=hh
  by_cases dq:id∈ids
  ·obtain⟨k,hk⟩:=jS.1 dq
   obtain⟨e,xr,Cz⟩:=hgO k id hk
   rw[Cz,aq]at hh
   obtain⟨v0,c0,rfl,_,rfl⟩:=hentOut _ _ _ _ _ hh
   refine pF Ez (P5 (.aV k) v0 fr c0 xr) (hβO k id hk) λpl _=>⟨rfl,λn hg=> ?_,λhg=> ?_⟩
   ·have hg:g1 pl.b= .own (.id (.aV k)) n:=hg
    show lM g w.heap.size ids t pl.b (g1 pl.b)=_
    rw[hg]
    simp[lM,Qa,aA,hk]
   ·have hg:g1 pl.b= .free:=hg
    show lM g w.heap.size ids t pl.b (g1 pl.b)=_
    rw[hg];rfl
  ·by_cases fL:G.news≠ []/\∃j,id= .new t j
   ·obtain⟨fL,j,rfl⟩:=fL
    rw[hgN fL j,fv]at hh
    obtain⟨e,he,hh⟩:=hh
    obtain⟨v0,c0,rfl,_,rfl⟩:=hentOut _ _ _ _ _ hh
    refine pF Ez (P5 (.new 0 j) v0 fr c0 (by show([G.news].getD 0 [])[j]? =_;simpa using he)) (hβN fL j) λpl _=>⟨rfl,λn hg=> ?_,λhg=> ?_⟩
    ·have hg:g1 pl.b= .own (.id (.new 0 j)) n:=hg
     show lM g w.heap.size ids t pl.b (g1 pl.b)=_
     rw[hg]
     rfl
    ·have hg:g1 pl.b= .free:=hg
     show lM g w.heap.size ids t pl.b (g1 pl.b)=_
     rw[hg];rfl
   ·have X7:G.news=[]\/∀j,id≠ .new t j:=by
     by_cases hh:G.news=[]
     ·exact .inl hh
     ·exact .inr λj e=>fL ⟨hh,j,e⟩
    rw[hgS id dq X7]at hh
    have same:∀id,id ∉ ids->∀ver fr c,s.bZ id=some (.obj ver fr c)->∀pl,β id=some pl->w'.heap[pl.b]? =w.heap[pl.b]? /\lM g w.heap.size ids t pl.b (g1 pl.b)=g pl.b:=by
     intro id dq ver fr c hh pl zO
     obtain⟨hb,TZ⟩:=(h.bK id ver fr c hh).label (pl:=pl) zO
     have hb:pl.b < w.heap.size:=hb
     have h1:=Ib.yu pl.b hb
     have Wg:idxOf id ids=none:=by
      cases hi:idxOf id ids with
      |none=>rfl
      |some k=>exact absurd (dd (nE hi)) dq
     rcases TZ with⟨k,hk⟩ | ⟨_,hk⟩
     ·have hk:g pl.b= .own (.id id) k:=hk
      simp only[hk,lU,Wg]at h1
      rw[h1.1]
      simp only[lM,hb,if_true]
      exact⟨h1.2,trivial⟩
     ·have hk:g pl.b= .free:=hk
      simp only[hk,lU]at h1
      rw[h1.1,hk]
      exact⟨h1.2,rfl⟩
    have ho:=h.bK id ver fr c hh
    refine ho.mono T0 (hβS id dq X7) (λpl zO=>same id dq ver fr c hh pl zO) λq2 vq k2 v2 l2 yL _=> ?_
    have yL:s.bZ q2=some (.obj vq true (.mp k2 v2 l2)):=yL
    have P0:q2 ∉ ids:=λhm=>by
     have:=Ad q2 hm
     have e:s.obj q2=some (vq,true,.mp k2 v2 l2):=by simp[AS.obj,yL]
     unfold AS.A9 at this
     rw[e]at this
     cases this
    refine⟨⟨k2,v2,l2,?_⟩,λpl zO=>same q2 P0 vq true _ yL pl zO⟩
    show s2.bZ q2=_
    rw[hgS q2 P0 (vM q2 (by rw[yL];simp))]
    exact yL
 have LL:s2.cr=s.cr:=by rw[<-AR,sC,Ca]
 exact⟨g2,β2,h.step LL Ue T0 T7,wj Ez ri⟩
end
end Go.Ab
namespace Go.Ab
theorem pR(s:AS):∀(n:Nat) (todo acc:List Id),acc.Nodup->(s.reach n todo acc).Nodup
 | 0,_,acc,h=>by simpa[AS.reach]using h
 |_+1,[],acc,h=>by simpa[AS.reach]using h
 |n+1,id::todo,acc,h=>by
  rw[AS.reach]
  split
  ·exact pR s n todo acc h
  ·rename_i hc
   refine pR s n _ _ ?_
   rw[List.nodup_append]
   refine⟨h,by simp,λx hx y hy e=> ?_⟩
   simp only[bI]at hy
   subst hy e
   exact hc (by simpa using hx)
theorem uN(s:AS)(vs:List av):(s.JE vs).Nodup:=pR s _ _ _ (by simp)
section
variable {P:Program} {C:Ctx} {g:Nat->kY} {β:Id->Option Pl} {s:AS} {a:Act} {w:World} {o:Oper}
theorem yG(h:Inv C g β s a w){en:Entry}{ids:List Id}(hn:ids.Nodup){vs:List av}{ys:List Value}(hv:rO (s.env w g β) vs ys)
  {s':AS} (he:(s.enter en o.dst ids vs).eval=some s'):∃x,en.run (vs.map (av.iW (s.pT ids))) (ids.map (s.lr ids))=some x/\
   rO ((gl (ids.map (s.lr ids))).env w (λb=>lU ids (g b)) (tE β ids)) (vs.map (av.iW (s.pT ids))) ys/\
   jc ((gl (ids.map (s.lr ids))).env w (λb=>lU ids (g b)) (tE β ids))/\
   ∀v w',qq ((gl (ids.map (s.lr ids))).env w (λb=>lU ids (g b)) (tE β ids)) (en.out (vs.map (av.iW (s.pT ids))) (ids.map (s.lr ids)) x) v w'->iE C s' (a.put o.dst v) w':=by
 unfold AS.enter at he
 obtain⟨uH,he⟩:=ay.1 he
 obtain⟨x,hx,he⟩:=pI.1 he
 obtain⟨x0,Uk,he⟩:=ak.1 he
 rw[en.NL _ _ Uk]at he
 have hp:∀id∈ids,∃r,s.obj id=some r:=λid dq=>by
  have:=dv.1 uH id dq
  rw[aj]at this
  exact bY.1 this.1
 have Ad:∀id∈ids,s.A9 id=true:=λid dq=>by
  have:=dv.1 uH id dq
  rw[aj]at this
  exact this.2
 refine⟨x,hx,rO.iW (Qb ids) hv,O1 ids hn h.bK,?_⟩
 intro v w' ha
 unfold AS.back at he
 cases TL:o.dst with
 |some t=>
  rw[TL]at he
  obtain⟨hg,he⟩:=ay.1 he
  obtain rfl:=ao.1 he
  simp only[aj,beq_iff_eq,ix]at hg
  obtain⟨hl,hg⟩:=hg
  have MS:(en.out (vs.map (av.iW (s.pT ids))) (ids.map (s.lr ids)) x).news=[]\/s.ek t=true:=by
   rcases hg with hg | hg
   ·exact .inl (by simpa using hg)
   ·exact .inr hg
  obtain⟨g2,β2,h1,h2⟩:=As h hn hp Ad hl MS ha
  exact⟨g2,β2,h1.put (some t) h2⟩
 |none=>
  rw[TL]at he
  obtain⟨hg,he⟩:=ay.1 he
  obtain rfl:=ao.1 he
  simp only[aj,beq_iff_eq]at hg
  obtain⟨hl,hg⟩:=hg
  have vM:(en.out (vs.map (av.iW (s.pT ids))) (ids.map (s.lr ids)) x).news=[]:=by simpa using hg
  obtain⟨g2,β2,h1,_⟩:=As (t:=0) h hn hp Ad hl (.inl vM) ha
  rw[vM]at h1
  exact⟨g2,β2,h1⟩
theorem HV(h:Inv C g β s a w){f:FuncId}{en:Entry}(hd:nX P f en){ids:List Id}(hn:ids.Nodup){vs:List av}{ys:List Value}(hv:rO (s.env w g β) vs ys)
  (hr:(execOp a.eval o).run P w=(callFunc f ys.toArray).run P w) {s':AS} (he:(s.enter en o.dst ids vs).eval=some s'):fM P o a w (iE C s'):=by
 obtain⟨x,hx,h1,h2,key⟩:=yG h hn hv he
 rcases hd _ _ _ _ _ _ _ h1 h2 hx with⟨LJ,hc⟩ | ⟨v,w',Vk,ha⟩
 ·exact .inr (.inr (.inl ⟨f,ys.toArray,w,hr.trans LJ,hc.mono λe w' ⟨v,he,ha⟩=>⟨v,he,key v w' ha⟩⟩))
 ·exact .inl ⟨v,w',hr.trans Vk,key v w' ha⟩
theorem Kl(h:Inv C g β s a w){c:Call}{F:Operand}{f:FuncId}{caps:av}{en:Entry}(ho:o.op= .call c)(hc:c.callee= .value F)(hF:s.ev F= .fn f caps)(hd:nX P f en){s':AS}
  (he:(s.call en o.dst (c.args.toList.map s.ev++caps.list)).eval=some s'):fM P o a w (iE C s'):=by
 obtain⟨cal,args,tys⟩:=c
 simp only at hc he
 subst hc
 obtain⟨vs,hy,Vl⟩:=Dm (hF▸h.ev F)
 have AN:=(h.VU args.toList).append (HA Vl)
 have hr:(execOp a.eval o).run P w=(callFunc f (args.toList.map a.eval++vs).toArray).run P w:=by
  have e1:execOp a.eval o=(do let d <-resolve a.eval {callee:= .value F,args,argTypes:=tys} o.type;invoke d.target d.args):=by simp only[execOp,ho]
  rw[e1]
  simp only[resolve,hy,Deferred.ofValue,Sem.run_bind,Sem.run_pure,Result.andThen_ok,invoke]
  congr 2
  simp
 unfold AS.call at he
 obtain⟨r,h1,h2⟩:=ak.1 he
 obtain⟨g',i1,e1,_,f1⟩:=gf r.2 h
 exact HV i1 hd (uN _ _) (uC rfl h.bK e1 _ _ _ r AN h1 f1) hr h2
theorem tc.ZC{E:Env}{f:av}{tmps:Array Value}(h:tc E f tmps):rO E f.list tmps.toList:=by
 obtain⟨h1,h2⟩:=h
 have gen:∀(l:List av) (ys:List Value),l.length=ys.length->(∀i,VS E (l.getD i .undef) (ys.getD i undef))->rO E l ys:=by
  intro l
  induction l with
  |nil=>intro ys hl _;cases ys with
   |nil=>trivial
   |cons _ _=>simp at hl
  |cons x l ih=>intro ys hl hi;cases ys with
   |nil=>simp at hl
   |cons y ys=>exact⟨by simpa using hi 0,ih ys (by simpa using hl) λi=>by simpa using hi (i+1)⟩
 exact gen _ _ (by simpa using h1) λi=>by simpa[cJ,aA]using h2 i
theorem I6(h:Inv C g β s a w){c:Call}{F:Operand}{id:Id}{ver:Nat}{rc:oX}{f:av}{en:Entry}(ho:o.op= .call c)(hc:c.callee= .value F)
  (hF:s.yielded (s.ev F) c.args.size=some (id,ver,rc,f)) (Vj:rc=ln P rc.y) (hd:vS P rc.y en) {s':AS}
  (he:(s.call en o.dst (.yl id ver::(c.args.toList.map s.ev++f.list))).eval=some s'):fM P o a w (iE C s'):=by
 obtain⟨cal,args,tys⟩:=c
 simp only at hc he hF
 subst hc
 unfold AS.yielded at hF
 split at hF
 rotate_left
 ·cases hF
 rename_i id' ver' KD
 split at hF
 rotate_left
 ·cases hF
 rename_i v c0 f0 kr
 split at hF
 rotate_left
 ·cases hF
 rename_i TH
 simp only[aq,cR]at hF
 obtain⟨rfl,rfl,rfl,rfl⟩:=hF
 simp only[aj,beq_iff_eq]at TH
 obtain⟨⟨rfl,ou⟩,hy⟩:=TH
 have cV:=eH kr
 have hv:=h.ev F
 rw[KD]at hv
 obtain⟨cs,hV,hO⟩:=hv
 simp only[V]at hV
 obtain⟨l,rfl,hb,fB⟩:=hV
 have Um:a.eval F= .func (.yield l) #[] #[]:=by simpa[fV,av.agg]using hO.symm
 obtain⟨pl,hp,rfl⟩:=fB ⟨false,_,cV⟩
 obtain⟨pl',r,hp',hh,hg,⟨q1,q2,q3⟩,LL,lZ⟩:=h.bK id' v false _ cV
 have hp':β id'=some pl':=hp'
 have hp:β id'=some pl:=hp
 rw[hp']at hp
 obtain rfl:pl'=pl:=by simpa using hp
 have hh:w.heap[pl'.b]? =some (.loop r):=hh
 have AN:rO (s.env w g β) (.yl id' v::(args.toList.map s.ev++f0.list)) (.func (.yield pl'.b) #[] #[]::(args.toList.map a.eval++r.tmps.toList)):=
  ⟨by rw[<-Um,<-KD];exact h.ev F,(h.VU args.toList).append LL.ZC⟩
 have hr:(execOp a.eval o).run P w= .ok (.round pl'.b r.fn ((c0.ps.zip (args.toList.map a.eval).toArray).foldl (λtmps (t,a)=>tmps.setIfInBounds t a) r.tmps.toList.toArray) c0.as c0.b) w:=by
  have e1:execOp a.eval o=(do let d <-resolve a.eval {callee:= .value F,args,argTypes:=tys} o.type;invoke d.target d.args):=by simp only[execOp,ho]
  have e2:=run_yield (P:=P) (args:=args.map a.eval) hh (by simpa[q1]using ou)
  rw[q1,q2,q3]at e2
  rw[e1]
  simp only[resolve,Um,Deferred.ofValue,Sem.run_bind,Sem.run_pure,Result.andThen_ok,invoke]
  have e3:(args.toList.map a.eval).toArray=args.map a.eval:=by apply gq;simp
  rw[e3]
  simpa using e2
 unfold AS.call at he
 obtain⟨r2,h1,h2⟩:=ak.1 he
 obtain⟨g',i1,e1,_,f1⟩:=gf r2.2 h
 obtain⟨x,hx,k1,k2,key⟩:=yG i1 (uN _ _) (uC rfl h.bK e1 _ _ _ r2 AN h1 f1) h2
 refine .inr (.inr (.inr ⟨pl'.b,r.fn,_,c0.as,c0.b,w,hr,λrd n=> ?_⟩))
 have:=hd.2 hy _ _ _ _ _ _ x k1 k2 hx pl'.b (args.toList.map a.eval) r.tmps.toList r.fn rd n rfl (by rw[<-Vj];simpa using ou)
 rw[<-Vj]at this
 exact this.mono λe w' ⟨v,he,ha⟩=>⟨v,he,key v w' ha⟩
end
end Go.Ab
namespace Go.Ab
section
variable {P:Program} {C:Ctx} {g:Nat->kY} {β:Id->Option Pl} {s:AS} {a:Act} {w:World} {o:Oper}
theorem jv{b:Builtin}{args:Array Operand}{ts:Array TypeId}{F:TypeId->Array Value->Sem Value}{x:Value}{w':World}{s':AS}(ho:o.op= .call {callee:= .builtin b,args,argTypes:=ts})
  (hb:∀ty cs xs,builtin b ts ty cs xs=(do pure (.value (<-F ty xs)))) (hf:∀ty,(F ty (args.map a.eval)).run P w= .ok x w') (h2:∃g' β',Inv C g' β' s' (a.put o.dst x) w'):fM P o a w (iE C s'):=by
 refine .inl ⟨x,w',?_,h2⟩
 simp only[execOp,ho,resolve,Sem.run_bind,Sem.run_pure,Result.andThen_ok,invoke]
 rw[hb,Sem.run_bind,hf]
 rfl
theorem HS(h:Inv C g β s a w){src dst:TypeId}{x:Operand}(ho:o.op= .convert src dst x){id:Id}{ver:Nat}(hx:s.ev x= .ptr id ver [] 0){v:av}(he:(Dg P s src dst id ver).eval=some v):fM P o a w (iE C (s.put o.dst v)):=by
 have hv:=h.ev x
 rw[hx]at hv
 obtain⟨ad,hy,hb,hc⟩:=pd hv
 have fin:v= .ptr id ver [] 0->(convert src dst (a.eval x)).run P w= .ok (a.eval x) w->fM P o a w (iE C (s.put o.dst v)):=by
  intro h1 h2
  subst h1
  exact h.value hv (eg (f:=convert src dst (a.eval x)) (by simp only[execOp,ho]) h2)
 unfold Dg at he
 split at he
 ·rename_i v0 fr e c kr
  have cV:=eH kr
  obtain⟨pl',cur,e',hp',hh,hg,hk,hV⟩:=(h.bK id v0 fr _ cV).box rfl
  have hk:e'=e:=hk
  subst hk
  have hV:V (s.env w g β) c (cur.toList.take cur.size):=hV
  rw[<-cO,dh]at hV
  have hh:w.heap[pl'.b]? =some (.cells cur e' (0,0)):=hh
  have ou:=hV.size
  have ou:cur.toList.length=c.size:=ou
  have MN:w.shape? pl'.b=some (e',c.size):=by simp only[World.shape?,hh];rw[<-ou];simp
  have hp':β id=some pl':=hp'
  split at he
  ·rename_i t hS hD
   obtain⟨h1,h2⟩:=ay.1 he
   have h2:=ao.1 h2
   simp only[aj,beq_iff_eq,cC,beq_eq_false_iff_ne]at h1
   obtain⟨⟨rfl,h3⟩,h4⟩:=h1
   obtain⟨pl,hp,rfl⟩:=hc ⟨fr,_,cV⟩
   have hp:β id=some pl:=hp
   rw[hp']at hp
   obtain rfl:pl'=pl:=by simpa using hp
   refine fin h2.symm ?_
   rw[hy]
   cases hi:P.info? t with
   |none=>exact absurd (by simp[Program.cellsOf,hi]) h3
   |some j=>
    have hj:j.size≠0:=by rw[<-lg hi]at*;exact h3
    exact Go.Lib.run_to_unsafe w _ hS hD hi hj MN (by show 0 < c.size;omega)
  ·rename_i u hS hD
   obtain⟨h1,h2⟩:=ay.1 he
   have h2:=ao.1 h2
   simp only[aj,beq_iff_eq,cC,beq_eq_false_iff_ne]at h1
   obtain⟨⟨rfl,h3⟩,h4⟩:=h1
   obtain⟨pl,hp,rfl⟩:=hc ⟨fr,_,cV⟩
   have hp:β id=some pl:=hp
   rw[hp']at hp
   obtain rfl:pl'=pl:=by simpa using hp
   refine fin h2.symm ?_
   rw[hy]
   cases hi:P.info? u with
   |none=>exact absurd (by simp[Program.cellsOf,hi]) h3
   |some j=>exact Go.Lib.run_from_unsafe w _ hS hD hi MN h4
  ·simp only[ai]at he
 ·simp only[ai]at he
theorem My(h:Inv C g β s a w){T U:TypeId}{op:BinOp}{x y:Operand}(ho:o.op= .binOp op T x y U){i j:Id}{v1 v2:Nat}(hx:s.ev x= .ptr i v1 [] 0)(hy:s.ev y= .ptr j v2 [] 0){v:av}(he:(SF P s T op i v1 j v2).eval=some v):
  fM P o a w (iE C (s.put o.dst v)):=by
 unfold SF at he
 split at he
 ·rename_i v' fr c kr
  obtain⟨h1,h2⟩:=ay.1 he
  simp only[aj,beq_iff_eq,decide_eq_true_eq]at h1
  obtain⟨⟨⟨rfl,rfl⟩,rfl⟩,SR⟩:=h1
  have cV:=eH kr
  have AU:=h.ev x
  have P9:=h.ev y
  rw[hx]at AU
  rw[hy]at P9
  obtain⟨ad,Tz,_,hc⟩:=pd AU
  obtain⟨ad',TA,_,hc'⟩:=pd P9
  obtain⟨pl,hp,rfl⟩:=hc ⟨fr,c,cV⟩
  obtain⟨pl',hp',rfl⟩:=hc' ⟨fr,c,cV⟩
  rw[hp]at hp'
  obtain rfl:pl=pl':=by simpa using hp'
  have hT:∃t j,P.underlying T=some (.pointer t)/\P.info? t=some j:=by
   unfold UA at SR
   split at SR
   ·rename_i t ht
    obtain⟨j,hj⟩:=bY.1 SR
    exact⟨t,j,ht,hj⟩
   ·cases SR
  obtain⟨t,j,hT,hj⟩:=hT
  have hq:(Op.equal T (.pointer (some ⟨pl.b,0,none⟩)) (.pointer (some ⟨pl.b,0,none⟩))).run P w= .ok true w:=
   fu λd=>by simp[Op.equalIn,run_underlying hT,sizeOf,typeInfo,hj,run_sameAddr_same]
  have YK:(eqGuard op T x y (a.eval x) (a.eval y)).run P w= .ok () w:=by rw[Tz,TA];exact lF (by simp) rfl
  have fin:∀z,(binOp op T (a.eval x) (a.eval y)).run P w= .ok z w->VS (s.env w g β) v z->fM P o a w (iE C (s.put o.dst v)):=by
   intro z h1 h3
   refine h.value h3 ?_
   simp[execOp,ho,h1,YK]
  split at h2
  ·obtain rfl:=ao.1 h2
   refine fin (.bool true) ?_ (po true)
   rw[Tz,TA]
   simp[binOp,hq]
  ·obtain rfl:=ao.1 h2
   refine fin (.bool false) ?_ (po false)
   rw[Tz,TA]
   simp[binOp,hq]
  ·simp only[ai]at h2
 ·simp only[ai]at he
theorem PK{c:Call}{b:Builtin}{x:Operand}(hc:c.callee= .builtin b)(ha:c.args.toList=[x]):c= {callee:= .builtin b,args:= #[x],argTypes:=c.argTypes}:=by
 obtain⟨cal,args,tys⟩:=c
 simp only at hc ha
 have ha':args= #[x]:=by apply gq;simpa using ha
 subst hc ha'
 rfl
theorem Je{c:Call}{b:Builtin}{x y:Operand}(hc:c.callee= .builtin b)(ha:c.args.toList=[x,y]):c= {callee:= .builtin b,args:= #[x,y],argTypes:=c.argTypes}:=by
 obtain⟨cal,args,tys⟩:=c
 simp only at hc ha
 have ha':args= #[x,y]:=by apply gq;simpa using ha
 subst hc ha'
 rfl
theorem Xm{ts:Array TypeId}{T:TypeId}(h:ts.toList=[T]):ts= #[T]:=by apply gq;simpa using h
theorem Sa{ts:Array TypeId}{T U:TypeId}(h:ts.toList=[T,U]):ts= #[T,U]:=by apply gq;simpa using h
theorem Mk(h:Inv C g β s a w){c:Call}{x:Operand}{T e:TypeId}(ho:o.op= .call c)(hc:c.callee= .builtin .cap)(ha:c.args.toList=[x])(ht:c.argTypes.toList=[T])(hx:s.ev x= .di)(hT:P.underlying T=some (.slice e)):
  fM P o a w (iE C (s.put o.dst (.d (.int .i64) (0:Int)))):=by
 rw[PK hc ha,Xm ht]at ho
 have hv:=h.ev x
 rw[hx]at hv
 have hy:=kg hv
 refine jv ho (F:=λty xs=>Builtin.cap_ #[T] ty xs) (λty cs xs=>rfl) (x:= .int .i64 0) (w':=w) (λty=> ?_) ⟨g,β,h.put o.dst (kj _ _)⟩
 simp[Builtin.cap_,run_underlying hT,hy,goInt]
theorem G6(h:Inv C g β s a w){c:Call}{x:Operand}{id:Id}{ver len:Nat}(ho:o.op= .call c)(hc:c.callee= .builtin .unsafeSliceData)(ha:c.args.toList=[x])(hx:s.ev x= .aS id ver [] 0 0 len)(hl:0 < len):
  fM P o a w (iE C (s.put o.dst (.ptr id ver [.idx 0] 0))):=by
 rw[PK hc ha]at ho
 have hv:=h.ev x
 rw[hx]at hv
 obtain⟨ad,cap,hy,xq,hs,hb,fB⟩:=np hv
 obtain⟨ad,rfl⟩:=bY.1 (hs hl)
 refine jv ho (F:=λty xs=>Builtin.unsafeSliceData_ c.argTypes ty xs) (λty cs xs=>rfl) (x:= .pointer (some ad)) (w':=w) (λty=> ?_) ⟨g,β,h.put o.dst ?_⟩
 ·rw[show(#[x].map a.eval)= #[a.eval x] by simp,hy]
  exact Go.Lib.run_unsafeSliceData_row w _ _ _ _ _ (by omega)
 ·refine⟨[.pointer (some ad)],?_,rfl⟩
  simp only[V]
  refine⟨ad,rfl,hb,λhc=> ?_⟩
  have h1:=fB hc
  cases hp:(s.env w g β).β id with
  |none=>rw[hp]at h1;simp only at h1;cases h1.1
  |some pl=>
   rw[hp]at h1
   simp only at h1
   exact⟨pl,rfl,by simpa using h1.1 (.inl hl)⟩
theorem Gu(h:Inv C g β s a w){c:Call}{mx:Bool}(ho:o.op= .call c)(hc:c.callee= .builtin (if mx then .max else .min)){v:av}(he:(KX mx (c.args.toList.map s.ev)).eval=some v):fM P o a w (iE C (s.put o.dst v)):=by
 unfold KX at he
 split at he
 ·rename_i k x k' y zj
  obtain⟨h1,h2⟩:=ay.1 he
  obtain rfl:=ao.1 h2
  have h1:k=k':=by simpa using h1
  subst h1
  have ME:∃p q,c.args.toList=[p,q]/\s.ev p= .d (.int k) x/\s.ev q= .d (.int k) y:=by
   match hh:c.args.toList,zj with
   |[p,q],zj=>simp only[bX,ij,ed]at zj;exact⟨p,q,rfl,zj.1,zj.2.1⟩
   |[],zj=>simp at zj
   |[_],zj=>simp at zj
   |_::_::_::_,zj=>simp at zj
  obtain⟨p,q,ha,hp,hq⟩:=ME
  rw[Je hc ha]at ho
  have Rz:=h.ev p
  have P8:=h.ev q
  rw[hp]at Rz
  rw[hq]at P8
  have ep:=oZ Rz
  have eq:=oZ P8
  cases mx with
  |true=>
   refine jv ho (F:=λty xs=>Builtin.max_ c.argTypes ty xs) (λty cs xs=>rfl) (x:= .int k (if x < y then y else x)) (w':=w) (λty=> ?_) ⟨g,β,h.put o.dst (kj _ _)⟩
   rw[show(#[p,q].map a.eval)= #[a.eval p,a.eval q] by simp,ep,eq]
   simp[Builtin.max_,Builtin.max2]
  |false=>
   refine jv ho (F:=λty xs=>Builtin.min_ c.argTypes ty xs) (λty cs xs=>rfl) (x:= .int k (if y < x then y else x)) (w':=w) (λty=> ?_) ⟨g,β,h.put o.dst (kj _ _)⟩
   rw[show(#[p,q].map a.eval)= #[a.eval p,a.eval q] by simp,ep,eq]
   simp[Builtin.min_,Builtin.min2]
 ·rename_i k x k' y k2 z zj
  obtain⟨h1,h2⟩:=ay.1 he
  obtain rfl:=ao.1 h2
  simp only[aj,decide_eq_true_eq]at h1
  obtain⟨rfl,rfl⟩:=h1
  have ME:∃p q r,c.args.toList=[p,q,r]/\s.ev p= .d (.int k) x/\s.ev q= .d (.int k) y/\s.ev r= .d (.int k) z:=by
   match hh:c.args.toList,zj with
   |[p,q,r],zj=>simp only[bX,ij,ed]at zj;exact⟨p,q,r,rfl,zj.1,zj.2.1,zj.2.2.1⟩
   |[],zj=>simp at zj
   |[_],zj=>simp at zj
   |[_,_],zj=>simp at zj
   |_::_::_::_::_,zj=>simp at zj
  obtain⟨p,q,r,ha,hp,hq,hr⟩:=ME
  have PR:c= {callee:= .builtin (if mx then .max else .min),args:= #[p,q,r],argTypes:=c.argTypes}:=by
   obtain⟨cal,args,tys⟩:=c
   simp only at hc ha
   have ha':args= #[p,q,r]:=by apply gq;simpa using ha
   subst hc ha'
   rfl
  rw[PR]at ho
  have Rz:=h.ev p
  have P8:=h.ev q
  have Ic:=h.ev r
  rw[hp]at Rz
  rw[hq]at P8
  rw[hr]at Ic
  have ep:=oZ Rz
  have eq:=oZ P8
  have er:=oZ Ic
  cases mx with
  |true=>
   refine jv ho (F:=λty xs=>Builtin.max_ c.argTypes ty xs) (λty cs xs=>rfl) (x:= .int k (if(if x < y then y else x) < z then z else(if x < y then y else x))) (w':=w) (λty=> ?_) ⟨g,β,h.put o.dst (kj _ _)⟩
   rw[show(#[p,q,r].map a.eval)= #[a.eval p,a.eval q,a.eval r] by simp,ep,eq,er]
   simp[Builtin.max_,Builtin.max2]
  |false=>
   refine jv ho (F:=λty xs=>Builtin.min_ c.argTypes ty xs) (λty cs xs=>rfl) (x:= .int k (if z < (if y < x then y else x) then z else(if y < x then y else x))) (w':=w) (λty=> ?_) ⟨g,β,h.put o.dst (kj _ _)⟩
   rw[show(#[p,q,r].map a.eval)= #[a.eval p,a.eval q,a.eval r] by simp,ep,eq,er]
   simp[Builtin.min_,Builtin.min2]
 ·simp only[ai]at he
theorem Cw(z:Array Value)(n:Nat):Builtin.zeroCells z n=madeCells z (n*z.size):=rfl
theorem Ky(h:Inv C g β s a w){c:Call}{x y:Operand}{T X:TypeId}{k:IntKind}{n:Int}(ho:o.op= .call c)(hc:c.callee= .builtin .append)(ha:c.args.toList=[x,y])(ht:c.argTypes.toList=[T,X])(hx:s.ev x= .di)(hy:s.ev y= .d (.int k) n){s':AS}
  (he:(F4 P s o.dst T X n).eval=some s'):fM P o a w (iE C s'):=by
 rw[Je hc ha,Sa ht]at ho
 have AU:=h.ev x
 have P9:=h.ev y
 rw[hx]at AU
 rw[hy]at P9
 have ex:=kg AU
 have ey:=oZ P9
 unfold F4 at he
 split at he
 ·rename_i e t b q kn vL hd hX
  obtain⟨hT,hz,i,zv,hi,KF,Rh,Ht,KJ⟩:=sq vL
  obtain⟨hq,h2⟩:=ay.1 he
  obtain⟨h3,h4⟩:=bO.1 h2
  obtain rfl:=ao.1 h4
  simp only[aj,decide_eq_true_eq,dZ]at h3
  obtain⟨h5,h7,h8⟩:=h3
  obtain⟨m,rfl⟩:=Int.eq_ofNat_of_zero_le (Int.le_of_lt h5)
  simp only[aa]at h7 h8 ⊢
  have SY:zv.cells.size=t.size:=by have:=(KJ (s.env w g β)).size;simpa using this
  have hr:=λty=>Go.Lib.run_append_nil_zeros (P:=P) w T X ty e i zv k kn hT hX hi Ht m (by omega) (by rw[KF];exact hz) (by omega) (by rw[Rh];omega)
  obtain⟨cap,xq⟩:∃cap,grownCap w m 0 e=cap:=⟨_,rfl⟩
  have c1:m<=cap:=by rw[<-xq];exact grownCap_ge _ _ _ _
  have c2:cap<=maxLen:=by rw[<-xq];exact grownCap_le_maxLen _ _ _ _ (by unfold maxLen;omega)
  rw[xq]at hr
  obtain⟨cur,fB⟩:∃cur,Builtin.zeroCells zv.cells m++Builtin.zeroCells zv.cells (cap - m)=cur:=⟨_,rfl⟩
  rw[fB]at hr
  have s1:cur.size=cap*t.size:=by
   rw[<-fB,Array.size_append,rJ,rJ,SY,<-eM]
   congr 1
   omega
  have uH:=oG (KJ (s.env w.drew g β)) m
  have s2:cur.toList.take (m*t.size)=(madeCells zv.cells (m*t.size)).toList:=by
   rw[<-fB,bW,Cw,SY]
   have hl:(madeCells zv.cells (m*t.size)).toList.length=m*t.size:=by simp[size_madeCells]
   rw[jb (by omega),bk (by omega)]
  obtain⟨g2,β2,i2,zh⟩:=(h.drew).ER hq (e:=e) (l:=List.replicate m t.zero) (cur:=cur) (cap:=cap) hz (by rw[dg,s2];exact uH) s1 (by rw[dg];exact c1) c2
  rw[dg]at zh
  refine jv ho (F:=λty xs=>Builtin.append_ #[T,X] ty xs) (λty cs xs=>rfl) (λty=> ?_) ⟨g2,β2,i2.put o.dst zh⟩
  rw[show(#[x,y].map a.eval)= #[a.eval x,a.eval y] by simp,ex,ey]
  exact hr ty
 ·simp only[ai]at he
theorem DT:∀(xs:List Int) (a:Addr) (acc:ByteArray),(∀j x,xs[j]? =some x->w.cell? (a.add j)=some (.int .u8 x))->
  (loadBytes a acc xs.length).run P w= .ok ⟨acc.data++(xs.map λn=>UInt8.ofNat n.toNat).toArray⟩ w
 |[],a,acc,_=>by simp[loadBytes]
 |x::l,a,acc,h=>by
  have h0:w.cell? a=some (.int .u8 x):=by
   have:=h 0 x rfl
   simpa[Addr.add]using this
  have ih:=DT l (a.add 1) (acc.push x.toNat.toUInt8) (λj y hy=>by
   have:=h (j+1) y (by simpa using hy)
   have e:(a.add 1).add j=a.add (j+1):=by
    unfold Addr.add
    by_cases hj:j=0
    ·subst hj;simp
    ·simp[hj];omega
   rw[e];exact this)
  simp only[aB,loadBytes,Sem.run_bind,run_load,h0,Result.andThen]
  rw[ih]
  congr 1
  apply ByteArray.ext
  simp[ByteArray.push]
theorem Lv(h:Inv C g β s a w){c:Call}{x y:Operand}{T U:TypeId}{id:Id}{ver:Nat}{n:Int}(ho:o.op= .call c)(hc:c.callee= .builtin .unsafeString)(ha:c.args.toList=[x,y])(ht:c.argTypes.toList=[T,U])
  (hx:s.ev x= .ptr id ver [.idx 0] 0) (hy:s.ev y= .d (.int .i64) n) {s':AS} (he:(Hg P s o.dst T id ver n).eval=some s'):fM P o a w (iE C s'):=by
 rw[Je hc ha,Sa ht]at ho
 have AU:=h.ev x
 rw[hx]at AU
 obtain⟨ad,Tz,_,YC⟩:=pd AU
 have P9:=h.ev y
 rw[hy]at P9
 have TA:=oZ P9
 unfold Hg at he
 split at he
 ·rename_i v e l u kr hT
  obtain⟨h1,h2⟩:=ay.1 he
  obtain⟨h3,h4⟩:=bO.1 h2
  obtain rfl:=ao.1 h4
  simp only[aj,beq_iff_eq]at h1
  obtain⟨⟨rfl,rfl⟩,Ra⟩:=h1
  simp only[decide_eq_true_eq]at h3
  obtain⟨h5,h6⟩:=h3
  obtain⟨n,rfl⟩:=Int.eq_ofNat_of_zero_le (Int.le_of_lt h5)
  have h6:n<=(l:List Int).length:=by omega
  have cV:=eH kr
  obtain⟨pl,hp,rfl⟩:=YC ⟨false,_,cV⟩
  have hp:β id=some pl:=hp
  have hO:pE (s.env w g β) id false (.vec u (.int .u8) l):=h.bK id v false _ cV
  obtain⟨hz,hO⟩:=hO
  have hO:(match β id with
   |none=>l=[]
   |some pl=>∃cur k,w.heap[pl.b]? =some (.cells cur u (0,0))/\cur.size=pl.cap*(Ty.int .u8).size/\(l:List Int).length<=pl.cap/\pl.cap<=maxLen/\g pl.b= .own (.id id) k/\
     k<=(l:List Int).length*(Ty.int .u8).size/\(false=false->k=0)/\bj (dm (s.env w g β) (.int .u8)) (cur.toList.take ((l:List Int).length*(Ty.int .u8).size)) l):=hO
  rw[hp]at hO
  obtain⟨cur,k,q1,q2,q3,q4,q5,q6,q7,q8⟩:=hO
  have hk:=q7 rfl
  subst hk
  have Rq:(Ty.int .u8).size=1:=rfl
  rw[Rq,jA]at q2 q8
  have zi:=pH q8
  have MN:w.shape? pl.b=some (u,cur.size):=by simp only[World.shape?,q1]
  have sN:∀j z,((l:List Int).take n)[j]? =some z->w.cell? ((⟨pl.b,0,none⟩:Addr).add j)=some (.int .u8 z):=λj z hj=>by
   rw[dp]at hj
   split at hj
   ·rename_i XY
    have Rj:j < (l:List Int).length:=by omega
    rw[Addr.add_lit,aI]
    simp only[World.cell?,q1]
    have:(cur.toList.take (l:List Int).length)[j]? =some (.int .u8 z):=by rw[zi,fj,hj];rfl
    rw[dp,if_pos Rj]at this
    simpa using this
   ·cases hj
  have hlen:((l:List Int).take n).length=n:=by rw[bQ];omega
  have Rm:=DT (P:=P) (w:=w) ((l:List Int).take n) ⟨pl.b,0,none⟩ .empty sN
  rw[hlen]at Rm
  have T1:=Go.Lib.liesAt_bytes (P:=P) (e:=u) (by simpa using Ra) (cur.size / P.cellsOf u) n (by
   rw[show P.cellsOf u=1 by simpa using Ra,Nat.div_one];omega)
  have TR:∃w',w.freeze ⟨pl.b,0,none⟩ n=w'/\w'.os=w.os/\w'.tape=w.tape/\(w'.output=w.output/\w.drawn<=w'.drawn)/\w'.heap.size=w.heap.size/\∀b',b'≠pl.b->w'.heap[b']? =w.heap[b']? :=by
   refine⟨_,rfl,?_⟩
   unfold World.freeze
   rw[if_neg (by omega)]
   refine⟨rfl,rfl,⟨rfl,aw _⟩,by simp,λb' hb'=> ?_⟩
   simp only[gA]
   rw[if_neg (λe=>hb' e.symm)]
  obtain⟨w',hw',f1,f2,f3,f4,f5⟩:=TR
  have i1:=h.kill cV q5 f1 f2 f3 f4 f5
  have XK:¬(9223372036854775807:Int) < (n:Int):=by unfold maxLen at q4;omega
  have Ws:¬(n:Int) < 0:=by omega
  have Ro:n≠0:=by omega
  have Wo:IntKind.i64.max=9223372036854775807:=rfl
  refine jv ho (F:=λty xs=>Builtin.unsafeString_ #[T,U] ty xs) (λty cs xs=>rfl) (x:= .string (fy ((l:List Int).take n))) (w':=w') (λty=> ?_) ⟨_,β,i1.put o.dst ⟨[.string (fy ((l:List Int).take n))],by simp only[V,dm];rfl,rfl⟩⟩
  rw[show(#[x,y].map a.eval)= #[a.eval x,a.eval y] by simp,Tz,TA]
  have Rb:Builtin.unsafeString_ #[T,U] ty #[.pointer (some ⟨pl.b,0,none⟩),.int .i64 n]=
    (do
     let n <-Go.asInt (.int .i64 n)
     if n < 0 then runtimePanic (.error "unsafe.String: len out of range")
     if n > IntKind.i64.max then unsupported (.unsafePointer "String: a length above the largest int")
     if n=0 then pure (.string .empty)
     else if <-variablesAt ⟨pl.b,0,none⟩ (<-elemOf T) n.toNat then do
      let s <-loadBytes ⟨pl.b,0,none⟩ .empty n.toNat
      freeze ⟨pl.b,0,none⟩ n.toNat
      pure (.string s)
     else unsupported (.unsafePointer "String: not so many bytes at ptr")):=rfl
  rw[Rb]
  simp[Go.asInt,asIntOf,Wo,XK,Ws,Ro,variablesAt,MN,elemOf,run_underlying hT,T1,Rm,hw',fy]
 ·simp only[ai]at he
end
end Go.Ab
namespace Go.Ab
section
variable {P:Program} {C:Ctx} {g:Nat->kY} {β:Id->Option Pl} {s:AS} {a:Act} {w:World} {o:Oper}
theorem Gr(h:Inv C g β s a w){c:Call}{T T2:TypeId}{m k:Operand}(dr:o.op= .call c)(hc:c.callee= .builtin .delete)(ha:c.args.toList=[m,k])(ht:c.argTypes.toList=[T,T2]){s':AS}(he:(tw P s T (s.ev m) (s.ev k)).eval=some s'):fM P o a w (iE C (s'.put o.dst .nil)):=by
 have dr:o.op= .call {callee:= .builtin .delete,args:= #[m,k],argTypes:= #[T,T2]}:=by rw[dr,Je hc ha,Sa ht]
 unfold tw at he
 split at he
 ·rename_i K V' kt vt id ver hm hx
  obtain⟨l,h1,he⟩:=ak.1 he
  obtain⟨kx,h2,he⟩:=ak.1 he
  obtain⟨Rw,he⟩:=ay.1 he
  obtain rfl:=ao.1 he
  obtain⟨hT,hK,_⟩:=rX hm
  have AU:=h.ev m
  rw[hx]at AU
  obtain⟨fr,pl,es,clock,g1,g2,g3,g4,g5,g6,g7,gn⟩:=qM h h1 AU
  obtain⟨l0,g6,gp⟩:=g6
  have vW:=ra depth K kt hK
  have hk:=tF (h.ev k) h2
  have PS:=mc (P:=P) (w:=w) es.isEmpty depth K kt hK 10000 (by decide) _ _ hk
  obtain⟨r,hf,hr⟩:=wE (P:=P) (w:=w) hK hk g6
  have fin:∀(es':Array MapEntry) (clock':Nat),(∀ty,(Builtin.delete_ #[T,T2] ty (#[m,k].map a.eval)).run P w= .ok (.tuple #[]) {w with heap:=w.heap.setIfInBounds pl.b (.map es' clock')})->Alike (s9 (s.env w g β) kt vt) es'.toList (kf kt kx l0)->l6 es'.toList clock'->
    fM P o a w (iE C ((s.aO id (.obj ver false (.mp kt vt (kf kt kx l)))).put o.dst .nil)):=λes' clock' mF ME TD=>
   jv (F:=λty xs=>Builtin.delete_ #[T,T2] ty xs) dr (λ_ _ _=>rfl) mF ⟨g,β,(h.NC g1 g2 g4 g5 ⟨_,ME,Bj vW gn gp⟩ (uR vW gn) TD Rw).put o.dst rfl⟩
  cases r with
  |none=>
   simp only at hr
   refine fin es clock (λty=> ?_) (by simp only[kf,hr];exact g6) g7
   simp[Builtin.delete_,run_underlying hT,g3,Go.MapKept.run_getObj_map g4,PS,hf,Go.MapKept.run_setObj_map _ g4]
  |some u=>
   obtain⟨j,u⟩:=u
   obtain⟨e,m1,m2,rfl⟩:=hr
   refine fin (es.eraseIdxIfInBounds j) clock (λty=> ?_) ?_ (by rw[Array.toList_eraseIdxIfInBounds];exact g7.erase j)
   ·simp[Builtin.delete_,run_underlying hT,g3,Go.MapKept.run_getObj_map g4,PS,hf,Go.MapKept.run_setObj_map _ g4]
   ·simp only[kf,m1,Array.toList_eraseIdxIfInBounds]
    exact g6.erase j
 ·simp only[ai]at he
theorem Fx{Γ:mR}(hΓ:Sound P Γ){bK:List Nat}(h:Inv C g β s a w){s':AS}(he:(mN P Γ bK o s).eval=some s'):fM P o a w (iE C s'):=by
 unfold mN at he
 split at he
 ·rename_i x dr
  obtain rfl:=ao.1 he
  exact DB h (.inl dr)
 ·rename_i x dr
  obtain rfl:=ao.1 he
  exact DB h (.inr dr)
 ·rename_i c x y dr
  obtain⟨v,h1,h2⟩:=ak.1 he
  obtain rfl:=ao.1 h2
  exact Le h dr h1
 ·rename_i T dr
  split at he
  ·rename_i z q hz hq
   obtain⟨h1,h2⟩:=ay.1 he
   obtain rfl:=ao.1 h2
   simp only[aj]at h1
   exact HE h dr h1.1 h1.2
  ·exact(ai.1 he).elim
 ·rename_i T x dr
  exact Md h dr he
 ·rename_i T parts dr
  exact HL h dr he
 ·rename_i T n parts dr
  exact zL h dr he
 ·rename_i T x dr
  obtain⟨v,h1,h2⟩:=ak.1 he
  obtain rfl:=ao.1 h2
  exact KT h dr h1
 ·rename_i T x v dr
  obtain⟨v,h1,h2⟩:=ak.1 he
  obtain rfl:=ao.1 h2
  exact IY h dr h1
 ·rename_i x dr
  exact CS h dr he
 ·rename_i op T x y U dr
  split at he
  ·rename_i i v1 j v2 hx hy
   obtain⟨v,h1,h2⟩:=ak.1 he
   obtain rfl:=ao.1 h2
   exact My h dr hx hy h1
  ·obtain⟨v,h1,h2⟩:=ak.1 he
   obtain rfl:=ao.1 h2
   exact HH h dr h1
 ·rename_i op T x dr
  obtain⟨v,h1,h2⟩:=ak.1 he
  obtain rfl:=ao.1 h2
  exact Lz h dr h1
 ·rename_i T U x dr
  split at he
  ·rename_i id ver len hTU hx
   exact HR h dr hx he
  ·rename_i id ver hx
   obtain⟨v,h1,h2⟩:=ak.1 he
   obtain rfl:=ao.1 h2
   exact HS h dr hx h1
  ·obtain⟨v,h1,h2⟩:=ak.1 he
   obtain rfl:=ao.1 h2
   exact Ej h dr h1
 ·rename_i T x dr
  exact I0 h dr he
 ·rename_i f first caps dr
  obtain⟨h1,h2⟩:=ay.1 he
  obtain rfl:=ao.1 h2
  simp only[aj]at h1
  exact CN h dr h1.1 h1.2
 ·rename_i T l c dr
  obtain⟨n,h1,h2⟩:=ak.1 he
  obtain⟨m,h3,h4⟩:=ak.1 h2
  exact Bh h dr h1 h3 h4
 ·rename_i T x lo hi dr
  obtain⟨v,h1,h2⟩:=ak.1 he
  obtain rfl:=ao.1 h2
  exact B8 h dr (.inl rfl) h1
 ·rename_i T x lo y m dr
  obtain⟨v',h0,h8⟩:=ak.1 he
  obtain rfl:=ao.1 h8
  obtain⟨hv,h1,h2⟩:=ak.1 h0
  obtain⟨mv,h3,h4⟩:=ak.1 h2
  obtain⟨h5,h6⟩:=bO.1 h4
  obtain⟨v,h7,h9⟩:=ak.1 h6
  obtain rfl:=ao.1 h9
  simp only[decide_eq_true_eq]at h5
  exact B8 h dr (.inr ⟨m,y,hv,mv,rfl,rfl,h1,h3,h5.1,h5.2.1,h5.2.2⟩) h7
 ·rename_i T x f dr
  obtain⟨v,h1,h2⟩:=ak.1 he
  obtain rfl:=ao.1 h2
  exact AF h dr h1
 ·rename_i T x f dr
  obtain⟨v,h1,h2⟩:=ak.1 he
  obtain rfl:=ao.1 h2
  exact HZ h dr h1
 ·rename_i T x i dr
  obtain⟨n,h0,he⟩:=ak.1 he
  obtain⟨v,h1,h2⟩:=ak.1 he
  obtain rfl:=ao.1 h2
  exact A0 h dr h0 h1
 ·rename_i T x i dr
  obtain⟨n,h0,he⟩:=ak.1 he
  obtain⟨v,h1,h2⟩:=ak.1 he
  obtain rfl:=ao.1 h2
  exact Ie h dr h0 h1
 ·rename_i x i dr
  obtain⟨v,h1,h2⟩:=ak.1 he
  obtain rfl:=ao.1 h2
  exact Eo h dr h1
 ·rename_i T dr
  exact EM h dr he
 ·rename_i T x i ok dr
  obtain⟨v,h1,h2⟩:=ak.1 he
  obtain rfl:=ao.1 h2
  exact Gp h dr h1
 ·rename_i T m k x dr
  obtain⟨s1,h1,h2⟩:=ak.1 he
  obtain rfl:=ao.1 h2
  exact Gt h dr h1
 ·rename_i c dr
  split at he
  ·rename_i hc
   split at he
   ·rename_i m k T T2 ha ht
    obtain⟨s1,h1,h2⟩:=ak.1 he
    obtain rfl:=ao.1 h2
    exact Gr h dr hc ha ht h1
   ·exact(ai.1 he).elim
  ·rename_i hc
   split at he
   ·rename_i x y T X ha ht
    exact Kr h dr hc ha ht he
   ·exact(ai.1 he).elim
  ·rename_i hc
   split at he
   ·rename_i x T ha ht
    obtain⟨v,h1,h2⟩:=ak.1 he
    obtain rfl:=ao.1 h2
    exact M5 h dr hc ha ht h1
   ·exact(ai.1 he).elim
  ·rename_i hc
   split at he
   ·rename_i x y T X ha ht
    split at he
    ·rename_i k n hx hy
     exact Ky h dr hc ha ht hx hy he
    ·exact Fy h dr hc ha ht he
   ·exact(ai.1 he).elim
  ·rename_i hc
   split at he
   ·rename_i x T ha ht
    split at he
    ·rename_i e hx hT
     obtain rfl:=ao.1 he
     exact Mk h dr hc ha ht hx hT
    ·exact(ai.1 he).elim
   ·exact(ai.1 he).elim
  ·rename_i hc
   obtain⟨v,h1,h2⟩:=ak.1 he
   obtain rfl:=ao.1 h2
   exact Gu (mx:=true) h dr hc h1
  ·rename_i hc
   obtain⟨v,h1,h2⟩:=ak.1 he
   obtain rfl:=ao.1 h2
   exact Gu (mx:=false) h dr hc h1
  ·rename_i hc
   split at he
   ·rename_i x ha
    split at he
    ·rename_i id ver len hx
     obtain⟨h1,h2⟩:=bO.1 he
     obtain rfl:=ao.1 h2
     exact G6 h dr hc ha hx (by simpa using h1)
    ·exact(ai.1 he).elim
   ·exact(ai.1 he).elim
  ·rename_i hc
   split at he
   ·rename_i x y T U ha ht
    split at he
    ·rename_i id ver n hx hy
     exact Lv h dr hc ha ht hx hy he
    ·exact(ai.1 he).elim
   ·exact(ai.1 he).elim
  ·rename_i F hc
   split at he
   ·rename_i f caps hF
    split at he
    ·rename_i en LJ
     obtain⟨iv,he⟩:=ay.1 he
     exact Kl h dr hc hF ((hΓ f _ en LJ).1 iv) he
    ·exact(ai.1 he).elim
   ·exact(ai.1 he).elim
  ·exact(ai.1 he).elim
 ·exact(ai.1 he).elim
end
end Go.Ab
namespace Go.Ab
def mV(P:Program)(ops:Array Oper)(o:Oper)(a:Act)(w:World)(K:Act->World->Prop):Prop:=
 if Region.wanted o (yielded ops a.tmps) then fM P o a w K else K (a.put o.dst undef) w
theorem mV.mono{P:Program}{ops:Array Oper}{o:Oper}{a:Act}{w:World}{K K':Act->World->Prop}(h:mV P ops o a w K)(hk:∀a w,K a w->K' a w):mV P ops o a w K':=by
 unfold mV at*
 split
 ·rename_i hw;rw[if_pos hw]at h;exact h.mono hk
 ·rename_i hw;rw[if_neg hw]at h;exact hk _ _ h
theorem fM.some{P:Program}{o:Oper}{a:Act}{w:World}{K:Act->World->Prop}(h:fM P o a w K):∃a' w',K a' w':=by
 rcases h with⟨x,w',_,h⟩ | ⟨w',_,h⟩ | ⟨f,args,w',_,h⟩ | ⟨l,f,tmps,as,b,w',_,h⟩
 ·exact⟨_,_,h⟩
 ·exact⟨_,_,h⟩
 ·obtain⟨e,w'',_,⟨x,_,hx⟩,_⟩:=h []
  exact⟨_,_,hx⟩
 ·obtain⟨e,w'',⟨x,_,hx⟩,_⟩:=(h none 0).2 default [] (room_wide _)
  exact⟨_,_,hx⟩
theorem mV.some{P:Program}{ops:Array Oper}{o:Oper}{a:Act}{w:World}{K:Act->World->Prop}(h:mV P ops o a w K):∃a' w',K a' w':=by
 unfold mV at h
 split at h
 ·exact h.some
 ·exact⟨_,_,h⟩
theorem mV.wpListIn{r:Option Nat}{n:Nat}{P:Program}{ops:Array Oper}{o:Oper}{a:Act}{w:World}{Q:Exit->Act->World->Prop}{l:List Oper}(h:mV P ops o a w (wpListIn (Fr r) n P ops Q l)):Go.wpListIn (Fr r) n P ops Q (o::l) a w:=by
 unfold mV at h
 unfold Go.wpListIn
 split
 ·rename_i hw;rw[if_pos hw]at h;exact h.wpIn
 ·rename_i hw;rw[if_neg hw]at h;exact⟨λ_ _=>trivial,h⟩
theorem mV.wpOpIn{r:Option Nat}{n:Nat}{P:Program}{ops:Array Oper}{o:Oper}{i:Nat}{a:Act}{w:World}{Q:Exit->Act->World->Prop}{K:Act->World->Prop}(ho:ops[i]? =Option.some o)(h:mV P ops o a w K):Go.wpOpIn (Fr r) n P ops Q i K a w:=by
 unfold mV at h
 unfold Go.wpOpIn
 simp only[ho]
 split
 ·rename_i hw;rw[if_pos hw]at h;exact h.wpIn
 ·rename_i hw;rw[if_neg hw]at h;exact⟨λ_ _=>trivial,h⟩
theorem Nu{s:AS}{q:Nat}{v:av}(h:s.slot q=v)(hq:q < s.cr.length):s.put (some q) v=s:=by
 have hv:s.cr[q]=v:=by simpa[AS.slot,aA,hq]using h
 simp only[AS.put]
 rw[<-hv,gB]
theorem JX{s:AS}{q:Nat}{t:Ty}{x:t.den}(h:s.slot q= .d t x):q < s.cr.length:=by
 rcases mC q s.cr.length with h' | h'
 ·exact h'
 ·simp[AS.slot,aA,dM h']at h
def vK(P:Program)(Γ:mR)(bK:List Nat)(ops:Array Oper)(o:Oper)(s:AS):Option AS:=
 match o.guard with
 |none=>(mN P Γ bK o s).eval
 |some (j,want)=>match(ops[j]?).bind (·.dst) with
  |some q=>match s.slot q with
   | .d .bool b=>if b=want then(mN P Γ bK o s).eval else some (s.put o.dst .nil)
   | .nil=>some (s.put o.dst .nil)
   |_=>none
  |none=>none
theorem F3{R:Type}{P:Program}{Γ:mR}{bK:List Nat}{ops:Array Oper}{o:Oper}{s:AS}{k:AS->Option R}{r:R}(h:OK P Γ bK ops o s k=some r):∃s',vK P Γ bK ops o s=some s'/\k s'=some r:=by
 unfold OK at h
 unfold vK
 split at h
 ·rename_i hg
  simp only[hg]
  exact js.1 h
 ·rename_i j want hg
  simp only[hg]
  split at h
  ·rename_i q hq
   simp only[hq]
   split at h
   ·rename_i b hb
    have e:=Nu hb (JX hb)
    simp only[hb]
    cases want <;> cases b <;> simp only[aP]at h <;> rw[e]at h
    ·obtain⟨s',h1,h2⟩:=js.1 h
     exact⟨s',by simpa using h1,h2⟩
    ·exact⟨_,by simp,h⟩
    ·exact⟨_,by simp,h⟩
    ·obtain⟨s',h1,h2⟩:=js.1 h
     exact⟨s',by simpa using h1,h2⟩
   ·rename_i hb
    simp only[hb]
    exact⟨_,rfl,h⟩
   ·cases h
  ·cases h
section
variable {P:Program} {C:Ctx} {g:Nat->kY} {β:Id->Option Pl} {s:AS} {a:Act} {w:World} {o:Oper}
theorem I7(h:Inv C g β s a w){ops:Array Oper}{j q:Nat}{b:Bool}(hq:(ops[j]?).bind (·.dst)=some q)(hb:s.slot q= .d .bool b):yielded ops a.tmps j=some b:=by
 have hv:=h.cr q
 rw[hb]at hv
 have hv:=zZ hv
 have hl:=JX hb
 rw[<-h.size]at hl
 unfold yielded
 rw[hq,Option.bind_some]
 have:a.tmps[q]? =some (.bool b):=by
  rw[fp hl]
  simpa[Array.getD,hl]using hv
 rw[this]
theorem Ho(h:Inv C g β s a w){ops:Array Oper}{j q:Nat}(hq:(ops[j]?).bind (·.dst)=some q)(hb:s.slot q= .nil):yielded ops a.tmps j=none:=by
 have hv:=h.cr q
 rw[hb]at hv
 have hv:a.tmps.getD q undef= .tuple #[]:=hv
 unfold yielded
 rw[hq,Option.bind_some]
 split
 ·rename_i b hb
  rw[cJ,hb]at hv
  cases hv
 ·rfl
theorem Ds{Γ:mR}(hΓ:Sound P Γ){bK:List Nat}{ops:Array Oper}(h:iE C s a w){s':AS}(he:vK P Γ bK ops o s=some s'):mV P ops o a w (iE C s'):=by
 obtain⟨g,β,h⟩:=h
 unfold vK at he
 unfold mV
 split at he
 ·rename_i hg
  have:Region.wanted o (yielded ops a.tmps)=true:=by simp[Region.wanted,hg]
  rw[if_pos this]
  exact Fx hΓ h he
 ·rename_i j want hg
  split at he
  ·rename_i q hq
   split at he
   ·rename_i b hb
    have hy:=I7 h hq hb
    have hw:Region.wanted o (yielded ops a.tmps)=(b==want):=by simp[Region.wanted,hg,hy]
    rw[hw]
    by_cases e:b=want
    ·rw[if_pos e]at he
     rw[if_pos (by simp[e])]
     exact Fx hΓ h he
    ·rw[if_neg e]at he
     rw[if_neg (by simp[e])]
     simp only[aq]at he
     subst he
     exact⟨g,β,h.put o.dst rfl⟩
   ·rename_i hb
    have hy:=Ho h hq hb
    have hw:Region.wanted o (yielded ops a.tmps)=false:=by simp[Region.wanted,hg,hy]
    rw[hw,if_neg (by simp)]
    simp only[aq]at he
    subst he
    exact⟨g,β,h.put o.dst rfl⟩
   ·cases he
  ·cases he
theorem Lm{R:Type}{c c':oX}{x:Option R}{r:R}(h:same c c' x=some r):c=c'/\x=some r:=by
 unfold same at h
 split at h
 ·exact⟨‹_›,h⟩
 ·cases h
theorem JK{R:Type}{x y:Option R}{r:R}(h:nd x y=some r):x=some r/\y=some r:=by
 unfold nd at h
 split at h
 ·rename_i e;exact⟨h,e▸h⟩
 ·cases h
theorem Iw(h:Inv C g β s a w){x y:Operand}{n:Nat}(hn:BH s x y=some n){T:TypeId}(hT:rP.isSl P T=true):∃b,(0 < n->b=false)/\(Op.equal T (a.eval x) (a.eval y)).run P w= .ok b w/\
  nG (a.eval x)=false/\a.eval x≠ .nilIface/\∀op,binOp op T (a.eval x) (a.eval y)=(match op with | .eql=>do pure (.bool (<-Op.equal T (a.eval x) (a.eval y))) | .neq=>do pure (.bool (!(<-Op.equal T (a.eval x) (a.eval y)))) | _=>binOp op T (a.eval x) (a.eval y)):=by
 have hx:=h.ev x
 have hy:=h.ev y
 unfold rP.isSl at hT
 split at hT <;> try (cases hT;done)
 rename_i e hU
 unfold BH at hn
 split at hn
 ·rename_i t l h1 h2
  rw[h1]at hx;rw[h2]at hy
  obtain⟨ad,cap,vs,hv,_,hs,_⟩:=oJ hx
  have zh:=kg hy
  rw[hv,zh]
  refine⟨ad.isNone,λhp=> ?_,?_,rfl,by simp,λop=>by cases op <;> rfl⟩
  ·obtain rfl:=ba hn
   obtain⟨ad',rfl⟩:=bY.1 (hs hp)
   rfl
  ·cases ad with
   |none=>exact fu λd=>by simp[Op.equalIn,run_underlying hU]
   |some ad=>exact fu λd=>by simp[Op.equalIn,run_underlying hU]
 ·rename_i t l h1 h2
  rw[h1]at hx;rw[h2]at hy
  obtain⟨ad,cap,vs,hv,_,hs,_⟩:=oJ hy
  have zh:=kg hx
  rw[hv,zh]
  refine⟨ad.isNone,λhp=> ?_,?_,rfl,by simp,λop=>by cases op <;> rfl⟩
  ·obtain rfl:=ba hn
   obtain⟨ad',rfl⟩:=bY.1 (hs hp)
   rfl
  ·exact fu λd=>by simp[Op.equalIn,run_underlying hU]
 ·rename_i id ver pp c i len h1 h2
  rw[h1]at hx;rw[h2]at hy
  obtain⟨ad,cap,hv,_,hs,_⟩:=np hx
  have zh:=kg hy
  rw[hv,zh]
  refine⟨ad.isNone,λhp=> ?_,?_,rfl,by simp,λop=>by cases op <;> rfl⟩
  ·obtain rfl:=ba hn
   obtain⟨ad',rfl⟩:=bY.1 (hs hp)
   rfl
  ·cases ad with
   |none=>exact fu λd=>by simp[Op.equalIn,run_underlying hU]
   |some ad=>exact fu λd=>by simp[Op.equalIn,run_underlying hU]
 ·rename_i id ver pp c i len h1 h2
  rw[h1]at hx;rw[h2]at hy
  obtain⟨ad,cap,hv,_,hs,_⟩:=np hy
  have zh:=kg hx
  rw[hv,zh]
  refine⟨ad.isNone,λhp=> ?_,?_,rfl,by simp,λop=>by cases op <;> rfl⟩
  ·obtain rfl:=ba hn
   obtain⟨ad',rfl⟩:=bY.1 (hs hp)
   rfl
  ·exact fu λd=>by simp[Op.equalIn,run_underlying hU]
 ·cases hn
theorem xH(h:Inv C g β s a w){x y:Operand}{n:Nat}{T U:TypeId}(hn:BH s x y=some n)(hT:rP.isSl P T=true):
  (o.op= .binOp .eql T x y U->∃b,(0 < n->b=false)/\fM P o a w (iE C (s.put o.dst (.d .bool b))))/\(o.op= .binOp .neq T x y U->∃b,(0 < n->b=true)/\fM P o a w (iE C (s.put o.dst (.d .bool b)))):=by
 obtain⟨b,h1,h2,h3,h4,h5⟩:=Iw (w:=w) h hn hT
 have hg:∀op,(eqGuard op T x y (a.eval x) (a.eval y)).run P w= .ok () w:=λop=>lF h4 h3
 refine⟨λho=>⟨b,h1,h.value (po b) ?_⟩,λho=>⟨!b,λhp=>by rw[h1 hp];rfl,h.value (po (!b)) ?_⟩⟩
 ·have h6:(binOp .eql T (a.eval x) (a.eval y)).run P w= .ok (.bool b) w:=by rw[h5 .eql];simp[h2]
  simp[execOp,ho,hg,h6]
 ·have h6:(binOp .neq T (a.eval x) (a.eval y)).run P w= .ok (.bool (!b)) w:=by rw[h5 .neq];simp[h2]
  simp[execOp,ho,hg,h6]
theorem xX{R:Type}{c:Bool}{x y:Option R}{r:R}(h:aP c x y=some r):(c=true/\x=some r)\/(c=false/\y=some r):=by
 cases c
 ·exact .inr ⟨rfl,h⟩
 ·exact .inl ⟨rfl,h⟩
theorem Mr{R:Type}{n:Nat}{k:Nat->Option R}{r:R}(h:OC n k=some r):0 < n/\∀j,j < n->k j=some r:=by
 unfold OC at h
 split at h
 ·rename_i hx
  obtain rfl:=ba h
  exact hx.choose_spec
 ·cases h
theorem QP{R:Type}{n:Nat}{k:Nat->Option R}{x:Option R}(hn:0 < n)(h:∀j,j < n->k j=x):OC n k=x:=by
 unfold OC
 cases x with
 |none=>exact dif_neg λ⟨r,_,hr⟩=>by have:=h 0 hn;rw[hr 0 hn]at this;cases this
 |some r=>
  have hx:∃r,0 < n/\∀j,j < n->k j=some r:=⟨r,hn,h⟩
  rw[dif_pos hx]
  have:=hx.choose_spec.2 0 hn
  rw[h 0 hn]at this
  exact this.symm
theorem C4{s:AS}{id:Id}{e:dS}{q:Nat}(hq:s.ek q=true)(fL:s.bZ id≠none):(s.aO id e).ek q=true:=by
 cases id with
 |aV k=>exact hq
 |new i j=>
  by_cases hi:i=q
  ·subst hi;exact absurd ((jQ hq).1 j) fL
  ·unfold AS.ek AS.aO
   simp only[eW hi]
   exact hq
theorem Alike.len{α β:Type}{R:α->β->Prop}:∀ {xs:List α} {ys:List β},Alike R xs ys->xs.length=ys.length
 |[],[],_=>rfl
 |_::_,_::_,⟨_,h⟩=>by simp[h.len]
 |[],_::_,h=>h.elim
 |_::_,[],h=>h.elim
theorem IF{α:Type}:∀ {xs ys:List α} {i j:Nat} {x:α},xs.Perm ys->xs[i]? =some x->ys[j]? =some x->(xs.eraseIdx i).Perm (ys.eraseIdx j):=by
 have key:∀ {xs:List α} {i:Nat} {x:α},xs[i]? =some x->xs.Perm (x::xs.eraseIdx i):=by
  intro xs
  induction xs with
  |nil=>intro i x h;simp at h
  |cons y xs ih=>
   intro i x h
   cases i with
   |zero=>simp at h;subst h;exact l9 _
   |succ i=>
    have h:xs[i]? =some x:=by simpa using h
    exact((ih h).cons y).trans (List.Perm.swap x y _)
 intro xs ys i j x hp hi hj
 exact((key hi).symm.trans (hp.trans (key hj))).cons_inv
theorem II(h:Inv C g β s a w){T:TypeId}{m:Operand}(dr:o.op= .range T m){s':AS}(he:(IH P s o.dst T (s.ev m)).eval=some s'):fM P o a w (iE C s'):=by
 unfold IH at he
 split at he
 ·rename_i K V' kt vt id ver q hm hx hd
  obtain⟨l,h1,he⟩:=ak.1 he
  obtain⟨hq,he⟩:=ay.1 he
  obtain rfl:=ao.1 he
  rw[aj]at hq
  obtain⟨hT,_,_⟩:=rX hm
  have AU:=h.ev m
  rw[hx]at AU
  obtain⟨fr,pl,es,clock,g1,g2,g3,g4,g5,g6,g7,gn⟩:=qM h h1 AU
  obtain rfl:=vc g1 hq.1
  have fL:s.bZ id≠none:=by rw[g1];simp
  have WK:=Trans.refl w g
  have Ia:cP (s.env w g β) ((s.aO id (.obj ver true (.mp kt vt l))).env w g β):=cP.aO g1 (aw _) WK (λ_ _=>rfl) (λ_=>rfl)
  have i0:Inv C g β (s.aO id (.obj ver true (.mp kt vt l))) a w:=
   h.step (du _ _ _) WK Ia (jc.aO h.bK fL Ia (λ_ _=>rfl) (λ_ _ _ _ _ _ _ _=>⟨rfl,rfl⟩) ⟨pl,es,clock,g2,g4,g5,⟨g6.mono Ia.mem,gn⟩,g7⟩ (xB g1))
  have cV:=eS s id (.obj ver true (.mp kt vt l)) fL
  have hq':=C4 (e:= .obj ver true (.mp kt vt l)) hq.2 fL
  generalize ZU:s.aO id (.obj ver true (.mp kt vt l))=s0 at i0 cV hq' Ia
  have vM:∀j,id≠ .new q j:=λj e=>by rw[e,(jQ hq').1 j]at cV;cases cV
  have iv:pl.b < w.heap.size:=(bJ.1 g4).1
  have ht:=Trans.alloc w g (.mapIter (some pl.b) clock #[] clock) (.own (.id (.new q 0)) 0)
  obtain⟨h3,h4⟩:=i0.yw hq' (c:= .nH id (ver+1) kt vt l none) (p:=some ⟨w.heap.size,0⟩) ht (λb hb=>⟨mW w _ hb,fA _ _ _ (by omega)⟩) (λhE=>
   ⟨⟨w.heap.size,0⟩,pl.b,clock,#[],clock,jI _ _ _,oh w _,fJ _ _ _,λvr Ic=>by
    obtain rfl:ver=vr:=by omega
    have hb:(s0.env w g β).tT id ver:=⟨by show s0.bZ id≠none;rw[cV];simp,λv2 fr2 c2 h2=>by
     have h2:s0.bZ id=some (.obj v2 fr2 c2):=h2
     rw[cV]at h2
     simp only[aq,dS.obj.injEq]at h2
     omega⟩
    refine⟨hE.tT _ _ hb,λ_=>⟨⟨kt,vt,l,?_⟩,pl,es,clock,?_,rfl,?_,?_,λx hx=>g7.2 x hx,⟨aw _,aw _⟩,g7.1,?_,λx hx=>by cases hx⟩⟩
    ·show(s0.born q _).bZ id=_
     rw[je _ vM];exact cV
    ·show vd β (.new q 0) _ id=_
     rw[rH _ _ _ (vM 0)];exact g2
    ·exact(mW w _ iv).trans g4
    ·show lp g w.heap.size _ pl.b=_
     rw[fA _ _ _ (by omega)];exact g5
    ·have:es.toList.filter (λe=> !(#[]:Array Nat).contains e.born)=es.toList:=jq.2 λx _=>by simp
     rw[this]
     exact(g6.mono Ia.mem).mono hE.mem⟩)
  refine .inl ⟨.pointer (some ⟨w.heap.size,0,none⟩),w.alloc (.mapIter (some pl.b) clock #[] clock),?_,_,_,h3.put o.dst (v:= .ptr (.new q 0) 0 [] 0) ⟨[.pointer (some ⟨w.heap.size,0,none⟩)],?_,rfl⟩⟩
  ·refine eg (f:=Instr.range T (a.eval m)) (by simp only[execOp,dr]) ?_
   rw[g3]
   exact run_range_map w T K V' pl.b es clock hT g4
  ·simp only[V]
   exact⟨_,rfl,mE hq' _ _ _ _,λ_=>⟨_,jI _ _ _,rfl⟩⟩
 ·simp only[ai]at he
theorem A8(h:Inv C g β s a w){x:Operand}{t:J4}(ht:s.MV (s.ev x)=some t):
  s.bZ t.i=some (.obj t.v t.fr (.nH t.q (t.vr+1) t.kt t.vt t.rest t.cur))/\(∃k v l,s.bZ t.q=some (.obj t.vr true (.mp k v l)))/\
  ∃pl plq since seen c0 es clock,a.eval x= .pointer (some ⟨pl.b,0,none⟩)/\β t.i=some pl/\w.heap[pl.b]? =some (.mapIter (some plq.b) since seen c0)/\g pl.b= .own (.id t.i) 0/\
   β t.q=some plq/\w.heap[plq.b]? =some (.map es clock)/\g plq.b= .own (.id t.q) 0/\(∀x∈es.toList,x.born < since)/\(since<=c0/\since<=clock)/\(es.toList.map (·.born)).Nodup/\
   D8 (s.env w g β) t.kt t.vt (es.toList.filter λe=> !seen.contains e.born) t.rest/\
   ∀x,t.cur=some x->∃(e:MapEntry) (seen':Array Nat),e∈es.toList/\seen=seen'.push e.born/\c0=clock/\s9 (s.env w g β) t.kt t.vt e x:=by
 have AU:=h.ev x
 generalize s.ev x=y at ht AU
 unfold AS.MV at ht
 split at ht
 ·rename_i i ver
  split at ht
  ·rename_i v fr q vr kt vt rest cur kr
   split at ht
   ·rename_i hv hl
    obtain rfl:=ba ht
    have hv:v=ver:=by simpa using hv
    subst hv
    have cV:=eH kr
    unfold AS.Gn at hl
    split at hl
    ·rename_i v2 k2 t2 l2 Ww
     have hl:v2=vr:=by simpa using hl
     subst hl
     have hq:=eH Ww
     refine⟨cV,⟨_,_,_,hq⟩,?_⟩
     obtain⟨pl,mb,since,seen,c0,h1,h2,h3,h4⟩:=h.bK i v fr _ cV
     obtain⟨h5,h6⟩:=h4 v2 rfl
     obtain⟨_,plq,es,clock,k1,k2,k3,k4,k5,k6,k7,k8,k9⟩:=h6 ⟨_,_,hq⟩
     subst k2
     obtain⟨ad,m1,m2,m3⟩:=pd AU
     obtain⟨pl',m4,rfl⟩:=m3 ⟨_,_,cV⟩
     have h1:β i=some pl:=h1
     have m4:β i=some pl':=m4
     rw[h1]at m4
     obtain rfl:pl=pl':=by simpa using m4
     exact⟨pl,plq,since,seen,c0,es,clock,m1,h1,h2,h3,k1,k3,k4,k5,k6,k7,k8,k9⟩
    ·cases hl
   ·cases ht
  ·cases ht
 ·cases ht
theorem s9.ZA{E:Env}{kt vt:Ty}{e:MapEntry}{x:kt.den×vt.den}(h:s9 E kt vt e x):VS E (.cons (.d kt x.1) (.cons (.d vt x.2) .nil)) (.tuple #[e.key,e.val]):=by
 obtain⟨⟨c1,a1,b1⟩,c2,a2,b2⟩:=h
 refine⟨[e.key,e.val],rfl,?_⟩
 simp only[VC]
 exact⟨_,_,c1,rfl,by simpa only[V]using a1,b1,_,_,c2,rfl,by simpa only[V]using a2,b2,rfl⟩
theorem s9.ZB{E:Env}{kt vt:Ty}{e:MapEntry}{x:kt.den×vt.den}(h:s9 E kt vt e x):VS E (.cons (.d .bool true) (.cons (.d kt x.1) (.cons (.d vt x.2) .nil))) (.tuple #[.bool true,e.key,e.val]):=by
 obtain⟨⟨c1,a1,b1⟩,c2,a2,b2⟩:=h
 refine⟨[.bool true,e.key,e.val],rfl,?_⟩
 simp only[VC]
 exact⟨_,_,[.bool true],rfl,by simp only[V,dm],rfl,_,_,c1,rfl,by simpa only[V]using a1,b1,_,_,c2,rfl,by simpa only[V]using a2,b2,rfl⟩
theorem HX(h:Inv C g β s a w){x:Operand}(dr:o.op= .entry x){v:av}(he:(HW s (s.ev x)).eval=some v):fM P o a w (iE C (s.put o.dst v)):=by
 unfold HW at he
 split at he
 ·rename_i i v0 fr q vr kt vt rest c ht
  obtain rfl:=ao.1 he
  obtain⟨_,_,pl,plq,since,seen,c0,es,clock,m1,m2,m3,_,m5,m6,m7,_,_,m10,_,m12⟩:=A8 h ht
  obtain⟨e,seen',n1,rfl,rfl,n4⟩:=m12 c rfl
  refine h.value n4.ZA (eg (f:=Instr.entry (a.eval x)) (by simp only[execOp,dr]) ?_)
  rw[m1]
  exact run_entry_at w pl.b plq.b since seen' es _ e m3 m6 n1 m10
 ·simp only[ai]at he
theorem heap_drew{w w1:World}(hw:w1=w\/w1=w.drew):w1.heap=w.heap/\w1.os=w.os/\w1.tape=w.tape/\(w1.output=w.output/\w.drawn<=w1.drawn):=by
 rcases hw with rfl | rfl
 ·exact⟨rfl,rfl,rfl,rfl,aw _⟩
 ·exact⟨rfl,rfl,rfl,rfl,Nat.le_succ _⟩
theorem Inv.UF(h:Inv C g β s a w){i q:Id}{v vr:Nat}{fr:Bool}{kt vt:Ty}{rest:List (kt.den×vt.den)}{cur:Option (kt.den×vt.den)}(cV:s.bZ i=some (.obj v fr (.nH q (vr+1) kt vt rest cur)))
  {k2 v2:Ty} {l2:List (k2.den×v2.den)} (hq:s.bZ q=some (.obj vr true (.mp k2 v2 l2))) {pl plq:Pl} {m0:Option Nat} {since0 c00:Nat} {seen0:Array Nat} (hp:β i=some pl) (hb:w.heap[pl.b]? =some (.mapIter m0 since0 seen0 c00)) (hg:g pl.b= .own (.id i) 0)
  {w1:World} (hw:w1=w\/w1=w.drew) {es:Array MapEntry} {clock since c0:Nat} {seen:Array Nat} (Y7:β q=some plq) (Q8:w.heap[plq.b]? =some (.map es clock)) (YL:g plq.b= .own (.id q) 0)
  (h1:∀x∈es.toList,x.born < since) (h2:since<=c0/\since<=clock) (h3:(es.toList.map (·.born)).Nodup) {rest':List (kt.den×vt.den)} {cur':Option (kt.den×vt.den)} (h4:D8 (s.env w g β) kt vt (es.toList.filter λe=> !seen.contains e.born) rest')
  (h5:∀x,cur'=some x->∃(e:MapEntry) (seen':Array Nat),e∈es.toList/\seen=seen'.push e.born/\c0=clock/\s9 (s.env w g β) kt vt e x):
  Inv C g β (s.aO i (.obj v fr (.nH q (vr+1) kt vt rest' cur'))) a (Go.ChangeMaps.setBlock w1 pl.b (.mapIter (some plq.b) since seen c0))/\
   oe (s.env w g β) ((s.aO i (.obj v fr (.nH q (vr+1) kt vt rest' cur'))).env (Go.ChangeMaps.setBlock w1 pl.b (.mapIter (some plq.b) since seen c0)) g β):=by
 obtain⟨d1,d2,d3,d4⟩:=heap_drew hw
 have iv:pl.b < w.heap.size:=(bJ.1 hb).1
 have Jx:(Go.ChangeMaps.setBlock w1 pl.b (.mapIter (some plq.b) since seen c0)).heap=w.heap.setIfInBounds pl.b (.mapIter (some plq.b) since seen c0):=by
  show w1.heap.setIfInBounds _ _=_
  rw[d1]
 have P6:(Go.ChangeMaps.setBlock w1 pl.b (.mapIter (some plq.b) since seen c0)).os=w.os/\(Go.ChangeMaps.setBlock w1 pl.b (.mapIter (some plq.b) since seen c0)).tape=w.tape/\((Go.ChangeMaps.setBlock w1 pl.b (.mapIter (some plq.b) since seen c0)).output=w.output/\w.drawn<=(Go.ChangeMaps.setBlock w1 pl.b (.mapIter (some plq.b) since seen c0)).drawn):=⟨d2,d3,d4⟩
 generalize Go.ChangeMaps.setBlock w1 pl.b (.mapIter (some plq.b) since seen c0)=w' at Jx P6
 have hother:∀b',b'≠pl.b->w'.heap[b']? =w.heap[b']? :=λb' fL=>by
  rw[Jx,ea,if_neg (λe=>fL e.symm)]
 have kW:w'.heap[pl.b]? =some (.mapIter (some plq.b) since seen c0):=by
  rw[Jx,ea,if_pos rfl,if_pos iv]
 have ht:Trans w w' g g:=by
  refine⟨P6.1,P6.2.1,P6.2.2,by rw[Jx];simp,λb' _=> ?_⟩
  by_cases he:b'=pl.b
  ·subst he
   rw[hg]
   exact⟨.inr ⟨i,0,rfl,aw _⟩,λ_ _ hh=>by omega⟩
  ·rw[hother b' he]
   cases zN:g b' with
   |free=>exact⟨rfl,rfl⟩
   |own o' k=>cases o' with
    |eL=>exact⟨rfl,rfl⟩
    |id i'=>exact⟨.inr ⟨i',k,rfl,aw _⟩,λoff v _ hv=>by simpa only[World.cell?,hother b' he]using hv⟩
 have hle:cP (s.env w g β) ((s.aO i (.obj v fr (.nH q (vr+1) kt vt rest' cur'))).env w' g β):=cP.aO cV (aw _) ht (λ_ _=>rfl) (λ_=>rfl)
 have Ub:q≠i:=λe=>by rw[e,cV]at hq;cases hq
 have Y6:plq.b≠pl.b:=λe=>by rw[e,hb]at Q8;cases Q8
 refine⟨h.step (du _ _ _) ht hle (jc.aO h.bK (by rw[cV];simp) hle (λ_ _=>rfl) (λi' ver' fr' c' pl2 hi AR Dx=>⟨hother _ (h.apart hg hi AR Dx),rfl⟩) ?_ (mG cV λ_ _ _ e=>by cases e)),hle.mem⟩
 refine⟨pl,plq.b,since,seen,c0,hp,kW,hg,λvr' Ic=> ?_⟩
 obtain rfl:vr=vr':=by omega
 have H6:(s.env w g β).tT q vr:=⟨by show s.bZ q≠none;rw[hq];simp,λv3 fr3 c3 h3=>by
  have h3:s.bZ q=some (.obj v3 fr3 c3):=h3
  rw[hq]at h3
  simp only[aq,dS.obj.injEq]at h3
  omega⟩
 refine⟨hle.tT _ _ H6,λ_=>⟨⟨k2,v2,l2,?_⟩,plq,es,clock,Y7,rfl,(hother _ Y6).trans Q8,YL,h1,h2,h3,h4.mono hle.mem,λx hx=> ?_⟩⟩
 ·show(s.aO i _).bZ q=_
  rw[da s i q _ Ub];exact hq
 ·obtain⟨e,se,a1,a2,a3,a4⟩:=h5 x hx
  exact⟨e,se,a1,a2,a3,a4.mono hle.mem⟩
theorem Inv.Qc(h:Inv C g β s a w){i q:Id}{v ver ver':Nat}{fr:Bool}{kt vt:Ty}{rest rest':List (kt.den×vt.den)}{cur cur':Option (kt.den×vt.den)}(cV:s.bZ i=some (.obj v fr (.nH q ver kt vt rest cur)))
  (hk:ver'=0\/(ver'=ver/\rest'=rest/\cur'=none)):Inv C g β (s.aO i (.obj v fr (.nH q ver' kt vt rest' cur'))) a w:=by
 have ht:=Trans.refl w g
 have hle:cP (s.env w g β) ((s.aO i (.obj v fr (.nH q ver' kt vt rest' cur'))).env w g β):=cP.aO cV (aw _) ht (λ_ _=>rfl) (λ_=>rfl)
 refine h.step (du _ _ _) ht hle (jc.aO h.bK (by rw[cV];simp) hle (λ_ _=>rfl) (λ_ _ _ _ _ _ _ _=>⟨rfl,rfl⟩) ?_ (mG cV λ_ _ _ e=>by cases e))
 obtain⟨pl,mb,since,seen,c0,h1,h2,h3,h4⟩:=h.bK i v fr _ cV
 refine⟨pl,mb,since,seen,c0,h1,h2,h3,λvr Ic=> ?_⟩
 rcases hk with hk | ⟨rfl,rfl,rfl⟩
 ·omega
 ·obtain⟨h5,h6⟩:=h4 vr Ic
  refine⟨hle.tT _ _ h5,λhc=> ?_⟩
  obtain⟨c1,_⟩:=hle.cur _ _ h5 hc
  obtain⟨⟨k,v1,l,hq⟩,plq,es,clock,k1,k2,k3,k4,k5,k6,k7,k8,_⟩:=h6 c1
  have Ub:q≠i:=λe=>by
   have hq:s.bZ q=_:=hq
   rw[e,cV]at hq;cases hq
  exact⟨⟨k,v1,l,by show(s.aO i _).bZ q=_;rw[da s i q _ Ub];exact hq⟩,plq,es,clock,k1,k2,k3,k4,k5,k6,k7,k8.mono hle.mem,λx hx=>by cases hx⟩
theorem IJ{s:AS}{q i:Id}{e:dS}(h:s.BT q=false)(hi:s.bZ i=some e):e.MW q=false:=by
 unfold AS.BT at h
 rw[Bool.or_eq_false_iff]at h
 cases i with
 |aV k=>simpa using jl.1 h.1 _ (dd hi)
 |new a b=>
  have hi:(s.news.getD a [])[b]? =some e:=hi
  by_cases ha:a < s.news.length
  ·have h2:(s.news.getD a []).any (dS.MW q)=false:=by simpa using jl.1 h.2 (s.news.getD a []) (by simp[aA,cj ha])
   simpa using jl.1 h2 _ (dd hi)
  ·simp[aA,dM (Nat.le_of_not_lt ha)]at hi
theorem Inv.unlock(h:Inv C g β s a w){q:Id}{vr:Nat}{k v:Ty}{l:List (k.den×v.den)}(cV:s.bZ q=some (.obj vr true (.mp k v l)))(hr:s.BT q=false):Inv C g β (s.aO q (.obj vr false (.mp k v l))) a w:=by
 have ht:=Trans.refl w g
 have hle:cP (s.env w g β) ((s.aO q (.obj vr false (.mp k v l))).env w g β):=cP.aO cV (aw _) ht (λ_ _=>rfl) (λ_=>rfl)
 refine h.step (du _ _ _) ht hle λi ver fr c hi=> ?_
 have hi:(s.aO q (.obj vr false (.mp k v l))).bZ i=some (.obj ver fr c):=hi
 by_cases XW:i=q
 ·subst XW
  rw[eS s i _ (by rw[cV];simp)]at hi
  simp only[aq,dS.obj.injEq]at hi
  obtain⟨rfl,rfl,rfl⟩:=hi
  obtain⟨pl,es,clock,h1,h2,h3,h4,h5⟩:=h.bK i vr true _ cV
  exact⟨pl,es,clock,h1,h2,h3,⟨h4.1.mono hle.mem,h4.2⟩,h5⟩
 ·rw[da s q i _ XW]at hi
  refine(h.bK i ver fr c hi).Qf hle rfl (λ_ _=>⟨rfl,rfl⟩) λq2 v2 k2 v3 l2 hc yL _=>⟨⟨k2,v3,l2,?_⟩,λ_ _=>⟨rfl,rfl⟩⟩
  obtain⟨kt,vt,rest,cu,rfl⟩:=hc
  have hn:=IJ hr hi
  have fL:q2≠q:=λe=>by simp[dS.MW,e]at hn
  show(s.aO q _).bZ q2=_
  rw[da s q q2 _ fL];exact yL
theorem Ik{es:List MapEntry}{seen:Array Nat}(hn:(es.map (·.born)).Nodup){j:Nat}{e:MapEntry}(hj:(es.filter λe=> !seen.contains e.born)[j]? =some e):
  es.filter (λx=> !(seen.push e.born).contains x.born)=(es.filter λe=> !seen.contains e.born).eraseIdx j:=by
 have h1:es.filter (λx=> !(seen.push e.born).contains x.born)=(es.filter λe=> !seen.contains e.born).filter λx=>x.born !=e.born:=by
  rw[List.filter_filter]
  refine List.filter_congr λx _=> ?_
  rw[contains_push]
  cases seen.contains x.born <;> cases hb:x.born==e.born <;> simp[bne,hb]
 rw[h1]
 have P0:((es.filter λe=> !seen.contains e.born).map (·.born)).Nodup:=hn.sublist (List.filter_sublist.map _)
 generalize es.filter (λe=> !seen.contains e.born)=L at hj P0
 induction L generalizing j with
 |nil=>simp at hj
 |cons x L ih=>
  rw[bX,dI]at P0
  cases j with
  |zero=>
   simp only[fS,aq]at hj
   subst hj
   have:L.filter (λy=>y.born !=x.born)=L:=jq.2 λy hy=>by
    have:y.born≠x.born:=λe=>P0.1 (e▸eJ.2 ⟨y,hy,rfl⟩)
    simpa using this
   simp[this]
  |succ j=>
   have hj:L[j]? =some e:=by simpa using hj
   have hx:(x.born !=e.born)=true:=by
    have:x.born≠e.born:=λh=>P0.1 (h▸eJ.2 ⟨e,dd hj,rfl⟩)
    simpa using this
   rw[List.filter_cons,hx,List.eraseIdx_cons_succ]
   simp only[if_true]
   rw[ih hj P0.2]
theorem K6(h:Inv C g β s a w){x:Operand}(dr:o.op= .next x false){t:J4}(ht:s.MV (s.ev x)=some t){R:Type}{k:AS->Option R}{r:R}(he:Nf s o.dst t k=some r):
  fM P o a w λa' w'=>∃s',iE C s' a' w'/\k s'=some r:=by
 obtain⟨hi,⟨k2,v2,l2,hq⟩,pl,plq,since,seen,c0,es,clock,m1,m2,m3,m4,m5,m6,m7,m8,m9,m10,m11,_⟩:=A8 h ht
 have hex:∀ {y:Value} {w':World},(Instr.next (a.eval x) false o.type).run P w= .ok y w'->(execOp a.eval o).run P w= .ok (.value y) w':=λhr=>
  eg (f:=Instr.next (a.eval x) false o.type) (by simp only[execOp,dr]) hr
 have Ad:(leftOf es seen).toList=es.toList.filter λe=> !seen.contains e.born:=by unfold leftOf;rw[Array.toList_filter]
 obtain⟨l',m11,F9⟩:=m11
 have hlen:=m11.len
 rw[F9.length_eq]at hlen
 rw[<-Ad,cO]at hlen
 unfold Nf at he
 rcases run_next_at (P:=P) w o.type pl.b plq.b since c0 seen es clock m3 m6 m8 m9.1 with⟨h0,mF⟩ | ⟨e,SM,w1,hw,mF⟩
 ·rcases xX he with⟨hc,_⟩ | ⟨_,he⟩
  ·have:0 < t.rest.length:=by simpa using hc
   omega
  ·unfold AS.Pk at he
   have i1:=h.Qc (rest':=[]) (cur':=none) hi (.inl rfl)
   have Ub:t.q≠t.i:=λe=>by rw[e,hi]at hq;simp at hq
   have SS:(s.aO t.i (.obj t.v t.fr (.nH t.q 0 t.kt t.vt [] none))).bZ t.q=some (.obj t.vr true (.mp k2 v2 l2)):=by rw[da s t.i t.q _ Ub];exact hq
   generalize s.aO t.i (.obj t.v t.fr (.nH t.q 0 t.kt t.vt [] none))=s1 at he i1 SS
   cases hr:s1.BT t.q with
   |true=>rw[hr]at he;cases he
   |false=>
    rw[hr]at he
    simp only at he
    have Zg:s1.unlock t.q=s1.aO t.q (.obj t.vr false (.mp k2 v2 l2)):=by simp only[AS.unlock,AS.obj,SS]
    rw[Zg]at he
    rw[<-m1]at mF
    refine .inl ⟨_,w,hex mF,_,⟨g,β,(i1.unlock SS hr).put o.dst (v:= .cons (.d .bool false) .nil) ⟨[.bool false],rfl,?_⟩⟩,he⟩
    simp only[VC]
    exact⟨_,_,[.bool false],rfl,by simp only[V,dm],rfl,rfl⟩
 ·rcases xX he with⟨hc,he⟩ | ⟨hc,_⟩
  ·obtain⟨_,hd⟩:=Mr he
   rw[Ad]at SM
   obtain⟨i,OQ⟩:=List.getElem?_of_mem SM
   obtain⟨y,Um,SX⟩:=m11.get OQ
   obtain⟨j,hj⟩:=List.getElem?_of_mem (F9.mem_iff.1 (dd Um))
   have Rj:j < t.rest.length:=(dL.1 hj).1
   have hy:qO t.kt t.vt t.rest j=y:=by simp[qO,aA,hj]
   have uH:e∈es.toList:=(nh.1 SM).1
   have i1:=h.UF (rest':=t.rest.eraseIdx j) (cur':=some (qO t.kt t.vt t.rest j)) (since:=since) (c0:=clock) (seen:=seen.push e.born) hi hq m2 m3 m4 hw m5 m6 m7 m8 ⟨m9.2,m9.2⟩ m10 ?_ ?_
   rotate_left
   ·rw[Ik m10 OQ];exact⟨_,m11.erase i,IF F9 Um hj⟩
   ·intro z hz
    obtain rfl:=ba hz
    exact⟨e,seen,uH,rfl,rfl,by rw[hy];exact SX⟩
   rw[<-m1]at mF
   have hVS:=(hy▸SX:s9 (s.env w g β) t.kt t.vt e (qO t.kt t.vt t.rest j))
   refine .inl ⟨_,_,hex mF,_,⟨g,β,i1.1.put o.dst (v:= .cons (.d .bool true) (.cons (.d t.kt (qO t.kt t.vt t.rest j).1) (.cons (.d t.vt (qO t.kt t.vt t.rest j).2) .nil))) ?_⟩,hd j Rj⟩
   exact s9.ZB (hVS.mono i1.2)
  ·have hc:¬0 < t.rest.length:=by simpa using hc
   have:0 < (leftOf es seen).toList.length:=List.length_pos_of_mem SM
   rw[cO]at this
   omega
theorem Kx{Γ:mR}(hΓ:Sound P Γ){bK:List Nat}{ops:Array Oper}{R:Type}{k:AS->Option R}{r:R}(h:iE C s a w)(he:OL P Γ bK ops o s k=some r):
  mV P ops o a w λa' w'=>∃s',iE C s' a' w'/\k s'=some r:=by
 have plain:OK P Γ bK ops o s k=some r->mV P ops o a w λa' w'=>∃s',iE C s' a' w'/\k s'=some r:=λhe=>by
  obtain⟨s1,h1,h2⟩:=F3 he
  exact(Ds hΓ h h1).mono λa' w' hs=>⟨s1,hs,h2⟩
 have stepK:∀(hg:o.guard=none),(fM P o a w λa' w'=>∃s',iE C s' a' w'/\k s'=some r)->mV P ops o a w λa' w'=>∃s',iE C s' a' w'/\k s'=some r:=λhg hr=>by
  unfold mV
  have:Region.wanted o (yielded ops a.tmps)=true:=by simp[Region.wanted,hg]
  rw[if_pos this]
  exact hr
 have step:∀(hg:o.guard=none) (b:Bool),fM P o a w (iE C (s.put o.dst (.d .bool b)))->k (s.put o.dst (.d .bool b))=some r->mV P ops o a w λa' w'=>∃s',iE C s' a' w'/\k s'=some r:=λhg b hr hk=>by
  unfold mV
  have:Region.wanted o (yielded ops a.tmps)=true:=by simp[Region.wanted,hg]
  rw[if_pos this]
  exact hr.mono λa' w' hs=>⟨_,hs,hk⟩
 unfold OL at he
 split at he
 ·rename_i T x y U hg ho
  split at he
  ·rename_i n hn hT
   obtain⟨g,β,hi⟩:=h
   obtain⟨b,hb,hr⟩:=(xH (o:=o) (U:=U) hi hn hT).1 ho
   refine step hg b hr ?_
   rcases xX he with⟨hc,hk⟩ | ⟨_,hk⟩
   ·rw[hb (by simpa using hc)];exact hk
   ·obtain⟨k1,k2⟩:=JK hk
    cases b
    ·exact k2
    ·exact k1
  ·exact plain he
 ·rename_i T x y U hg ho
  split at he
  ·rename_i n hn hT
   obtain⟨g,β,hi⟩:=h
   obtain⟨b,hb,hr⟩:=(xH (o:=o) (U:=U) hi hn hT).2 ho
   refine step hg b hr ?_
   rcases xX he with⟨hc,hk⟩ | ⟨_,hk⟩
   ·rw[hb (by simpa using hc)];exact hk
   ·obtain⟨k1,k2⟩:=JK hk
    cases b
    ·exact k2
    ·exact k1
  ·exact plain he
 ·rename_i T m hg ho
  obtain⟨s1,h1,h2⟩:=js.1 he
  obtain⟨g,β,hi⟩:=h
  exact stepK hg ((II hi ho h1).mono λ_ _ hs=>⟨_,hs,h2⟩)
 ·rename_i x hg ho
  obtain⟨s1,h1,h2⟩:=js.1 he
  obtain⟨v,h3,h4⟩:=ak.1 h1
  obtain rfl:=ao.1 h4
  obtain⟨g,β,hi⟩:=h
  exact stepK hg ((HX hi ho h3).mono λ_ _ hs=>⟨_,hs,h2⟩)
 ·rename_i x hg ho
  split at he
  ·rename_i t ht
   obtain⟨g,β,hi⟩:=h
   exact stepK hg (K6 hi ho ht he)
  ·cases he
 ·rename_i c hg ho
  split at he
  ·rename_i F hc
   split at he
   ·rename_i id ver rc f hF
    split at he
    ·rename_i en LJ
     obtain⟨Vj,he⟩:=Lm he
     obtain⟨s1,h1,h2⟩:=js.1 he
     obtain⟨g,β,hi⟩:=h
     exact stepK hg ((I6 hi ho hc hF Vj (hΓ _ _ en LJ) h1).mono λ_ _ hs=>⟨_,hs,h2⟩)
    ·cases he
   ·exact plain he
  ·exact plain he
 ·exact plain he
theorem zf{rd:Option Nat}{n:Nat}{Γ:mR}(hΓ:Sound P Γ){bK:List Nat}{ops:Array Oper}{R:Type}{Q:Exit->Act->World->Prop}:∀(l:List Oper) {s:AS} {a:Act} {w:World} {k:AS->Option R} {r:R},iE C s a w->OM P Γ bK ops l s k=some r->
  (∀s' a' w',iE C s' a' w'->k s'=some r->Q .normal a' w')->wpListIn (Fr rd) n P ops Q l a w
 |[],s,a,w,k,r,h,he,hk=>hk s a w h he
 |o::l,s,a,w,k,r,h,he,hk=>by
  have he:OL P Γ bK ops o s (λs'=>s'.seen λs'=>OM P Γ bK ops l s' k)=some r:=he
  simp only[AS.xW]at he
  exact((Kx hΓ h he).mono λa' w' ⟨s',hs,h2⟩=>zf hΓ l hs h2 hk).wpListIn
end
end Go.Ab
namespace Go.Ab
theorem AS.Mz{s t:AS}(h1:s.cr=t.cr)(h2:s.news.length=t.news.length)(h3:∀id,s.bZ id=t.bZ id):s=t:=by
 obtain⟨a,b,c⟩:=s
 obtain⟨a',b',c'⟩:=t
 simp only at h1 h2
 subst h1
 have hb:b=b':=j5 λk=>h3 (.aV k)
 subst hb
 have hc:c=c':=by
  apply List.ext_getElem h2
  intro i h h'
  apply j5
  intro j
  have:=h3 (.new i j)
  simpa[AS.bZ,aA,h,h']using this
 rw[hc]
def dS.Ff:dS->dS->Prop
 | .obj v _ c,.obj v' _ c'=>v=v'/\c=c'
 | .dead,.dead=>True
 |_,_=>False
def qR:Option dS->Option dS->Prop
 |some a,some b=>a.Ff b
 |none,none=>True
 |_,_=>False
def dS.Jq:dS->dS
 | .obj v _ c=> .obj v true c
 | .dead=> .dead
theorem dS.NJ(a:dS):a.Ff a:=by cases a <;> simp[dS.Ff]
theorem Lo(a:Option dS):qR a a:=by cases a <;> simp[qR,dS.NJ]
theorem Ln(a:Option dS):qR (a.map dS.Jq) a:=by
 cases a with
 |none=>trivial
 |some x=>cases x <;> simp[qR,dS.Ff,dS.Jq]
theorem dS.OH(a:dS):a.Jq.Jq=a.Jq:=by cases a <;> rfl
structure kR(f:uu)(s t:AS):Prop where
 cr:∀i∈f.cr,t.slot i=s.slot i
 ws:∀id∈f.ws,t.bZ id=s.bZ id
 rs:∀id∈f.rs,qR (t.bZ id) (s.bZ id)
 ek:∀q,f.dst=some q->t.ek q=s.ek q
structure Su where
 v:av
 up:Id->Option dS
 fz:List Id
structure App(d:Option Tmp)(E:Su)(s s':AS):Prop where
 cr:s'.cr=(s.put d E.v).cr
 len:s'.news.length=s.news.length
 bZ:∀id,s'.bZ id=match E.up id with | some e=>some e | none=>if id∈E.fz then(s.bZ id).map dS.Jq else s.bZ id
theorem App.QQ{d:Option Tmp}{E:Su}{s s1 s2:AS}(h1:App d E s s1)(h2:App d E s s2):s1=s2:=
 AS.Mz (by rw[h1.cr,h2.cr]) (by rw[h1.len,h2.len]) λid=>by rw[h1.bZ,h2.bZ]
structure Ea(f:uu)(s:AS)(E:Su):Prop where
 up:∀id e,E.up id=some e->(id∈f.ws/\s.bZ id≠none)\/∃q j,f.dst=some q/\id= .new q j
 fz:∀id∈E.fz,id∈f.rs
theorem wJ(s:AS)(id:Id)(e:dS):(s.aO id e).news.length=s.news.length:=by cases id <;> simp[AS.aO]
theorem CK(s:AS)(id i:Id):(s.freeze id).bZ i=if i=id then(s.bZ i).map dS.Jq else s.bZ i:=by
 unfold AS.freeze
 cases hs:s.bZ id with
 |none=>
  by_cases hi:i=id
  ·subst hi;simp[hs]
  ·simp[hi]
 |some e=>
  cases e with
  |dead=>
   by_cases hi:i=id
   ·subst hi;simp[hs,dS.Jq]
   ·simp[hi]
  |obj v fr c=>
   simp only
   by_cases hi:i=id
   ·subst hi
    rw[eS s i _ (by rw[hs];simp)]
    simp[hs,dS.Jq]
   ·rw[da s id i _ hi];simp[hi]
theorem fH(i:Id):∀(ids:List Id) (s:AS),(s.bl ids).bZ i=if i∈ids then(s.bZ i).map dS.Jq else s.bZ i
 |[],s=>by simp[AS.bl]
 |id::ids,s=>by
  rw[AS.bl,fH i ids,CK]
  by_cases h1:i=id
  ·subst h1
   by_cases h2:i∈ids
   ·simp[h2,Option.map_map,Function.comp_def,dS.OH]
   ·simp[h2]
  ·simp[h1]
theorem Il(s:AS)(id:Id):(s.freeze id).news.length=s.news.length:=by
 unfold AS.freeze
 split
 ·exact wJ _ _ _
 ·rfl
theorem mZ:∀(ids:List Id) (s:AS),(s.bl ids).news.length=s.news.length
 |[],_=>rfl
 |id::ids,s=>by rw[AS.bl,mZ ids,Il]
theorem rI{s:AS}{q:Nat}:s.ek q=true↔q < s.news.length/\∀j,s.bZ (.new q j)=none:=by
 refine⟨λh=>⟨(jQ h).2,(jQ h).1⟩,λ⟨h1,h2⟩=> ?_⟩
 unfold AS.ek
 rw[cj h1]
 have h0:=h2 0
 simp only[AS.bZ,aA,cj h1,dW]at h0
 cases hh:s.news[q]with
 |nil=>rfl
 |cons x xs=>rw[hh]at h0;simp at h0
theorem App.yJ(d:Option Tmp)(v:av)(ids:List Id)(s:AS):App d ⟨v,λ_=>none,ids⟩ s ((s.bl ids).put d v):=by
 refine⟨?_,?_,λid=> ?_⟩
 ·cases d <;> simp[AS.put,lC]
 ·cases d <;> simp[AS.put,mZ]
 ·rw[vk,fH]
theorem App.vm(d:Option Tmp)(v:av)(s:AS):App d ⟨v,λ_=>none,[]⟩ s (s.put d v):=App.yJ d v [] s
def yx(q:Nat)(es:List dS):Id->Option dS
 | .new i j=>if i=q then es[j]? else none
 | .aV _=>none
theorem Mv(s:AS){q:Nat}(hq:q < s.news.length)(es:List dS)(id:Id):(s.born q es).bZ id=match id with | .new i j=>if i=q then es[j]? else s.bZ (.new i j) | .aV k=>s.bZ (.aV k):=by
 cases id with
 |aV k=>rfl
 |new i j=>
  simp only
  by_cases h:i=q
  ·subst h;rw[if_pos rfl];exact qG hq _ j
  ·rw[if_neg h];exact je _ λj' e=>by simp only[Id.new.injEq]at e;exact h e.1
theorem App.Jj{s:AS}{q:Nat}(hv:s.ek q=true)(v:av)(ids:List Id)(es:List dS):App (some q) ⟨v,yx q es,ids⟩ s (((s.bl ids).born q es).put (some q) v):=by
 obtain⟨h1,h2⟩:=rI.1 hv
 refine⟨?_,?_,λid=> ?_⟩
 ·simp[AS.put,lC]
 ·simp[AS.put,AS.born,mZ]
 ·rw[vk,Mv _ (by rw[mZ];exact h1)]
  cases id with
  |aV k=>simp only[yx];exact fH _ _ _
  |new i j=>
   simp only[yx]
   by_cases h:i=q
   ·subst h
    rw[if_pos rfl]
    cases he:es[j]? with
    |none=>simp[h2]
    |some e=>simp
   ·rw[if_neg h]
    simp only[if_neg h]
    exact fH _ _ _
theorem App.ND{s:AS}{id:Id}{e0:dS}(hs:s.bZ id=some e0)(d:Option Tmp)(v:av)(e:dS):App d ⟨v,λi=>if i=id then some e else none,[]⟩ s ((s.aO id e).put d v):=by
 refine⟨?_,?_,λi=> ?_⟩
 ·cases d <;> simp[AS.put]
 ·cases d <;> simp[AS.put,wJ]
 ·rw[vk]
  by_cases hi:i=id
  ·subst hi
   rw[eS s i _ (by rw[hs];simp)]
   simp
  ·rw[da s id i _ hi];simp[hi]
section
variable {P:Program} {Γ:mR} {bK:List Nat} {ops:Array Oper} {o:Oper} {s t:AS}
def xc(P:Program)(Γ:mR)(bK:List Nat)(ops:Array Oper)(o:Oper)(s s':AS):Prop:=
 ∃E,App o.dst E s s'/\Ea (gS Γ ops s o) s E/\∀t,kR (gS Γ ops s o) s t->∃t',(mN P Γ bK o t).eval=some t'/\App o.dst E t t'
theorem zq{xs:Array Operand}{i:Nat}(h:Operand.tmp i∈xs.toList):i∈Al xs:=by
 unfold Al
 exact List.mem_filterMap.2 ⟨_,h,rfl⟩
theorem kR.ev(h:kR (gS Γ ops s o) s t){x:Operand}(hx:x∈o.op.operands.toList):t.ev x=s.ev x:=by
 cases x with
 |tmp i=>exact h.cr i (bt.2 (.inl (zq hx)))
 |_=>rfl
theorem GI(v:Value):(ofConst v).ids=[]:=by unfold ofConst;split <;> rfl
theorem DK{o:Oper}{x:Op}(h:o.op=x)(hx:DA x=false):DA o.op=false:=by rw[h];exact hx
theorem wH(hn:DA o.op=false){x:Operand}(hx:x∈o.op.operands.toList){id:Id}(dq:id∈(s.ev x).ids):id∈(gS Γ ops s o).rs:=by
 refine bt.2 (.inl ?_)
 unfold GJ
 rw[hn]
 cases x with
 |tmp i=>exact List.mem_flatMap.2 ⟨i,zq hx,dq⟩
 |const v=>simp[AS.ev,GI]at dq
 |global _=>simp[AS.ev,av.ids]at dq
 |func f=>simp[AS.ev,av.ids]at dq
theorem kR.Ff(h:kR (gS Γ ops s o) s t)(hn:DA o.op=false){x:Operand}(hx:x∈o.op.operands.toList){id:Id}(dq:id∈(s.ev x).ids):qR (t.bZ id) (s.bZ id):=
 h.rs id (wH hn hx dq)
theorem xZ{id:Id}(h:qR (t.bZ id) (s.bZ id)):(t.obj id=none/\s.obj id=none)\/∃v f f' c,t.obj id=some (v,f,c)/\s.obj id=some (v,f',c):=by
 unfold AS.obj
 revert h
 cases t.bZ id with
 |none=>cases s.bZ id with
  |none=>intro _;simp
  |some b=>intro h;exact h.elim
 |some a=>cases s.bZ id with
  |none=>intro h;exact h.elim
  |some b=>cases a <;> cases b <;> intro h <;> first
    |exact h.elim
    | (left;exact⟨rfl,rfl⟩)
    | (obtain⟨rfl,rfl⟩:=h;right;exact⟨_,_,_,_,rfl,rfl⟩)
theorem yX{id:Id}(h:qR (t.bZ id) (s.bZ id))(ver:Nat)(p:List vI):t.row id ver p=s.row id ver p:=by
 unfold AS.row
 rcases xZ h with⟨h1,h2⟩ | ⟨v,f,f',c,h1,h2⟩ <;> rw[h1,h2]
theorem mn:∀(v:av) (ty:Ty),(∀id∈v.ids,qR (t.bZ id) (s.bZ id))->t.ji ty v=s.ji ty v
 | .aS id ver p c i len,ty,h=>by
  cases ty <;> first
   |rfl
   | (simp only[AS.ji];rw[yX (h id (by simp[av.ids]))])
 | .pr a b,ty,h=>by
  cases ty <;> first
   |rfl
   | (simp only[AS.ji];rw[mn a _ λid dq=>h id (by simp[av.ids,dq]),mn b _ λid dq=>h id (by simp[av.ids,dq])])
 | .undef,ty,_ | .gone,ty,_ | .di,ty,_ | .mO,ty,_ | .pL,ty,_ | .sx,ty,_ | .d _ _,ty,_ | .ptr ..,ty,_ | .eD ..,ty,_ | .fn ..,ty,_ | .cons ..,ty,_ | .nil,ty,_ | .vec ..,ty,_ | .bx ..,ty,_ | .db ..,ty,_ | .mp ..,ty,_ | .nH ..,ty,_ | .yl ..,ty,_ | .mr ..,ty,_ | .sb _,ty,_=>by
  cases ty <;> simp only[AS.ji]
theorem pg:∀(v:av),∀id∈v.shared,id∈v.ids
 | .aS ..,id,h=>by simpa[av.shared,av.ids]using h
 | .pr a b,id,h=>by
  simp only[av.shared,bt,av.ids]at h ⊢
  rcases h with h | h
  ·exact .inl (pg a id h)
  ·exact .inr (pg b id h)
 | .undef,_,h | .gone,_,h | .di,_,h | .mO,_,h | .pL,_,h | .sx,_,h | .d _ _,_,h | .ptr ..,_,h | .eD ..,_,h | .fn ..,_,h | .cons ..,_,h | .nil,_,h | .vec ..,_,h | .bx ..,_,h | .db ..,_,h | .mp ..,_,h | .nH ..,_,h | .yl ..,_,h | .mr ..,_,h | .sb _,_,h=>by
  simp[av.shared]at h
theorem Gm{T:TypeId}{x:av}(h:∀id∈x.ids,qR (t.bZ id) (s.bZ id)):xC P t T x=xC P s T x:=by
 unfold xC
 split
 ·rename_i id ver p n
  rcases xZ (h id (by simp[av.ids])) with⟨h1,h2⟩ | ⟨v,f,f',c,h1,h2⟩ <;> rw[h1,h2]
 ·rfl
 ·rfl
 ·rfl
theorem Eg{n:Nat}{lo hi:Option Operand}(hl:∀x,lo=some x->t.ev x=s.ev x)(hh:∀x,hi=some x->t.ev x=s.ev x):bounds t n lo hi=bounds s n lo hi:=by
 unfold bounds
 cases lo <;> cases hi <;> simp only[] <;> first
  |rfl
  | (rw[hl _ rfl,hh _ rfl])
  |rw[hl _ rfl]
  |rw[hh _ rfl]
theorem ye{T:TypeId}{x:av}{lo hi:Option Operand}(h:∀id∈x.ids,qR (t.bZ id) (s.bZ id))(hl:∀x,lo=some x->t.ev x=s.ev x)(hh:∀x,hi=some x->t.ev x=s.ev x):
  u5 P t T x lo hi=u5 P s T x lo hi:=by
 have hb:∀n,bounds t n lo hi=bounds s n lo hi:=λn=>Eg hl hh
 unfold u5
 split <;> first
  |rfl
  | (rw[yX (h _ (by simp[av.ids]))];simp only[hb];done)
  | (simp only[hb];done)
theorem C0{T:TypeId}{x:av}{lo:Option Operand}{y m:Operand}(h:∀id∈x.ids,qR (t.bZ id) (s.bZ id))(hl:∀x,lo=some x->t.ev x=s.ev x)(hh:t.ev y=s.ev y)(hm:t.ev m=s.ev m):
  yd P t T x lo y m=yd P s T x lo y m:=by
 unfold yd
 rw[hh,hm,ye h hl λz hz=>by obtain rfl:=ba hz;exact hh]
theorem yN{T:TypeId}{x:av}{i:Int}(h:∀id∈x.ids,qR (t.bZ id) (s.bZ id)):nF P t T x i=nF P s T x i:=by
 unfold nF
 split <;> first
  |rfl
  |rw[yX (h _ (by simp[av.ids]))]
theorem FK{obj:Bool}{src dst:TypeId}{x:av}(h:∀id∈x.ids,qR (t.bZ id) (s.bZ id)):Df P t obj src dst x=Df P s obj src dst x:=by
 unfold Df
 split
 ·rfl
 ·unfold Mp
  split <;> first
   |rfl
   | (simp only[AS.ID,mn _ _ h])
theorem Ku{T:TypeId}{op:BinOp}{i:Id}{v:Nat}{j:Id}{w:Nat}(h:qR (t.bZ i) (s.bZ i)):SF P t T op i v j w=SF P s T op i v j w:=by
 unfold SF
 rcases xZ h with⟨h1,h2⟩ | ⟨v,f,f',c,h1,h2⟩ <;> rw[h1,h2]
theorem FM{src dst:TypeId}{id:Id}{ver:Nat}(h:qR (t.bZ id) (s.bZ id)):Dg P t src dst id ver=Dg P s src dst id ver:=by
 unfold Dg
 rcases xZ h with⟨h1,h2⟩ | ⟨v,f,f',c,h1,h2⟩
 ·rw[h1,h2]
 ·rw[h1,h2]
  cases c <;> first
   |rfl
   | (rename_i e z c;cases z <;> rfl)
theorem rB{ty:Ty}:∀(ps:List (Nat×Operand)) (l:List ty.den),(∀x∈ps,t.ev x.2=s.ev x.2/\∀id∈(s.ev x.2).ids,qR (t.bZ id) (s.bZ id))->jt ty t ps l=jt ty s ps l
 |[],_,_=>rfl
 | (i,x)::ps,l,h=>by
  obtain⟨h1,h2⟩:=h (i,x) (aH ..)
  simp only[jt]
  simp only at h1 h2
  rw[h1,mn _ _ h2]
  congr 2
  funext y
  rw[rB ps _ λz hz=>h z (aF _ hz)]
theorem ql{ty:Ty}:∀(ps:List (Nat×Operand)) (l:List ty.den) (r:List ty.den×List Id),(jt ty s ps l).eval=some r->∀id∈r.2,∃x∈ps,id∈(s.ev x.2).ids
 |[],l,r,h,id,dq=>by
  obtain rfl:=ao.1 h
  cases dq
 | (i,x)::ps,l,r,h,id,dq=>by
  simp only[jt]at h
  obtain⟨h1,h2⟩:=ay.1 h
  obtain⟨y,h3,h4⟩:=ak.1 h2
  obtain⟨r',h5,h6⟩:=ak.1 h4
  obtain rfl:=ao.1 h6
  rcases bt.1 dq with dq | dq
  ·exact⟨(i,x),aH ..,pg _ _ dq⟩
  ·obtain⟨z,hz,yM⟩:=ql ps _ r' h5 id dq
   exact⟨z,aF _ hz,yM⟩
theorem ug{fs:Array Field}:∀(ps:List (Nat×Operand)) (v:av),(∀x∈ps,t.ev x.2=s.ev x.2)->mH P fs t ps v=mH P fs s ps v
 |[],_,_=>rfl
 | (i,x)::ps,v,h=>by
  have h1:=h (i,x) (aH ..)
  simp only at h1
  simp only[mH,h1]
  have ih:∀v,mH P fs t ps v=mH P fs s ps v:=λv=>ug ps v λz hz=>h z (aF _ hz)
  simp only[ih]
theorem xi:∀(l:List Operand),(∀x∈l,t.ev x=s.ev x)->nw t l=nw s l
 |[],_=>rfl
 |x::l,h=>by
  simp only[nw]
  rw[h x (aH ..),xi l λy hy=>h y (aF _ hy)]
theorem zs{ty:Ty}{X:TypeId}{x:av}(h:∀id∈x.ids,qR (t.bZ id) (s.bZ id)):uQ P t ty X x=uQ P s ty X x:=by
 unfold uQ
 split
 ·rfl
 ·simp only[AS.ID,mn _ _ h]
theorem kA{v:av}(h:∀t,kR (gS Γ ops s o) s t->(mN P Γ bK o t).eval=some (t.put o.dst v)):xc P Γ bK ops o s (s.put o.dst v):=
 ⟨⟨v,λ_=>none,[]⟩,App.vm _ _ _,⟨λ_ _ h=>by simp at h,λ_ h=>by simp at h⟩,λt ht=>⟨_,h t ht,App.vm _ _ _⟩⟩
theorem lV{F:AS->Out av}(ho:∀t,mN P Γ bK o t=(F t).bind λv=> .ok (t.put o.dst v))(hF:∀t,kR (gS Γ ops s o) s t->F t=F s){s':AS}(he:(mN P Γ bK o s).eval=some s'):xc P Γ bK ops o s s':=by
 rw[ho]at he
 obtain⟨v,h1,h2⟩:=ak.1 he
 obtain rfl:=ao.1 h2
 refine kA λt ht=> ?_
 rw[ho,hF t ht,ak]
 exact⟨v,h1,rfl⟩
theorem Ah{v:av}{ids:List Id}(hi:∀id∈ids,id∈(gS Γ ops s o).rs)(h:∀t,kR (gS Γ ops s o) s t->(mN P Γ bK o t).eval=some ((t.bl ids).put o.dst v)):xc P Γ bK ops o s ((s.bl ids).put o.dst v):=
 ⟨⟨v,λ_=>none,ids⟩,App.yJ _ _ _ _,⟨λ_ _ h=>by simp at h,hi⟩,λt ht=>⟨_,h t ht,App.yJ _ _ _ _⟩⟩
theorem rn{v:av}{ids:List Id}{q:Nat}{es:List dS}(hd:o.dst=some q)(hv:s.ek q=true)(hi:∀id∈ids,id∈(gS Γ ops s o).rs)
  (h:∀t,kR (gS Γ ops s o) s t->t.ek q=true->(mN P Γ bK o t).eval=some (((t.bl ids).born q es).put o.dst v)):xc P Γ bK ops o s (((s.bl ids).born q es).put o.dst v):=by
 refine⟨⟨v,yx q es,ids⟩,by rw[hd];exact App.Jj hv _ _ _,⟨λid e h=> .inr ?_,hi⟩,λt ht=> ?_⟩
 ·cases id with
  |aV _=>simp[yx]at h
  |new i j=>
   simp only[yx]at h
   split at h
   ·rename_i hq;exact⟨q,j,hd,by rw[hq]⟩
   ·cases h
 ·have hv':t.ek q=true:=by rw[ht.ek q hd];exact hv
  exact⟨_,h t ht hv',by rw[hd];exact App.Jj hv' _ _ _⟩
theorem tr{v:av}{id:Id}{e0 e:dS}(hs:s.bZ id=some e0)(hw:id∈(gS Γ ops s o).ws)(h:∀t,kR (gS Γ ops s o) s t->t.bZ id=s.bZ id->(mN P Γ bK o t).eval=some ((t.aO id e).put o.dst v)):
  xc P Γ bK ops o s ((s.aO id e).put o.dst v):=by
 refine⟨⟨v,λi=>if i=id then some e else none,[]⟩,App.ND hs _ _ _,⟨λi e' h=> .inl ?_,λ_ h=>by simp at h⟩,λt ht=> ?_⟩
 ·simp only at h
  split at h
  ·rename_i hi;subst hi;exact⟨hw,by rw[hs];simp⟩
  ·cases h
 ·have:=ht.ws id hw
  exact⟨_,h t ht this,App.ND (this.trans hs) _ _ _⟩
end
end Go.Ab
namespace Go.Ab
section
variable {P:Program} {Γ:mR} {bK:List Nat} {ops:Array Oper} {o:Oper} {s t:AS}
theorem E4{T:TypeId}{x v:av}{s':AS}(h:(u6 P s T x v).eval=some s'):
  ∃id e0 e,x.ids=[id]/\s.bZ id=some e0/\s'=s.aO id e/\∀t:AS,t.bZ id=s.bZ id->(u6 P t T x v).eval=some (t.aO id e):=by
 unfold u6 at h
 split at h
 ·rename_i id ver p n
  cases kr:s.obj id with
  |none=>rw[kr]at h;simp only[ai]at h
  |some r=>
   obtain⟨ve,fr,c⟩:=r
   rw[kr]at h
   obtain⟨h1,h2⟩:=ay.1 h
   obtain⟨r,h3,h4⟩:=ak.1 h2
   obtain⟨h5,h6⟩:=ay.1 h4
   obtain⟨h7,h8⟩:=bO.1 h6
   obtain⟨c',h9,Tr⟩:=ak.1 h8
   obtain rfl:=ao.1 Tr
   refine⟨id,_,_,rfl,eH kr,rfl,λt ht=> ?_⟩
   have hob':t.obj id=some (ve,fr,c):=by simp only[AS.obj,ht];exact kr
   unfold u6
   simp only[hob']
   exact ay.2 ⟨h1,ak.2 ⟨r,h3,ay.2 ⟨h5,bO.2 ⟨h7,ak.2 ⟨c',h9,ao.2 rfl⟩⟩⟩⟩⟩
 ·simp only[ai]at h
theorem HT{c:Call}{x y:Operand}{T X:TypeId}(dr:o.op= .call c)(hc:c.callee= .builtin .copy)(ha:c.args.toList=[x,y])(ht:c.argTypes.toList=[T,X]){s':AS}
  (he:(Ay P s o.dst T X (s.ev x) (s.ev y)).eval=some s'):xc P Γ bK ops o s s':=by
 have Dw:∀t:AS,mN P Γ bK o t=Ay P t o.dst T X (t.ev x) (t.ev y):=λt=>by
  unfold mN
  rw[dr]
  simp only[hc,ha,ht]
 have tp:∀z,z=x\/z=y->z∈o.op.operands.toList:=λz hz=>by
  rw[dr]
  simp only[Op.operands,Call.operands,hc,aR,bW,ha]
  simpa using hz
 have hx:∀t,kR (gS Γ ops s o) s t->t.ev x=s.ev x:=λt h=>h.ev (tp x (.inl rfl))
 have hy:∀t,kR (gS Γ ops s o) s t->t.ev y=s.ev y:=λt h=>h.ev (tp y (.inr rfl))
 have hm:∀t,kR (gS Γ ops s o) s t->∀ty,uQ P t ty X (s.ev y)=uQ P s ty X (s.ev y):=λt h ty=>zs λid dq=>h.Ff (DK dr rfl) (tp y (.inr rfl)) dq
 unfold Ay at he
 split at he
 ·rename_i e t b id ver len vL Hs
  obtain⟨m,h1,he⟩:=ak.1 he
  split at he
  ·rename_i ve n t' l kr
   obtain⟨h2,xr⟩:=ay.1 he
   obtain⟨l',h3,Cz⟩:=ak.1 xr
   obtain⟨h4,SL⟩:=bO.1 Cz
   obtain rfl:=ao.1 SL
   have hw:id∈(gS Γ ops s o).ws:=by
    show id∈writes Γ s o
    unfold writes
    rw[dr]
    simp only[hc,ha,Hs]
    simp[av.ids]
   refine tr (eH kr) hw λt ht KI=> ?_
   rw[Dw t,hx t ht,hy t ht]
   have hob':t.obj id=some (ve,false,.d (.arr n t') l):=by simp only[AS.obj,KI];exact kr
   unfold Ay
   simp only[vL,Hs]
   refine ak.2 ⟨m,by rw[hm t ht];exact h1,?_⟩
   simp only[hob']
   exact ay.2 ⟨h2,ak.2 ⟨l',h3,bO.2 ⟨h4,ao.2 rfl⟩⟩⟩
  ·exact(ai.1 he).elim
 ·exact(ai.1 he).elim
theorem Ed{c:Call}{x y:Operand}{T X:TypeId}(dr:o.op= .call c)(hc:c.callee= .builtin .append)(ha:c.args.toList=[x,y])(ht:c.argTypes.toList=[T,X])(fL:∀k n,s.ev x= .di->s.ev y= .d (.int k) n->False){s':AS}
  (he:(qA P s (KL bK o.dst) (Ig bK o.dst) o.dst T X (s.ev x) (s.ev y)).eval=some s'):xc P Γ bK ops o s s':=by
 have Dw:∀t:AS,t.ev x=s.ev x->t.ev y=s.ev y->mN P Γ bK o t=qA P t (KL bK o.dst) (Ig bK o.dst) o.dst T X (t.ev x) (t.ev y):=λt e1 e2=>by
  unfold mN
  rw[dr]
  simp only[hc,ha,ht]
  split
  ·rename_i k n hx hy
   rw[e1]at hx
   rw[e2]at hy
   exact(fL k n hx hy).elim
  ·rfl
 have tp:∀z,z=x\/z=y->z∈o.op.operands.toList:=λz hz=>by
  rw[dr]
  simp only[Op.operands,Call.operands,hc,aR,bW,ha]
  simpa using hz
 have hx:∀t,kR (gS Γ ops s o) s t->t.ev x=s.ev x:=λt h=>h.ev (tp x (.inl rfl))
 have hy:∀t,kR (gS Γ ops s o) s t->t.ev y=s.ev y:=λt h=>h.ev (tp y (.inr rfl))
 have hm:∀t,kR (gS Γ ops s o) s t->∀ty,uQ P t ty X (s.ev y)=uQ P s ty X (s.ev y):=λt h ty=>zs λid dq=>h.Ff (DK dr rfl) (tp y (.inr rfl)) dq
 unfold qA at he
 split at he
 ·rename_i e ty b q vL hd
  obtain⟨m,h1,h2⟩:=ak.1 he
  split at h2
  ·rename_i T6
   cases SK:Ig bK o.dst with
   |true=>
    rw[SK]at h2
    simp only at h2
    obtain⟨h5,h6⟩:=bO.1 h2
    obtain rfl:=ao.1 h6
    refine kA λt ht=> ?_
    rw[Dw t (hx t ht) (hy t ht),hx t ht,hy t ht]
    unfold qA
    simp only[hd]at SK vL ⊢
    simp only[vL,T6,SK]
    refine ak.2 ⟨m,by rw[hm t ht];exact h1,?_⟩
    exact bO.2 ⟨h5,ao.2 rfl⟩
   |false=>
   rw[SK]at h2
   simp only at h2
   obtain⟨h3,h4⟩:=ay.1 h2
   obtain⟨h5,h6⟩:=bO.1 h4
   obtain rfl:=ao.1 h6
   refine rn (ids:=[]) hd h3 (λ_ h=>by cases h) λt ht hv=> ?_
   rw[Dw t (hx t ht) (hy t ht),hx t ht,hy t ht]
   unfold qA
   simp only[hd]at SK vL ⊢
   simp only[vL,T6,SK]
   refine ak.2 ⟨m,by rw[hm t ht];exact h1,?_⟩
   exact ay.2 ⟨hv,bO.2 ⟨h5,ao.2 rfl⟩⟩
  ·rename_i id ver len T6
   split at h2
   ·rename_i v fr e' t' l kr
    obtain⟨h3,h4⟩:=ay.1 h2
    obtain⟨l',h5,h6⟩:=ak.1 h4
    obtain⟨h7,h8⟩:=bO.1 h6
    obtain⟨h9,Tr⟩:=bO.1 h8
    obtain⟨Yx,LH⟩:=bO.1 Tr
    obtain rfl:=ao.1 LH
    have hw:id∈(gS Γ ops s o).ws:=by
     show id∈writes Γ s o
     unfold writes
     rw[dr]
     simp only[hc,ha,T6]
     simp[av.ids]
    refine tr (eH kr) hw λt ht KI=> ?_
    rw[Dw t (hx t ht) (hy t ht),hx t ht,hy t ht]
    have hob':t.obj id=some (v,fr,.vec e' t' l):=by simp only[AS.obj,KI];exact kr
    unfold qA
    simp only[hd]at vL ⊢
    simp only[vL,T6]
    refine ak.2 ⟨m,by rw[hm t ht];exact h1,?_⟩
    simp only[hob']
    exact ay.2 ⟨h3,ak.2 ⟨l',h5,bO.2 ⟨h7,bO.2 ⟨h9,bO.2 ⟨Yx,ao.2 rfl⟩⟩⟩⟩⟩
   ·simp only[ai]at h2
  ·simp only[ai]at h2
 ·simp only[ai]at he
theorem yV:∀(n:Nat) (todo acc:List Id),∀id∈acc,id∈s.reach n todo acc
 | 0,_,_,id,h=>h
 |_+1,[],_,id,h=>h
 |n+1,x::todo,acc,id,h=>by
  rw[AS.reach]
  split
  ·exact yV n todo acc id h
  ·exact yV n _ _ id (bt.2 (.inl h))
theorem pQ:∀(n:Nat) (todo acc:List Id),(∀id∈s.reach n todo acc,((t.bZ id).getD .dead).ids=((s.bZ id).getD .dead).ids)->t.reach n todo acc=s.reach n todo acc
 | 0,_,_,_=>rfl
 |_+1,[],_,_=>rfl
 |n+1,x::todo,acc,h=>by
  rw[AS.reach]at h
  rw[AS.reach,AS.reach]
  split
  ·rename_i hc
   rw[if_pos hc]at h
   exact pQ n todo acc h
  ·rename_i hc
   rw[if_neg hc]at h
   have hx:=h x (yV n _ _ x (bt.2 (.inr (bI.2 rfl))))
   rw[hx]
   exact pQ n _ _ h
theorem O0(e:Option dS):((e.map dS.Jq).getD .dead).ids=(e.getD .dead).ids:=by
 cases e with
 |none=>rfl
 |some x=>cases x <;> rfl
theorem zU(ids:List Id)(n:Nat)(todo acc:List Id):(s.bl ids).reach n todo acc=s.reach n todo acc:=by
 refine pQ n todo acc λid _=> ?_
 rw[fH]
 split
 ·exact O0 _
 ·rfl
theorem wx:∀(ps:List (Option Ty)) (vs:List av),(∀v∈vs,∀id∈v.ids,qR (t.bZ id) (s.bZ id))->t.conv ps vs=s.conv ps vs
 |[],[],_=>rfl
 |[],_::_,_=>rfl
 |some _::_,[],_=>rfl
 |none::_,[],_=>rfl
 |some ty::ps,v::vs,h=>by
  simp only[AS.conv]
  rw[mn v ty (h v (aH ..)),wx ps vs λx hx=>h x (aF _ hx)]
 |none::ps,v::vs,h=>by
  simp only[AS.conv]
  rw[wx ps vs λx hx=>h x (aF _ hx)]
theorem wy:∀(ps:List (Option Ty)) (vs:List av) (r:List av×List Id),(s.conv ps vs).eval=some r->r.1.flatMap av.ids=px ps vs/\∀id∈r.2,∃v∈vs,id∈v.ids
 |[],[],r,h=>by
  simp only[AS.conv,ao]at h
  subst h
  exact⟨rfl,λ_ h=>by cases h⟩
 |some ty::ps,v::vs,r,h=>by
  simp only[AS.conv]at h
  obtain⟨x,h1,h2⟩:=ak.1 h
  obtain⟨r',h3,h4⟩:=ak.1 h2
  obtain rfl:=ao.1 h4
  obtain⟨i1,i2⟩:=wy ps vs r' h3
  refine⟨by simp[px,i1,av.ids],λid dq=> ?_⟩
  rcases bt.1 dq with dq | dq
  ·exact⟨v,aH ..,pg v id dq⟩
  ·obtain⟨u,hu,Fe⟩:=i2 id dq
   exact⟨u,aF _ hu,Fe⟩
 |none::ps,v::vs,r,h=>by
  simp only[AS.conv]at h
  obtain⟨r',h3,h4⟩:=ak.1 h
  obtain rfl:=ao.1 h4
  obtain⟨i1,i2⟩:=wy ps vs r' h3
  refine⟨by simp[px,i1],λid dq=> ?_⟩
  obtain⟨u,hu,Fe⟩:=i2 id dq
  exact⟨u,aF _ hu,Fe⟩
 |[],_::_,_,h=>by simp only[AS.conv,ai]at h
 |some _::_,[],_,h=>by simp only[AS.conv,ai]at h
 |none::_,[],_,h=>by simp only[AS.conv,ai]at h
theorem Gl:∀(c:av),∀v∈c.list,∀id∈v.ids,id∈c.ids
 | .cons a b,v,hv,id,dq=>by
  simp only[av.list,cX]at hv
  simp only[av.ids,bt]
  rcases hv with rfl | hv
  ·exact .inl dq
  ·exact .inr (Gl b v hv id dq)
 | .sb _,_,h,_,_ | .undef,_,h,_,_ | .gone,_,h,_,_ | .di,_,h,_,_ | .mO,_,h,_,_ | .pL,_,h,_,_ | .sx,_,h,_,_ | .d _ _,_,h,_,_ | .ptr ..,_,h,_,_ | .eD ..,_,h,_,_
 | .fn ..,_,h,_,_ | .pr ..,_,h,_,_ | .nil,_,h,_,_ | .vec ..,_,h,_,_ | .bx ..,_,h,_,_ | .db ..,_,h,_,_ | .mp ..,_,h,_,_ | .nH ..,_,h,_,_ | .yl ..,_,h,_,_ | .mr ..,_,h,_,_ | .aS ..,_,h,_,_=>by simp[av.list]at h
theorem zC{ids:List Id}(h:∀id∈ids,t.bZ id=s.bZ id):t.pT ids=s.pT ids:=by
 funext id ver
 unfold AS.pT
 cases hi:idxOf id ids with
 |none=>rfl
 |some k=>
  have:t.obj id=s.obj id:=by simp only[AS.obj,h id (dd (nE hi))]
  rw[this]
theorem zI{id:Id}(h:t.bZ id=s.bZ id):t.sj id=s.sj id:=by simp only[AS.sj,AS.obj,h]
theorem xP{ids:List Id}(h:∀id∈ids,t.bZ id=s.bZ id)(q:Nat):t.pf ids q=s.pf ids q:=by
 funext id ver
 cases id with
 |new i j=>rfl
 |aV k=>
  simp only[AS.pf]
  cases hk:ids[k]? with
  |none=>rfl
  |some id=>simp only[zI (h id (dd hk))]
theorem xk{ids:List Id}(h:∀id∈ids,t.bZ id=s.bZ id)(q b:Nat):t.nA ids q b=s.nA ids q b:=by
 funext e
 cases e <;> simp only[AS.nA,xP h]
theorem FR{ids:List Id}(h:∀id∈ids,t.bZ id=s.bZ id){id:Id}(dq:id∈ids):t.lr ids id=s.lr ids id:=by
 unfold AS.lr
 rw[h id dq,zC h]
def lK(s:AS)(ids:List Id)(d:Option Tmp)(G:gV):AS:=
 (AS.jy s ids (d.getD 0) (s.made ids (d.getD 0) G.news) ids G.cz).put d (G.val.iW (s.pf ids (d.getD 0)))
theorem Db{ids:List Id}{d:Option Tmp}{G:gV}{s':AS}:(s.back ids d G).eval=some s'↔(G.cz.length=ids.length/\(G.news=[]\/∃q,d=some q/\s.ek q=true))/\s'=lK s ids d G:=by
 unfold AS.back
 cases d with
 |none=>
  rw[ay,ao]
  simp only[aj,beq_iff_eq,List.isEmpty_iff,lK,AS.put,Option.getD_none]
  constructor
  ·rintro⟨⟨h1,h2⟩,rfl⟩
   rw[h2];exact⟨⟨h1,.inl rfl⟩,rfl⟩
  ·rintro⟨⟨h1,h2⟩,rfl⟩
   rcases h2 with h2 | ⟨q,hq,_⟩
   ·rw[h2];exact⟨⟨h1,rfl⟩,rfl⟩
   ·cases hq
 |some q=>
  rw[ay,ao]
  simp only[aj,beq_iff_eq,ix,List.isEmpty_iff,lK,dW]
  constructor
  ·rintro⟨⟨h1,h2⟩,rfl⟩
   exact⟨⟨h1,h2.imp id λh=>⟨q,rfl,h⟩⟩,rfl⟩
  ·rintro⟨⟨h1,h2⟩,rfl⟩
   refine⟨⟨h1,h2.imp id λ⟨q',hq,h⟩=> ?_⟩,rfl⟩
   obtain rfl:q=q':=by simpa using hq
   exact h
theorem zl(s0:AS)(all:List Id)(q:Nat):∀(ids:List Id) (es:List dS) (s:AS),(AS.jy s0 all q s ids es).news.length=s.news.length
 |[],_,_=>by simp[AS.jy]
 |_::_,[],_=>by simp[AS.jy]
 |id::ids,e::es,s=>by rw[AS.jy,zl s0 all q ids es,wJ]
theorem M4(s:AS)(ids:List Id)(q:Nat)(es:List dS):(s.made ids q es).news.length=s.news.length:=by
 cases es <;> simp[AS.made,AS.born]
def vF(ids:List Id)(d:Option Tmp)(G:gV)(id:Id):Prop:=id∈ids\/(G.news≠ []/\∃q j,d=some q/\id= .new q j)
theorem Ar{ids:List Id}{d:Option Tmp}{G:gV}(hn:ids.Nodup)(hp:∀id∈ids,s.bZ id≠none)(hl:G.cz.length=ids.length)(hv:G.news=[]\/∃q,d=some q/\s.ek q=true):
  (∀id,¬vF ids d G id->(lK s ids d G).bZ id=s.bZ id)/\
  (∀(k:Nat) (id:Id) (e:dS),ids[k]? =some id->G.cz[k]? =some e->(lK s ids d G).bZ id=some (s.nA ids (d.getD 0) (s.sj id) e))/\
  (∀q j,G.news≠ []->d=some q->(lK s ids d G).bZ (.new q j)=(G.news[j]?).map (s.nA ids q 0))/\
  (∀q j,G.news≠ []->d=some q->s.bZ (.new q j)=none):=by
 have hv':G.news=[]\/s.ek (d.getD 0)=true:=by
  rcases hv with h | ⟨q,rfl,h⟩
  ·exact .inl h
  ·exact .inr h
 obtain⟨m1,m2⟩:=FT s ids (d.getD 0) G.news hv'
 have P4:∀q j,G.news≠ []->d=some q->s.bZ (.new q j)=none:=λq j h1 h2=>by
  rcases hv' with h | h
  ·exact absurd h h1
  ·subst h2;exact(rI.1 h).2 j
 have vM:∀id,s.bZ id≠none->G.news=[]\/∀j,id≠ .new (d.getD 0) j:=λid dq=>by
  rcases hv with h | ⟨q,rfl,h⟩
  ·exact .inl h
  ·exact .inr λj e=>dq (by rw[e];exact(rI.1 h).2 j)
 obtain⟨n1,n2⟩:=uD s ids (d.getD 0) ids G.cz (s.made ids (d.getD 0) G.news) hn hl (λid dq=>by rw[m1 id (vM id (hp id dq))];exact hp id dq)
 refine⟨λid dq=> ?_,λk id e h1 h2=> ?_,λq j h1 h2=> ?_,P4⟩
 ·unfold vF at dq
  simp only[not_or]at dq
  rw[lK,vk,n1 id dq.1]
  refine m1 id ?_
  by_cases fL:G.news=[]
  ·exact .inl fL
  ·right
   intro j e
   rcases hv with h | ⟨q,hq,_⟩
   ·exact fL h
   ·exact dq.2 ⟨fL,q,j,hq,by rw[e,hq];rfl⟩
 ·rw[lK,vk,n2 k id e h1 h2]
 ·subst h2
  have Wv:Id.new q j ∉ ids:=λdq=>hp _ dq (P4 q j h1 rfl)
  rw[lK,vk,n1 _ Wv]
  exact m2 h1 j
open Classical in
theorem HN{c:Call}{F:Operand}{f:FuncId}{caps:av}{en:Entry}(dr:o.op= .call c)(hc:c.callee= .value F)(hF:s.ev F= .fn f caps)(hΓ:Γ f (c.args.toList.map s.ev++caps.list)=some en)(iv:Nat.blt f yB=true){s':AS}
  (he:(s.call en o.dst (c.args.toList.map s.ev++caps.list)).eval=some s'):xc P Γ bK ops o s s':=by
 have tp:∀z,z=F\/z∈c.args.toList->z∈o.op.operands.toList:=λz hz=>by
  rw[dr]
  simp only[Op.operands,Call.operands,hc,bW,bt]
  rcases hz with rfl | hz
  ·exact .inl (by simp)
  ·exact .inr hz
 have MR:∀v∈c.args.toList.map s.ev++caps.list,∀id∈v.ids,id∈(gS Γ ops s o).rs:=λv hv id dq=>by
  rcases bt.1 hv with hv | hv
  ·obtain⟨x,hx,rfl⟩:=eJ.1 hv
   exact wH (DK dr rfl) (tp x (.inr hx)) dq
  ·refine wH (DK dr rfl) (tp F (.inl rfl)) ?_
   rw[hF]
   exact Gl caps v hv id dq
 generalize zi:c.args.toList.map s.ev++caps.list=vs at he MR hΓ
 have Ob:(gS Γ ops s o).ws=s.reach 64 (px en.params vs) []:=by
  show writes Γ s o=_
  unfold writes
  rw[dr]
  simp only[hc,hF,zi,hΓ]
 have Dw:∀t,kR (gS Γ ops s o) s t->mN P Γ bK o t=t.call en o.dst vs:=λt ht=>by
  unfold mN
  rw[dr]
  have h1:t.ev F= .fn f caps:=by rw[ht.ev (tp F (.inl rfl)),hF]
  have h2:c.args.toList.map t.ev=c.args.toList.map s.ev:=gr λx hx=>ht.ev (tp x (.inr hx))
  obtain⟨cal,args,tys⟩:=c
  simp only at hc zi h2
  subst hc
  simp only[h1,h2,zi,hΓ,iv,Out.guard]
 unfold AS.call at he
 obtain⟨r,h1,h2⟩:=ak.1 he
 obtain⟨Rs,Ga⟩:=wy _ _ r h1
 have hlends:∀t:AS,(t.bl r.2).JE r.1=t.reach 64 (px en.params vs) []:=λt=>by
  unfold AS.JE
  rw[zU,Rs]
 rw[hlends]at h2
 generalize hW:s.reach 64 (px en.params vs) []=W at h2 Ob
 have hWn:W.Nodup:=by rw[<-hW];exact pR s _ _ _ (by simp)
 unfold AS.enter at h2
 obtain⟨uH,h3⟩:=ay.1 h2
 obtain⟨x,hx,h4⟩:=pI.1 h3
 obtain⟨x0,Uk,h4⟩:=ak.1 h4
 have WV:=en.NL _ _ Uk
 rw[WV]at h4 Uk
 obtain⟨⟨hl,hv⟩,rfl⟩:=Db.1 h4
 generalize hG:en.out (r.1.map (av.iW ((s.bl r.2).pT W))) (W.map ((s.bl r.2).lr W)) x=G at hl hv h4 ⊢
 have hp:∀id∈W,(s.bl r.2).bZ id≠none:=λid dq=>by
  have:=(aj _ _▸dv.1 uH id dq).1
  obtain⟨⟨v,fr,c⟩,hr⟩:=bY.1 this
  rw[eH hr];simp
 obtain⟨b1,b2,b3,b4⟩:=Ar (s:=s.bl r.2) (d:=o.dst) hWn hp hl hv
 have hfzent:∀(u:AS) id,u.bZ id=none↔(u.bl r.2).bZ id=none:=λu id=>by
  rw[fH];split <;> simp
 let E:Su:=⟨G.val.iW ((s.bl r.2).pf W (o.dst.getD 0)),λid=>if vF W o.dst G id then(lK (s.bl r.2) W o.dst G).bZ id else none,r.2⟩
 have hslots:∀u:AS,(lK (u.bl r.2) W o.dst G).cr=(u.put o.dst (G.val.iW ((u.bl r.2).pf W (o.dst.getD 0)))).cr:=λu=>by
  unfold lK
  cases o.dst <;> simp[AS.put,sC,Ca,lC]
 have hlen:∀u:AS,(lK (u.bl r.2) W o.dst G).news.length=u.news.length:=λu=>by
  unfold lK
  cases o.dst <;> simp[AS.put,zl,M4,mZ]
 refine⟨E,⟨hslots s,hlen s,λid=> ?_⟩,⟨λid e zP=> ?_,λid dq=> ?_⟩,λt ht=> ?_⟩
 ·by_cases LM:vF W o.dst G id
  ·have zP:E.up id=(lK (s.bl r.2) W o.dst G).bZ id:=if_pos LM
   rw[zP]
   cases hb:(lK (s.bl r.2) W o.dst G).bZ id with
   |some e=>rfl
   |none=>
    rcases LM with dq | ⟨fL,q,j,hq,rfl⟩
    ·obtain⟨k,hk⟩:=jS.1 dq
     have iv:k < G.cz.length:=by rw[hl];exact(dL.1 hk).1
     rw[b2 k id _ hk (cj iv)]at hb
     cases hb
    ·have:=(hfzent s _).2 (b4 q j fL hq)
     simp[this]
  ·have zP:E.up id=none:=if_neg LM
   rw[zP,b1 id LM,fH]
 ·by_cases LM:vF W o.dst G id
  ·rcases LM with dq | ⟨_,q,j,hq,rfl⟩
   ·left
    refine⟨by rw[Ob];exact dq,λh=>hp id dq ((hfzent s id).1 h)⟩
   ·exact .inr ⟨q,j,hq,rfl⟩
  ·have:E.up id=none:=if_neg LM
   rw[this]at zP;cases zP
 ·obtain⟨v,hv,dq⟩:=Ga id dq
  exact MR v hv id dq
 ·have TI:t.conv en.params vs=s.conv en.params vs:=wx _ _ λv hv id dq=>ht.rs id (MR v hv id dq)
  have w7:∀id∈W,t.bZ id=s.bZ id:=λid dq=>ht.ws id (by rw[Ob];exact dq)
  have F5:∀id∈W,(t.bl r.2).bZ id=(s.bl r.2).bZ id:=λid dq=>by
   rw[fH,fH,w7 id dq]
  have hWt:t.reach 64 (px en.params vs) []=W:=by
   rw[<-hW]
   refine pQ _ _ _ λid dq=> ?_
   rw[w7 id (by rw[<-hW];exact dq)]
  have Uj:G.news=[]\/∃q,o.dst=some q/\(t.bl r.2).ek q=true:=hv.imp id λ⟨q,hq,h⟩=>⟨q,hq,by
   rw[pj]at h ⊢
   rw[ht.ek q hq];exact h⟩
  have SR:∀id∈W,(t.bl r.2).bZ id≠none:=λid dq=>by rw[F5 id dq];exact hp id dq
  obtain⟨d1,d2,d3,d4⟩:=Ar (s:=t.bl r.2) (d:=o.dst) hWn SR hl Uj
  refine⟨lK (t.bl r.2) W o.dst G,?_,⟨?_,hlen t,λid=> ?_⟩⟩
  ·rw[Dw t ht]
   unfold AS.call
   rw[TI]
   refine ak.2 ⟨r,h1,?_⟩
   rw[hlends,hWt]
   unfold AS.enter
   have hA:(t.bl r.2).pT W=(s.bl r.2).pT W:=zC F5
   have hO:W.map ((t.bl r.2).lr W)=W.map ((s.bl r.2).lr W):=gr λid dq=>FR F5 dq
   refine ay.2 ⟨?_,pI.2 ⟨x,?_,ak.2 ⟨x,Uk,?_⟩⟩⟩
   ·refine dv.2 λid dq=> ?_
    have:=dv.1 uH id dq
    simp only[AS.obj,AS.A9]at this ⊢
    rw[F5 id dq]
    exact this
   ·rw[hA,hO,<-hx]
   ·rw[hA,hO,hG]
    exact Db.2 ⟨⟨hl,Uj⟩,rfl⟩
  ·rw[hslots t,xP F5]
  ·by_cases LM:vF W o.dst G id
   ·have zP:E.up id=(lK (s.bl r.2) W o.dst G).bZ id:=if_pos LM
    rw[zP]
    rcases LM with dq | ⟨fL,q,j,hq,rfl⟩
    ·obtain⟨k,hk⟩:=jS.1 dq
     have iv:k < G.cz.length:=by rw[hl];exact(dL.1 hk).1
     rw[b2 k id _ hk (cj iv),d2 k id _ hk (cj iv),xk F5,zI (F5 id dq)]
    ·rw[b3 q j fL hq,d3 q j fL hq,xk F5]
     cases hn:G.news[j]? with
     |some e=>rfl
     |none=>
      have:=(hfzent t _).2 (d4 q j fL hq)
      simp[this]
   ·have zP:E.up id=none:=if_neg LM
    rw[zP,d1 id LM,fH]
end
end Go.Ab
namespace Go.Ab
section
variable {P:Program} {Γ:mR} {bK:List Nat} {ops:Array Oper} {o:Oper} {s t:AS}
theorem Out.bind_assoc{α β γ:Type}(o:Out α)(f:α->Out β)(g:β->Out γ):(o.bind f).bind g=o.bind λa=>(f a).bind g:=by
 induction o with
 |ok a=>rfl
 |fail=>rfl
 |oO c r ih=>simp only[Out.bind,ih]
 |get x h ih=>simp only[Out.bind,ih]
 |br c x y ih1 ih2=>simp only[Out.bind,ih1,ih2]
theorem GO{parts:Array (Nat×Operand)}{x:Nat×Operand}(h:x∈parts.toList):x.2∈(parts.toList.map (·.2)).toArray.toList:=eJ.2 ⟨x,h,rfl⟩
theorem Ki{T:TypeId}{x:Operand}(dr:o.op= .box T x){s':AS}(he:(FA P s (isObj bK o.dst) (Ig bK o.dst) o.dst T (s.ev x)).eval=some s'):xc P Γ bK ops o s s':=by
 have Dw:∀t,mN P Γ bK o t=FA P t (isObj bK o.dst) (Ig bK o.dst) o.dst T (t.ev x):=λt=>by unfold mN;rw[dr]
 have hm:x∈o.op.operands.toList:=by rw[dr];simp[Op.operands]
 unfold FA at he
 split at he
 ·rename_i q hd
  split at he
  ·rename_i ho
   obtain⟨h1,h2⟩:=ay.1 he
   obtain rfl:=ao.1 h2
   simp only[aj]at h1
   refine rn (ids:=[]) hd h1.1 (λ_ h=>by cases h) λt ht hv=> ?_
   rw[Dw,ht.ev hm]
   unfold FA
   simp only[hd]at ho ⊢
   simp only[ho]
   exact ay.2 ⟨by simp[hv,h1.2],ao.2 rfl⟩
  ·rename_i ho
   split at he
   ·rename_i ty Uf
    obtain⟨h1,h2⟩:=ay.1 he
    obtain⟨y,h3,h4⟩:=ak.1 h2
    obtain rfl:=ao.1 h4
    refine Ah (λid dq=>wH (DK dr rfl) hm (pg _ _ dq)) λt ht=> ?_
    rw[Dw,ht.ev hm]
    unfold FA
    simp only[hd]at ho ⊢
    simp only[ho,Uf]
    refine ay.2 ⟨h1,ak.2 ⟨y,?_,ao.2 rfl⟩⟩
    rw[mn _ _ λid dq=>ht.Ff (DK dr rfl) hm dq];exact h3
   ·simp only[ai]at he
 ·simp only[ai]at he
theorem Hi{T:TypeId}{x:Operand}(dr:o.op= .sliceToArrayPointer T x){s':AS}(he:(wW P s o.dst T (s.ev x)).eval=some s'):xc P Γ bK ops o s s':=by
 have Dw:∀t,mN P Γ bK o t=wW P t o.dst T (t.ev x):=λt=>by unfold mN;rw[dr]
 have hm:x∈o.op.operands.toList:=by rw[dr];simp[Op.operands]
 unfold wW at he
 split at he
 ·rename_i n e hT
  split at he
  ·rename_i ty Uf
   obtain⟨h1,h2⟩:=ay.1 he
   obtain⟨l,h3,h4⟩:=ak.1 h2
   obtain⟨h5,h6⟩:=bO.1 h4
   obtain rfl:=ao.1 h6
   refine Ah (λid dq=>wH (DK dr rfl) hm (pg _ _ dq)) λt ht=> ?_
   rw[Dw,ht.ev hm]
   unfold wW
   simp only[hT,Uf]
   refine ay.2 ⟨h1,ak.2 ⟨l,?_,bO.2 ⟨h5,ao.2 rfl⟩⟩⟩
   rw[mn _ _ λid dq=>ht.Ff (DK dr rfl) hm dq];exact h3
  ·simp only[ai]at he
 ·simp only[ai]at he
theorem FD{T:TypeId}{parts:Array (Nat×Operand)}(dr:o.op= .build T parts){s':AS}(he:(uA P s o.dst T parts.toList).eval=some s'):xc P Γ bK ops o s s':=by
 have Dw:∀t,mN P Γ bK o t=uA P t o.dst T parts.toList:=λt=>by unfold mN;rw[dr]
 have hm:∀x∈parts.toList,x.2∈o.op.operands.toList:=λx hx=>by rw[dr];exact GO hx
 unfold uA at he
 split at he
 ·rename_i fs hT
  split at he
  ·rename_i z hz
   obtain⟨h1,h2⟩:=ay.1 he
   obtain⟨v,h3,h4⟩:=ak.1 h2
   obtain rfl:=ao.1 h4
   refine kA λt ht=> ?_
   rw[Dw]
   unfold uA
   simp only[hT,hz]
   refine ay.2 ⟨h1,ak.2 ⟨v,?_,ao.2 rfl⟩⟩
   rw[ug _ _ λx hx=>ht.ev (hm x hx)];exact h3
  ·simp only[ai]at he
 ·rename_i n e hT
  split at he
  ·rename_i ty Uf
   obtain⟨h1,h2⟩:=ay.1 he
   obtain⟨r,h3,h4⟩:=ak.1 h2
   obtain rfl:=ao.1 h4
   refine Ah (λid dq=> ?_) λt ht=> ?_
   ·obtain⟨x,hx,hi⟩:=ql _ _ _ h3 id dq
    exact wH (DK dr rfl) (hm x hx) hi
   ·rw[Dw]
    unfold uA
    simp only[hT,Uf]
    refine ay.2 ⟨h1,ak.2 ⟨r,?_,ao.2 rfl⟩⟩
    rw[rB _ _ λx hx=>⟨ht.ev (hm x hx),λid dq=>ht.Ff (DK dr rfl) (hm x hx) dq⟩];exact h3
  ·simp only[ai]at he
 ·simp only[ai]at he
theorem yA{T:TypeId}{n:Nat}{parts:Array (Nat×Operand)}(dr:o.op= .buildSlice T n parts){s':AS}(he:(kU P s (KL bK o.dst) (isObj bK o.dst) o.dst T n parts.toList).eval=some s'):xc P Γ bK ops o s s':=by
 have Dw:∀t,mN P Γ bK o t=kU P t (KL bK o.dst) (isObj bK o.dst) o.dst T n parts.toList:=λt=>by unfold mN;rw[dr]
 have hm:∀x∈parts.toList,x.2∈o.op.operands.toList:=λx hx=>by rw[dr];exact GO hx
 unfold kU at he
 split at he
 ·rename_i e ty b q vL hd
  obtain⟨h1,h2⟩:=ay.1 he
  obtain⟨r,h3,h4⟩:=ak.1 h2
  have MN:∀id∈r.2,id∈(gS Γ ops s o).rs:=λid dq=>by
   obtain⟨x,hx,hi⟩:=ql _ _ _ h3 id dq
   exact wH (DK dr rfl) (hm x hx) hi
  have TI:∀t,kR (gS Γ ops s o) s t->∀l,jt ty t parts.toList l=jt ty s parts.toList l:=λt ht l=>rB _ _ λx hx=>⟨ht.ev (hm x hx),λid dq=>ht.Ff (DK dr rfl) (hm x hx) dq⟩
  split at h4
  ·rename_i ho
   obtain⟨h5,h6⟩:=ay.1 h4
   obtain rfl:=ao.1 h6
   refine rn hd h5 MN λt ht hv=> ?_
   rw[Dw]
   unfold kU
   simp only[hd]at ho vL ⊢
   simp only[vL,ho]
   refine ay.2 ⟨h1,ak.2 ⟨r,by rw[TI t ht];exact h3,ay.2 ⟨hv,ao.2 rfl⟩⟩⟩
  ·rename_i ho
   obtain rfl:=ao.1 h4
   refine Ah MN λt ht=> ?_
   rw[Dw]
   unfold kU
   simp only[hd]at ho vL ⊢
   simp only[vL,ho]
   exact ay.2 ⟨h1,ak.2 ⟨r,by rw[TI t ht];exact h3,ao.2 rfl⟩⟩
 ·simp only[ai]at he
theorem zR{T:TypeId}{x y:Operand}(dr:o.op= .makeSlice T x y){len cap:Int}(hx:(asInt (s.ev x)).eval=some len)(hy:(asInt (s.ev y)).eval=some cap){s':AS}(he:(nJ P s o.dst T len cap).eval=some s'):xc P Γ bK ops o s s':=by
 have Dw:∀t,mN P Γ bK o t=(asInt (t.ev x)).bind λl=>(asInt (t.ev y)).bind λc=>nJ P t o.dst T l c:=λt=>by unfold mN;rw[dr]
 have hm:∀z,z=x\/z=y->z∈o.op.operands.toList:=λz hz=>by rw[dr];simpa[Op.operands]using hz
 unfold nJ at he
 split at he
 ·rename_i e ty b q vL hd
  obtain⟨h1,h2⟩:=ay.1 he
  obtain⟨h3,h4⟩:=bO.1 h2
  obtain rfl:=ao.1 h4
  refine rn (ids:=[]) hd h1 (λ_ h=>by cases h) λt ht hv=> ?_
  rw[Dw,ht.ev (hm x (.inl rfl)),ht.ev (hm y (.inr rfl))]
  refine ak.2 ⟨len,hx,ak.2 ⟨cap,hy,?_⟩⟩
  unfold nJ
  simp only[vL,hd]
  exact ay.2 ⟨hv,bO.2 ⟨h3,ao.2 rfl⟩⟩
 ·simp only[ai]at he
theorem EN{id:Id}{ver:Nat}{kt vt:Ty}(h:qR (t.bZ id) (s.bZ id)):t.oB id ver kt vt=s.oB id ver kt vt:=by
 unfold AS.oB
 rcases xZ h with⟨h1,h2⟩ | ⟨v,f,f',c,h1,h2⟩
 ·rw[h1,h2]
 ·rw[h1,h2]
  cases c <;> rfl
theorem CM{T:TypeId}{m k:av}{ok:Bool}(h:∀id∈m.ids,qR (t.bZ id) (s.bZ id)):tt P t T m k ok=tt P s T m k ok:=by
 unfold tt
 split
 ·rename_i id ver hm
  rw[EN (h id (by simp[av.ids]))]
 ·rfl
theorem Dz{id:Id}{ver:Nat}{kt vt:Ty}{l:List (kt.den×vt.den)}(h:(s.oB id ver kt vt).eval=some l):∃e,s.bZ id=some e:=by
 unfold AS.oB at h
 split at h
 ·rename_i v fr k' v' l' kr
  exact⟨_,eH kr⟩
 ·simp only[ai]at h
theorem zo{id:Id}{ver:Nat}{kt vt:Ty}(h:t.bZ id=s.bZ id):t.oB id ver kt vt=s.oB id ver kt vt:=by
 unfold AS.oB AS.obj
 rw[h]
theorem wg{id:Id}(h:t.bZ id=s.bZ id):t.oL id=s.oL id:=by
 unfold AS.oL AS.obj
 rw[h]
theorem CP{T:TypeId}{m k v:av}{s':AS}(h:(tx P s T m k v).eval=some s'):
  ∃id e0 e,m.ids=[id]/\s.bZ id=some e0/\s'=s.aO id e/\∀t:AS,t.bZ id=s.bZ id->(tx P t T m k v).eval=some (t.aO id e):=by
 unfold tx at h
 split at h
 ·rename_i K V kt vt id ver hm
  obtain⟨l,h1,h⟩:=ak.1 h
  obtain⟨kx,h2,h⟩:=ak.1 h
  obtain⟨vx,h3,h⟩:=ak.1 h
  obtain⟨hu,h⟩:=ay.1 h
  obtain rfl:=ao.1 h
  obtain⟨e0,Cy⟩:=Dz h1
  refine⟨id,e0,_,rfl,Cy,rfl,λt ht=> ?_⟩
  unfold tx
  simp only[hm]
  exact ak.2 ⟨l,by rw[zo ht];exact h1,ak.2 ⟨kx,h2,ak.2 ⟨vx,h3,ay.2 ⟨by rw[wg ht];exact hu,ao.2 rfl⟩⟩⟩⟩
 ·simp only[ai]at h
theorem CO{T:TypeId}{m k:av}{s':AS}(h:(tw P s T m k).eval=some s'):
  ∃id e0 e,m.ids=[id]/\s.bZ id=some e0/\s'=s.aO id e/\∀t:AS,t.bZ id=s.bZ id->(tw P t T m k).eval=some (t.aO id e):=by
 unfold tw at h
 split at h
 ·rename_i K V kt vt id ver hm
  obtain⟨l,h1,h⟩:=ak.1 h
  obtain⟨kx,h2,h⟩:=ak.1 h
  obtain⟨hu,h⟩:=ay.1 h
  obtain rfl:=ao.1 h
  obtain⟨e0,Cy⟩:=Dz h1
  refine⟨id,e0,_,rfl,Cy,rfl,λt ht=> ?_⟩
  unfold tw
  simp only[hm]
  exact ak.2 ⟨l,by rw[zo ht];exact h1,ak.2 ⟨kx,h2,ay.2 ⟨by rw[wg ht];exact hu,ao.2 rfl⟩⟩⟩
 ·simp only[ai]at h
theorem C9{s':AS}(he:(mN P Γ bK o s).eval=some s'):xc P Γ bK ops o s s':=by
 have Cy:=he
 have one:∀x,o.op.operands= #[x]->∀t,kR (gS Γ ops s o) s t->t.ev x=s.ev x/\(DA o.op=false->∀id∈(s.ev x).ids,qR (t.bZ id) (s.bZ id)):=λx hx t ht=>
  have hm:x∈o.op.operands.toList:=by rw[hx];simp
  ⟨ht.ev hm,λhn _ dq=>ht.Ff hn hm dq⟩
 unfold mN at he
 split at he
 ·rename_i x dr
  obtain rfl:=ao.1 he
  refine kA λt ht=> ?_
  unfold mN
  rw[dr]
  simp only
  rw[(one x (by rw[dr];rfl) t ht).1];rfl
 ·rename_i x dr
  obtain rfl:=ao.1 he
  refine kA λt ht=> ?_
  unfold mN
  rw[dr]
  simp only
  rw[(one x (by rw[dr];rfl) t ht).1];rfl
 ·rename_i c x y dr
  refine lV (F:=λt=>JP (t.ev c) (t.ev x) (t.ev y)) (λt=>by unfold mN;rw[dr]) (λt ht=> ?_) Cy
  rw[ht.ev (by rw[dr];simp[Op.operands]),ht.ev (by rw[dr];simp[Op.operands]),ht.ev (by rw[dr];simp[Op.operands])]
 ·rename_i T dr
  split at he
  ·rename_i z q hz hq
   obtain⟨h1,h2⟩:=ay.1 he
   obtain rfl:=ao.1 h2
   simp only[aj]at h1
   refine rn (ids:=[]) hq h1.1 (λ_ h=>by cases h) λt ht hv=> ?_
   unfold mN
   rw[dr]
   simp only[hz,hq]
   exact ay.2 ⟨by simp[hv,h1.2],ao.2 rfl⟩
  ·exact(ai.1 he).elim
 ·rename_i T x dr
  exact Ki dr he
 ·rename_i T parts dr
  exact FD dr he
 ·rename_i T n parts dr
  exact yA dr he
 ·rename_i T x dr
  refine lV (F:=λt=>xC P t T (t.ev x)) (λt=>by unfold mN;rw[dr]) (λt ht=> ?_) Cy
  obtain⟨h1,h2⟩:=one x (by rw[dr];rfl) t ht
  rw[h1,Gm (h2 (DK dr rfl))]
 ·rename_i T x v dr
  obtain⟨s1,h1,h2⟩:=ak.1 he
  obtain rfl:=ao.1 h2
  obtain⟨id,e0,e,dq,hs,rfl,hl⟩:=E4 h1
  refine tr hs ?_ λt ht KI=> ?_
  ·show id∈writes Γ s o
   unfold writes
   rw[dr]
   simp only[dq,bI]
  ·unfold mN
   rw[dr]
   simp only
   rw[ht.ev (x:=x) (by rw[dr];simp[Op.operands]),ht.ev (x:=v) (by rw[dr];simp[Op.operands])]
   exact ak.2 ⟨_,hl t KI,ao.2 rfl⟩
 ·rename_i x dr
  split at he
  ·rename_i id v p n hx
   obtain rfl:=ao.1 he
   refine kA λt ht=> ?_
   unfold mN
   rw[dr]
   simp only[(one x (by rw[dr];rfl) t ht).1,hx];rfl
  ·rename_i ty y hx
   obtain rfl:=ao.1 he
   refine kA λt ht=> ?_
   unfold mN
   rw[dr]
   simp only[(one x (by rw[dr];rfl) t ht).1,hx];rfl
  ·rename_i ty y hx
   obtain⟨z,e,he⟩:=pI.1 he
   obtain rfl:=ao.1 he
   refine kA λt ht=> ?_
   unfold mN
   rw[dr]
   simp only[(one x (by rw[dr];rfl) t ht).1,hx]
   exact pI.2 ⟨z,e,ao.2 rfl⟩
  ·rename_i f c hx
   obtain rfl:=ao.1 he
   refine kA λt ht=> ?_
   unfold mN
   rw[dr]
   simp only[(one x (by rw[dr];rfl) t ht).1,hx];rfl
  ·exact(ai.1 he).elim
 ·rename_i op T x y U dr
  have MK:x∈o.op.operands.toList:=by rw[dr];simp[Op.operands]
  have SP:y∈o.op.operands.toList:=by rw[dr];simp[Op.operands]
  split at he
  ·rename_i i v1 j v2 hx hy
   obtain⟨v,h1,h2⟩:=ak.1 he
   obtain rfl:=ao.1 h2
   refine kA λt ht=> ?_
   unfold mN
   rw[dr]
   simp only[ht.ev MK,ht.ev SP,hx,hy]
   exact ak.2 ⟨v,by rw[Ku (ht.Ff (DK dr rfl) MK (by rw[hx];simp[av.ids]))];exact h1,rfl⟩
  ·rename_i fL
   obtain⟨v,h1,h2⟩:=ak.1 he
   obtain rfl:=ao.1 h2
   refine kA λt ht=> ?_
   unfold mN
   rw[dr]
   simp only[ht.ev MK,ht.ev SP]
   exact ak.2 ⟨v,h1,rfl⟩
 ·rename_i op T x dr
  refine lV (F:=λt=>VA op (t.ev x)) (λt=>by unfold mN;rw[dr]) (λt ht=> ?_) Cy
  rw[(one x (by rw[dr];rfl) t ht).1]
 ·rename_i T U x dr
  split at he
  ·rename_i id ver len hTU hx
   unfold FL at he
   split at he
   ·rename_i v e0 l e kr hD
    split at he
    ·rename_i hE
     obtain⟨h1,h2⟩:=ay.1 he
     obtain⟨h3,h4⟩:=bO.1 h2
     obtain rfl:=ao.1 h4
     refine tr (eH kr) ?_ λt ht KI=> ?_
     ·show id∈writes Γ s o
      unfold writes
      rw[dr]
      simp only[hTU,hx]
      simp[av.ids]
     ·have hob':t.obj id=some (v,false,.vec e0 (.int .u8) l):=by simp only[AS.obj,KI];exact kr
      unfold mN
      rw[dr]
      simp only[hTU,(one x (by rw[dr];rfl) t ht).1,hx]
      unfold FL
      simp only[hob',hD,hE]
      exact ay.2 ⟨h1,bO.2 ⟨h3,ao.2 rfl⟩⟩
    ·exact(ai.1 he).elim
   ·exact(ai.1 he).elim
  ·rename_i id ver hx
   obtain⟨v,h1,h2⟩:=ak.1 he
   obtain rfl:=ao.1 h2
   refine kA λt ht=> ?_
   obtain⟨h3,h4⟩:=one x (by rw[dr];rfl) t ht
   unfold mN
   rw[dr]
   simp only[h3,hx]
   exact ak.2 ⟨v,by rw[FM (h4 (DK dr rfl) _ (by rw[hx];simp[av.ids]))];exact h1,rfl⟩
  ·rename_i fL
   obtain⟨v,h1,h2⟩:=ak.1 he
   obtain rfl:=ao.1 h2
   refine kA λt ht=> ?_
   obtain⟨h3,h4⟩:=one x (by rw[dr];rfl) t ht
   unfold mN
   rw[dr]
   simp only[h3]
   exact ak.2 ⟨v,by rw[FK (h4 (DK dr rfl))];exact h1,rfl⟩
 ·rename_i T x dr
  exact Hi dr he
 ·rename_i f first caps dr
  obtain⟨h1,h2⟩:=ay.1 he
  obtain rfl:=ao.1 h2
  refine kA λt ht=> ?_
  have hc:nw t caps.toList=nw s caps.toList:=xi _ λx hx=>ht.ev (by rw[dr];simp only[Op.operands,bW];exact bt.2 (.inr hx))
  unfold mN
  rw[dr]
  simp only[hc]
  exact ay.2 ⟨h1,ao.2 rfl⟩
 ·rename_i T l c dr
  obtain⟨n,h1,h2⟩:=ak.1 he
  obtain⟨m,h3,h4⟩:=ak.1 h2
  exact zR dr h1 h3 h4
 ·rename_i T x lo hi dr
  refine lV (F:=λt=>u5 P t T (t.ev x) lo hi) (λt=>by unfold mN;rw[dr]) (λt ht=> ?_) Cy
  have hm:∀z,(z=x\/lo=some z\/hi=some z)->z∈o.op.operands.toList:=λz hz=>by
   rw[dr]
   simp only[Op.operands,bW,bt]
   rcases hz with rfl | rfl | rfl
   ·left;left;left;simp
   ·left;left;right;simp
   ·left;right;simp
  have hx:=hm x (.inl rfl)
  rw[ht.ev hx]
  exact ye (λid dq=>ht.Ff (DK dr rfl) hx dq) (λy hy=>ht.ev (hm y (.inr (.inl hy)))) (λy hy=>ht.ev (hm y (.inr (.inr hy))))
 ·rename_i T x lo y m dr
  refine lV (F:=λt=>yd P t T (t.ev x) lo y m) (λt=>by unfold mN;rw[dr]) (λt ht=> ?_) Cy
  have hm:∀z,(z=x\/lo=some z\/y=z\/m=z)->z∈o.op.operands.toList:=λz hz=>by
   rw[dr]
   simp only[Op.operands,bW,bt]
   rcases hz with rfl | rfl | rfl | rfl
   ·left;left;left;simp
   ·left;left;right;simp
   ·left;right;simp
   ·right;simp
  have hx:=hm x (.inl rfl)
  rw[ht.ev hx]
  exact C0 (λid dq=>ht.Ff (DK dr rfl) hx dq) (λz hz=>ht.ev (hm z (.inr (.inl hz)))) (ht.ev (hm y (.inr (.inr (.inl rfl))))) (ht.ev (hm m (.inr (.inr (.inr rfl)))))
 ·rename_i T x f dr
  refine lV (F:=λt=>tn P T (t.ev x) f) (λt=>by unfold mN;rw[dr]) (λt ht=> ?_) Cy
  rw[(one x (by rw[dr];rfl) t ht).1]
 ·rename_i T x f dr
  refine lV (F:=λt=>Er P T (t.ev x) f) (λt=>by unfold mN;rw[dr]) (λt ht=> ?_) Cy
  rw[(one x (by rw[dr];rfl) t ht).1]
 ·rename_i T x i dr
  refine lV (F:=λt=>(asInt (t.ev i)).bind λi=>nF P t T (t.ev x) i) (λt=>by unfold mN;rw[dr,Out.bind_assoc]) (λt ht=> ?_) Cy
  have hx:x∈o.op.operands.toList:=by rw[dr];simp[Op.operands]
  rw[ht.ev (x:=i) (by rw[dr];simp[Op.operands]),ht.ev hx]
  congr 1
  funext i
  exact yN λid dq=>ht.Ff (DK dr rfl) hx dq
 ·rename_i T x i dr
  refine lV (F:=λt=>(asInt (t.ev i)).bind λi=>EF P T (t.ev x) i) (λt=>by unfold mN;rw[dr,Out.bind_assoc]) (λt ht=> ?_) Cy
  rw[ht.ev (x:=i) (by rw[dr];simp[Op.operands]),ht.ev (x:=x) (by rw[dr];simp[Op.operands])]
 ·rename_i x i dr
  refine lV (F:=λt=>Out.opt ((t.ev x).list[i]?)) (λt=>by unfold mN;rw[dr]) (λt ht=> ?_) Cy
  rw[(one x (by rw[dr];rfl) t ht).1]
 ·rename_i T dr
  have xr:=he
  unfold uP at xr
  split at xr
  ·rename_i K V kt vt q hm hd
   obtain⟨h1,h2⟩:=ay.1 xr
   obtain rfl:=ao.1 h2
   refine rn (ids:=[]) hd h1 (λ_ h=>by cases h) λt ht hv=> ?_
   unfold mN
   rw[dr]
   simp only
   unfold uP
   simp only[hm,hd]
   exact ay.2 ⟨hv,ao.2 rfl⟩
  ·exact(ai.1 xr).elim
 ·rename_i T x i ok dr
  refine lV (F:=λt=>tt P t T (t.ev x) (t.ev i) ok) (λt=>by unfold mN;rw[dr]) (λt ht=> ?_) Cy
  have hx:x∈o.op.operands.toList:=by rw[dr];simp[Op.operands]
  rw[ht.ev (x:=i) (by rw[dr];simp[Op.operands]),ht.ev hx]
  exact CM λid dq=>ht.Ff (DK dr rfl) hx dq
 ·rename_i T m k x dr
  obtain⟨s1,h1,h2⟩:=ak.1 he
  obtain rfl:=ao.1 h2
  obtain⟨id,e0,e,dq,hs,rfl,hl⟩:=CP h1
  refine tr hs ?_ λt ht KI=> ?_
  ·show id∈writes Γ s o
   unfold writes
   rw[dr]
   simp only[dq,bI]
  ·unfold mN
   rw[dr]
   simp only
   rw[ht.ev (x:=m) (by rw[dr];simp[Op.operands]),ht.ev (x:=k) (by rw[dr];simp[Op.operands]),ht.ev (x:=x) (by rw[dr];simp[Op.operands])]
   exact ak.2 ⟨_,hl t KI,ao.2 rfl⟩
 ·rename_i c dr
  obtain⟨cal,args,tys⟩:=c
  simp only at he
  split at he
  ·split at he
   ·rename_i m k T T2 ha ht'
    have Wq:m∈o.op.operands.toList:=by rw[dr];simp only[Op.operands,Call.operands,aR,bW,ha];simp
    have OT:k∈o.op.operands.toList:=by rw[dr];simp only[Op.operands,Call.operands,aR,bW,ha];simp
    obtain⟨s1,h1,h2⟩:=ak.1 he
    obtain rfl:=ao.1 h2
    obtain⟨id,e0,e,dq,hs,rfl,hl⟩:=CO h1
    refine tr hs ?_ λt ht KI=> ?_
    ·show id∈writes Γ s o
     unfold writes
     rw[dr]
     simp only[ha,dq,bI]
    ·unfold mN
     rw[dr]
     simp only[ha,ht']
     rw[ht.ev Wq,ht.ev OT]
     exact ak.2 ⟨_,hl t KI,ao.2 rfl⟩
   ·exact(ai.1 he).elim
  ·split at he
   ·rename_i x y T X ha ht'
    exact HT dr rfl ha ht' he
   ·exact(ai.1 he).elim
  ·split at he
   ·rename_i x T ha ht'
    refine lV (F:=λt=>O3 P T (t.ev x)) (λt=>by unfold mN;rw[dr];simp only[ha,ht']) (λt ht=> ?_) Cy
    rw[ht.ev (by rw[dr];simp only[Op.operands,Call.operands,aR,bW,ha];simp)]
   ·exact(ai.1 he).elim
  ·split at he
   ·rename_i x y T X ha ht'
    have MK:x∈o.op.operands.toList:=by rw[dr];simp only[Op.operands,Call.operands,aR,bW,ha];simp
    have SP:y∈o.op.operands.toList:=by rw[dr];simp only[Op.operands,Call.operands,aR,bW,ha];simp
    split at he
    ·rename_i k n hx hy
     have xr:=he
     unfold F4 at xr
     split at xr
     ·rename_i e t0 b q kn vL hd hX
      obtain⟨h1,h2⟩:=ay.1 xr
      obtain⟨h3,h4⟩:=bO.1 h2
      obtain rfl:=ao.1 h4
      refine rn (ids:=[]) hd h1 (λ_ h=>by cases h) λt ht hv=> ?_
      unfold mN
      rw[dr]
      simp only[ha,ht',ht.ev MK,ht.ev SP,hx,hy]
      unfold F4
      simp only[vL,hd,hX]
      exact ay.2 ⟨hv,bO.2 ⟨h3,ao.2 rfl⟩⟩
     ·exact(ai.1 xr).elim
    ·rename_i fL
     exact Ed dr rfl ha ht' fL he
   ·exact(ai.1 he).elim
  ·split at he
   ·rename_i x T ha ht'
    have MK:x∈o.op.operands.toList:=by rw[dr];simp only[Op.operands,Call.operands,aR,bW,ha];simp
    split at he
    ·rename_i e hx hT
     obtain rfl:=ao.1 he
     refine kA λt ht=> ?_
     unfold mN
     rw[dr]
     simp only[ha,ht',ht.ev MK,hx,hT];rfl
    ·exact(ai.1 he).elim
   ·exact(ai.1 he).elim
  ·refine lV (F:=λt=>KX true (args.toList.map t.ev)) (λt=>by unfold mN;rw[dr]) (λt ht=> ?_) Cy
   congr 1
   exact gr λx hx=>ht.ev (by rw[dr];simp only[Op.operands,Call.operands,aR,bW];exact hx)
  ·refine lV (F:=λt=>KX false (args.toList.map t.ev)) (λt=>by unfold mN;rw[dr]) (λt ht=> ?_) Cy
   congr 1
   exact gr λx hx=>ht.ev (by rw[dr];simp only[Op.operands,Call.operands,aR,bW];exact hx)
  ·split at he
   ·rename_i x ha
    have MK:x∈o.op.operands.toList:=by rw[dr];simp only[Op.operands,Call.operands,aR,bW,ha];simp
    split at he
    ·rename_i id ver len hx
     obtain⟨h1,h2⟩:=bO.1 he
     obtain rfl:=ao.1 h2
     refine kA λt ht=> ?_
     unfold mN
     rw[dr]
     simp only[ha,ht.ev MK,hx]
     exact bO.2 ⟨h1,rfl⟩
    ·exact(ai.1 he).elim
   ·exact(ai.1 he).elim
  ·split at he
   ·rename_i x y T U ha ht'
    have MK:x∈o.op.operands.toList:=by rw[dr];simp only[Op.operands,Call.operands,aR,bW,ha];simp
    have SP:y∈o.op.operands.toList:=by rw[dr];simp only[Op.operands,Call.operands,aR,bW,ha];simp
    split at he
    ·rename_i id ver n hx hy
     have xr:=he
     unfold Hg at xr
     split at xr
     ·rename_i v e l u kr hT
      obtain⟨h1,h2⟩:=ay.1 xr
      obtain⟨h3,h4⟩:=bO.1 h2
      obtain rfl:=ao.1 h4
      refine tr (eH kr) ?_ λt ht KI=> ?_
      ·show id∈writes Γ s o
       unfold writes
       rw[dr]
       simp only[ha,hx]
       simp[av.ids]
      ·have hob':t.obj id=some (v,false,.vec e (.int .u8) l):=by simp only[AS.obj,KI];exact kr
       unfold mN
       rw[dr]
       simp only[ha,ht',ht.ev MK,ht.ev SP,hx,hy]
       unfold Hg
       simp only[hob',hT]
       exact ay.2 ⟨h1,bO.2 ⟨h3,ao.2 rfl⟩⟩
     ·exact(ai.1 xr).elim
    ·exact(ai.1 he).elim
   ·exact(ai.1 he).elim
  ·rename_i F _
   split at he
   ·rename_i f caps hF
    split at he
    ·rename_i en LJ
     obtain⟨iv,he⟩:=ay.1 he
     exact HN dr rfl hF LJ iv he
    ·exact(ai.1 he).elim
   ·exact(ai.1 he).elim
  ·exact(ai.1 he).elim
 ·exact(ai.1 he).elim
end
end Go.Ab
namespace Go.Ab
section
variable {P:Program} {Γ:mR} {bK:List Nat} {ops:Array Oper} {o:Oper} {s t:AS}
def Loc(P:Program)(Γ:mR)(bK:List Nat)(ops:Array Oper)(o:Oper)(s s':AS):Prop:=
 ∃E,App o.dst E s s'/\Ea (gS Γ ops s o) s E/\∀t,kR (gS Γ ops s o) s t->∃t',vK P Γ bK ops o t=some t'/\App o.dst E t t'
theorem AL{s':AS}(he:vK P Γ bK ops o s=some s'):Loc P Γ bK ops o s s':=by
 unfold vK at he
 split at he
 ·rename_i hg
  obtain⟨E,h1,h2,h3⟩:=C9 (ops:=ops) he
  refine⟨E,h1,h2,λt ht=> ?_⟩
  obtain⟨t',h4,h5⟩:=h3 t ht
  exact⟨t',by unfold vK;simp only[hg];exact h4,h5⟩
 ·rename_i j want hg
  split at he
  ·rename_i q hq
   split at he
   ·rename_i b hb
    have LL:∀t,kR (gS Γ ops s o) s t->t.slot q= .d .bool b:=λt ht=>by
     rw[ht.cr q (bt.2 (.inr (by unfold yK;simp only[hg,hq];simp)))];exact hb
    by_cases e:b=want
    ·rw[if_pos e]at he
     obtain⟨E,h1,h2,h3⟩:=C9 (ops:=ops) he
     refine⟨E,h1,h2,λt ht=> ?_⟩
     obtain⟨t',h4,h5⟩:=h3 t ht
     exact⟨t',by unfold vK;simp only[hg,hq,LL t ht,if_pos e];exact h4,h5⟩
    ·rw[if_neg e]at he
     simp only[aq]at he
     subst he
     exact⟨⟨.nil,λ_=>none,[]⟩,App.vm _ _ _,⟨λ_ _ h=>by simp at h,λ_ h=>by simp at h⟩,λt ht=>⟨_,by unfold vK;simp only[hg,hq,LL t ht,if_neg e],App.vm _ _ _⟩⟩
   ·rename_i hb
    have LL:∀t,kR (gS Γ ops s o) s t->t.slot q= .nil:=λt ht=>by
     rw[ht.cr q (bt.2 (.inr (by unfold yK;simp only[hg,hq];simp)))];exact hb
    simp only[aq]at he
    subst he
    exact⟨⟨.nil,λ_=>none,[]⟩,App.vm _ _ _,⟨λ_ _ h=>by simp at h,λ_ h=>by simp at h⟩,λt ht=>⟨_,by unfold vK;simp only[hg,hq,LL t ht],App.vm _ _ _⟩⟩
   ·cases he
  ·cases he
theorem E9(h:kR (gS Γ ops s o) s t):writes Γ t o=writes Γ s o:=by
 have Ob:∀id∈writes Γ s o,t.bZ id=s.bZ id:=h.ws
 unfold writes at Ob ⊢
 split
 ·rename_i x v dr
  rw[h.ev (by rw[dr];simp[Op.operands])]
 ·rename_i m k v dr
  rw[h.ev (by rw[dr];simp[Op.operands])]
 ·rename_i T U x dr
  rw[h.ev (by rw[dr];simp[Op.operands])]
 ·rename_i c dr
  obtain⟨cal,args,tys⟩:=c
  simp only[dr]at Ob
  simp only
  split
  ·split
   ·rename_i x l ha
    rw[h.ev (by rw[dr];simp only[Op.operands,Call.operands,aR,bW,ha];simp)]
   ·rfl
  ·split
   ·rename_i x l ha
    rw[h.ev (by rw[dr];simp only[Op.operands,Call.operands,aR,bW,ha];simp)]
   ·rfl
  ·split
   ·rename_i x l ha
    rw[h.ev (by rw[dr];simp only[Op.operands,Call.operands,aR,bW,ha];simp)]
   ·rfl
  ·split
   ·rename_i x l ha
    rw[h.ev (by rw[dr];simp only[Op.operands,Call.operands,aR,bW,ha];simp)]
   ·rfl
  ·rename_i F
   simp only at Ob
   have hm:∀z,z=F\/z∈args.toList->z∈o.op.operands.toList:=λz hz=>by
    rw[dr]
    simp only[Op.operands,Call.operands,bW,bt]
    rcases hz with rfl | hz
    ·exact .inl (by simp)
    ·exact .inr hz
   have h1:t.ev F=s.ev F:=h.ev (hm F (.inl rfl))
   have h2:args.toList.map t.ev=args.toList.map s.ev:=gr λx hx=>h.ev (hm x (.inr hx))
   rw[h1]
   split
   ·rename_i f caps hF
    simp only[hF]at Ob
    rw[h2]
    split
    ·rename_i en LJ
     simp only[LJ]at Ob
     exact pQ _ _ _ λid dq=>by rw[Ob id dq]
    ·rfl
   ·rfl
  ·rfl
 ·rfl
theorem AG(h:kR (gS Γ ops s o) s t):gS Γ ops t o=gS Γ ops s o:=by
 have h1:=E9 h
 have h2:GJ t o=GJ s o:=by
  unfold GJ
  split
  ·rfl
  unfold List.flatMap
  congr 1
  exact gr λi hi=>by rw[h.cr i (bt.2 (.inl hi))]
 unfold gS
 rw[h1,h2]
theorem pK{xs ys:List Id}(h:meets xs ys=false){id:Id}(hx:id∈xs):id ∉ ys:=by
 intro hy
 have:meets xs ys=true:=by
  unfold meets
  exact List.any_eq_true.2 ⟨id,hx,List.any_eq_true.2 ⟨id,hy,by simp⟩⟩
 rw[h]at this;cases this
theorem oI{d:Option Tmp}{ids:List Id}(h:B7 d ids=false){q:Nat}(hd:d=some q)(j:Nat):Id.new q j ∉ ids:=by
 intro hy
 have:B7 d ids=true:=by
  subst hd
  exact List.any_eq_true.2 ⟨_,hy,by simp⟩
 rw[h]at this;cases this
theorem vl{f g:uu}(h:f.TT g=false){q:Nat}(hd:f.dst=some q):q ∉ g.cr/\g.dst≠some q:=by
 unfold uu.TT at h
 rw[hd]at h
 simp only[Bool.or_eq_false_iff,jl,decide_eq_true_eq,decide_eq_false_iff_not]at h
 exact⟨λhx=>h.1 q hx rfl,h.2⟩
theorem G8(s:AS)(d:Option Tmp)(v:av)(i:Nat)(h:d≠some i):(s.put d v).slot i=s.slot i:=by
 cases d with
 |none=>rfl
 |some q=>rw[B9,if_neg];rintro⟨rfl,_⟩;exact h rfl
theorem App.slot{d:Option Tmp}{E:Su}{s s':AS}(h:App d E s s')(i:Nat)(hi:d≠some i):s'.slot i=s.slot i:=by
 rw[<-G8 s d E.v i hi]
 simp only[AS.slot,h.cr]
theorem Fm{f f':uu}{E:Su}{s s1:AS}(ha:App f.dst E s s1)(hw:Ea f s E)(WJ:∀id∈f'.ws,id∈f'.rs)(h1:f.TT f'=false)(h2:meets f.ws f'.rs=false)(h3:meets f'.ws f.rs=false)
  (h4:B7 f.dst f'.rs=false):(∀i∈f'.cr,s1.slot i=s.slot i)/\(∀id∈f'.ws,s1.bZ id=s.bZ id)/\(∀id∈f'.rs,qR (s1.bZ id) (s.bZ id))/\∀q,f'.dst=some q->s1.ek q=s.ek q:=by
 have zP:∀id∈f'.rs,E.up id=none:=λid dq=>by
  cases hu:E.up id with
  |none=>rfl
  |some e=>
   rcases hw.up id e hu with⟨h,_⟩ | ⟨q,j,hd,rfl⟩
   ·exact absurd dq (pK h2 h)
   ·exact absurd dq (oI h4 hd j)
 refine⟨λi hi=>ha.slot i λhd=>(vl h1 hd).1 hi,λid dq=> ?_,λid dq=> ?_,λq hq=> ?_⟩
 ·rw[ha.bZ,zP id (WJ id dq)]
  have:id ∉ E.fz:=λhz=>pK h3 dq (hw.fz id hz)
  simp only[if_neg this]
 ·rw[ha.bZ,zP id dq]
  simp only
  split
  ·exact Ln _
  ·exact Lo _
 ·have fL:∀j,(s1.bZ (.new q j)=none↔s.bZ (.new q j)=none):=λj=>by
   rw[ha.bZ]
   cases hu:E.up (.new q j) with
   |none=>
    simp only
    split <;> simp
   |some e=>
    rcases hw.up _ e hu with⟨_,h⟩ | ⟨q',j',hd,he⟩
    ·simp[h]
    ·simp only[Id.new.injEq]at he
     obtain⟨rfl,_⟩:=he
     exact absurd hq (vl h1 hd).2
  rw[Bool.eq_iff_iff,rI,rI,ha.len]
  exact and_congr Iff.rfl (forall_congr' fL)
theorem uG(s:AS)(o:Oper):∀id∈(gS Γ ops s o).ws,id∈(gS Γ ops s o).rs:=λ_ dq=>bt.2 (.inr dq)
theorem swap{o':Oper}{s1 s2:AS}(h1:vK P Γ bK ops o s=some s1)(h2:vK P Γ bK ops o' s1=some s2)(hi:(gS Γ ops s o).indep (gS Γ ops s1 o')=true):
  ∃t1,vK P Γ bK ops o' s=some t1/\vK P Γ bK ops o t1=some s2/\gS Γ ops s o'=gS Γ ops s1 o'/\gS Γ ops t1 o=gS Γ ops s o:=by
 unfold uu.indep at hi
 simp only[aj,cC]at hi
 obtain⟨⟨⟨⟨⟨i1,i2⟩,i3⟩,i4⟩,i5⟩,i6⟩:=hi
 obtain⟨E,a1,w1,l1⟩:=AL h1
 obtain⟨E',a2,w2,l2⟩:=AL h2
 obtain⟨g1,g2,g3,g4⟩:=Fm (f:=gS Γ ops s o) (f':=gS Γ ops s1 o') a1 w1 (uG _ _) i1 i3 i4 i5
 have w7:kR (gS Γ ops s1 o') s1 s:=⟨λi hi=>(g1 i hi).symm,λid dq=>(g2 id dq).symm,λid dq=>by
  have:=g3 id dq
  revert this
  cases s1.bZ id <;> cases s.bZ id <;> simp only[qR] <;> intro h <;> first | trivial | exact h | skip
  rename_i a b
  cases a <;> cases b <;> simp_all [dS.Ff],λq hq=>(g4 q hq).symm⟩
 obtain⟨t1,k1,k2⟩:=l2 s w7
 have hf':=AG w7
 have w2':Ea (gS Γ ops s1 o') s E':=⟨λid e hu=>by
  rcases w2.up id e hu with⟨h,hn⟩ | h
  ·exact .inl ⟨h,by rw[<-g2 id h];exact hn⟩
  ·exact .inr h,w2.fz⟩
 obtain⟨m1,m2,m3,m4⟩:=Fm (f:=gS Γ ops s1 o') (f':=gS Γ ops s o) k2 w2' (uG _ _) i2 i4 i3 i6
 have Tu:kR (gS Γ ops s o) s t1:=⟨m1,m2,m3,m4⟩
 obtain⟨t2,k3,k4⟩:=l1 t1 Tu
 refine⟨t1,k1,?_,hf',AG Tu⟩
 rw[k3]
 congr 1
 have Ug:∀id e,E.up id=some e->E'.up id=none/\id ∉ E'.fz:=λid e hu=>by
  rcases w1.up id e hu with⟨h,hn⟩ | ⟨q,j,hd,rfl⟩
  ·refine⟨?_,λhz=>pK i3 h (w2.fz id hz)⟩
   cases hu':E'.up id with
   |none=>rfl
   |some e'=>
    rcases w2.up id e' hu' with⟨h',_⟩ | ⟨q,j,hd,rfl⟩
    ·exact absurd (uG _ _ id h') (pK i3 h)
    ·exact absurd (uG _ _ _ h) (oI i6 hd j)
  ·refine⟨?_,λhz=>oI i5 hd j (w2.fz _ hz)⟩
   cases hu':E'.up (.new q j) with
   |none=>rfl
   |some e'=>
    rcases w2.up _ e' hu' with⟨h',_⟩ | ⟨q',j',hd',he⟩
    ·exact absurd (uG _ _ _ h') (oI i5 hd j)
    ·simp only[Id.new.injEq]at he
     obtain⟨rfl,_⟩:=he
     exact absurd hd' (vl i1 hd).2
 have WR:∀id e,E'.up id=some e->E.up id=none/\id ∉ E.fz:=λid e hu=>by
  have hn:E.up id=none:=by
   cases Zf:E.up id with
   |none=>rfl
   |some e1=>rw[(Ug id e1 Zf).1]at hu;cases hu
  refine⟨hn,λhz=> ?_⟩
  rcases w2.up id e hu with⟨h,_⟩ | ⟨q,j,hd,rfl⟩
  ·exact pK i4 h (w1.fz id hz)
  ·exact oI i6 hd j (w1.fz _ hz)
 refine AS.Mz ?_ (by rw[k4.len,k2.len,a2.len,a1.len]) λid=> ?_
 ·have e1:∀(u u':AS) (d:Option Tmp) (v:av),u.cr=u'.cr->(u.put d v).cr=(u'.put d v).cr:=λu u' d v h=>by cases d <;> simp[AS.put,h]
  rw[k4.cr,a2.cr,e1 t1 (s.put o'.dst E'.v) _ _ k2.cr,e1 s1 (s.put o.dst E.v) _ _ a1.cr]
  cases hd:o.dst with
  |none=>cases o'.dst <;> rfl
  |some q=>
   cases hd':o'.dst with
   |none=>rfl
   |some q'=>
    have fL:q'≠q:=λe=>(vl (f:=gS Γ ops s o) i1 hd).2 (by show o'.dst=some q;rw[hd',e])
    simp only[AS.put]
    exact List.set_comm _ _ fL
 ·rw[k4.bZ,k2.bZ,a2.bZ,a1.bZ]
  cases hu:E.up id with
  |some e=>
   obtain⟨h3,h4⟩:=Ug id e hu
   simp only[h3,if_neg h4]
  |none=>
   simp only
   cases hu':E'.up id with
   |some e=>
    obtain⟨_,h4⟩:=WR id e hu'
    simp only[if_neg h4]
   |none=>
    simp only
    by_cases z1:id∈E.fz <;> by_cases z2:id∈E'.fz <;> simp only[if_pos,if_neg,z1,z2,not_false_eq_true]
end
end Go.Ab
namespace Go.Ab
section
variable {P:Program} {Γ:mR} {bK:List Nat} {ops:Array Oper}
def Fj(P:Program)(Γ:mR)(bK:List Nat)(ops:Array Oper)(fs:Nat->uu):List Nat->AS->AS->Prop
 |[],s,sn=>s=sn
 |i::l,s,sn=>∃o,ops[i]? =some o/\gS Γ ops s o=fs i/\∃s',vK P Γ bK ops o s=some s'/\Fj P Γ bK ops fs l s' sn
theorem Fj.Mh{fs:Nat->uu}{i:Nat}{l2:List Nat}{sn:AS}:∀(l1:List Nat) {s:AS},Fj P Γ bK ops fs (l1++i::l2) s sn->(∀j∈l1,(fs j).indep (fs i)=true)->Fj P Γ bK ops fs (i::(l1++l2)) s sn
 |[],_,h,_=>h
 |j::l1,s,h,hi=>by
  obtain⟨oj,h1,h2,s1,h3,h4⟩:=h
  obtain⟨oi,h5,h6,s2,h7,h8⟩:=Fj.Mh l1 h4 λj hj=>hi j (aF _ hj)
  have hd:=hi j (aH ..)
  rw[<-h2,<-h6]at hd
  obtain⟨t1,k1,k2,k3,k4⟩:=swap h3 h7 hd
  exact⟨oi,h5,by rw[k3,h6],t1,k1,oj,h1,by rw[k4,h2],s2,k2,h8⟩
theorem Du{R:Type}{anc:List Nat}{k:AS->Option R}{r:R}:∀(l:List Oper) (i:Nat) (acc:List (Nat×uu)) (s:AS) (f0:Nat->uu),(∀n o,l[n]? =some o->ops[i+n]? =some o)->(∀x∈acc,f0 x.1=x.2/\x.1 < i)->
  Dt P Γ bK ops anc i l acc s k=some r->∃fs sn,(∀j,j < i->fs j=f0 j)/\Fj P Γ bK ops fs (List.range' i l.length) s sn/\k sn=some r/\
   (∀x∈acc,∀m,i<=m->m < i+l.length->(anc.getD m 0).testBit x.1=true\/x.2.indep (fs m)=true)/\(∀m1 m2,i<=m1->m1 < m2->m2 < i+l.length->(anc.getD m2 0).testBit m1=true\/(fs m1).indep (fs m2)=true)
 |[],i,acc,s,f0,_,_,h=>⟨f0,s,λ_ _=>rfl,rfl,h,λ_ _ m h1 h2=>by simp at h2;omega,λ_ _ h1 h2 h3=>by simp at h3;omega⟩
 |o::l,i,acc,s,f0,ho,hf,h=>by
  unfold Dt at h
  split at h
  ·rename_i uH
   simp only[AS.xW]at h
   obtain⟨s',h1,h2⟩:=F3 (k:=λs'=>Dt P Γ bK ops anc (i+1) l ((i,gS Γ ops s o)::acc) s' k) h
   have VZ:∀x∈(i,gS Γ ops s o)::acc,(if x.1=i then gS Γ ops s o else f0 x.1)=x.2/\x.1 < i+1:=λx hx=>by
    rcases cX.1 hx with rfl | hx
    ·simp
    ·obtain⟨q1,q2⟩:=hf x hx
     rw[if_neg (by omega)]
     exact⟨q1,by omega⟩
   obtain⟨fs,sn,g1,g2,g3,g4,g5⟩:=Du l (i+1) ((i,gS Γ ops s o)::acc) s' (λn=>if n=i then gS Γ ops s o else f0 n)
    (λn o' hn=>by have:=ho (n+1) o' (by simpa using hn);rw[<-this];congr 1;omega) VZ h2
   have gi:fs i=gS Γ ops s o:=by rw[g1 i (by omega),if_pos rfl]
   refine⟨fs,sn,λj hj=>by rw[g1 j (by omega),if_neg (by omega)],?_,g3,λx hx m h3 h4=> ?_,λm1 m2 h3 h4 h5=> ?_⟩
   ·rw[aB,List.range'_succ]
    exact⟨o,ho 0 o rfl,gi.symm,s',h1,g2⟩
   ·rcases Nat.eq_or_lt_of_le h3 with rfl | h3
    ·have:=dv.1 uH x hx
     simp only[ix]at this
     rcases this with h | h
     ·exact .inl h
     ·right;rw[gi];exact h
    ·exact g4 x (aF _ hx) m (by omega) (by simp only[aB]at h4;omega)
   ·rcases Nat.eq_or_lt_of_le h3 with rfl | h3
    ·rw[gi]
     exact g4 (i,gS Γ ops s o) (aH ..) m2 (by omega) (by simp only[aB]at h5;omega)
    ·exact g5 m1 m2 (by omega) h4 (by simp only[aB]at h5;omega)
  ·cases h
theorem Fu{acc:List Nat}{j:Nat}:∀ {l:List Edge},(l.foldr (λe m=>Nat.lor (Nat.lor (Nat.pow 2 e.on) (acc.getD e.on 0)) m) 0).testBit j=true->∃e∈l,j=e.on\/(acc.getD e.on 0).testBit j=true
 |[],h=>by simp at h
 |e::l,h=>by
  rw[List.foldr_cons,show ∀x y,Nat.lor x y=x ||| y from λ_ _=>rfl,show ∀x y,Nat.lor x y=x ||| y from λ_ _=>rfl,Nat.testBit_or,Nat.testBit_or,show Nat.pow 2 e.on=2^e.on from rfl,Nat.testBit_two_pow]at h
  simp only[ix,decide_eq_true_eq]at h
  rcases h with(h | h) | h
  ·exact⟨e,aH ..,.inl h.symm⟩
  ·exact⟨e,aH ..,.inr h⟩
  ·obtain⟨e',h1,h2⟩:=Fu h
   exact⟨e',aF _ h1,h2⟩
theorem C8:∀(l:List Oper) (acc:List Nat),(∀i,i < acc.length->(l.foldl (λacc o=>acc++ [Eb acc o]) acc)[i]? =acc[i]?)/\
  ∀i o,l[i]? =some o->(l.foldl (λacc o=>acc++ [Eb acc o]) acc)[acc.length+i]? =some (Eb ((l.foldl (λacc o=>acc++ [Eb acc o]) acc).take (acc.length+i)) o)
 |[],acc=>⟨λ_ _=>rfl,λi o h=>by simp at h⟩
 |x::l,acc=>by
  obtain⟨h1,h2⟩:=C8 l (acc++ [Eb acc x])
  simp only[bT]
  refine⟨λi hi=> ?_,λi o hi=> ?_⟩
  ·rw[h1 i (by simp;omega),fq hi]
  ·cases i with
   |zero=>
    simp only[fS,aq]at hi
    subst hi
    rw[cF,h1 _ (by simp)]
    have:(l.foldl (λacc o=>acc++ [Eb acc o]) (acc++ [Eb acc x])).take acc.length=acc:=by
     apply j5
     intro j
     rw[dp]
     split
     ·rename_i hj
      rw[h1 j (by simp;omega),fq hj]
     ·rename_i hj
      rw[dM (by omega)]
    rw[this]
    simp
   |succ i=>
    have:=h2 i o (by simpa using hi)
    simp only[ae,aB,bn,aI]at this
    rw[show acc.length+(i+1)=acc.length+1+i by omega]
    exact this
theorem L9{l:List Oper}{i:Nat}{o:Oper}(hi:l[i]? =some o){j:Nat}(hj:((Fv l).getD i 0).testBit j=true):∃e∈o.after.toList,Region.binds .any e=true/\(j=e.on\/((Fv l).getD e.on 0).testBit j=true):=by
 have h:=(C8 l []).2 i o hi
 have e:Fv l=l.foldl (λacc o=>acc++ [Eb acc o]) []:=rfl
 rw[<-e]at h
 simp only[bn,aI]at h
 rw[aA,h]at hj
 obtain⟨e,h1,h3⟩:=Fu hj
 obtain⟨h1,h2⟩:=nh.1 h1
 refine⟨e,h1,h2,h3.imp id λh4=> ?_⟩
 rw[aA,dp]at h4
 split at h4
 ·rw[aA];exact h4
 ·simp at h4
def D3(n:Nat)(listed:Array Bool):List Nat:=(List.range n).filter λi=> !listed.getD i true
theorem xD{n:Nat}{listed:Array Bool}{i:Nat}:i∈D3 n listed↔i < n/\listed.getD i true=false:=by simp[D3]
theorem wZ(n:Nat)(listed:Array Bool):(D3 n listed).Pairwise (· < ·):=(List.pairwise_lt_range).filter _
theorem AK{listed:Array Bool}{i j:Nat}(d:Bool)(hi:i < listed.size):(listed.setIfInBounds i true).getD j d=if j=i then true else listed.getD j d:=by
 simp only[cJ,ea]
 by_cases h:i=j
 ·subst h;simp[hi]
 ·simp[h,Ne.symm h]
theorem PD{listed:Array Bool}{i:Nat}(hi:i < listed.size){l1 l2:List Nat}(h:D3 listed.size listed=l1++i::l2):D3 listed.size (listed.setIfInBounds i true)=l1++l2:=by
 have hs:=wZ listed.size listed
 rw[h]at hs
 obtain⟨p1,p2,p3⟩:=List.pairwise_append.1 hs
 obtain⟨p4,_⟩:=List.pairwise_cons.1 p2
 have e:D3 listed.size (listed.setIfInBounds i true)=(D3 listed.size listed).filter λj=>decide (j≠i):=by
  unfold D3
  rw[List.filter_filter]
  refine List.filter_congr λj _=> ?_
  rw[AK true hi]
  by_cases hj:j=i
  ·simp[hj]
  ·simp[hj]
 rw[e,h,List.filter_append,List.filter_cons]
 have f1:l1.filter (λj=>decide (j≠i))=l1:=jq.2 λj hj=>by
  have:=p3 j hj i (aH ..)
  simp;omega
 have f2:l2.filter (λj=>decide (j≠i))=l2:=jq.2 λj hj=>by
  have:=p4 j hj
  simp;omega
 rw[f1,f2]
 simp
theorem J9{rd:Option Nat}{n:Nat}{C:Ctx}(hΓ:Sound P Γ){fs:Nat->uu}{sn:AS}{Q:Exit->Act->World->Prop}(hE:Ek ops.toList=true)
  (Wi:∀m1 m2,m1 < m2->m2 < ops.size->((Fv ops.toList).getD m2 0).testBit m1=true\/(fs m1).indep (fs m2)=true) (hQ:∀a w,iE C sn a w->Q .normal a w):
  ∀(fuel:Nat) (listed:Array Bool) (s:AS) (a:Act) (w:World),listed.size=ops.size->(D3 ops.size listed).length=fuel->
   (∀i,i < ops.size->listed.getD i true=true->∀j,((Fv ops.toList).getD i 0).testBit j=true->listed.getD j false=true)->Fj P Γ bK ops fs (D3 ops.size listed) s sn->iE C s a w->wpAnyIn (Fr rd) n P .any ops Q fuel listed a w:=by
 have PU:∀i o,ops[i]? =some o->∀e∈o.after.toList,Region.binds .any e=true->e.on < i:=λi o hi e he hb=>by
  have:=dv.1 hE (o,i) (List.mem_zipIdx_iff_getElem?.2 (by simpa using hi))
  have:=dv.1 this e he
  simpa[hb]using this
 have Rt:∀(listed:Array Bool),listed.size=ops.size->∀i,i∈Region.ready .any ops listed↔i∈D3 ops.size listed/\∀o,ops[i]? =some o->∀e∈o.after.toList,Region.binds .any e=true->listed.getD e.on false=true:=λlisted _ i=>by
  rw[xD]
  unfold Region.ready
  simp only[nh,List.mem_range,aj,cC]
  constructor
  ·rintro⟨h1,h2,h3⟩
   refine⟨⟨h1,h2⟩,λo ho e he hb=> ?_⟩
   rw[ho]at h3
   simp only[ee,dW,Array.all_eq_true',ix,cC]at h3
   rcases h3 e (by simpa using he) with h | h
   ·rw[hb]at h;cases h
   ·exact h
  ·rintro⟨⟨h1,h2⟩,h3⟩
   refine⟨h1,h2,?_⟩
   obtain⟨o,ho⟩:∃o,ops[i]? =some o:=⟨ops[i],by simp[h1]⟩
   rw[ho]
   simp only[ee,dW,Array.all_eq_true',ix,cC]
   intro e he
   cases hb:Region.binds .any e with
   |false=>exact .inl rfl
   |true=>exact .inr (h3 o ho e (by simpa using he) hb)
 have mJ:∀(listed:Array Bool),listed.size=ops.size->Region.ready .any ops listed=[]->D3 ops.size listed=[]:=λlisted hs hr=>by
  cases hu:D3 ops.size listed with
  |nil=>rfl
  |cons i l=>
   exfalso
   have hi:i∈D3 ops.size listed:=by rw[hu];exact aH ..
   have Ud:=wZ ops.size listed
   rw[hu]at Ud
   have:i∈Region.ready .any ops listed:=(Rt listed hs i).2 ⟨hi,λo ho e he hb=>by
    have iv:=PU i o ho e he hb
    have F8:=(xD.1 hi).1
    cases hl:listed.getD e.on true with
    |false=>
     have hm:e.on∈D3 ops.size listed:=xD.2 ⟨by omega,hl⟩
     rw[hu]at hm
     rcases cX.1 hm with h | h
     ·omega
     ·have:=(List.pairwise_cons.1 Ud).1 _ h;omega
    |true=>
     have:e.on < listed.size:=by omega
     simp only[cJ,fp this,dW]at hl ⊢
     exact hl⟩
   rw[hr]at this
   cases this
 intro fuel
 induction fuel with
 |zero=>
  intro listed s a w hs hl _ hr lZ
  have hn:D3 ops.size listed=[]:=bF hl
  refine⟨?_,?_⟩
  ·cases WD:Region.ready .any ops listed with
   |nil=>rfl
   |cons i l=>
    have:i∈Region.ready .any ops listed:=by rw[WD];exact aH ..
    have:=((Rt listed hs i).1 this).1
    rw[hn]at this;cases this
  ·rw[hn]at hr
   have:s=sn:=hr
   subst this
   exact hQ a w lZ
 |succ fuel ih=>
  intro listed s a w hs hl LI hr lZ
  refine⟨λWD=> ?_,λi hi=> ?_⟩
  ·have:=mJ listed hs WD
   rw[this]at hl;simp at hl
  ·obtain⟨hu,TK⟩:=(Rt listed hs i).1 hi
   obtain⟨F8,ZR⟩:=xD.1 hu
   obtain⟨o,ho⟩:∃o,ops[i]? =some o:=⟨ops[i],by simp[F8]⟩
   obtain⟨l1,l2,MQ⟩:=List.append_of_mem hu
   have Ud:=wZ ops.size listed
   rw[MQ]at Ud
   have Tx:∀j,((Fv ops.toList).getD i 0).testBit j=true->listed.getD j false=true:=λj hj=>by
    obtain⟨e,he,hb,h | h⟩:=L9 (by simpa using ho) hj
    ·rw[h];exact TK o ho e he hb
    ·have h1:=TK o ho e he hb
     have h2:=PU i o ho e he hb
     refine LI e.on (by omega) ?_ j h
     have:e.on < listed.size:=by omega
     simp only[cJ,fp this,dW]at h1 ⊢
     exact h1
   rw[MQ]at hr
   have hb:=Fj.Mh l1 hr λj hj=>by
    have iv:j < i:=(List.pairwise_append.1 Ud).2.2 j hj i (aH ..)
    rcases Wi j i iv F8 with h | h
    ·have h1:=Tx j h
     have YQ:j∈D3 ops.size listed:=by rw[MQ];exact bt.2 (.inl hj)
     have h2:=(xD.1 YQ).2
     have:j < listed.size:=by omega
     simp only[cJ,fp this,dW]at h1 h2
     rw[h1]at h2;cases h2
    ·exact h
   obtain⟨o',ho',hf,s',hg,mF⟩:=hb
   obtain rfl:o=o':=by rw[ho]at ho';simpa using ho'
   have EB:D3 ops.size (listed.setIfInBounds i true)=l1++l2:=by
    rw[<-hs]at MQ ⊢
    exact PD (by omega) MQ
   refine((Ds hΓ lZ hg).mono λa' w' hst'=>ih (listed.setIfInBounds i true) s' a' w' (by simpa using hs) ?_ ?_ (by rw[EB];exact mF) hst').wpOpIn ho
   ·rw[EB]
    rw[MQ]at hl
    simp only[ae,aB]at hl ⊢
    omega
   ·intro m hm Vh j hj
    rw[AK false (by omega)]
    split
    ·rfl
    ·rw[AK true (by omega)]at Vh
     split at Vh
     ·rename_i YX
      subst YX
      exact Tx j hj
     ·exact LI m hm Vh j hj
theorem GX{rd:Option Nat}{n:Nat}{C:Ctx}(hm:P.follows .mixedOrders=true)(hΓ:Sound P Γ){id:Nat}{R:Type}{Q:Exit->Act->World->Prop}{s:AS}{a:Act}{w:World}{k:AS->Option R}{r:R}(h:iE C s a w)(hE:Ek ops.toList=true)
  (he:Dt P Γ bK ops (Fv ops.toList) 0 ops.toList [] s k=some r) (hk:∀s' a' w',iE C s' a' w'->k s'=some r->Q .normal a' w'):(Code.region id ops true).wpIn (Fr rd) n P Q a w:=by
 obtain⟨fs,sn,_,g2,g3,_,g5⟩:=Du ops.toList 0 [] s (λ_=>⟨none,[],[],[]⟩) (λn o hn=>by simpa using hn) (λ_ hx=>by cases hx) he
 refine wpIn_region_any hm ?_
 obtain⟨g,β,h⟩:=h
 have hu:D3 ops.size (Array.replicate ops.size false)=List.range' 0 ops.toList.length:=by
  unfold D3
  rw[jq.2]
  ·simp[List.range_eq_range']
  ·intro i hi
   have hi:i < ops.size:=by simpa using hi
   simp[cJ,hi]
 refine J9 (bK:=bK) hΓ hE (fs:=fs) (sn:=sn) (λm1 m2 h1 h2=>g5 m1 m2 (aK _) h1 (by simpa using h2)) (λa' w' hs=>hk sn a' w' hs g3) ops.size _ s a _ (by simp) (by rw[hu];simp) (λi hi hl=> ?_) (by rw[hu];exact g2) ⟨g,β,h.drew⟩
 simp[cJ,hi]at hl
end
end Go.Ab
namespace Go.Ab
theorem pU{ρ:Ren}{s:AS}(h:∀id,(s.obj id).isSome=true->∀ver,ρ id ver=some (id,ver)):∀(v:av),v.there s=true->v.iW ρ=v
 | .ptr id ver p n,ht=>by simp only[av.iW];rw[h id ht]
 | .aS id ver p c i len,ht=>by simp only[av.iW];rw[h id ht]
 | .pr a b,ht=>by
  simp only[av.there,aj]at ht
  simp only[av.iW];rw[pU h a ht.1,pU h b ht.2]
 | .cons a b,ht=>by
  simp only[av.there,aj]at ht
  simp only[av.iW];rw[pU h a ht.1,pU h b ht.2]
 | .fn f c,ht=>by simp only[av.iW];rw[pU h c ht]
 | .bx e z c,ht=>by simp only[av.iW];rw[pU h c ht]
 | .db id ver,ht=>by simp only[av.iW];rw[h id ht]
 | .yl id ver,ht=>by simp only[av.iW];rw[h id ht]
 | .mr k f p,ht=>by simp only[av.iW];rw[pU h f ht]
 | .nH ..,ht=>by cases ht
 | .undef,_ | .gone,_ | .di,_ | .mO,_ | .pL,_ | .sx,_ | .d _ _,_ | .eD _ _,_ | .nil,_ | .vec ..,_ | .mp ..,_ | .sb _,_=>rfl
theorem Sv.bo{E E':Env}(hm:oe E E')(hh:∀b:Nat,E'.w.heap[b]? =E.w.heap[b]?){i q:Id}{ver:Nat}{kt vt:Ty}{rest:List (kt.den×vt.den)}{cur:Option (kt.den×vt.den)}(h:Sv E i q ver kt vt rest cur)(hβ:E'.β i=E.β i)
  (hg:∀pl,E.β i=some pl->E.g pl.b= .own (.id i) 0->E'.g pl.b= .own (.id i) 0)
  (hq:∀vr,ver=vr+1->(E.tT q vr->E'.tT q vr/\(E'.cur q vr->E.cur q vr/\E'.β q=E.β q))/\(∀k v l,E.s q=some (.obj vr true (.mp k v l))->E'.s q=some (.obj vr true (.mp k v l)))/\
   ∀pl,E.β q=some pl->E.g pl.b= .own (.id q) 0->E'.g pl.b= .own (.id q) 0):Sv E' i q ver kt vt rest cur:=by
 obtain⟨pl,mb,since,seen,c0,h1,h2,h3,h4⟩:=h
 refine⟨pl,mb,since,seen,c0,by rw[hβ,h1],by rw[hh,h2],hg pl h1 h3,λvr Ic=> ?_⟩
 obtain⟨h5,h6⟩:=h4 vr Ic
 obtain⟨q1,q2,q3⟩:=hq vr Ic
 obtain⟨b1,b2⟩:=q1 h5
 refine⟨b1,λhc=> ?_⟩
 obtain⟨c1,c2⟩:=b2 hc
 obtain⟨⟨k,v,l,k0⟩,plq,es,clock,k1,k2,k3,k4,k5,k6,k7,k8,k9⟩:=h6 c1
 exact⟨⟨k,v,l,q2 _ _ _ k0⟩,plq,es,clock,by rw[c2,k1],k2,by rw[hh,k3],q3 _ k1 k4,k5,k6,k7,k8.mono hm,λx hx=>
  let⟨e,se,a1,a2,a3,a4⟩:=k9 x hx
  ⟨e,se,a1,a2,a3,a4.mono hm⟩⟩
theorem MX(c:av):(∃q ver k v l cu,c= .nH q ver k v l cu)\/(∀ρ kp,c.RX ρ kp=c.iW ρ)/\∀s v fr,dS.there s (.obj v fr c)=c.there s:=by
 cases c <;> first | exact .inl ⟨_,_,_,_,_,_,rfl⟩ | exact .inr ⟨λ_ _=>rfl,λ_ _ _=>rfl⟩
section
variable {P:Program} {C:Ctx} {g:Nat->kY} {β:Id->Option Pl} {s:AS} {a:Act} {w:World}
theorem Inv.DR(h:Inv C g β s a w)(hC:C.ok){s1:AS}{g1:Nat->kY}{β1:Id->Option Pl}(ρ:Ren)(hlen:s1.cr.length=s.cr.length)(ht:Trans w w g g1)(hle:rQ ρ (s.env w g β) (s1.env w g1 β1))
  (AT:∀i,VS (s1.env w g1 β1) (s1.slot i) (a.tmps.getD i undef))
  (cV:∀id ver fr c,s1.bZ id=some (.obj ver fr c)->pE (s1.env w g1 β1) id fr c\/∃id0 v0 c0,s.bZ id0=some (.obj v0 fr c0)/\c0.iW ρ=c/\β1 id=β id0/\∀pl,β id0=some pl->(∀k,g pl.b= .own (.id id0) k->g1 pl.b= .own (.id id) k)/\(g pl.b= .free->g1 pl.b= .free))
  (hold:∀k,(s.bZ (.aV k)≠none->s1.bZ (.aV k)≠none)/\(∀v fr c,s1.bZ (.aV k)=some (.obj v fr c)->∃c0,s.bZ (.aV k)=some (.obj v fr c0))/\β1 (.aV k)=β (.aV k)):Inv C g1 β1 s1 a w:=by
 refine⟨h.defers.mono ht,by rw[hlen];exact h.size,AT,λid ver fr c dq=> ?_,h.trans.trans ht,?_⟩
 ·rcases cV id ver fr c dq with ho | ⟨id0,v0,c0,h1,h2,h3,h4⟩
  ·exact ho
  have:=pF hle (h.bK id0 v0 fr c0 h1) (id':=id) h3 λpl hp=>⟨rfl,(h4 pl hp).1,(h4 pl hp).2⟩
  rw[h2]at this
  exact this
 ·have hl:=h.le
  have ho:∀id ver,C.E.tT id ver->∃k,id= .aV k:=λid ver hb=>by
   cases id with
   |aV k=>exact⟨k,rfl⟩
   |new i j=>exact absurd (hC.1 i j) hb.1
  refine⟨hl.mem.trans (Trans.mem (E:=s.env w g β) (E':=s1.env w g1 β1) ht),λid ver hb=> ?_,λid ver hb hc=> ?_⟩
  ·obtain⟨k,rfl⟩:=ho id ver hb
   obtain⟨h1,h2⟩:=hl.tT _ ver hb
   obtain⟨e1,e2,_⟩:=hold k
   exact⟨e1 h1,λv fr c hh=>let⟨c0,Ac⟩:=e2 v fr c hh;h2 v fr c0 Ac⟩
  ·obtain⟨k,rfl⟩:=ho id ver hb
   obtain⟨fr,c,hc⟩:=hc
   obtain⟨_,e2,e3⟩:=hold k
   obtain⟨c0,Ac⟩:=e2 _ _ _ hc
   obtain⟨h1,h2⟩:=hl.cur _ ver hb ⟨fr,c0,Ac⟩
   exact⟨h1,e3.trans h2⟩
theorem Inv.renamed(h:Inv C g β s a w)(hC:C.ok){s1:AS}{β1:Id->Option Pl}(ρ:Ren)(hlen:s1.cr.length=s.cr.length)(hle:rQ ρ (s.env w g β) (s1.env w g β1))
  (AT:∀i,VS (s1.env w g β1) (s1.slot i) (a.tmps.getD i undef)) (cV:∀id ver fr c,s1.bZ id=some (.obj ver fr c)->pE (s1.env w g β1) id fr c\/∃v0,s.bZ id=some (.obj v0 fr c)/\c.iW ρ=c/\β1 id=β id)
  (hold:∀k,s1.bZ (.aV k)=s.bZ (.aV k)/\β1 (.aV k)=β (.aV k)):Inv C g β1 s1 a w:=
 h.DR hC ρ hlen (Trans.refl w g) hle AT (λid ver fr c dq=>(cV id ver fr c dq).imp (λh=>h) λ⟨v0,h1,h2,h3⟩=>⟨id,v0,c,h1,h2,h3,λ_ _=>⟨λ_ h=>h,λh=>h⟩⟩)
  λk=>⟨λhh=>by rw[(hold k).1];exact hh,λv fr c hh=>⟨c,(hold k).1.symm.trans hh⟩,(hold k).2⟩
theorem Inv.UE(h:Inv C g β s a w)(j:Nat){v:av}(hv:VS (s.env w g β) v (a.tmps.getD j undef)):Inv C g β (s.put (some j) v) a w:=by
 refine⟨h.defers,by simpa[AS.put]using h.size,λi=> ?_,by simpa using h.bK,h.trans,by simpa using h.le⟩
 rw[Em,B9]
 split
 ·rename_i Vf;rw[Vf.1];exact hv
 ·exact h.cr i
theorem y4(bo:List Nat):∀(l:List av) (n i:Nat),(eT bo n l).getD i .undef= .undef\/(eT bo n l).getD i .undef=l.getD i .undef
 |[],n,i=>by simp[eT]
 |v::l,n,0=>by
  simp only[eT,kz]
  split
  ·exact .inr rfl
  ·exact .inl rfl
 |v::l,n,i+1=>by
  simp only[eT,List.getD_cons_succ]
  exact y4 bo l (n+1) i
theorem sw(bo:List Nat):∀(l:List av) (n:Nat),(eT bo n l).length=l.length
 |[],n=>rfl
 |v::l,n=>by simp[eT,sw bo l]
theorem DW(bo:List Nat):∀(l:List (List dS)) (n i:Nat),(lI bo n l).getD i []=[]\/(lI bo n l).getD i []=l.getD i []
 |[],n,i=>by simp[lI]
 |v::l,n,0=>by
  simp only[lI,kz]
  split
  ·exact .inr rfl
  ·exact .inl rfl
 |v::l,n,i+1=>by
  simp only[lI,List.getD_cons_succ]
  exact DW bo l (n+1) i
theorem KV{s:AS}(i:Nat):s.slot i= .undef\/s.slot i∈s.cr:=by
 unfold AS.slot
 rw[aA]
 cases h:s.cr[i]? with
 |none=>exact .inl rfl
 |some v=>exact .inr (dd h)
theorem OD{s:AS}{id:Id}{e:dS}(h:s.bZ id=some e):e∈s.cz\/∃es∈s.news,e∈es:=by
 cases id with
 |aV k=>exact .inl (dd h)
 |new i j=>
  simp only[AS.bZ,aA]at h
  cases hi:s.news[i]? with
  |none=>rw[hi]at h;simp at h
  |some es=>rw[hi]at h;exact .inr ⟨es,dd hi,dd h⟩
theorem Inv.bo(h:Inv C g β s a w)(hC:C.ok){an:mB}(ht:(xy an s).Fo=true):Inv C g β (xy an s) a w:=by
 obtain⟨ks,kt,_,_,_⟩:=an
 obtain⟨s1,CA⟩:∃s1:AS,s1= {cr:=eT ks 0 s.cr,cz:=s.cz,news:=lI kt 0 s.news}:=⟨_,rfl⟩
 have e1:s1.cr=eT ks 0 s.cr:=by rw[CA]
 have e2:s1.cz=s.cz:=by rw[CA]
 have e3:s1.news=lI kt 0 s.news:=by rw[CA]
 have ht:(s1.cr.all (av.there s1) && s1.cz.all (dS.there s1) && s1.news.all λes=>es.all (dS.there s1))=true:=by rw[CA];exact ht
 show Inv C g β {cr:=eT ks 0 s.cr,cz:=s.cz,news:=lI kt 0 s.news} a w
 rw[<-CA]
 rw[aj,aj]at ht
 obtain⟨⟨t1,t2⟩,t3⟩:=ht
 have cV:∀id,s1.bZ id=none\/s1.bZ id=s.bZ id:=λid=>by
  cases id with
  |aV k=>right;simp only[AS.bZ,e2]
  |new i j=>
   simp only[AS.bZ,e3]
   rcases DW kt s.news 0 i with h | h
   ·rw[h];exact .inl rfl
   ·rw[h];exact .inr rfl
 have OV:∀id,(s1.obj id).isSome=true->s1.bZ id=s.bZ id:=λid hi=>by
  rcases cV id with h | h
  ·simp[AS.obj,h]at hi
  ·exact h
 let ρ:Ren:=λid ver=>if(s1.obj id).isSome=true then some (id,ver) else none
 have hρ:∀v:av,v.there s1=true->v.iW ρ=v:=pU λid dq ver=>if_pos dq
 have hle:rQ ρ (s.env w g β) (s1.env w g β):=by
  refine⟨⟨λ_ _ _ h=>h,λ_ _ h h'=>⟨h,h'⟩⟩,λid ver r hr hb=> ?_⟩
  by_cases hi:(s1.obj id).isSome=true
  ·have:ρ id ver=some (id,ver):=if_pos hi
   rw[this,aq]at hr
   subst hr
   have e:=OV id hi
   obtain⟨b1,b2⟩:=hb
   exact⟨⟨by show s1.bZ id≠none;rw[e];exact b1,λv fr c hh=>b2 v fr c (e.symm.trans hh)⟩,λ⟨fr,c,hc⟩=>⟨⟨fr,c,e.symm.trans hc⟩,rfl⟩⟩
  ·have:ρ id ver=none:=if_neg hi
   rw[this]at hr;cases hr
 refine h.renamed hC ρ (by rw[e1,sw]) hle (λi=> ?_) (λid ver fr c dq=> ?_) λk=>⟨by simp only[AS.bZ,e2],rfl⟩
 ·rcases KV (s:=s1) i with hi | hi
  ·rw[hi];exact VS.undef
  ·have WN:=dv.1 t1 _ hi
   rcases y4 ks s.cr 0 i with h1 | h1
   ·have:s1.slot i= .undef:=by simp only[AS.slot,e1,h1]
    rw[this];exact VS.undef
   ·have:s1.slot i=s.slot i:=by simp only[AS.slot,e1,h1]
    have hv:=wj hle (h.cr i)
    rw[<-this,hρ _ WN]at hv
    exact hv
 ·have:s1.bZ id=s.bZ id:=by
   rcases cV id with h | h
   ·rw[h]at dq;cases dq
   ·exact h
  have hc:dS.there s1 (.obj ver fr c)=true:=by
   rcases OD dq with h | ⟨es,h1,h2⟩
   ·exact dv.1 t2 _ h
   ·exact dv.1 (dv.1 t3 _ h1) _ h2
  rcases MX c with⟨q,vq,k,v,l,cu,rfl⟩ | ⟨_,WN⟩
  ·have e:=OV q hc
   refine .inl (Sv.bo hle.mem (λ_=>rfl) (h.bK id ver fr _ (this.symm.trans dq)) rfl (λ_ _ h=>h) λvr _=>⟨λhb=>hle.ref q vr (q,vr) (if_pos hc) hb,λk v l hk=>e.trans hk,λ_ _ h=>h⟩)
  ·rw[WN]at hc
   exact .inr ⟨ver,this.symm.trans dq,hρ c hc,rfl⟩
theorem Inv.drop(h:Inv C g β s a w)(ks:List Nat):Inv C g β (s.drop ks) a w:=by
 refine⟨h.defers,by simpa[AS.drop,sw]using h.size,λi=> ?_,h.bK,h.trans,h.le⟩
 rcases y4 ks s.cr 0 i with h1 | h1
 ·have:(s.drop ks).slot i= .undef:=h1
  rw[this];exact VS.undef
 ·have:(s.drop ks).slot i=s.slot i:=h1
  rw[this];exact h.cr i
def tI(b q:Nat):kY->kY
 | .own (.id (.new x j)) k=>if x=b then .own (.id (.new q j)) k else .own (.id (.new x j)) k
 |l=>l
theorem Trans.UB(w:World)(g:Nat->kY)(b q:Nat):Trans w w g λx=>tI b q (g x):=by
 refine⟨rfl,rfl,⟨rfl,aw _⟩,aw _,λy _=> ?_⟩
 cases hg:g y with
 |free=>exact⟨by simp[tI],rfl⟩
 |own o k=>cases o with
  |eL=>exact⟨by simp[tI],rfl⟩
  |id x=>
   refine⟨.inr ?_,λ_ _ _ h=>h⟩
   cases x with
   |aV m=>exact⟨_,_,rfl,aw _⟩
   |new x j=>
    simp only[tI]
    split
    ·exact⟨_,_,rfl,aw _⟩
    ·exact⟨_,_,rfl,aw _⟩
theorem G7(f:av->av)(hf:f .undef= .undef)(l:List av)(i:Nat):(l.map f).getD i .undef=f (l.getD i .undef):=by
 simp only[aA,fj]
 cases l[i]? <;> simp[hf]
theorem Inv.uX(h:Inv C g β s a w)(hC:C.ok){b q:Nat}(SI:b < s.news.length)(Y8:q < s.news.length):
  ∃g1 β1,Inv C g1 β1 (s.uX b q (s.news.getD b [])) a w:=by
 generalize YH:s.news.getD b []=es
 have TN:∀j,s.bZ (.new b j)=es[j]? :=λj=>by rw[<-YH];rfl
 let ρ:Ren:=xQ es b q
 let s1:=s.uX b q es
 have kW:∀j',s1.bZ (.new q j')=(es[j']?).map (dS.Pq ρ):=λj'=>by
  simp[s1,AS.uX,AS.bZ,aA,Y8,ρ]
 have TS:b≠q->∀j',s1.bZ (.new b j')=none:=λQ8 j'=>by
  have hbq':¬q=b:=λe=>Q8 e.symm
  simp only[s1,AS.uX,AS.bZ,aA]
  rw[eW hbq',List.getElem?_set,if_pos rfl]
  split <;> simp
 have xt:∀i,(∀j',i≠ .new q j')->(∀j',i≠ .new b j')->s1.bZ i=(s.bZ i).map (dS.CX ρ (vn b q)):=λi hi hi'=>by
  cases i with
  |aV k=>simp[s1,AS.uX,AS.bZ,ρ]
  |new x y=>
   have h1:¬q=x:=λe=>hi y (by rw[e])
   have h2:¬b=x:=λe=>hi' y (by rw[e])
   simp only[s1,AS.uX,AS.bZ,aA]
   rw[eW h1,eW h2,fj]
   cases s.news[x]? <;> simp[ρ]
 let g1:Nat->kY:=λx=>tI b q (g x)
 let β1:Id->Option Pl:=λi=>match i with | .new x j=>if x=q then β (.new b j) else β (.new x j) | .aV k=>β (.aV k)
 have hβ1:∀i,(∀j',i≠ .new q j')->β1 i=β i:=λi hi=>by
  cases i with
  |aV k=>rfl
  |new x y=>exact if_neg λe=>hi y (by rw[e])
 have ht:Trans w w g g1:=Trans.UB w g _ _
 have hρ:∀i ver r,ρ i ver=some r->(∃j fr c,i= .new b j/\es[j]? =some (.obj ver fr c)/\r=(.new q j,0))\/((∀j',i≠ .new q j')/\(∀j',i≠ .new b j')/\r=(i,ver)):=λi ver r hr=>by
  replace hr:xQ es b q i ver=some r:=hr
  cases i with
  |aV k=>exact .inr ⟨λ_=>by simp,λ_=>by simp,(ba hr).symm⟩
  |new x j=>
   unfold xQ at hr
   simp only at hr
   split at hr
   ·rename_i hx
    have hx:x=b:=by simpa using hx
    subst hx
    split at hr
    ·rename_i v fr c he
     split at hr
     ·rename_i hv
      have hv:ver=v:=by simpa using hv
      subst hv
      exact .inl ⟨j,fr,c,rfl,he,(ba hr).symm⟩
     ·cases hr
    ·cases hr
   ·rename_i hx
    have hx:¬x=b:=by simpa using hx
    split at hr
    ·cases hr
    ·rename_i hx'
     have hx':¬x=q:=by simpa using hx'
     exact .inr ⟨λ_ e=>hx' (by injection e),λ_ e=>hx (by injection e),(ba hr).symm⟩
 have hle:rQ ρ (s.env w g β) (s1.env w g1 β1):=by
  refine⟨Trans.mem (E:=s.env w g β) (E':=s1.env w g1 β1) ht,λi ver r hr H6=> ?_⟩
  rcases hρ i ver r hr with⟨j,fr,c,rfl,he,rfl⟩ | ⟨hi,hi',rfl⟩
  ·refine⟨⟨by show s1.bZ (.new q j)≠none;rw[kW,he];simp,λ_ _ _ _=>aK _⟩,λ_=>⟨⟨fr,c,(TN j).trans he⟩,if_pos rfl⟩⟩
  ·obtain⟨k1,k2⟩:=H6
   have k1:s.bZ i≠none:=k1
   have e:s1.bZ i=(s.bZ i).map (dS.CX ρ (vn b q)):=xt i hi hi'
   have back:∀v' fr' c',s1.bZ i=some (.obj v' fr' c')->∃c0,s.bZ i=some (.obj v' fr' c0):=λv' fr' c' hh=>by
    rw[e]at hh
    cases hs:s.bZ i with
    |none=>exact absurd hs k1
    |some en=>
     rw[hs]at hh
     cases en with
     |dead=>simp[dS.CX]at hh
     |obj v0 fr0 c0=>
      simp only[ee,dS.CX,aq,dS.obj.injEq]at hh
      obtain⟨rfl,rfl,_⟩:=hh
      exact⟨c0,rfl⟩
   refine⟨⟨by
    show s1.bZ i≠none
    rw[e]
    cases hs:s.bZ i with
    |none=>exact absurd hs k1
    |some en=>simp,λv' fr' c' hh=> ?_⟩,λ⟨fr',c',hh⟩=> ?_⟩
   ·obtain⟨c0,Ac⟩:=back v' fr' c' hh
    exact k2 v' fr' c0 Ac
   ·obtain⟨c0,Ac⟩:=back ver fr' c' hh
    exact⟨⟨fr',c0,Ac⟩,hβ1 i hi⟩
 have Vd:∀(i:Id),(∀j',i≠ .new b j')->∀(x:Nat) (k:Nat),g x= .own (.id i) k->g1 x= .own (.id i) k:=λi hi x k hk=>by
  show tI b q (g x)=_
  rw[hk]
  cases i with
  |aV m=>rfl
  |new y j=>exact if_neg λe=>hi j (by rw[e])
 refine⟨g1,β1,h.DR hC ρ (by simp[AS.uX]) ht hle (λi=> ?_) (λid ver fr' c' dq=> ?_) λk=>⟨λhk=> ?_,λv' fr' c' hh=> ?_,rfl⟩⟩
 ·have:(s.uX b q es).slot i=(s.slot i).iW ρ:=G7 _ rfl _ _
  rw[this]
  exact wj hle (h.cr i)
 ·have dq:s1.bZ id=some (.obj ver fr' c'):=dq
  by_cases hi:∃j',id= .new q j'
  ·obtain⟨j',rfl⟩:=hi
   rw[kW]at dq
   cases he:es[j']? with
   |none=>rw[he]at dq;cases dq
   |some en=>
    rw[he]at dq
    cases en with
    |dead=>simp[dS.Pq]at dq
    |obj v0 fr0 c0=>
     simp only[ee,dS.Pq,aq,dS.obj.injEq]at dq
     obtain⟨_,rfl,rfl⟩:=dq
     exact .inr ⟨.new b j',v0,c0,(TN j').trans he,rfl,if_pos rfl,λpl hp=>⟨λk hk=>by
      show tI b q (g pl.b)=_
      rw[hk];exact if_pos rfl,λhk=>by
      show tI b q (g pl.b)=_
      rw[hk];rfl⟩⟩
  ·by_cases hi':∃j',id= .new b j'
   ·obtain⟨j',rfl⟩:=hi'
    have Q8:b≠q:=λe=>hi ⟨j',by rw[e]⟩
    rw[TS Q8]at dq;cases dq
   ·have Vi:∀j',id≠ .new q j':=λj' e=>hi ⟨j',e⟩
    have hni':∀j',id≠ .new b j':=λj' e=>hi' ⟨j',e⟩
    have e:=xt id Vi hni'
    rw[e]at dq
    cases hs:s.bZ id with
    |none=>rw[hs]at dq;cases dq
    |some en=>
     rw[hs]at dq
     cases en with
     |dead=>simp[dS.CX]at dq
     |obj v0 fr0 c0=>
      simp only[ee,dS.CX,aq,dS.obj.injEq]at dq
      obtain⟨rfl,rfl,rfl⟩:=dq
      rcases MX c0 with⟨q2,vq,k,v2,l,cu,rfl⟩ | ⟨WE,_⟩
      ·have h0:=h.bK id v0 fr0 _ hs
       left
       simp only[av.RX]
       cases XZ:vn b q q2 with
       |true=>
        have Jy:(∀j',q2≠ .new b j')/\(∀j',q2≠ .new q j')/\∀vr,ρ q2 vr=some (q2,vr):=by
         cases q2 with
         |aV k=>exact⟨λ_=>by simp,λ_=>by simp,λ_=>rfl⟩
         |new x y=>
          simp only[vn,aj,cC,decide_eq_false_iff_not]at XZ
          obtain⟨k1,k2⟩:=XZ
          refine⟨λ_ e=>k1 (by injection e),λ_ e=>k2 (by injection e),λvr=> ?_⟩
          show xQ es b q (.new x y) vr=_
          unfold xQ
          simp only[decide_eq_false k1,decide_eq_false k2]
        obtain⟨Jy,Oa,hρq⟩:=Jy
        refine Sv.bo hle.mem (λ_=>rfl) h0 (hβ1 id Vi) (λpl _ hk=>Vd id hni' _ _ hk) λvr _=>⟨λhb=>hle.ref q2 vr (q2,vr) (hρq vr) hb,λk v l hk=> ?_,λpl _ hk=>Vd q2 Jy _ _ hk⟩
        have hk:s.bZ q2=some (.obj vr true (.mp k v l)):=hk
        show s1.bZ q2=_
        rw[xt q2 Oa Jy,hk]
        rfl
       |false=>
        obtain⟨pl,mb,since,seen,c0,h1,h2,h3,h4⟩:=h0
        exact⟨pl,mb,since,seen,c0,(hβ1 id Vi).trans h1,h2,Vd id hni' _ _ h3,λvr Ic=>by omega⟩
      rw[WE]
      exact .inr ⟨id,v0,c0,hs,rfl,hβ1 id Vi,λpl hp=>⟨λk hk=>Vd id hni' _ _ hk,λhk=>by
       show tI b q (g pl.b)=_
       rw[hk];rfl⟩⟩
 ·have e:=xt (.aV k) (λ_=>by simp) (λ_=>by simp)
  show s1.bZ (.aV k)≠none
  rw[e]
  cases hs:s.bZ (.aV k) with
  |none=>exact absurd hs hk
  |some en=>simp
 ·have e:=xt (.aV k) (λ_=>by simp) (λ_=>by simp)
  have hh:s1.bZ (.aV k)=some (.obj v' fr' c'):=hh
  rw[e]at hh
  cases hs:s.bZ (.aV k) with
  |none=>rw[hs]at hh;cases hh
  |some en=>
   rw[hs]at hh
   cases en with
   |dead=>simp[dS.CX]at hh
   |obj v0 fr0 c0=>
    simp only[ee,dS.CX,aq,dS.obj.injEq]at hh
    obtain⟨rfl,rfl,_⟩:=hh
    exact⟨c0,rfl⟩
theorem Cp{k t:Ty}{l:List (k.den×t.den)}:∀ {p:List vI} {x c':av},¬(qw (.mp k t l) p x).eval=some c'
 |[],x,c',h=>by simp only[qw,ai]at h
 | .arr::p,x,c',h=>by simp only[qw]at h;exact Cp h
 | .idx i::p,x,c',h=>by simp only[qw,ai]at h
 | .fst::p,x,c',h=>by simp only[qw,ai]at h
 | .snd::p,x,c',h=>by simp only[qw,ai]at h
theorem E7{q:Id}{vq:Nat}{k t:Ty}{l:List (k.den×t.den)}{cu:Option (k.den×t.den)}:∀ {p:List vI} {x c':av},¬(qw (.nH q vq k t l cu) p x).eval=some c'
 |[],x,c',h=>by simp only[qw,ai]at h
 | .arr::p,x,c',h=>by simp only[qw]at h;exact E7 h
 | .idx i::p,x,c',h=>by simp only[qw,ai]at h
 | .fst::p,x,c',h=>by simp only[qw,ai]at h
 | .snd::p,x,c',h=>by simp only[qw,ai]at h
theorem E8{k:oX}{f:av}{m:Nat}:∀ {p:List vI} {x c':av},¬(qw (.mr k f m) p x).eval=some c'
 |[],x,c',h=>by simp only[qw,ai]at h
 | .arr::p,x,c',h=>by simp only[qw]at h;exact E8 h
 | .idx i::p,x,c',h=>by simp only[qw,ai]at h
 | .fst::p,x,c',h=>by simp only[qw,ai]at h
 | .snd::p,x,c',h=>by simp only[qw,ai]at h
theorem zG{l:List Value}{n:Nat}{vs:List Value}(h:(l.drop n).take vs.length=vs):dD l n vs=l:=by
 unfold dD
 have h2:l.drop n=vs++l.drop (n+vs.length):=by
  conv=>lhs;rw[<-dO vs.length (l.drop n)]
  rw[h,gD]
 have h3:=dO n l
 rw[h2]at h3
 simpa[aD]using h3
theorem Inv.Uv(h:Inv C g β s a w){j:Nat}{p:List vI}(ym:(s.at j p).eval=some .di){q:Nat}(hq:s.ek q=true){e:TypeId}{t:Ty}(hz:0 < t.size){s':AS}
  (he:((s.born q [.obj 0 false (.vec e t [])]).putAt j (.aS (.new q 0) 0 [] 0 0 0) p).eval=some s'):iE C s' a w:=by
 obtain⟨β',h1,h2,h3⟩:=h.Ng hq (e:=e) hz
 cases p with
 |nil=>
  simp only[AS.at]at ym
  have hj:=ao.1 ym
  simp only[AS.putAt]at he
  obtain rfl:=ao.1 he
  refine⟨g,β',h1.UE j ?_⟩
  have:=h.cr j
  rw[hj]at this
  rw[kg this]
  exact h3
 |cons st p=>
  simp only[AS.at]at ym
  simp only[AS.putAt]at he
  have AT:(s.born q [.obj 0 false (.vec e t [])]).slot j=s.slot j:=rfl
  rw[AT]at he
  split at ym
  ·rename_i id ver p0 nn hj
   split at ym
   ·rename_i v fr c kr
    obtain⟨hv,ym⟩:=ay.1 ym
    obtain⟨⟨n,u⟩,hl,ym⟩:=ak.1 ym
    have hu:=ao.1 ym
    simp only at hu
    subst hu
    have cV:=eH kr
    have fL:id≠ .new q 0:=λe=>by rw[e,(jQ hq).1 0]at cV;cases cV
    have hne':∀j',id≠ .new q j':=λj' e=>by rw[e,(jQ hq).1 j']at cV;cases cV
    have qt:(s.born q [.obj 0 false (.vec e t [])]).bZ id=some (.obj v fr c):=(je _ hne').trans cV
    have Rp:(s.born q [.obj 0 false (.vec e t [])]).obj id=some (v,fr,c):=by simp only[AS.obj,qt]
    simp only[hj,Rp]at he
    split at he
    ·simp only[ai]at he
    ·rename_i c1 V5
     obtain⟨c',zP,he⟩:=ak.1 he
     obtain rfl:=ao.1 he
     have hn:c.iI=false:=by
      cases c <;> first | rfl | (exact(V5 _ _ _ rfl).elim) | (exact absurd zP Cp) | (exact absurd zP E7) | (exact absurd zP E8)
     have hO:=h1.bK id v fr c qt
     obtain⟨pl,cur,e0,hp,hh,hg,hk,hV⟩:=hO.box hn
     have ht:=Trans.refl w g
     have hN:=z6 hk
     have hle:=cP.aO (s:=s.born q [.obj 0 false (.vec e t [])]) (β:=β') (v':=v) (fr':=fr) (c':=c.wrap c') qt (aw _) ht (λ_ _=>rfl) (λ_=>rfl)
     refine⟨g,β',h1.step (du _ _ _) ht hle (jc.aO h1.bK (by rw[qt];simp) hle (λ_ _=>rfl) (λ_ _ _ _ _ _ _ _=>⟨rfl,rfl⟩) ?_ (mG qt λk v1 l e=>by subst e;exact absurd zP Cp))⟩
     obtain⟨cs,k1,k2⟩:=h3
     have k2:cs=[.slice none 0 0]:=k2
     subst k2
     obtain⟨u1,u2,u3⟩:=mI (p0++st::p) c.strip (cur.toList.take (c.qd cur.size)) n .di _ c' [.slice none 0 0] (VO.of hV) hl k1 zP
     have u4:=u2.to (u3.oF hV.oF)
     have sN:((cur.toList.take (c.qd cur.size)).drop n).take 1=[.slice none 0 0]:=by
      rcases nR (p0++st::p) c.strip (cur.toList.take (c.qd cur.size)) n .di (VO.of hV) hl with⟨Ro,Ac⟩ | ⟨q1,q2⟩
      ·rw[<-Ac]at hV
       simp only[V]at hV
       rw[hV,Ro]
       rfl
      ·simpa only[V,av.size]using q1
     rw[zG (vs:=[.slice none 0 0]) sN]at u4
     have ou:c'.size=c.strip.size:=by have e1:=u4.size;have e2:=hV.size;omega
     exact yp.obj ⟨pl,cur,e0,hp,hh,hg,wo hk u4.rq ou,by rw[wV c u4.rq,yy u4.rq ou];exact V.mono hle u4⟩
   ·simp only[ai]at ym
  ·simp only[ai]at ym
theorem vV:∀(ids:List Id) {s:AS} {i:Id} {v:Nat} {fr:Bool} {c:av},s.bZ i=some (.obj v fr c)->∃fr',(s.bl ids).bZ i=some (.obj v fr' c)
 |[],s,i,v,fr,c,h=>⟨fr,h⟩
 |id::ids,s,i,v,fr,c,h=>by
  obtain⟨fr',h'⟩:=AB (id:=id) h
  exact vV ids h'
theorem Inv.Ti(h:Inv C g β s a w){j:Nat}{p:List vI}{u:av}(ym:(s.at j p).eval=some u){t:Ty}{x:t.den}(ht:(s.ji t u).eval=some x){s':AS}
  (he:((s.bl u.shared).putAt j (.d t x) p).eval=some s'):iE C s' a w:=by
 cases p with
 |nil=>
  simp only[AS.at]at ym
  have hj:=ao.1 ym
  simp only[AS.putAt]at he
  obtain rfl:=ao.1 he
  have hs:=h.cr j
  rw[hj]at hs
  obtain⟨g',i1,_,_,cs,hR,hO⟩:=rG h hs ht
  exact⟨g',β,i1.UE j (VS.of (a:= .d t x) (cs:=cs) (by simpa only[V]using hR) hO)⟩
 |cons st p=>
  simp only[AS.at]at ym
  simp only[AS.putAt]at he
  have AT:(s.bl u.shared).slot j=s.slot j:=by simp only[AS.slot,lC]
  rw[AT]at he
  split at ym
  ·rename_i id ver p0 nn hj
   split at ym
   ·rename_i v fr c kr
    obtain⟨hv,ym⟩:=ay.1 ym
    obtain⟨⟨n,u'⟩,hl,ym⟩:=ak.1 ym
    have hu:=ao.1 ym
    simp only at hu
    subst hu
    have cV:=eH kr
    obtain⟨g',h1,h2,h3,h4⟩:=gf u'.shared h
    obtain⟨fr',qt⟩:=vV u'.shared cV
    have Rp:(s.bl u'.shared).obj id=some (v,fr',c):=by simp only[AS.obj,qt]
    simp only[hj,Rp]at he
    split at he
    ·simp only[ai]at he
    ·rename_i c1 V5
     obtain⟨c',zP,he⟩:=ak.1 he
     obtain rfl:=ao.1 he
     have hn:c.iI=false:=by
      cases c <;> first | rfl | (exact(V5 _ _ _ rfl).elim) | (exact absurd zP Cp) | (exact absurd zP E7) | (exact absurd zP E8)
     obtain⟨pl0,cur0,e00,Rr,Rg,Wc,TU,hV0⟩:=(h.bK id v fr c cV).box hn
     obtain⟨pl,cur,e0,hp,hh,hg,hk,hV⟩:=(h1.bK id v fr' c qt).box hn
     have zO:pl0=pl:=by
      have Rr:β id=some pl0:=Rr
      have hp:β id=some pl:=hp
      rw[Rr]at hp
      exact ba hp
     subst zO
     have fB:cur0=cur:=by
      have Rg:w.heap[pl0.b]? =_:=Rg
      have hh:w.heap[pl0.b]? =_:=hh
      rw[Rg]at hh
      simpa using(congrArg (λo=>match o with | some (.cells x _ _)=>x | _=>cur0) hh)
     subst fB
     obtain⟨cs,hVu,sN⟩:∃cs,V (s.env w g β) u' cs/\((cur0.toList.take (c.qd cur0.size)).drop n).take cs.length=cs:=by
      rcases nR (p0++st::p) c.strip (cur0.toList.take (c.qd cur0.size)) n u' (VO.of hV0) hl with⟨Ro,Ac⟩ | ⟨q1,q2⟩
      ·refine⟨cur0.toList.take (c.qd cur0.size),by rw[Ac];exact hV0,?_⟩
       rw[Ro,aJ,dh]
      ·refine⟨_,q1,?_⟩
       rw[bQ,dy]
       congr 1
       omega
     have hR:=pZ rfl h.bK h2 u' t x cs hVu ht h4
     have hVx:V ((s.bl u'.shared).env w g' β) (.d t x) cs:=by simpa only[V]using hR
     have ht':=Trans.refl w g'
     have hle:=cP.aO (s:=s.bl u'.shared) (β:=β) (v':=v) (fr':=fr') (c':=c.wrap c') qt (aw _) ht' (λ_ _=>rfl) (λ_=>rfl)
     refine⟨g',β,h1.step (du _ _ _) ht' hle (jc.aO h1.bK (by rw[qt];simp) hle (λ_ _=>rfl) (λ_ _ _ _ _ _ _ _=>⟨rfl,rfl⟩) ?_ (mG qt λk v1 l e=>by subst e;exact absurd zP Cp))⟩
     obtain⟨u1,u2,u3⟩:=mI (p0++st::p) c.strip (cur0.toList.take (c.qd cur0.size)) n u' _ c' cs (VO.of hV) hl hVx zP
     have u4:=u2.to (u3.oF hV.oF)
     rw[zG (vs:=cs) sN]at u4
     have ou:c'.size=c.strip.size:=by have e1:=u4.size;have e2:=hV.size;omega
     exact yp.obj ⟨pl0,cur0,e0,hp,hh,hg,wo hk u4.rq ou,by rw[wV c u4.rq,yy u4.rq ou];exact V.mono hle u4⟩
   ·simp only[ai]at ym
  ·simp only[ai]at ym
theorem wC{E:Env}:∀(t:Ty) (x:t.den) (u:av),(xl t x).eval=some u->∀cs,dm E t cs x->V E u cs
 | .im t,x,u,h,cs,hr=>by
  simp only[xl]at h
  obtain⟨h1,h2⟩:=bO.1 h
  obtain rfl:=ao.1 h2
  simp only[dm]at hr
  simp only[V]
  exact hr.1 (Option.isNone_iff_eq_none.1 h1)
 | .pair a b,x,u,h,cs,hr=>by
  simp only[xl]at h
  obtain⟨u1,h1,h2⟩:=ak.1 h
  obtain⟨u2,h3,h4⟩:=ak.1 h2
  obtain rfl:=ao.1 h4
  simp only[dm]at hr
  obtain⟨ca,cb,rfl,ha,hb⟩:=hr
  exact HC (wC a x.1 u1 h1 ca ha) (wC b x.2 u2 h3 cb hb)
 | .int k,x,u,h,cs,hr=>by simp only[xl]at h;obtain rfl:=ao.1 h;simpa only[V]using hr
 | .bool,x,u,h,cs,hr=>by simp only[xl]at h;obtain rfl:=ao.1 h;simpa only[V]using hr
 | .str,x,u,h,cs,hr=>by simp only[xl]at h;obtain rfl:=ao.1 h;simpa only[V]using hr
 | .slice t,x,u,h,cs,hr=>by simp only[xl]at h;obtain rfl:=ao.1 h;simpa only[V]using hr
 | .unit,x,u,h,cs,hr=>by simp only[xl]at h;obtain rfl:=ao.1 h;simpa only[V]using hr
 | .arr n t,x,u,h,cs,hr=>by simp only[xl]at h;obtain rfl:=ao.1 h;simpa only[V]using hr
 | .oq t,x,u,h,cs,hr=>by simp only[xl]at h;obtain rfl:=ao.1 h;simpa only[V]using hr
theorem Kh{e:TypeId}{z:Nat}{c:av}{pl:Pl}{n:Nat}(hz:0 < z)(h1:n=pl.cap*z)(h2:pl.cap<=maxLen)(h3:c.size<=n):(av.bx e z c).uz pl n e:=by
 cases z with
 |zero=>omega
 |succ z=>exact⟨rfl,h1,h2,h3⟩
theorem FB{e:TypeId}{z:Nat}{c:av}{n:Nat}(hz:0 < z):(av.bx e z c).qd n=c.size:=by
 cases z with
 |zero=>omega
 |succ z=>rfl
theorem EV{e e':TypeId}{z:Nat}{c:av}{pl:Pl}{n:Nat}(hz:0 < z)(h:(av.bx e z c).uz pl n e'):e'=e/\n=pl.cap*z/\pl.cap<=maxLen/\c.size<=n:=by
 cases z with
 |zero=>omega
 |succ z=>exact h
theorem GR{E:Env}{id:Id}{ver n:Nat}{p p':List vI}{y:Value}(h:VS E (.ptr id ver p n) y):VS E (.ptr id ver p' n) y:=by
 obtain⟨cs,h1,h2⟩:=h
 exact⟨cs,by simpa only[V]using h1,h2⟩
theorem Inv.Tl(h:Inv C g β s a w){j:Nat}{id:Id}{ver n k v:Nat}{p p':List vI}(hj:s.slot j= .ptr id ver p n){e:TypeId}{t:Ty}{r:List t.den}(kr:s.obj id=some (v,false,.vec e t r))
  (hk:k < r.length) {u:av} (hu:(xl t (nth t r k)).eval=some u):
  iE C ((s.aO id (.obj v false (.bx e t.size (.pr (.d (.arr k t) (r.take k)) (.pr u (.d (.arr (r.drop (k+1)).length t) (r.drop (k+1)))))))).put (some j) (.ptr id ver p' n)) a w:=by
 have cV:=eH kr
 obtain⟨hz,hO⟩:pE (s.env w g β) id false (.vec e t r):=h.bK id v false _ cV
 have hO:(match β id with
  |none=>r=[]
  |some pl=>∃cur k,w.heap[pl.b]? =some (.cells cur e (0,0))/\cur.size=pl.cap*t.size/\r.length<=pl.cap/\pl.cap<=maxLen/\g pl.b= .own (.id id) k/\
    k<=r.length*t.size/\(false=false->k=0)/\bj (dm (s.env w g β) t) (cur.toList.take (r.length*t.size)) r):=hO
 have ht:=Trans.refl w g
 have hle:cP (s.env w g β) ((s.aO id (.obj v false (.bx e t.size (.pr (.d (.arr k t) (r.take k)) (.pr u (.d (.arr (r.drop (k+1)).length t) (r.drop (k+1)))))))).env w g β):=
  cP.aO cV (aw _) ht (λ_ _=>rfl) (λ_=>rfl)
 have hI:=h.step (du _ _ _) ht hle (jc.aO h.bK (by rw[cV];simp) hle (λ_ _=>rfl) (λ_ _ _ _ _ _ _ _=>⟨rfl,rfl⟩) (Fc:=xB cV) (by
  cases hp:β id with
  |none=>rw[hp]at hO;simp only at hO;subst hO;simp at hk
  |some pl=>
   rw[hp]at hO
   obtain⟨cur,k0,q1,q2,q3,q4,q5,q6,q7,q8⟩:=hO
   have TU:=q7 rfl
   subst TU
   have Hu:∀c x,dm (s.env w g β) t c x->c.length=t.size:=λc x hx=>hx.size
   have c1:=bj.take Hu k q8
   have c2:=(q8.get Hu k hk)
   have c3:=bj.drop Hu (k+1) q8
   have Fe:V (s.env w g β) u (((cur.toList.take (r.length*t.size)).drop (k*t.size)).take t.size):=wC t _ u (by rw[BI hk]at hu;exact hu) _ c2
   have Zh:=Fe.size
   have hlen:(cur.toList.take (r.length*t.size)).length=r.length*t.size:=bj.length Hu q8
   have ou:r.length*t.size<=cur.size:=by rw[q2];exact cY _ q3
   have ZQ:(k+1)*t.size<=r.length*t.size:=cY _ hk
   have Jy:(k+1)*t.size=k*t.size+t.size:=Nat.succ_mul k t.size
   have Rw:u.size=t.size:=by rw[<-Zh,bQ,dy,hlen];omega
   have hm:(r.drop (k+1)).length*t.size=r.length*t.size - (k+1)*t.size:=by rw[dy,Nat.sub_mul]
   have KC:(av.pr (.d (.arr k t) (r.take k)) (.pr u (.d (.arr (r.drop (k+1)).length t) (r.drop (k+1))))).size=r.length*t.size:=by
    simp only[av.size,Ty.size,Rw,hm]
    omega
   refine yp.obj ⟨pl,cur,e,hp,q1,q5,Kh hz q2 q4 (by rw[KC];exact ou),?_⟩
   rw[FB hz,KC]
   refine V.mono hle ?_
   show V _ (.pr (.d (.arr k t) (r.take k)) (.pr u (.d (.arr (r.drop (k+1)).length t) (r.drop (k+1))))) _
   simp only[V]
   generalize cur.toList.take (r.length*t.size)=R at*
   refine⟨R.take (k*t.size),R.drop (k*t.size),(dO _ _).symm,?_,(R.drop (k*t.size)).take t.size,R.drop ((k+1)*t.size),?_,Fe,?_⟩
   ·simp only[dm]
    exact⟨by rw[bQ];omega,c1⟩
   ·rw[Jy,<-gD,dO]
   ·simp only[dm]
    exact⟨trivial,c3⟩))
 refine⟨g,β,hI.UE j ?_⟩
 have:=h.cr j
 rw[hj]at this
 exact GR (VS.mono hle this)
theorem yI:∀(l:List Nat) {s s1:AS},iE C s a w->(Kv s l).eval=some s1->iE C s1 a w
 |[],s,s1,h,he=>by
  simp only[Kv]at he
  obtain rfl:=ao.1 he
  exact h
 |j::l,s,s1,h,he=>by
  obtain⟨g,β,h⟩:=h
  simp only[Kv]at he
  split at he
  ·rename_i id ver k p n hj
   split at he
   ·rename_i v e t r kr
    obtain⟨h1,he⟩:=ay.1 he
    obtain⟨h2,he⟩:=bO.1 he
    obtain⟨u,h3,he⟩:=ak.1 he
    exact yI l (h.Tl hj kr (of_decide_eq_true h2) h3) he
   ·simp only[ai]at he
  ·exact yI l ⟨g,β,h⟩ he
  ·simp only[ai]at he
theorem yF{s:AS}{id i:Id}(h:i≠id):(s.freeze id).bZ i=s.bZ i:=by
 unfold AS.freeze
 split
 ·exact da s id i _ h
 ·rfl
theorem qs:∀(ids:List Id) {s:AS} {i:Id},i ∉ ids->(s.bl ids).bZ i=s.bZ i
 |[],_,_,_=>rfl
 |id::ids,s,i,h=>by
  have h1:i≠id:=λe=>h (by rw[e];exact aH)
  exact(qs ids λhi=>h (aF _ hi)).trans (yF h1)
theorem Inv.UJ(h:Inv C g β s a w){j:Nat}{id:Id}{ver n k m v z:Nat}{p p':List vI}(hj:s.slot j= .ptr id ver p n){e:TypeId}{t:Ty}{l1 l2:List t.den}{u:av}
  (kr:s.obj id=some (v,false,.bx e z (.pr (.d (.arr k t) l1) (.pr u (.d (.arr m t) l2))))) (hz:z=t.size) (RA:0 < z) (dq:id ∉ u.shared) {x:t.den} (hx:(s.ji t u).eval=some x):
  iE C (((s.bl u.shared).aO id (.obj v false (.vec e t (l1++x::l2)))).put (some j) (.ptr id ver p' n)) a w:=by
 have cV:=eH kr
 obtain⟨pl0,cur0,e0,Rr,Rg,Wc,TU,hV0⟩:=(h.bK id v false _ cV).box rfl
 obtain⟨g',h1,h2,h3,h4⟩:=gf u.shared h
 have qt:(s.bl u.shared).bZ id=some (.obj v false (.bx e z (.pr (.d (.arr k t) l1) (.pr u (.d (.arr m t) l2))))):=(qs _ dq).trans cV
 obtain⟨pl,cur,e1,hp,hh,hg,hk,hV⟩:=(h1.bK id v false _ qt).box rfl
 have hp:β id=some pl:=hp
 have zO:pl0=pl:=by
  have Rr:β id=some pl0:=Rr
  rw[Rr]at hp
  exact ba hp
 subst zO
 have fB:cur0=cur:=by
  have Rg:w.heap[pl0.b]? =_:=Rg
  have hh:w.heap[pl0.b]? =_:=hh
  rw[Rg]at hh
  simpa using(congrArg (λo=>match o with | some (.cells x _ _)=>x | _=>cur0) hh)
 subst fB
 obtain⟨rfl,q2,q4,q3⟩:=EV RA hk
 rw[FB RA]at hV0
 have hV0:V (s.env w g β) (.pr (.d (.arr k t) l1) (.pr u (.d (.arr m t) l2))) _:=hV0
 have Zd:=hV0.size
 simp only[V]at hV0
 obtain⟨ca,cb,hR,hA,cu,cc,Q9,hU,hB⟩:=hV0
 subst Q9
 simp only[dm]at hA hB
 have hX:=pZ rfl h.bK h2 u t x cu hU hx h4
 have Hu:∀c x,dm ((s.bl u.shared).env w g' β) t c x->c.length=t.size:=λc x hx=>hx.size
 have cA:=hA.2.mono λ_ _ hx=>hx.mono h2.mem
 have cB:=hB.2.mono λ_ _ hx=>hx.mono h2.mem
 have pt:bj (dm ((s.bl u.shared).env w g' β) t) (ca++(cu++cc)) (l1++x::l2):=bj.append cA ⟨cu,cc,rfl,hX,cB⟩
 have hlen:=bj.length Hu pt
 have KC:(av.pr (.d (.arr k t) l1) (.pr u (.d (.arr m t) l2))).size=(l1++x::l2).length*t.size:=by rw[<-hlen,<-hR];exact Zd.symm
 rw[KC]at hR q3
 rw[hz]at q2
 have Ia:(l1++x::l2).length<=pl0.cap:=by
  rw[q2]at q3
  exact Nat.le_of_mul_le_mul_right q3 (by omega)
 have ht:=Trans.refl w g'
 have hle:cP ((s.bl u.shared).env w g' β) (((s.bl u.shared).aO id (.obj v false (.vec e1 t (l1++x::l2)))).env w g' β):=cP.aO qt (aw _) ht (λ_ _=>rfl) (λ_=>rfl)
 have hI:=h1.step (du _ _ _) ht hle (jc.aO h1.bK (by rw[qt];simp) hle (λ_ _=>rfl) (λ_ _ _ _ _ _ _ _=>⟨rfl,rfl⟩) (Fc:=mG qt λ_ _ _ e=>by cases e) (by
  refine⟨by omega,?_⟩
  show(match β id with
   |none=>l1++x::l2=[]
   |some pl=>_)
  rw[hp]
  exact⟨cur0,0,hh,q2,Ia,q4,hg,aK _,λ_=>rfl,by rw[hR];exact pt.mono λ_ _ hx=>hx.mono hle.mem⟩))
 refine⟨g',β,hI.UE j ?_⟩
 have:=h.cr j
 rw[hj]at this
 exact GR (VS.mono (h2.trans hle) this)
theorem D1:∀(l:List Nat) {s s1:AS},iE C s a w->(NX s l).eval=some s1->iE C s1 a w
 |[],s,s1,h,he=>by
  simp only[NX]at he
  obtain rfl:=ao.1 he
  exact h
 |j::l,s,s1,h,he=>by
  obtain⟨g,β,h⟩:=h
  simp only[NX]at he
  split at he
  ·rename_i id ver p n hj
   split at he
   ·rename_i v e z k t l1 u m t' l2 kr
    obtain⟨h1,he⟩:=ay.1 he
    obtain⟨l2',h2,he⟩:=ak.1 he
    obtain⟨x,h3,he⟩:=ak.1 he
    simp only[aj,beq_iff_eq,cC,beq_eq_false_iff_ne]at h1
    obtain⟨⟨⟨h5,h6⟩,h7⟩,h8⟩:=h1
    obtain⟨et,hl⟩:=jB (jM.1 h2)
    have et':t'=t:=by simpa using et
    subst et'
    simp only at hl
    subst hl
    refine D1 l (h.UJ hj kr h6 (by omega) (λhi=> ?_) h3) he
    have:(u.shared.any λi=>decide (i=id))=true:=List.any_eq_true.2 ⟨id,hi,by simp⟩
    rw[this]at h8
    cases h8
   ·simp only[ai]at he
  ·simp only[ai]at he
theorem q9:∀(l:List U1) {s s1:AS},iE C s a w->(zb s l).eval=some s1->iE C s1 a w
 |[],s,s1,h,he=>by
  simp only[zb]at he
  obtain rfl:=ao.1 he
  exact h
 |o::l,s,s1,h,he=>by
  obtain⟨g,β,h⟩:=h
  unfold zb at he
  split at he
  ·exact q9 l ⟨g,β,h⟩ he
  obtain⟨u,hu,he⟩:=ak.1 he
  obtain⟨x,hx,he⟩:=ak.1 he
  obtain⟨s',hs,he⟩:=ak.1 he
  exact q9 l (h.Ti hu hx hs) he
theorem lJ(hC:C.ok):∀(l:List Oo) {s s1:AS},iE C s a w->(qP P s l).eval=some s1->iE C s1 a w
 |[],s,s1,h,he=>by
  simp only[qP]at he
  obtain rfl:=ao.1 he
  exact h
 |o::l,s,s1,h,he=>by
  obtain⟨g,β,h⟩:=h
  unfold qP at he
  split at he
  ·exact lJ hC l ⟨g,β,h⟩ he
  obtain⟨u,hu,he⟩:=ak.1 he
  split at he
  ·split at he
   ·rename_i e t b vL hv
    obtain⟨s',h1,h2⟩:=ak.1 he
    exact lJ hC l (h.Uv hu hv (CJ vL) h1) h2
   ·simp only[ai]at he
  ·split at he
   ·rename_i b j ver XU
    split at he
    ·rename_i v fr c kr hm
     split at he
     ·have SI:b < s.news.length:=by
       have:=eH kr
       simp only[AS.bZ,aA]at this
       cases hn:s.news[b]? with
       |none=>rw[hn]at this;simp at this
       |some es=>exact(dL.1 hn).1
      obtain⟨g1,β1,h1⟩:=h.uX hC SI (by simpa using hm)
      exact lJ hC l ⟨g1,β1,h1⟩ he
     ·simp only[ai]at he
    ·simp only[ai]at he
   ·simp only[ai]at he
theorem wX:∀(l:List Nat) {s s1:AS},iE C s a w->(D0 s l).eval=some s1->iE C s1 a w
 |[],s,s1,h,he=>by
  simp only[D0]at he
  obtain rfl:=ao.1 he
  exact h
 |j::l,s,s1,h,he=>by
  obtain⟨g,β,h⟩:=h
  simp only[D0]at he
  split at he
  ·rename_i id ver len hj
   split at he
   ·rename_i v e t r kr
    split at he
    ·obtain⟨h1,h2⟩:=bO.1 he
     have h1:len<=r.length:=by simpa using h1
     refine wX l ?_ h2
     have cV:=eH kr
     have hO:pE (s.env w g β) id false (.vec e t r):=h.bK id v false _ cV
     have ht:=Trans.refl w g
     have hle:cP (s.env w g β) ((s.aO id (.obj v false (.vec e t (r.take len)))).env w g β):=cP.aO cV (aw _) ht (λ_ _=>rfl) (λ_=>rfl)
     refine⟨g,β,h.step (du _ _ _) ht hle (jc.aO h.bK (by rw[cV];simp) hle (λ_ _=>rfl) (λ_ _ _ _ _ _ _ _=>⟨rfl,rfl⟩) ?_ (xB cV))⟩
     obtain⟨hz,hO⟩:=hO
     refine⟨hz,?_⟩
     have hO:(match β id with
      |none=>r=[]
      |some pl=>∃cur k,w.heap[pl.b]? =some (.cells cur e (0,0))/\cur.size=pl.cap*t.size/\r.length<=pl.cap/\pl.cap<=maxLen/\g pl.b= .own (.id id) k/\
        k<=r.length*t.size/\(false=false->k=0)/\bj (dm (s.env w g β) t) (cur.toList.take (r.length*t.size)) r):=hO
     show(match β id with
      |none=>r.take len=[]
      |some pl=>_)
     cases hp:β id with
     |none=>rw[hp]at hO;simp only at hO;subst hO;simp
     |some pl=>
      rw[hp]at hO
      obtain⟨cur,k,q1,q2,q3,q4,q5,q6,q7,q8⟩:=hO
      have hk:=q7 rfl
      subst hk
      have hlen:(r.take len).length=len:=by simp;omega
      refine⟨cur,0,q1,q2,by omega,q4,q5,aK _,λ_=>rfl,?_⟩
      have:=bj.take (λ_ _ hx=>dm.size hx) len q8
      rw[kE,gH (cY _ h1)]at this
      rw[hlen]
      exact this.mono λ_ _ hx=>hx.mono hle.mem
    ·simp only[ai]at he
   ·simp only[ai]at he
  ·simp only[ai]at he
theorem xf:∀(l:List (Nat×Ty)) {s s1:AS},iE C s a w->(asData s l).eval=some s1->iE C s1 a w
 |[],s,s1,h,he=>by
  simp only[asData]at he
  obtain rfl:=ao.1 he
  exact h
 | (j,t)::l,s,s1,h,he=>by
  obtain⟨g,β,h⟩:=h
  simp only[asData]at he
  obtain⟨x,h1,h2⟩:=ak.1 he
  obtain⟨g',i1,_,_,cs,hR,hO⟩:=rG h (h.cr j) h1
  exact xf l ⟨g',β,i1.UE j (VS.of (a:= .d t x) (cs:=cs) (by simpa only[V]using hR) hO)⟩ h2
theorem Inv.still:∀(l:List Nat) {s:AS},Inv C g β s a w->Inv C g β (s.still l) a w
 |[],s,h=>h
 |q::l,s,h=>by
  simp only[AS.still]
  split
  ·rename_i v fr i ver k t r cu kr
   exact Inv.still l (h.Qc (eH kr) (.inr ⟨rfl,rfl,rfl⟩))
  ·exact Inv.still l h
theorem rT{α:Type}(l:List α):(iM l).Perm l:=Quotient.exact (s:=DN α) (mM (Quotient.mk (DN α) l)).choose_spec
theorem Km{α:Type}{l l':List α}(h:l.Perm l'):iM l=iM l':=by
 have e:Quotient.mk (DN α) l=Quotient.mk (DN α) l':=Quotient.sound h
 unfold iM
 have:∀q q':Quotient (DN α),q=q'->(mM q).choose=(mM q').choose:=λq q' h=>by subst h;rfl
 exact this _ _ e
theorem Inv.canon:∀(l:List Id) {s:AS},Inv C g β s a w->Inv C g β (s.canon l) a w
 |[],s,h=>h
 |id::l,s,h=>by
  simp only[AS.canon]
  split
  ·rename_i v fr k t r kr
   have cV:=eH kr
   have ht:=Trans.refl w g
   have hle:cP (s.env w g β) ((s.aO id (.obj v fr (.mp k t (iM r)))).env w g β):=cP.aO cV (aw _) ht (λ_ _=>rfl) (λ_=>rfl)
   obtain⟨pl,es,clock,h1,h2,h3,⟨⟨l',h4,h5⟩,h6⟩,h7⟩:=h.bK id v fr _ cV
   refine Inv.canon l (h.step (du _ _ _) ht hle (jc.aO h.bK (by rw[cV];simp) hle (λ_ _=>rfl) (λ_ _ _ _ _ _ _ _=>⟨rfl,rfl⟩)
    ⟨pl,es,clock,h1,h2,h3,⟨⟨l',h4.mono λ_ _ he=>he.mono hle.mem,h5.trans (rT r).symm⟩,(((rT r).map _).nodup_iff).2 h6⟩,h7⟩ ?_))
   intro ver k' v' l2 hl
   rw[cV]at hl
   simp only[aq,dS.obj.injEq]at hl
   obtain⟨rfl,rfl,_⟩:=hl
   exact⟨rfl,rfl,⟨_,_,_,rfl⟩,λ_ _=>⟨rfl,rfl⟩⟩
  ·exact Inv.canon l h
theorem FG(k v n:Nat)(i:Id)(ver:Nat):(i= .aV k/\ver=v/\pG k v n i ver=some (.aV k,n))\/(i= .aV k/\pG k v n i ver=none)\/(i≠ .aV k/\pG k v n i ver=some (i,ver)):=by
 cases i with
 |new x j=>exact .inr (.inr ⟨by simp,rfl⟩)
 |aV j=>
  simp only[pG]
  cases h1:Nat.beq j k with
  |false=>exact .inr (.inr ⟨λe=>by injection e with e;subst e;simp at h1,rfl⟩)
  |true=>
   obtain rfl:=fb h1
   cases h2:Nat.beq ver v with
   |false=>exact .inr (.inl ⟨rfl,rfl⟩)
   |true=>exact .inl ⟨rfl,fb h2,rfl⟩
theorem FE(hC:C.ok){s s1:AS}(h:Inv C g β s a w){k n:Nat}(he:(s.Mi k n).eval=some s1):Inv C g β s1 a w:=by
 unfold AS.Mi at he
 split at he
 rotate_left
 ·exact(ai.1 he).elim
 rename_i v fr c hk
 obtain⟨Ya,he⟩:=ay.1 he
 have Ya:v<=n\/1<=n:=(Bool.or_eq_true_iff.1 Ya).imp eK eK
 have hz:∀ver,C.E.tT (.aV k) ver->ver=0:=λver hb=>by
  obtain⟨h1,h2⟩:=hb
  cases hs:C.E.s (.aV k) with
  |none=>exact absurd hs h1
  |some en=>
   cases en with
   |dead=>
    have:=(h.le.tT (.aV k) (v+1) ⟨h1,λv' fr' c' hh=>by rw[hs]at hh;cases hh⟩).2 _ _ _ hk
    omega
   |obj v0 fr0 c0=>
    have:=hC.2 _ _ _ _ hs
    have:=h2 _ _ _ hs
    omega
 obtain rfl:=ao.1 he
 have TX:k < s.cz.length:=by
  rcases mC k s.cz.length with h | h
  ·exact h
  ·simp[AS.bZ,dM h]at hk
 generalize CA:({cr:=s.cr.map (av.iW (pG k v n)),cz:=(s.cz.map (dS.IM (pG k v n))).set k (.obj n fr (c.iW (pG k v n))),news:=s.news.map λes=>es.map (dS.IM (pG k v n))}:AS)=s1
 have e0:s1.bZ (.aV k)=some (.obj n fr (c.iW (pG k v n))):=by
  rw[<-CA]
  simp[AS.bZ,TX]
 have e1:∀i,i≠ .aV k->s1.bZ i=(s.bZ i).map (dS.IM (pG k v n)):=λi hi=>by
  rw[<-CA]
  cases i with
  |aV j=>
   have:¬k=j:=λe=>hi (by rw[e])
   simp only[AS.bZ]
   rw[eW this,fj]
  |new x j=>
   simp only[AS.bZ,aA,fj]
   cases s.news[x]? <;> simp
 have e2:∀i v' fr' c',i≠ .aV k->s1.bZ i=some (.obj v' fr' c')->∃c0,s.bZ i=some (.obj v' fr' c0)/\c'=c0.iW (pG k v n):=λi v' fr' c' hi hh=>by
  rw[e1 i hi]at hh
  cases hs:s.bZ i with
  |none=>rw[hs]at hh;cases hh
  |some en=>
   rw[hs]at hh
   cases en with
   |dead=>simp[dS.IM]at hh
   |obj v0 fr0 c0=>
    simp only[ee,dS.IM,aq,dS.obj.injEq]at hh
    obtain⟨rfl,rfl,rfl⟩:=hh
    exact⟨c0,rfl,rfl⟩
 have e3:∀i,i≠ .aV k->s.bZ i≠none->s1.bZ i≠none:=λi hi hh=>by
  rw[e1 i hi]
  cases hs:s.bZ i with
  |none=>exact absurd hs hh
  |some en=>simp
 have hle:rQ (pG k v n) (s.env w g β) (s1.env w g β):=by
  refine⟨Trans.mem (E:=s.env w g β) (E':=s1.env w g β) (Trans.refl w g),λi ver r hr H6=> ?_⟩
  rcases FG k v n i ver with⟨rfl,rfl,e⟩ | ⟨rfl,e⟩ | ⟨hi,e⟩
  ·rw[e]at hr
   obtain rfl:=ba hr
   refine⟨⟨by show s1.bZ (.aV k)≠none;rw[e0];simp,λv' fr' c' hh=> ?_⟩,λ_=>⟨⟨fr,c,hk⟩,rfl⟩⟩
   have hh:s1.bZ (.aV k)=some (.obj v' fr' c'):=hh
   rw[e0]at hh
   simp only[aq,dS.obj.injEq]at hh
   exact Nat.le_of_eq hh.1
  ·rw[e]at hr
   cases hr
  ·rw[e]at hr
   obtain rfl:=ba hr
   obtain⟨k1,k2⟩:=H6
   have k1:s.bZ i≠none:=k1
   have k2:∀v' fr' c',s.bZ i=some (.obj v' fr' c')->ver<=v':=k2
   refine⟨⟨e3 i hi k1,λv' fr' c' hh=> ?_⟩,λ⟨fr',c',hh⟩=> ?_⟩
   ·obtain⟨c0,Ac,_⟩:=e2 i v' fr' c' hi hh
    exact k2 _ _ _ Ac
   ·obtain⟨c0,Ac,_⟩:=e2 i ver fr' c' hi hh
    exact⟨⟨fr',c0,Ac⟩,rfl⟩
 refine⟨h.defers,by rw[<-CA];simpa using h.size,λi=> ?_,λid ver fr' c' dq=> ?_,h.trans,?_⟩
 ·have:s1.slot i=(s.slot i).iW (pG k v n):=by rw[<-CA];exact G7 _ rfl _ _
  rw[this]
  exact wj hle (h.cr i)
 ·have dq:s1.bZ id=some (.obj ver fr' c'):=dq
  by_cases hi:id= .aV k
  ·subst hi
   rw[e0]at dq
   simp only[aq,dS.obj.injEq]at dq
   obtain⟨rfl,rfl,rfl⟩:=dq
   exact pF hle (h.bK (.aV k) v fr c hk) (id':= .aV k) rfl λpl _=>⟨rfl,λ_ h=>h,λh=>h⟩
  ·obtain⟨c0,Ac,rfl⟩:=e2 id ver fr' c' hi dq
   exact pF hle (h.bK id ver fr' c0 Ac) (id':=id) rfl λpl _=>⟨rfl,λ_ h=>h,λh=>h⟩
 ·have hl:=h.le
  refine⟨hl.mem.trans (Trans.mem (E:=s.env w g β) (E':=s1.env w g β) (Trans.refl w g)),λid ver hb=> ?_,λid ver hb hc=> ?_⟩
  ·obtain⟨h1,h2⟩:=hl.tT _ ver hb
   have h1:s.bZ id≠none:=h1
   have h2:∀v' fr' c',s.bZ id=some (.obj v' fr' c')->ver<=v':=h2
   by_cases hi:id= .aV k
   ·subst hi
    obtain rfl:=hz ver hb
    exact⟨by show s1.bZ (.aV k)≠none;rw[e0];simp,λv' fr' c' hh=>aK _⟩
   ·exact⟨e3 id hi h1,λv' fr' c' hh=>let⟨c0,Ac,_⟩:=e2 id v' fr' c' hi hh;h2 _ _ _ Ac⟩
  ·obtain⟨fr',c',hc⟩:=hc
   have hc:s1.bZ id=some (.obj ver fr' c'):=hc
   by_cases hi:id= .aV k
   ·subst hi
    obtain rfl:=hz ver hb
    rw[e0]at hc
    simp only[aq,dS.obj.injEq]at hc
    have e4:=hc.1
    obtain rfl:v=0:=by omega
    exact hl.cur _ _ hb ⟨fr,c,hk⟩
   ·obtain⟨c0,Ac,_⟩:=e2 id ver fr' c' hi hc
    exact hl.cur _ _ hb ⟨fr',c0,Ac⟩
theorem te(hC:C.ok):∀(l:List (Nat×Nat)) {s s1:AS},Inv C g β s a w->(FF s l).eval=some s1->Inv C g β s1 a w
 |[],s,s1,h,he=>by
  obtain rfl:=ao.1 he
  exact h
 |x::l,s,s1,h,he=>by
  obtain⟨s2,h1,h2⟩:=ak.1 he
  exact te hC l (FE hC h h1) h2
theorem mh(hC:C.ok){an:mB}{s1:AS}(h:iE C s a w)(he:(norm P an s).eval=some s1):iE C s1 a w:=by
 unfold norm at he
 obtain⟨sb,Yv,he⟩:=ak.1 he
 obtain⟨su,Yw,he⟩:=ak.1 he
 obtain⟨sd,VV,he⟩:=ak.1 he
 obtain⟨s0,h1,h2⟩:=ak.1 he
 obtain⟨h3,h4⟩:=ay.1 h2
 obtain⟨sf,h5,h6⟩:=ak.1 h4
 obtain⟨g0,β0,h0⟩:=h
 obtain⟨g1,i1,_⟩:=gf an.Jq (te hC _ h0 Yv)
 obtain⟨g,β,h⟩:=xf _ (q9 _ (D1 _ ⟨g1,β0,(i1.still an.Up).canon an.QM⟩ Yw) VV) h1
 exact lJ hC _ (yI _ ⟨g,β,h.bo hC h3⟩ h5) h6
end
end Go.Ab
end
