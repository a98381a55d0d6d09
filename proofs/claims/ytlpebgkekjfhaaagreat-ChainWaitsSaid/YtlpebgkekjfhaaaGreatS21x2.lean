/-
  Made short by a program of mine (wip/tools/mini.py).
-/
import Derived.Test.YtlpebgkekjfhaaaGreatS21x1
import Derived.Lib.Builder
import Derived.Lib.UnsafeStr
import Derived.Lib.AppendZeros
import Derived.Maps.RangeRun
set_option linter.unusedVariables false
set_option linter.unusedSimpArgs false
set_option maxRecDepth 100000
set_option synthInstance.maxSize 5000
noncomputable section
namespace Go.Ab
section
variable {P:Program} {C:Ctx} {g:Nat->kY} {β:Id->Option Pl} {s:AS} {a:Act} {w:World} {o:Oper}
theorem sj{b:Builtin}{args:Array Operand}{ts:Array TypeId}{f:Sem Value}{x:Value}{w':World}(ho:o.op= .call {callee:= .builtin b,args,argTypes:=ts})
  (hb:∀ty cs xs,xs=args.map a.eval->builtin b ts ty cs xs=(do pure (.value (<-f)))) (hf:f.run P w= .ok x w'):(execOp a.eval o).run P w= .ok (.value x) w':=by
 simp only[execOp,ho,resolve,Sem.run_bind,Sem.run_pure,Result.andThen_ok,invoke]
 rw[hb _ _ _ rfl,Sem.run_bind,hf]
 rfl
theorem M4(h:Inv C g β s a w){c:Call}{x:Operand}{T:TypeId}(ho:o.op= .call c)(hc:c.callee= .builtin .len)(ha:c.args.toList=[x])(ht:c.argTypes.toList=[T]){v:av}(he:(O2 P T (s.ev x)).eval=some v):
  fM P o a w (iE C (s.put o.dst v)):=by
 obtain⟨cal,args,tys⟩:=c
 simp only at hc ha ht
 have ha':args= #[x]:=by apply gq;simpa using ha
 have ht':tys= #[T]:=by apply gq;simpa using ht
 subst hc ha' ht'
 have hx:=h.ev x
 have fin:∀z,(Builtin.len_ #[T] 0 #[a.eval x]).run P w= .ok z w->VS (s.env w g β) v z->fM P o a w (iE C (s.put o.dst v)):=by
  intro z h1 h2
  refine h.value h2 (sj ho (f:=Builtin.len_ #[T] 0 #[a.eval x]) (λty cs xs Hr=> ?_) h1)
  subst Hr
  have e1:Builtin.len_ #[T] 0 #[a.eval x]=Builtin.len_ #[T] ty #[a.eval x]:=rfl
  rw[e1]
  simp[builtin]
 unfold O2 at he
 split at he
 ·rename_i st hT hl
  rw[hl]at hx
  obtain rfl:=ao.1 he
  refine fin (.int .i64 (st.size:Int)) ?_ (kj _ _)
  rw[u6 hx]
  simp[Builtin.len_,run_underlying hT,goInt]
 ·rename_i e t l hT hl
  rw[hl]at hx
  obtain rfl:=ao.1 he
  obtain⟨ad,cap,vs,hy,_⟩:=oJ hx
  refine fin (.int .i64 (l.length:Int)) ?_ (kj _ _)
  rw[hy]
  simp[Builtin.len_,run_underlying hT,goInt]
 ·rename_i e hT hl
  rw[hl]at hx
  obtain rfl:=ao.1 he
  refine fin (.int .i64 0) ?_ (kj _ _)
  rw[kg hx]
  simp[Builtin.len_,run_underlying hT,goInt]
 ·rename_i e id ver p c i len hT hl
  rw[hl]at hx
  obtain rfl:=ao.1 he
  obtain⟨ad,cap,hy,_⟩:=np hx
  refine fin (.int .i64 (len:Int)) ?_ (kj _ _)
  rw[hy]
  simp[Builtin.len_,run_underlying hT,goInt]
 ·rename_i n e hT
  obtain rfl:=ao.1 he
  refine fin (.int .i64 (n:Int)) ?_ (kj _ _)
  simp[Builtin.len_,run_underlying hT,goInt]
 ·simp only[ai]at he
def Env.open(E:Env):Env:= {E with g:=λ_=> .free}
theorem Pe(E:Env):cP E E.open:=⟨⟨λ_ _ _ h=>⟨h.1,trivial⟩,λ_ _ _ h=>⟨rfl,h⟩⟩,λ_ _ h=>h,λ_ _ _ h=>⟨h,rfl⟩⟩
theorem ID(h:Inv C g β s a w){v:av}{y:Value}(hv:VS (s.env w g β) v y){t:Ty}{x:t.den}(ht:(s.IC t v).eval=some x):
  ∃cs,dm (s.env w g β).open t cs x/\fV t.agg cs y:=by
 obtain⟨cs,hV,hO⟩:=hv.eX (sh ht)
 exact⟨cs,pZ rfl h.bK (Pe _) v t x cs hV ht (λid _ v fr c _ pl _ j x hx _=>⟨hx,trivial⟩),by rw[<-Cl ht];exact hO⟩
theorem pH{E:Env}{k:IntKind}:∀ {vs:List Value} {l:List Int},bj (dm E (.int k)) vs l->vs=l.map (Value.int k)
 |vs,[],h=>h
 |_,x::xs,⟨c,cs',e,hx,hr⟩=>by
  have hx':c=[Value.int k x]:=by simpa only[dm]using hx
  rw[e,hx',pH hr]
  rfl
theorem pJ{E:Env}{k:IntKind}:∀(l:List Int),bj (dm E (.int k)) (l.map (Value.int k)) l
 |[]=>rfl
 |x::xs=>⟨[.int k x],xs.map (Value.int k),rfl,by simp[dm],pJ xs⟩
theorem foldl_push(l:List Int):∀b:ByteArray,l.foldl (λr n=>r.push (UInt8.ofNat n.toNat)) b=⟨b.data++(l.map λn=>UInt8.ofNat n.toNat).toArray⟩:=by
 induction l with
 |nil=>intro b;simp
 |cons n l ih=>
  intro b
  rw[bT,ih]
  simp[ByteArray.push]
theorem GR{α:Type}(xs:Array α)(x:α)(f:α->α):(xs.push x).modify xs.size f=xs.push (f x):=by
 apply nq
 intro i
 rw[gA,Array.getElem?_push,Array.getElem?_push]
 by_cases h:i=xs.size
 ·subst h;simp
 ·have h':¬xs.size=i:=λe=>h e.symm
  simp[h,h']
theorem Es(w:World)(c:Array Value)(e:TypeId)(n:Nat):(w.alloc (.cells c e)).freeze ⟨w.heap.size,n,none⟩ 1=w.alloc (.cells c e (n,n+1)):=by
 show({w with heap:=(w.heap.push (.cells c e)).modify w.heap.size _}:World)= {w with heap:=w.heap.push (.cells c e (n,n+1))}
 rw[GR]
 rfl
theorem FY{w:World}{b:Nat}{c:Array Value}{e:TypeId}{n:Nat}(h:w.heap[b]? =some (.cells c e (n,n+1))):w.freeze ⟨b,n,none⟩ 1=w:=by
 unfold World.freeze
 rw[if_neg (by omega)]
 have:∀f:Obj->Obj,f (.cells c e (n,n+1))= .cells c e (n,n+1)->w.heap.modify b f=w.heap:=λf hf=>by
  apply nq
  intro i
  rw[gA]
  split
  ·rename_i hi;subst hi;rw[h];simp[hf]
  ·rfl
 rw[this]
 simp
theorem xU(e:TypeId)(st:ByteArray)(w:World):∃cap:Nat,st.size<=cap/\∃arr:Array Value,(∀(j:Nat) (v:Value),((cD st).map (Value.int .u8))[j]? =some v->arr[j]? =some v)/\
  (Conv.stringToBytes e st).run P w= .ok (.slice (some ⟨w.heap.size,0,none⟩) st.size cap) (w.drew.alloc (.cells arr e (arr.size,arr.size+1))):=by
 refine⟨(Question.appendCap st.size 0 e).cut (w.tape w.drawn (.appendCap st.size 0 e)),by simp[Question.cut],
  (st.data.map λb=>Value.int .u8 b.toNat)++Array.replicate ((Question.appendCap st.size 0 e).cut (w.tape w.drawn (.appendCap st.size 0 e)) - st.size) (.int .u8 0),?_,?_⟩
 ·intro j v hj
  have hl:j < st.data.size:=by
   have:=(dL.1 hj).1
   simpa[cD]using this
  rw[jR,if_pos (by simpa using hl)]
  simpa[cD,hl]using hj
 ·have hs:∀(arr:Array Value),(markStringish ⟨w.heap.size,0,none⟩).run P (w.drew.alloc (.cells arr e))= .ok () (w.drew.alloc (.cells arr e (arr.size,arr.size+1))):=by
   intro arr
   have h1:(w.drew.alloc (.cells arr e)).shape? w.heap.size=some (e,arr.size):=by
    have h2:(w.drew.alloc (.cells arr e)).heap[w.heap.size]? =some (.cells arr e):=oh w.drew _
    simp only[World.shape?,h2]
   have h3:=Es w.drew arr e arr.size
   have h4:w.drew.heap.size=w.heap.size:=rfl
   rw[h4]at h3
   simp only[markStringish,Sem.run_bind,run_shape,h1,Result.andThen_ok,run_freeze,h3]
  simp[Conv.stringToBytes,Question.forced,newRow,hs]
theorem Inv.kill(h:Inv C g β s a w){id:Id}{v:Nat}{fr:Bool}{c:av}(hs:s.bZ id=some (.obj v fr c)){b:Nat}(hg:g b= .own (.id id) 0){w':World}(P5:w'.os=w.os)(WN:w'.tape=w.tape)(Ey:w'.output=w.output/\w.drawn<=w'.drawn)(ou:w'.heap.size=w.heap.size)
  (xr:∀b',b'≠b->w'.heap[b']? =w.heap[b']?):Inv C (lp g b .free) β (s.aO id .dead) a w':=by
 have ht:Trans w w' g (lp g b .free):=by
  refine⟨P5,WN,Ey,by omega,λb' hb'=> ?_⟩
  by_cases he:b'=b
  ·subst he
   rw[hg,fJ]
   exact⟨.inl rfl,λ_ _ hh=>by omega⟩
  ·rw[fA _ _ _ he,xr b' he]
   cases zM:g b' with
   |free=>exact⟨rfl,rfl⟩
   |own o k=>cases o with
    |eL=>exact⟨rfl,rfl⟩
    |id i=>exact⟨.inr ⟨i,k,rfl,aw _⟩,λoff v _ hv=>by simp only[World.cell?,xr b' he]at hv ⊢;exact hv⟩
 have kW:=eS s id .dead (by rw[hs];simp)
 have hle:cP (s.env w g β) ((s.aO id .dead).env w' (lp g b .free) β):=by
  refine⟨Trans.mem ht,λi ver hb=> ?_,λi ver hb hc=> ?_⟩
  ·by_cases hi:i=id
   ·subst hi
    exact⟨by show(s.aO i .dead).bZ i≠none;rw[kW];simp,λv fr c hh=>by
     have hh:(s.aO i .dead).bZ i=some (.obj v fr c):=hh
     rw[kW]at hh;cases hh⟩
   ·have:=da s id i .dead hi
    obtain⟨h1,h2⟩:=hb
    exact⟨by show(s.aO id .dead).bZ i≠none;rw[this];exact h1,λv fr c hh=>h2 v fr c (this.symm.trans hh)⟩
  ·obtain⟨fr,c,hc⟩:=hc
   have hc:(s.aO id .dead).bZ i=some (.obj ver fr c):=hc
   by_cases hi:i=id
   ·subst hi;rw[kW]at hc;cases hc
   ·rw[da s id i .dead hi]at hc
    exact⟨⟨fr,c,hc⟩,rfl⟩
 refine h.step (du _ _ _) ht hle λi ver fr c hi=> ?_
 have hi:(s.aO id .dead).bZ i=some (.obj ver fr c):=hi
 by_cases dq:i=id
 ·subst dq;rw[kW]at hi;cases hi
 ·rw[da s id i .dead dq]at hi
  refine(h.bK i ver fr c hi).mono hle rfl (λpl hp=> ?_) λq2 vq k2 v2 l2 yK V5=> ?_
  ·have fL:=h.apart hg dq hi (pl:=pl) hp
   exact⟨xr pl.b fL,fA _ _ _ fL⟩
  ·have yK:s.bZ q2=some (.obj vq true (.mp k2 v2 l2)):=yK
   have hd:q2≠id:=λe=>by
    obtain⟨fr3,c3,PQ⟩:=V5
    have PQ:(s.aO id .dead).bZ q2=some (.obj vq fr3 c3):=PQ
    rw[e,kW]at PQ
    cases PQ
   refine⟨⟨k2,v2,l2,by show(s.aO id .dead).bZ q2=_;rw[da s id q2 .dead hd];exact yK⟩,λpl hp=> ?_⟩
   have fL:=h.apart hg hd yK (pl:=pl) hp
   exact⟨xr pl.b fL,fA _ _ _ fL⟩
theorem HQ(h:Inv C g β s a w){src dst:TypeId}{x:Operand}(ho:o.op= .convert src dst x){id:Id}{ver len:Nat}(hx:s.ev x= .aS id ver [] 0 0 len){s':AS}(he:(FK P s o.dst src dst id ver len).eval=some s'):fM P o a w (iE C s'):=by
 unfold FK at he
 split at he
 ·rename_i v e0 l e kr hD
  split at he
  ·rename_i hE
   obtain⟨h1,h2⟩:=ay.1 he
   obtain⟨h3,h4⟩:=bO.1 h2
   obtain rfl:=ao.1 h4
   simp only[aj,beq_iff_eq]at h1
   obtain⟨rfl,rfl⟩:=h1
   simp only[decide_eq_true_eq]at h3
   obtain⟨h5,h6⟩:=h3
   have cV:=eH kr
   have hv:=h.ev x
   rw[hx]at hv
   obtain⟨ad,cap,hy,xp,_,_,fB⟩:=np hv
   have fB:=fB ⟨false,_,cV⟩
   have hO:pE (s.env w g β) id false (.vec e0 (.int .u8) l):=h.bK id v false _ cV
   obtain⟨hz,hO⟩:=hO
   have hO:(match β id with
    |none=>l=[]
    |some pl=>∃cur k,w.heap[pl.b]? =some (.cells cur e0 (0,0))/\cur.size=pl.cap*(Ty.int .u8).size/\l.length<=pl.cap/\pl.cap<=maxLen/\g pl.b= .own (.id id) k/\
      k<=l.length*(Ty.int .u8).size/\(false=false->k=0)/\bj (dm (s.env w g β) (.int .u8)) (cur.toList.take (l.length*(Ty.int .u8).size)) l):=hO
   have fB:(match β id with
    |some pl=>(0 < len\/0=0->ad=some ⟨pl.b,0,none⟩)/\(([]:List vH)=[]->0=0->cap=pl.cap)
    |none=>ad=none/\len=0/\cap=0):=fB
   cases hp:β id with
   |none=>rw[hp]at hO;simp only at hO;subst hO;simp at h6;omega
   |some pl=>
    rw[hp]at hO fB
    obtain⟨cur,k,q1,q2,q3,q4,q5,q6,q7,q8⟩:=hO
    have hk:=q7 rfl
    subst hk
    have Ky:=fB.1 (.inr rfl)
    subst Ky
    have hb:pl.b < w.heap.size:=(bJ.1 q1).1
    have TQ:∃w',w.freeze ⟨pl.b,cur.size,none⟩ 1=w'/\w'.heap[pl.b]? =some (.cells cur e0 (cur.size,cur.size+1))/\w'.os=w.os/\w'.tape=w.tape/\(w'.output=w.output/\w.drawn<=w'.drawn)/\w'.heap.size=w.heap.size/\∀b',b'≠pl.b->w'.heap[b']? =w.heap[b']? :=by
     refine⟨_,rfl,?_⟩
     unfold World.freeze
     rw[if_neg (by omega)]
     refine⟨?_,rfl,rfl,⟨rfl,aw _⟩,by simp,λb' hb'=> ?_⟩
     ·simp only[gA,if_true,q1,ee]
      rfl
     ·simp only[gA]
      rw[if_neg (λe=>hb' e.symm)]
    obtain⟨w',hw',f1,f2,f3,f4,f5,f6⟩:=TQ
    have MM:w.shape? pl.b=some (e0,cur.size):=by simp only[World.shape?,q1]
    have hm:(markStringish ⟨pl.b,0,none⟩).run P w= .ok () w':=by
     simp only[markStringish,Sem.run_bind,run_shape,MM,Result.andThen_ok,run_freeze,hw']
    have i1:=h.kill cV q5 f2 f3 f4 f5 f6
    refine .inl ⟨.slice (some ⟨pl.b,0,none⟩) len cap,w',eg (f:=convert src src (a.eval x)) (by simp only[execOp,ho]) ?_,_,β,i1.put o.dst ⟨_,?_,rfl⟩⟩
    ·rw[hy]
     simp[convert,run_underlying hD,run_underlying hE,hm]
    ·have zh:=pH q8
     have Rp:(Ty.int .u8).size=1:=rfl
     rw[Rp,jA]at zh
     simp only[V,dm]
     refine⟨_,cap,l.map (Value.int .u8),by rw[h6],by rw[<-h6];exact xp,λ_=>rfl,λj vv hj=>⟨_,_,rfl,?_,?_⟩,pJ (E:=(s.aO id .dead).env w' (lp g pl.b .free) β) _⟩
     ·rw[aI]
      show w'.cell? ⟨pl.b,j,none⟩=some vv
      simp only[World.cell?,f1]
      rw[<-zh,dp]at hj
      split at hj
      ·simpa using hj
      ·cases hj
     ·show oT (lp g pl.b .free) pl.b (0+j)
      unfold oT
      rw[fJ]
      trivial
  ·simp only[ai]at he
 ·simp only[ai]at he
theorem Oy(h:Inv C g β s a w){src dst:TypeId}{x:Operand}(ho:o.op= .convert src dst x){l:List Int}(hl:s.ev x= .sb l){v:av}(he:(Mp P src dst l).eval=some v):fM P o a w (iE C (s.put o.dst v)):=by
 have hx:=h.ev x
 have fin:∀z,(convert src dst (a.eval x)).run P w= .ok z w->VS (s.env w g β) v z->fM P o a w (iE C (s.put o.dst v)):=by
  intro z h1 h2
  exact h.value h2 (eg (f:=convert src dst (a.eval x)) (by simp only[execOp,ho]) h1)
 unfold Mp at he
 split at he
 ·rename_i e e' hD hS
  rw[hl]at hx
  split at he
  ·rename_i hE
   obtain⟨h1,h2⟩:=ay.1 he
   obtain rfl:=ao.1 h2
   have h1:src=dst:=by simpa using h1
   subst h1
   obtain⟨cs,hv,hO⟩:=hx
   simp only[V]at hv
   obtain⟨b,cap,arr,e2,KB,xp,Rc,hb,H4⟩:=hv
   have hO':cs=[a.eval x]:=hO
   rw[KB]at hO'
   have hy:a.eval x= .slice (some ⟨b,0,none⟩) l.length cap:=by simpa using hO'.symm
   rw[hD]at hS
   obtain rfl:e=e':=by simpa using hS
   refine fin (.slice (some ⟨b,0,none⟩) l.length cap) ?_ ⟨_,?_,rfl⟩
   ·rw[hy]
    have hb:w.heap[b]? =some (.cells arr e2 (arr.size,arr.size+1)):=hb
    have TQ:=FY hb
    have MM:w.shape? b=some (e2,arr.size):=by simp only[World.shape?,hb]
    have hm:(markStringish ⟨b,0,none⟩).run P w= .ok () w:=by
     simp only[markStringish,Sem.run_bind,run_shape,MM,Result.andThen_ok,run_freeze,TQ]
    simp[convert,run_underlying hD,run_underlying hE,hm]
   ·simp only[V,dm]
    refine⟨_,cap,l.map (Value.int .u8),rfl,xp,λ_=>rfl,λj v hj=>⟨_,_,rfl,?_,?_⟩,pJ (E:=s.env w g β) _⟩
    ·rw[aI]
     show w.cell? ⟨b,j,none⟩=some v
     have hb:w.heap[b]? =some (.cells arr e2 (arr.size,arr.size+1)):=hb
     simp only[World.cell?,hb]
     simpa using H4 j v hj
    ·show oT g b (0+j)
     unfold oT
     have Rc:g b= .free:=Rc
     rw[Rc]
     trivial
  ·simp only[ai]at he
 ·simp only[ai]at he
theorem Ei(h:Inv C g β s a w){obj:Bool}{src dst:TypeId}{x:Operand}(ho:o.op= .convert src dst x){v:av}(he:(De P s obj src dst (s.ev x)).eval=some v):fM P o a w (iE C (s.put o.dst v)):=by
 have hx:=h.ev x
 have fin:∀z,(convert src dst (a.eval x)).run P w= .ok z w->VS (s.env w g β) v z->fM P o a w (iE C (s.put o.dst v)):=by
  intro z h1 h2
  exact h.value h2 (eg (f:=convert src dst (a.eval x)) (by simp only[execOp,ho]) h1)
 unfold De at he
 split at he
 ·rename_i l hl
  exact Oy h ho hl he
 rename_i TX
 unfold Mo at he
 split at he
 ·rename_i k n k' d hl hD hS
  rw[hl]at hx
  obtain rfl:=ao.1 he
  refine fin (.int k' (k'.wrap n)) ?_ (kj _ _)
  rw[oZ hx]
  simp[convert,run_underlying hD,run_underlying hS,Conv.intToInt]
 ·rename_i st d hl hD hS
  rw[hl]at hx
  obtain rfl:=ao.1 he
  refine fin (.string st) ?_ (D8 _)
  rw[u6 hx]
  simp[convert,run_underlying hD,run_underlying hS]
 ·rename_i st e d hl hD hS
  rw[hl]at hx
  split at he
  ·rename_i hE
   obtain⟨cap,xp,arr,H4,mF⟩:=xU (P:=P) e st w
   have i1:=(h.drew).vg (.cells arr e (arr.size,arr.size+1))
   have hlen:(cD st).length=st.size:=by simp only[cD,cK,cO];rfl
   have h2:=oh w.drew (.cells arr e (arr.size,arr.size+1))
   have hex:(execOp a.eval o).run P w= .ok (.value (.slice (some ⟨w.heap.size,0,none⟩) st.size cap)) (w.drew.alloc (.cells arr e (arr.size,arr.size+1))):=by
    refine eg (f:=convert src dst (a.eval x)) (by simp only[execOp,ho]) ?_
    rw[u6 hx]
    simp[convert,run_underlying hD,run_underlying hS,run_underlying hE,mF]
   have Jv:lp g w.drew.heap.size .free w.heap.size= .free:=by
    rw[show w.drew.heap.size=w.heap.size from rfl,fJ]
   cases obj with
   |false=>
    obtain rfl:=ao.1 he
    refine .inl ⟨_,_,hex,_,β,i1.put o.dst ⟨_,?_,rfl⟩⟩
    simp only[V,dm]
    refine⟨_,cap,(cD st).map (Value.int .u8),by rw[hlen],by omega,λ_=>rfl,λj v hj=>⟨_,_,rfl,?_,?_⟩,pJ (E:=s.env (w.drew.alloc (.cells arr e (arr.size,arr.size+1))) (lp g w.drew.heap.size .free) β) _⟩
    ·have:=H4 j v hj
     rw[aI]
     show(w.drew.alloc (.cells arr e (arr.size,arr.size+1))).cell? ⟨w.drew.heap.size,j,none⟩=some v
     simp only[World.cell?,h2]
     simpa using this
    ·show oT (lp g w.drew.heap.size .free) w.heap.size (0+j)
     unfold oT
     rw[Jv]
     trivial
   |true=>
    obtain rfl:=ao.1 he
    refine .inl ⟨_,_,hex,_,β,i1.put o.dst ⟨_,?_,rfl⟩⟩
    simp only[V]
    exact⟨w.heap.size,cap,arr,e,by rw[hlen],by omega,Jv,h2,H4⟩
  ·simp only[ai]at he
 ·rename_i e hD hS fL
  clear fL
  split at he
  ·rename_i hE
   obtain⟨l,h1,h2⟩:=ak.1 he
   obtain rfl:=ao.1 h2
   obtain⟨cs,hR,hO⟩:=ID h hx h1
   simp only[dm]at hR
   obtain⟨ad,cap,vs,rfl,LJ,mJ,nC,pt⟩:=hR
   have hO': [Value.slice ad (List.length l) cap]=[a.eval x]:=hO
   have hy:a.eval x= .slice ad (List.length l) cap:=by simpa using hO'.symm
   refine fin (.string (fy l)) ?_ (D8 _)
   rw[hy,run_convert_bytes_string w src dst e ad _ _ hS hE hD]
   have zh:=pH (E:=(s.env w g β).open) (k:= .u8) (vs:=vs) (l:=l) pt
   cases ad with
   |none=>
    have TX:l=[]:=by
     cases l with
     |nil=>rfl
     |cons _ _=>simp at mJ
    subst TX
    rfl
   |some ad=>
    have MI:(loadCells ad (List.length l)).run P w= .ok (l.map (Value.int .u8)).toArray w:=by
     have:=run_loadCells_list (P:=P) w ad (l.map (Value.int .u8)) (λj v hj=>by
      rw[<-zh]at hj
      obtain⟨bb,off,e1,hh⟩:=nC j v hj
      simp only[aq]at e1
      subst e1
      rw[Addr.add_lit]
      exact hh.1)
     simpa using this
    rw[run_bytesToString w ad _ _ l MI,foldl_push]
    simp[fy]
  ·simp only[ai]at he
 ·simp only[ai]at he
end
end Go.Ab
namespace Go.Ab
section
variable {P:Program} {C:Ctx} {g:Nat->kY} {β:Id->Option Pl} {s:AS} {a:Act} {w:World} {o:Oper}
theorem Dm(off:Nat):∀(vs:List Value) (k:Nat) (cells:Array Value),off+k+vs.length<=cells.size->
  ((vs.zipIdx k).foldl (λcs (c,j)=>cs.setIfInBounds (off+j) c) cells).toList=dD cells.toList (off+k) vs
 |[],k,cells,_=>by simp[dD]
 |v::vs,k,cells,h=>by
  simp only[aB]at h
  rw[List.zipIdx_cons,bT,Dm off vs (k+1) _ (by simpa using(by omega:off+(k+1)+vs.length<=cells.size))]
  rw[Array.toList_setIfInBounds]
  have:=list_seg_step cells.toList (off+k) v vs (by simp;omega)
  unfold dD
  simpa[gb]using this
theorem Dj{place:Nat->Option (Nat×Nat)}{cells:Array Value}{i off:Nat}{v:Value}{vs:List Value}{rest:List (Nat×Value)}(hp:place i=some (off,vs.length))(hv:v.cells=vs.toArray)(hl:off+vs.length<=cells.size):
  Instr.fill place cells ((i,v)::rest)=Instr.fill place (dD cells.toList off vs).toArray rest:=by
 have h1:v.cells.size=vs.length:=by rw[hv];simp
 have h2:¬(v.cells.size≠vs.length || off+v.cells.size > cells.size)=true:=by simp[h1];omega
 simp only[Instr.fill,hp]
 rw[if_neg h2]
 congr 1
 apply gq
 have:=Dm off vs 0 cells (by omega)
 simp only[cF]at this
 rw[<-this,hv]
 rw[<-Array.foldl_toList]
 simp
theorem sA{E E':Env}(hs:E.s=s.bZ)(ho:jc E)(he:cP E E'){t:Ty}(KC:∀x,VS E (s.ev x) (a.eval x)):
  ∀(ps:List (Nat×Operand)) (l:List t.den) (r:List t.den×List Id) (cells:Array Value),(jt t s ps l).eval=some r->S9 E E' r.2->bj (dm E' t) cells.toList l->
   ∃cells',Instr.fill (λi=>some (i*t.size,t.size)) cells (ps.map λ(i,x)=>(i,a.eval x))=some cells'/\bj (dm E' t) cells'.toList r.1
 |[],l,r,cells,h,_,hc=>by
  obtain rfl:=ao.1 h
  exact⟨cells,rfl,hc⟩
 | (i,x)::ps,l,r,cells,h,hf,hc=>by
  simp only[jt]at h
  obtain⟨h1,h2⟩:=ay.1 h
  obtain⟨y,h3,h4⟩:=ak.1 h2
  obtain⟨r',h5,h6⟩:=ak.1 h4
  obtain rfl:=ao.1 h6
  have hi:i < l.length:=by simpa using h1
  obtain⟨cs,hV,hO⟩:=(KC x).eX (sh h3)
  have hR:=pZ hs ho he _ t y cs hV h3 (λid dq=>hf id (by simp[dq]))
  have sM:=hO.cells hV.one
  have hlen:=hc.length (λ_ _ hx=>dm.size hx)
  have ou:=hR.size
  have hle:i*t.size+cs.length<=cells.size:=by
   have:=cY t.size (show i+1<=l.length by omega)
   rw[eM,iy]at this
   simp at hlen
   omega
  have EA:=bj.set (λ_ _ hx=>dm.size hx) hc i hi hR
  obtain⟨cells',q1,q2⟩:=sA hs ho he KC ps (l.set i y) r' (dD cells.toList (i*t.size) cs).toArray h5 (λid dq=>hf id (by simp[dq])) EA
  refine⟨cells',?_,q2⟩
  rw[bX,Dj (by rw[ou]) sM hle]
  exact q1
theorem oG{E:Env}{t:Ty}{zc:Array Value}(hz:dm E t zc.toList t.zero):∀n:Nat,bj (dm E t) (madeCells zc (n*t.size)).toList (List.replicate n t.zero):=by
 have ou:zc.size=t.size:=by have:=hz.size;simpa using this
 intro n
 induction n with
 |zero=>simp[madeCells,bj]
 |succ n ih=>
  have e:(madeCells zc ((n+1)*t.size)).toList=(madeCells zc (n*t.size)).toList++zc.toList:=by
   apply j5
   intro j
   rw[eM,iy]
   simp only[madeCells,Array.toList_map,Array.toList_range,fj,List.getElem?_append,cK,List.length_range]
   by_cases hj:j < n*t.size
   ·have hj':j < n*t.size+t.size:=by omega
    simp[hj,hj',ou]
   ·by_cases hj':j < n*t.size+t.size
    ·have iv:j - n*t.size < zc.size:=by omega
     have hm:j%t.size=j - n*t.size:=by
      have:j=(j - n*t.size)+t.size*n:=by rw[mD t.size n];omega
      rw[this,Nat.add_mul_mod_self_left,jG (by omega)]
      rw[mD t.size n];omega
     simp[hj,hj',ou,hm]
     rw[getElem?_pos zc _ iv,getElem!_pos zc _ iv]
    ·have h1:¬j - n*t.size < zc.size:=by omega
     simp[hj,hj',h1]
  rw[e,List.replicate_succ']
  exact bj.append ih (bj.one hz)
theorem mY{nl:Bool}{T:TypeId}{e:TypeId}{t:Ty}{b:Nat}(h:tl P nl T=some (e,t,b)):
  P.underlying T=some (.slice e)/\0 < t.size/\∃i zv,P.info? e=some i/\i.size=t.size/\i.bytes=b/\i.zero=some zv/\∀E,dm E t zv.cells.toList t.zero:=by
 unfold tl at h
 split at h
 ·rename_i e' hT
  split at h
  ·rename_i t' ht
   split at h
   ·rename_i hg
    simp only[aq,cR]at h
    obtain⟨rfl,rfl,rfl⟩:=h
    simp only[aj,cC,beq_iff_eq,beq_eq_false_iff_ne]at hg
    obtain⟨⟨h1,h2⟩,h3⟩:=hg
    obtain⟨i,zv,hi,hz,_,_⟩:=pn h3 {w:=default,g:=λ_=> .free,β:=λ_=>none,s:=λ_=>none}
    refine⟨hT,by omega,i,zv,hi,by rw[<-lg hi];exact h1,by simp[Program.bytesOf,hi],hz,λE=> ?_⟩
    obtain⟨i',zv',hi',hz',hV,_⟩:=pn h3 E
    rw[hi]at hi'
    obtain rfl:i=i':=by simpa using hi'
    rw[hz]at hz'
    obtain rfl:zv=zv':=by simpa using hz'
    simpa only[V]using hV
   ·cases h
  ·cases h
 ·cases h
theorem so{T:TypeId}{e:TypeId}{t:Ty}{b:Nat}(h:z6 P T=some (e,t,b)):
  P.underlying T=some (.slice e)/\0 < t.size/\∃i zv,P.info? e=some i/\i.size=t.size/\i.bytes=b/\i.zero=some zv/\∀E,dm E t zv.cells.toList t.zero:=mY h
theorem CI{T:TypeId}{e:TypeId}{t:Ty}{b:Nat}(h:Ek P T=some (e,t,b)):0 < t.size:=by
 unfold Ek at h
 split at h
 ·exact(mY h).2.1
 ·exact(mY h).2.1
theorem Inv.EP(h:Inv C g β s a w){q:Nat}(hq:s.ek q=true){e:TypeId}{t:Ty}{l:List t.den}{cur:Array Value}{cap:Nat}(hz:0 < t.size)(hc:bj (dm (s.env w g β) t) (cur.toList.take (l.length*t.size)) l)
  (hs:cur.size=cap*t.size) (hl:l.length<=cap) (hm:cap<=maxLen):
  ∃g' β',Inv C g' β' (s.born q [.obj 0 false (.vec e t l)]) a (w.alloc (.cells cur e))/\
   VS ((s.born q [.obj 0 false (.vec e t l)]).env (w.alloc (.cells cur e)) g' β') (.aS (.new q 0) 0 [] 0 0 l.length) (.slice (some ⟨w.heap.size,0,none⟩) l.length cap):=by
 have ht:=Trans.alloc w g (.cells cur e) (.own (.id (.new q 0)) 0)
 obtain⟨h1,h2⟩:=h.yu hq (c:= .vec e t l) (p:=some ⟨w.heap.size,cap⟩) ht (λb hb=>⟨mW w _ hb,fA _ _ _ (by omega)⟩) (λhe=>by
  refine⟨hz,?_⟩
  show(match vc β (.new q 0) (some ⟨w.heap.size,cap⟩) (.new q 0) with
   |none=>l=[]
   |some pl=>_)
  rw[jI]
  exact⟨cur,0,oh w _,hs,hl,hm,fJ _ _ _,aK _,λ_=>rfl,hc.mono λ_ _ hx=>hx.mono he.mem⟩)
 refine⟨_,_,h1,_,?_,rfl⟩
 simp only[V]
 refine⟨_,_,rfl,hl,λ_=>rfl,mE hq _ _ _ _,λ_=> ?_⟩
 show(match vc β (.new q 0) (some ⟨w.heap.size,cap⟩) (.new q 0) with
   |some pl=>_
   |none=>_)
 rw[jI]
 exact⟨λ_=>rfl,λ_ _=>rfl⟩
theorem Inv.Nf(h:Inv C g β s a w){q:Nat}(hq:s.ek q=true){e:TypeId}{t:Ty}(hz:0 < t.size):
  ∃β',Inv C g β' (s.born q [.obj 0 false (.vec e t [])]) a w/\cP (s.env w g β) ((s.born q [.obj 0 false (.vec e t [])]).env w g β')/\
   VS ((s.born q [.obj 0 false (.vec e t [])]).env w g β') (.aS (.new q 0) 0 [] 0 0 0) (.slice none 0 0):=by
 have ht:=Trans.refl w g
 obtain⟨h1,h2⟩:=h.yu hq (c:= .vec e t []) (p:=none) ht (λb hb=>⟨rfl,rfl⟩) (λhe=>by
  refine⟨hz,?_⟩
  show(match vc β (.new q 0) none (.new q 0) with
   |none=>([]:List t.den)=[]
   |some pl=>_)
  rw[jI])
 refine⟨_,h1,h2,_,?_,rfl⟩
 simp only[V]
 refine⟨_,_,rfl,aw _,λhh=>by omega,mE hq _ _ _ _,λ_=> ?_⟩
 simp[AS.env]
theorem yR(parts:Array (Nat×Operand)):(parts.map λ(i,x)=>(i,a.eval x)).toList=parts.toList.map λ(i,x)=>(i,a.eval x):=by simp
theorem zK(h:Inv C g β s a w){T:TypeId}{n:Nat}{parts:Array (Nat×Operand)}{nl obj:Bool}(ho:o.op= .buildSlice T n parts){s':AS}(he:(kU P s nl obj o.dst T n parts.toList).eval=some s'):fM P o a w (iE C s'):=by
 unfold kU at he
 split at he
 ·rename_i e t b q vK hd
  obtain⟨hT,hz,i,zv,hi,KE,Rg,Hs,KI⟩:=mY vK
  obtain⟨h1,h2⟩:=ay.1 he
  obtain⟨r,h3,h4⟩:=ak.1 h2
  simp only[decide_eq_true_eq]at h1
  obtain⟨g1,i1,e1,t1,f1⟩:=gf r.2 h
  have SX:zv.cells.size=t.size:=by have:=(KI (s.env w g β)).size;simpa using this
  obtain⟨cells',TO,pt⟩:=sA (a:=a) rfl h.bK e1 h.ev parts.toList _ r (madeCells zv.cells (n*t.size)) h3 f1 (oG (KI _) n)
  have T1:r.1.length=n:=by
   have:∀(ps:List (Nat×Operand)) (l:List t.den) (r:List t.den×List Id),(jt t s ps l).eval=some r->r.1.length=l.length:=by
    intro ps
    induction ps with
    |nil=>intro l r hh;obtain rfl:=ao.1 hh;rfl
    |cons p ps ih=>
     intro l r hh
     obtain⟨i,x⟩:=p
     simp only[jt]at hh
     obtain⟨_,h2⟩:=ay.1 hh
     obtain⟨y,h3,h4⟩:=ak.1 h2
     obtain⟨r',h5,h6⟩:=ak.1 h4
     obtain rfl:=ao.1 h6
     have:=ih _ _ h5
     simpa using this
   rw[this _ _ _ h3]
   simp
  have LH:=pt.length (λ_ _ hx=>dm.size hx)
  have mF:(execOp a.eval o).run P w= .ok (.value (.slice (some ⟨w.heap.size,0,none⟩) n n)) (w.alloc (.cells cells' e)):=by
   refine eg (f:=Instr.buildSlice T n (parts.map λ(i,x)=>(i,a.eval x))) (by simp only[execOp,ho]) ?_
   have TA:¬n*t.size > 2^24:=by omega
   have hfill':Instr.fill (λi=>some (i*t.size,t.size)) ((Array.range (n*t.size)).map (λx=>(zv.cells)[x%zv.cells.size]!)) (parts.map λ(i,x)=>(i,a.eval x)).toList=some cells':=by
    rw[yR];exact TO
   by_cases hn:n*t.size=0
   ·have Rn:n=0:=by
     rcases Nat.mul_eq_zero.1 hn with h' | h'
     ·exact h'
     ·omega
    subst Rn
    simp only[lf]at hfill' TA
    have h0:Array.range 0= #[]:=rfl
    rw[h0,Array.map_empty]at hfill'
    simp at hfill'
    simp[Instr.buildSlice,run_underlying hT,run_sizeOf hi,KE,newRow,h0,hfill']
   ·simp[Instr.buildSlice,run_underlying hT,run_sizeOf hi,KE,newRow,hn,TA,zeroValue,typeInfo,hi,Hs]
    simp at hfill'
    simp[hfill']
  cases obj with
  |true=>
   simp only at h4
   obtain⟨hq,h5⟩:=ay.1 h4
   obtain rfl:=ao.1 h5
   rw[<-pj r.2]at hq
   have TP:cells'.toList.take (r.1.length*t.size)=cells'.toList:=bk (by omega)
   obtain⟨g2,β2,i2,zg⟩:=i1.EP hq (e:=e) (l:=r.1) (cur:=cells') (cap:=n) hz (by rw[TP];exact pt) (by simp at LH;rw[LH,T1]) (by omega) (by
    have:n<=n*t.size:=Nat.le_mul_of_pos_right n hz
    unfold maxLen;omega)
   refine .inl ⟨_,_,mF,g2,β2,?_⟩
   rw[hd]
   rw[T1]at zg ⊢
   exact i2.put (some q) zg
  |false=>
   simp only at h4
   obtain rfl:=ao.1 h4
   have i2:=i1.vg (.cells cells' e)
   refine .inl ⟨_,_,mF,lp g1 w.heap.size .free,β,?_⟩
   rw[hd]
   refine i2.put (some q) ⟨[.slice (some ⟨w.heap.size,0,none⟩) n n],?_,rfl⟩
   simp only[V,dm]
   refine⟨_,n,cells'.toList,by rw[T1],by omega,λ_=>rfl,λj v hj=>⟨_,_,rfl,?_,?_⟩,pt.mono λ_ _ hx=>hx.mono (Trans.mem (E:=(s.bl r.2).env w g1 β) (E':=(s.bl r.2).env (w.alloc (.cells cells' e)) (lp g1 w.heap.size .free) β) (Trans.alloc w g1 (.cells cells' e) .free))⟩
   ·show(w.alloc (.cells cells' e)).cell? ⟨w.heap.size,0+j,none⟩=some v
    rw[World.cell?_alloc_new,aI];simpa using hj
   ·show oT (lp g1 w.heap.size .free) w.heap.size (0+j)
    unfold oT;rw[fJ];trivial
 ·simp only[ai]at he
theorem Bg(h:Inv C g β s a w){T:TypeId}{x y:Operand}(ho:o.op= .makeSlice T x y){len cap:Int}(hx:(asInt (s.ev x)).eval=some len)(hy:(asInt (s.ev y)).eval=some cap){s':AS}
  (he:(nJ P s o.dst T len cap).eval=some s'):fM P o a w (iE C s'):=by
 obtain⟨k,hx⟩:=qV (h.ev x) hx
 obtain⟨k',hy⟩:=qV (h.ev y) hy
 unfold nJ at he
 split at he
 ·rename_i e t b q vK hd
  obtain⟨hT,hz,i,zv,hi,KE,Rg,Hs,KI⟩:=so vK
  obtain⟨hq,h2⟩:=ay.1 he
  obtain⟨h3,h4⟩:=bO.1 h2
  obtain rfl:=ao.1 h4
  simp only[aj,decide_eq_true_eq,dZ]at h3
  obtain⟨⟨h5,h6⟩,h7,h8⟩:=h3
  have hbytes:(i.bytes:Int)*cap<=281474976710656:=by
   rw[Rg]
   have:((cap.toNat*b:Nat):Int)<=140737488355328:=by omega
   rw[jX,show((cap.toNat:Nat):Int)=cap by omega,Int.mul_comm]at this
   omega
  have hr:=run_make (P:=P) w T e i zv hT hi Hs k k' len cap h5 h6 hbytes (by omega)
  rw[KE]at hr
  have SX:zv.cells.size=t.size:=by have:=(KI (s.env w g β)).size;simpa using this
  have uG:=oG (KI (s.env w g β)) cap.toNat
  have Ru:=bj.take (λ_ _ hx=>dm.size hx) len.toNat uG
  rw[List.take_replicate,gH (by omega)]at Ru
  obtain⟨g2,β2,i2,zg⟩:=h.EP hq (e:=e) (l:=List.replicate len.toNat t.zero) (cur:=madeCells zv.cells (cap.toNat*t.size)) (cap:=cap.toNat) hz (by rw[dg];exact Ru) (size_madeCells _ _) (by rw[dg];omega) (by unfold maxLen;omega)
  rw[dg]at zg
  refine .inl ⟨_,_,eg (f:=Instr.makeSlice T (a.eval x) (a.eval y)) (by simp only[execOp,ho]) (by rw[hx,hy];exact hr),g2,β2,?_⟩
  rw[hd]
  exact i2.put (some q) zg
 ·simp only[ai]at he
end
end Go.Ab
namespace Go.Ab
section
variable {P:Program} {C:Ctx} {g:Nat->kY} {β:Id->Option Pl} {s:AS} {a:Act} {w:World} {o:Oper}
theorem IB:∀(c:av) (f off:Nat) (v:av),partOf c f=some (off,v)->(loc c (lG f)).eval=some (off,v):=by
 intro c f
 induction f generalizing c with
 |zero=>
  intro off v h
  cases c with
  |d t y=>
   cases t <;> simp only[partOf,reduceCtorEq]at h
   simp only[aq,cR]at h
   obtain⟨rfl,rfl⟩:=h
   rfl
  |pr b c=>
   simp only[partOf,aq,cR]at h
   obtain⟨rfl,rfl⟩:=h
   simp only[lG,loc]
   cases b <;> rfl
  |_=>simp only[partOf,reduceCtorEq]at h
 |succ f ih=>
  intro off v h
  cases c with
  |d t y=>
   cases t with
   |pair ta tb=>
    simp only[partOf]at h
    cases hp:partOf (.d tb y.2) f with
    |none=>rw[hp]at h;cases h
    |some r=>
     rw[hp]at h
     simp only[aq,cR]at h
     obtain⟨rfl,rfl⟩:=h
     simp only[lG,loc,ak]
     exact⟨_,ih _ _ _ hp,rfl⟩
   |_=>simp only[partOf,reduceCtorEq]at h
  |pr b c=>
   simp only[partOf]at h
   cases hp:partOf c f with
   |none=>rw[hp]at h;cases h
   |some r=>
    rw[hp]at h
    simp only[aq,cR]at h
    obtain⟨rfl,rfl⟩:=h
    simp only[lG,loc,ak]
    exact⟨_,ih _ _ _ hp,rfl⟩
  |_=>simp only[partOf,reduceCtorEq]at h
theorem Gu(a b:av):(xD a b).agg=true:=by unfold xD;split <;> rfl
theorem C2{v x v':av}{i:Nat}(h:(qv v (lG i) x).eval=some v'):v'.agg=true:=by
 have fin:∀ {o:Out av} {f:av->av},(∀a,(f a).agg=true)->(o.bind λa=>Out.ok (f a)).eval=some v'->v'.agg=true:=by
  intro o f hf hh
  obtain⟨_,_,h2⟩:=ak.1 hh
  obtain rfl:=ao.1 h2
  exact hf _
 cases i <;> simp only[lG]at h
 all_goals
  cases v with
  |d t y=>cases t <;> first | (simp only[qv,ai]at h;done) | (simp only[qv]at h;exact fin (λ_=>Gu _ _) h)
  |pr b c=>simp only[qv]at h;exact fin (λ_=>Gu _ _) h
  |_=>simp only[qv,ai]at h
theorem uX{E:Env}(KC:∀x,VS E (s.ev x) (a.eval x)){fs:Array Field}{places:Array (Nat×Nat)}(zN:∀(i:Nat) (f:Field),fs[i]? =some f->places[i]? =some (f.offset,P.cellsOf f.type)):
  ∀(ps:List (Nat×Operand)) (v v':av) (cells:Array Value),(mH P fs s ps v).eval=some v'->V E v cells.toList->v.agg=true->
   ∃cells',Instr.fill (places[·]?) cells (ps.map λ(i,x)=>(i,a.eval x))=some cells'/\V E v' cells'.toList/\v'.agg=true
 |[],v,v',cells,h,hV,w6=>by
  obtain rfl:=ao.1 h
  exact⟨cells,rfl,hV,w6⟩
 | (i,x)::ps,v,v',cells,h,hV,w6=>by
  simp only[mH]at h
  split at h
  ·rename_i f off aV hf hp
   obtain⟨h1,h2⟩:=ay.1 h
   obtain⟨v1,h3,h4⟩:=ak.1 h2
   simp only[aj,beq_iff_eq]at h1
   obtain⟨⟨rfl,Vb⟩,XR⟩:=h1
   obtain⟨H6,_⟩:=nB XR
   obtain⟨cs,hVx,hO⟩:=(KC x).eX H6
   have hcells:=hO.cells hVx.one
   have Wk:=IB _ _ _ _ hp
   obtain⟨u1,u2,u3⟩:=mI (lG i) v cells.toList f.offset aV (s.ev x) v1 cs (VO.of hV) Wk hVx h3
   have T4:v1.iI=false:=u3.oF hV.oF
   have ou:P.cellsOf f.type=cs.length:=by rw[(uE XR).2.1];exact hVx.size.symm
   obtain⟨cells',q1,q2,q3⟩:=uX KC zN ps v1 v' (dD cells.toList f.offset cs).toArray h4 (by simpa using u2.to T4) (C2 h3)
   refine⟨cells',?_,q2,q3⟩
   rw[bX,Dj (by rw[zN i f hf,ou]) hcells (by simpa using u1)]
   exact q1
  ·simp only[ai]at h
theorem GY{α γ:Type}(f:α->Sem γ)(r:α->γ):∀(l:List α),(∀x∈l,(f x).run P w= .ok (r x) w)->(l.mapM f).run P w= .ok (l.map r) w
 |[],_=>by simp
 |x::xs,h=>by
  rw[List.mapM_cons]
  simp only[Sem.run_bind,h x (by simp),Result.andThen_ok,GY f r xs (λy hy=>h y (by simp[hy])),Sem.run_pure,bX]
theorem HK(h:Inv C g β s a w){T:TypeId}{parts:Array (Nat×Operand)}(ho:o.op= .build T parts){s':AS}(he:(uz P s o.dst T parts.toList).eval=some s'):fM P o a w (iE C s'):=by
 unfold uz at he
 split at he
 ·rename_i fs hT
  split at he
  ·rename_i z ZV
   obtain⟨h1,h2⟩:=ay.1 he
   obtain⟨v,h3,h4⟩:=ak.1 h2
   obtain rfl:=ao.1 h4
   simp only[aj,dv]at h1
   obtain⟨⟨hz,w6⟩,Wi⟩:=h1
   obtain⟨i,zv,hi,Hs,hV,hO⟩:=pn hz (s.env w g β)
   let places:Array (Nat×Nat):=fs.map λf=>(f.offset,P.cellsOf f.type)
   have zN:∀(i:Nat) (f:Field),fs[i]? =some f->places[i]? =some (f.offset,P.cellsOf f.type):=by
    intro i f hf
    simp[places,hf]
   obtain⟨cells',q1,q2,q3⟩:=uX (a:=a) h.ev zN parts.toList z v zv.cells h3 hV w6
   have hm:(fs.mapM λf=>(do pure (f.offset,<-sizeOf f.type):Sem (Nat×Nat))).run P w= .ok places w:=by
    rw[Array.mapM_eq_mapM_toList]
    have:=GY (P:=P) (w:=w) (λf=>(do pure (f.offset,<-sizeOf f.type):Sem (Nat×Nat))) (λf=>(f.offset,P.cellsOf f.type)) fs.toList (by
     intro f hf
     obtain⟨j,hj⟩:=bY.1 (Wi f hf)
     rw[Sem.run_bind,run_sizeOf hj,lg hj]
     rfl)
    rw[Sem.run_map,this]
    show Result.ok _ w=Result.ok _ w
    congr 1
    apply gq
    simp[places]
   refine h.value (x:= .agg cells') (VS.of q2 (by rw[q3];simp[fV])) (eg (f:=Instr.build T (parts.map λ(i,x)=>(i,a.eval x))) (by simp only[execOp,ho]) ?_)
   have q1':Instr.fill (places[·]?) zv.cells (parts.map λ(i,x)=>(i,a.eval x)).toList=some cells':=by rw[yR];exact q1
   simp only[Instr.build,Sem.run_bind,zeroValue,typeInfo,run_program,hi,Result.andThen_ok,Sem.run_pure,Hs,run_underlying hT,hm,q1']
  ·simp only[ai]at he
 ·rename_i n e hT
  split at he
  ·rename_i t ht
   obtain⟨h1,h2⟩:=ay.1 he
   obtain⟨r,h3,h4⟩:=ak.1 h2
   obtain rfl:=ao.1 h4
   simp only[aj,beq_iff_eq]at h1
   obtain⟨ou,hz⟩:=h1
   obtain⟨g1,i1,e1,t1,f1⟩:=gf r.2 h
   obtain⟨i,zv,hi,Hs,hV,hO⟩:=pn hz ((s.bl r.2).env w g1 β)
   simp only[V,dm]at hV
   obtain⟨cells',q1,q2⟩:=sA (a:=a) rfl h.bK e1 h.ev parts.toList _ r zv.cells h3 f1 hV.2
   have T1:r.1.length=n:=by
    have:∀(ps:List (Nat×Operand)) (l:List t.den) (r:List t.den×List Id),(jt t s ps l).eval=some r->r.1.length=l.length:=by
     intro ps
     induction ps with
     |nil=>intro l r hh;obtain rfl:=ao.1 hh;rfl
     |cons p ps ih=>
      intro l r hh
      obtain⟨i,x⟩:=p
      simp only[jt]at hh
      obtain⟨_,h2⟩:=ay.1 hh
      obtain⟨y,h3,h4⟩:=ak.1 h2
      obtain⟨r',h5,h6⟩:=ak.1 h4
      obtain rfl:=ao.1 h6
      have:=ih _ _ h5
      simpa using this
    rw[this _ _ _ h3]
    simp
   refine .inl ⟨.agg cells',w,eg (f:=Instr.build T (parts.map λ(i,x)=>(i,a.eval x))) (by simp only[execOp,ho]) ?_,g1,β,i1.put o.dst ⟨cells'.toList,?_,by simp[fV,av.agg,Ty.agg]⟩⟩
   ·have q1':Instr.fill (λi=>some (i*t.size,t.size)) zv.cells (parts.map λ(i,x)=>(i,a.eval x)).toList=some cells':=by rw[yR];exact q1
    cases Wg:P.info? e with
    |none=>
     exfalso
     unfold Hj Cn at ht
     simp only[depth]at ht
     have:P.underlying e=none:=by simp[Program.underlying,Wg]
     rw[this]at ht
     cases ht
    |some ie=>
     have X8:=run_sizeOf Wg w
     rw[<-lg Wg,ou]at X8
     simp only[Instr.build,Sem.run_bind,zeroValue,typeInfo,run_program,hi,Result.andThen_ok,Sem.run_pure,Hs,run_underlying hT,X8,q1']
   ·simp only[V,dm]
    exact⟨T1,q2⟩
  ·simp only[ai]at he
 ·simp only[ai]at he
theorem yZ{T X ty e:TypeId}{i:TypeInfo}(hT:P.underlying T=some (.slice e))(hX:P.underlying X=some .string\/∃e',P.underlying X=some (.slice e'))(hi:P.info? e=some i)
  {b sLen sCap:Nat} {cur:Array Value} (hg:w.heap[b]? =some (.cells cur e (0,0))) {x:Value} {n:Nat} {news:List Value} (h1:∀u∈news,u.oneCell'=true)
  (hlen:(Builtin.lenOf x).run P w= .ok n w) (hf:(Builtin.firstCells i.size n x).run P w= .ok news.toArray w) (vW:sLen+n<=sCap) (Ew:sLen*i.size+news.length<=cur.size):
  (Builtin.append_ #[T,X] ty #[.slice (some ⟨b,0,none⟩) sLen sCap,x]).run P w= .ok (.slice (some ⟨b,0,none⟩) (sLen+n) sCap) (w.setRow b (dD cur.toList (sLen*i.size) news).toArray):=by
 have lZ:=run_storeCells_at P b (sLen*i.size) e news 0 cur w hg (by simpa using Ew) h1
 simp only[cF]at lZ
 rcases hX with hX | ⟨e',hX⟩ <;> simp[Builtin.append_,run_underlying hT,run_underlying hX,sizeOf,typeInfo,hi,hlen,vW,hf,Addr.add_lit,lZ,dD]
theorem ud{T X ty e:TypeId}{i:TypeInfo}(hT:P.underlying T=some (.slice e))(hX:P.underlying X=some .string\/∃e',P.underlying X=some (.slice e'))(hi:P.info? e=some i)
  {x:Value} (hlen:(Builtin.lenOf x).run P w= .ok 0 w) (hf:(Builtin.firstCells i.size 0 x).run P w= .ok #[] w):
  (Builtin.append_ #[T,X] ty #[.slice none 0 0,x]).run P w= .ok (.slice none 0 0) w:=by
 rcases hX with hX | ⟨e',hX⟩ <;> simp[Builtin.append_,run_underlying hT,run_underlying hX,sizeOf,typeInfo,hi,hlen,hf]
theorem yY{T X ty e:TypeId}{i:TypeInfo}{zv:Value}(hT:P.underlying T=some (.slice e))(hX:P.underlying X=some .string\/∃e',P.underlying X=some (.slice e'))(hi:P.info? e=some i)(Hs:i.zero=some zv)
  {ad:Option Addr} {sLen sCap:Nat} {cz:List Value} (ho:(Builtin.firstCells i.size sLen (.slice ad sLen sCap)).run P w.drew= .ok cz.toArray w.drew) {x:Value} {n:Nat} {news:List Value}
  (hlen:(Builtin.lenOf x).run P w= .ok n w) (hf:(Builtin.firstCells i.size n x).run P w.drew= .ok news.toArray w.drew) (vW:sCap < sLen+n)
  (XJ:((sLen+n:Nat):Int)<=9223372036854775807) (Ew:(sLen+n)*i.bytes<=140737488355328):
  (Builtin.append_ #[T,X] ty #[.slice ad sLen sCap,x]).run P w= .ok (.slice (some ⟨w.heap.size,0,none⟩) (sLen+n) (grownCap w (sLen+n) sCap e))
   (w.drew.alloc (.cells (cz.toArray++news.toArray++Builtin.zeroCells zv.cells (grownCap w (sLen+n) sCap e - (sLen+n))) e)):=by
 have hn:¬(sLen+n<=sCap):=by omega
 have h63':¬(9223372036854775807 < ((sLen:Int)+(n:Int))):=by omega
 have hfit':=growslice_fits (bytes:=i.bytes) vW Ew
 have h48':¬(281474976710656 < Builtin.nextslicecap (sLen+n) sCap*i.bytes):=by omega
 rcases hX with hX | ⟨e',hX⟩
 all_goals
  simp[Builtin.append_,run_underlying hT,run_underlying hX,sizeOf,typeInfo,zeroValue,hi,Hs,hlen,hn,h63',h48',Question.forced,hf,ho,newRow,grownCap]
  congr 2
  apply gq
  simp[aD]
end
end Go.Ab
namespace Go.Ab
section
variable {P:Program} {C:Ctx} {g:Nat->kY} {β:Id->Option Pl} {s:AS} {a:Act} {w:World} {o:Oper}
theorem Np(h:Inv C g β s a w){v:av}{y:Value}(hv:VS (s.env w g β) v y){t:Ty}{m:List t.den}(he:(s.IC (.slice t) v).eval=some m):
  ∃ad cap vs,y= .slice ad m.length cap/\(0 < m.length->ad.isSome=true)/\(∀j u,vs[j]? =some u->∃bb off,ad=some ⟨bb,off,none⟩/\w.cell? ⟨bb,off+j,none⟩=some u)/\bj (dm (s.env w g β) t) vs m:=by
 have hp:(s.ji (.slice t) v).eval=some m:=he
 cases v <;> first | (simp only[AS.ji,ai]at hp;done) | skip
 case di=>
  simp only[AS.ji,ao]at hp
  subst hp
  exact⟨none,0,[],kg hv,by simp,λj u hj=>by simp at hj,rfl⟩
 case d t' x=>
  simp only[AS.ji]at hp
  have hp:=jM.1 hp
  have ha:(av.d t' x).agg=false:=Dd hp
  have hV:=hv.single rfl ha
  simp only[V]at hV
  have hv:VS (s.env w g β) (.d (.slice t) m) y:=VS.of (cs:=[y]) (by simp only[V];exact tg hp hV) rfl
  obtain⟨ad,cap,vs,hy,_,hs,hr,hc⟩:=oJ hv
  exact⟨ad,cap,vs,hy,hs,λj u hj=>let⟨bb,off,e,hh⟩:=hr j u hj;⟨bb,off,e,hh.1⟩,hc⟩
 case aS id ver p c i len=>
  simp only[AS.ji]at hp
  obtain⟨⟨n,t',l⟩,h1,h2⟩:=ak.1 hp
  obtain⟨h3,h4⟩:=bO.1 h2
  obtain⟨SN,YV⟩:=Kp (E:=s.env w g β) (jM.1 h4)
  rw[SN]
  simp only[decide_eq_true_eq]at h3
  obtain⟨hc,hlen⟩:=h3
  suffices hg:∃ad cap vs,y= .slice ad (cut l i len).length cap/\(0 < (cut l i len).length->ad.isSome=true)/\(∀j u,vs[j]? =some u->∃bb off,ad=some ⟨bb,off,none⟩/\w.cell? ⟨bb,off+j,none⟩=some u)/\bj (dm (s.env w g β) t') vs (cut l i len) by
   obtain⟨ad,cap,vs,e1,e2,e3,e4⟩:=hg
   exact⟨ad,cap,vs,e1,e2,e3,YV _ e4⟩
  obtain⟨fr,c0,cV,nC⟩:=yX rfl h.bK h1
  obtain⟨ad,cap,hy,hle,mJ,hb,fB⟩:=np hv
  have fB:=fB ⟨fr,c0,cV⟩
  have Ob:(cut l i len).length=len:=th hlen
  rcases nC with⟨hp,hl,_⟩ | ⟨pl,cur,e,hp,hh,ou,pt,hbound⟩
  ·rw[hp]at fB
   simp only at fB
   obtain⟨rfl,rfl,rfl⟩:=fB
   have:cut l i 0=[]:=by simp[cut]
   refine⟨none,0,[],by rw[Ob];exact hy,by rw[Ob];omega,λ_ _ hh=>by simp at hh,?_⟩
   rw[this];rfl
  ·rw[hp]at fB
   simp only at fB
   have hmul:(i+len)*t'.size<=l.length*t'.size:=cY _ hlen
   rw[eM]at hmul
   refine⟨ad,cap,_,by rw[Ob];exact hy,by rw[Ob];exact mJ,?_,wo pt i len⟩
   rw[BP _ _ _ _ _ hmul]
   intro j v hj
   rw[dp]at hj
   split at hj
   ·rename_i Ri
    rw[fW,hc]at hj
    have Wl:0 < len:=by
     rcases iK len with h0 | h0
     ·subst h0;simp at Ri
     ·exact h0
    refine⟨pl.b,c,fB.1 (.inl Wl),?_⟩
    have hh':w.heap[pl.b]? =some (.cells cur e (0,0)):=hh
    rw[cell_of_row w pl.b (c+j) cur e (0,0) hh']
    simpa using hj
   ·cases hj
theorem zs(h:Inv C g β s a w){t:Ty}{X:TypeId}{x:av}{y:Value}(hx:VS (s.env w g β) x y){m:List t.den}(he:(uP P s t X x).eval=some m):
  (P.underlying X=some .string\/∃e',P.underlying X=some (.slice e'))/\∃news:List Value,bj (dm (s.env w g β) t) news m/\(Builtin.lenOf y).run P w= .ok m.length w/\
   ∀w',w'.heap=w.heap->(Builtin.firstCells t.size m.length y).run P w'= .ok news.toArray w':=by
 have sl:∀(x:av),VS (s.env w g β) x y->(match P.underlying X with
   |some (.slice _)=>s.IC (.slice t) x
   |_=> .fail).eval=some m->(P.underlying X=some .string\/∃e',P.underlying X=some (.slice e'))/\∃news:List Value,bj (dm (s.env w g β) t) news m/\(Builtin.lenOf y).run P w= .ok m.length w/\
   ∀w',w'.heap=w.heap->(Builtin.firstCells t.size m.length y).run P w'= .ok news.toArray w':=by
  intro x hx he
  split at he
  ·rename_i e' hX
   refine⟨.inr ⟨e',hX⟩,?_⟩
   obtain⟨ad,cap,vs,rfl,mJ,nC,pt⟩:=Np h hx he
   have hlen:=bj.length (λ_ _ hx=>dm.size hx) pt
   refine⟨vs,pt,rfl,λw' hw'=> ?_⟩
   cases ad with
   |none=>
    have SM:m.length=0:=by
     rcases iK m.length with h0 | h0
     ·exact h0
     ·have:=mJ h0;simp at this
    have:vs=[]:=bF (by rw[hlen,SM,lf])
    subst this
    rfl
   |some ad=>
    refine run_firstCells_some (P:=P) w' t.size _ ad _ _ vs hlen (λj v hj=> ?_)
    obtain⟨bb,off,e1,hh⟩:=nC j v hj
    simp only[aq]at e1
    subst e1
    rw[Addr.add_lit]
    simpa[World.cell?,hw']using hh
  ·simp only[ai]at he
 unfold uP at he
 split at he
 ·rename_i st
  split at he
  ·rename_i hX
   refine⟨.inl hX,?_⟩
   obtain⟨e,hm⟩:=jB (jM.1 he)
   have e':Ty.int .u8=t:=by simpa using e
   subst e'
   simp only at hm
   subst hm
   have hy:=u6 hx
   subst hy
   have hlen:(cD st).length=st.size:=by simp only[cD,cK,cO];rfl
   refine⟨(cD st).map (Value.int .u8),pJ _,by rw[hlen];rfl,λw' _=> ?_⟩
   rw[hlen]
   simp only[Builtin.firstCells,Sem.run_pure]
   congr 1
   apply gq
   rw[ByteArray.extract_zero_size]
   simp[cD]
  ·simp only[ai]at he
 ·exact sl _ hx he
theorem rI(z:Array Value)(n:Nat):(Builtin.zeroCells z n).size=n*z.size:=by simp[Builtin.zeroCells]
theorem Kq(h:Inv C g β s a w){c:Call}{x y:Operand}{T X:TypeId}(ho:o.op= .call c)(hc:c.callee= .builtin .copy)(ha:c.args.toList=[x,y])(ht:c.argTypes.toList=[T,X]){s':AS}
  (he:(Ax P s o.dst T X (s.ev x) (s.ev y)).eval=some s'):fM P o a w (iE C s'):=by
 obtain⟨cal,args,tys⟩:=c
 simp only at hc ha ht
 have ha':args= #[x,y]:=by apply gq;simpa using ha
 have ht':tys= #[T,X]:=by apply gq;simpa using ht
 subst hc ha' ht'
 have hx:=h.ev x
 have hy:=h.ev y
 have fin:∀z w',(Builtin.copy_ #[T,X] 0 #[a.eval x,a.eval y]).run P w= .ok z w'->(∃g' β',Inv C g' β' s' (a.put o.dst z) w')->fM P o a w (iE C s'):=by
  intro z w' h1 h2
  refine .inl ⟨z,w',sj ho (f:=Builtin.copy_ #[T,X] 0 #[a.eval x,a.eval y]) (λty cs xs Hr=> ?_) h1,h2⟩
  subst Hr
  have e1:Builtin.copy_ #[T,X] 0 #[a.eval x,a.eval y]=Builtin.copy_ #[T,X] ty #[a.eval x,a.eval y]:=rfl
  rw[e1]
  simp[builtin]
 unfold Ax at he
 split at he
 ·rename_i e t b id ver len vK Hr
  obtain⟨hT,hz,i,zv,hi,KE,Rg,Hs,KI⟩:=so vK
  obtain⟨m,hm,he⟩:=ak.1 he
  obtain⟨hX,news,pt,hlen,PW⟩:=zs h hy hm
  have OT:=pt.length (λ_ _ hx=>dm.size hx)
  have h1news:∀u∈news,u.oneCell'=true:=bj.all (λ_ _ hx=>hx.one) pt
  rw[<-KE]at PW
  split at he
  ·rename_i ve n t' l kr
   obtain⟨h1,xq⟩:=ay.1 he
   simp only[aj,beq_iff_eq]at h1
   obtain⟨Rx,YT⟩:=h1
   subst Rx YT
   obtain⟨l',hl',Cy⟩:=ak.1 xq
   obtain⟨et,hl'⟩:=jB (jM.1 hl')
   have et':t'=t:=by simpa using et
   subst et'
   simp only at hl'
   subst hl'
   obtain⟨SN,SK⟩:=bO.1 Cy
   have SN:m.length<=len:=by simpa using SN
   obtain rfl:=ao.1 SK
   have cV:=eH kr
   rw[Hr]at hx
   obtain⟨ad,cap,LN,LJ,mJ,AN,fB⟩:=np hx
   have fB:=fB ⟨false,_,cV⟩
   obtain⟨pl,cur,e0,hp,hh,hg,hk,hV⟩:=(h.bK id ve false _ cV).box rfl
   have hp:β id=some pl:=hp
   have hh:w.heap[pl.b]? =some (.cells cur e0 (0,0)):=hh
   have hg:g pl.b= .own (.id id) 0:=hg
   have hcur':(match β id with
    |some pl=>(0 < len\/0=0->ad=some ⟨pl.b,0,none⟩)/\(([.arr]:List vH)=[]->0=0->cap=pl.cap)
    |none=>ad=none/\len=0/\cap=0):=fB
   rw[hp]at hcur'
   simp only at hcur'
   have Ky:=hcur'.1 (.inr trivial)
   subst Ky
   have hV:V (s.env w g β) (.d (.arr len t') l) (cur.toList.take cur.size):=hV
   rw[<-cO,dh]at hV
   simp only[V,dm]at hV
   obtain⟨PY,hVc⟩:=hV
   have LH:=hVc.length (λ_ _ hx=>dm.size hx)
   have Ew:news.length<=cur.size:=by
    rw[OT]
    have:cur.size=l.length*t'.size:=by simpa using LH
    rw[this,PY]
    exact cY _ SN
   have lZ:=run_storeCells_at P pl.b 0 e0 news 0 cur w hh (by simpa using Ew) h1news
   have mF:(Builtin.copy_ #[T,X] 0 #[a.eval x,a.eval y]).run P w= .ok (goInt m.length) (w.setRow pl.b (dD cur.toList 0 news).toArray):=by
    have Wo:Nat.min m.length len=m.length:=gH SN
    rw[LN]
    simp only[cF,aI]at lZ
    simp[Builtin.copy_,run_underlying hT,hlen,sizeOf,typeInfo,hi,Wo,PW w rfl,lZ,dD]
   have Ia:=Trans.setRow w hg (dD cur.toList 0 news).toArray
   have hle:cP (s.env w g β) ((s.aO id (.obj ve false (.d (.arr len t') (m++l.drop m.length)))).env (w.setRow pl.b (dD cur.toList 0 news).toArray) g β):=cP.aO cV (aw _) Ia (λ_ _=>rfl) (λ_=>rfl)
   have i1:=h.step (du _ _ _) Ia hle (jc.aO (Fb:=mG cV λk v1 l e=>by cases e) h.bK (by rw[cV];simp) hle (λ_ _=>rfl) (λi ver fr c pl2 hi AQ Dw=>⟨setRow_other w pl.b pl2.b _ (h.apart hg hi AQ Dw),rfl⟩) (yo.obj ⟨pl,_,e0,hp,setRow_heap w pl.b cur _ e0 (0,0) hh,hg,trivial,by
    show V _ (.d (.arr len t') (m++l.drop m.length)) ((dD cur.toList 0 news).toArray.toList.take (dD cur.toList 0 news).toArray.size)
    rw[<-cO,dh]
    simp only[V,dm]
    refine⟨by rw[ae,dy];omega,?_⟩
    have e2:dD cur.toList 0 news=news++cur.toList.drop (m.length*t'.size):=by
     simp[dD,OT]
    have q:bj (dm (s.env w g β) t') (dD cur.toList 0 news) (m++l.drop m.length):=by
     rw[e2]
     exact bj.append pt (bj.drop (λ_ _ hx=>dm.size hx) m.length hVc)
    exact q.mono λ_ _ hx=>hx.mono hle.mem⟩))
   exact fin _ _ mF ⟨g,β,i1.put o.dst ⟨[.int .i64 (m.length:Int)],by simp only[V,dm],rfl⟩⟩
  ·exact(ai.1 he).elim
 ·exact(ai.1 he).elim
theorem Fx(h:Inv C g β s a w){c:Call}{x y:Operand}{T X:TypeId}(ho:o.op= .call c)(hc:c.callee= .builtin .append)(ha:c.args.toList=[x,y])(ht:c.argTypes.toList=[T,X]){s':AS}
  {nl dt:Bool} (he:(qz P s nl dt o.dst T X (s.ev x) (s.ev y)).eval=some s'):fM P o a w (iE C s'):=by
 obtain⟨cal,args,tys⟩:=c
 simp only at hc ha ht
 have ha':args= #[x,y]:=by apply gq;simpa using ha
 have ht':tys= #[T,X]:=by apply gq;simpa using ht
 subst hc ha' ht'
 have hx:=h.ev x
 have hy:=h.ev y
 have fin:∀z w',(Builtin.append_ #[T,X] 0 #[a.eval x,a.eval y]).run P w= .ok z w'->(∃g' β',Inv C g' β' s' (a.put o.dst z) w')->fM P o a w (iE C s'):=by
  intro z w' h1 h2
  refine .inl ⟨z,w',sj ho (f:=Builtin.append_ #[T,X] 0 #[a.eval x,a.eval y]) (λty cs xs Hr=> ?_) h1,h2⟩
  subst Hr
  have e1:Builtin.append_ #[T,X] 0 #[a.eval x,a.eval y]=Builtin.append_ #[T,X] ty #[a.eval x,a.eval y]:=rfl
  rw[e1]
  simp[builtin]
 unfold qz at he
 split at he
 ·rename_i e t b q vK hd
  obtain⟨hT,hz,i,zv,hi,KE,Rg,Hs,KI⟩:=mY vK
  obtain⟨m,hm,he⟩:=ak.1 he
  obtain⟨hX,news,pt,hlen,PW⟩:=zs h hy hm
  have OT:=pt.length (λ_ _ hx=>dm.size hx)
  have h1news:∀u∈news,u.oneCell'=true:=bj.all (λ_ _ hx=>hx.one) pt
  rw[<-KE]at PW
  have SX:zv.cells.size=t.size:=by have:=(KI (s.env w g β)).size;simpa using this
  have WV:∀n,(Builtin.zeroCells zv.cells n).size=n*t.size:=λn=>by rw[rI,SX]
  have grow:∀(ad:Option Addr) (sLen sCap:Nat) (cz:List Value) (l0:List t.den),a.eval x= .slice ad sLen sCap->cz.length=sLen*t.size->l0.length=sLen->bj (dm (s.env w g β) t) cz l0->
    (Builtin.firstCells i.size sLen (.slice ad sLen sCap)).run P w.drew= .ok cz.toArray w.drew->sCap < sLen+m.length->dZ (sLen+m.length) b=true->
    ∃(cur:Array Value) (cap:Nat),(Builtin.append_ #[T,X] 0 #[a.eval x,a.eval y]).run P w= .ok (.slice (some ⟨w.heap.size,0,none⟩) (sLen+m.length) cap) (w.drew.alloc (.cells cur e))/\
     cur.size=cap*t.size/\sLen+m.length<=cap/\cap<=maxLen/\cur.toList.take ((sLen+m.length)*t.size)=cz++news:=by
   intro ad sLen sCap cz l0 LN Ac TX TH Vb vW Hq
   simp only[dZ,decide_eq_true_eq]at Hq
   have hr:=yY (P:=P) (w:=w) (ty:=0) hT hX hi Hs Vb hlen (PW w.drew rfl) vW (by omega) (by rw[Rg];exact Hq.1)
   rw[LN]
   refine⟨_,_,hr,?_,grownCap_ge _ _ _ _,grownCap_le_maxLen _ _ _ _ (by unfold maxLen;omega),?_⟩
   ·have ZN:=grownCap_ge w (sLen+m.length) sCap e
    simp only[Array.size_append,ik,WV,Ac,OT,<-eM]
    congr 1
    omega
   ·have H8:(cz++news).length=(sLen+m.length)*t.size:=by rw[ae,Ac,OT,eM]
    simp only[bW]
    rw[<-H8]
    exact List.take_left
  split at he
  ·rename_i Zi
   rw[Zi]at hx
   have LN:=kg hx
   cases dt with
   |true=>
    simp only at he
    obtain⟨Hq,he⟩:=bO.1 he
    obtain rfl:=ao.1 he
    simp only[aj,decide_eq_true_eq]at Hq
    obtain⟨Hq,SM⟩:=Hq
    obtain⟨cur,cap,hr,q1,q2,q3,q4⟩:=grow none 0 0 [] [] LN (by simp) rfl rfl rfl (by omega) (by simpa using Hq)
    simp only[aI,aR]at hr q2 q4
    have V6:bj (dm (s.env w.drew g β) t) news m:=pt.mono λ_ _ hx=>hx.mono (cP.same (s:=s) (β:=β) (Trans.drew w g)).mem
    refine fin _ _ hr ⟨lp g w.heap.size .free,β,(h.drew.vg (.cells cur e)).put o.dst ⟨[.slice (some ⟨w.heap.size,0,none⟩) m.length cap],?_,rfl⟩⟩
    simp only[V,dm]
    refine⟨λh0=>(by cases h0),λm' hm'=> ?_⟩
    obtain rfl:m=m':=ba hm'
    refine⟨_,cap,cur.toList.take (m.length*t.size),rfl,q2,λ_=>rfl,λj v hj=>⟨_,_,rfl,?_,?_⟩,?_⟩
    ·show(w.drew.alloc (.cells cur e)).cell? ⟨w.drew.heap.size,0+j,none⟩=some v
     rw[World.cell?_alloc_new,aI]
     rw[dp]at hj
     split at hj
     ·simpa using hj
     ·cases hj
    ·show oT (lp g w.heap.size .free) w.heap.size (0+j)
     unfold oT;rw[fJ];trivial
    ·rw[q4]
     exact V6.mono λ_ _ hx=>hx.mono (Trans.mem (E:=s.env w.drew g β) (E':=s.env (w.drew.alloc (.cells cur e)) (lp g w.drew.heap.size .free) β) (Trans.alloc w.drew g (.cells cur e) .free))
   |false=>
   simp only at he
   obtain⟨hq,he⟩:=ay.1 he
   obtain⟨Hq,he⟩:=bO.1 he
   obtain rfl:=ao.1 he
   by_cases SM:m.length=0
   ·have Wq:m=[]:=bF SM
    subst Wq
    have Wt:news=[]:=bF (by rw[OT];simp)
    subst Wt
    obtain⟨β',i1,e1,v1⟩:=h.Nf hq (e:=e) hz
    refine fin (.slice none 0 0) w ?_ ⟨g,β',?_⟩
    ·rw[LN]
     exact ud (P:=P) hT hX hi hlen (PW w rfl)
    ·exact i1.put o.dst v1
   ·obtain⟨cur,cap,hr,q1,q2,q3,q4⟩:=grow none 0 0 [] [] LN (by simp) rfl rfl rfl (by omega) (by simpa using Hq)
    simp only[aI,aR]at hr q2 q4
    obtain⟨g2,β2,i2,v2⟩:=(h.drew).EP hq (e:=e) (l:=m) (cur:=cur) (cap:=cap) hz (by rw[q4];exact pt.mono λ_ _ hx=>hx.mono (cP.same (s:=s) (β:=β) (Trans.drew w g)).mem) q1 q2 q3
    refine fin _ _ hr ⟨g2,β2,?_⟩
    exact i2.put o.dst v2
  ·rename_i id ver len Hr
   rw[Hr]at hx
   obtain⟨ad,cap,LN,LJ,mJ,AN,fB⟩:=np hx
   split at he
   ·rename_i v fr e' t' l kr
    obtain⟨h1,xq⟩:=ay.1 he
    clear he
    simp only[aj,beq_iff_eq]at h1
    obtain⟨Rx,YF⟩:=h1
    subst Rx YF
    obtain⟨l',hl',Cy⟩:=ak.1 xq
    obtain⟨et,hl'⟩:=jB (jM.1 hl')
    have et':t'=t:=by simpa using et
    subst et'
    simp only at hl'
    subst hl'
    obtain⟨OR,TL⟩:=bO.1 Cy
    have OR:len<=l.length:=by simpa using OR
    obtain⟨XQ,SK⟩:=bO.1 TL
    obtain⟨Hq,XP⟩:=bO.1 SK
    obtain rfl:=ao.1 XP
    clear xq Cy TL SK XP
    have cV:=eH kr
    have fB:=fB ⟨fr,_,cV⟩
    obtain⟨_,hO⟩:=h.bK id v fr _ cV
    have hO':(match β id with
     |none=>l=[]
     |some pl=>∃cur k,w.heap[pl.b]? =some (.cells cur e (0,0))/\cur.size=pl.cap*t'.size/\l.length<=pl.cap/\pl.cap<=maxLen/\g pl.b= .own (.id id) k/\
       k<=l.length*t'.size/\(fr=false->k=0)/\bj (dm (s.env w g β) t') (cur.toList.take (l.length*t'.size)) l):=hO
    have hcur':(match β id with
     |some pl=>(0 < len\/0=0->ad=some ⟨pl.b,0,none⟩)/\(([]:List vH)=[]->0=0->cap=pl.cap)
     |none=>ad=none/\len=0/\cap=0):=fB
    have Rc:fr=false\/len=l.length:=by
     simp only[ix,cC,decide_eq_true_eq]at XQ
     exact XQ
    have fL:s.bZ id≠none:=by rw[cV];simp
    have fresh:∀(cur:Array Value) (cp:Nat) (g0:Nat->kY),Trans w (w.drew.alloc (.cells cur e)) g (lp g0 w.heap.size (.own (.id (id)) 0))->
      (∀i ver fr c pl,i≠id->s.bZ i=some (.obj ver fr c)->β i=some pl->g0 pl.b=g pl.b)->cur.size=cp*t'.size->len+m.length<=cp->cp<=maxLen->
      bj (dm (s.env w g β) t') (cur.toList.take ((len+m.length)*t'.size)) (l.take len++m)->len<=l.length->
      ∃g' β',Inv C g' β' ((s.aO id (.obj (v+1) fr (.vec e t' (l.take len++m)))).put o.dst (.aS id (v+1) [] 0 0 (len+m.length))) (a.put o.dst (.slice (some ⟨w.heap.size,0,none⟩) (len+m.length) cp)) (w.drew.alloc (.cells cur e)):=by
     intro cur cp g0 ht Wb q1 q2 q3 q4 q5
     have PY:(l.take len++m).length=len+m.length:=by simp;omega
     have hle:cP (s.env w g β) ((s.aO id (.obj (v+1) fr (.vec e t' (l.take len++m)))).env (w.drew.alloc (.cells cur e)) (lp g0 w.heap.size (.own (.id id) 0)) (vc β id (some ⟨w.heap.size,cp⟩))):=
      cP.aO cV (by omega) ht (λi hi=>rG _ _ _ hi) (λhh=>by omega)
     have i1:=h.step (du _ _ _) ht hle (jc.aO (Fb:=mG cV λk v1 l e=>by cases e) h.bK fL hle (λi hi=>rG _ _ _ hi) (λi ver fr' c' pl hi AQ Dw=>by
       have iv:pl.b < w.heap.size:=((h.bK i ver fr' c' AQ).label (pl:=pl) Dw).1
       exact⟨mW w.drew _ iv,by rw[fA _ _ _ (by omega)];exact Wb i ver fr' c' pl hi AQ Dw⟩) (by
      refine⟨hz,?_⟩
      show(match vc β id (some ⟨w.heap.size,cp⟩) id with
       |none=>(l.take len++m)=[]
       |some pl=>_)
      rw[jI]
      refine⟨cur,0,oh w.drew _,q1,by rw[PY];exact q2,q3,fJ _ _ _,aK _,λ_=>rfl,?_⟩
      rw[PY]
      exact q4.mono λ_ _ hx=>hx.mono hle.mem))
     refine⟨_,_,i1.put o.dst ⟨_,?_,rfl⟩⟩
     simp only[V]
     have kW:=eS s id (.obj (v+1) fr (.vec e t' (l.take len++m))) fL
     refine⟨_,_,rfl,q2,λ_=>rfl,⟨by show(s.aO id _).bZ id≠none;rw[kW];simp,λv' fr' c' hh=> ?_⟩,λ_=> ?_⟩
     ·have hh':(s.aO id (.obj (v+1) fr (.vec e t' (l.take len++m)))).bZ id=some (.obj v' fr' c'):=hh
      rw[kW]at hh'
      simp only[aq,dS.obj.injEq]at hh'
      omega
     ·show(match vc β id (some ⟨w.heap.size,cp⟩) id with
       |some pl=>_
       |none=>_)
      rw[jI]
      exact⟨λ_=>rfl,λ_ _=>rfl⟩
    cases hp:β id with
    |none=>
     rw[hp]at hO' hcur'
     simp only at hO' hcur'
     obtain⟨rfl,rfl,rfl⟩:=hcur'
     subst hO'
     by_cases SM:m.length=0
     ·have Wq:m=[]:=bF SM
      subst Wq
      have Wt:news=[]:=bF (by rw[OT];simp)
      subst Wt
      have ht:=Trans.refl w g
      have hle:cP (s.env w g β) ((s.aO id (.obj (v+1) fr (.vec e t' []))).env w g β):=cP.aO cV (by omega) ht (λ_ _=>rfl) (λ_=>rfl)
      have i1:=h.step (du _ _ _) ht hle (jc.aO (Fb:=mG cV λk v1 l e=>by cases e) h.bK fL hle (λ_ _=>rfl) (λ_ _ _ _ _ _ _ _=>⟨rfl,rfl⟩) (by
       refine⟨hz,?_⟩
       show(match β id with
        |none=>([]:List t'.den)=[]
        |some pl=>_)
       rw[hp]))
      refine fin (.slice none 0 0) w ?_ ⟨g,β,i1.put o.dst ⟨_,?_,rfl⟩⟩
      ·rw[LN]
       exact ud (P:=P) hT hX hi hlen (PW w rfl)
      ·simp only[V]
       have kW:=eS s id (.obj (v+1) fr (.vec e t' [])) fL
       refine⟨_,_,rfl,aw _,λhh=>by simp at hh,⟨by show(s.aO id _).bZ id≠none;rw[kW];simp,λv' fr' c' hh=> ?_⟩,λ_=> ?_⟩
       ·have hh':(s.aO id (.obj (v+1) fr (.vec e t' []))).bZ id=some (.obj v' fr' c'):=hh
        rw[kW]at hh'
        simp only[aq,dS.obj.injEq]at hh'
        omega
       ·show(match β id with
         |some pl=>_
         |none=>_)
        rw[hp]
        exact⟨rfl,by simp,rfl⟩
     ·obtain⟨cur,cp,hr,q1,q2,q3,q4⟩:=grow none 0 0 [] [] LN (by simp) rfl rfl rfl (by omega) Hq
      refine fin _ _ hr (fresh cur cp g (Trans.trans (Trans.drew w g) (Trans.alloc w.drew g _ _)) (λ_ _ _ _ _ _ _ _=>rfl) q1 q2 q3 ?_ (by simp))
      rw[q4]
      simpa using pt
    |some pl=>
     rw[hp]at hO' hcur'
     simp only at hO' hcur'
     obtain⟨Ky,xp⟩:=hcur'
     have Ky:=Ky (.inr trivial)
     have xp:=xp trivial trivial
     subst Ky xp
     obtain⟨cur,k,p1,p2,p3,p4,p5,p6,p7,p8⟩:=hO'
     have hk:k<=len*t'.size:=by
      rcases Rc with hf | hf
      ·rw[p7 hf];exact aK _
      ·rw[hf];exact p6
     have hmul:len*t'.size<=l.length*t'.size:=cY _ OR
     have X3:l.length*t'.size<=cur.size:=by rw[p2];exact cY _ p3
     have Ru:=bj.take (λ_ _ hx=>dm.size hx) len p8
     rw[kE,gH hmul]at Ru
     have Ac:(cur.toList.take (len*t'.size)).length=len*t'.size:=by simp;omega
     by_cases vW:len+m.length<=pl.cap
     ·have Y8:(len+m.length)*t'.size<=cur.size:=by rw[p2];exact cY _ vW
      have Ew:len*i.size+news.length<=cur.size:=by rw[KE,OT,<-eM];exact Y8
      have hr:=yZ (P:=P) (w:=w) (ty:=0) hT hX hi p1 h1news hlen (PW w rfl) vW Ew
      rw[KE]at hr Ew
      have ht:Trans w (w.setRow pl.b (dD cur.toList (len*t'.size) news).toArray) g g:=by
       refine⟨by simp,by simp,by simp,by simp,λb' hb=> ?_⟩
       by_cases Ev:b'=pl.b
       ·subst Ev
        rw[p5]
        refine⟨.inr ⟨id,k,rfl,aw _⟩,λoff u OV hu=> ?_⟩
        rw[cell_of_row w pl.b off cur e (0,0) p1]at hu
        rw[cell_setRow_same w pl.b off cur _ e (0,0) p1]
        simp only[dD,aD,List.getElem?_toArray]
        rw[fq (by rw[Ac];omega),dp,if_pos (by omega)]
        simpa using hu
       ·rw[setRow_other w pl.b b' _ Ev]
        cases zM:g b' with
        |free=>exact⟨rfl,rfl⟩
        |own o' k=>cases o' with
         |eL=>exact⟨rfl,rfl⟩
         |id i'=>exact⟨.inr ⟨i',k,rfl,aw _⟩,λoff v _ hv=>by rw[cell_setRow_other w pl.b _ _ Ev];exact hv⟩
      have hle:cP (s.env w g β) ((s.aO id (.obj (v+1) fr (.vec e t' (l.take len++m)))).env (w.setRow pl.b (dD cur.toList (len*t'.size) news).toArray) g β):=
       cP.aO cV (by omega) ht (λ_ _=>rfl) (λ_=>rfl)
      have PY:(l.take len++m).length=len+m.length:=by simp;omega
      have WG:(dD cur.toList (len*t'.size) news).length=cur.toList.length:=jE (by simpa using Ew)
      have i1:=h.step (du _ _ _) ht hle (jc.aO (Fb:=mG cV λk v1 l e=>by cases e) h.bK fL hle (λ_ _=>rfl) (λi ver fr c pl2 hi AQ Dw=>⟨setRow_other w pl.b pl2.b _ (h.apart p5 hi AQ Dw),rfl⟩) (by
       refine⟨hz,?_⟩
       show(match β id with
        |none=>(l.take len++m)=[]
        |some pl=>_)
       rw[hp]
       refine⟨_,k,setRow_heap w pl.b cur _ e (0,0) p1,by rw[ik,WG];simpa using p2,by rw[PY];exact vW,p4,p5,?_,p7,?_⟩
       ·rw[PY,eM];omega
       ·rw[PY,show(dD cur.toList (len*t'.size) news).toArray.toList=dD cur.toList (len*t'.size) news from rfl]
        have e1:(dD cur.toList (len*t'.size) news).take ((len+m.length)*t'.size)=cur.toList.take (len*t'.size)++news:=by
         unfold dD
         have H8:(cur.toList.take (len*t'.size)++news).length=(len+m.length)*t'.size:=by rw[ae,Ac,OT,eM]
         rw[<-H8]
         exact List.take_left
        rw[e1]
        exact(bj.append Ru pt).mono λ_ _ hx=>hx.mono hle.mem))
      rw[<-LN]at hr
      refine fin _ _ hr ⟨g,β,i1.put o.dst ⟨_,?_,rfl⟩⟩
      simp only[V]
      have kW:=eS s id (.obj (v+1) fr (.vec e t' (l.take len++m))) fL
      refine⟨_,_,rfl,vW,λ_=>rfl,⟨by show(s.aO id _).bZ id≠none;rw[kW];simp,λv' fr' c' hh=> ?_⟩,λ_=> ?_⟩
      ·have hh':(s.aO id (.obj (v+1) fr (.vec e t' (l.take len++m)))).bZ id=some (.obj v' fr' c'):=hh
       rw[kW]at hh'
       simp only[aq,dS.obj.injEq]at hh'
       omega
      ·show(match β id with
        |some pl=>_
        |none=>_)
       rw[hp]
       exact⟨λ_=>rfl,λ_ _=>rfl⟩
     ·have Vb:(Builtin.firstCells i.size len (.slice (some ⟨pl.b,0,none⟩) len pl.cap)).run P w.drew= .ok (cur.toList.take (len*t'.size)).toArray w.drew:=by
       refine run_firstCells_some (P:=P) w.drew i.size _ _ _ _ _ (by rw[Ac,KE]) (λj u hj=> ?_)
       rw[Addr.add_lit,aI]
       show w.cell? ⟨pl.b,j,none⟩=some u
       rw[cell_of_row w pl.b j cur e (0,0) p1]
       rw[dp]at hj
       split at hj
       ·simpa using hj
       ·cases hj
      obtain⟨cur2,cp,hr,q1,q2,q3,q4⟩:=grow (some ⟨pl.b,0,none⟩) len pl.cap (cur.toList.take (len*t'.size)) (l.take len) LN Ac (by simp;omega) Ru Vb (by omega) Hq
      have iv:pl.b < w.heap.size:=(bJ.1 p1).1
      have Jv:Trans w w.drew g (lp g pl.b .free):=by
       refine⟨rfl,rfl,⟨rfl,Nat.le_succ _⟩,aw _,λb' hb=> ?_⟩
       by_cases Ev:b'=pl.b
       ·subst Ev
        rw[p5,fJ]
        exact⟨.inl rfl,λ_ _ _ hh=>hh⟩
       ·rw[fA _ _ _ Ev]
        exact(Trans.drew w g).yt b' hb
      refine fin _ _ hr (fresh cur2 cp (lp g pl.b .free) (Trans.trans Jv (Trans.alloc w.drew _ _ _)) (λi ver fr c pl2 hi AQ Dw=>fA _ _ _ (h.apart p5 hi AQ Dw)) q1 q2 q3 ?_ OR)
      rw[q4]
      exact bj.append Ru pt
   ·simp only[ai]at he
  ·simp only[ai]at he
 ·simp only[ai]at he
end
end Go.Ab
namespace Go.Ab
abbrev Ren:=Id->Nat->Option (Id×Nat)
structure rP(ρ:Ren)(E E':Env):Prop where
 mem:oe E E'
 ref:∀id ver r,ρ id ver=some r->E.tS id ver->E'.tS r.1 r.2/\(E'.cur r.1 r.2->E.cur id ver/\E'.β r.1=E.β id)
theorem JU(ρ:Ren)(a:av):(a.iW ρ).agg=a.agg:=by
 cases a with
 |ptr id v p n=>simp only[av.iW];cases ρ id v <;> rfl
 |aS id v p c i l=>simp only[av.iW];cases ρ id v <;> rfl
 |db id v=>simp only[av.iW];cases ρ id v <;> rfl
 |yl id v=>simp only[av.iW];cases ρ id v <;> rfl
 |_=>rfl
mutual
theorem Fj{ρ:Ren}{E E':Env}(h:rP ρ E E'):∀ {a:av} {cs:List Value},V E a cs->V E' (a.iW ρ) cs
 | .undef,_,hv=>by simp only[V]at hv
 | .gone,_,hv=>by simpa only[av.iW,V]using hv
 | .di,_,hv=>by simpa only[av.iW,V]using hv
 | .mO,_,hv=>by simpa only[av.iW,V]using hv
 | .pL,_,hv=>by simpa only[av.iW,V]using hv
 | .sw,_,hv=>by simpa only[av.iW,V]using hv
 | .sb l,_,hv=>by
  simp only[av.iW,V]at hv ⊢
  obtain⟨b,cap,arr,e,h1,h2,h3,h4,h5⟩:=hv
  obtain⟨h6,h7⟩:=h.mem.fz b _ h3 h4
  exact⟨b,cap,arr,e,h1,h2,h6,h7,h5⟩
 | .d t x,_,hv=>by simp only[av.iW,V]at hv ⊢;exact hv.mono h.mem
 | .pr a b,_,hv=>by
  simp only[av.iW,V]at hv ⊢
  obtain⟨ca,cb,e,ha,hb⟩:=hv
  exact⟨ca,cb,e,Fj h ha,Fj h hb⟩
 | .ptr id ver p n,_,hv=>by
  have h1:=hv.one
  simp only[av.iW]
  cases hr:ρ id ver with
  |none=>
   simp only[V]at hv ⊢
   obtain⟨a,e,_⟩:=hv
   exact⟨_,e,h1 _ (by simp[e])⟩
  |some r=>
   simp only[V]at hv ⊢
   obtain⟨a,e,hb,hc⟩:=hv
   obtain⟨b1,b2⟩:=h.ref id ver r hr hb
   refine⟨a,e,b1,λc=> ?_⟩
   obtain⟨c1,e1⟩:=b2 c
   rw[e1];exact hc c1
 | .eD t x,_,hv=>by
  simp only[av.iW,V]at hv ⊢
  obtain⟨b,off,vs,e,hr,hx⟩:=hv
  exact⟨b,off,vs,e,hr.mono h.mem,hx.mono h.mem⟩
 | .aS id ver p c i len,_,hv=>by
  have h1:=hv.one
  simp only[av.iW]
  cases hr:ρ id ver with
  |none=>
   simp only[V]at hv ⊢
   obtain⟨a,cap,e,_⟩:=hv
   exact⟨_,e,h1 _ (by simp[e])⟩
  |some r=>
   simp only[V]at hv ⊢
   obtain⟨a,cap,e,hl,hs,hb,hc⟩:=hv
   obtain⟨b1,b2⟩:=h.ref id ver r hr hb
   refine⟨a,cap,e,hl,hs,b1,λc=> ?_⟩
   obtain⟨c1,e1⟩:=b2 c
   rw[e1];exact hc c1
 | .fn f c,_,hv=>by
  simp only[av.iW,V]at hv ⊢
  obtain⟨vs,e,hc⟩:=hv
  exact⟨vs,e,HA h hc⟩
 | .cons _ _,_,hv=>by simp only[V]at hv
 | .nil,_,hv=>by simp only[V]at hv
 | .vec ..,_,hv=>by simp only[V]at hv
 | .bx ..,_,hv=>by simp only[V]at hv
 | .yl id ver,_,hv=>by
  have h1:=hv.one
  simp only[av.iW]
  cases hr:ρ id ver with
  |none=>
   simp only[V]at hv ⊢
   obtain⟨b,e,_⟩:=hv
   exact⟨_,e,h1 _ (by simp[e])⟩
  |some r=>
   simp only[V]at hv ⊢
   obtain⟨b,e,hb,hc⟩:=hv
   obtain⟨b1,b2⟩:=h.ref id ver r hr hb
   refine⟨b,e,b1,λc=> ?_⟩
   obtain⟨c1,e1⟩:=b2 c
   rw[e1];exact hc c1
 | .db id ver,_,hv=>by
  have h1:=hv.one
  simp only[av.iW]
  cases hr:ρ id ver with
  |none=>
   simp only[V]at hv ⊢
   obtain⟨b,e,_⟩:=hv
   exact⟨_,e,h1 _ (by simp[e])⟩
  |some r=>
   simp only[V]at hv ⊢
   obtain⟨b,e,hb,hc⟩:=hv
   obtain⟨b1,b2⟩:=h.ref id ver r hr hb
   refine⟨b,e,b1,λc=> ?_⟩
   obtain⟨c1,e1⟩:=b2 c
   rw[e1];exact hc c1
 | .mp ..,_,hv | .nH ..,_,hv | .mr ..,_,hv=>by simp only[V]at hv
theorem HA{ρ:Ren}{E E':Env}(h:rP ρ E E'):∀ {a:av} {vs:List Value},VC E a vs->VC E' (a.iW ρ) vs
 | .nil,_,hv=>by simpa only[av.iW,VC]using hv
 | .cons a b,_,hv=>by
  simp only[av.iW,VC]at hv ⊢
  obtain⟨v,vs',cs,e,ha,ho,hb⟩:=hv
  exact⟨v,vs',cs,e,Fj h ha,by rw[JU];exact ho,HA h hb⟩
 | .undef,_,hv=>by simp only[VC]at hv
 | .gone,_,hv=>by simp only[VC]at hv
 | .di,_,hv=>by simp only[VC]at hv
 | .mO,_,hv=>by simp only[VC]at hv
 | .pL,_,hv=>by simp only[VC]at hv
 | .yl ..,_,hv | .mr ..,_,hv=>by simp only[VC]at hv
 | .sw,_,hv=>by simp only[VC]at hv
 | .sb _,_,hv=>by simp only[VC]at hv
 | .d t x,_,hv=>by simp only[VC]at hv
 | .pr a b,_,hv=>by simp only[VC]at hv
 | .ptr ..,_,hv=>by simp only[VC]at hv
 | .eD ..,_,hv=>by simp only[VC]at hv
 | .aS ..,_,hv=>by simp only[VC]at hv
 | .fn ..,_,hv=>by simp only[VC]at hv
 | .vec ..,_,hv=>by simp only[VC]at hv
 | .bx ..,_,hv=>by simp only[VC]at hv
 | .db ..,_,hv=>by simp only[VC]at hv
 | .mp ..,_,hv | .nH ..,_,hv=>by simp only[VC]at hv
end
theorem wi{ρ:Ren}{E E':Env}(h:rP ρ E E'){a:av}{v:Value}(hv:VS E a v):VS E' (a.iW ρ) v:=by
 by_cases hc:a.eX=true
 ·obtain⟨cs,h1,h2⟩:=hv.eX hc
  exact VS.of (Fj h h1) (by rw[JU];exact h2)
 ·cases a <;> first | (exact absurd rfl hc) | skip
  ·trivial
  ·obtain⟨vs,e,Vk⟩:=hv
   have:=HA h Vk
   simp only[av.iW]at this ⊢
   exact⟨vs,e,this⟩
  ·exact hv
  ·obtain⟨cs,h1,_⟩:=hv
   simp only[V]at h1
  ·obtain⟨cs,h1,_⟩:=hv
   simp only[V]at h1
  ·obtain⟨cs,h1,_⟩:=hv
   simp only[V]at h1
  ·obtain⟨cs,h1,_⟩:=hv
   simp only[V]at h1
  ·obtain⟨cs,h1,_⟩:=hv
   simp only[V]at h1
theorem BU(ρ:Ren):∀f:av,(f.iW ρ).list=f.list.map (av.iW ρ)
 | .cons a b=>by simp only[av.iW,av.list,bX,BU ρ b]
 | .undef | .gone | .di | .mO | .pL | .sw | .d _ _ | .eD _ _ | .fn _ _ | .pr _ _ | .nil | .vec .. | .sb _ | .bx .. | .mp .. | .nH .. | .mr .. =>rfl
 | .ptr id ver p n=>by simp only[av.iW];cases ρ id ver <;> rfl
 | .aS id ver p c i len=>by simp only[av.iW];cases ρ id ver <;> rfl
 | .db id ver=>by simp only[av.iW];cases ρ id ver <;> rfl
 | .yl id ver=>by simp only[av.iW];cases ρ id ver <;> rfl
theorem Hw{ρ:Ren}{E E':Env}(h:rP ρ E E'){f:av}{tmps:Array Value}(hs:s9 E f tmps):s9 E' (f.iW ρ) tmps:=by
 refine⟨by rw[BU,cK];exact hs.1,λi=> ?_⟩
 have:=wi h (hs.2 i)
 rw[BU,aA,fj]
 rw[aA]at this
 cases hi:f.list[i]? with
 |none=>exact VS.undef
 |some x=>rw[hi]at this;exact this
theorem Lh(ρ:Ren)(c:av):(c.iW ρ).strip=c.strip.iW ρ:=by
 cases c <;> first
  |rfl
  | (rename_i id ver p n;simp only[av.strip,av.iW];cases ρ id ver <;> rfl)
  | (rename_i id ver p c i len;simp only[av.strip,av.iW];cases ρ id ver <;> rfl)
  | (rename_i i v;simp only[av.strip,av.iW];cases ρ i v <;> rfl)
theorem xZ(ρ:Ren):∀c:av,(c.iW ρ).size=c.size
 | .pr a b=>by simp only[av.iW,av.size,xZ ρ a,xZ ρ b]
 | .ptr id ver p n=>by simp only[av.iW];cases ρ id ver <;> rfl
 | .aS id ver p c i len=>by simp only[av.iW];cases ρ id ver <;> rfl
 | .db id ver=>by simp only[av.iW];cases ρ id ver <;> rfl
 | .undef | .gone | .di | .mO | .pL | .sw | .d _ _ | .eD _ _ | .fn _ _ | .cons _ _ | .nil | .vec .. | .sb _ | .bx .. | .mp .. | .nH .. | .mr .. =>rfl
 | .yl id ver=>by simp only[av.iW];cases ρ id ver <;> rfl
theorem Mb(ρ:Ren){c:av}(n:Nat):(c.iW ρ).qd n=c.qd n:=by
 cases c with
 |bx e z c=>cases z with
  |zero=>rfl
  |succ z=>exact xZ ρ c
 |_=>first | rfl | (simp only[av.iW];split <;> rfl)
theorem Kf(ρ:Ren){c:av}{pl:Pl}{n:Nat}{e:TypeId}(h:c.uw pl n e):(c.iW ρ).uw pl n e:=by
  cases c <;> first
    | (rename_i e' z c;cases z with
       |zero=>exact h
       |succ z=>exact⟨h.1,h.2.1,h.2.2.1,by rw[xZ];exact h.2.2.2⟩)
    |exact h
    |trivial
    | (rename_i id ver p n;simp only[av.iW];cases ρ id ver <;> trivial)
    | (rename_i id ver p c i len;simp only[av.iW];cases ρ id ver <;> trivial)
    | (rename_i i v;simp only[av.iW];cases ρ i v <;> trivial)
theorem pF{ρ:Ren}{E E':Env}(h:rP ρ E E'){id id':Id}{fr:Bool}{c:av}(ho:pE E id fr c)(hβ:E'.β id'=E.β id)
  (hb:∀pl,E.β id=some pl->E'.w.heap[pl.b]? =E.w.heap[pl.b]? /\(∀k,E.g pl.b= .own (.id id) k->E'.g pl.b= .own (.id id') k)/\(E.g pl.b= .free->E'.g pl.b= .free)):pE E' id' fr (c.iW ρ):=by
 by_cases hn:c.iI=false
 ·obtain⟨pl,cur,e,h1,h2,h3,h5,h4⟩:=ho.box hn
  obtain⟨b1,b2,b3⟩:=hb pl h1
  have h6:=Fj h h4
  refine yo.obj ⟨pl,cur,e,by rw[hβ,h1],by rw[b1,h2],?_,Kf ρ h5,by rw[Lh,Mb];exact h6⟩
  cases fr with
  |true=>exact b3 h3
  |false=>exact b2 0 h3
 ·cases c <;> first
   | (exact absurd rfl hn)
   |skip
  rotate_left
  rotate_left
  ·obtain⟨pl,mb,since,seen,c0,h1,h2,h3,_⟩:=ho
   obtain⟨b1,b2,_⟩:=hb pl h1
   exact⟨pl,mb,since,seen,c0,by rw[hβ,h1],by rw[b1,h2],b2 0 h3,λvr Ib=>by cases Ib⟩
  ·obtain⟨pl,r,h1,h2,h3,h4,h5,h6⟩:=ho
   obtain⟨b1,b2,_⟩:=hb pl h1
   exact⟨pl,r,by rw[hβ,h1],by rw[b1,h2],b2 0 h3,h4,Hw h h5,h6⟩
  rotate_left
  ·obtain⟨pl,es,clock,h1,h2,h3,h4⟩:=ho
   obtain⟨b1,b2,_⟩:=hb pl h1
   exact⟨pl,es,clock,by rw[hβ,h1],by rw[b1,h2],b2 0 h3,⟨h4.1.1.mono h.mem,h4.1.2⟩,h4.2⟩
  rename_i e t l
  obtain⟨hz,ho⟩:=ho
  refine⟨hz,?_⟩
  rw[hβ]
  cases hp:E.β id with
  |none=>rw[hp]at ho;exact ho
  |some pl=>
   rw[hp]at ho
   simp only at ho ⊢
   obtain⟨b1,b2,_⟩:=hb pl hp
   obtain⟨cur,k,h1,h2,h3,h4,h5,h6,h7,h8⟩:=ho
   exact⟨cur,k,by rw[b1,h1],h2,h3,h4,b2 k h5,h6,h7,h8.mono λc x hx=>hx.mono h.mem⟩
def rN(E:Env):List av->List Value->Prop
 |[],[]=>True
 |a::as,v::vs=>VS E a v/\rN E as vs
 |_,_=>False
def gV.st(G:gV):AS:= {cr:=[],cz:=G.cz,news:=[G.news]}
def gl(cz:List dS):AS:= {cr:=[],cz,news:=[]}
def qp(E:Env)(G:gV)(v:Value)(w':World):Prop:=
 ∃g' β',VS (G.st.env w' g' β') G.val v/\jc (G.st.env w' g' β')/\Trans E.w w' E.g g'/\cP E (G.st.env w' g' β')
def nX(P:Program)(f:FuncId)(en:Entry):Prop:=
 ∀w g β args cz km x,rN ((gl cz).env w g β) args km->jc ((gl cz).env w g β)->en.run args cz=some x->
  ((callFunc f km.toArray).run P w= .ok (.enter f km.toArray) w/\
   Calls P f km.toArray w λe w'=>∃v,e= .returned v/\qp ((gl cz).env w g β) (en.out args cz x) v w')\/
  (∃v w',(callFunc f km.toArray).run P w= .ok (.value v) w'/\qp ((gl cz).env w g β) (en.out args cz x) v w')
def tP(P:Program)(y:Nat)(en:Entry):Prop:=
 ∀w g β args cz km x,rN ((gl cz).env w g β) args km->jc ((gl cz).env w g β)->en.run args cz=some x->
  ∀l us ts f rd n,km= .func (.yield l) #[] #[]::(us++ts)->us.length=(ln P y).ps.size->
   RoundIn (Fr rd) n P l f (((ln P y).ps.zip us.toArray).foldl (λtmps (t,a)=>tmps.setIfInBounds t a) ts.toArray) (ln P y).as (ln P y).b w
    λe w'=>∃v,e= .returned v/\qp ((gl cz).env w g β) (en.out args cz x) v w'
def vR(P:Program)(f:Nat)(en:Entry):Prop:=(Nat.blt f yB=true->nX P f en)/\(Nat.ble yB f=true->tP P f en)
theorem vR.of{P:Program}{f:FuncId}{en:Entry}(h:nX P f en)(hf:Nat.blt f yB=true):vR P f en:=
 ⟨λ_=>h,λh2=>by
  exact absurd (nu (eK hf) (eK h2)) (gE _)⟩
theorem vR.Yd{P:Program}{f:FuncId}{en:Entry}(h:tP P f en)(hf:Nat.ble yB f=true):vR P f en:=
 ⟨λh2=>by
  exact absurd (nu (eK h2) (eK hf)) (gE _),λ_=>h⟩
def Sound(P:Program)(Γ:mR):Prop:=∀f vs en,Γ f vs=some en->vR P f en
theorem rN.mono{E E':Env}(h:cP E E'):∀ {as:List av} {vs:List Value},rN E as vs->rN E' as vs
 |[],[],_=>trivial
 |_::_,_::_,⟨h1,h2⟩=>⟨h1.mono h,rN.mono h h2⟩
theorem rN.iW{ρ:Ren}{E E':Env}(h:rP ρ E E'):∀ {as:List av} {vs:List Value},rN E as vs->rN E' (as.map (av.iW ρ)) vs
 |[],[],_=>trivial
 |_::_,_::_,⟨h1,h2⟩=>⟨wi h h1,rN.iW h h2⟩
theorem rN.append{E:Env}:∀ {as:List av} {vs:List Value} {bs:List av} {us:List Value},rN E as vs->rN E bs us->rN E (as++bs) (vs++us)
 |[],[],_,_,_,h=>h
 |_::_,_::_,_,_,⟨h1,h2⟩,h=>⟨h1,rN.append h2 h⟩
theorem Hz{E:Env}:∀ {c:av} {vs:List Value},VC E c vs->rN E c.list vs
 | .cons a b,vs,h=>by
  simp only[VC]at h
  obtain⟨v,vs',cs,rfl,ha,ho,hb⟩:=h
  exact⟨VS.of ha ho,Hz hb⟩
 | .nil,vs,h=>by
  simp only[VC]at h
  subst h
  trivial
 | .undef,_,hv=>by simp only[VC]at hv
 | .gone,_,hv=>by simp only[VC]at hv
 | .di,_,hv=>by simp only[VC]at hv
 | .mO,_,hv=>by simp only[VC]at hv
 | .pL,_,hv=>by simp only[VC]at hv
 | .yl ..,_,hv | .mr ..,_,hv=>by simp only[VC]at hv
 | .sw,_,hv=>by simp only[VC]at hv
 | .sb _,_,hv=>by simp only[VC]at hv
 | .d t x,_,hv=>by simp only[VC]at hv
 | .pr a b,_,hv=>by simp only[VC]at hv
 | .ptr ..,_,hv=>by simp only[VC]at hv
 | .eD ..,_,hv=>by simp only[VC]at hv
 | .aS ..,_,hv=>by simp only[VC]at hv
 | .fn ..,_,hv=>by simp only[VC]at hv
 | .vec ..,_,hv=>by simp only[VC]at hv
 | .bx ..,_,hv=>by simp only[VC]at hv
 | .db ..,_,hv=>by simp only[VC]at hv
 | .mp ..,_,hv | .nH ..,_,hv=>by simp only[VC]at hv
theorem Inv.VT{C:Ctx}{g:Nat->kY}{β:Id->Option Pl}{s:AS}{a:Act}{w:World}(h:Inv C g β s a w):∀l:List Operand,rN (s.env w g β) (l.map s.ev) (l.map a.eval)
 |[]=>trivial
 |x::l=>⟨h.ev x,h.VT l⟩
theorem uB{E E':Env}{s:AS}(hs:E.s=s.bZ)(ho:jc E)(he:cP E E'):∀(ps:List (Option Ty)) (vs:List av) (ys:List Value) (r:List av×List Id),rN E vs ys->(s.conv ps vs).eval=some r->S9 E E' r.2->rN E' r.1 ys
 |[],[],ys,r,hv,h,_=>by
  simp only[AS.conv,ao]at h
  subst h
  cases ys with
  |nil=>trivial
  |cons _ _=>exact hv.elim
 |some t::ps,v::vs,y::ys,r,⟨hv,zh⟩,h,hf=>by
  simp only[AS.conv]at h
  obtain⟨x,h1,h2⟩:=ak.1 h
  obtain⟨r',h3,h4⟩:=ak.1 h2
  obtain rfl:=ao.1 h4
  obtain⟨cs,hV,hO⟩:=hv.eX (sh h1)
  refine⟨VS.of (cs:=cs) ?_ ?_,uB hs ho he ps vs ys r' zh h3 λid dq=>hf id (bt.2 (.inr dq))⟩
  ·simp only[V]
   exact pZ hs ho he v t x cs hV h1 λid dq=>hf id (bt.2 (.inl dq))
  ·show fV t.agg cs y
   rw[<-Cl h1];exact hO
 |none::ps,v::vs,y::ys,r,⟨hv,zh⟩,h,hf=>by
  simp only[AS.conv]at h
  obtain⟨r',h3,h4⟩:=ak.1 h
  obtain rfl:=ao.1 h4
  exact⟨hv.mono he,uB hs ho he ps vs ys r' zh h3 hf⟩
 |[],_::_,_,_,_,h,_=>by simp only[AS.conv,ai]at h
 |some _::_,[],_,_,_,h,_=>by simp only[AS.conv,ai]at h
 |none::_,[],_,_,_,h,_=>by simp only[AS.conv,ai]at h
end Go.Ab
namespace Go.Ab
theorem nE{id:Id}:∀ {ids:List Id} {k:Nat},idxOf id ids=some k->ids[k]? =some id
 |[],_,h=>by simp[idxOf]at h
 |x::xs,k,h=>by
  simp only[idxOf]at h
  split at h
  ·rename_i e
   simp only[aq]at h
   subst h e
   rfl
  ·simp only[fv]at h
   obtain⟨j,hj,rfl⟩:=h
   simpa using nE hj
theorem rU{id:Id}:∀ {ids:List Id} {k:Nat},ids.Nodup->ids[k]? =some id->idxOf id ids=some k
 |[],_,_,h=>by simp at h
 |x::xs,0,hn,h=>by
  simp only[fS,aq]at h
  simp[idxOf,h]
 |x::xs,k+1,hn,h=>by
  simp only[kD]at h
  obtain⟨h1,h2⟩:=dI.1 hn
  have fL:x≠id:=λe=>h1 (e▸dd h)
  simp[idxOf,fL,rU h2 h]
theorem sB(s0:AS)(all:List Id)(t:Nat):∀(ids:List Id) (es:List dS) (s:AS),(AS.jy s0 all t s ids es).cr=s.cr
 |[],_,_=>by simp[AS.jy]
 |_::_,[],_=>by simp[AS.jy]
 |id::ids,e::es,s=>by rw[AS.jy,sB s0 all t ids es,du]
theorem B9(s:AS)(ids:List Id)(t:Nat)(es:List dS):(s.made ids t es).cr=s.cr:=by cases es <;> rfl
theorem uC(s0:AS)(all:List Id)(t:Nat):∀(ids:List Id) (es:List dS) (s:AS),ids.Nodup->es.length=ids.length->(∀id∈ids,s.bZ id≠none)->
  (∀id,id ∉ ids->(AS.jy s0 all t s ids es).bZ id=s.bZ id)/\
  ∀(k:Nat) (id:Id) (e:dS),ids[k]? =some id->es[k]? =some e->(AS.jy s0 all t s ids es).bZ id=some (s0.nA all t (s0.si id) e)
 |[],es,s,_,_,_=>⟨λ_ _=>by simp[AS.jy],λk id e h=>by simp at h⟩
 |_::_,[],s,_,hl,_=>by simp at hl
 |i::ids,e::es,s,hn,hl,hp=>by
  obtain⟨h1,h2⟩:=dI.1 hn
  have hp':∀id∈ids,(s.aO i (s0.nA all t (s0.si i) e)).bZ id≠none:=λid dq=>by
   rw[da s i id _ (λe=>h1 (e▸dq))]
   exact hp id (aF _ dq)
  obtain⟨r1,r2⟩:=uC s0 all t ids es (s.aO i (s0.nA all t (s0.si i) e)) h2 (by simpa using hl) hp'
  rw[AS.jy]
  refine⟨λid dq=> ?_,λk id e' hk he=> ?_⟩
  ·simp only[cX,not_or]at dq
   rw[r1 id dq.2,da s i id _ dq.1]
  ·cases k with
   |zero=>
    simp only[fS,aq]at hk he
    subst hk he
    rw[r1 i h1,eS s i _ (hp i (aH ..))]
   |succ k=>
    simp only[kD]at hk he
    exact r2 k id e' hk he
theorem FR(s:AS)(ids:List Id)(t:Nat)(es:List dS)(hv:es=[]\/s.ek t=true):
  (∀id,(es=[]\/∀j,id≠ .new t j)->(s.made ids t es).bZ id=s.bZ id)/\(es≠ []->∀j,(s.made ids t es).bZ (.new t j)=(es[j]?).map (s.nA ids t 0)):=by
 cases es with
 |nil=>exact⟨λ_ _=>rfl,λh=>absurd rfl h⟩
 |cons e es=>
  have hv:s.ek t=true:=by
   rcases hv with h | h
   ·cases h
   ·exact h
  refine⟨λid h=> ?_,λ_ j=> ?_⟩
  ·rcases h with h | h
   ·cases h
   ·exact je _ h
  ·rw[AS.made,qF (jQ hv).2,fj]
def lU(ids:List Id):kY->kY
 | .free=> .free
 | .own .eL n=> .own .eL n
 | .own (.id i) n=>match idxOf i ids with | some k=> .own (.id (.aV k)) n | none=> .own .eL n
def tD(β:Id->Option Pl)(ids:List Id):Id->Option Pl
 | .aV k=>(ids[k]?).bind β
 | .new _ _=>none
def lM(g:Nat->kY)(size:Nat)(ids:List Id)(t:Nat)(b:Nat):kY->kY
 | .free=> .free
 | .own .eL n=>if b < size then g b else .own .eL n
 | .own (.id i) n=> .own (.id (P9 ids t i)) n
def pP(β β':Id->Option Pl)(ids:List Id)(t:Nat)(some?:Bool)(id:Id):Option Pl:=
 match idxOf id ids with
 |some k=>β' (.aV k)
 |none=>match id with
  | .new i j=>if i=t/\some?=true then β' (.new 0 j) else β (.new i j)
  |id=>β id
theorem M1{ids:List Id}{l:kY}{off:Nat}(h:oT (λ_=>l) 0 off):oT (λ_=>lU ids l) 0 off:=by
 cases l with
 |free=>trivial
 |own o k=>cases o with
  |eL=>exact h
  |id i=>simp only[lU];cases idxOf i ids <;> exact h
section
variable {P:Program} {C:Ctx} {g:Nat->kY} {β:Id->Option Pl} {s:AS} {a:Act} {w:World} {o:Oper}
theorem Qa(ids:List Id):
  rP (s.pT ids) (s.env w g β) ((gl (ids.map (s.lr ids))).env w (λb=>lU ids (g b)) (tD β ids)):=by
 refine⟨⟨λb off v ⟨h1,h2⟩=>⟨h1,?_⟩,λb ob h1 h2=>⟨by show lU ids (g b)= .free;have h1:g b= .free:=h1;rw[h1];rfl,h2⟩⟩,λid ver r hr _=> ?_⟩
 ·exact M1 (l:=g b) h2
 ·unfold AS.pT at hr
  split at hr
  ·rename_i k v fr c hk ho
   split at hr
   ·rename_i Uh
    simp only[aq]at hr
    subst hr Uh
    have dq:=nE hk
    have cV:=eH ho
    refine⟨⟨?_,λ_ _ _ _=>aK _⟩,λ_=>⟨⟨fr,c,cV⟩,?_⟩⟩
    ·show(ids.map (s.lr ids))[k]? ≠none
     simp[dq]
    ·show(ids[k]?).bind β=β id
     rw[dq];rfl
   ·cases hr
  ·cases hr
theorem O0(ids:List Id)(hn:ids.Nodup)(h:jc (s.env w g β)):jc ((gl (ids.map (s.lr ids))).env w (λb=>lU ids (g b)) (tD β ids)):=by
 intro id ver fr c dq
 have dq:(gl (ids.map (s.lr ids))).bZ id=some (.obj ver fr c):=dq
 cases id with
 |new i j=>simp[gl,AS.bZ]at dq
 |aV k=>
  simp only[gl,AS.bZ,fj,fv]at dq
  obtain⟨id1,hk,he⟩:=dq
  unfold AS.lr at he
  split at he
  ·rename_i v fr1 c1 cV
   simp only[dS.obj.injEq]at he
   obtain⟨rfl,rfl,rfl⟩:=he
   refine pF (Qa ids) (h id1 v fr1 c1 cV) (by show(ids[k]?).bind β=β id1;rw[hk];rfl) λpl hp=>⟨rfl,λn hg=> ?_,λhg=> ?_⟩
   ·have hg:g pl.b= .own (.id id1) n:=hg
    show lU ids (g pl.b)=_
    rw[hg]
    simp[lU,rU hn hk]
   ·have hg:g pl.b= .free:=hg
    show lU ids (g pl.b)=_
    rw[hg];rfl
  ·cases he
theorem Ar(h:Inv C g β s a w){ids:List Id}(hn:ids.Nodup)(hp:∀id∈ids,∃r,s.obj id=some r)(Ac:∀id∈ids,s.A8 id=true){G:gV}{t:Nat}(hl:G.cz.length=ids.length)(hv:G.news=[]\/s.ek t=true){v:Value}{w':World}
  (ha:qp ((gl (ids.map (s.lr ids))).env w (λb=>lU ids (g b)) (tD β ids)) G v w'):
  ∃g' β',Inv C g' β' (AS.jy s ids t (s.made ids t G.news) ids G.cz) a w'/\VS ((AS.jy s ids t (s.made ids t G.news) ids G.cz).env w' g' β') (G.val.iW (s.pf ids t)) v:=by
 obtain⟨g1,β1,rh,P4,Ia,hle⟩:=ha
 have Ia:Trans w w' (λb=>lU ids (g b)) g1:=Ia
 obtain⟨m1,m2⟩:=FR s ids t G.news hv
 have Ww:∀id∈ids,s.bZ id≠none:=λid dq=>by
  obtain⟨⟨v,fr,c⟩,hr⟩:=hp id dq
  rw[eH hr];simp
 have vL:∀id,s.bZ id≠none->G.news=[]\/∀j,id≠ .new t j:=λid dq=>by
  rcases hv with hv | hv
  ·exact .inl hv
  ·exact .inr λj e=>dq (by rw[e];exact(jQ hv).1 j)
 obtain⟨n1,n2⟩:=uC s ids t ids G.cz (s.made ids t G.news) hn hl (λid dq=>by rw[m1 id (vL id (Ww id dq))];exact Ww id dq)
 have Ui:∀j,G.news≠ []->Id.new t j ∉ ids:=λj fL dq=>by
  rcases hv with hv | hv
  ·exact fL hv
  ·exact Ww _ dq ((jQ hv).1 j)
 generalize AQ:AS.jy s ids t (s.made ids t G.news) ids G.cz=s2 at*
 have hgO:∀(k:Nat) (id:Id),ids[k]? =some id->∃e,G.cz[k]? =some e/\s2.bZ id=some (s.nA ids t (s.si id) e):=λk id hk=>by
  have iv:k < G.cz.length:=by rw[hl];exact(dL.1 hk).1
  exact⟨_,cj iv,n2 k id _ hk (cj iv)⟩
 have hgN:G.news≠ []->∀j,s2.bZ (.new t j)=(G.news[j]?).map (s.nA ids t 0):=λfL j=>by
  rw[n1 _ (Ui j fL),m2 fL j]
 have hgS:∀id,id ∉ ids->(G.news=[]\/∀j,id≠ .new t j)->s2.bZ id=s.bZ id:=λid h1 h2=>by
  rw[n1 id h1,m1 id h2]
 have hverOf:∀id∈ids,∃fr c,s.bZ id=some (.obj (s.si id) fr c):=λid dq=>by
  obtain⟨⟨v,fr,c⟩,hr⟩:=hp id dq
  refine⟨fr,c,?_⟩
  rw[eH hr]
  simp[AS.si,hr]
 have Wa:∀b n,b < w.heap.size->g1 b= .own .eL n->(g b= .own .eL n\/∃i,g b= .own (.id i) n/\idxOf i ids=none):=λb n hb hg=>by
  have h1:=Ia.yt b hb
  cases zM:g b with
  |free=>simp only[zM,lU]at h1;rw[h1.1]at hg;cases hg
  |own o k=>cases o with
   |eL=>simp only[zM,lU]at h1;rw[h1.1]at hg;left;exact hg
   |id i=>
    cases hi:idxOf i ids with
    |none=>
     simp only[zM,lU,hi]at h1
     rw[h1.1]at hg
     simp only[kY.own.injEq,true_and]at hg
     subst hg
     exact .inr ⟨i,rfl,hi⟩
    |some k'=>
     simp only[zM,lU,hi]at h1
     rcases h1.1 with h2 | ⟨_,_,h2,_⟩ <;> (rw[h2]at hg;cases hg)
 let g2:Nat->kY:=λb=>lM g w.heap.size ids t b (g1 b)
 let β2:Id->Option Pl:=pP β β1 ids t (!G.news.isEmpty)
 have hβO:∀k id,ids[k]? =some id->β2 id=β1 (.aV k):=λk id hk=>by
  show pP _ _ _ _ _ id=_
  simp[pP,rU hn hk]
 have hβN:G.news≠ []->∀j,β2 (.new t j)=β1 (.new 0 j):=λfL j=>by
  show pP _ _ _ _ _ _=_
  have:idxOf (.new t j) ids=none:=by
   cases hi:idxOf (.new t j) ids with
   |none=>rfl
   |some k=>exact absurd (dd (nE hi)) (Ui j fL)
  have hne':G.news.isEmpty=false:=by cases hh:G.news with
   |nil=>exact absurd hh fL
   |cons _ _=>rfl
  simp[pP,this,hne']
 have hβS:∀id,id ∉ ids->(G.news=[]\/∀j,id≠ .new t j)->β2 id=β id:=λid h1 h2=>by
  show pP _ _ _ _ _ _=_
  have:idxOf id ids=none:=by
   cases hi:idxOf id ids with
   |none=>rfl
   |some k=>exact absurd (dd (nE hi)) h1
  cases id with
  |aV k=>simp[pP,this]
  |new i j=>
   have:¬(i=t/\(!G.news.isEmpty)=true):=by
    rintro⟨rfl,h3⟩
    rcases h2 with h2 | h2
    ·rw[h2]at h3;cases h3
    ·exact h2 j rfl
   simp only[pP, *,if_false]
 have Ud:Trans w w' g g2:=by
  refine⟨Ia.os,Ia.tape,Ia.output,Ia.size,λb hb=> ?_⟩
  have h1:=Ia.yt b hb
  show match g b with | .free=>lM g w.heap.size ids t b (g1 b)= .free/\_ | .own .eL k=>lM g w.heap.size ids t b (g1 b)= .own .eL k/\_ | .own (.id _) k=>(lM g w.heap.size ids t b (g1 b)= .free\/∃i k',lM g w.heap.size ids t b (g1 b)= .own (.id i) k'/\k<=k')/\_
  cases zM:g b with
  |free=>simp only[zM,lU]at h1 ⊢;rw[h1.1];exact⟨rfl,h1.2⟩
  |own o k=>cases o with
   |eL=>simp only[zM,lU]at h1 ⊢;rw[h1.1];simp only[lM,hb,if_true,zM];exact⟨trivial,h1.2⟩
   |id i=>
    cases hi:idxOf i ids with
    |none=>
     simp only[zM,lU,hi]at h1 ⊢
     rw[h1.1]
     simp only[lM,hb,if_true,zM]
     exact⟨.inr ⟨i,k,rfl,aw _⟩,λoff v _ hv=>by simpa only[World.cell?,h1.2]using hv⟩
    |some k'=>
     simp only[zM,lU,hi]at h1 ⊢
     refine⟨?_,h1.2⟩
     rcases h1.1 with h2 | ⟨i',k'',h2,h3⟩
     ·rw[h2];exact .inl rfl
     ·rw[h2];exact .inr ⟨_,k'',rfl,h3⟩
 have tn:oe (G.st.env w' g1 β1) (s2.env w' g2 β2):=by
  refine⟨λb off v ⟨h1,h2⟩=> ?_,λb ob h1 h2=>⟨by show lM g w.heap.size ids t b (g1 b)= .free;have h1:g1 b= .free:=h1;rw[h1];rfl,h2⟩⟩
  refine⟨h1,?_⟩
  have h2:oT g1 b off:=h2
  show oT g2 b off
  unfold oT at h2 ⊢
  show match lM g w.heap.size ids t b (g1 b) with | .free=>True | .own _ k=>off < k
  cases zM:g1 b with
  |free=>simp[lM]
  |own o k=>
   rw[zM]at h2
   cases o with
   |eL=>
    simp only[lM]
    by_cases hb:b < w.heap.size
    ·rw[if_pos hb]
     rcases Wa b k hb zM with h3 | ⟨i,h3,_⟩ <;> (rw[h3];exact h2)
    ·rw[if_neg hb];exact h2
   |id i=>exact h2
 have hentOut:∀(base:Nat) (e:dS) (ver:Nat) (fr:Bool) (c:av),s.nA ids t base e= .obj ver fr c->∃v0 c0,e= .obj v0 fr c0/\ver=base+v0/\c=c0.iW (s.pf ids t):=λbase e ver fr c he=>by
  cases e with
  |dead=>cases he
  |obj v0 fr0 c0=>
   simp only[AS.nA,dS.obj.injEq]at he
   obtain⟨rfl,rfl,rfl⟩:=he
   exact⟨v0,c0,rfl,rfl,rfl⟩
 have Ey:rP (s.pf ids t) (G.st.env w' g1 β1) (s2.env w' g2 β2):=by
  refine⟨tn,λid ver r hr hb=> ?_⟩
  cases id with
  |aV k=>
   obtain⟨ym,z8⟩:=hb
   have ym:G.cz[k]? ≠none:=ym
   have hk:k < ids.length:=by
    rcases mC k ids.length with h' | h'
    ·exact h'
    ·exact absurd (dM (by omega)) ym
   have dq:ids[k]? =some ids[k]:=cj hk
   simp only[AS.pf,dq,aq]at hr
   subst hr
   obtain⟨e,xq,Cy⟩:=hgO k _ dq
   refine⟨⟨by show s2.bZ _≠none;rw[Cy];simp,λv fr c hh=> ?_⟩,λ⟨fr,c,hh⟩=>⟨?_,hβO k _ dq⟩⟩
   ·have hh:s2.bZ ids[k]=some (.obj v fr c):=hh
    rw[Cy,aq]at hh
    obtain⟨v0,c0,rfl,rfl,_⟩:=hentOut _ _ _ _ _ hh
    have:=z8 v0 fr c0 xq
    omega
   ·have hh:s2.bZ ids[k]=some (.obj (s.si ids[k]+ver) fr c):=hh
    rw[Cy,aq]at hh
    obtain⟨v0,c0,rfl,SS,_⟩:=hentOut _ _ _ _ _ hh
    obtain rfl:ver=v0:=by omega
    exact⟨fr,c0,xq⟩
  |new i j=>
   simp only[AS.pf,aq]at hr
   subst hr
   obtain⟨ym,z8⟩:=hb
   have ym:([G.news].getD i [])[j]? ≠none:=ym
   have z8:∀v fr c,([G.news].getD i [])[j]? =some (.obj v fr c)->ver<=v:=z8
   cases i with
   |succ i=>simp at ym
   |zero=>
    simp only[kz]at ym z8
    have fL:G.news≠ []:=λe=>by rw[e]at ym;simp at ym
    obtain⟨e,he⟩:=Option.ne_none_iff_exists'.1 ym
    have Cy:=hgN fL j
    rw[he,ee]at Cy
    refine⟨⟨by show s2.bZ (.new t j)≠none;rw[Cy];simp,λv fr c hh=> ?_⟩,λ⟨fr,c,hh⟩=>⟨?_,hβN fL j⟩⟩
    ·have hh:s2.bZ (.new t j)=some (.obj v fr c):=hh
     rw[Cy,aq]at hh
     obtain⟨v0,c0,rfl,rfl,_⟩:=hentOut _ _ _ _ _ hh
     have:=z8 v0 fr c0 he
     simp only
     omega
    ·have hh:s2.bZ (.new t j)=some (.obj ver fr c):=hh
     rw[Cy,aq]at hh
     obtain⟨v0,c0,rfl,SS,_⟩:=hentOut _ _ _ _ _ hh
     obtain rfl:ver=v0:=by omega
     exact⟨fr,c0,he⟩
 have TZ:cP (s.env w g β) (s2.env w' g2 β2):=by
  refine⟨Trans.mem Ud,λid ver hb=> ?_,λid ver hb hc=> ?_⟩
  ·obtain⟨ym,z8⟩:=hb
   have ym:s.bZ id≠none:=ym
   have z8:∀v fr c,s.bZ id=some (.obj v fr c)->ver<=v:=z8
   by_cases dq:id∈ids
   ·obtain⟨k,hk⟩:=jS.1 dq
    obtain⟨e,xq,Cy⟩:=hgO k id hk
    obtain⟨fr1,c1,Cz⟩:=hverOf id dq
    refine⟨by show s2.bZ _≠none;rw[Cy];simp,λv fr c hh=> ?_⟩
    have hh:s2.bZ id=some (.obj v fr c):=hh
    rw[Cy,aq]at hh
    obtain⟨v0,c0,rfl,rfl,_⟩:=hentOut _ _ _ _ _ hh
    have:=z8 _ _ _ Cz
    omega
   ·have:=hgS id dq (vL id ym)
    exact⟨by show s2.bZ _≠none;rw[this];exact ym,λv fr c hh=>z8 v fr c (this.symm.trans hh)⟩
  ·obtain⟨ym,z8⟩:=hb
   have ym:s.bZ id≠none:=ym
   have z8:∀v fr c,s.bZ id=some (.obj v fr c)->ver<=v:=z8
   obtain⟨fr,c,hh⟩:=hc
   have hh:s2.bZ id=some (.obj ver fr c):=hh
   by_cases dq:id∈ids
   ·obtain⟨k,hk⟩:=jS.1 dq
    obtain⟨e,xq,Cy⟩:=hgO k id hk
    obtain⟨fr1,c1,Cz⟩:=hverOf id dq
    rw[Cy,aq]at hh
    obtain⟨v0,c0,rfl,SS,_⟩:=hentOut _ _ _ _ _ hh
    have Uh:=z8 _ _ _ Cz
    obtain rfl:v0=0:=by omega
    have hver':ver=s.si id:=by omega
    refine⟨⟨fr1,c1,by rw[hver'];exact Cz⟩,?_⟩
    show β2 id=β id
    rw[hβO k id hk]
    have F7:s.lr ids id= .obj 0 fr1 (c1.iW (s.pT ids)):=by simp[AS.lr,Cz]
    have h0:((gl (ids.map (s.lr ids))).env w (λb=>lU ids (g b)) (tD β ids)).tS (.aV k) 0:=by
     refine⟨?_,λ_ _ _ _=>aK _⟩
     show(ids.map (s.lr ids))[k]? ≠none
     simp[hk]
    have:=(hle.cur (.aV k) 0 h0 ⟨fr,c0,xq⟩).2
    have this:β1 (.aV k)=(ids[k]?).bind β:=this
    rw[this,hk];rfl
   ·have:=hgS id dq (vL id ym)
    exact⟨⟨fr,c,this.symm.trans hh⟩,hβS id dq (vL id ym)⟩
 have T6:jc (s2.env w' g2 β2):=by
  intro id ver fr c hh
  have hh:s2.bZ id=some (.obj ver fr c):=hh
  by_cases dq:id∈ids
  ·obtain⟨k,hk⟩:=jS.1 dq
   obtain⟨e,xq,Cy⟩:=hgO k id hk
   rw[Cy,aq]at hh
   obtain⟨v0,c0,rfl,_,rfl⟩:=hentOut _ _ _ _ _ hh
   refine pF Ey (P4 (.aV k) v0 fr c0 xq) (hβO k id hk) λpl _=>⟨rfl,λn hg=> ?_,λhg=> ?_⟩
   ·have hg:g1 pl.b= .own (.id (.aV k)) n:=hg
    show lM g w.heap.size ids t pl.b (g1 pl.b)=_
    rw[hg]
    simp[lM,P9,aA,hk]
   ·have hg:g1 pl.b= .free:=hg
    show lM g w.heap.size ids t pl.b (g1 pl.b)=_
    rw[hg];rfl
  ·by_cases fL:G.news≠ []/\∃j,id= .new t j
   ·obtain⟨fL,j,rfl⟩:=fL
    rw[hgN fL j,fv]at hh
    obtain⟨e,he,hh⟩:=hh
    obtain⟨v0,c0,rfl,_,rfl⟩:=hentOut _ _ _ _ _ hh
    refine pF Ey (P4 (.new 0 j) v0 fr c0 (by show([G.news].getD 0 [])[j]? =_;simpa using he)) (hβN fL j) λpl _=>⟨rfl,λn hg=> ?_,λhg=> ?_⟩
    ·have hg:g1 pl.b= .own (.id (.new 0 j)) n:=hg
     show lM g w.heap.size ids t pl.b (g1 pl.b)=_
     rw[hg]
     rfl
    ·have hg:g1 pl.b= .free:=hg
     show lM g w.heap.size ids t pl.b (g1 pl.b)=_
     rw[hg];rfl
   ·have X6:G.news=[]\/∀j,id≠ .new t j:=by
     by_cases hh:G.news=[]
     ·exact .inl hh
     ·exact .inr λj e=>fL ⟨hh,j,e⟩
    rw[hgS id dq X6]at hh
    have same:∀id,id ∉ ids->∀ver fr c,s.bZ id=some (.obj ver fr c)->∀pl,β id=some pl->w'.heap[pl.b]? =w.heap[pl.b]? /\lM g w.heap.size ids t pl.b (g1 pl.b)=g pl.b:=by
     intro id dq ver fr c hh pl zN
     obtain⟨hb,TY⟩:=(h.bK id ver fr c hh).label (pl:=pl) zN
     have hb:pl.b < w.heap.size:=hb
     have h1:=Ia.yt pl.b hb
     have Wf:idxOf id ids=none:=by
      cases hi:idxOf id ids with
      |none=>rfl
      |some k=>exact absurd (dd (nE hi)) dq
     rcases TY with⟨k,hk⟩ | ⟨_,hk⟩
     ·have hk:g pl.b= .own (.id id) k:=hk
      simp only[hk,lU,Wf]at h1
      rw[h1.1]
      simp only[lM,hb,if_true]
      exact⟨h1.2,trivial⟩
     ·have hk:g pl.b= .free:=hk
      simp only[hk,lU]at h1
      rw[h1.1,hk]
      exact⟨h1.2,rfl⟩
    have ho:=h.bK id ver fr c hh
    refine ho.mono TZ (hβS id dq X6) (λpl zN=>same id dq ver fr c hh pl zN) λq2 vq k2 v2 l2 yK _=> ?_
    have yK:s.bZ q2=some (.obj vq true (.mp k2 v2 l2)):=yK
    have PZ:q2 ∉ ids:=λhm=>by
     have:=Ac q2 hm
     have e:s.obj q2=some (vq,true,.mp k2 v2 l2):=by simp[AS.obj,yK]
     unfold AS.A8 at this
     rw[e]at this
     cases this
    refine⟨⟨k2,v2,l2,?_⟩,λpl zN=>same q2 PZ vq true _ yK pl zN⟩
    show s2.bZ q2=_
    rw[hgS q2 PZ (vL q2 (by rw[yK];simp))]
    exact yK
 have LK:s2.cr=s.cr:=by rw[<-AQ,sB,B9]
 exact⟨g2,β2,h.step LK Ud TZ T6,wi Ey rh⟩
end
end Go.Ab
namespace Go.Ab
theorem pR(s:AS):∀(n:Nat) (todo acc:List Id),acc.Nodup->(s.reach n todo acc).Nodup
 | 0,_,acc,h=>by simpa[AS.reach]using h
 |_+1,[],acc,h=>by simpa[AS.reach]using h
 |n+1,id::todo,acc,h=>by
  rw[AS.reach]
  split
  ·exact pR s n todo acc h
  ·rename_i hc
   refine pR s n _ _ ?_
   rw[List.nodup_append]
   refine⟨h,by simp,λx hx y hy e=> ?_⟩
   simp only[bI]at hy
   subst hy e
   exact hc (by simpa using hx)
theorem uM(s:AS)(vs:List av):(s.JD vs).Nodup:=pR s _ _ _ (by simp)
section
variable {P:Program} {C:Ctx} {g:Nat->kY} {β:Id->Option Pl} {s:AS} {a:Act} {w:World} {o:Oper}
theorem yF(h:Inv C g β s a w){en:Entry}{ids:List Id}(hn:ids.Nodup){vs:List av}{ys:List Value}(hv:rN (s.env w g β) vs ys)
  {s':AS} (he:(s.enter en o.dst ids vs).eval=some s'):∃x,en.run (vs.map (av.iW (s.pT ids))) (ids.map (s.lr ids))=some x/\
   rN ((gl (ids.map (s.lr ids))).env w (λb=>lU ids (g b)) (tD β ids)) (vs.map (av.iW (s.pT ids))) ys/\
   jc ((gl (ids.map (s.lr ids))).env w (λb=>lU ids (g b)) (tD β ids))/\
   ∀v w',qp ((gl (ids.map (s.lr ids))).env w (λb=>lU ids (g b)) (tD β ids)) (en.out (vs.map (av.iW (s.pT ids))) (ids.map (s.lr ids)) x) v w'->iE C s' (a.put o.dst v) w':=by
 unfold AS.enter at he
 obtain⟨uG,he⟩:=ay.1 he
 obtain⟨x,hx,he⟩:=pI.1 he
 obtain⟨x0,Uj,he⟩:=ak.1 he
 rw[en.NK _ _ Uj]at he
 have hp:∀id∈ids,∃r,s.obj id=some r:=λid dq=>by
  have:=dv.1 uG id dq
  rw[aj]at this
  exact bY.1 this.1
 have Ac:∀id∈ids,s.A8 id=true:=λid dq=>by
  have:=dv.1 uG id dq
  rw[aj]at this
  exact this.2
 refine⟨x,hx,rN.iW (Qa ids) hv,O0 ids hn h.bK,?_⟩
 intro v w' ha
 unfold AS.back at he
 cases TK:o.dst with
 |some t=>
  rw[TK]at he
  obtain⟨hg,he⟩:=ay.1 he
  obtain rfl:=ao.1 he
  simp only[aj,beq_iff_eq,ix]at hg
  obtain⟨hl,hg⟩:=hg
  have MR:(en.out (vs.map (av.iW (s.pT ids))) (ids.map (s.lr ids)) x).news=[]\/s.ek t=true:=by
   rcases hg with hg | hg
   ·exact .inl (by simpa using hg)
   ·exact .inr hg
  obtain⟨g2,β2,h1,h2⟩:=Ar h hn hp Ac hl MR ha
  exact⟨g2,β2,h1.put (some t) h2⟩
 |none=>
  rw[TK]at he
  obtain⟨hg,he⟩:=ay.1 he
  obtain rfl:=ao.1 he
  simp only[aj,beq_iff_eq]at hg
  obtain⟨hl,hg⟩:=hg
  have vL:(en.out (vs.map (av.iW (s.pT ids))) (ids.map (s.lr ids)) x).news=[]:=by simpa using hg
  obtain⟨g2,β2,h1,_⟩:=Ar (t:=0) h hn hp Ac hl (.inl vL) ha
  rw[vL]at h1
  exact⟨g2,β2,h1⟩
theorem HU(h:Inv C g β s a w){f:FuncId}{en:Entry}(hd:nX P f en){ids:List Id}(hn:ids.Nodup){vs:List av}{ys:List Value}(hv:rN (s.env w g β) vs ys)
  (hr:(execOp a.eval o).run P w=(callFunc f ys.toArray).run P w) {s':AS} (he:(s.enter en o.dst ids vs).eval=some s'):fM P o a w (iE C s'):=by
 obtain⟨x,hx,h1,h2,key⟩:=yF h hn hv he
 rcases hd _ _ _ _ _ _ _ h1 h2 hx with⟨LI,hc⟩ | ⟨v,w',Vj,ha⟩
 ·exact .inr (.inr (.inl ⟨f,ys.toArray,w,hr.trans LI,hc.mono λe w' ⟨v,he,ha⟩=>⟨v,he,key v w' ha⟩⟩))
 ·exact .inl ⟨v,w',hr.trans Vj,key v w' ha⟩
theorem Kk(h:Inv C g β s a w){c:Call}{F:Operand}{f:FuncId}{caps:av}{en:Entry}(ho:o.op= .call c)(hc:c.callee= .value F)(hF:s.ev F= .fn f caps)(hd:nX P f en){s':AS}
  (he:(s.call en o.dst (c.args.toList.map s.ev++caps.list)).eval=some s'):fM P o a w (iE C s'):=by
 obtain⟨cal,args,tys⟩:=c
 simp only at hc he
 subst hc
 obtain⟨vs,hy,Vk⟩:=Dl (hF▸h.ev F)
 have AM:=(h.VT args.toList).append (Hz Vk)
 have hr:(execOp a.eval o).run P w=(callFunc f (args.toList.map a.eval++vs).toArray).run P w:=by
  have e1:execOp a.eval o=(do let d <-resolve a.eval {callee:= .value F,args,argTypes:=tys} o.type;invoke d.target d.args):=by simp only[execOp,ho]
  rw[e1]
  simp only[resolve,hy,Deferred.ofValue,Sem.run_bind,Sem.run_pure,Result.andThen_ok,invoke]
  congr 2
  simp
 unfold AS.call at he
 obtain⟨r,h1,h2⟩:=ak.1 he
 obtain⟨g',i1,e1,_,f1⟩:=gf r.2 h
 exact HU i1 hd (uM _ _) (uB rfl h.bK e1 _ _ _ r AM h1 f1) hr h2
theorem s9.ZB{E:Env}{f:av}{tmps:Array Value}(h:s9 E f tmps):rN E f.list tmps.toList:=by
 obtain⟨h1,h2⟩:=h
 have gen:∀(l:List av) (ys:List Value),l.length=ys.length->(∀i,VS E (l.getD i .undef) (ys.getD i undef))->rN E l ys:=by
  intro l
  induction l with
  |nil=>intro ys hl _;cases ys with
   |nil=>trivial
   |cons _ _=>simp at hl
  |cons x l ih=>intro ys hl hi;cases ys with
   |nil=>simp at hl
   |cons y ys=>exact⟨by simpa using hi 0,ih ys (by simpa using hl) λi=>by simpa using hi (i+1)⟩
 exact gen _ _ (by simpa using h1) λi=>by simpa[cJ,aA]using h2 i
theorem I5(h:Inv C g β s a w){c:Call}{F:Operand}{id:Id}{ver:Nat}{rc:oX}{f:av}{en:Entry}(ho:o.op= .call c)(hc:c.callee= .value F)
  (hF:s.yielded (s.ev F) c.args.size=some (id,ver,rc,f)) (Vi:rc=ln P rc.y) (hd:vR P rc.y en) {s':AS}
  (he:(s.call en o.dst (.yl id ver::(c.args.toList.map s.ev++f.list))).eval=some s'):fM P o a w (iE C s'):=by
 obtain⟨cal,args,tys⟩:=c
 simp only at hc he hF
 subst hc
 unfold AS.yielded at hF
 split at hF
 rotate_left
 ·cases hF
 rename_i id' ver' KC
 split at hF
 rotate_left
 ·cases hF
 rename_i v c0 f0 kr
 split at hF
 rotate_left
 ·cases hF
 rename_i TG
 simp only[aq,cR]at hF
 obtain⟨rfl,rfl,rfl,rfl⟩:=hF
 simp only[aj,beq_iff_eq]at TG
 obtain⟨⟨rfl,ou⟩,hy⟩:=TG
 have cV:=eH kr
 have hv:=h.ev F
 rw[KC]at hv
 obtain⟨cs,hV,hO⟩:=hv
 simp only[V]at hV
 obtain⟨l,rfl,hb,fB⟩:=hV
 have Ul:a.eval F= .func (.yield l) #[] #[]:=by simpa[fV,av.agg]using hO.symm
 obtain⟨pl,hp,rfl⟩:=fB ⟨false,_,cV⟩
 obtain⟨pl',r,hp',hh,hg,⟨q1,q2,q3⟩,LK,lZ⟩:=h.bK id' v false _ cV
 have hp':β id'=some pl':=hp'
 have hp:β id'=some pl:=hp
 rw[hp']at hp
 obtain rfl:pl'=pl:=by simpa using hp
 have hh:w.heap[pl'.b]? =some (.loop r):=hh
 have AM:rN (s.env w g β) (.yl id' v::(args.toList.map s.ev++f0.list)) (.func (.yield pl'.b) #[] #[]::(args.toList.map a.eval++r.tmps.toList)):=
  ⟨by rw[<-Ul,<-KC];exact h.ev F,(h.VT args.toList).append LK.ZB⟩
 have hr:(execOp a.eval o).run P w= .ok (.round pl'.b r.fn ((c0.ps.zip (args.toList.map a.eval).toArray).foldl (λtmps (t,a)=>tmps.setIfInBounds t a) r.tmps.toList.toArray) c0.as c0.b) w:=by
  have e1:execOp a.eval o=(do let d <-resolve a.eval {callee:= .value F,args,argTypes:=tys} o.type;invoke d.target d.args):=by simp only[execOp,ho]
  have e2:=run_yield (P:=P) (args:=args.map a.eval) hh (by simpa[q1]using ou)
  rw[q1,q2,q3]at e2
  rw[e1]
  simp only[resolve,Ul,Deferred.ofValue,Sem.run_bind,Sem.run_pure,Result.andThen_ok,invoke]
  have e3:(args.toList.map a.eval).toArray=args.map a.eval:=by apply gq;simp
  rw[e3]
  simpa using e2
 unfold AS.call at he
 obtain⟨r2,h1,h2⟩:=ak.1 he
 obtain⟨g',i1,e1,_,f1⟩:=gf r2.2 h
 obtain⟨x,hx,k1,k2,key⟩:=yF i1 (uM _ _) (uB rfl h.bK e1 _ _ _ r2 AM h1 f1) h2
 refine .inr (.inr (.inr ⟨pl'.b,r.fn,_,c0.as,c0.b,w,hr,λrd n=> ?_⟩))
 have:=hd.2 hy _ _ _ _ _ _ x k1 k2 hx pl'.b (args.toList.map a.eval) r.tmps.toList r.fn rd n rfl (by rw[<-Vi];simpa using ou)
 rw[<-Vi]at this
 exact this.mono λe w' ⟨v,he,ha⟩=>⟨v,he,key v w' ha⟩
end
end Go.Ab
namespace Go.Ab
section
variable {P:Program} {C:Ctx} {g:Nat->kY} {β:Id->Option Pl} {s:AS} {a:Act} {w:World} {o:Oper}
theorem jv{b:Builtin}{args:Array Operand}{ts:Array TypeId}{F:TypeId->Array Value->Sem Value}{x:Value}{w':World}{s':AS}(ho:o.op= .call {callee:= .builtin b,args,argTypes:=ts})
  (hb:∀ty cs xs,builtin b ts ty cs xs=(do pure (.value (<-F ty xs)))) (hf:∀ty,(F ty (args.map a.eval)).run P w= .ok x w') (h2:∃g' β',Inv C g' β' s' (a.put o.dst x) w'):fM P o a w (iE C s'):=by
 refine .inl ⟨x,w',?_,h2⟩
 simp only[execOp,ho,resolve,Sem.run_bind,Sem.run_pure,Result.andThen_ok,invoke]
 rw[hb,Sem.run_bind,hf]
 rfl
theorem HR(h:Inv C g β s a w){src dst:TypeId}{x:Operand}(ho:o.op= .convert src dst x){id:Id}{ver:Nat}(hx:s.ev x= .ptr id ver [] 0){v:av}(he:(Df P s src dst id ver).eval=some v):fM P o a w (iE C (s.put o.dst v)):=by
 have hv:=h.ev x
 rw[hx]at hv
 obtain⟨ad,hy,hb,hc⟩:=pd hv
 have fin:v= .ptr id ver [] 0->(convert src dst (a.eval x)).run P w= .ok (a.eval x) w->fM P o a w (iE C (s.put o.dst v)):=by
  intro h1 h2
  subst h1
  exact h.value hv (eg (f:=convert src dst (a.eval x)) (by simp only[execOp,ho]) h2)
 unfold Df at he
 split at he
 ·rename_i v0 fr e c kr
  have cV:=eH kr
  obtain⟨pl',cur,e',hp',hh,hg,hk,hV⟩:=(h.bK id v0 fr _ cV).box rfl
  have hk:e'=e:=hk
  subst hk
  have hV:V (s.env w g β) c (cur.toList.take cur.size):=hV
  rw[<-cO,dh]at hV
  have hh:w.heap[pl'.b]? =some (.cells cur e' (0,0)):=hh
  have ou:=hV.size
  have ou:cur.toList.length=c.size:=ou
  have MM:w.shape? pl'.b=some (e',c.size):=by simp only[World.shape?,hh];rw[<-ou];simp
  have hp':β id=some pl':=hp'
  split at he
  ·rename_i t hS hD
   obtain⟨h1,h2⟩:=ay.1 he
   have h2:=ao.1 h2
   simp only[aj,beq_iff_eq,cC,beq_eq_false_iff_ne]at h1
   obtain⟨⟨rfl,h3⟩,h4⟩:=h1
   obtain⟨pl,hp,rfl⟩:=hc ⟨fr,_,cV⟩
   have hp:β id=some pl:=hp
   rw[hp']at hp
   obtain rfl:pl'=pl:=by simpa using hp
   refine fin h2.symm ?_
   rw[hy]
   cases hi:P.info? t with
   |none=>exact absurd (by simp[Program.cellsOf,hi]) h3
   |some j=>
    have hj:j.size≠0:=by rw[<-lg hi]at*;exact h3
    exact Go.Lib.run_to_unsafe w _ hS hD hi hj MM (by show 0 < c.size;omega)
  ·rename_i u hS hD
   obtain⟨h1,h2⟩:=ay.1 he
   have h2:=ao.1 h2
   simp only[aj,beq_iff_eq,cC,beq_eq_false_iff_ne]at h1
   obtain⟨⟨rfl,h3⟩,h4⟩:=h1
   obtain⟨pl,hp,rfl⟩:=hc ⟨fr,_,cV⟩
   have hp:β id=some pl:=hp
   rw[hp']at hp
   obtain rfl:pl'=pl:=by simpa using hp
   refine fin h2.symm ?_
   rw[hy]
   cases hi:P.info? u with
   |none=>exact absurd (by simp[Program.cellsOf,hi]) h3
   |some j=>exact Go.Lib.run_from_unsafe w _ hS hD hi MM h4
  ·simp only[ai]at he
 ·simp only[ai]at he
theorem Mx(h:Inv C g β s a w){T U:TypeId}{op:BinOp}{x y:Operand}(ho:o.op= .binOp op T x y U){i j:Id}{v1 v2:Nat}(hx:s.ev x= .ptr i v1 [] 0)(hy:s.ev y= .ptr j v2 [] 0){v:av}(he:(SE P s T op i v1 j v2).eval=some v):
  fM P o a w (iE C (s.put o.dst v)):=by
 unfold SE at he
 split at he
 ·rename_i v' fr c kr
  obtain⟨h1,h2⟩:=ay.1 he
  simp only[aj,beq_iff_eq,decide_eq_true_eq]at h1
  obtain⟨⟨⟨rfl,rfl⟩,rfl⟩,SQ⟩:=h1
  have cV:=eH kr
  have AT:=h.ev x
  have P8:=h.ev y
  rw[hx]at AT
  rw[hy]at P8
  obtain⟨ad,Tx,_,hc⟩:=pd AT
  obtain⟨ad',Tz,_,hc'⟩:=pd P8
  obtain⟨pl,hp,rfl⟩:=hc ⟨fr,c,cV⟩
  obtain⟨pl',hp',rfl⟩:=hc' ⟨fr,c,cV⟩
  rw[hp]at hp'
  obtain rfl:pl=pl':=by simpa using hp'
  have hT:∃t j,P.underlying T=some (.pointer t)/\P.info? t=some j:=by
   unfold Uz at SQ
   split at SQ
   ·rename_i t ht
    obtain⟨j,hj⟩:=bY.1 SQ
    exact⟨t,j,ht,hj⟩
   ·cases SQ
  obtain⟨t,j,hT,hj⟩:=hT
  have hq:(Op.equal T (.pointer (some ⟨pl.b,0,none⟩)) (.pointer (some ⟨pl.b,0,none⟩))).run P w= .ok true w:=
   fu λd=>by simp[Op.equalIn,run_underlying hT,sizeOf,typeInfo,hj,run_sameAddr_same]
  have YJ:(eqGuard op T x y (a.eval x) (a.eval y)).run P w= .ok () w:=by rw[Tx,Tz];exact lF (by simp) rfl
  have fin:∀z,(binOp op T (a.eval x) (a.eval y)).run P w= .ok z w->VS (s.env w g β) v z->fM P o a w (iE C (s.put o.dst v)):=by
   intro z h1 h3
   refine h.value h3 ?_
   simp[execOp,ho,h1,YJ]
  split at h2
  ·obtain rfl:=ao.1 h2
   refine fin (.bool true) ?_ (po true)
   rw[Tx,Tz]
   simp[binOp,hq]
  ·obtain rfl:=ao.1 h2
   refine fin (.bool false) ?_ (po false)
   rw[Tx,Tz]
   simp[binOp,hq]
  ·simp only[ai]at h2
 ·simp only[ai]at he
theorem PJ{c:Call}{b:Builtin}{x:Operand}(hc:c.callee= .builtin b)(ha:c.args.toList=[x]):c= {callee:= .builtin b,args:= #[x],argTypes:=c.argTypes}:=by
 obtain⟨cal,args,tys⟩:=c
 simp only at hc ha
 have ha':args= #[x]:=by apply gq;simpa using ha
 subst hc ha'
 rfl
theorem Jd{c:Call}{b:Builtin}{x y:Operand}(hc:c.callee= .builtin b)(ha:c.args.toList=[x,y]):c= {callee:= .builtin b,args:= #[x,y],argTypes:=c.argTypes}:=by
 obtain⟨cal,args,tys⟩:=c
 simp only at hc ha
 have ha':args= #[x,y]:=by apply gq;simpa using ha
 subst hc ha'
 rfl
theorem Xl{ts:Array TypeId}{T:TypeId}(h:ts.toList=[T]):ts= #[T]:=by apply gq;simpa using h
theorem R9{ts:Array TypeId}{T U:TypeId}(h:ts.toList=[T,U]):ts= #[T,U]:=by apply gq;simpa using h
theorem Mj(h:Inv C g β s a w){c:Call}{x:Operand}{T e:TypeId}(ho:o.op= .call c)(hc:c.callee= .builtin .cap)(ha:c.args.toList=[x])(ht:c.argTypes.toList=[T])(hx:s.ev x= .di)(hT:P.underlying T=some (.slice e)):
  fM P o a w (iE C (s.put o.dst (.d (.int .i64) (0:Int)))):=by
 rw[PJ hc ha,Xl ht]at ho
 have hv:=h.ev x
 rw[hx]at hv
 have hy:=kg hv
 refine jv ho (F:=λty xs=>Builtin.cap_ #[T] ty xs) (λty cs xs=>rfl) (x:= .int .i64 0) (w':=w) (λty=> ?_) ⟨g,β,h.put o.dst (kj _ _)⟩
 simp[Builtin.cap_,run_underlying hT,hy,goInt]
theorem G5(h:Inv C g β s a w){c:Call}{x:Operand}{id:Id}{ver len:Nat}(ho:o.op= .call c)(hc:c.callee= .builtin .unsafeSliceData)(ha:c.args.toList=[x])(hx:s.ev x= .aS id ver [] 0 0 len)(hl:0 < len):
  fM P o a w (iE C (s.put o.dst (.ptr id ver [.idx 0] 0))):=by
 rw[PJ hc ha]at ho
 have hv:=h.ev x
 rw[hx]at hv
 obtain⟨ad,cap,hy,xp,hs,hb,fB⟩:=np hv
 obtain⟨ad,rfl⟩:=bY.1 (hs hl)
 refine jv ho (F:=λty xs=>Builtin.unsafeSliceData_ c.argTypes ty xs) (λty cs xs=>rfl) (x:= .pointer (some ad)) (w':=w) (λty=> ?_) ⟨g,β,h.put o.dst ?_⟩
 ·rw[show(#[x].map a.eval)= #[a.eval x] by simp,hy]
  exact Go.Lib.run_unsafeSliceData_row w _ _ _ _ _ (by omega)
 ·refine⟨[.pointer (some ad)],?_,rfl⟩
  simp only[V]
  refine⟨ad,rfl,hb,λhc=> ?_⟩
  have h1:=fB hc
  cases hp:(s.env w g β).β id with
  |none=>rw[hp]at h1;simp only at h1;cases h1.1
  |some pl=>
   rw[hp]at h1
   simp only at h1
   exact⟨pl,rfl,by simpa using h1.1 (.inl hl)⟩
theorem Gt(h:Inv C g β s a w){c:Call}{mx:Bool}(ho:o.op= .call c)(hc:c.callee= .builtin (if mx then .max else .min)){v:av}(he:(KV mx (c.args.toList.map s.ev)).eval=some v):fM P o a w (iE C (s.put o.dst v)):=by
 unfold KV at he
 split at he
 ·rename_i k x k' y zi
  obtain⟨h1,h2⟩:=ay.1 he
  obtain rfl:=ao.1 h2
  have h1:k=k':=by simpa using h1
  subst h1
  have MD:∃p q,c.args.toList=[p,q]/\s.ev p= .d (.int k) x/\s.ev q= .d (.int k) y:=by
   match hh:c.args.toList,zi with
   |[p,q],zi=>simp only[bX,ij,ed]at zi;exact⟨p,q,rfl,zi.1,zi.2.1⟩
   |[],zi=>simp at zi
   |[_],zi=>simp at zi
   |_::_::_::_,zi=>simp at zi
  obtain⟨p,q,ha,hp,hq⟩:=MD
  rw[Jd hc ha]at ho
  have Ry:=h.ev p
  have P7:=h.ev q
  rw[hp]at Ry
  rw[hq]at P7
  have ep:=oZ Ry
  have eq:=oZ P7
  cases mx with
  |true=>
   refine jv ho (F:=λty xs=>Builtin.max_ c.argTypes ty xs) (λty cs xs=>rfl) (x:= .int k (if x < y then y else x)) (w':=w) (λty=> ?_) ⟨g,β,h.put o.dst (kj _ _)⟩
   rw[show(#[p,q].map a.eval)= #[a.eval p,a.eval q] by simp,ep,eq]
   simp[Builtin.max_,Builtin.max2]
  |false=>
   refine jv ho (F:=λty xs=>Builtin.min_ c.argTypes ty xs) (λty cs xs=>rfl) (x:= .int k (if y < x then y else x)) (w':=w) (λty=> ?_) ⟨g,β,h.put o.dst (kj _ _)⟩
   rw[show(#[p,q].map a.eval)= #[a.eval p,a.eval q] by simp,ep,eq]
   simp[Builtin.min_,Builtin.min2]
 ·rename_i k x k' y k2 z zi
  obtain⟨h1,h2⟩:=ay.1 he
  obtain rfl:=ao.1 h2
  simp only[aj,decide_eq_true_eq]at h1
  obtain⟨rfl,rfl⟩:=h1
  have MD:∃p q r,c.args.toList=[p,q,r]/\s.ev p= .d (.int k) x/\s.ev q= .d (.int k) y/\s.ev r= .d (.int k) z:=by
   match hh:c.args.toList,zi with
   |[p,q,r],zi=>simp only[bX,ij,ed]at zi;exact⟨p,q,r,rfl,zi.1,zi.2.1,zi.2.2.1⟩
   |[],zi=>simp at zi
   |[_],zi=>simp at zi
   |[_,_],zi=>simp at zi
   |_::_::_::_::_,zi=>simp at zi
  obtain⟨p,q,r,ha,hp,hq,hr⟩:=MD
  have PQ:c= {callee:= .builtin (if mx then .max else .min),args:= #[p,q,r],argTypes:=c.argTypes}:=by
   obtain⟨cal,args,tys⟩:=c
   simp only at hc ha
   have ha':args= #[p,q,r]:=by apply gq;simpa using ha
   subst hc ha'
   rfl
  rw[PQ]at ho
  have Ry:=h.ev p
  have P7:=h.ev q
  have Ib:=h.ev r
  rw[hp]at Ry
  rw[hq]at P7
  rw[hr]at Ib
  have ep:=oZ Ry
  have eq:=oZ P7
  have er:=oZ Ib
  cases mx with
  |true=>
   refine jv ho (F:=λty xs=>Builtin.max_ c.argTypes ty xs) (λty cs xs=>rfl) (x:= .int k (if(if x < y then y else x) < z then z else(if x < y then y else x))) (w':=w) (λty=> ?_) ⟨g,β,h.put o.dst (kj _ _)⟩
   rw[show(#[p,q,r].map a.eval)= #[a.eval p,a.eval q,a.eval r] by simp,ep,eq,er]
   simp[Builtin.max_,Builtin.max2]
  |false=>
   refine jv ho (F:=λty xs=>Builtin.min_ c.argTypes ty xs) (λty cs xs=>rfl) (x:= .int k (if z < (if y < x then y else x) then z else(if y < x then y else x))) (w':=w) (λty=> ?_) ⟨g,β,h.put o.dst (kj _ _)⟩
   rw[show(#[p,q,r].map a.eval)= #[a.eval p,a.eval q,a.eval r] by simp,ep,eq,er]
   simp[Builtin.min_,Builtin.min2]
 ·simp only[ai]at he
theorem Cv(z:Array Value)(n:Nat):Builtin.zeroCells z n=madeCells z (n*z.size):=rfl
theorem Kx(h:Inv C g β s a w){c:Call}{x y:Operand}{T X:TypeId}{k:IntKind}{n:Int}(ho:o.op= .call c)(hc:c.callee= .builtin .append)(ha:c.args.toList=[x,y])(ht:c.argTypes.toList=[T,X])(hx:s.ev x= .di)(hy:s.ev y= .d (.int k) n){s':AS}
  (he:(F3 P s o.dst T X n).eval=some s'):fM P o a w (iE C s'):=by
 rw[Jd hc ha,R9 ht]at ho
 have AT:=h.ev x
 have P8:=h.ev y
 rw[hx]at AT
 rw[hy]at P8
 have ex:=kg AT
 have ey:=oZ P8
 unfold F3 at he
 split at he
 ·rename_i e t b q kn vK hd hX
  obtain⟨hT,hz,i,zv,hi,KE,Rg,Hs,KI⟩:=so vK
  obtain⟨hq,h2⟩:=ay.1 he
  obtain⟨h3,h4⟩:=bO.1 h2
  obtain rfl:=ao.1 h4
  simp only[aj,decide_eq_true_eq,dZ]at h3
  obtain⟨h5,h7,h8⟩:=h3
  obtain⟨m,rfl⟩:=Int.eq_ofNat_of_zero_le (Int.le_of_lt h5)
  simp only[aa]at h7 h8 ⊢
  have SX:zv.cells.size=t.size:=by have:=(KI (s.env w g β)).size;simpa using this
  have hr:=λty=>Go.Lib.run_append_nil_zeros (P:=P) w T X ty e i zv k kn hT hX hi Hs m (by omega) (by rw[KE];exact hz) (by omega) (by rw[Rg];omega)
  obtain⟨cap,xp⟩:∃cap,grownCap w m 0 e=cap:=⟨_,rfl⟩
  have c1:m<=cap:=by rw[<-xp];exact grownCap_ge _ _ _ _
  have c2:cap<=maxLen:=by rw[<-xp];exact grownCap_le_maxLen _ _ _ _ (by unfold maxLen;omega)
  rw[xp]at hr
  obtain⟨cur,fB⟩:∃cur,Builtin.zeroCells zv.cells m++Builtin.zeroCells zv.cells (cap - m)=cur:=⟨_,rfl⟩
  rw[fB]at hr
  have s1:cur.size=cap*t.size:=by
   rw[<-fB,Array.size_append,rI,rI,SX,<-eM]
   congr 1
   omega
  have uG:=oG (KI (s.env w.drew g β)) m
  have s2:cur.toList.take (m*t.size)=(madeCells zv.cells (m*t.size)).toList:=by
   rw[<-fB,bW,Cv,SX]
   have hl:(madeCells zv.cells (m*t.size)).toList.length=m*t.size:=by simp[size_madeCells]
   rw[jb (by omega),bk (by omega)]
  obtain⟨g2,β2,i2,zg⟩:=(h.drew).EP hq (e:=e) (l:=List.replicate m t.zero) (cur:=cur) (cap:=cap) hz (by rw[dg,s2];exact uG) s1 (by rw[dg];exact c1) c2
  rw[dg]at zg
  refine jv ho (F:=λty xs=>Builtin.append_ #[T,X] ty xs) (λty cs xs=>rfl) (λty=> ?_) ⟨g2,β2,i2.put o.dst zg⟩
  rw[show(#[x,y].map a.eval)= #[a.eval x,a.eval y] by simp,ex,ey]
  exact hr ty
 ·simp only[ai]at he
theorem DS:∀(xs:List Int) (a:Addr) (acc:ByteArray),(∀j x,xs[j]? =some x->w.cell? (a.add j)=some (.int .u8 x))->
  (loadBytes a acc xs.length).run P w= .ok ⟨acc.data++(xs.map λn=>UInt8.ofNat n.toNat).toArray⟩ w
 |[],a,acc,_=>by simp[loadBytes]
 |x::l,a,acc,h=>by
  have h0:w.cell? a=some (.int .u8 x):=by
   have:=h 0 x rfl
   simpa[Addr.add]using this
  have ih:=DS l (a.add 1) (acc.push x.toNat.toUInt8) (λj y hy=>by
   have:=h (j+1) y (by simpa using hy)
   have e:(a.add 1).add j=a.add (j+1):=by
    unfold Addr.add
    by_cases hj:j=0
    ·subst hj;simp
    ·simp[hj];omega
   rw[e];exact this)
  simp only[aB,loadBytes,Sem.run_bind,run_load,h0,Result.andThen]
  rw[ih]
  congr 1
  apply ByteArray.ext
  simp[ByteArray.push]
theorem Lu(h:Inv C g β s a w){c:Call}{x y:Operand}{T U:TypeId}{id:Id}{ver:Nat}{n:Int}(ho:o.op= .call c)(hc:c.callee= .builtin .unsafeString)(ha:c.args.toList=[x,y])(ht:c.argTypes.toList=[T,U])
  (hx:s.ev x= .ptr id ver [.idx 0] 0) (hy:s.ev y= .d (.int .i64) n) {s':AS} (he:(Hf P s o.dst T id ver n).eval=some s'):fM P o a w (iE C s'):=by
 rw[Jd hc ha,R9 ht]at ho
 have AT:=h.ev x
 rw[hx]at AT
 obtain⟨ad,Tx,_,YB⟩:=pd AT
 have P8:=h.ev y
 rw[hy]at P8
 have Tz:=oZ P8
 unfold Hf at he
 split at he
 ·rename_i v e l u kr hT
  obtain⟨h1,h2⟩:=ay.1 he
  obtain⟨h3,h4⟩:=bO.1 h2
  obtain rfl:=ao.1 h4
  simp only[aj,beq_iff_eq]at h1
  obtain⟨⟨rfl,rfl⟩,Q9⟩:=h1
  simp only[decide_eq_true_eq]at h3
  obtain⟨h5,h6⟩:=h3
  obtain⟨n,rfl⟩:=Int.eq_ofNat_of_zero_le (Int.le_of_lt h5)
  have h6:n<=(l:List Int).length:=by omega
  have cV:=eH kr
  obtain⟨pl,hp,rfl⟩:=YB ⟨false,_,cV⟩
  have hp:β id=some pl:=hp
  have hO:pE (s.env w g β) id false (.vec u (.int .u8) l):=h.bK id v false _ cV
  obtain⟨hz,hO⟩:=hO
  have hO:(match β id with
   |none=>l=[]
   |some pl=>∃cur k,w.heap[pl.b]? =some (.cells cur u (0,0))/\cur.size=pl.cap*(Ty.int .u8).size/\(l:List Int).length<=pl.cap/\pl.cap<=maxLen/\g pl.b= .own (.id id) k/\
     k<=(l:List Int).length*(Ty.int .u8).size/\(false=false->k=0)/\bj (dm (s.env w g β) (.int .u8)) (cur.toList.take ((l:List Int).length*(Ty.int .u8).size)) l):=hO
  rw[hp]at hO
  obtain⟨cur,k,q1,q2,q3,q4,q5,q6,q7,q8⟩:=hO
  have hk:=q7 rfl
  subst hk
  have Rp:(Ty.int .u8).size=1:=rfl
  rw[Rp,jA]at q2 q8
  have zh:=pH q8
  have MM:w.shape? pl.b=some (u,cur.size):=by simp only[World.shape?,q1]
  have sM:∀j z,((l:List Int).take n)[j]? =some z->w.cell? ((⟨pl.b,0,none⟩:Addr).add j)=some (.int .u8 z):=λj z hj=>by
   rw[dp]at hj
   split at hj
   ·rename_i XX
    have Ri:j < (l:List Int).length:=by omega
    rw[Addr.add_lit,aI]
    simp only[World.cell?,q1]
    have:(cur.toList.take (l:List Int).length)[j]? =some (.int .u8 z):=by rw[zh,fj,hj];rfl
    rw[dp,if_pos Ri]at this
    simpa using this
   ·cases hj
  have hlen:((l:List Int).take n).length=n:=by rw[bQ];omega
  have Rl:=DS (P:=P) (w:=w) ((l:List Int).take n) ⟨pl.b,0,none⟩ .empty sM
  rw[hlen]at Rl
  have T0:=Go.Lib.liesAt_bytes (P:=P) (e:=u) (by simpa using Q9) (cur.size / P.cellsOf u) n (by
   rw[show P.cellsOf u=1 by simpa using Q9,Nat.div_one];omega)
  have TQ:∃w',w.freeze ⟨pl.b,0,none⟩ n=w'/\w'.os=w.os/\w'.tape=w.tape/\(w'.output=w.output/\w.drawn<=w'.drawn)/\w'.heap.size=w.heap.size/\∀b',b'≠pl.b->w'.heap[b']? =w.heap[b']? :=by
   refine⟨_,rfl,?_⟩
   unfold World.freeze
   rw[if_neg (by omega)]
   refine⟨rfl,rfl,⟨rfl,aw _⟩,by simp,λb' hb'=> ?_⟩
   simp only[gA]
   rw[if_neg (λe=>hb' e.symm)]
  obtain⟨w',hw',f1,f2,f3,f4,f5⟩:=TQ
  have i1:=h.kill cV q5 f1 f2 f3 f4 f5
  have XJ:¬(9223372036854775807:Int) < (n:Int):=by unfold maxLen at q4;omega
  have Wr:¬(n:Int) < 0:=by omega
  have Rn:n≠0:=by omega
  have Wn:IntKind.i64.max=9223372036854775807:=rfl
  refine jv ho (F:=λty xs=>Builtin.unsafeString_ #[T,U] ty xs) (λty cs xs=>rfl) (x:= .string (fy ((l:List Int).take n))) (w':=w') (λty=> ?_) ⟨_,β,i1.put o.dst ⟨[.string (fy ((l:List Int).take n))],by simp only[V,dm];rfl,rfl⟩⟩
  rw[show(#[x,y].map a.eval)= #[a.eval x,a.eval y] by simp,Tx,Tz]
  have Ra:Builtin.unsafeString_ #[T,U] ty #[.pointer (some ⟨pl.b,0,none⟩),.int .i64 n]=
    (do
     let n <-Go.asInt (.int .i64 n)
     if n < 0 then runtimePanic (.error "unsafe.String: len out of range")
     if n > IntKind.i64.max then unsupported (.unsafePointer "String: a length above the largest int")
     if n=0 then pure (.string .empty)
     else if <-variablesAt ⟨pl.b,0,none⟩ (<-elemOf T) n.toNat then do
      let s <-loadBytes ⟨pl.b,0,none⟩ .empty n.toNat
      freeze ⟨pl.b,0,none⟩ n.toNat
      pure (.string s)
     else unsupported (.unsafePointer "String: not so many bytes at ptr")):=rfl
  rw[Ra]
  simp[Go.asInt,asIntOf,Wn,XJ,Wr,Rn,variablesAt,MM,elemOf,run_underlying hT,T0,Rl,hw',fy]
 ·simp only[ai]at he
end
end Go.Ab
namespace Go.Ab
section
variable {P:Program} {C:Ctx} {g:Nat->kY} {β:Id->Option Pl} {s:AS} {a:Act} {w:World} {o:Oper}
theorem Gq(h:Inv C g β s a w){c:Call}{T T2:TypeId}{m k:Operand}(dr:o.op= .call c)(hc:c.callee= .builtin .delete)(ha:c.args.toList=[m,k])(ht:c.argTypes.toList=[T,T2]){s':AS}(he:(tv P s T (s.ev m) (s.ev k)).eval=some s'):fM P o a w (iE C (s'.put o.dst .nil)):=by
 have dr:o.op= .call {callee:= .builtin .delete,args:= #[m,k],argTypes:= #[T,T2]}:=by rw[dr,Jd hc ha,R9 ht]
 unfold tv at he
 split at he
 ·rename_i K V' kt vt id ver hm hx
  obtain⟨l,h1,he⟩:=ak.1 he
  obtain⟨kx,h2,he⟩:=ak.1 he
  obtain⟨Rv,he⟩:=ay.1 he
  obtain rfl:=ao.1 he
  obtain⟨hT,hK,_⟩:=rW hm
  have AT:=h.ev m
  rw[hx]at AT
  obtain⟨fr,pl,es,clock,g1,g2,g3,g4,g5,g6,g7,gn⟩:=qL h h1 AT
  obtain⟨l0,g6,gp⟩:=g6
  have vV:=q9 depth K kt hK
  have hk:=tE (h.ev k) h2
  have PR:=mc (P:=P) (w:=w) es.isEmpty depth K kt hK 10000 (by decide) _ _ hk
  obtain⟨r,hf,hr⟩:=wD (P:=P) (w:=w) hK hk g6
  have fin:∀(es':Array MapEntry) (clock':Nat),(∀ty,(Builtin.delete_ #[T,T2] ty (#[m,k].map a.eval)).run P w= .ok (.tuple #[]) {w with heap:=w.heap.setIfInBounds pl.b (.map es' clock')})->Alike (s8 (s.env w g β) kt vt) es'.toList (kf kt kx l0)->l6 es'.toList clock'->
    fM P o a w (iE C ((s.aO id (.obj ver false (.mp kt vt (kf kt kx l)))).put o.dst .nil)):=λes' clock' mF MD TC=>
   jv (F:=λty xs=>Builtin.delete_ #[T,T2] ty xs) dr (λ_ _ _=>rfl) mF ⟨g,β,(h.NB g1 g2 g4 g5 ⟨_,MD,Bi vV gn gp⟩ (uQ vV gn) TC Rv).put o.dst rfl⟩
  cases r with
  |none=>
   simp only at hr
   refine fin es clock (λty=> ?_) (by simp only[kf,hr];exact g6) g7
   simp[Builtin.delete_,run_underlying hT,g3,Go.MapKept.run_getObj_map g4,PR,hf,Go.MapKept.run_setObj_map _ g4]
  |some u=>
   obtain⟨j,u⟩:=u
   obtain⟨e,m1,m2,rfl⟩:=hr
   refine fin (es.eraseIdxIfInBounds j) clock (λty=> ?_) ?_ (by rw[Array.toList_eraseIdxIfInBounds];exact g7.erase j)
   ·simp[Builtin.delete_,run_underlying hT,g3,Go.MapKept.run_getObj_map g4,PR,hf,Go.MapKept.run_setObj_map _ g4]
   ·simp only[kf,m1,Array.toList_eraseIdxIfInBounds]
    exact g6.erase j
 ·simp only[ai]at he
theorem Fw{Γ:mR}(hΓ:Sound P Γ){bK:List Nat}(h:Inv C g β s a w){s':AS}(he:(mN P Γ bK o s).eval=some s'):fM P o a w (iE C s'):=by
 unfold mN at he
 split at he
 ·rename_i x dr
  obtain rfl:=ao.1 he
  exact DA h (.inl dr)
 ·rename_i x dr
  obtain rfl:=ao.1 he
  exact DA h (.inr dr)
 ·rename_i c x y dr
  obtain⟨v,h1,h2⟩:=ak.1 he
  obtain rfl:=ao.1 h2
  exact Ld h dr h1
 ·rename_i T dr
  split at he
  ·rename_i z q hz hq
   obtain⟨h1,h2⟩:=ay.1 he
   obtain rfl:=ao.1 h2
   simp only[aj]at h1
   exact HD h dr h1.1 h1.2
  ·exact(ai.1 he).elim
 ·rename_i T x dr
  exact Mc h dr he
 ·rename_i T parts dr
  exact HK h dr he
 ·rename_i T n parts dr
  exact zK h dr he
 ·rename_i T x dr
  obtain⟨v,h1,h2⟩:=ak.1 he
  obtain rfl:=ao.1 h2
  exact KS h dr h1
 ·rename_i T x v dr
  obtain⟨v,h1,h2⟩:=ak.1 he
  obtain rfl:=ao.1 h2
  exact IX h dr h1
 ·rename_i x dr
  exact CR h dr he
 ·rename_i op T x y U dr
  split at he
  ·rename_i i v1 j v2 hx hy
   obtain⟨v,h1,h2⟩:=ak.1 he
   obtain rfl:=ao.1 h2
   exact Mx h dr hx hy h1
  ·obtain⟨v,h1,h2⟩:=ak.1 he
   obtain rfl:=ao.1 h2
   exact HG h dr h1
 ·rename_i op T x dr
  obtain⟨v,h1,h2⟩:=ak.1 he
  obtain rfl:=ao.1 h2
  exact Ly h dr h1
 ·rename_i T U x dr
  split at he
  ·rename_i id ver len hTU hx
   exact HQ h dr hx he
  ·rename_i id ver hx
   obtain⟨v,h1,h2⟩:=ak.1 he
   obtain rfl:=ao.1 h2
   exact HR h dr hx h1
  ·obtain⟨v,h1,h2⟩:=ak.1 he
   obtain rfl:=ao.1 h2
   exact Ei h dr h1
 ·rename_i T x dr
  exact IZ h dr he
 ·rename_i f first caps dr
  obtain⟨h1,h2⟩:=ay.1 he
  obtain rfl:=ao.1 h2
  simp only[aj]at h1
  exact CM h dr h1.1 h1.2
 ·rename_i T l c dr
  obtain⟨n,h1,h2⟩:=ak.1 he
  obtain⟨m,h3,h4⟩:=ak.1 h2
  exact Bg h dr h1 h3 h4
 ·rename_i T x lo hi dr
  obtain⟨v,h1,h2⟩:=ak.1 he
  obtain rfl:=ao.1 h2
  exact B7 h dr (.inl rfl) h1
 ·rename_i T x lo y m dr
  obtain⟨v',h0,h8⟩:=ak.1 he
  obtain rfl:=ao.1 h8
  obtain⟨hv,h1,h2⟩:=ak.1 h0
  obtain⟨mv,h3,h4⟩:=ak.1 h2
  obtain⟨h5,h6⟩:=bO.1 h4
  obtain⟨v,h7,h9⟩:=ak.1 h6
  obtain rfl:=ao.1 h9
  simp only[decide_eq_true_eq]at h5
  exact B7 h dr (.inr ⟨m,y,hv,mv,rfl,rfl,h1,h3,h5.1,h5.2.1,h5.2.2⟩) h7
 ·rename_i T x f dr
  obtain⟨v,h1,h2⟩:=ak.1 he
  obtain rfl:=ao.1 h2
  exact AE h dr h1
 ·rename_i T x f dr
  obtain⟨v,h1,h2⟩:=ak.1 he
  obtain rfl:=ao.1 h2
  exact HY h dr h1
 ·rename_i T x i dr
  obtain⟨n,h0,he⟩:=ak.1 he
  obtain⟨v,h1,h2⟩:=ak.1 he
  obtain rfl:=ao.1 h2
  exact AZ h dr h0 h1
 ·rename_i T x i dr
  obtain⟨n,h0,he⟩:=ak.1 he
  obtain⟨v,h1,h2⟩:=ak.1 he
  obtain rfl:=ao.1 h2
  exact Ic h dr h0 h1
 ·rename_i x i dr
  obtain⟨v,h1,h2⟩:=ak.1 he
  obtain rfl:=ao.1 h2
  exact En h dr h1
 ·rename_i T dr
  exact EL h dr he
 ·rename_i T x i ok dr
  obtain⟨v,h1,h2⟩:=ak.1 he
  obtain rfl:=ao.1 h2
  exact Gn h dr h1
 ·rename_i T m k x dr
  obtain⟨s1,h1,h2⟩:=ak.1 he
  obtain rfl:=ao.1 h2
  exact Gs h dr h1
 ·rename_i c dr
  split at he
  ·rename_i hc
   split at he
   ·rename_i m k T T2 ha ht
    obtain⟨s1,h1,h2⟩:=ak.1 he
    obtain rfl:=ao.1 h2
    exact Gq h dr hc ha ht h1
   ·exact(ai.1 he).elim
  ·rename_i hc
   split at he
   ·rename_i x y T X ha ht
    exact Kq h dr hc ha ht he
   ·exact(ai.1 he).elim
  ·rename_i hc
   split at he
   ·rename_i x T ha ht
    obtain⟨v,h1,h2⟩:=ak.1 he
    obtain rfl:=ao.1 h2
    exact M4 h dr hc ha ht h1
   ·exact(ai.1 he).elim
  ·rename_i hc
   split at he
   ·rename_i x y T X ha ht
    split at he
    ·rename_i k n hx hy
     exact Kx h dr hc ha ht hx hy he
    ·exact Fx h dr hc ha ht he
   ·exact(ai.1 he).elim
  ·rename_i hc
   split at he
   ·rename_i x T ha ht
    split at he
    ·rename_i e hx hT
     obtain rfl:=ao.1 he
     exact Mj h dr hc ha ht hx hT
    ·exact(ai.1 he).elim
   ·exact(ai.1 he).elim
  ·rename_i hc
   obtain⟨v,h1,h2⟩:=ak.1 he
   obtain rfl:=ao.1 h2
   exact Gt (mx:=true) h dr hc h1
  ·rename_i hc
   obtain⟨v,h1,h2⟩:=ak.1 he
   obtain rfl:=ao.1 h2
   exact Gt (mx:=false) h dr hc h1
  ·rename_i hc
   split at he
   ·rename_i x ha
    split at he
    ·rename_i id ver len hx
     obtain⟨h1,h2⟩:=bO.1 he
     obtain rfl:=ao.1 h2
     exact G5 h dr hc ha hx (by simpa using h1)
    ·exact(ai.1 he).elim
   ·exact(ai.1 he).elim
  ·rename_i hc
   split at he
   ·rename_i x y T U ha ht
    split at he
    ·rename_i id ver n hx hy
     exact Lu h dr hc ha ht hx hy he
    ·exact(ai.1 he).elim
   ·exact(ai.1 he).elim
  ·rename_i F hc
   split at he
   ·rename_i f caps hF
    split at he
    ·rename_i en LI
     obtain⟨iv,he⟩:=ay.1 he
     exact Kk h dr hc hF ((hΓ f _ en LI).1 iv) he
    ·exact(ai.1 he).elim
   ·exact(ai.1 he).elim
  ·exact(ai.1 he).elim
 ·exact(ai.1 he).elim
end
end Go.Ab
namespace Go.Ab
def mV(P:Program)(ops:Array Oper)(o:Oper)(a:Act)(w:World)(K:Act->World->Prop):Prop:=
 if Region.wanted o (yielded ops a.tmps) then fM P o a w K else K (a.put o.dst undef) w
theorem mV.mono{P:Program}{ops:Array Oper}{o:Oper}{a:Act}{w:World}{K K':Act->World->Prop}(h:mV P ops o a w K)(hk:∀a w,K a w->K' a w):mV P ops o a w K':=by
 unfold mV at*
 split
 ·rename_i hw;rw[if_pos hw]at h;exact h.mono hk
 ·rename_i hw;rw[if_neg hw]at h;exact hk _ _ h
theorem fM.some{P:Program}{o:Oper}{a:Act}{w:World}{K:Act->World->Prop}(h:fM P o a w K):∃a' w',K a' w':=by
 rcases h with⟨x,w',_,h⟩ | ⟨w',_,h⟩ | ⟨f,args,w',_,h⟩ | ⟨l,f,tmps,as,b,w',_,h⟩
 ·exact⟨_,_,h⟩
 ·exact⟨_,_,h⟩
 ·obtain⟨e,w'',_,⟨x,_,hx⟩,_⟩:=h []
  exact⟨_,_,hx⟩
 ·obtain⟨e,w'',⟨x,_,hx⟩,_⟩:=(h none 0).2 default [] (room_wide _)
  exact⟨_,_,hx⟩
theorem mV.some{P:Program}{ops:Array Oper}{o:Oper}{a:Act}{w:World}{K:Act->World->Prop}(h:mV P ops o a w K):∃a' w',K a' w':=by
 unfold mV at h
 split at h
 ·exact h.some
 ·exact⟨_,_,h⟩
theorem mV.wpListIn{r:Option Nat}{n:Nat}{P:Program}{ops:Array Oper}{o:Oper}{a:Act}{w:World}{Q:Exit->Act->World->Prop}{l:List Oper}(h:mV P ops o a w (wpListIn (Fr r) n P ops Q l)):Go.wpListIn (Fr r) n P ops Q (o::l) a w:=by
 unfold mV at h
 unfold Go.wpListIn
 split
 ·rename_i hw;rw[if_pos hw]at h;exact h.wpIn
 ·rename_i hw;rw[if_neg hw]at h;exact⟨λ_ _=>trivial,h⟩
theorem mV.wpOpIn{r:Option Nat}{n:Nat}{P:Program}{ops:Array Oper}{o:Oper}{i:Nat}{a:Act}{w:World}{Q:Exit->Act->World->Prop}{K:Act->World->Prop}(ho:ops[i]? =Option.some o)(h:mV P ops o a w K):Go.wpOpIn (Fr r) n P ops Q i K a w:=by
 unfold mV at h
 unfold Go.wpOpIn
 simp only[ho]
 split
 ·rename_i hw;rw[if_pos hw]at h;exact h.wpIn
 ·rename_i hw;rw[if_neg hw]at h;exact⟨λ_ _=>trivial,h⟩
theorem Nt{s:AS}{q:Nat}{v:av}(h:s.slot q=v)(hq:q < s.cr.length):s.put (some q) v=s:=by
 have hv:s.cr[q]=v:=by simpa[AS.slot,aA,hq]using h
 simp only[AS.put]
 rw[<-hv,gB]
theorem JW{s:AS}{q:Nat}{t:Ty}{x:t.den}(h:s.slot q= .d t x):q < s.cr.length:=by
 rcases mC q s.cr.length with h' | h'
 ·exact h'
 ·simp[AS.slot,aA,dM h']at h
def vJ(P:Program)(Γ:mR)(bK:List Nat)(ops:Array Oper)(o:Oper)(s:AS):Option AS:=
 match o.guard with
 |none=>(mN P Γ bK o s).eval
 |some (j,want)=>match(ops[j]?).bind (·.dst) with
  |some q=>match s.slot q with
   | .d .bool b=>if b=want then(mN P Γ bK o s).eval else some (s.put o.dst .nil)
   | .nil=>some (s.put o.dst .nil)
   |_=>none
  |none=>none
theorem F2{R:Type}{P:Program}{Γ:mR}{bK:List Nat}{ops:Array Oper}{o:Oper}{s:AS}{k:AS->Option R}{r:R}(h:OJ P Γ bK ops o s k=some r):∃s',vJ P Γ bK ops o s=some s'/\k s'=some r:=by
 unfold OJ at h
 unfold vJ
 split at h
 ·rename_i hg
  simp only[hg]
  exact js.1 h
 ·rename_i j want hg
  simp only[hg]
  split at h
  ·rename_i q hq
   simp only[hq]
   split at h
   ·rename_i b hb
    have e:=Nt hb (JW hb)
    simp only[hb]
    cases want <;> cases b <;> simp only[aP]at h <;> rw[e]at h
    ·obtain⟨s',h1,h2⟩:=js.1 h
     exact⟨s',by simpa using h1,h2⟩
    ·exact⟨_,by simp,h⟩
    ·exact⟨_,by simp,h⟩
    ·obtain⟨s',h1,h2⟩:=js.1 h
     exact⟨s',by simpa using h1,h2⟩
   ·rename_i hb
    simp only[hb]
    exact⟨_,rfl,h⟩
   ·cases h
  ·cases h
section
variable {P:Program} {C:Ctx} {g:Nat->kY} {β:Id->Option Pl} {s:AS} {a:Act} {w:World} {o:Oper}
theorem I6(h:Inv C g β s a w){ops:Array Oper}{j q:Nat}{b:Bool}(hq:(ops[j]?).bind (·.dst)=some q)(hb:s.slot q= .d .bool b):yielded ops a.tmps j=some b:=by
 have hv:=h.cr q
 rw[hb]at hv
 have hv:=zY hv
 have hl:=JW hb
 rw[<-h.size]at hl
 unfold yielded
 rw[hq,Option.bind_some]
 have:a.tmps[q]? =some (.bool b):=by
  rw[fp hl]
  simpa[Array.getD,hl]using hv
 rw[this]
theorem Hn(h:Inv C g β s a w){ops:Array Oper}{j q:Nat}(hq:(ops[j]?).bind (·.dst)=some q)(hb:s.slot q= .nil):yielded ops a.tmps j=none:=by
 have hv:=h.cr q
 rw[hb]at hv
 have hv:a.tmps.getD q undef= .tuple #[]:=hv
 unfold yielded
 rw[hq,Option.bind_some]
 split
 ·rename_i b hb
  rw[cJ,hb]at hv
  cases hv
 ·rfl
theorem Dr{Γ:mR}(hΓ:Sound P Γ){bK:List Nat}{ops:Array Oper}(h:iE C s a w){s':AS}(he:vJ P Γ bK ops o s=some s'):mV P ops o a w (iE C s'):=by
 obtain⟨g,β,h⟩:=h
 unfold vJ at he
 unfold mV
 split at he
 ·rename_i hg
  have:Region.wanted o (yielded ops a.tmps)=true:=by simp[Region.wanted,hg]
  rw[if_pos this]
  exact Fw hΓ h he
 ·rename_i j want hg
  split at he
  ·rename_i q hq
   split at he
   ·rename_i b hb
    have hy:=I6 h hq hb
    have hw:Region.wanted o (yielded ops a.tmps)=(b==want):=by simp[Region.wanted,hg,hy]
    rw[hw]
    by_cases e:b=want
    ·rw[if_pos e]at he
     rw[if_pos (by simp[e])]
     exact Fw hΓ h he
    ·rw[if_neg e]at he
     rw[if_neg (by simp[e])]
     simp only[aq]at he
     subst he
     exact⟨g,β,h.put o.dst rfl⟩
   ·rename_i hb
    have hy:=Hn h hq hb
    have hw:Region.wanted o (yielded ops a.tmps)=false:=by simp[Region.wanted,hg,hy]
    rw[hw,if_neg (by simp)]
    simp only[aq]at he
    subst he
    exact⟨g,β,h.put o.dst rfl⟩
   ·cases he
  ·cases he
theorem Ll{R:Type}{c c':oX}{x:Option R}{r:R}(h:same c c' x=some r):c=c'/\x=some r:=by
 unfold same at h
 split at h
 ·exact⟨‹_›,h⟩
 ·cases h
theorem JJ{R:Type}{x y:Option R}{r:R}(h:nd x y=some r):x=some r/\y=some r:=by
 unfold nd at h
 split at h
 ·rename_i e;exact⟨h,e▸h⟩
 ·cases h
theorem Iv(h:Inv C g β s a w){x y:Operand}{n:Nat}(hn:BG s x y=some n){T:TypeId}(hT:rO.isSl P T=true):∃b,(0 < n->b=false)/\(Op.equal T (a.eval x) (a.eval y)).run P w= .ok b w/\
  nG (a.eval x)=false/\a.eval x≠ .nilIface/\∀op,binOp op T (a.eval x) (a.eval y)=(match op with | .eql=>do pure (.bool (<-Op.equal T (a.eval x) (a.eval y))) | .neq=>do pure (.bool (!(<-Op.equal T (a.eval x) (a.eval y)))) | _=>binOp op T (a.eval x) (a.eval y)):=by
 have hx:=h.ev x
 have hy:=h.ev y
 unfold rO.isSl at hT
 split at hT <;> try (cases hT;done)
 rename_i e hU
 unfold BG at hn
 split at hn
 ·rename_i t l h1 h2
  rw[h1]at hx;rw[h2]at hy
  obtain⟨ad,cap,vs,hv,_,hs,_⟩:=oJ hx
  have zg:=kg hy
  rw[hv,zg]
  refine⟨ad.isNone,λhp=> ?_,?_,rfl,by simp,λop=>by cases op <;> rfl⟩
  ·obtain rfl:=ba hn
   obtain⟨ad',rfl⟩:=bY.1 (hs hp)
   rfl
  ·cases ad with
   |none=>exact fu λd=>by simp[Op.equalIn,run_underlying hU]
   |some ad=>exact fu λd=>by simp[Op.equalIn,run_underlying hU]
 ·rename_i t l h1 h2
  rw[h1]at hx;rw[h2]at hy
  obtain⟨ad,cap,vs,hv,_,hs,_⟩:=oJ hy
  have zg:=kg hx
  rw[hv,zg]
  refine⟨ad.isNone,λhp=> ?_,?_,rfl,by simp,λop=>by cases op <;> rfl⟩
  ·obtain rfl:=ba hn
   obtain⟨ad',rfl⟩:=bY.1 (hs hp)
   rfl
  ·exact fu λd=>by simp[Op.equalIn,run_underlying hU]
 ·rename_i id ver pp c i len h1 h2
  rw[h1]at hx;rw[h2]at hy
  obtain⟨ad,cap,hv,_,hs,_⟩:=np hx
  have zg:=kg hy
  rw[hv,zg]
  refine⟨ad.isNone,λhp=> ?_,?_,rfl,by simp,λop=>by cases op <;> rfl⟩
  ·obtain rfl:=ba hn
   obtain⟨ad',rfl⟩:=bY.1 (hs hp)
   rfl
  ·cases ad with
   |none=>exact fu λd=>by simp[Op.equalIn,run_underlying hU]
   |some ad=>exact fu λd=>by simp[Op.equalIn,run_underlying hU]
 ·rename_i id ver pp c i len h1 h2
  rw[h1]at hx;rw[h2]at hy
  obtain⟨ad,cap,hv,_,hs,_⟩:=np hy
  have zg:=kg hx
  rw[hv,zg]
  refine⟨ad.isNone,λhp=> ?_,?_,rfl,by simp,λop=>by cases op <;> rfl⟩
  ·obtain rfl:=ba hn
   obtain⟨ad',rfl⟩:=bY.1 (hs hp)
   rfl
  ·exact fu λd=>by simp[Op.equalIn,run_underlying hU]
 ·cases hn
theorem xG(h:Inv C g β s a w){x y:Operand}{n:Nat}{T U:TypeId}(hn:BG s x y=some n)(hT:rO.isSl P T=true):
  (o.op= .binOp .eql T x y U->∃b,(0 < n->b=false)/\fM P o a w (iE C (s.put o.dst (.d .bool b))))/\(o.op= .binOp .neq T x y U->∃b,(0 < n->b=true)/\fM P o a w (iE C (s.put o.dst (.d .bool b)))):=by
 obtain⟨b,h1,h2,h3,h4,h5⟩:=Iv (w:=w) h hn hT
 have hg:∀op,(eqGuard op T x y (a.eval x) (a.eval y)).run P w= .ok () w:=λop=>lF h4 h3
 refine⟨λho=>⟨b,h1,h.value (po b) ?_⟩,λho=>⟨!b,λhp=>by rw[h1 hp];rfl,h.value (po (!b)) ?_⟩⟩
 ·have h6:(binOp .eql T (a.eval x) (a.eval y)).run P w= .ok (.bool b) w:=by rw[h5 .eql];simp[h2]
  simp[execOp,ho,hg,h6]
 ·have h6:(binOp .neq T (a.eval x) (a.eval y)).run P w= .ok (.bool (!b)) w:=by rw[h5 .neq];simp[h2]
  simp[execOp,ho,hg,h6]
theorem xW{R:Type}{c:Bool}{x y:Option R}{r:R}(h:aP c x y=some r):(c=true/\x=some r)\/(c=false/\y=some r):=by
 cases c
 ·exact .inr ⟨rfl,h⟩
 ·exact .inl ⟨rfl,h⟩
theorem Mq{R:Type}{n:Nat}{k:Nat->Option R}{r:R}(h:OB n k=some r):0 < n/\∀j,j < n->k j=some r:=by
 unfold OB at h
 split at h
 ·rename_i hx
  obtain rfl:=ba h
  exact hx.choose_spec
 ·cases h
theorem QO{R:Type}{n:Nat}{k:Nat->Option R}{x:Option R}(hn:0 < n)(h:∀j,j < n->k j=x):OB n k=x:=by
 unfold OB
 cases x with
 |none=>exact dif_neg λ⟨r,_,hr⟩=>by have:=h 0 hn;rw[hr 0 hn]at this;cases this
 |some r=>
  have hx:∃r,0 < n/\∀j,j < n->k j=some r:=⟨r,hn,h⟩
  rw[dif_pos hx]
  have:=hx.choose_spec.2 0 hn
  rw[h 0 hn]at this
  exact this.symm
theorem C3{s:AS}{id:Id}{e:dS}{q:Nat}(hq:s.ek q=true)(fL:s.bZ id≠none):(s.aO id e).ek q=true:=by
 cases id with
 |aV k=>exact hq
 |new i j=>
  by_cases hi:i=q
  ·subst hi;exact absurd ((jQ hq).1 j) fL
  ·unfold AS.ek AS.aO
   simp only[eW hi]
   exact hq
theorem Alike.len{α β:Type}{R:α->β->Prop}:∀ {xs:List α} {ys:List β},Alike R xs ys->xs.length=ys.length
 |[],[],_=>rfl
 |_::_,_::_,⟨_,h⟩=>by simp[h.len]
 |[],_::_,h=>h.elim
 |_::_,[],h=>h.elim
theorem IE{α:Type}:∀ {xs ys:List α} {i j:Nat} {x:α},xs.Perm ys->xs[i]? =some x->ys[j]? =some x->(xs.eraseIdx i).Perm (ys.eraseIdx j):=by
 have key:∀ {xs:List α} {i:Nat} {x:α},xs[i]? =some x->xs.Perm (x::xs.eraseIdx i):=by
  intro xs
  induction xs with
  |nil=>intro i x h;simp at h
  |cons y xs ih=>
   intro i x h
   cases i with
   |zero=>simp at h;subst h;exact l9 _
   |succ i=>
    have h:xs[i]? =some x:=by simpa using h
    exact((ih h).cons y).trans (List.Perm.swap x y _)
 intro xs ys i j x hp hi hj
 exact((key hi).symm.trans (hp.trans (key hj))).cons_inv
theorem IH(h:Inv C g β s a w){T:TypeId}{m:Operand}(dr:o.op= .range T m){s':AS}(he:(IG P s o.dst T (s.ev m)).eval=some s'):fM P o a w (iE C s'):=by
 unfold IG at he
 split at he
 ·rename_i K V' kt vt id ver q hm hx hd
  obtain⟨l,h1,he⟩:=ak.1 he
  obtain⟨hq,he⟩:=ay.1 he
  obtain rfl:=ao.1 he
  rw[aj]at hq
  obtain⟨hT,_,_⟩:=rW hm
  have AT:=h.ev m
  rw[hx]at AT
  obtain⟨fr,pl,es,clock,g1,g2,g3,g4,g5,g6,g7,gn⟩:=qL h h1 AT
  obtain rfl:=vb g1 hq.1
  have fL:s.bZ id≠none:=by rw[g1];simp
  have WJ:=Trans.refl w g
  have H9:cP (s.env w g β) ((s.aO id (.obj ver true (.mp kt vt l))).env w g β):=cP.aO g1 (aw _) WJ (λ_ _=>rfl) (λ_=>rfl)
  have i0:Inv C g β (s.aO id (.obj ver true (.mp kt vt l))) a w:=
   h.step (du _ _ _) WJ H9 (jc.aO h.bK fL H9 (λ_ _=>rfl) (λ_ _ _ _ _ _ _ _=>⟨rfl,rfl⟩) ⟨pl,es,clock,g2,g4,g5,⟨g6.mono H9.mem,gn⟩,g7⟩ (xA g1))
  have cV:=eS s id (.obj ver true (.mp kt vt l)) fL
  have hq':=C3 (e:= .obj ver true (.mp kt vt l)) hq.2 fL
  generalize ZT:s.aO id (.obj ver true (.mp kt vt l))=s0 at i0 cV hq' H9
  have vL:∀j,id≠ .new q j:=λj e=>by rw[e,(jQ hq').1 j]at cV;cases cV
  have iv:pl.b < w.heap.size:=(bJ.1 g4).1
  have ht:=Trans.alloc w g (.mapIter (some pl.b) clock #[] clock) (.own (.id (.new q 0)) 0)
  obtain⟨h3,h4⟩:=i0.yu hq' (c:= .nH id (ver+1) kt vt l none) (p:=some ⟨w.heap.size,0⟩) ht (λb hb=>⟨mW w _ hb,fA _ _ _ (by omega)⟩) (λhE=>
   ⟨⟨w.heap.size,0⟩,pl.b,clock,#[],clock,jI _ _ _,oh w _,fJ _ _ _,λvr Ib=>by
    obtain rfl:ver=vr:=by omega
    have hb:(s0.env w g β).tS id ver:=⟨by show s0.bZ id≠none;rw[cV];simp,λv2 fr2 c2 h2=>by
     have h2:s0.bZ id=some (.obj v2 fr2 c2):=h2
     rw[cV]at h2
     simp only[aq,dS.obj.injEq]at h2
     omega⟩
    refine⟨hE.tS _ _ hb,λ_=>⟨⟨kt,vt,l,?_⟩,pl,es,clock,?_,rfl,?_,?_,λx hx=>g7.2 x hx,⟨aw _,aw _⟩,g7.1,?_,λx hx=>by cases hx⟩⟩
    ·show(s0.born q _).bZ id=_
     rw[je _ vL];exact cV
    ·show vc β (.new q 0) _ id=_
     rw[rG _ _ _ (vL 0)];exact g2
    ·exact(mW w _ iv).trans g4
    ·show lp g w.heap.size _ pl.b=_
     rw[fA _ _ _ (by omega)];exact g5
    ·have:es.toList.filter (λe=> !(#[]:Array Nat).contains e.born)=es.toList:=jq.2 λx _=>by simp
     rw[this]
     exact(g6.mono H9.mem).mono hE.mem⟩)
  refine .inl ⟨.pointer (some ⟨w.heap.size,0,none⟩),w.alloc (.mapIter (some pl.b) clock #[] clock),?_,_,_,h3.put o.dst (v:= .ptr (.new q 0) 0 [] 0) ⟨[.pointer (some ⟨w.heap.size,0,none⟩)],?_,rfl⟩⟩
  ·refine eg (f:=Instr.range T (a.eval m)) (by simp only[execOp,dr]) ?_
   rw[g3]
   exact run_range_map w T K V' pl.b es clock hT g4
  ·simp only[V]
   exact⟨_,rfl,mE hq' _ _ _ _,λ_=>⟨_,jI _ _ _,rfl⟩⟩
 ·simp only[ai]at he
theorem A7(h:Inv C g β s a w){x:Operand}{t:J3}(ht:s.MU (s.ev x)=some t):
  s.bZ t.i=some (.obj t.v t.fr (.nH t.q (t.vr+1) t.kt t.vt t.rest t.cur))/\(∃k v l,s.bZ t.q=some (.obj t.vr true (.mp k v l)))/\
  ∃pl plq since seen c0 es clock,a.eval x= .pointer (some ⟨pl.b,0,none⟩)/\β t.i=some pl/\w.heap[pl.b]? =some (.mapIter (some plq.b) since seen c0)/\g pl.b= .own (.id t.i) 0/\
   β t.q=some plq/\w.heap[plq.b]? =some (.map es clock)/\g plq.b= .own (.id t.q) 0/\(∀x∈es.toList,x.born < since)/\(since<=c0/\since<=clock)/\(es.toList.map (·.born)).Nodup/\
   D7 (s.env w g β) t.kt t.vt (es.toList.filter λe=> !seen.contains e.born) t.rest/\
   ∀x,t.cur=some x->∃(e:MapEntry) (seen':Array Nat),e∈es.toList/\seen=seen'.push e.born/\c0=clock/\s8 (s.env w g β) t.kt t.vt e x:=by
 have AT:=h.ev x
 generalize s.ev x=y at ht AT
 unfold AS.MU at ht
 split at ht
 ·rename_i i ver
  split at ht
  ·rename_i v fr q vr kt vt rest cur kr
   split at ht
   ·rename_i hv hl
    obtain rfl:=ba ht
    have hv:v=ver:=by simpa using hv
    subst hv
    have cV:=eH kr
    unfold AS.Gm at hl
    split at hl
    ·rename_i v2 k2 t2 l2 Wv
     have hl:v2=vr:=by simpa using hl
     subst hl
     have hq:=eH Wv
     refine⟨cV,⟨_,_,_,hq⟩,?_⟩
     obtain⟨pl,mb,since,seen,c0,h1,h2,h3,h4⟩:=h.bK i v fr _ cV
     obtain⟨h5,h6⟩:=h4 v2 rfl
     obtain⟨_,plq,es,clock,k1,k2,k3,k4,k5,k6,k7,k8,k9⟩:=h6 ⟨_,_,hq⟩
     subst k2
     obtain⟨ad,m1,m2,m3⟩:=pd AT
     obtain⟨pl',m4,rfl⟩:=m3 ⟨_,_,cV⟩
     have h1:β i=some pl:=h1
     have m4:β i=some pl':=m4
     rw[h1]at m4
     obtain rfl:pl=pl':=by simpa using m4
     exact⟨pl,plq,since,seen,c0,es,clock,m1,h1,h2,h3,k1,k3,k4,k5,k6,k7,k8,k9⟩
    ·cases hl
   ·cases ht
  ·cases ht
 ·cases ht
theorem s8.Zz{E:Env}{kt vt:Ty}{e:MapEntry}{x:kt.den×vt.den}(h:s8 E kt vt e x):VS E (.cons (.d kt x.1) (.cons (.d vt x.2) .nil)) (.tuple #[e.key,e.val]):=by
 obtain⟨⟨c1,a1,b1⟩,c2,a2,b2⟩:=h
 refine⟨[e.key,e.val],rfl,?_⟩
 simp only[VC]
 exact⟨_,_,c1,rfl,by simpa only[V]using a1,b1,_,_,c2,rfl,by simpa only[V]using a2,b2,rfl⟩
theorem s8.ZA{E:Env}{kt vt:Ty}{e:MapEntry}{x:kt.den×vt.den}(h:s8 E kt vt e x):VS E (.cons (.d .bool true) (.cons (.d kt x.1) (.cons (.d vt x.2) .nil))) (.tuple #[.bool true,e.key,e.val]):=by
 obtain⟨⟨c1,a1,b1⟩,c2,a2,b2⟩:=h
 refine⟨[.bool true,e.key,e.val],rfl,?_⟩
 simp only[VC]
 exact⟨_,_,[.bool true],rfl,by simp only[V,dm],rfl,_,_,c1,rfl,by simpa only[V]using a1,b1,_,_,c2,rfl,by simpa only[V]using a2,b2,rfl⟩
theorem HW(h:Inv C g β s a w){x:Operand}(dr:o.op= .entry x){v:av}(he:(HV s (s.ev x)).eval=some v):fM P o a w (iE C (s.put o.dst v)):=by
 unfold HV at he
 split at he
 ·rename_i i v0 fr q vr kt vt rest c ht
  obtain rfl:=ao.1 he
  obtain⟨_,_,pl,plq,since,seen,c0,es,clock,m1,m2,m3,_,m5,m6,m7,_,_,m10,_,m12⟩:=A7 h ht
  obtain⟨e,seen',n1,rfl,rfl,n4⟩:=m12 c rfl
  refine h.value n4.Zz (eg (f:=Instr.entry (a.eval x)) (by simp only[execOp,dr]) ?_)
  rw[m1]
  exact run_entry_at w pl.b plq.b since seen' es _ e m3 m6 n1 m10
 ·simp only[ai]at he
theorem heap_drew{w w1:World}(hw:w1=w\/w1=w.drew):w1.heap=w.heap/\w1.os=w.os/\w1.tape=w.tape/\(w1.output=w.output/\w.drawn<=w1.drawn):=by
 rcases hw with rfl | rfl
 ·exact⟨rfl,rfl,rfl,rfl,aw _⟩
 ·exact⟨rfl,rfl,rfl,rfl,Nat.le_succ _⟩
theorem Inv.UE(h:Inv C g β s a w){i q:Id}{v vr:Nat}{fr:Bool}{kt vt:Ty}{rest:List (kt.den×vt.den)}{cur:Option (kt.den×vt.den)}(cV:s.bZ i=some (.obj v fr (.nH q (vr+1) kt vt rest cur)))
  {k2 v2:Ty} {l2:List (k2.den×v2.den)} (hq:s.bZ q=some (.obj vr true (.mp k2 v2 l2))) {pl plq:Pl} {m0:Option Nat} {since0 c00:Nat} {seen0:Array Nat} (hp:β i=some pl) (hb:w.heap[pl.b]? =some (.mapIter m0 since0 seen0 c00)) (hg:g pl.b= .own (.id i) 0)
  {w1:World} (hw:w1=w\/w1=w.drew) {es:Array MapEntry} {clock since c0:Nat} {seen:Array Nat} (Y6:β q=some plq) (Q7:w.heap[plq.b]? =some (.map es clock)) (YK:g plq.b= .own (.id q) 0)
  (h1:∀x∈es.toList,x.born < since) (h2:since<=c0/\since<=clock) (h3:(es.toList.map (·.born)).Nodup) {rest':List (kt.den×vt.den)} {cur':Option (kt.den×vt.den)} (h4:D7 (s.env w g β) kt vt (es.toList.filter λe=> !seen.contains e.born) rest')
  (h5:∀x,cur'=some x->∃(e:MapEntry) (seen':Array Nat),e∈es.toList/\seen=seen'.push e.born/\c0=clock/\s8 (s.env w g β) kt vt e x):
  Inv C g β (s.aO i (.obj v fr (.nH q (vr+1) kt vt rest' cur'))) a (Go.ChangeMaps.setBlock w1 pl.b (.mapIter (some plq.b) since seen c0))/\
   oe (s.env w g β) ((s.aO i (.obj v fr (.nH q (vr+1) kt vt rest' cur'))).env (Go.ChangeMaps.setBlock w1 pl.b (.mapIter (some plq.b) since seen c0)) g β):=by
 obtain⟨d1,d2,d3,d4⟩:=heap_drew hw
 have iv:pl.b < w.heap.size:=(bJ.1 hb).1
 have Jw:(Go.ChangeMaps.setBlock w1 pl.b (.mapIter (some plq.b) since seen c0)).heap=w.heap.setIfInBounds pl.b (.mapIter (some plq.b) since seen c0):=by
  show w1.heap.setIfInBounds _ _=_
  rw[d1]
 have P5:(Go.ChangeMaps.setBlock w1 pl.b (.mapIter (some plq.b) since seen c0)).os=w.os/\(Go.ChangeMaps.setBlock w1 pl.b (.mapIter (some plq.b) since seen c0)).tape=w.tape/\((Go.ChangeMaps.setBlock w1 pl.b (.mapIter (some plq.b) since seen c0)).output=w.output/\w.drawn<=(Go.ChangeMaps.setBlock w1 pl.b (.mapIter (some plq.b) since seen c0)).drawn):=⟨d2,d3,d4⟩
 generalize Go.ChangeMaps.setBlock w1 pl.b (.mapIter (some plq.b) since seen c0)=w' at Jw P5
 have hother:∀b',b'≠pl.b->w'.heap[b']? =w.heap[b']? :=λb' fL=>by
  rw[Jw,ea,if_neg (λe=>fL e.symm)]
 have kW:w'.heap[pl.b]? =some (.mapIter (some plq.b) since seen c0):=by
  rw[Jw,ea,if_pos rfl,if_pos iv]
 have ht:Trans w w' g g:=by
  refine⟨P5.1,P5.2.1,P5.2.2,by rw[Jw];simp,λb' _=> ?_⟩
  by_cases he:b'=pl.b
  ·subst he
   rw[hg]
   exact⟨.inr ⟨i,0,rfl,aw _⟩,λ_ _ hh=>by omega⟩
  ·rw[hother b' he]
   cases zM:g b' with
   |free=>exact⟨rfl,rfl⟩
   |own o' k=>cases o' with
    |eL=>exact⟨rfl,rfl⟩
    |id i'=>exact⟨.inr ⟨i',k,rfl,aw _⟩,λoff v _ hv=>by simpa only[World.cell?,hother b' he]using hv⟩
 have hle:cP (s.env w g β) ((s.aO i (.obj v fr (.nH q (vr+1) kt vt rest' cur'))).env w' g β):=cP.aO cV (aw _) ht (λ_ _=>rfl) (λ_=>rfl)
 have Ua:q≠i:=λe=>by rw[e,cV]at hq;cases hq
 have Y5:plq.b≠pl.b:=λe=>by rw[e,hb]at Q7;cases Q7
 refine⟨h.step (du _ _ _) ht hle (jc.aO h.bK (by rw[cV];simp) hle (λ_ _=>rfl) (λi' ver' fr' c' pl2 hi AQ Dw=>⟨hother _ (h.apart hg hi AQ Dw),rfl⟩) ?_ (mG cV λ_ _ _ e=>by cases e)),hle.mem⟩
 refine⟨pl,plq.b,since,seen,c0,hp,kW,hg,λvr' Ib=> ?_⟩
 obtain rfl:vr=vr':=by omega
 have H5:(s.env w g β).tS q vr:=⟨by show s.bZ q≠none;rw[hq];simp,λv3 fr3 c3 h3=>by
  have h3:s.bZ q=some (.obj v3 fr3 c3):=h3
  rw[hq]at h3
  simp only[aq,dS.obj.injEq]at h3
  omega⟩
 refine⟨hle.tS _ _ H5,λ_=>⟨⟨k2,v2,l2,?_⟩,plq,es,clock,Y6,rfl,(hother _ Y5).trans Q7,YK,h1,h2,h3,h4.mono hle.mem,λx hx=> ?_⟩⟩
 ·show(s.aO i _).bZ q=_
  rw[da s i q _ Ua];exact hq
 ·obtain⟨e,se,a1,a2,a3,a4⟩:=h5 x hx
  exact⟨e,se,a1,a2,a3,a4.mono hle.mem⟩
theorem Inv.Qb(h:Inv C g β s a w){i q:Id}{v ver ver':Nat}{fr:Bool}{kt vt:Ty}{rest rest':List (kt.den×vt.den)}{cur cur':Option (kt.den×vt.den)}(cV:s.bZ i=some (.obj v fr (.nH q ver kt vt rest cur)))
  (hk:ver'=0\/(ver'=ver/\rest'=rest/\cur'=none)):Inv C g β (s.aO i (.obj v fr (.nH q ver' kt vt rest' cur'))) a w:=by
 have ht:=Trans.refl w g
 have hle:cP (s.env w g β) ((s.aO i (.obj v fr (.nH q ver' kt vt rest' cur'))).env w g β):=cP.aO cV (aw _) ht (λ_ _=>rfl) (λ_=>rfl)
 refine h.step (du _ _ _) ht hle (jc.aO h.bK (by rw[cV];simp) hle (λ_ _=>rfl) (λ_ _ _ _ _ _ _ _=>⟨rfl,rfl⟩) ?_ (mG cV λ_ _ _ e=>by cases e))
 obtain⟨pl,mb,since,seen,c0,h1,h2,h3,h4⟩:=h.bK i v fr _ cV
 refine⟨pl,mb,since,seen,c0,h1,h2,h3,λvr Ib=> ?_⟩
 rcases hk with hk | ⟨rfl,rfl,rfl⟩
 ·omega
 ·obtain⟨h5,h6⟩:=h4 vr Ib
  refine⟨hle.tS _ _ h5,λhc=> ?_⟩
  obtain⟨c1,_⟩:=hle.cur _ _ h5 hc
  obtain⟨⟨k,v1,l,hq⟩,plq,es,clock,k1,k2,k3,k4,k5,k6,k7,k8,_⟩:=h6 c1
  have Ua:q≠i:=λe=>by
   have hq:s.bZ q=_:=hq
   rw[e,cV]at hq;cases hq
  exact⟨⟨k,v1,l,by show(s.aO i _).bZ q=_;rw[da s i q _ Ua];exact hq⟩,plq,es,clock,k1,k2,k3,k4,k5,k6,k7,k8.mono hle.mem,λx hx=>by cases hx⟩
theorem II{s:AS}{q i:Id}{e:dS}(h:s.BS q=false)(hi:s.bZ i=some e):e.MV q=false:=by
 unfold AS.BS at h
 rw[Bool.or_eq_false_iff]at h
 cases i with
 |aV k=>simpa using jl.1 h.1 _ (dd hi)
 |new a b=>
  have hi:(s.news.getD a [])[b]? =some e:=hi
  by_cases ha:a < s.news.length
  ·have h2:(s.news.getD a []).any (dS.MV q)=false:=by simpa using jl.1 h.2 (s.news.getD a []) (by simp[aA,cj ha])
   simpa using jl.1 h2 _ (dd hi)
  ·simp[aA,dM (Nat.le_of_not_lt ha)]at hi
theorem Inv.unlock(h:Inv C g β s a w){q:Id}{vr:Nat}{k v:Ty}{l:List (k.den×v.den)}(cV:s.bZ q=some (.obj vr true (.mp k v l)))(hr:s.BS q=false):Inv C g β (s.aO q (.obj vr false (.mp k v l))) a w:=by
 have ht:=Trans.refl w g
 have hle:cP (s.env w g β) ((s.aO q (.obj vr false (.mp k v l))).env w g β):=cP.aO cV (aw _) ht (λ_ _=>rfl) (λ_=>rfl)
 refine h.step (du _ _ _) ht hle λi ver fr c hi=> ?_
 have hi:(s.aO q (.obj vr false (.mp k v l))).bZ i=some (.obj ver fr c):=hi
 by_cases XV:i=q
 ·subst XV
  rw[eS s i _ (by rw[cV];simp)]at hi
  simp only[aq,dS.obj.injEq]at hi
  obtain⟨rfl,rfl,rfl⟩:=hi
  obtain⟨pl,es,clock,h1,h2,h3,h4,h5⟩:=h.bK i vr true _ cV
  exact⟨pl,es,clock,h1,h2,h3,⟨h4.1.mono hle.mem,h4.2⟩,h5⟩
 ·rw[da s q i _ XV]at hi
  refine(h.bK i ver fr c hi).Qe hle rfl (λ_ _=>⟨rfl,rfl⟩) λq2 v2 k2 v3 l2 hc yK _=>⟨⟨k2,v3,l2,?_⟩,λ_ _=>⟨rfl,rfl⟩⟩
  obtain⟨kt,vt,rest,cu,rfl⟩:=hc
  have hn:=II hr hi
  have fL:q2≠q:=λe=>by simp[dS.MV,e]at hn
  show(s.aO q _).bZ q2=_
  rw[da s q q2 _ fL];exact yK
theorem Ij{es:List MapEntry}{seen:Array Nat}(hn:(es.map (·.born)).Nodup){j:Nat}{e:MapEntry}(hj:(es.filter λe=> !seen.contains e.born)[j]? =some e):
  es.filter (λx=> !(seen.push e.born).contains x.born)=(es.filter λe=> !seen.contains e.born).eraseIdx j:=by
 have h1:es.filter (λx=> !(seen.push e.born).contains x.born)=(es.filter λe=> !seen.contains e.born).filter λx=>x.born !=e.born:=by
  rw[List.filter_filter]
  refine List.filter_congr λx _=> ?_
  rw[contains_push]
  cases seen.contains x.born <;> cases hb:x.born==e.born <;> simp[bne,hb]
 rw[h1]
 have PZ:((es.filter λe=> !seen.contains e.born).map (·.born)).Nodup:=hn.sublist (List.filter_sublist.map _)
 generalize es.filter (λe=> !seen.contains e.born)=L at hj PZ
 induction L generalizing j with
 |nil=>simp at hj
 |cons x L ih=>
  rw[bX,dI]at PZ
  cases j with
  |zero=>
   simp only[fS,aq]at hj
   subst hj
   have:L.filter (λy=>y.born !=x.born)=L:=jq.2 λy hy=>by
    have:y.born≠x.born:=λe=>PZ.1 (e▸eJ.2 ⟨y,hy,rfl⟩)
    simpa using this
   simp[this]
  |succ j=>
   have hj:L[j]? =some e:=by simpa using hj
   have hx:(x.born !=e.born)=true:=by
    have:x.born≠e.born:=λh=>PZ.1 (h▸eJ.2 ⟨e,dd hj,rfl⟩)
    simpa using this
   rw[List.filter_cons,hx,List.eraseIdx_cons_succ]
   simp only[if_true]
   rw[ih hj PZ.2]
theorem K5(h:Inv C g β s a w){x:Operand}(dr:o.op= .next x false){t:J3}(ht:s.MU (s.ev x)=some t){R:Type}{k:AS->Option R}{r:R}(he:Nd s o.dst t k=some r):
  fM P o a w λa' w'=>∃s',iE C s' a' w'/\k s'=some r:=by
 obtain⟨hi,⟨k2,v2,l2,hq⟩,pl,plq,since,seen,c0,es,clock,m1,m2,m3,m4,m5,m6,m7,m8,m9,m10,m11,_⟩:=A7 h ht
 have hex:∀ {y:Value} {w':World},(Instr.next (a.eval x) false o.type).run P w= .ok y w'->(execOp a.eval o).run P w= .ok (.value y) w':=λhr=>
  eg (f:=Instr.next (a.eval x) false o.type) (by simp only[execOp,dr]) hr
 have Ac:(leftOf es seen).toList=es.toList.filter λe=> !seen.contains e.born:=by unfold leftOf;rw[Array.toList_filter]
 obtain⟨l',m11,F8⟩:=m11
 have hlen:=m11.len
 rw[F8.length_eq]at hlen
 rw[<-Ac,cO]at hlen
 unfold Nd at he
 rcases run_next_at (P:=P) w o.type pl.b plq.b since c0 seen es clock m3 m6 m8 m9.1 with⟨h0,mF⟩ | ⟨e,SL,w1,hw,mF⟩
 ·rcases xW he with⟨hc,_⟩ | ⟨_,he⟩
  ·have:0 < t.rest.length:=by simpa using hc
   omega
  ·unfold AS.Pj at he
   have i1:=h.Qb (rest':=[]) (cur':=none) hi (.inl rfl)
   have Ua:t.q≠t.i:=λe=>by rw[e,hi]at hq;simp at hq
   have SR:(s.aO t.i (.obj t.v t.fr (.nH t.q 0 t.kt t.vt [] none))).bZ t.q=some (.obj t.vr true (.mp k2 v2 l2)):=by rw[da s t.i t.q _ Ua];exact hq
   generalize s.aO t.i (.obj t.v t.fr (.nH t.q 0 t.kt t.vt [] none))=s1 at he i1 SR
   cases hr:s1.BS t.q with
   |true=>rw[hr]at he;cases he
   |false=>
    rw[hr]at he
    simp only at he
    have Zf:s1.unlock t.q=s1.aO t.q (.obj t.vr false (.mp k2 v2 l2)):=by simp only[AS.unlock,AS.obj,SR]
    rw[Zf]at he
    rw[<-m1]at mF
    refine .inl ⟨_,w,hex mF,_,⟨g,β,(i1.unlock SR hr).put o.dst (v:= .cons (.d .bool false) .nil) ⟨[.bool false],rfl,?_⟩⟩,he⟩
    simp only[VC]
    exact⟨_,_,[.bool false],rfl,by simp only[V,dm],rfl,rfl⟩
 ·rcases xW he with⟨hc,he⟩ | ⟨hc,_⟩
  ·obtain⟨_,hd⟩:=Mq he
   rw[Ac]at SL
   obtain⟨i,OP⟩:=List.getElem?_of_mem SL
   obtain⟨y,Ul,SV⟩:=m11.get OP
   obtain⟨j,hj⟩:=List.getElem?_of_mem (F8.mem_iff.1 (dd Ul))
   have Ri:j < t.rest.length:=(dL.1 hj).1
   have hy:qN t.kt t.vt t.rest j=y:=by simp[qN,aA,hj]
   have uG:e∈es.toList:=(nh.1 SL).1
   have i1:=h.UE (rest':=t.rest.eraseIdx j) (cur':=some (qN t.kt t.vt t.rest j)) (since:=since) (c0:=clock) (seen:=seen.push e.born) hi hq m2 m3 m4 hw m5 m6 m7 m8 ⟨m9.2,m9.2⟩ m10 ?_ ?_
   rotate_left
   ·rw[Ij m10 OP];exact⟨_,m11.erase i,IE F8 Ul hj⟩
   ·intro z hz
    obtain rfl:=ba hz
    exact⟨e,seen,uG,rfl,rfl,by rw[hy];exact SV⟩
   rw[<-m1]at mF
   have hVS:=(hy▸SV:s8 (s.env w g β) t.kt t.vt e (qN t.kt t.vt t.rest j))
   refine .inl ⟨_,_,hex mF,_,⟨g,β,i1.1.put o.dst (v:= .cons (.d .bool true) (.cons (.d t.kt (qN t.kt t.vt t.rest j).1) (.cons (.d t.vt (qN t.kt t.vt t.rest j).2) .nil))) ?_⟩,hd j Ri⟩
   exact s8.ZA (hVS.mono i1.2)
  ·have hc:¬0 < t.rest.length:=by simpa using hc
   have:0 < (leftOf es seen).toList.length:=List.length_pos_of_mem SL
   rw[cO]at this
   omega
theorem Kw{Γ:mR}(hΓ:Sound P Γ){bK:List Nat}{ops:Array Oper}{R:Type}{k:AS->Option R}{r:R}(h:iE C s a w)(he:OK P Γ bK ops o s k=some r):
  mV P ops o a w λa' w'=>∃s',iE C s' a' w'/\k s'=some r:=by
 have plain:OJ P Γ bK ops o s k=some r->mV P ops o a w λa' w'=>∃s',iE C s' a' w'/\k s'=some r:=λhe=>by
  obtain⟨s1,h1,h2⟩:=F2 he
  exact(Dr hΓ h h1).mono λa' w' hs=>⟨s1,hs,h2⟩
 have stepK:∀(hg:o.guard=none),(fM P o a w λa' w'=>∃s',iE C s' a' w'/\k s'=some r)->mV P ops o a w λa' w'=>∃s',iE C s' a' w'/\k s'=some r:=λhg hr=>by
  unfold mV
  have:Region.wanted o (yielded ops a.tmps)=true:=by simp[Region.wanted,hg]
  rw[if_pos this]
  exact hr
 have step:∀(hg:o.guard=none) (b:Bool),fM P o a w (iE C (s.put o.dst (.d .bool b)))->k (s.put o.dst (.d .bool b))=some r->mV P ops o a w λa' w'=>∃s',iE C s' a' w'/\k s'=some r:=λhg b hr hk=>by
  unfold mV
  have:Region.wanted o (yielded ops a.tmps)=true:=by simp[Region.wanted,hg]
  rw[if_pos this]
  exact hr.mono λa' w' hs=>⟨_,hs,hk⟩
 unfold OK at he
 split at he
 ·rename_i T x y U hg ho
  split at he
  ·rename_i n hn hT
   obtain⟨g,β,hi⟩:=h
   obtain⟨b,hb,hr⟩:=(xG (o:=o) (U:=U) hi hn hT).1 ho
   refine step hg b hr ?_
   rcases xW he with⟨hc,hk⟩ | ⟨_,hk⟩
   ·rw[hb (by simpa using hc)];exact hk
   ·obtain⟨k1,k2⟩:=JJ hk
    cases b
    ·exact k2
    ·exact k1
  ·exact plain he
 ·rename_i T x y U hg ho
  split at he
  ·rename_i n hn hT
   obtain⟨g,β,hi⟩:=h
   obtain⟨b,hb,hr⟩:=(xG (o:=o) (U:=U) hi hn hT).2 ho
   refine step hg b hr ?_
   rcases xW he with⟨hc,hk⟩ | ⟨_,hk⟩
   ·rw[hb (by simpa using hc)];exact hk
   ·obtain⟨k1,k2⟩:=JJ hk
    cases b
    ·exact k2
    ·exact k1
  ·exact plain he
 ·rename_i T m hg ho
  obtain⟨s1,h1,h2⟩:=js.1 he
  obtain⟨g,β,hi⟩:=h
  exact stepK hg ((IH hi ho h1).mono λ_ _ hs=>⟨_,hs,h2⟩)
 ·rename_i x hg ho
  obtain⟨s1,h1,h2⟩:=js.1 he
  obtain⟨v,h3,h4⟩:=ak.1 h1
  obtain rfl:=ao.1 h4
  obtain⟨g,β,hi⟩:=h
  exact stepK hg ((HW hi ho h3).mono λ_ _ hs=>⟨_,hs,h2⟩)
 ·rename_i x hg ho
  split at he
  ·rename_i t ht
   obtain⟨g,β,hi⟩:=h
   exact stepK hg (K5 hi ho ht he)
  ·cases he
 ·rename_i c hg ho
  split at he
  ·rename_i F hc
   split at he
   ·rename_i id ver rc f hF
    split at he
    ·rename_i en LI
     obtain⟨Vi,he⟩:=Ll he
     obtain⟨s1,h1,h2⟩:=js.1 he
     obtain⟨g,β,hi⟩:=h
     exact stepK hg ((I5 hi ho hc hF Vi (hΓ _ _ en LI) h1).mono λ_ _ hs=>⟨_,hs,h2⟩)
    ·cases he
   ·exact plain he
  ·exact plain he
 ·exact plain he
theorem ze{rd:Option Nat}{n:Nat}{Γ:mR}(hΓ:Sound P Γ){bK:List Nat}{ops:Array Oper}{R:Type}{Q:Exit->Act->World->Prop}:∀(l:List Oper) {s:AS} {a:Act} {w:World} {k:AS->Option R} {r:R},iE C s a w->OL P Γ bK ops l s k=some r->
  (∀s' a' w',iE C s' a' w'->k s'=some r->Q .normal a' w')->wpListIn (Fr rd) n P ops Q l a w
 |[],s,a,w,k,r,h,he,hk=>hk s a w h he
 |o::l,s,a,w,k,r,h,he,hk=>by
  have he:OK P Γ bK ops o s (λs'=>s'.seen λs'=>OL P Γ bK ops l s' k)=some r:=he
  simp only[AS.xV]at he
  exact((Kw hΓ h he).mono λa' w' ⟨s',hs,h2⟩=>ze hΓ l hs h2 hk).wpListIn
end
end Go.Ab
namespace Go.Ab
theorem AS.My{s t:AS}(h1:s.cr=t.cr)(h2:s.news.length=t.news.length)(h3:∀id,s.bZ id=t.bZ id):s=t:=by
 obtain⟨a,b,c⟩:=s
 obtain⟨a',b',c'⟩:=t
 simp only at h1 h2
 subst h1
 have hb:b=b':=j5 λk=>h3 (.aV k)
 subst hb
 have hc:c=c':=by
  apply List.ext_getElem h2
  intro i h h'
  apply j5
  intro j
  have:=h3 (.new i j)
  simpa[AS.bZ,aA,h,h']using this
 rw[hc]
def dS.Fe:dS->dS->Prop
 | .obj v _ c,.obj v' _ c'=>v=v'/\c=c'
 | .dead,.dead=>True
 |_,_=>False
def qQ:Option dS->Option dS->Prop
 |some a,some b=>a.Fe b
 |none,none=>True
 |_,_=>False
def dS.Jp:dS->dS
 | .obj v _ c=> .obj v true c
 | .dead=> .dead
theorem dS.NI(a:dS):a.Fe a:=by cases a <;> simp[dS.Fe]
theorem Ln(a:Option dS):qQ a a:=by cases a <;> simp[qQ,dS.NI]
theorem Lm(a:Option dS):qQ (a.map dS.Jp) a:=by
 cases a with
 |none=>trivial
 |some x=>cases x <;> simp[qQ,dS.Fe,dS.Jp]
theorem dS.OG(a:dS):a.Jp.Jp=a.Jp:=by cases a <;> rfl
structure kR(f:ur)(s t:AS):Prop where
 cr:∀i∈f.cr,t.slot i=s.slot i
 ws:∀id∈f.ws,t.bZ id=s.bZ id
 rs:∀id∈f.rs,qQ (t.bZ id) (s.bZ id)
 ek:∀q,f.dst=some q->t.ek q=s.ek q
structure Ss where
 v:av
 up:Id->Option dS
 fz:List Id
structure App(d:Option Tmp)(E:Ss)(s s':AS):Prop where
 cr:s'.cr=(s.put d E.v).cr
 len:s'.news.length=s.news.length
 bZ:∀id,s'.bZ id=match E.up id with | some e=>some e | none=>if id∈E.fz then(s.bZ id).map dS.Jp else s.bZ id
theorem App.QP{d:Option Tmp}{E:Ss}{s s1 s2:AS}(h1:App d E s s1)(h2:App d E s s2):s1=s2:=
 AS.My (by rw[h1.cr,h2.cr]) (by rw[h1.len,h2.len]) λid=>by rw[h1.bZ,h2.bZ]
structure D9(f:ur)(s:AS)(E:Ss):Prop where
 up:∀id e,E.up id=some e->(id∈f.ws/\s.bZ id≠none)\/∃q j,f.dst=some q/\id= .new q j
 fz:∀id∈E.fz,id∈f.rs
theorem wI(s:AS)(id:Id)(e:dS):(s.aO id e).news.length=s.news.length:=by cases id <;> simp[AS.aO]
theorem CJ(s:AS)(id i:Id):(s.freeze id).bZ i=if i=id then(s.bZ i).map dS.Jp else s.bZ i:=by
 unfold AS.freeze
 cases hs:s.bZ id with
 |none=>
  by_cases hi:i=id
  ·subst hi;simp[hs]
  ·simp[hi]
 |some e=>
  cases e with
  |dead=>
   by_cases hi:i=id
   ·subst hi;simp[hs,dS.Jp]
   ·simp[hi]
  |obj v fr c=>
   simp only
   by_cases hi:i=id
   ·subst hi
    rw[eS s i _ (by rw[hs];simp)]
    simp[hs,dS.Jp]
   ·rw[da s id i _ hi];simp[hi]
theorem fH(i:Id):∀(ids:List Id) (s:AS),(s.bl ids).bZ i=if i∈ids then(s.bZ i).map dS.Jp else s.bZ i
 |[],s=>by simp[AS.bl]
 |id::ids,s=>by
  rw[AS.bl,fH i ids,CJ]
  by_cases h1:i=id
  ·subst h1
   by_cases h2:i∈ids
   ·simp[h2,Option.map_map,Function.comp_def,dS.OG]
   ·simp[h2]
  ·simp[h1]
theorem Ik(s:AS)(id:Id):(s.freeze id).news.length=s.news.length:=by
 unfold AS.freeze
 split
 ·exact wI _ _ _
 ·rfl
theorem mZ:∀(ids:List Id) (s:AS),(s.bl ids).news.length=s.news.length
 |[],_=>rfl
 |id::ids,s=>by rw[AS.bl,mZ ids,Ik]
theorem rH{s:AS}{q:Nat}:s.ek q=true↔q < s.news.length/\∀j,s.bZ (.new q j)=none:=by
 refine⟨λh=>⟨(jQ h).2,(jQ h).1⟩,λ⟨h1,h2⟩=> ?_⟩
 unfold AS.ek
 rw[cj h1]
 have h0:=h2 0
 simp only[AS.bZ,aA,cj h1,dW]at h0
 cases hh:s.news[q]with
 |nil=>rfl
 |cons x xs=>rw[hh]at h0;simp at h0
theorem App.yI(d:Option Tmp)(v:av)(ids:List Id)(s:AS):App d ⟨v,λ_=>none,ids⟩ s ((s.bl ids).put d v):=by
 refine⟨?_,?_,λid=> ?_⟩
 ·cases d <;> simp[AS.put,lC]
 ·cases d <;> simp[AS.put,mZ]
 ·rw[vj,fH]
theorem App.vl(d:Option Tmp)(v:av)(s:AS):App d ⟨v,λ_=>none,[]⟩ s (s.put d v):=App.yI d v [] s
def yw(q:Nat)(es:List dS):Id->Option dS
 | .new i j=>if i=q then es[j]? else none
 | .aV _=>none
theorem Mu(s:AS){q:Nat}(hq:q < s.news.length)(es:List dS)(id:Id):(s.born q es).bZ id=match id with | .new i j=>if i=q then es[j]? else s.bZ (.new i j) | .aV k=>s.bZ (.aV k):=by
 cases id with
 |aV k=>rfl
 |new i j=>
  simp only
  by_cases h:i=q
  ·subst h;rw[if_pos rfl];exact qF hq _ j
  ·rw[if_neg h];exact je _ λj' e=>by simp only[Id.new.injEq]at e;exact h e.1
theorem App.Ji{s:AS}{q:Nat}(hv:s.ek q=true)(v:av)(ids:List Id)(es:List dS):App (some q) ⟨v,yw q es,ids⟩ s (((s.bl ids).born q es).put (some q) v):=by
 obtain⟨h1,h2⟩:=rH.1 hv
 refine⟨?_,?_,λid=> ?_⟩
 ·simp[AS.put,lC]
 ·simp[AS.put,AS.born,mZ]
 ·rw[vj,Mu _ (by rw[mZ];exact h1)]
  cases id with
  |aV k=>simp only[yw];exact fH _ _ _
  |new i j=>
   simp only[yw]
   by_cases h:i=q
   ·subst h
    rw[if_pos rfl]
    cases he:es[j]? with
    |none=>simp[h2]
    |some e=>simp
   ·rw[if_neg h]
    simp only[if_neg h]
    exact fH _ _ _
theorem App.NC{s:AS}{id:Id}{e0:dS}(hs:s.bZ id=some e0)(d:Option Tmp)(v:av)(e:dS):App d ⟨v,λi=>if i=id then some e else none,[]⟩ s ((s.aO id e).put d v):=by
 refine⟨?_,?_,λi=> ?_⟩
 ·cases d <;> simp[AS.put]
 ·cases d <;> simp[AS.put,wI]
 ·rw[vj]
  by_cases hi:i=id
  ·subst hi
   rw[eS s i _ (by rw[hs];simp)]
   simp
  ·rw[da s id i _ hi];simp[hi]
section
variable {P:Program} {Γ:mR} {bK:List Nat} {ops:Array Oper} {o:Oper} {s t:AS}
def w9(P:Program)(Γ:mR)(bK:List Nat)(ops:Array Oper)(o:Oper)(s s':AS):Prop:=
 ∃E,App o.dst E s s'/\D9 (gS Γ ops s o) s E/\∀t,kR (gS Γ ops s o) s t->∃t',(mN P Γ bK o t).eval=some t'/\App o.dst E t t'
theorem zp{xs:Array Operand}{i:Nat}(h:Operand.tmp i∈xs.toList):i∈Ak xs:=by
 unfold Ak
 exact List.mem_filterMap.2 ⟨_,h,rfl⟩
theorem kR.ev(h:kR (gS Γ ops s o) s t){x:Operand}(hx:x∈o.op.operands.toList):t.ev x=s.ev x:=by
 cases x with
 |tmp i=>exact h.cr i (bt.2 (.inl (zp hx)))
 |_=>rfl
theorem GH(v:Value):(ofConst v).ids=[]:=by unfold ofConst;split <;> rfl
theorem DJ{o:Oper}{x:Op}(h:o.op=x)(hx:Dz x=false):Dz o.op=false:=by rw[h];exact hx
theorem wG(hn:Dz o.op=false){x:Operand}(hx:x∈o.op.operands.toList){id:Id}(dq:id∈(s.ev x).ids):id∈(gS Γ ops s o).rs:=by
 refine bt.2 (.inl ?_)
 unfold GI
 rw[hn]
 cases x with
 |tmp i=>exact List.mem_flatMap.2 ⟨i,zp hx,dq⟩
 |const v=>simp[AS.ev,GH]at dq
 |global _=>simp[AS.ev,av.ids]at dq
 |func f=>simp[AS.ev,av.ids]at dq
theorem kR.Fe(h:kR (gS Γ ops s o) s t)(hn:Dz o.op=false){x:Operand}(hx:x∈o.op.operands.toList){id:Id}(dq:id∈(s.ev x).ids):qQ (t.bZ id) (s.bZ id):=
 h.rs id (wG hn hx dq)
theorem xY{id:Id}(h:qQ (t.bZ id) (s.bZ id)):(t.obj id=none/\s.obj id=none)\/∃v f f' c,t.obj id=some (v,f,c)/\s.obj id=some (v,f',c):=by
 unfold AS.obj
 revert h
 cases t.bZ id with
 |none=>cases s.bZ id with
  |none=>intro _;simp
  |some b=>intro h;exact h.elim
 |some a=>cases s.bZ id with
  |none=>intro h;exact h.elim
  |some b=>cases a <;> cases b <;> intro h <;> first
    |exact h.elim
    | (left;exact⟨rfl,rfl⟩)
    | (obtain⟨rfl,rfl⟩:=h;right;exact⟨_,_,_,_,rfl,rfl⟩)
theorem yW{id:Id}(h:qQ (t.bZ id) (s.bZ id))(ver:Nat)(p:List vH):t.row id ver p=s.row id ver p:=by
 unfold AS.row
 rcases xY h with⟨h1,h2⟩ | ⟨v,f,f',c,h1,h2⟩ <;> rw[h1,h2]
theorem mn:∀(v:av) (ty:Ty),(∀id∈v.ids,qQ (t.bZ id) (s.bZ id))->t.ji ty v=s.ji ty v
 | .aS id ver p c i len,ty,h=>by
  cases ty <;> first
   |rfl
   | (simp only[AS.ji];rw[yW (h id (by simp[av.ids]))])
 | .pr a b,ty,h=>by
  cases ty <;> first
   |rfl
   | (simp only[AS.ji];rw[mn a _ λid dq=>h id (by simp[av.ids,dq]),mn b _ λid dq=>h id (by simp[av.ids,dq])])
 | .undef,ty,_ | .gone,ty,_ | .di,ty,_ | .mO,ty,_ | .pL,ty,_ | .sw,ty,_ | .d _ _,ty,_ | .ptr ..,ty,_ | .eD ..,ty,_ | .fn ..,ty,_ | .cons ..,ty,_ | .nil,ty,_ | .vec ..,ty,_ | .bx ..,ty,_ | .db ..,ty,_ | .mp ..,ty,_ | .nH ..,ty,_ | .yl ..,ty,_ | .mr ..,ty,_ | .sb _,ty,_=>by
  cases ty <;> simp only[AS.ji]
theorem pg:∀(v:av),∀id∈v.shared,id∈v.ids
 | .aS ..,id,h=>by simpa[av.shared,av.ids]using h
 | .pr a b,id,h=>by
  simp only[av.shared,bt,av.ids]at h ⊢
  rcases h with h | h
  ·exact .inl (pg a id h)
  ·exact .inr (pg b id h)
 | .undef,_,h | .gone,_,h | .di,_,h | .mO,_,h | .pL,_,h | .sw,_,h | .d _ _,_,h | .ptr ..,_,h | .eD ..,_,h | .fn ..,_,h | .cons ..,_,h | .nil,_,h | .vec ..,_,h | .bx ..,_,h | .db ..,_,h | .mp ..,_,h | .nH ..,_,h | .yl ..,_,h | .mr ..,_,h | .sb _,_,h=>by
  simp[av.shared]at h
theorem Gl{T:TypeId}{x:av}(h:∀id∈x.ids,qQ (t.bZ id) (s.bZ id)):xB P t T x=xB P s T x:=by
 unfold xB
 split
 ·rename_i id ver p n
  rcases xY (h id (by simp[av.ids])) with⟨h1,h2⟩ | ⟨v,f,f',c,h1,h2⟩ <;> rw[h1,h2]
 ·rfl
 ·rfl
 ·rfl
theorem Ef{n:Nat}{lo hi:Option Operand}(hl:∀x,lo=some x->t.ev x=s.ev x)(hh:∀x,hi=some x->t.ev x=s.ev x):bounds t n lo hi=bounds s n lo hi:=by
 unfold bounds
 cases lo <;> cases hi <;> simp only[] <;> first
  |rfl
  | (rw[hl _ rfl,hh _ rfl])
  |rw[hl _ rfl]
  |rw[hh _ rfl]
theorem yd{T:TypeId}{x:av}{lo hi:Option Operand}(h:∀id∈x.ids,qQ (t.bZ id) (s.bZ id))(hl:∀x,lo=some x->t.ev x=s.ev x)(hh:∀x,hi=some x->t.ev x=s.ev x):
  uZ P t T x lo hi=uZ P s T x lo hi:=by
 have hb:∀n,bounds t n lo hi=bounds s n lo hi:=λn=>Ef hl hh
 unfold uZ
 split <;> first
  |rfl
  | (rw[yW (h _ (by simp[av.ids]))];simp only[hb];done)
  | (simp only[hb];done)
theorem CZ{T:TypeId}{x:av}{lo:Option Operand}{y m:Operand}(h:∀id∈x.ids,qQ (t.bZ id) (s.bZ id))(hl:∀x,lo=some x->t.ev x=s.ev x)(hh:t.ev y=s.ev y)(hm:t.ev m=s.ev m):
  yc P t T x lo y m=yc P s T x lo y m:=by
 unfold yc
 rw[hh,hm,yd h hl λz hz=>by obtain rfl:=ba hz;exact hh]
theorem yM{T:TypeId}{x:av}{i:Int}(h:∀id∈x.ids,qQ (t.bZ id) (s.bZ id)):nF P t T x i=nF P s T x i:=by
 unfold nF
 split <;> first
  |rfl
  |rw[yW (h _ (by simp[av.ids]))]
theorem FJ{obj:Bool}{src dst:TypeId}{x:av}(h:∀id∈x.ids,qQ (t.bZ id) (s.bZ id)):De P t obj src dst x=De P s obj src dst x:=by
 unfold De
 split
 ·rfl
 ·unfold Mo
  split <;> first
   |rfl
   | (simp only[AS.IC,mn _ _ h])
theorem Kt{T:TypeId}{op:BinOp}{i:Id}{v:Nat}{j:Id}{w:Nat}(h:qQ (t.bZ i) (s.bZ i)):SE P t T op i v j w=SE P s T op i v j w:=by
 unfold SE
 rcases xY h with⟨h1,h2⟩ | ⟨v,f,f',c,h1,h2⟩ <;> rw[h1,h2]
theorem FL{src dst:TypeId}{id:Id}{ver:Nat}(h:qQ (t.bZ id) (s.bZ id)):Df P t src dst id ver=Df P s src dst id ver:=by
 unfold Df
 rcases xY h with⟨h1,h2⟩ | ⟨v,f,f',c,h1,h2⟩
 ·rw[h1,h2]
 ·rw[h1,h2]
  cases c <;> first
   |rfl
   | (rename_i e z c;cases z <;> rfl)
theorem rA{ty:Ty}:∀(ps:List (Nat×Operand)) (l:List ty.den),(∀x∈ps,t.ev x.2=s.ev x.2/\∀id∈(s.ev x.2).ids,qQ (t.bZ id) (s.bZ id))->jt ty t ps l=jt ty s ps l
 |[],_,_=>rfl
 | (i,x)::ps,l,h=>by
  obtain⟨h1,h2⟩:=h (i,x) (aH ..)
  simp only[jt]
  simp only at h1 h2
  rw[h1,mn _ _ h2]
  congr 2
  funext y
  rw[rA ps _ λz hz=>h z (aF _ hz)]
theorem qk{ty:Ty}:∀(ps:List (Nat×Operand)) (l:List ty.den) (r:List ty.den×List Id),(jt ty s ps l).eval=some r->∀id∈r.2,∃x∈ps,id∈(s.ev x.2).ids
 |[],l,r,h,id,dq=>by
  obtain rfl:=ao.1 h
  cases dq
 | (i,x)::ps,l,r,h,id,dq=>by
  simp only[jt]at h
  obtain⟨h1,h2⟩:=ay.1 h
  obtain⟨y,h3,h4⟩:=ak.1 h2
  obtain⟨r',h5,h6⟩:=ak.1 h4
  obtain rfl:=ao.1 h6
  rcases bt.1 dq with dq | dq
  ·exact⟨(i,x),aH ..,pg _ _ dq⟩
  ·obtain⟨z,hz,yL⟩:=qk ps _ r' h5 id dq
   exact⟨z,aF _ hz,yL⟩
theorem uf{fs:Array Field}:∀(ps:List (Nat×Operand)) (v:av),(∀x∈ps,t.ev x.2=s.ev x.2)->mH P fs t ps v=mH P fs s ps v
 |[],_,_=>rfl
 | (i,x)::ps,v,h=>by
  have h1:=h (i,x) (aH ..)
  simp only at h1
  simp only[mH,h1]
  have ih:∀v,mH P fs t ps v=mH P fs s ps v:=λv=>uf ps v λz hz=>h z (aF _ hz)
  simp only[ih]
theorem xh:∀(l:List Operand),(∀x∈l,t.ev x=s.ev x)->nw t l=nw s l
 |[],_=>rfl
 |x::l,h=>by
  simp only[nw]
  rw[h x (aH ..),xh l λy hy=>h y (aF _ hy)]
theorem zr{ty:Ty}{X:TypeId}{x:av}(h:∀id∈x.ids,qQ (t.bZ id) (s.bZ id)):uP P t ty X x=uP P s ty X x:=by
 unfold uP
 split
 ·rfl
 ·simp only[AS.IC,mn _ _ h]
theorem kA{v:av}(h:∀t,kR (gS Γ ops s o) s t->(mN P Γ bK o t).eval=some (t.put o.dst v)):w9 P Γ bK ops o s (s.put o.dst v):=
 ⟨⟨v,λ_=>none,[]⟩,App.vl _ _ _,⟨λ_ _ h=>by simp at h,λ_ h=>by simp at h⟩,λt ht=>⟨_,h t ht,App.vl _ _ _⟩⟩
theorem lV{F:AS->Out av}(ho:∀t,mN P Γ bK o t=(F t).bind λv=> .ok (t.put o.dst v))(hF:∀t,kR (gS Γ ops s o) s t->F t=F s){s':AS}(he:(mN P Γ bK o s).eval=some s'):w9 P Γ bK ops o s s':=by
 rw[ho]at he
 obtain⟨v,h1,h2⟩:=ak.1 he
 obtain rfl:=ao.1 h2
 refine kA λt ht=> ?_
 rw[ho,hF t ht,ak]
 exact⟨v,h1,rfl⟩
theorem Ag{v:av}{ids:List Id}(hi:∀id∈ids,id∈(gS Γ ops s o).rs)(h:∀t,kR (gS Γ ops s o) s t->(mN P Γ bK o t).eval=some ((t.bl ids).put o.dst v)):w9 P Γ bK ops o s ((s.bl ids).put o.dst v):=
 ⟨⟨v,λ_=>none,ids⟩,App.yI _ _ _ _,⟨λ_ _ h=>by simp at h,hi⟩,λt ht=>⟨_,h t ht,App.yI _ _ _ _⟩⟩
theorem rk{v:av}{ids:List Id}{q:Nat}{es:List dS}(hd:o.dst=some q)(hv:s.ek q=true)(hi:∀id∈ids,id∈(gS Γ ops s o).rs)
  (h:∀t,kR (gS Γ ops s o) s t->t.ek q=true->(mN P Γ bK o t).eval=some (((t.bl ids).born q es).put o.dst v)):w9 P Γ bK ops o s (((s.bl ids).born q es).put o.dst v):=by
 refine⟨⟨v,yw q es,ids⟩,by rw[hd];exact App.Ji hv _ _ _,⟨λid e h=> .inr ?_,hi⟩,λt ht=> ?_⟩
 ·cases id with
  |aV _=>simp[yw]at h
  |new i j=>
   simp only[yw]at h
   split at h
   ·rename_i hq;exact⟨q,j,hd,by rw[hq]⟩
   ·cases h
 ·have hv':t.ek q=true:=by rw[ht.ek q hd];exact hv
  exact⟨_,h t ht hv',by rw[hd];exact App.Ji hv' _ _ _⟩
theorem tq{v:av}{id:Id}{e0 e:dS}(hs:s.bZ id=some e0)(hw:id∈(gS Γ ops s o).ws)(h:∀t,kR (gS Γ ops s o) s t->t.bZ id=s.bZ id->(mN P Γ bK o t).eval=some ((t.aO id e).put o.dst v)):
  w9 P Γ bK ops o s ((s.aO id e).put o.dst v):=by
 refine⟨⟨v,λi=>if i=id then some e else none,[]⟩,App.NC hs _ _ _,⟨λi e' h=> .inl ?_,λ_ h=>by simp at h⟩,λt ht=> ?_⟩
 ·simp only at h
  split at h
  ·rename_i hi;subst hi;exact⟨hw,by rw[hs];simp⟩
  ·cases h
 ·have:=ht.ws id hw
  exact⟨_,h t ht this,App.NC (this.trans hs) _ _ _⟩
end
end Go.Ab
namespace Go.Ab
section
variable {P:Program} {Γ:mR} {bK:List Nat} {ops:Array Oper} {o:Oper} {s t:AS}
theorem E3{T:TypeId}{x v:av}{s':AS}(h:(u5 P s T x v).eval=some s'):
  ∃id e0 e,x.ids=[id]/\s.bZ id=some e0/\s'=s.aO id e/\∀t:AS,t.bZ id=s.bZ id->(u5 P t T x v).eval=some (t.aO id e):=by
 unfold u5 at h
 split at h
 ·rename_i id ver p n
  cases kr:s.obj id with
  |none=>rw[kr]at h;simp only[ai]at h
  |some r=>
   obtain⟨ve,fr,c⟩:=r
   rw[kr]at h
   obtain⟨h1,h2⟩:=ay.1 h
   obtain⟨r,h3,h4⟩:=ak.1 h2
   obtain⟨h5,h6⟩:=ay.1 h4
   obtain⟨h7,h8⟩:=bO.1 h6
   obtain⟨c',h9,Tq⟩:=ak.1 h8
   obtain rfl:=ao.1 Tq
   refine⟨id,_,_,rfl,eH kr,rfl,λt ht=> ?_⟩
   have hob':t.obj id=some (ve,fr,c):=by simp only[AS.obj,ht];exact kr
   unfold u5
   simp only[hob']
   exact ay.2 ⟨h1,ak.2 ⟨r,h3,ay.2 ⟨h5,bO.2 ⟨h7,ak.2 ⟨c',h9,ao.2 rfl⟩⟩⟩⟩⟩
 ·simp only[ai]at h
theorem HS{c:Call}{x y:Operand}{T X:TypeId}(dr:o.op= .call c)(hc:c.callee= .builtin .copy)(ha:c.args.toList=[x,y])(ht:c.argTypes.toList=[T,X]){s':AS}
  (he:(Ax P s o.dst T X (s.ev x) (s.ev y)).eval=some s'):w9 P Γ bK ops o s s':=by
 have Dv:∀t:AS,mN P Γ bK o t=Ax P t o.dst T X (t.ev x) (t.ev y):=λt=>by
  unfold mN
  rw[dr]
  simp only[hc,ha,ht]
 have tn:∀z,z=x\/z=y->z∈o.op.operands.toList:=λz hz=>by
  rw[dr]
  simp only[Op.operands,Call.operands,hc,aR,bW,ha]
  simpa using hz
 have hx:∀t,kR (gS Γ ops s o) s t->t.ev x=s.ev x:=λt h=>h.ev (tn x (.inl rfl))
 have hy:∀t,kR (gS Γ ops s o) s t->t.ev y=s.ev y:=λt h=>h.ev (tn y (.inr rfl))
 have hm:∀t,kR (gS Γ ops s o) s t->∀ty,uP P t ty X (s.ev y)=uP P s ty X (s.ev y):=λt h ty=>zr λid dq=>h.Fe (DJ dr rfl) (tn y (.inr rfl)) dq
 unfold Ax at he
 split at he
 ·rename_i e t b id ver len vK Hr
  obtain⟨m,h1,he⟩:=ak.1 he
  split at he
  ·rename_i ve n t' l kr
   obtain⟨h2,xq⟩:=ay.1 he
   obtain⟨l',h3,Cy⟩:=ak.1 xq
   obtain⟨h4,SK⟩:=bO.1 Cy
   obtain rfl:=ao.1 SK
   have hw:id∈(gS Γ ops s o).ws:=by
    show id∈writes Γ s o
    unfold writes
    rw[dr]
    simp only[hc,ha,Hr]
    simp[av.ids]
   refine tq (eH kr) hw λt ht KH=> ?_
   rw[Dv t,hx t ht,hy t ht]
   have hob':t.obj id=some (ve,false,.d (.arr n t') l):=by simp only[AS.obj,KH];exact kr
   unfold Ax
   simp only[vK,Hr]
   refine ak.2 ⟨m,by rw[hm t ht];exact h1,?_⟩
   simp only[hob']
   exact ay.2 ⟨h2,ak.2 ⟨l',h3,bO.2 ⟨h4,ao.2 rfl⟩⟩⟩
  ·exact(ai.1 he).elim
 ·exact(ai.1 he).elim
theorem Ec{c:Call}{x y:Operand}{T X:TypeId}(dr:o.op= .call c)(hc:c.callee= .builtin .append)(ha:c.args.toList=[x,y])(ht:c.argTypes.toList=[T,X])(fL:∀k n,s.ev x= .di->s.ev y= .d (.int k) n->False){s':AS}
  (he:(qz P s (KK bK o.dst) (Ie bK o.dst) o.dst T X (s.ev x) (s.ev y)).eval=some s'):w9 P Γ bK ops o s s':=by
 have Dv:∀t:AS,t.ev x=s.ev x->t.ev y=s.ev y->mN P Γ bK o t=qz P t (KK bK o.dst) (Ie bK o.dst) o.dst T X (t.ev x) (t.ev y):=λt e1 e2=>by
  unfold mN
  rw[dr]
  simp only[hc,ha,ht]
  split
  ·rename_i k n hx hy
   rw[e1]at hx
   rw[e2]at hy
   exact(fL k n hx hy).elim
  ·rfl
 have tn:∀z,z=x\/z=y->z∈o.op.operands.toList:=λz hz=>by
  rw[dr]
  simp only[Op.operands,Call.operands,hc,aR,bW,ha]
  simpa using hz
 have hx:∀t,kR (gS Γ ops s o) s t->t.ev x=s.ev x:=λt h=>h.ev (tn x (.inl rfl))
 have hy:∀t,kR (gS Γ ops s o) s t->t.ev y=s.ev y:=λt h=>h.ev (tn y (.inr rfl))
 have hm:∀t,kR (gS Γ ops s o) s t->∀ty,uP P t ty X (s.ev y)=uP P s ty X (s.ev y):=λt h ty=>zr λid dq=>h.Fe (DJ dr rfl) (tn y (.inr rfl)) dq
 unfold qz at he
 split at he
 ·rename_i e ty b q vK hd
  obtain⟨m,h1,h2⟩:=ak.1 he
  split at h2
  ·rename_i T5
   cases SJ:Ie bK o.dst with
   |true=>
    rw[SJ]at h2
    simp only at h2
    obtain⟨h5,h6⟩:=bO.1 h2
    obtain rfl:=ao.1 h6
    refine kA λt ht=> ?_
    rw[Dv t (hx t ht) (hy t ht),hx t ht,hy t ht]
    unfold qz
    simp only[hd]at SJ vK ⊢
    simp only[vK,T5,SJ]
    refine ak.2 ⟨m,by rw[hm t ht];exact h1,?_⟩
    exact bO.2 ⟨h5,ao.2 rfl⟩
   |false=>
   rw[SJ]at h2
   simp only at h2
   obtain⟨h3,h4⟩:=ay.1 h2
   obtain⟨h5,h6⟩:=bO.1 h4
   obtain rfl:=ao.1 h6
   refine rk (ids:=[]) hd h3 (λ_ h=>by cases h) λt ht hv=> ?_
   rw[Dv t (hx t ht) (hy t ht),hx t ht,hy t ht]
   unfold qz
   simp only[hd]at SJ vK ⊢
   simp only[vK,T5,SJ]
   refine ak.2 ⟨m,by rw[hm t ht];exact h1,?_⟩
   exact ay.2 ⟨hv,bO.2 ⟨h5,ao.2 rfl⟩⟩
  ·rename_i id ver len T5
   split at h2
   ·rename_i v fr e' t' l kr
    obtain⟨h3,h4⟩:=ay.1 h2
    obtain⟨l',h5,h6⟩:=ak.1 h4
    obtain⟨h7,h8⟩:=bO.1 h6
    obtain⟨h9,Tq⟩:=bO.1 h8
    obtain⟨Yw,LG⟩:=bO.1 Tq
    obtain rfl:=ao.1 LG
    have hw:id∈(gS Γ ops s o).ws:=by
     show id∈writes Γ s o
     unfold writes
     rw[dr]
     simp only[hc,ha,T5]
     simp[av.ids]
    refine tq (eH kr) hw λt ht KH=> ?_
    rw[Dv t (hx t ht) (hy t ht),hx t ht,hy t ht]
    have hob':t.obj id=some (v,fr,.vec e' t' l):=by simp only[AS.obj,KH];exact kr
    unfold qz
    simp only[hd]at vK ⊢
    simp only[vK,T5]
    refine ak.2 ⟨m,by rw[hm t ht];exact h1,?_⟩
    simp only[hob']
    exact ay.2 ⟨h3,ak.2 ⟨l',h5,bO.2 ⟨h7,bO.2 ⟨h9,bO.2 ⟨Yw,ao.2 rfl⟩⟩⟩⟩⟩
   ·simp only[ai]at h2
  ·simp only[ai]at h2
 ·simp only[ai]at he
theorem yU:∀(n:Nat) (todo acc:List Id),∀id∈acc,id∈s.reach n todo acc
 | 0,_,_,id,h=>h
 |_+1,[],_,id,h=>h
 |n+1,x::todo,acc,id,h=>by
  rw[AS.reach]
  split
  ·exact yU n todo acc id h
  ·exact yU n _ _ id (bt.2 (.inl h))
theorem pQ:∀(n:Nat) (todo acc:List Id),(∀id∈s.reach n todo acc,((t.bZ id).getD .dead).ids=((s.bZ id).getD .dead).ids)->t.reach n todo acc=s.reach n todo acc
 | 0,_,_,_=>rfl
 |_+1,[],_,_=>rfl
 |n+1,x::todo,acc,h=>by
  rw[AS.reach]at h
  rw[AS.reach,AS.reach]
  split
  ·rename_i hc
   rw[if_pos hc]at h
   exact pQ n todo acc h
  ·rename_i hc
   rw[if_neg hc]at h
   have hx:=h x (yU n _ _ x (bt.2 (.inr (bI.2 rfl))))
   rw[hx]
   exact pQ n _ _ h
theorem OZ(e:Option dS):((e.map dS.Jp).getD .dead).ids=(e.getD .dead).ids:=by
 cases e with
 |none=>rfl
 |some x=>cases x <;> rfl
theorem zT(ids:List Id)(n:Nat)(todo acc:List Id):(s.bl ids).reach n todo acc=s.reach n todo acc:=by
 refine pQ n todo acc λid _=> ?_
 rw[fH]
 split
 ·exact OZ _
 ·rfl
theorem wu:∀(ps:List (Option Ty)) (vs:List av),(∀v∈vs,∀id∈v.ids,qQ (t.bZ id) (s.bZ id))->t.conv ps vs=s.conv ps vs
 |[],[],_=>rfl
 |[],_::_,_=>rfl
 |some _::_,[],_=>rfl
 |none::_,[],_=>rfl
 |some ty::ps,v::vs,h=>by
  simp only[AS.conv]
  rw[mn v ty (h v (aH ..)),wu ps vs λx hx=>h x (aF _ hx)]
 |none::ps,v::vs,h=>by
  simp only[AS.conv]
  rw[wu ps vs λx hx=>h x (aF _ hx)]
theorem wx:∀(ps:List (Option Ty)) (vs:List av) (r:List av×List Id),(s.conv ps vs).eval=some r->r.1.flatMap av.ids=px ps vs/\∀id∈r.2,∃v∈vs,id∈v.ids
 |[],[],r,h=>by
  simp only[AS.conv,ao]at h
  subst h
  exact⟨rfl,λ_ h=>by cases h⟩
 |some ty::ps,v::vs,r,h=>by
  simp only[AS.conv]at h
  obtain⟨x,h1,h2⟩:=ak.1 h
  obtain⟨r',h3,h4⟩:=ak.1 h2
  obtain rfl:=ao.1 h4
  obtain⟨i1,i2⟩:=wx ps vs r' h3
  refine⟨by simp[px,i1,av.ids],λid dq=> ?_⟩
  rcases bt.1 dq with dq | dq
  ·exact⟨v,aH ..,pg v id dq⟩
  ·obtain⟨u,hu,Fc⟩:=i2 id dq
   exact⟨u,aF _ hu,Fc⟩
 |none::ps,v::vs,r,h=>by
  simp only[AS.conv]at h
  obtain⟨r',h3,h4⟩:=ak.1 h
  obtain rfl:=ao.1 h4
  obtain⟨i1,i2⟩:=wx ps vs r' h3
  refine⟨by simp[px,i1],λid dq=> ?_⟩
  obtain⟨u,hu,Fc⟩:=i2 id dq
  exact⟨u,aF _ hu,Fc⟩
 |[],_::_,_,h=>by simp only[AS.conv,ai]at h
 |some _::_,[],_,h=>by simp only[AS.conv,ai]at h
 |none::_,[],_,h=>by simp only[AS.conv,ai]at h
theorem Gk:∀(c:av),∀v∈c.list,∀id∈v.ids,id∈c.ids
 | .cons a b,v,hv,id,dq=>by
  simp only[av.list,cX]at hv
  simp only[av.ids,bt]
  rcases hv with rfl | hv
  ·exact .inl dq
  ·exact .inr (Gk b v hv id dq)
 | .sb _,_,h,_,_ | .undef,_,h,_,_ | .gone,_,h,_,_ | .di,_,h,_,_ | .mO,_,h,_,_ | .pL,_,h,_,_ | .sw,_,h,_,_ | .d _ _,_,h,_,_ | .ptr ..,_,h,_,_ | .eD ..,_,h,_,_
 | .fn ..,_,h,_,_ | .pr ..,_,h,_,_ | .nil,_,h,_,_ | .vec ..,_,h,_,_ | .bx ..,_,h,_,_ | .db ..,_,h,_,_ | .mp ..,_,h,_,_ | .nH ..,_,h,_,_ | .yl ..,_,h,_,_ | .mr ..,_,h,_,_ | .aS ..,_,h,_,_=>by simp[av.list]at h
theorem zB{ids:List Id}(h:∀id∈ids,t.bZ id=s.bZ id):t.pT ids=s.pT ids:=by
 funext id ver
 unfold AS.pT
 cases hi:idxOf id ids with
 |none=>rfl
 |some k=>
  have:t.obj id=s.obj id:=by simp only[AS.obj,h id (dd (nE hi))]
  rw[this]
theorem zH{id:Id}(h:t.bZ id=s.bZ id):t.si id=s.si id:=by simp only[AS.si,AS.obj,h]
theorem xO{ids:List Id}(h:∀id∈ids,t.bZ id=s.bZ id)(q:Nat):t.pf ids q=s.pf ids q:=by
 funext id ver
 cases id with
 |new i j=>rfl
 |aV k=>
  simp only[AS.pf]
  cases hk:ids[k]? with
  |none=>rfl
  |some id=>simp only[zH (h id (dd hk))]
theorem xj{ids:List Id}(h:∀id∈ids,t.bZ id=s.bZ id)(q b:Nat):t.nA ids q b=s.nA ids q b:=by
 funext e
 cases e <;> simp only[AS.nA,xO h]
theorem FQ{ids:List Id}(h:∀id∈ids,t.bZ id=s.bZ id){id:Id}(dq:id∈ids):t.lr ids id=s.lr ids id:=by
 unfold AS.lr
 rw[h id dq,zB h]
def lK(s:AS)(ids:List Id)(d:Option Tmp)(G:gV):AS:=
 (AS.jy s ids (d.getD 0) (s.made ids (d.getD 0) G.news) ids G.cz).put d (G.val.iW (s.pf ids (d.getD 0)))
theorem Da{ids:List Id}{d:Option Tmp}{G:gV}{s':AS}:(s.back ids d G).eval=some s'↔(G.cz.length=ids.length/\(G.news=[]\/∃q,d=some q/\s.ek q=true))/\s'=lK s ids d G:=by
 unfold AS.back
 cases d with
 |none=>
  rw[ay,ao]
  simp only[aj,beq_iff_eq,List.isEmpty_iff,lK,AS.put,Option.getD_none]
  constructor
  ·rintro⟨⟨h1,h2⟩,rfl⟩
   rw[h2];exact⟨⟨h1,.inl rfl⟩,rfl⟩
  ·rintro⟨⟨h1,h2⟩,rfl⟩
   rcases h2 with h2 | ⟨q,hq,_⟩
   ·rw[h2];exact⟨⟨h1,rfl⟩,rfl⟩
   ·cases hq
 |some q=>
  rw[ay,ao]
  simp only[aj,beq_iff_eq,ix,List.isEmpty_iff,lK,dW]
  constructor
  ·rintro⟨⟨h1,h2⟩,rfl⟩
   exact⟨⟨h1,h2.imp id λh=>⟨q,rfl,h⟩⟩,rfl⟩
  ·rintro⟨⟨h1,h2⟩,rfl⟩
   refine⟨⟨h1,h2.imp id λ⟨q',hq,h⟩=> ?_⟩,rfl⟩
   obtain rfl:q=q':=by simpa using hq
   exact h
theorem zk(s0:AS)(all:List Id)(q:Nat):∀(ids:List Id) (es:List dS) (s:AS),(AS.jy s0 all q s ids es).news.length=s.news.length
 |[],_,_=>by simp[AS.jy]
 |_::_,[],_=>by simp[AS.jy]
 |id::ids,e::es,s=>by rw[AS.jy,zk s0 all q ids es,wI]
theorem M3(s:AS)(ids:List Id)(q:Nat)(es:List dS):(s.made ids q es).news.length=s.news.length:=by
 cases es <;> simp[AS.made,AS.born]
def vC(ids:List Id)(d:Option Tmp)(G:gV)(id:Id):Prop:=id∈ids\/(G.news≠ []/\∃q j,d=some q/\id= .new q j)
theorem Aq{ids:List Id}{d:Option Tmp}{G:gV}(hn:ids.Nodup)(hp:∀id∈ids,s.bZ id≠none)(hl:G.cz.length=ids.length)(hv:G.news=[]\/∃q,d=some q/\s.ek q=true):
  (∀id,¬vC ids d G id->(lK s ids d G).bZ id=s.bZ id)/\
  (∀(k:Nat) (id:Id) (e:dS),ids[k]? =some id->G.cz[k]? =some e->(lK s ids d G).bZ id=some (s.nA ids (d.getD 0) (s.si id) e))/\
  (∀q j,G.news≠ []->d=some q->(lK s ids d G).bZ (.new q j)=(G.news[j]?).map (s.nA ids q 0))/\
  (∀q j,G.news≠ []->d=some q->s.bZ (.new q j)=none):=by
 have hv':G.news=[]\/s.ek (d.getD 0)=true:=by
  rcases hv with h | ⟨q,rfl,h⟩
  ·exact .inl h
  ·exact .inr h
 obtain⟨m1,m2⟩:=FR s ids (d.getD 0) G.news hv'
 have P0:∀q j,G.news≠ []->d=some q->s.bZ (.new q j)=none:=λq j h1 h2=>by
  rcases hv' with h | h
  ·exact absurd h h1
  ·subst h2;exact(rH.1 h).2 j
 have vL:∀id,s.bZ id≠none->G.news=[]\/∀j,id≠ .new (d.getD 0) j:=λid dq=>by
  rcases hv with h | ⟨q,rfl,h⟩
  ·exact .inl h
  ·exact .inr λj e=>dq (by rw[e];exact(rH.1 h).2 j)
 obtain⟨n1,n2⟩:=uC s ids (d.getD 0) ids G.cz (s.made ids (d.getD 0) G.news) hn hl (λid dq=>by rw[m1 id (vL id (hp id dq))];exact hp id dq)
 refine⟨λid dq=> ?_,λk id e h1 h2=> ?_,λq j h1 h2=> ?_,P0⟩
 ·unfold vC at dq
  simp only[not_or]at dq
  rw[lK,vj,n1 id dq.1]
  refine m1 id ?_
  by_cases fL:G.news=[]
  ·exact .inl fL
  ·right
   intro j e
   rcases hv with h | ⟨q,hq,_⟩
   ·exact fL h
   ·exact dq.2 ⟨fL,q,j,hq,by rw[e,hq];rfl⟩
 ·rw[lK,vj,n2 k id e h1 h2]
 ·subst h2
  have Wu:Id.new q j ∉ ids:=λdq=>hp _ dq (P0 q j h1 rfl)
  rw[lK,vj,n1 _ Wu]
  exact m2 h1 j
open Classical in
theorem HM{c:Call}{F:Operand}{f:FuncId}{caps:av}{en:Entry}(dr:o.op= .call c)(hc:c.callee= .value F)(hF:s.ev F= .fn f caps)(hΓ:Γ f (c.args.toList.map s.ev++caps.list)=some en)(iv:Nat.blt f yB=true){s':AS}
  (he:(s.call en o.dst (c.args.toList.map s.ev++caps.list)).eval=some s'):w9 P Γ bK ops o s s':=by
 have tn:∀z,z=F\/z∈c.args.toList->z∈o.op.operands.toList:=λz hz=>by
  rw[dr]
  simp only[Op.operands,Call.operands,hc,bW,bt]
  rcases hz with rfl | hz
  ·exact .inl (by simp)
  ·exact .inr hz
 have MQ:∀v∈c.args.toList.map s.ev++caps.list,∀id∈v.ids,id∈(gS Γ ops s o).rs:=λv hv id dq=>by
  rcases bt.1 hv with hv | hv
  ·obtain⟨x,hx,rfl⟩:=eJ.1 hv
   exact wG (DJ dr rfl) (tn x (.inr hx)) dq
  ·refine wG (DJ dr rfl) (tn F (.inl rfl)) ?_
   rw[hF]
   exact Gk caps v hv id dq
 generalize zh:c.args.toList.map s.ev++caps.list=vs at he MQ hΓ
 have Oa:(gS Γ ops s o).ws=s.reach 64 (px en.params vs) []:=by
  show writes Γ s o=_
  unfold writes
  rw[dr]
  simp only[hc,hF,zh,hΓ]
 have Dv:∀t,kR (gS Γ ops s o) s t->mN P Γ bK o t=t.call en o.dst vs:=λt ht=>by
  unfold mN
  rw[dr]
  have h1:t.ev F= .fn f caps:=by rw[ht.ev (tn F (.inl rfl)),hF]
  have h2:c.args.toList.map t.ev=c.args.toList.map s.ev:=gr λx hx=>ht.ev (tn x (.inr hx))
  obtain⟨cal,args,tys⟩:=c
  simp only at hc zh h2
  subst hc
  simp only[h1,h2,zh,hΓ,iv,Out.guard]
 unfold AS.call at he
 obtain⟨r,h1,h2⟩:=ak.1 he
 obtain⟨Rr,F9⟩:=wx _ _ r h1
 have hlends:∀t:AS,(t.bl r.2).JD r.1=t.reach 64 (px en.params vs) []:=λt=>by
  unfold AS.JD
  rw[zT,Rr]
 rw[hlends]at h2
 generalize hW:s.reach 64 (px en.params vs) []=W at h2 Oa
 have hWn:W.Nodup:=by rw[<-hW];exact pR s _ _ _ (by simp)
 unfold AS.enter at h2
 obtain⟨uG,h3⟩:=ay.1 h2
 obtain⟨x,hx,h4⟩:=pI.1 h3
 obtain⟨x0,Uj,h4⟩:=ak.1 h4
 have WU:=en.NK _ _ Uj
 rw[WU]at h4 Uj
 obtain⟨⟨hl,hv⟩,rfl⟩:=Da.1 h4
 generalize hG:en.out (r.1.map (av.iW ((s.bl r.2).pT W))) (W.map ((s.bl r.2).lr W)) x=G at hl hv h4 ⊢
 have hp:∀id∈W,(s.bl r.2).bZ id≠none:=λid dq=>by
  have:=(aj _ _▸dv.1 uG id dq).1
  obtain⟨⟨v,fr,c⟩,hr⟩:=bY.1 this
  rw[eH hr];simp
 obtain⟨b1,b2,b3,b4⟩:=Aq (s:=s.bl r.2) (d:=o.dst) hWn hp hl hv
 have hfzent:∀(u:AS) id,u.bZ id=none↔(u.bl r.2).bZ id=none:=λu id=>by
  rw[fH];split <;> simp
 let E:Ss:=⟨G.val.iW ((s.bl r.2).pf W (o.dst.getD 0)),λid=>if vC W o.dst G id then(lK (s.bl r.2) W o.dst G).bZ id else none,r.2⟩
 have hslots:∀u:AS,(lK (u.bl r.2) W o.dst G).cr=(u.put o.dst (G.val.iW ((u.bl r.2).pf W (o.dst.getD 0)))).cr:=λu=>by
  unfold lK
  cases o.dst <;> simp[AS.put,sB,B9,lC]
 have hlen:∀u:AS,(lK (u.bl r.2) W o.dst G).news.length=u.news.length:=λu=>by
  unfold lK
  cases o.dst <;> simp[AS.put,zk,M3,mZ]
 refine⟨E,⟨hslots s,hlen s,λid=> ?_⟩,⟨λid e zO=> ?_,λid dq=> ?_⟩,λt ht=> ?_⟩
 ·by_cases LL:vC W o.dst G id
  ·have zO:E.up id=(lK (s.bl r.2) W o.dst G).bZ id:=if_pos LL
   rw[zO]
   cases hb:(lK (s.bl r.2) W o.dst G).bZ id with
   |some e=>rfl
   |none=>
    rcases LL with dq | ⟨fL,q,j,hq,rfl⟩
    ·obtain⟨k,hk⟩:=jS.1 dq
     have iv:k < G.cz.length:=by rw[hl];exact(dL.1 hk).1
     rw[b2 k id _ hk (cj iv)]at hb
     cases hb
    ·have:=(hfzent s _).2 (b4 q j fL hq)
     simp[this]
  ·have zO:E.up id=none:=if_neg LL
   rw[zO,b1 id LL,fH]
 ·by_cases LL:vC W o.dst G id
  ·rcases LL with dq | ⟨_,q,j,hq,rfl⟩
   ·left
    refine⟨by rw[Oa];exact dq,λh=>hp id dq ((hfzent s id).1 h)⟩
   ·exact .inr ⟨q,j,hq,rfl⟩
  ·have:E.up id=none:=if_neg LL
   rw[this]at zO;cases zO
 ·obtain⟨v,hv,dq⟩:=F9 id dq
  exact MQ v hv id dq
 ·have TH:t.conv en.params vs=s.conv en.params vs:=wu _ _ λv hv id dq=>ht.rs id (MQ v hv id dq)
  have w6:∀id∈W,t.bZ id=s.bZ id:=λid dq=>ht.ws id (by rw[Oa];exact dq)
  have F4:∀id∈W,(t.bl r.2).bZ id=(s.bl r.2).bZ id:=λid dq=>by
   rw[fH,fH,w6 id dq]
  have hWt:t.reach 64 (px en.params vs) []=W:=by
   rw[<-hW]
   refine pQ _ _ _ λid dq=> ?_
   rw[w6 id (by rw[<-hW];exact dq)]
  have Ui:G.news=[]\/∃q,o.dst=some q/\(t.bl r.2).ek q=true:=hv.imp id λ⟨q,hq,h⟩=>⟨q,hq,by
   rw[pj]at h ⊢
   rw[ht.ek q hq];exact h⟩
  have SQ:∀id∈W,(t.bl r.2).bZ id≠none:=λid dq=>by rw[F4 id dq];exact hp id dq
  obtain⟨d1,d2,d3,d4⟩:=Aq (s:=t.bl r.2) (d:=o.dst) hWn SQ hl Ui
  refine⟨lK (t.bl r.2) W o.dst G,?_,⟨?_,hlen t,λid=> ?_⟩⟩
  ·rw[Dv t ht]
   unfold AS.call
   rw[TH]
   refine ak.2 ⟨r,h1,?_⟩
   rw[hlends,hWt]
   unfold AS.enter
   have hA:(t.bl r.2).pT W=(s.bl r.2).pT W:=zB F4
   have hO:W.map ((t.bl r.2).lr W)=W.map ((s.bl r.2).lr W):=gr λid dq=>FQ F4 dq
   refine ay.2 ⟨?_,pI.2 ⟨x,?_,ak.2 ⟨x,Uj,?_⟩⟩⟩
   ·refine dv.2 λid dq=> ?_
    have:=dv.1 uG id dq
    simp only[AS.obj,AS.A8]at this ⊢
    rw[F4 id dq]
    exact this
   ·rw[hA,hO,<-hx]
   ·rw[hA,hO,hG]
    exact Da.2 ⟨⟨hl,Ui⟩,rfl⟩
  ·rw[hslots t,xO F4]
  ·by_cases LL:vC W o.dst G id
   ·have zO:E.up id=(lK (s.bl r.2) W o.dst G).bZ id:=if_pos LL
    rw[zO]
    rcases LL with dq | ⟨fL,q,j,hq,rfl⟩
    ·obtain⟨k,hk⟩:=jS.1 dq
     have iv:k < G.cz.length:=by rw[hl];exact(dL.1 hk).1
     rw[b2 k id _ hk (cj iv),d2 k id _ hk (cj iv),xj F4,zH (F4 id dq)]
    ·rw[b3 q j fL hq,d3 q j fL hq,xj F4]
     cases hn:G.news[j]? with
     |some e=>rfl
     |none=>
      have:=(hfzent t _).2 (d4 q j fL hq)
      simp[this]
   ·have zO:E.up id=none:=if_neg LL
    rw[zO,d1 id LL,fH]
end
end Go.Ab
namespace Go.Ab
section
variable {P:Program} {Γ:mR} {bK:List Nat} {ops:Array Oper} {o:Oper} {s t:AS}
theorem Out.bind_assoc{α β γ:Type}(o:Out α)(f:α->Out β)(g:β->Out γ):(o.bind f).bind g=o.bind λa=>(f a).bind g:=by
 induction o with
 |ok a=>rfl
 |fail=>rfl
 |oO c r ih=>simp only[Out.bind,ih]
 |get x h ih=>simp only[Out.bind,ih]
 |br c x y ih1 ih2=>simp only[Out.bind,ih1,ih2]
theorem GN{parts:Array (Nat×Operand)}{x:Nat×Operand}(h:x∈parts.toList):x.2∈(parts.toList.map (·.2)).toArray.toList:=eJ.2 ⟨x,h,rfl⟩
theorem Kh{T:TypeId}{x:Operand}(dr:o.op= .box T x){s':AS}(he:(Fz P s (isObj bK o.dst) (Ie bK o.dst) o.dst T (s.ev x)).eval=some s'):w9 P Γ bK ops o s s':=by
 have Dv:∀t,mN P Γ bK o t=Fz P t (isObj bK o.dst) (Ie bK o.dst) o.dst T (t.ev x):=λt=>by unfold mN;rw[dr]
 have hm:x∈o.op.operands.toList:=by rw[dr];simp[Op.operands]
 unfold Fz at he
 split at he
 ·rename_i q hd
  split at he
  ·rename_i ho
   obtain⟨h1,h2⟩:=ay.1 he
   obtain rfl:=ao.1 h2
   simp only[aj]at h1
   refine rk (ids:=[]) hd h1.1 (λ_ h=>by cases h) λt ht hv=> ?_
   rw[Dv,ht.ev hm]
   unfold Fz
   simp only[hd]at ho ⊢
   simp only[ho]
   exact ay.2 ⟨by simp[hv,h1.2],ao.2 rfl⟩
  ·rename_i ho
   split at he
   ·rename_i ty Ue
    obtain⟨h1,h2⟩:=ay.1 he
    obtain⟨y,h3,h4⟩:=ak.1 h2
    obtain rfl:=ao.1 h4
    refine Ag (λid dq=>wG (DJ dr rfl) hm (pg _ _ dq)) λt ht=> ?_
    rw[Dv,ht.ev hm]
    unfold Fz
    simp only[hd]at ho ⊢
    simp only[ho,Ue]
    refine ay.2 ⟨h1,ak.2 ⟨y,?_,ao.2 rfl⟩⟩
    rw[mn _ _ λid dq=>ht.Fe (DJ dr rfl) hm dq];exact h3
   ·simp only[ai]at he
 ·simp only[ai]at he
theorem Hh{T:TypeId}{x:Operand}(dr:o.op= .sliceToArrayPointer T x){s':AS}(he:(wV P s o.dst T (s.ev x)).eval=some s'):w9 P Γ bK ops o s s':=by
 have Dv:∀t,mN P Γ bK o t=wV P t o.dst T (t.ev x):=λt=>by unfold mN;rw[dr]
 have hm:x∈o.op.operands.toList:=by rw[dr];simp[Op.operands]
 unfold wV at he
 split at he
 ·rename_i n e hT
  split at he
  ·rename_i ty Ue
   obtain⟨h1,h2⟩:=ay.1 he
   obtain⟨l,h3,h4⟩:=ak.1 h2
   obtain⟨h5,h6⟩:=bO.1 h4
   obtain rfl:=ao.1 h6
   refine Ag (λid dq=>wG (DJ dr rfl) hm (pg _ _ dq)) λt ht=> ?_
   rw[Dv,ht.ev hm]
   unfold wV
   simp only[hT,Ue]
   refine ay.2 ⟨h1,ak.2 ⟨l,?_,bO.2 ⟨h5,ao.2 rfl⟩⟩⟩
   rw[mn _ _ λid dq=>ht.Fe (DJ dr rfl) hm dq];exact h3
  ·simp only[ai]at he
 ·simp only[ai]at he
theorem FC{T:TypeId}{parts:Array (Nat×Operand)}(dr:o.op= .build T parts){s':AS}(he:(uz P s o.dst T parts.toList).eval=some s'):w9 P Γ bK ops o s s':=by
 have Dv:∀t,mN P Γ bK o t=uz P t o.dst T parts.toList:=λt=>by unfold mN;rw[dr]
 have hm:∀x∈parts.toList,x.2∈o.op.operands.toList:=λx hx=>by rw[dr];exact GN hx
 unfold uz at he
 split at he
 ·rename_i fs hT
  split at he
  ·rename_i z hz
   obtain⟨h1,h2⟩:=ay.1 he
   obtain⟨v,h3,h4⟩:=ak.1 h2
   obtain rfl:=ao.1 h4
   refine kA λt ht=> ?_
   rw[Dv]
   unfold uz
   simp only[hT,hz]
   refine ay.2 ⟨h1,ak.2 ⟨v,?_,ao.2 rfl⟩⟩
   rw[uf _ _ λx hx=>ht.ev (hm x hx)];exact h3
  ·simp only[ai]at he
 ·rename_i n e hT
  split at he
  ·rename_i ty Ue
   obtain⟨h1,h2⟩:=ay.1 he
   obtain⟨r,h3,h4⟩:=ak.1 h2
   obtain rfl:=ao.1 h4
   refine Ag (λid dq=> ?_) λt ht=> ?_
   ·obtain⟨x,hx,hi⟩:=qk _ _ _ h3 id dq
    exact wG (DJ dr rfl) (hm x hx) hi
   ·rw[Dv]
    unfold uz
    simp only[hT,Ue]
    refine ay.2 ⟨h1,ak.2 ⟨r,?_,ao.2 rfl⟩⟩
    rw[rA _ _ λx hx=>⟨ht.ev (hm x hx),λid dq=>ht.Fe (DJ dr rfl) (hm x hx) dq⟩];exact h3
  ·simp only[ai]at he
 ·simp only[ai]at he
theorem yz{T:TypeId}{n:Nat}{parts:Array (Nat×Operand)}(dr:o.op= .buildSlice T n parts){s':AS}(he:(kU P s (KK bK o.dst) (isObj bK o.dst) o.dst T n parts.toList).eval=some s'):w9 P Γ bK ops o s s':=by
 have Dv:∀t,mN P Γ bK o t=kU P t (KK bK o.dst) (isObj bK o.dst) o.dst T n parts.toList:=λt=>by unfold mN;rw[dr]
 have hm:∀x∈parts.toList,x.2∈o.op.operands.toList:=λx hx=>by rw[dr];exact GN hx
 unfold kU at he
 split at he
 ·rename_i e ty b q vK hd
  obtain⟨h1,h2⟩:=ay.1 he
  obtain⟨r,h3,h4⟩:=ak.1 h2
  have MM:∀id∈r.2,id∈(gS Γ ops s o).rs:=λid dq=>by
   obtain⟨x,hx,hi⟩:=qk _ _ _ h3 id dq
   exact wG (DJ dr rfl) (hm x hx) hi
  have TH:∀t,kR (gS Γ ops s o) s t->∀l,jt ty t parts.toList l=jt ty s parts.toList l:=λt ht l=>rA _ _ λx hx=>⟨ht.ev (hm x hx),λid dq=>ht.Fe (DJ dr rfl) (hm x hx) dq⟩
  split at h4
  ·rename_i ho
   obtain⟨h5,h6⟩:=ay.1 h4
   obtain rfl:=ao.1 h6
   refine rk hd h5 MM λt ht hv=> ?_
   rw[Dv]
   unfold kU
   simp only[hd]at ho vK ⊢
   simp only[vK,ho]
   refine ay.2 ⟨h1,ak.2 ⟨r,by rw[TH t ht];exact h3,ay.2 ⟨hv,ao.2 rfl⟩⟩⟩
  ·rename_i ho
   obtain rfl:=ao.1 h4
   refine Ag MM λt ht=> ?_
   rw[Dv]
   unfold kU
   simp only[hd]at ho vK ⊢
   simp only[vK,ho]
   exact ay.2 ⟨h1,ak.2 ⟨r,by rw[TH t ht];exact h3,ao.2 rfl⟩⟩
 ·simp only[ai]at he
theorem zQ{T:TypeId}{x y:Operand}(dr:o.op= .makeSlice T x y){len cap:Int}(hx:(asInt (s.ev x)).eval=some len)(hy:(asInt (s.ev y)).eval=some cap){s':AS}(he:(nJ P s o.dst T len cap).eval=some s'):w9 P Γ bK ops o s s':=by
 have Dv:∀t,mN P Γ bK o t=(asInt (t.ev x)).bind λl=>(asInt (t.ev y)).bind λc=>nJ P t o.dst T l c:=λt=>by unfold mN;rw[dr]
 have hm:∀z,z=x\/z=y->z∈o.op.operands.toList:=λz hz=>by rw[dr];simpa[Op.operands]using hz
 unfold nJ at he
 split at he
 ·rename_i e ty b q vK hd
  obtain⟨h1,h2⟩:=ay.1 he
  obtain⟨h3,h4⟩:=bO.1 h2
  obtain rfl:=ao.1 h4
  refine rk (ids:=[]) hd h1 (λ_ h=>by cases h) λt ht hv=> ?_
  rw[Dv,ht.ev (hm x (.inl rfl)),ht.ev (hm y (.inr rfl))]
  refine ak.2 ⟨len,hx,ak.2 ⟨cap,hy,?_⟩⟩
  unfold nJ
  simp only[vK,hd]
  exact ay.2 ⟨hv,bO.2 ⟨h3,ao.2 rfl⟩⟩
 ·simp only[ai]at he
theorem EM{id:Id}{ver:Nat}{kt vt:Ty}(h:qQ (t.bZ id) (s.bZ id)):t.oB id ver kt vt=s.oB id ver kt vt:=by
 unfold AS.oB
 rcases xY h with⟨h1,h2⟩ | ⟨v,f,f',c,h1,h2⟩
 ·rw[h1,h2]
 ·rw[h1,h2]
  cases c <;> rfl
theorem CL{T:TypeId}{m k:av}{ok:Bool}(h:∀id∈m.ids,qQ (t.bZ id) (s.bZ id)):tr P t T m k ok=tr P s T m k ok:=by
 unfold tr
 split
 ·rename_i id ver hm
  rw[EM (h id (by simp[av.ids]))]
 ·rfl
theorem Dy{id:Id}{ver:Nat}{kt vt:Ty}{l:List (kt.den×vt.den)}(h:(s.oB id ver kt vt).eval=some l):∃e,s.bZ id=some e:=by
 unfold AS.oB at h
 split at h
 ·rename_i v fr k' v' l' kr
  exact⟨_,eH kr⟩
 ·simp only[ai]at h
theorem zm{id:Id}{ver:Nat}{kt vt:Ty}(h:t.bZ id=s.bZ id):t.oB id ver kt vt=s.oB id ver kt vt:=by
 unfold AS.oB AS.obj
 rw[h]
theorem we{id:Id}(h:t.bZ id=s.bZ id):t.oL id=s.oL id:=by
 unfold AS.oL AS.obj
 rw[h]
theorem CO{T:TypeId}{m k v:av}{s':AS}(h:(tw P s T m k v).eval=some s'):
  ∃id e0 e,m.ids=[id]/\s.bZ id=some e0/\s'=s.aO id e/\∀t:AS,t.bZ id=s.bZ id->(tw P t T m k v).eval=some (t.aO id e):=by
 unfold tw at h
 split at h
 ·rename_i K V kt vt id ver hm
  obtain⟨l,h1,h⟩:=ak.1 h
  obtain⟨kx,h2,h⟩:=ak.1 h
  obtain⟨vx,h3,h⟩:=ak.1 h
  obtain⟨hu,h⟩:=ay.1 h
  obtain rfl:=ao.1 h
  obtain⟨e0,Cx⟩:=Dy h1
  refine⟨id,e0,_,rfl,Cx,rfl,λt ht=> ?_⟩
  unfold tw
  simp only[hm]
  exact ak.2 ⟨l,by rw[zm ht];exact h1,ak.2 ⟨kx,h2,ak.2 ⟨vx,h3,ay.2 ⟨by rw[we ht];exact hu,ao.2 rfl⟩⟩⟩⟩
 ·simp only[ai]at h
theorem CN{T:TypeId}{m k:av}{s':AS}(h:(tv P s T m k).eval=some s'):
  ∃id e0 e,m.ids=[id]/\s.bZ id=some e0/\s'=s.aO id e/\∀t:AS,t.bZ id=s.bZ id->(tv P t T m k).eval=some (t.aO id e):=by
 unfold tv at h
 split at h
 ·rename_i K V kt vt id ver hm
  obtain⟨l,h1,h⟩:=ak.1 h
  obtain⟨kx,h2,h⟩:=ak.1 h
  obtain⟨hu,h⟩:=ay.1 h
  obtain rfl:=ao.1 h
  obtain⟨e0,Cx⟩:=Dy h1
  refine⟨id,e0,_,rfl,Cx,rfl,λt ht=> ?_⟩
  unfold tv
  simp only[hm]
  exact ak.2 ⟨l,by rw[zm ht];exact h1,ak.2 ⟨kx,h2,ay.2 ⟨by rw[we ht];exact hu,ao.2 rfl⟩⟩⟩
 ·simp only[ai]at h
theorem C8{s':AS}(he:(mN P Γ bK o s).eval=some s'):w9 P Γ bK ops o s s':=by
 have Cx:=he
 have one:∀x,o.op.operands= #[x]->∀t,kR (gS Γ ops s o) s t->t.ev x=s.ev x/\(Dz o.op=false->∀id∈(s.ev x).ids,qQ (t.bZ id) (s.bZ id)):=λx hx t ht=>
  have hm:x∈o.op.operands.toList:=by rw[hx];simp
  ⟨ht.ev hm,λhn _ dq=>ht.Fe hn hm dq⟩
 unfold mN at he
 split at he
 ·rename_i x dr
  obtain rfl:=ao.1 he
  refine kA λt ht=> ?_
  unfold mN
  rw[dr]
  simp only
  rw[(one x (by rw[dr];rfl) t ht).1];rfl
 ·rename_i x dr
  obtain rfl:=ao.1 he
  refine kA λt ht=> ?_
  unfold mN
  rw[dr]
  simp only
  rw[(one x (by rw[dr];rfl) t ht).1];rfl
 ·rename_i c x y dr
  refine lV (F:=λt=>JO (t.ev c) (t.ev x) (t.ev y)) (λt=>by unfold mN;rw[dr]) (λt ht=> ?_) Cx
  rw[ht.ev (by rw[dr];simp[Op.operands]),ht.ev (by rw[dr];simp[Op.operands]),ht.ev (by rw[dr];simp[Op.operands])]
 ·rename_i T dr
  split at he
  ·rename_i z q hz hq
   obtain⟨h1,h2⟩:=ay.1 he
   obtain rfl:=ao.1 h2
   simp only[aj]at h1
   refine rk (ids:=[]) hq h1.1 (λ_ h=>by cases h) λt ht hv=> ?_
   unfold mN
   rw[dr]
   simp only[hz,hq]
   exact ay.2 ⟨by simp[hv,h1.2],ao.2 rfl⟩
  ·exact(ai.1 he).elim
 ·rename_i T x dr
  exact Kh dr he
 ·rename_i T parts dr
  exact FC dr he
 ·rename_i T n parts dr
  exact yz dr he
 ·rename_i T x dr
  refine lV (F:=λt=>xB P t T (t.ev x)) (λt=>by unfold mN;rw[dr]) (λt ht=> ?_) Cx
  obtain⟨h1,h2⟩:=one x (by rw[dr];rfl) t ht
  rw[h1,Gl (h2 (DJ dr rfl))]
 ·rename_i T x v dr
  obtain⟨s1,h1,h2⟩:=ak.1 he
  obtain rfl:=ao.1 h2
  obtain⟨id,e0,e,dq,hs,rfl,hl⟩:=E3 h1
  refine tq hs ?_ λt ht KH=> ?_
  ·show id∈writes Γ s o
   unfold writes
   rw[dr]
   simp only[dq,bI]
  ·unfold mN
   rw[dr]
   simp only
   rw[ht.ev (x:=x) (by rw[dr];simp[Op.operands]),ht.ev (x:=v) (by rw[dr];simp[Op.operands])]
   exact ak.2 ⟨_,hl t KH,ao.2 rfl⟩
 ·rename_i x dr
  split at he
  ·rename_i id v p n hx
   obtain rfl:=ao.1 he
   refine kA λt ht=> ?_
   unfold mN
   rw[dr]
   simp only[(one x (by rw[dr];rfl) t ht).1,hx];rfl
  ·rename_i ty y hx
   obtain rfl:=ao.1 he
   refine kA λt ht=> ?_
   unfold mN
   rw[dr]
   simp only[(one x (by rw[dr];rfl) t ht).1,hx];rfl
  ·rename_i ty y hx
   obtain⟨z,e,he⟩:=pI.1 he
   obtain rfl:=ao.1 he
   refine kA λt ht=> ?_
   unfold mN
   rw[dr]
   simp only[(one x (by rw[dr];rfl) t ht).1,hx]
   exact pI.2 ⟨z,e,ao.2 rfl⟩
  ·rename_i f c hx
   obtain rfl:=ao.1 he
   refine kA λt ht=> ?_
   unfold mN
   rw[dr]
   simp only[(one x (by rw[dr];rfl) t ht).1,hx];rfl
  ·exact(ai.1 he).elim
 ·rename_i op T x y U dr
  have MJ:x∈o.op.operands.toList:=by rw[dr];simp[Op.operands]
  have SO:y∈o.op.operands.toList:=by rw[dr];simp[Op.operands]
  split at he
  ·rename_i i v1 j v2 hx hy
   obtain⟨v,h1,h2⟩:=ak.1 he
   obtain rfl:=ao.1 h2
   refine kA λt ht=> ?_
   unfold mN
   rw[dr]
   simp only[ht.ev MJ,ht.ev SO,hx,hy]
   exact ak.2 ⟨v,by rw[Kt (ht.Fe (DJ dr rfl) MJ (by rw[hx];simp[av.ids]))];exact h1,rfl⟩
  ·rename_i fL
   obtain⟨v,h1,h2⟩:=ak.1 he
   obtain rfl:=ao.1 h2
   refine kA λt ht=> ?_
   unfold mN
   rw[dr]
   simp only[ht.ev MJ,ht.ev SO]
   exact ak.2 ⟨v,h1,rfl⟩
 ·rename_i op T x dr
  refine lV (F:=λt=>Vz op (t.ev x)) (λt=>by unfold mN;rw[dr]) (λt ht=> ?_) Cx
  rw[(one x (by rw[dr];rfl) t ht).1]
 ·rename_i T U x dr
  split at he
  ·rename_i id ver len hTU hx
   unfold FK at he
   split at he
   ·rename_i v e0 l e kr hD
    split at he
    ·rename_i hE
     obtain⟨h1,h2⟩:=ay.1 he
     obtain⟨h3,h4⟩:=bO.1 h2
     obtain rfl:=ao.1 h4
     refine tq (eH kr) ?_ λt ht KH=> ?_
     ·show id∈writes Γ s o
      unfold writes
      rw[dr]
      simp only[hTU,hx]
      simp[av.ids]
     ·have hob':t.obj id=some (v,false,.vec e0 (.int .u8) l):=by simp only[AS.obj,KH];exact kr
      unfold mN
      rw[dr]
      simp only[hTU,(one x (by rw[dr];rfl) t ht).1,hx]
      unfold FK
      simp only[hob',hD,hE]
      exact ay.2 ⟨h1,bO.2 ⟨h3,ao.2 rfl⟩⟩
    ·exact(ai.1 he).elim
   ·exact(ai.1 he).elim
  ·rename_i id ver hx
   obtain⟨v,h1,h2⟩:=ak.1 he
   obtain rfl:=ao.1 h2
   refine kA λt ht=> ?_
   obtain⟨h3,h4⟩:=one x (by rw[dr];rfl) t ht
   unfold mN
   rw[dr]
   simp only[h3,hx]
   exact ak.2 ⟨v,by rw[FL (h4 (DJ dr rfl) _ (by rw[hx];simp[av.ids]))];exact h1,rfl⟩
  ·rename_i fL
   obtain⟨v,h1,h2⟩:=ak.1 he
   obtain rfl:=ao.1 h2
   refine kA λt ht=> ?_
   obtain⟨h3,h4⟩:=one x (by rw[dr];rfl) t ht
   unfold mN
   rw[dr]
   simp only[h3]
   exact ak.2 ⟨v,by rw[FJ (h4 (DJ dr rfl))];exact h1,rfl⟩
 ·rename_i T x dr
  exact Hh dr he
 ·rename_i f first caps dr
  obtain⟨h1,h2⟩:=ay.1 he
  obtain rfl:=ao.1 h2
  refine kA λt ht=> ?_
  have hc:nw t caps.toList=nw s caps.toList:=xh _ λx hx=>ht.ev (by rw[dr];simp only[Op.operands,bW];exact bt.2 (.inr hx))
  unfold mN
  rw[dr]
  simp only[hc]
  exact ay.2 ⟨h1,ao.2 rfl⟩
 ·rename_i T l c dr
  obtain⟨n,h1,h2⟩:=ak.1 he
  obtain⟨m,h3,h4⟩:=ak.1 h2
  exact zQ dr h1 h3 h4
 ·rename_i T x lo hi dr
  refine lV (F:=λt=>uZ P t T (t.ev x) lo hi) (λt=>by unfold mN;rw[dr]) (λt ht=> ?_) Cx
  have hm:∀z,(z=x\/lo=some z\/hi=some z)->z∈o.op.operands.toList:=λz hz=>by
   rw[dr]
   simp only[Op.operands,bW,bt]
   rcases hz with rfl | rfl | rfl
   ·left;left;left;simp
   ·left;left;right;simp
   ·left;right;simp
  have hx:=hm x (.inl rfl)
  rw[ht.ev hx]
  exact yd (λid dq=>ht.Fe (DJ dr rfl) hx dq) (λy hy=>ht.ev (hm y (.inr (.inl hy)))) (λy hy=>ht.ev (hm y (.inr (.inr hy))))
 ·rename_i T x lo y m dr
  refine lV (F:=λt=>yc P t T (t.ev x) lo y m) (λt=>by unfold mN;rw[dr]) (λt ht=> ?_) Cx
  have hm:∀z,(z=x\/lo=some z\/y=z\/m=z)->z∈o.op.operands.toList:=λz hz=>by
   rw[dr]
   simp only[Op.operands,bW,bt]
   rcases hz with rfl | rfl | rfl | rfl
   ·left;left;left;simp
   ·left;left;right;simp
   ·left;right;simp
   ·right;simp
  have hx:=hm x (.inl rfl)
  rw[ht.ev hx]
  exact CZ (λid dq=>ht.Fe (DJ dr rfl) hx dq) (λz hz=>ht.ev (hm z (.inr (.inl hz)))) (ht.ev (hm y (.inr (.inr (.inl rfl))))) (ht.ev (hm m (.inr (.inr (.inr rfl)))))
 ·rename_i T x f dr
  refine lV (F:=λt=>tm P T (t.ev x) f) (λt=>by unfold mN;rw[dr]) (λt ht=> ?_) Cx
  rw[(one x (by rw[dr];rfl) t ht).1]
 ·rename_i T x f dr
  refine lV (F:=λt=>Ep P T (t.ev x) f) (λt=>by unfold mN;rw[dr]) (λt ht=> ?_) Cx
  rw[(one x (by rw[dr];rfl) t ht).1]
 ·rename_i T x i dr
  refine lV (F:=λt=>(asInt (t.ev i)).bind λi=>nF P t T (t.ev x) i) (λt=>by unfold mN;rw[dr,Out.bind_assoc]) (λt ht=> ?_) Cx
  have hx:x∈o.op.operands.toList:=by rw[dr];simp[Op.operands]
  rw[ht.ev (x:=i) (by rw[dr];simp[Op.operands]),ht.ev hx]
  congr 1
  funext i
  exact yM λid dq=>ht.Fe (DJ dr rfl) hx dq
 ·rename_i T x i dr
  refine lV (F:=λt=>(asInt (t.ev i)).bind λi=>EE P T (t.ev x) i) (λt=>by unfold mN;rw[dr,Out.bind_assoc]) (λt ht=> ?_) Cx
  rw[ht.ev (x:=i) (by rw[dr];simp[Op.operands]),ht.ev (x:=x) (by rw[dr];simp[Op.operands])]
 ·rename_i x i dr
  refine lV (F:=λt=>Out.opt ((t.ev x).list[i]?)) (λt=>by unfold mN;rw[dr]) (λt ht=> ?_) Cx
  rw[(one x (by rw[dr];rfl) t ht).1]
 ·rename_i T dr
  have xq:=he
  unfold uO at xq
  split at xq
  ·rename_i K V kt vt q hm hd
   obtain⟨h1,h2⟩:=ay.1 xq
   obtain rfl:=ao.1 h2
   refine rk (ids:=[]) hd h1 (λ_ h=>by cases h) λt ht hv=> ?_
   unfold mN
   rw[dr]
   simp only
   unfold uO
   simp only[hm,hd]
   exact ay.2 ⟨hv,ao.2 rfl⟩
  ·exact(ai.1 xq).elim
 ·rename_i T x i ok dr
  refine lV (F:=λt=>tr P t T (t.ev x) (t.ev i) ok) (λt=>by unfold mN;rw[dr]) (λt ht=> ?_) Cx
  have hx:x∈o.op.operands.toList:=by rw[dr];simp[Op.operands]
  rw[ht.ev (x:=i) (by rw[dr];simp[Op.operands]),ht.ev hx]
  exact CL λid dq=>ht.Fe (DJ dr rfl) hx dq
 ·rename_i T m k x dr
  obtain⟨s1,h1,h2⟩:=ak.1 he
  obtain rfl:=ao.1 h2
  obtain⟨id,e0,e,dq,hs,rfl,hl⟩:=CO h1
  refine tq hs ?_ λt ht KH=> ?_
  ·show id∈writes Γ s o
   unfold writes
   rw[dr]
   simp only[dq,bI]
  ·unfold mN
   rw[dr]
   simp only
   rw[ht.ev (x:=m) (by rw[dr];simp[Op.operands]),ht.ev (x:=k) (by rw[dr];simp[Op.operands]),ht.ev (x:=x) (by rw[dr];simp[Op.operands])]
   exact ak.2 ⟨_,hl t KH,ao.2 rfl⟩
 ·rename_i c dr
  obtain⟨cal,args,tys⟩:=c
  simp only at he
  split at he
  ·split at he
   ·rename_i m k T T2 ha ht'
    have Wp:m∈o.op.operands.toList:=by rw[dr];simp only[Op.operands,Call.operands,aR,bW,ha];simp
    have OS:k∈o.op.operands.toList:=by rw[dr];simp only[Op.operands,Call.operands,aR,bW,ha];simp
    obtain⟨s1,h1,h2⟩:=ak.1 he
    obtain rfl:=ao.1 h2
    obtain⟨id,e0,e,dq,hs,rfl,hl⟩:=CN h1
    refine tq hs ?_ λt ht KH=> ?_
    ·show id∈writes Γ s o
     unfold writes
     rw[dr]
     simp only[ha,dq,bI]
    ·unfold mN
     rw[dr]
     simp only[ha,ht']
     rw[ht.ev Wp,ht.ev OS]
     exact ak.2 ⟨_,hl t KH,ao.2 rfl⟩
   ·exact(ai.1 he).elim
  ·split at he
   ·rename_i x y T X ha ht'
    exact HS dr rfl ha ht' he
   ·exact(ai.1 he).elim
  ·split at he
   ·rename_i x T ha ht'
    refine lV (F:=λt=>O2 P T (t.ev x)) (λt=>by unfold mN;rw[dr];simp only[ha,ht']) (λt ht=> ?_) Cx
    rw[ht.ev (by rw[dr];simp only[Op.operands,Call.operands,aR,bW,ha];simp)]
   ·exact(ai.1 he).elim
  ·split at he
   ·rename_i x y T X ha ht'
    have MJ:x∈o.op.operands.toList:=by rw[dr];simp only[Op.operands,Call.operands,aR,bW,ha];simp
    have SO:y∈o.op.operands.toList:=by rw[dr];simp only[Op.operands,Call.operands,aR,bW,ha];simp
    split at he
    ·rename_i k n hx hy
     have xq:=he
     unfold F3 at xq
     split at xq
     ·rename_i e t0 b q kn vK hd hX
      obtain⟨h1,h2⟩:=ay.1 xq
      obtain⟨h3,h4⟩:=bO.1 h2
      obtain rfl:=ao.1 h4
      refine rk (ids:=[]) hd h1 (λ_ h=>by cases h) λt ht hv=> ?_
      unfold mN
      rw[dr]
      simp only[ha,ht',ht.ev MJ,ht.ev SO,hx,hy]
      unfold F3
      simp only[vK,hd,hX]
      exact ay.2 ⟨hv,bO.2 ⟨h3,ao.2 rfl⟩⟩
     ·exact(ai.1 xq).elim
    ·rename_i fL
     exact Ec dr rfl ha ht' fL he
   ·exact(ai.1 he).elim
  ·split at he
   ·rename_i x T ha ht'
    have MJ:x∈o.op.operands.toList:=by rw[dr];simp only[Op.operands,Call.operands,aR,bW,ha];simp
    split at he
    ·rename_i e hx hT
     obtain rfl:=ao.1 he
     refine kA λt ht=> ?_
     unfold mN
     rw[dr]
     simp only[ha,ht',ht.ev MJ,hx,hT];rfl
    ·exact(ai.1 he).elim
   ·exact(ai.1 he).elim
  ·refine lV (F:=λt=>KV true (args.toList.map t.ev)) (λt=>by unfold mN;rw[dr]) (λt ht=> ?_) Cx
   congr 1
   exact gr λx hx=>ht.ev (by rw[dr];simp only[Op.operands,Call.operands,aR,bW];exact hx)
  ·refine lV (F:=λt=>KV false (args.toList.map t.ev)) (λt=>by unfold mN;rw[dr]) (λt ht=> ?_) Cx
   congr 1
   exact gr λx hx=>ht.ev (by rw[dr];simp only[Op.operands,Call.operands,aR,bW];exact hx)
  ·split at he
   ·rename_i x ha
    have MJ:x∈o.op.operands.toList:=by rw[dr];simp only[Op.operands,Call.operands,aR,bW,ha];simp
    split at he
    ·rename_i id ver len hx
     obtain⟨h1,h2⟩:=bO.1 he
     obtain rfl:=ao.1 h2
     refine kA λt ht=> ?_
     unfold mN
     rw[dr]
     simp only[ha,ht.ev MJ,hx]
     exact bO.2 ⟨h1,rfl⟩
    ·exact(ai.1 he).elim
   ·exact(ai.1 he).elim
  ·split at he
   ·rename_i x y T U ha ht'
    have MJ:x∈o.op.operands.toList:=by rw[dr];simp only[Op.operands,Call.operands,aR,bW,ha];simp
    have SO:y∈o.op.operands.toList:=by rw[dr];simp only[Op.operands,Call.operands,aR,bW,ha];simp
    split at he
    ·rename_i id ver n hx hy
     have xq:=he
     unfold Hf at xq
     split at xq
     ·rename_i v e l u kr hT
      obtain⟨h1,h2⟩:=ay.1 xq
      obtain⟨h3,h4⟩:=bO.1 h2
      obtain rfl:=ao.1 h4
      refine tq (eH kr) ?_ λt ht KH=> ?_
      ·show id∈writes Γ s o
       unfold writes
       rw[dr]
       simp only[ha,hx]
       simp[av.ids]
      ·have hob':t.obj id=some (v,false,.vec e (.int .u8) l):=by simp only[AS.obj,KH];exact kr
       unfold mN
       rw[dr]
       simp only[ha,ht',ht.ev MJ,ht.ev SO,hx,hy]
       unfold Hf
       simp only[hob',hT]
       exact ay.2 ⟨h1,bO.2 ⟨h3,ao.2 rfl⟩⟩
     ·exact(ai.1 xq).elim
    ·exact(ai.1 he).elim
   ·exact(ai.1 he).elim
  ·rename_i F _
   split at he
   ·rename_i f caps hF
    split at he
    ·rename_i en LI
     obtain⟨iv,he⟩:=ay.1 he
     exact HM dr rfl hF LI iv he
    ·exact(ai.1 he).elim
   ·exact(ai.1 he).elim
  ·exact(ai.1 he).elim
 ·exact(ai.1 he).elim
end
end Go.Ab
namespace Go.Ab
section
variable {P:Program} {Γ:mR} {bK:List Nat} {ops:Array Oper} {o:Oper} {s t:AS}
def Loc(P:Program)(Γ:mR)(bK:List Nat)(ops:Array Oper)(o:Oper)(s s':AS):Prop:=
 ∃E,App o.dst E s s'/\D9 (gS Γ ops s o) s E/\∀t,kR (gS Γ ops s o) s t->∃t',vJ P Γ bK ops o t=some t'/\App o.dst E t t'
theorem AK{s':AS}(he:vJ P Γ bK ops o s=some s'):Loc P Γ bK ops o s s':=by
 unfold vJ at he
 split at he
 ·rename_i hg
  obtain⟨E,h1,h2,h3⟩:=C8 (ops:=ops) he
  refine⟨E,h1,h2,λt ht=> ?_⟩
  obtain⟨t',h4,h5⟩:=h3 t ht
  exact⟨t',by unfold vJ;simp only[hg];exact h4,h5⟩
 ·rename_i j want hg
  split at he
  ·rename_i q hq
   split at he
   ·rename_i b hb
    have LK:∀t,kR (gS Γ ops s o) s t->t.slot q= .d .bool b:=λt ht=>by
     rw[ht.cr q (bt.2 (.inr (by unfold yJ;simp only[hg,hq];simp)))];exact hb
    by_cases e:b=want
    ·rw[if_pos e]at he
     obtain⟨E,h1,h2,h3⟩:=C8 (ops:=ops) he
     refine⟨E,h1,h2,λt ht=> ?_⟩
     obtain⟨t',h4,h5⟩:=h3 t ht
     exact⟨t',by unfold vJ;simp only[hg,hq,LK t ht,if_pos e];exact h4,h5⟩
    ·rw[if_neg e]at he
     simp only[aq]at he
     subst he
     exact⟨⟨.nil,λ_=>none,[]⟩,App.vl _ _ _,⟨λ_ _ h=>by simp at h,λ_ h=>by simp at h⟩,λt ht=>⟨_,by unfold vJ;simp only[hg,hq,LK t ht,if_neg e],App.vl _ _ _⟩⟩
   ·rename_i hb
    have LK:∀t,kR (gS Γ ops s o) s t->t.slot q= .nil:=λt ht=>by
     rw[ht.cr q (bt.2 (.inr (by unfold yJ;simp only[hg,hq];simp)))];exact hb
    simp only[aq]at he
    subst he
    exact⟨⟨.nil,λ_=>none,[]⟩,App.vl _ _ _,⟨λ_ _ h=>by simp at h,λ_ h=>by simp at h⟩,λt ht=>⟨_,by unfold vJ;simp only[hg,hq,LK t ht],App.vl _ _ _⟩⟩
   ·cases he
  ·cases he
theorem E8(h:kR (gS Γ ops s o) s t):writes Γ t o=writes Γ s o:=by
 have Oa:∀id∈writes Γ s o,t.bZ id=s.bZ id:=h.ws
 unfold writes at Oa ⊢
 split
 ·rename_i x v dr
  rw[h.ev (by rw[dr];simp[Op.operands])]
 ·rename_i m k v dr
  rw[h.ev (by rw[dr];simp[Op.operands])]
 ·rename_i T U x dr
  rw[h.ev (by rw[dr];simp[Op.operands])]
 ·rename_i c dr
  obtain⟨cal,args,tys⟩:=c
  simp only[dr]at Oa
  simp only
  split
  ·split
   ·rename_i x l ha
    rw[h.ev (by rw[dr];simp only[Op.operands,Call.operands,aR,bW,ha];simp)]
   ·rfl
  ·split
   ·rename_i x l ha
    rw[h.ev (by rw[dr];simp only[Op.operands,Call.operands,aR,bW,ha];simp)]
   ·rfl
  ·split
   ·rename_i x l ha
    rw[h.ev (by rw[dr];simp only[Op.operands,Call.operands,aR,bW,ha];simp)]
   ·rfl
  ·split
   ·rename_i x l ha
    rw[h.ev (by rw[dr];simp only[Op.operands,Call.operands,aR,bW,ha];simp)]
   ·rfl
  ·rename_i F
   simp only at Oa
   have hm:∀z,z=F\/z∈args.toList->z∈o.op.operands.toList:=λz hz=>by
    rw[dr]
    simp only[Op.operands,Call.operands,bW,bt]
    rcases hz with rfl | hz
    ·exact .inl (by simp)
    ·exact .inr hz
   have h1:t.ev F=s.ev F:=h.ev (hm F (.inl rfl))
   have h2:args.toList.map t.ev=args.toList.map s.ev:=gr λx hx=>h.ev (hm x (.inr hx))
   rw[h1]
   split
   ·rename_i f caps hF
    simp only[hF]at Oa
    rw[h2]
    split
    ·rename_i en LI
     simp only[LI]at Oa
     exact pQ _ _ _ λid dq=>by rw[Oa id dq]
    ·rfl
   ·rfl
  ·rfl
 ·rfl
theorem AF(h:kR (gS Γ ops s o) s t):gS Γ ops t o=gS Γ ops s o:=by
 have h1:=E8 h
 have h2:GI t o=GI s o:=by
  unfold GI
  split
  ·rfl
  unfold List.flatMap
  congr 1
  exact gr λi hi=>by rw[h.cr i (bt.2 (.inl hi))]
 unfold gS
 rw[h1,h2]
theorem pK{xs ys:List Id}(h:meets xs ys=false){id:Id}(hx:id∈xs):id ∉ ys:=by
 intro hy
 have:meets xs ys=true:=by
  unfold meets
  exact List.any_eq_true.2 ⟨id,hx,List.any_eq_true.2 ⟨id,hy,by simp⟩⟩
 rw[h]at this;cases this
theorem oI{d:Option Tmp}{ids:List Id}(h:B6 d ids=false){q:Nat}(hd:d=some q)(j:Nat):Id.new q j ∉ ids:=by
 intro hy
 have:B6 d ids=true:=by
  subst hd
  exact List.any_eq_true.2 ⟨_,hy,by simp⟩
 rw[h]at this;cases this
theorem vk{f g:ur}(h:f.TS g=false){q:Nat}(hd:f.dst=some q):q ∉ g.cr/\g.dst≠some q:=by
 unfold ur.TS at h
 rw[hd]at h
 simp only[Bool.or_eq_false_iff,jl,decide_eq_true_eq,decide_eq_false_iff_not]at h
 exact⟨λhx=>h.1 q hx rfl,h.2⟩
theorem G7(s:AS)(d:Option Tmp)(v:av)(i:Nat)(h:d≠some i):(s.put d v).slot i=s.slot i:=by
 cases d with
 |none=>rfl
 |some q=>rw[B8,if_neg];rintro⟨rfl,_⟩;exact h rfl
theorem App.slot{d:Option Tmp}{E:Ss}{s s':AS}(h:App d E s s')(i:Nat)(hi:d≠some i):s'.slot i=s.slot i:=by
 rw[<-G7 s d E.v i hi]
 simp only[AS.slot,h.cr]
theorem Fl{f f':ur}{E:Ss}{s s1:AS}(ha:App f.dst E s s1)(hw:D9 f s E)(WI:∀id∈f'.ws,id∈f'.rs)(h1:f.TS f'=false)(h2:meets f.ws f'.rs=false)(h3:meets f'.ws f.rs=false)
  (h4:B6 f.dst f'.rs=false):(∀i∈f'.cr,s1.slot i=s.slot i)/\(∀id∈f'.ws,s1.bZ id=s.bZ id)/\(∀id∈f'.rs,qQ (s1.bZ id) (s.bZ id))/\∀q,f'.dst=some q->s1.ek q=s.ek q:=by
 have zO:∀id∈f'.rs,E.up id=none:=λid dq=>by
  cases hu:E.up id with
  |none=>rfl
  |some e=>
   rcases hw.up id e hu with⟨h,_⟩ | ⟨q,j,hd,rfl⟩
   ·exact absurd dq (pK h2 h)
   ·exact absurd dq (oI h4 hd j)
 refine⟨λi hi=>ha.slot i λhd=>(vk h1 hd).1 hi,λid dq=> ?_,λid dq=> ?_,λq hq=> ?_⟩
 ·rw[ha.bZ,zO id (WI id dq)]
  have:id ∉ E.fz:=λhz=>pK h3 dq (hw.fz id hz)
  simp only[if_neg this]
 ·rw[ha.bZ,zO id dq]
  simp only
  split
  ·exact Lm _
  ·exact Ln _
 ·have fL:∀j,(s1.bZ (.new q j)=none↔s.bZ (.new q j)=none):=λj=>by
   rw[ha.bZ]
   cases hu:E.up (.new q j) with
   |none=>
    simp only
    split <;> simp
   |some e=>
    rcases hw.up _ e hu with⟨_,h⟩ | ⟨q',j',hd,he⟩
    ·simp[h]
    ·simp only[Id.new.injEq]at he
     obtain⟨rfl,_⟩:=he
     exact absurd hq (vk h1 hd).2
  rw[Bool.eq_iff_iff,rH,rH,ha.len]
  exact and_congr Iff.rfl (forall_congr' fL)
theorem uF(s:AS)(o:Oper):∀id∈(gS Γ ops s o).ws,id∈(gS Γ ops s o).rs:=λ_ dq=>bt.2 (.inr dq)
theorem swap{o':Oper}{s1 s2:AS}(h1:vJ P Γ bK ops o s=some s1)(h2:vJ P Γ bK ops o' s1=some s2)(hi:(gS Γ ops s o).indep (gS Γ ops s1 o')=true):
  ∃t1,vJ P Γ bK ops o' s=some t1/\vJ P Γ bK ops o t1=some s2/\gS Γ ops s o'=gS Γ ops s1 o'/\gS Γ ops t1 o=gS Γ ops s o:=by
 unfold ur.indep at hi
 simp only[aj,cC]at hi
 obtain⟨⟨⟨⟨⟨i1,i2⟩,i3⟩,i4⟩,i5⟩,i6⟩:=hi
 obtain⟨E,a1,w1,l1⟩:=AK h1
 obtain⟨E',a2,w2,l2⟩:=AK h2
 obtain⟨g1,g2,g3,g4⟩:=Fl (f:=gS Γ ops s o) (f':=gS Γ ops s1 o') a1 w1 (uF _ _) i1 i3 i4 i5
 have w6:kR (gS Γ ops s1 o') s1 s:=⟨λi hi=>(g1 i hi).symm,λid dq=>(g2 id dq).symm,λid dq=>by
  have:=g3 id dq
  revert this
  cases s1.bZ id <;> cases s.bZ id <;> simp only[qQ] <;> intro h <;> first | trivial | exact h | skip
  rename_i a b
  cases a <;> cases b <;> simp_all [dS.Fe],λq hq=>(g4 q hq).symm⟩
 obtain⟨t1,k1,k2⟩:=l2 s w6
 have hf':=AF w6
 have w2':D9 (gS Γ ops s1 o') s E':=⟨λid e hu=>by
  rcases w2.up id e hu with⟨h,hn⟩ | h
  ·exact .inl ⟨h,by rw[<-g2 id h];exact hn⟩
  ·exact .inr h,w2.fz⟩
 obtain⟨m1,m2,m3,m4⟩:=Fl (f:=gS Γ ops s1 o') (f':=gS Γ ops s o) k2 w2' (uF _ _) i2 i4 i3 i6
 have Tt:kR (gS Γ ops s o) s t1:=⟨m1,m2,m3,m4⟩
 obtain⟨t2,k3,k4⟩:=l1 t1 Tt
 refine⟨t1,k1,?_,hf',AF Tt⟩
 rw[k3]
 congr 1
 have Uf:∀id e,E.up id=some e->E'.up id=none/\id ∉ E'.fz:=λid e hu=>by
  rcases w1.up id e hu with⟨h,hn⟩ | ⟨q,j,hd,rfl⟩
  ·refine⟨?_,λhz=>pK i3 h (w2.fz id hz)⟩
   cases hu':E'.up id with
   |none=>rfl
   |some e'=>
    rcases w2.up id e' hu' with⟨h',_⟩ | ⟨q,j,hd,rfl⟩
    ·exact absurd (uF _ _ id h') (pK i3 h)
    ·exact absurd (uF _ _ _ h) (oI i6 hd j)
  ·refine⟨?_,λhz=>oI i5 hd j (w2.fz _ hz)⟩
   cases hu':E'.up (.new q j) with
   |none=>rfl
   |some e'=>
    rcases w2.up _ e' hu' with⟨h',_⟩ | ⟨q',j',hd',he⟩
    ·exact absurd (uF _ _ _ h') (oI i5 hd j)
    ·simp only[Id.new.injEq]at he
     obtain⟨rfl,_⟩:=he
     exact absurd hd' (vk i1 hd).2
 have WQ:∀id e,E'.up id=some e->E.up id=none/\id ∉ E.fz:=λid e hu=>by
  have hn:E.up id=none:=by
   cases Ze:E.up id with
   |none=>rfl
   |some e1=>rw[(Uf id e1 Ze).1]at hu;cases hu
  refine⟨hn,λhz=> ?_⟩
  rcases w2.up id e hu with⟨h,_⟩ | ⟨q,j,hd,rfl⟩
  ·exact pK i4 h (w1.fz id hz)
  ·exact oI i6 hd j (w1.fz _ hz)
 refine AS.My ?_ (by rw[k4.len,k2.len,a2.len,a1.len]) λid=> ?_
 ·have e1:∀(u u':AS) (d:Option Tmp) (v:av),u.cr=u'.cr->(u.put d v).cr=(u'.put d v).cr:=λu u' d v h=>by cases d <;> simp[AS.put,h]
  rw[k4.cr,a2.cr,e1 t1 (s.put o'.dst E'.v) _ _ k2.cr,e1 s1 (s.put o.dst E.v) _ _ a1.cr]
  cases hd:o.dst with
  |none=>cases o'.dst <;> rfl
  |some q=>
   cases hd':o'.dst with
   |none=>rfl
   |some q'=>
    have fL:q'≠q:=λe=>(vk (f:=gS Γ ops s o) i1 hd).2 (by show o'.dst=some q;rw[hd',e])
    simp only[AS.put]
    exact List.set_comm _ _ fL
 ·rw[k4.bZ,k2.bZ,a2.bZ,a1.bZ]
  cases hu:E.up id with
  |some e=>
   obtain⟨h3,h4⟩:=Uf id e hu
   simp only[h3,if_neg h4]
  |none=>
   simp only
   cases hu':E'.up id with
   |some e=>
    obtain⟨_,h4⟩:=WQ id e hu'
    simp only[if_neg h4]
   |none=>
    simp only
    by_cases z1:id∈E.fz <;> by_cases z2:id∈E'.fz <;> simp only[if_pos,if_neg,z1,z2,not_false_eq_true]
end
end Go.Ab
namespace Go.Ab
section
variable {P:Program} {Γ:mR} {bK:List Nat} {ops:Array Oper}
def Fi(P:Program)(Γ:mR)(bK:List Nat)(ops:Array Oper)(fs:Nat->ur):List Nat->AS->AS->Prop
 |[],s,sn=>s=sn
 |i::l,s,sn=>∃o,ops[i]? =some o/\gS Γ ops s o=fs i/\∃s',vJ P Γ bK ops o s=some s'/\Fi P Γ bK ops fs l s' sn
theorem Fi.Mg{fs:Nat->ur}{i:Nat}{l2:List Nat}{sn:AS}:∀(l1:List Nat) {s:AS},Fi P Γ bK ops fs (l1++i::l2) s sn->(∀j∈l1,(fs j).indep (fs i)=true)->Fi P Γ bK ops fs (i::(l1++l2)) s sn
 |[],_,h,_=>h
 |j::l1,s,h,hi=>by
  obtain⟨oj,h1,h2,s1,h3,h4⟩:=h
  obtain⟨oi,h5,h6,s2,h7,h8⟩:=Fi.Mg l1 h4 λj hj=>hi j (aF _ hj)
  have hd:=hi j (aH ..)
  rw[<-h2,<-h6]at hd
  obtain⟨t1,k1,k2,k3,k4⟩:=swap h3 h7 hd
  exact⟨oi,h5,by rw[k3,h6],t1,k1,oj,h1,by rw[k4,h2],s2,k2,h8⟩
theorem Dt{R:Type}{anc:List Nat}{k:AS->Option R}{r:R}:∀(l:List Oper) (i:Nat) (acc:List (Nat×ur)) (s:AS) (f0:Nat->ur),(∀n o,l[n]? =some o->ops[i+n]? =some o)->(∀x∈acc,f0 x.1=x.2/\x.1 < i)->
  Ds P Γ bK ops anc i l acc s k=some r->∃fs sn,(∀j,j < i->fs j=f0 j)/\Fi P Γ bK ops fs (List.range' i l.length) s sn/\k sn=some r/\
   (∀x∈acc,∀m,i<=m->m < i+l.length->(anc.getD m 0).testBit x.1=true\/x.2.indep (fs m)=true)/\(∀m1 m2,i<=m1->m1 < m2->m2 < i+l.length->(anc.getD m2 0).testBit m1=true\/(fs m1).indep (fs m2)=true)
 |[],i,acc,s,f0,_,_,h=>⟨f0,s,λ_ _=>rfl,rfl,h,λ_ _ m h1 h2=>by simp at h2;omega,λ_ _ h1 h2 h3=>by simp at h3;omega⟩
 |o::l,i,acc,s,f0,ho,hf,h=>by
  unfold Ds at h
  split at h
  ·rename_i uG
   simp only[AS.xV]at h
   obtain⟨s',h1,h2⟩:=F2 (k:=λs'=>Ds P Γ bK ops anc (i+1) l ((i,gS Γ ops s o)::acc) s' k) h
   have VY:∀x∈(i,gS Γ ops s o)::acc,(if x.1=i then gS Γ ops s o else f0 x.1)=x.2/\x.1 < i+1:=λx hx=>by
    rcases cX.1 hx with rfl | hx
    ·simp
    ·obtain⟨q1,q2⟩:=hf x hx
     rw[if_neg (by omega)]
     exact⟨q1,by omega⟩
   obtain⟨fs,sn,g1,g2,g3,g4,g5⟩:=Dt l (i+1) ((i,gS Γ ops s o)::acc) s' (λn=>if n=i then gS Γ ops s o else f0 n)
    (λn o' hn=>by have:=ho (n+1) o' (by simpa using hn);rw[<-this];congr 1;omega) VY h2
   have gi:fs i=gS Γ ops s o:=by rw[g1 i (by omega),if_pos rfl]
   refine⟨fs,sn,λj hj=>by rw[g1 j (by omega),if_neg (by omega)],?_,g3,λx hx m h3 h4=> ?_,λm1 m2 h3 h4 h5=> ?_⟩
   ·rw[aB,List.range'_succ]
    exact⟨o,ho 0 o rfl,gi.symm,s',h1,g2⟩
   ·rcases Nat.eq_or_lt_of_le h3 with rfl | h3
    ·have:=dv.1 uG x hx
     simp only[ix]at this
     rcases this with h | h
     ·exact .inl h
     ·right;rw[gi];exact h
    ·exact g4 x (aF _ hx) m (by omega) (by simp only[aB]at h4;omega)
   ·rcases Nat.eq_or_lt_of_le h3 with rfl | h3
    ·rw[gi]
     exact g4 (i,gS Γ ops s o) (aH ..) m2 (by omega) (by simp only[aB]at h5;omega)
    ·exact g5 m1 m2 (by omega) h4 (by simp only[aB]at h5;omega)
  ·cases h
theorem Ft{acc:List Nat}{j:Nat}:∀ {l:List Edge},(l.foldr (λe m=>Nat.lor (Nat.lor (Nat.pow 2 e.on) (acc.getD e.on 0)) m) 0).testBit j=true->∃e∈l,j=e.on\/(acc.getD e.on 0).testBit j=true
 |[],h=>by simp at h
 |e::l,h=>by
  rw[List.foldr_cons,show ∀x y,Nat.lor x y=x ||| y from λ_ _=>rfl,show ∀x y,Nat.lor x y=x ||| y from λ_ _=>rfl,Nat.testBit_or,Nat.testBit_or,show Nat.pow 2 e.on=2^e.on from rfl,Nat.testBit_two_pow]at h
  simp only[ix,decide_eq_true_eq]at h
  rcases h with(h | h) | h
  ·exact⟨e,aH ..,.inl h.symm⟩
  ·exact⟨e,aH ..,.inr h⟩
  ·obtain⟨e',h1,h2⟩:=Ft h
   exact⟨e',aF _ h1,h2⟩
theorem C7:∀(l:List Oper) (acc:List Nat),(∀i,i < acc.length->(l.foldl (λacc o=>acc++ [Ea acc o]) acc)[i]? =acc[i]?)/\
  ∀i o,l[i]? =some o->(l.foldl (λacc o=>acc++ [Ea acc o]) acc)[acc.length+i]? =some (Ea ((l.foldl (λacc o=>acc++ [Ea acc o]) acc).take (acc.length+i)) o)
 |[],acc=>⟨λ_ _=>rfl,λi o h=>by simp at h⟩
 |x::l,acc=>by
  obtain⟨h1,h2⟩:=C7 l (acc++ [Ea acc x])
  simp only[bT]
  refine⟨λi hi=> ?_,λi o hi=> ?_⟩
  ·rw[h1 i (by simp;omega),fq hi]
  ·cases i with
   |zero=>
    simp only[fS,aq]at hi
    subst hi
    rw[cF,h1 _ (by simp)]
    have:(l.foldl (λacc o=>acc++ [Ea acc o]) (acc++ [Ea acc x])).take acc.length=acc:=by
     apply j5
     intro j
     rw[dp]
     split
     ·rename_i hj
      rw[h1 j (by simp;omega),fq hj]
     ·rename_i hj
      rw[dM (by omega)]
    rw[this]
    simp
   |succ i=>
    have:=h2 i o (by simpa using hi)
    simp only[ae,aB,bn,aI]at this
    rw[show acc.length+(i+1)=acc.length+1+i by omega]
    exact this
theorem L8{l:List Oper}{i:Nat}{o:Oper}(hi:l[i]? =some o){j:Nat}(hj:((Fu l).getD i 0).testBit j=true):∃e∈o.after.toList,Region.binds .any e=true/\(j=e.on\/((Fu l).getD e.on 0).testBit j=true):=by
 have h:=(C7 l []).2 i o hi
 have e:Fu l=l.foldl (λacc o=>acc++ [Ea acc o]) []:=rfl
 rw[<-e]at h
 simp only[bn,aI]at h
 rw[aA,h]at hj
 obtain⟨e,h1,h3⟩:=Ft hj
 obtain⟨h1,h2⟩:=nh.1 h1
 refine⟨e,h1,h2,h3.imp id λh4=> ?_⟩
 rw[aA,dp]at h4
 split at h4
 ·rw[aA];exact h4
 ·simp at h4
def D1(n:Nat)(listed:Array Bool):List Nat:=(List.range n).filter λi=> !listed.getD i true
theorem xC{n:Nat}{listed:Array Bool}{i:Nat}:i∈D1 n listed↔i < n/\listed.getD i true=false:=by simp[D1]
theorem wY(n:Nat)(listed:Array Bool):(D1 n listed).Pairwise (· < ·):=(List.pairwise_lt_range).filter _
theorem AJ{listed:Array Bool}{i j:Nat}(d:Bool)(hi:i < listed.size):(listed.setIfInBounds i true).getD j d=if j=i then true else listed.getD j d:=by
 simp only[cJ,ea]
 by_cases h:i=j
 ·subst h;simp[hi]
 ·simp[h,Ne.symm h]
theorem PC{listed:Array Bool}{i:Nat}(hi:i < listed.size){l1 l2:List Nat}(h:D1 listed.size listed=l1++i::l2):D1 listed.size (listed.setIfInBounds i true)=l1++l2:=by
 have hs:=wY listed.size listed
 rw[h]at hs
 obtain⟨p1,p2,p3⟩:=List.pairwise_append.1 hs
 obtain⟨p4,_⟩:=List.pairwise_cons.1 p2
 have e:D1 listed.size (listed.setIfInBounds i true)=(D1 listed.size listed).filter λj=>decide (j≠i):=by
  unfold D1
  rw[List.filter_filter]
  refine List.filter_congr λj _=> ?_
  rw[AJ true hi]
  by_cases hj:j=i
  ·simp[hj]
  ·simp[hj]
 rw[e,h,List.filter_append,List.filter_cons]
 have f1:l1.filter (λj=>decide (j≠i))=l1:=jq.2 λj hj=>by
  have:=p3 j hj i (aH ..)
  simp;omega
 have f2:l2.filter (λj=>decide (j≠i))=l2:=jq.2 λj hj=>by
  have:=p4 j hj
  simp;omega
 rw[f1,f2]
 simp
theorem J8{rd:Option Nat}{n:Nat}{C:Ctx}(hΓ:Sound P Γ){fs:Nat->ur}{sn:AS}{Q:Exit->Act->World->Prop}(hE:Ej ops.toList=true)
  (Wh:∀m1 m2,m1 < m2->m2 < ops.size->((Fu ops.toList).getD m2 0).testBit m1=true\/(fs m1).indep (fs m2)=true) (hQ:∀a w,iE C sn a w->Q .normal a w):
  ∀(fuel:Nat) (listed:Array Bool) (s:AS) (a:Act) (w:World),listed.size=ops.size->(D1 ops.size listed).length=fuel->
   (∀i,i < ops.size->listed.getD i true=true->∀j,((Fu ops.toList).getD i 0).testBit j=true->listed.getD j false=true)->Fi P Γ bK ops fs (D1 ops.size listed) s sn->iE C s a w->wpAnyIn (Fr rd) n P .any ops Q fuel listed a w:=by
 have PT:∀i o,ops[i]? =some o->∀e∈o.after.toList,Region.binds .any e=true->e.on < i:=λi o hi e he hb=>by
  have:=dv.1 hE (o,i) (List.mem_zipIdx_iff_getElem?.2 (by simpa using hi))
  have:=dv.1 this e he
  simpa[hb]using this
 have Rs:∀(listed:Array Bool),listed.size=ops.size->∀i,i∈Region.ready .any ops listed↔i∈D1 ops.size listed/\∀o,ops[i]? =some o->∀e∈o.after.toList,Region.binds .any e=true->listed.getD e.on false=true:=λlisted _ i=>by
  rw[xC]
  unfold Region.ready
  simp only[nh,List.mem_range,aj,cC]
  constructor
  ·rintro⟨h1,h2,h3⟩
   refine⟨⟨h1,h2⟩,λo ho e he hb=> ?_⟩
   rw[ho]at h3
   simp only[ee,dW,Array.all_eq_true',ix,cC]at h3
   rcases h3 e (by simpa using he) with h | h
   ·rw[hb]at h;cases h
   ·exact h
  ·rintro⟨⟨h1,h2⟩,h3⟩
   refine⟨h1,h2,?_⟩
   obtain⟨o,ho⟩:∃o,ops[i]? =some o:=⟨ops[i],by simp[h1]⟩
   rw[ho]
   simp only[ee,dW,Array.all_eq_true',ix,cC]
   intro e he
   cases hb:Region.binds .any e with
   |false=>exact .inl rfl
   |true=>exact .inr (h3 o ho e (by simpa using he) hb)
 have mJ:∀(listed:Array Bool),listed.size=ops.size->Region.ready .any ops listed=[]->D1 ops.size listed=[]:=λlisted hs hr=>by
  cases hu:D1 ops.size listed with
  |nil=>rfl
  |cons i l=>
   exfalso
   have hi:i∈D1 ops.size listed:=by rw[hu];exact aH ..
   have Uc:=wY ops.size listed
   rw[hu]at Uc
   have:i∈Region.ready .any ops listed:=(Rs listed hs i).2 ⟨hi,λo ho e he hb=>by
    have iv:=PT i o ho e he hb
    have F7:=(xC.1 hi).1
    cases hl:listed.getD e.on true with
    |false=>
     have hm:e.on∈D1 ops.size listed:=xC.2 ⟨by omega,hl⟩
     rw[hu]at hm
     rcases cX.1 hm with h | h
     ·omega
     ·have:=(List.pairwise_cons.1 Uc).1 _ h;omega
    |true=>
     have:e.on < listed.size:=by omega
     simp only[cJ,fp this,dW]at hl ⊢
     exact hl⟩
   rw[hr]at this
   cases this
 intro fuel
 induction fuel with
 |zero=>
  intro listed s a w hs hl _ hr lZ
  have hn:D1 ops.size listed=[]:=bF hl
  refine⟨?_,?_⟩
  ·cases WC:Region.ready .any ops listed with
   |nil=>rfl
   |cons i l=>
    have:i∈Region.ready .any ops listed:=by rw[WC];exact aH ..
    have:=((Rs listed hs i).1 this).1
    rw[hn]at this;cases this
  ·rw[hn]at hr
   have:s=sn:=hr
   subst this
   exact hQ a w lZ
 |succ fuel ih=>
  intro listed s a w hs hl LH hr lZ
  refine⟨λWC=> ?_,λi hi=> ?_⟩
  ·have:=mJ listed hs WC
   rw[this]at hl;simp at hl
  ·obtain⟨hu,TJ⟩:=(Rs listed hs i).1 hi
   obtain⟨F7,ZQ⟩:=xC.1 hu
   obtain⟨o,ho⟩:∃o,ops[i]? =some o:=⟨ops[i],by simp[F7]⟩
   obtain⟨l1,l2,MP⟩:=List.append_of_mem hu
   have Uc:=wY ops.size listed
   rw[MP]at Uc
   have Tw:∀j,((Fu ops.toList).getD i 0).testBit j=true->listed.getD j false=true:=λj hj=>by
    obtain⟨e,he,hb,h | h⟩:=L8 (by simpa using ho) hj
    ·rw[h];exact TJ o ho e he hb
    ·have h1:=TJ o ho e he hb
     have h2:=PT i o ho e he hb
     refine LH e.on (by omega) ?_ j h
     have:e.on < listed.size:=by omega
     simp only[cJ,fp this,dW]at h1 ⊢
     exact h1
   rw[MP]at hr
   have hb:=Fi.Mg l1 hr λj hj=>by
    have iv:j < i:=(List.pairwise_append.1 Uc).2.2 j hj i (aH ..)
    rcases Wh j i iv F7 with h | h
    ·have h1:=Tw j h
     have YP:j∈D1 ops.size listed:=by rw[MP];exact bt.2 (.inl hj)
     have h2:=(xC.1 YP).2
     have:j < listed.size:=by omega
     simp only[cJ,fp this,dW]at h1 h2
     rw[h1]at h2;cases h2
    ·exact h
   obtain⟨o',ho',hf,s',hg,mF⟩:=hb
   obtain rfl:o=o':=by rw[ho]at ho';simpa using ho'
   have EA:D1 ops.size (listed.setIfInBounds i true)=l1++l2:=by
    rw[<-hs]at MP ⊢
    exact PC (by omega) MP
   refine((Dr hΓ lZ hg).mono λa' w' hst'=>ih (listed.setIfInBounds i true) s' a' w' (by simpa using hs) ?_ ?_ (by rw[EA];exact mF) hst').wpOpIn ho
   ·rw[EA]
    rw[MP]at hl
    simp only[ae,aB]at hl ⊢
    omega
   ·intro m hm Vg j hj
    rw[AJ false (by omega)]
    split
    ·rfl
    ·rw[AJ true (by omega)]at Vg
     split at Vg
     ·rename_i YW
      subst YW
      exact Tw j hj
     ·exact LH m hm Vg j hj
theorem GW{rd:Option Nat}{n:Nat}{C:Ctx}(hm:P.follows .mixedOrders=true)(hΓ:Sound P Γ){id:Nat}{R:Type}{Q:Exit->Act->World->Prop}{s:AS}{a:Act}{w:World}{k:AS->Option R}{r:R}(h:iE C s a w)(hE:Ej ops.toList=true)
  (he:Ds P Γ bK ops (Fu ops.toList) 0 ops.toList [] s k=some r) (hk:∀s' a' w',iE C s' a' w'->k s'=some r->Q .normal a' w'):(Code.region id ops true).wpIn (Fr rd) n P Q a w:=by
 obtain⟨fs,sn,_,g2,g3,_,g5⟩:=Dt ops.toList 0 [] s (λ_=>⟨none,[],[],[]⟩) (λn o hn=>by simpa using hn) (λ_ hx=>by cases hx) he
 refine wpIn_region_any hm ?_
 obtain⟨g,β,h⟩:=h
 have hu:D1 ops.size (Array.replicate ops.size false)=List.range' 0 ops.toList.length:=by
  unfold D1
  rw[jq.2]
  ·simp[List.range_eq_range']
  ·intro i hi
   have hi:i < ops.size:=by simpa using hi
   simp[cJ,hi]
 refine J8 (bK:=bK) hΓ hE (fs:=fs) (sn:=sn) (λm1 m2 h1 h2=>g5 m1 m2 (aK _) h1 (by simpa using h2)) (λa' w' hs=>hk sn a' w' hs g3) ops.size _ s a _ (by simp) (by rw[hu];simp) (λi hi hl=> ?_) (by rw[hu];exact g2) ⟨g,β,h.drew⟩
 simp[cJ,hi]at hl
end
end Go.Ab
namespace Go.Ab
theorem pU{ρ:Ren}{s:AS}(h:∀id,(s.obj id).isSome=true->∀ver,ρ id ver=some (id,ver)):∀(v:av),v.there s=true->v.iW ρ=v
 | .ptr id ver p n,ht=>by simp only[av.iW];rw[h id ht]
 | .aS id ver p c i len,ht=>by simp only[av.iW];rw[h id ht]
 | .pr a b,ht=>by
  simp only[av.there,aj]at ht
  simp only[av.iW];rw[pU h a ht.1,pU h b ht.2]
 | .cons a b,ht=>by
  simp only[av.there,aj]at ht
  simp only[av.iW];rw[pU h a ht.1,pU h b ht.2]
 | .fn f c,ht=>by simp only[av.iW];rw[pU h c ht]
 | .bx e z c,ht=>by simp only[av.iW];rw[pU h c ht]
 | .db id ver,ht=>by simp only[av.iW];rw[h id ht]
 | .yl id ver,ht=>by simp only[av.iW];rw[h id ht]
 | .mr k f p,ht=>by simp only[av.iW];rw[pU h f ht]
 | .nH ..,ht=>by cases ht
 | .undef,_ | .gone,_ | .di,_ | .mO,_ | .pL,_ | .sw,_ | .d _ _,_ | .eD _ _,_ | .nil,_ | .vec ..,_ | .mp ..,_ | .sb _,_=>rfl
theorem Su.bo{E E':Env}(hm:oe E E')(hh:∀b:Nat,E'.w.heap[b]? =E.w.heap[b]?){i q:Id}{ver:Nat}{kt vt:Ty}{rest:List (kt.den×vt.den)}{cur:Option (kt.den×vt.den)}(h:Su E i q ver kt vt rest cur)(hβ:E'.β i=E.β i)
  (hg:∀pl,E.β i=some pl->E.g pl.b= .own (.id i) 0->E'.g pl.b= .own (.id i) 0)
  (hq:∀vr,ver=vr+1->(E.tS q vr->E'.tS q vr/\(E'.cur q vr->E.cur q vr/\E'.β q=E.β q))/\(∀k v l,E.s q=some (.obj vr true (.mp k v l))->E'.s q=some (.obj vr true (.mp k v l)))/\
   ∀pl,E.β q=some pl->E.g pl.b= .own (.id q) 0->E'.g pl.b= .own (.id q) 0):Su E' i q ver kt vt rest cur:=by
 obtain⟨pl,mb,since,seen,c0,h1,h2,h3,h4⟩:=h
 refine⟨pl,mb,since,seen,c0,by rw[hβ,h1],by rw[hh,h2],hg pl h1 h3,λvr Ib=> ?_⟩
 obtain⟨h5,h6⟩:=h4 vr Ib
 obtain⟨q1,q2,q3⟩:=hq vr Ib
 obtain⟨b1,b2⟩:=q1 h5
 refine⟨b1,λhc=> ?_⟩
 obtain⟨c1,c2⟩:=b2 hc
 obtain⟨⟨k,v,l,k0⟩,plq,es,clock,k1,k2,k3,k4,k5,k6,k7,k8,k9⟩:=h6 c1
 exact⟨⟨k,v,l,q2 _ _ _ k0⟩,plq,es,clock,by rw[c2,k1],k2,by rw[hh,k3],q3 _ k1 k4,k5,k6,k7,k8.mono hm,λx hx=>
  let⟨e,se,a1,a2,a3,a4⟩:=k9 x hx
  ⟨e,se,a1,a2,a3,a4.mono hm⟩⟩
theorem MW(c:av):(∃q ver k v l cu,c= .nH q ver k v l cu)\/(∀ρ kp,c.RW ρ kp=c.iW ρ)/\∀s v fr,dS.there s (.obj v fr c)=c.there s:=by
 cases c <;> first | exact .inl ⟨_,_,_,_,_,_,rfl⟩ | exact .inr ⟨λ_ _=>rfl,λ_ _ _=>rfl⟩
section
variable {P:Program} {C:Ctx} {g:Nat->kY} {β:Id->Option Pl} {s:AS} {a:Act} {w:World}
theorem Inv.DQ(h:Inv C g β s a w)(hC:C.ok){s1:AS}{g1:Nat->kY}{β1:Id->Option Pl}(ρ:Ren)(hlen:s1.cr.length=s.cr.length)(ht:Trans w w g g1)(hle:rP ρ (s.env w g β) (s1.env w g1 β1))
  (AR:∀i,VS (s1.env w g1 β1) (s1.slot i) (a.tmps.getD i undef))
  (cV:∀id ver fr c,s1.bZ id=some (.obj ver fr c)->pE (s1.env w g1 β1) id fr c\/∃id0 v0 c0,s.bZ id0=some (.obj v0 fr c0)/\c0.iW ρ=c/\β1 id=β id0/\∀pl,β id0=some pl->(∀k,g pl.b= .own (.id id0) k->g1 pl.b= .own (.id id) k)/\(g pl.b= .free->g1 pl.b= .free))
  (hold:∀k,(s.bZ (.aV k)≠none->s1.bZ (.aV k)≠none)/\(∀v fr c,s1.bZ (.aV k)=some (.obj v fr c)->∃c0,s.bZ (.aV k)=some (.obj v fr c0))/\β1 (.aV k)=β (.aV k)):Inv C g1 β1 s1 a w:=by
 refine⟨h.defers.mono ht,by rw[hlen];exact h.size,AR,λid ver fr c dq=> ?_,h.trans.trans ht,?_⟩
 ·rcases cV id ver fr c dq with ho | ⟨id0,v0,c0,h1,h2,h3,h4⟩
  ·exact ho
  have:=pF hle (h.bK id0 v0 fr c0 h1) (id':=id) h3 λpl hp=>⟨rfl,(h4 pl hp).1,(h4 pl hp).2⟩
  rw[h2]at this
  exact this
 ·have hl:=h.le
  have ho:∀id ver,C.E.tS id ver->∃k,id= .aV k:=λid ver hb=>by
   cases id with
   |aV k=>exact⟨k,rfl⟩
   |new i j=>exact absurd (hC.1 i j) hb.1
  refine⟨hl.mem.trans (Trans.mem (E:=s.env w g β) (E':=s1.env w g1 β1) ht),λid ver hb=> ?_,λid ver hb hc=> ?_⟩
  ·obtain⟨k,rfl⟩:=ho id ver hb
   obtain⟨h1,h2⟩:=hl.tS _ ver hb
   obtain⟨e1,e2,_⟩:=hold k
   exact⟨e1 h1,λv fr c hh=>let⟨c0,Aa⟩:=e2 v fr c hh;h2 v fr c0 Aa⟩
  ·obtain⟨k,rfl⟩:=ho id ver hb
   obtain⟨fr,c,hc⟩:=hc
   obtain⟨_,e2,e3⟩:=hold k
   obtain⟨c0,Aa⟩:=e2 _ _ _ hc
   obtain⟨h1,h2⟩:=hl.cur _ ver hb ⟨fr,c0,Aa⟩
   exact⟨h1,e3.trans h2⟩
theorem Inv.renamed(h:Inv C g β s a w)(hC:C.ok){s1:AS}{β1:Id->Option Pl}(ρ:Ren)(hlen:s1.cr.length=s.cr.length)(hle:rP ρ (s.env w g β) (s1.env w g β1))
  (AR:∀i,VS (s1.env w g β1) (s1.slot i) (a.tmps.getD i undef)) (cV:∀id ver fr c,s1.bZ id=some (.obj ver fr c)->pE (s1.env w g β1) id fr c\/∃v0,s.bZ id=some (.obj v0 fr c)/\c.iW ρ=c/\β1 id=β id)
  (hold:∀k,s1.bZ (.aV k)=s.bZ (.aV k)/\β1 (.aV k)=β (.aV k)):Inv C g β1 s1 a w:=
 h.DQ hC ρ hlen (Trans.refl w g) hle AR (λid ver fr c dq=>(cV id ver fr c dq).imp (λh=>h) λ⟨v0,h1,h2,h3⟩=>⟨id,v0,c,h1,h2,h3,λ_ _=>⟨λ_ h=>h,λh=>h⟩⟩)
  λk=>⟨λhh=>by rw[(hold k).1];exact hh,λv fr c hh=>⟨c,(hold k).1.symm.trans hh⟩,(hold k).2⟩
theorem Inv.UD(h:Inv C g β s a w)(j:Nat){v:av}(hv:VS (s.env w g β) v (a.tmps.getD j undef)):Inv C g β (s.put (some j) v) a w:=by
 refine⟨h.defers,by simpa[AS.put]using h.size,λi=> ?_,by simpa using h.bK,h.trans,by simpa using h.le⟩
 rw[El,B8]
 split
 ·rename_i Ve;rw[Ve.1];exact hv
 ·exact h.cr i
theorem y3(bo:List Nat):∀(l:List av) (n i:Nat),(eT bo n l).getD i .undef= .undef\/(eT bo n l).getD i .undef=l.getD i .undef
 |[],n,i=>by simp[eT]
 |v::l,n,0=>by
  simp only[eT,kz]
  split
  ·exact .inr rfl
  ·exact .inl rfl
 |v::l,n,i+1=>by
  simp only[eT,List.getD_cons_succ]
  exact y3 bo l (n+1) i
theorem sr(bo:List Nat):∀(l:List av) (n:Nat),(eT bo n l).length=l.length
 |[],n=>rfl
 |v::l,n=>by simp[eT,sr bo l]
theorem DU(bo:List Nat):∀(l:List (List dS)) (n i:Nat),(lI bo n l).getD i []=[]\/(lI bo n l).getD i []=l.getD i []
 |[],n,i=>by simp[lI]
 |v::l,n,0=>by
  simp only[lI,kz]
  split
  ·exact .inr rfl
  ·exact .inl rfl
 |v::l,n,i+1=>by
  simp only[lI,List.getD_cons_succ]
  exact DU bo l (n+1) i
theorem KU{s:AS}(i:Nat):s.slot i= .undef\/s.slot i∈s.cr:=by
 unfold AS.slot
 rw[aA]
 cases h:s.cr[i]? with
 |none=>exact .inl rfl
 |some v=>exact .inr (dd h)
theorem OC{s:AS}{id:Id}{e:dS}(h:s.bZ id=some e):e∈s.cz\/∃es∈s.news,e∈es:=by
 cases id with
 |aV k=>exact .inl (dd h)
 |new i j=>
  simp only[AS.bZ,aA]at h
  cases hi:s.news[i]? with
  |none=>rw[hi]at h;simp at h
  |some es=>rw[hi]at h;exact .inr ⟨es,dd hi,dd h⟩
theorem Inv.bo(h:Inv C g β s a w)(hC:C.ok){an:mB}(ht:(xx an s).Fm=true):Inv C g β (xx an s) a w:=by
 obtain⟨ks,kt,_,_,_⟩:=an
 obtain⟨s1,Cz⟩:∃s1:AS,s1= {cr:=eT ks 0 s.cr,cz:=s.cz,news:=lI kt 0 s.news}:=⟨_,rfl⟩
 have e1:s1.cr=eT ks 0 s.cr:=by rw[Cz]
 have e2:s1.cz=s.cz:=by rw[Cz]
 have e3:s1.news=lI kt 0 s.news:=by rw[Cz]
 have ht:(s1.cr.all (av.there s1) && s1.cz.all (dS.there s1) && s1.news.all λes=>es.all (dS.there s1))=true:=by rw[Cz];exact ht
 show Inv C g β {cr:=eT ks 0 s.cr,cz:=s.cz,news:=lI kt 0 s.news} a w
 rw[<-Cz]
 rw[aj,aj]at ht
 obtain⟨⟨t1,t2⟩,t3⟩:=ht
 have cV:∀id,s1.bZ id=none\/s1.bZ id=s.bZ id:=λid=>by
  cases id with
  |aV k=>right;simp only[AS.bZ,e2]
  |new i j=>
   simp only[AS.bZ,e3]
   rcases DU kt s.news 0 i with h | h
   ·rw[h];exact .inl rfl
   ·rw[h];exact .inr rfl
 have OU:∀id,(s1.obj id).isSome=true->s1.bZ id=s.bZ id:=λid hi=>by
  rcases cV id with h | h
  ·simp[AS.obj,h]at hi
  ·exact h
 let ρ:Ren:=λid ver=>if(s1.obj id).isSome=true then some (id,ver) else none
 have hρ:∀v:av,v.there s1=true->v.iW ρ=v:=pU λid dq ver=>if_pos dq
 have hle:rP ρ (s.env w g β) (s1.env w g β):=by
  refine⟨⟨λ_ _ _ h=>h,λ_ _ h h'=>⟨h,h'⟩⟩,λid ver r hr hb=> ?_⟩
  by_cases hi:(s1.obj id).isSome=true
  ·have:ρ id ver=some (id,ver):=if_pos hi
   rw[this,aq]at hr
   subst hr
   have e:=OU id hi
   obtain⟨b1,b2⟩:=hb
   exact⟨⟨by show s1.bZ id≠none;rw[e];exact b1,λv fr c hh=>b2 v fr c (e.symm.trans hh)⟩,λ⟨fr,c,hc⟩=>⟨⟨fr,c,e.symm.trans hc⟩,rfl⟩⟩
  ·have:ρ id ver=none:=if_neg hi
   rw[this]at hr;cases hr
 refine h.renamed hC ρ (by rw[e1,sr]) hle (λi=> ?_) (λid ver fr c dq=> ?_) λk=>⟨by simp only[AS.bZ,e2],rfl⟩
 ·rcases KU (s:=s1) i with hi | hi
  ·rw[hi];exact VS.undef
  ·have WM:=dv.1 t1 _ hi
   rcases y3 ks s.cr 0 i with h1 | h1
   ·have:s1.slot i= .undef:=by simp only[AS.slot,e1,h1]
    rw[this];exact VS.undef
   ·have:s1.slot i=s.slot i:=by simp only[AS.slot,e1,h1]
    have hv:=wi hle (h.cr i)
    rw[<-this,hρ _ WM]at hv
    exact hv
 ·have:s1.bZ id=s.bZ id:=by
   rcases cV id with h | h
   ·rw[h]at dq;cases dq
   ·exact h
  have hc:dS.there s1 (.obj ver fr c)=true:=by
   rcases OC dq with h | ⟨es,h1,h2⟩
   ·exact dv.1 t2 _ h
   ·exact dv.1 (dv.1 t3 _ h1) _ h2
  rcases MW c with⟨q,vq,k,v,l,cu,rfl⟩ | ⟨_,WM⟩
  ·have e:=OU q hc
   refine .inl (Su.bo hle.mem (λ_=>rfl) (h.bK id ver fr _ (this.symm.trans dq)) rfl (λ_ _ h=>h) λvr _=>⟨λhb=>hle.ref q vr (q,vr) (if_pos hc) hb,λk v l hk=>e.trans hk,λ_ _ h=>h⟩)
  ·rw[WM]at hc
   exact .inr ⟨ver,this.symm.trans dq,hρ c hc,rfl⟩
theorem Inv.drop(h:Inv C g β s a w)(ks:List Nat):Inv C g β (s.drop ks) a w:=by
 refine⟨h.defers,by simpa[AS.drop,sr]using h.size,λi=> ?_,h.bK,h.trans,h.le⟩
 rcases y3 ks s.cr 0 i with h1 | h1
 ·have:(s.drop ks).slot i= .undef:=h1
  rw[this];exact VS.undef
 ·have:(s.drop ks).slot i=s.slot i:=h1
  rw[this];exact h.cr i
def tG(b q:Nat):kY->kY
 | .own (.id (.new x j)) k=>if x=b then .own (.id (.new q j)) k else .own (.id (.new x j)) k
 |l=>l
theorem Trans.UA(w:World)(g:Nat->kY)(b q:Nat):Trans w w g λx=>tG b q (g x):=by
 refine⟨rfl,rfl,⟨rfl,aw _⟩,aw _,λy _=> ?_⟩
 cases hg:g y with
 |free=>exact⟨by simp[tG],rfl⟩
 |own o k=>cases o with
  |eL=>exact⟨by simp[tG],rfl⟩
  |id x=>
   refine⟨.inr ?_,λ_ _ _ h=>h⟩
   cases x with
   |aV m=>exact⟨_,_,rfl,aw _⟩
   |new x j=>
    simp only[tG]
    split
    ·exact⟨_,_,rfl,aw _⟩
    ·exact⟨_,_,rfl,aw _⟩
theorem G6(f:av->av)(hf:f .undef= .undef)(l:List av)(i:Nat):(l.map f).getD i .undef=f (l.getD i .undef):=by
 simp only[aA,fj]
 cases l[i]? <;> simp[hf]
theorem Inv.uW(h:Inv C g β s a w)(hC:C.ok){b q:Nat}(SH:b < s.news.length)(Y7:q < s.news.length):
  ∃g1 β1,Inv C g1 β1 (s.uW b q (s.news.getD b [])) a w:=by
 generalize YG:s.news.getD b []=es
 have TM:∀j,s.bZ (.new b j)=es[j]? :=λj=>by rw[<-YG];rfl
 let ρ:Ren:=xP es b q
 let s1:=s.uW b q es
 have kW:∀j',s1.bZ (.new q j')=(es[j']?).map (dS.Pp ρ):=λj'=>by
  simp[s1,AS.uW,AS.bZ,aA,Y7,ρ]
 have TR:b≠q->∀j',s1.bZ (.new b j')=none:=λQ7 j'=>by
  have hbq':¬q=b:=λe=>Q7 e.symm
  simp only[s1,AS.uW,AS.bZ,aA]
  rw[eW hbq',List.getElem?_set,if_pos rfl]
  split <;> simp
 have xr:∀i,(∀j',i≠ .new q j')->(∀j',i≠ .new b j')->s1.bZ i=(s.bZ i).map (dS.CW ρ (vm b q)):=λi hi hi'=>by
  cases i with
  |aV k=>simp[s1,AS.uW,AS.bZ,ρ]
  |new x y=>
   have h1:¬q=x:=λe=>hi y (by rw[e])
   have h2:¬b=x:=λe=>hi' y (by rw[e])
   simp only[s1,AS.uW,AS.bZ,aA]
   rw[eW h1,eW h2,fj]
   cases s.news[x]? <;> simp[ρ]
 let g1:Nat->kY:=λx=>tG b q (g x)
 let β1:Id->Option Pl:=λi=>match i with | .new x j=>if x=q then β (.new b j) else β (.new x j) | .aV k=>β (.aV k)
 have hβ1:∀i,(∀j',i≠ .new q j')->β1 i=β i:=λi hi=>by
  cases i with
  |aV k=>rfl
  |new x y=>exact if_neg λe=>hi y (by rw[e])
 have ht:Trans w w g g1:=Trans.UA w g _ _
 have hρ:∀i ver r,ρ i ver=some r->(∃j fr c,i= .new b j/\es[j]? =some (.obj ver fr c)/\r=(.new q j,0))\/((∀j',i≠ .new q j')/\(∀j',i≠ .new b j')/\r=(i,ver)):=λi ver r hr=>by
  replace hr:xP es b q i ver=some r:=hr
  cases i with
  |aV k=>exact .inr ⟨λ_=>by simp,λ_=>by simp,(ba hr).symm⟩
  |new x j=>
   unfold xP at hr
   simp only at hr
   split at hr
   ·rename_i hx
    have hx:x=b:=by simpa using hx
    subst hx
    split at hr
    ·rename_i v fr c he
     split at hr
     ·rename_i hv
      have hv:ver=v:=by simpa using hv
      subst hv
      exact .inl ⟨j,fr,c,rfl,he,(ba hr).symm⟩
     ·cases hr
    ·cases hr
   ·rename_i hx
    have hx:¬x=b:=by simpa using hx
    split at hr
    ·cases hr
    ·rename_i hx'
     have hx':¬x=q:=by simpa using hx'
     exact .inr ⟨λ_ e=>hx' (by injection e),λ_ e=>hx (by injection e),(ba hr).symm⟩
 have hle:rP ρ (s.env w g β) (s1.env w g1 β1):=by
  refine⟨Trans.mem (E:=s.env w g β) (E':=s1.env w g1 β1) ht,λi ver r hr H5=> ?_⟩
  rcases hρ i ver r hr with⟨j,fr,c,rfl,he,rfl⟩ | ⟨hi,hi',rfl⟩
  ·refine⟨⟨by show s1.bZ (.new q j)≠none;rw[kW,he];simp,λ_ _ _ _=>aK _⟩,λ_=>⟨⟨fr,c,(TM j).trans he⟩,if_pos rfl⟩⟩
  ·obtain⟨k1,k2⟩:=H5
   have k1:s.bZ i≠none:=k1
   have e:s1.bZ i=(s.bZ i).map (dS.CW ρ (vm b q)):=xr i hi hi'
   have back:∀v' fr' c',s1.bZ i=some (.obj v' fr' c')->∃c0,s.bZ i=some (.obj v' fr' c0):=λv' fr' c' hh=>by
    rw[e]at hh
    cases hs:s.bZ i with
    |none=>exact absurd hs k1
    |some en=>
     rw[hs]at hh
     cases en with
     |dead=>simp[dS.CW]at hh
     |obj v0 fr0 c0=>
      simp only[ee,dS.CW,aq,dS.obj.injEq]at hh
      obtain⟨rfl,rfl,_⟩:=hh
      exact⟨c0,rfl⟩
   refine⟨⟨by
    show s1.bZ i≠none
    rw[e]
    cases hs:s.bZ i with
    |none=>exact absurd hs k1
    |some en=>simp,λv' fr' c' hh=> ?_⟩,λ⟨fr',c',hh⟩=> ?_⟩
   ·obtain⟨c0,Aa⟩:=back v' fr' c' hh
    exact k2 v' fr' c0 Aa
   ·obtain⟨c0,Aa⟩:=back ver fr' c' hh
    exact⟨⟨fr',c0,Aa⟩,hβ1 i hi⟩
 have Vc:∀(i:Id),(∀j',i≠ .new b j')->∀(x:Nat) (k:Nat),g x= .own (.id i) k->g1 x= .own (.id i) k:=λi hi x k hk=>by
  show tG b q (g x)=_
  rw[hk]
  cases i with
  |aV m=>rfl
  |new y j=>exact if_neg λe=>hi j (by rw[e])
 refine⟨g1,β1,h.DQ hC ρ (by simp[AS.uW]) ht hle (λi=> ?_) (λid ver fr' c' dq=> ?_) λk=>⟨λhk=> ?_,λv' fr' c' hh=> ?_,rfl⟩⟩
 ·have:(s.uW b q es).slot i=(s.slot i).iW ρ:=G6 _ rfl _ _
  rw[this]
  exact wi hle (h.cr i)
 ·have dq:s1.bZ id=some (.obj ver fr' c'):=dq
  by_cases hi:∃j',id= .new q j'
  ·obtain⟨j',rfl⟩:=hi
   rw[kW]at dq
   cases he:es[j']? with
   |none=>rw[he]at dq;cases dq
   |some en=>
    rw[he]at dq
    cases en with
    |dead=>simp[dS.Pp]at dq
    |obj v0 fr0 c0=>
     simp only[ee,dS.Pp,aq,dS.obj.injEq]at dq
     obtain⟨_,rfl,rfl⟩:=dq
     exact .inr ⟨.new b j',v0,c0,(TM j').trans he,rfl,if_pos rfl,λpl hp=>⟨λk hk=>by
      show tG b q (g pl.b)=_
      rw[hk];exact if_pos rfl,λhk=>by
      show tG b q (g pl.b)=_
      rw[hk];rfl⟩⟩
  ·by_cases hi':∃j',id= .new b j'
   ·obtain⟨j',rfl⟩:=hi'
    have Q7:b≠q:=λe=>hi ⟨j',by rw[e]⟩
    rw[TR Q7]at dq;cases dq
   ·have Vh:∀j',id≠ .new q j':=λj' e=>hi ⟨j',e⟩
    have hni':∀j',id≠ .new b j':=λj' e=>hi' ⟨j',e⟩
    have e:=xr id Vh hni'
    rw[e]at dq
    cases hs:s.bZ id with
    |none=>rw[hs]at dq;cases dq
    |some en=>
     rw[hs]at dq
     cases en with
     |dead=>simp[dS.CW]at dq
     |obj v0 fr0 c0=>
      simp only[ee,dS.CW,aq,dS.obj.injEq]at dq
      obtain⟨rfl,rfl,rfl⟩:=dq
      rcases MW c0 with⟨q2,vq,k,v2,l,cu,rfl⟩ | ⟨WD,_⟩
      ·have h0:=h.bK id v0 fr0 _ hs
       left
       simp only[av.RW]
       cases XY:vm b q q2 with
       |true=>
        have Jx:(∀j',q2≠ .new b j')/\(∀j',q2≠ .new q j')/\∀vr,ρ q2 vr=some (q2,vr):=by
         cases q2 with
         |aV k=>exact⟨λ_=>by simp,λ_=>by simp,λ_=>rfl⟩
         |new x y=>
          simp only[vm,aj,cC,decide_eq_false_iff_not]at XY
          obtain⟨k1,k2⟩:=XY
          refine⟨λ_ e=>k1 (by injection e),λ_ e=>k2 (by injection e),λvr=> ?_⟩
          show xP es b q (.new x y) vr=_
          unfold xP
          simp only[decide_eq_false k1,decide_eq_false k2]
        obtain⟨Jx,N9,hρq⟩:=Jx
        refine Su.bo hle.mem (λ_=>rfl) h0 (hβ1 id Vh) (λpl _ hk=>Vc id hni' _ _ hk) λvr _=>⟨λhb=>hle.ref q2 vr (q2,vr) (hρq vr) hb,λk v l hk=> ?_,λpl _ hk=>Vc q2 Jx _ _ hk⟩
        have hk:s.bZ q2=some (.obj vr true (.mp k v l)):=hk
        show s1.bZ q2=_
        rw[xr q2 N9 Jx,hk]
        rfl
       |false=>
        obtain⟨pl,mb,since,seen,c0,h1,h2,h3,h4⟩:=h0
        exact⟨pl,mb,since,seen,c0,(hβ1 id Vh).trans h1,h2,Vc id hni' _ _ h3,λvr Ib=>by omega⟩
      rw[WD]
      exact .inr ⟨id,v0,c0,hs,rfl,hβ1 id Vh,λpl hp=>⟨λk hk=>Vc id hni' _ _ hk,λhk=>by
       show tG b q (g pl.b)=_
       rw[hk];rfl⟩⟩
 ·have e:=xr (.aV k) (λ_=>by simp) (λ_=>by simp)
  show s1.bZ (.aV k)≠none
  rw[e]
  cases hs:s.bZ (.aV k) with
  |none=>exact absurd hs hk
  |some en=>simp
 ·have e:=xr (.aV k) (λ_=>by simp) (λ_=>by simp)
  have hh:s1.bZ (.aV k)=some (.obj v' fr' c'):=hh
  rw[e]at hh
  cases hs:s.bZ (.aV k) with
  |none=>rw[hs]at hh;cases hh
  |some en=>
   rw[hs]at hh
   cases en with
   |dead=>simp[dS.CW]at hh
   |obj v0 fr0 c0=>
    simp only[ee,dS.CW,aq,dS.obj.injEq]at hh
    obtain⟨rfl,rfl,_⟩:=hh
    exact⟨c0,rfl⟩
theorem Co{k t:Ty}{l:List (k.den×t.den)}:∀ {p:List vH} {x c':av},¬(qv (.mp k t l) p x).eval=some c'
 |[],x,c',h=>by simp only[qv,ai]at h
 | .arr::p,x,c',h=>by simp only[qv]at h;exact Co h
 | .idx i::p,x,c',h=>by simp only[qv,ai]at h
 | .fst::p,x,c',h=>by simp only[qv,ai]at h
 | .snd::p,x,c',h=>by simp only[qv,ai]at h
theorem E6{q:Id}{vq:Nat}{k t:Ty}{l:List (k.den×t.den)}{cu:Option (k.den×t.den)}:∀ {p:List vH} {x c':av},¬(qv (.nH q vq k t l cu) p x).eval=some c'
 |[],x,c',h=>by simp only[qv,ai]at h
 | .arr::p,x,c',h=>by simp only[qv]at h;exact E6 h
 | .idx i::p,x,c',h=>by simp only[qv,ai]at h
 | .fst::p,x,c',h=>by simp only[qv,ai]at h
 | .snd::p,x,c',h=>by simp only[qv,ai]at h
theorem E7{k:oX}{f:av}{m:Nat}:∀ {p:List vH} {x c':av},¬(qv (.mr k f m) p x).eval=some c'
 |[],x,c',h=>by simp only[qv,ai]at h
 | .arr::p,x,c',h=>by simp only[qv]at h;exact E7 h
 | .idx i::p,x,c',h=>by simp only[qv,ai]at h
 | .fst::p,x,c',h=>by simp only[qv,ai]at h
 | .snd::p,x,c',h=>by simp only[qv,ai]at h
theorem zF{l:List Value}{n:Nat}{vs:List Value}(h:(l.drop n).take vs.length=vs):dD l n vs=l:=by
 unfold dD
 have h2:l.drop n=vs++l.drop (n+vs.length):=by
  conv=>lhs;rw[<-dO vs.length (l.drop n)]
  rw[h,gD]
 have h3:=dO n l
 rw[h2]at h3
 simpa[aD]using h3
theorem Inv.Uu(h:Inv C g β s a w){j:Nat}{p:List vH}(yk:(s.at j p).eval=some .di){q:Nat}(hq:s.ek q=true){e:TypeId}{t:Ty}(hz:0 < t.size){s':AS}
  (he:((s.born q [.obj 0 false (.vec e t [])]).putAt j (.aS (.new q 0) 0 [] 0 0 0) p).eval=some s'):iE C s' a w:=by
 obtain⟨β',h1,h2,h3⟩:=h.Nf hq (e:=e) hz
 cases p with
 |nil=>
  simp only[AS.at]at yk
  have hj:=ao.1 yk
  simp only[AS.putAt]at he
  obtain rfl:=ao.1 he
  refine⟨g,β',h1.UD j ?_⟩
  have:=h.cr j
  rw[hj]at this
  rw[kg this]
  exact h3
 |cons st p=>
  simp only[AS.at]at yk
  simp only[AS.putAt]at he
  have AR:(s.born q [.obj 0 false (.vec e t [])]).slot j=s.slot j:=rfl
  rw[AR]at he
  split at yk
  ·rename_i id ver p0 nn hj
   split at yk
   ·rename_i v fr c kr
    obtain⟨hv,yk⟩:=ay.1 yk
    obtain⟨⟨n,u⟩,hl,yk⟩:=ak.1 yk
    have hu:=ao.1 yk
    simp only at hu
    subst hu
    have cV:=eH kr
    have fL:id≠ .new q 0:=λe=>by rw[e,(jQ hq).1 0]at cV;cases cV
    have hne':∀j',id≠ .new q j':=λj' e=>by rw[e,(jQ hq).1 j']at cV;cases cV
    have qs:(s.born q [.obj 0 false (.vec e t [])]).bZ id=some (.obj v fr c):=(je _ hne').trans cV
    have Ro:(s.born q [.obj 0 false (.vec e t [])]).obj id=some (v,fr,c):=by simp only[AS.obj,qs]
    simp only[hj,Ro]at he
    split at he
    ·simp only[ai]at he
    ·rename_i c1 V4
     obtain⟨c',zO,he⟩:=ak.1 he
     obtain rfl:=ao.1 he
     have hn:c.iI=false:=by
      cases c <;> first | rfl | (exact(V4 _ _ _ rfl).elim) | (exact absurd zO Co) | (exact absurd zO E6) | (exact absurd zO E7)
     have hO:=h1.bK id v fr c qs
     obtain⟨pl,cur,e0,hp,hh,hg,hk,hV⟩:=hO.box hn
     have ht:=Trans.refl w g
     have hN:=zZ hk
     have hle:=cP.aO (s:=s.born q [.obj 0 false (.vec e t [])]) (β:=β') (v':=v) (fr':=fr) (c':=c.wrap c') qs (aw _) ht (λ_ _=>rfl) (λ_=>rfl)
     refine⟨g,β',h1.step (du _ _ _) ht hle (jc.aO h1.bK (by rw[qs];simp) hle (λ_ _=>rfl) (λ_ _ _ _ _ _ _ _=>⟨rfl,rfl⟩) ?_ (mG qs λk v1 l e=>by subst e;exact absurd zO Co))⟩
     obtain⟨cs,k1,k2⟩:=h3
     have k2:cs=[.slice none 0 0]:=k2
     subst k2
     obtain⟨u1,u2,u3⟩:=mI (p0++st::p) c.strip (cur.toList.take (c.qd cur.size)) n .di _ c' [.slice none 0 0] (VO.of hV) hl k1 zO
     have u4:=u2.to (u3.oF hV.oF)
     have sM:((cur.toList.take (c.qd cur.size)).drop n).take 1=[.slice none 0 0]:=by
      rcases nR (p0++st::p) c.strip (cur.toList.take (c.qd cur.size)) n .di (VO.of hV) hl with⟨Rn,Aa⟩ | ⟨q1,q2⟩
      ·rw[<-Aa]at hV
       simp only[V]at hV
       rw[hV,Rn]
       rfl
      ·simpa only[V,av.size]using q1
     rw[zF (vs:=[.slice none 0 0]) sM]at u4
     have ou:c'.size=c.strip.size:=by have e1:=u4.size;have e2:=hV.size;omega
     exact yo.obj ⟨pl,cur,e0,hp,hh,hg,wm hk u4.rp ou,by rw[wU c u4.rp,yx u4.rp ou];exact V.mono hle u4⟩
   ·simp only[ai]at yk
  ·simp only[ai]at yk
theorem vU:∀(ids:List Id) {s:AS} {i:Id} {v:Nat} {fr:Bool} {c:av},s.bZ i=some (.obj v fr c)->∃fr',(s.bl ids).bZ i=some (.obj v fr' c)
 |[],s,i,v,fr,c,h=>⟨fr,h⟩
 |id::ids,s,i,v,fr,c,h=>by
  obtain⟨fr',h'⟩:=AA (id:=id) h
  exact vU ids h'
theorem Inv.Th(h:Inv C g β s a w){j:Nat}{p:List vH}{u:av}(yk:(s.at j p).eval=some u){t:Ty}{x:t.den}(ht:(s.ji t u).eval=some x){s':AS}
  (he:((s.bl u.shared).putAt j (.d t x) p).eval=some s'):iE C s' a w:=by
 cases p with
 |nil=>
  simp only[AS.at]at yk
  have hj:=ao.1 yk
  simp only[AS.putAt]at he
  obtain rfl:=ao.1 he
  have hs:=h.cr j
  rw[hj]at hs
  obtain⟨g',i1,_,_,cs,hR,hO⟩:=rF h hs ht
  exact⟨g',β,i1.UD j (VS.of (a:= .d t x) (cs:=cs) (by simpa only[V]using hR) hO)⟩
 |cons st p=>
  simp only[AS.at]at yk
  simp only[AS.putAt]at he
  have AR:(s.bl u.shared).slot j=s.slot j:=by simp only[AS.slot,lC]
  rw[AR]at he
  split at yk
  ·rename_i id ver p0 nn hj
   split at yk
   ·rename_i v fr c kr
    obtain⟨hv,yk⟩:=ay.1 yk
    obtain⟨⟨n,u'⟩,hl,yk⟩:=ak.1 yk
    have hu:=ao.1 yk
    simp only at hu
    subst hu
    have cV:=eH kr
    obtain⟨g',h1,h2,h3,h4⟩:=gf u'.shared h
    obtain⟨fr',qs⟩:=vU u'.shared cV
    have Ro:(s.bl u'.shared).obj id=some (v,fr',c):=by simp only[AS.obj,qs]
    simp only[hj,Ro]at he
    split at he
    ·simp only[ai]at he
    ·rename_i c1 V4
     obtain⟨c',zO,he⟩:=ak.1 he
     obtain rfl:=ao.1 he
     have hn:c.iI=false:=by
      cases c <;> first | rfl | (exact(V4 _ _ _ rfl).elim) | (exact absurd zO Co) | (exact absurd zO E6) | (exact absurd zO E7)
     obtain⟨pl0,cur0,e00,Rq,Rf,Wb,TT,hV0⟩:=(h.bK id v fr c cV).box hn
     obtain⟨pl,cur,e0,hp,hh,hg,hk,hV⟩:=(h1.bK id v fr' c qs).box hn
     have zN:pl0=pl:=by
      have Rq:β id=some pl0:=Rq
      have hp:β id=some pl:=hp
      rw[Rq]at hp
      exact ba hp
     subst zN
     have fB:cur0=cur:=by
      have Rf:w.heap[pl0.b]? =_:=Rf
      have hh:w.heap[pl0.b]? =_:=hh
      rw[Rf]at hh
      simpa using(congrArg (λo=>match o with | some (.cells x _ _)=>x | _=>cur0) hh)
     subst fB
     obtain⟨cs,hVu,sM⟩:∃cs,V (s.env w g β) u' cs/\((cur0.toList.take (c.qd cur0.size)).drop n).take cs.length=cs:=by
      rcases nR (p0++st::p) c.strip (cur0.toList.take (c.qd cur0.size)) n u' (VO.of hV0) hl with⟨Rn,Aa⟩ | ⟨q1,q2⟩
      ·refine⟨cur0.toList.take (c.qd cur0.size),by rw[Aa];exact hV0,?_⟩
       rw[Rn,aJ,dh]
      ·refine⟨_,q1,?_⟩
       rw[bQ,dy]
       congr 1
       omega
     have hR:=pZ rfl h.bK h2 u' t x cs hVu ht h4
     have hVx:V ((s.bl u'.shared).env w g' β) (.d t x) cs:=by simpa only[V]using hR
     have ht':=Trans.refl w g'
     have hle:=cP.aO (s:=s.bl u'.shared) (β:=β) (v':=v) (fr':=fr') (c':=c.wrap c') qs (aw _) ht' (λ_ _=>rfl) (λ_=>rfl)
     refine⟨g',β,h1.step (du _ _ _) ht' hle (jc.aO h1.bK (by rw[qs];simp) hle (λ_ _=>rfl) (λ_ _ _ _ _ _ _ _=>⟨rfl,rfl⟩) ?_ (mG qs λk v1 l e=>by subst e;exact absurd zO Co))⟩
     obtain⟨u1,u2,u3⟩:=mI (p0++st::p) c.strip (cur0.toList.take (c.qd cur0.size)) n u' _ c' cs (VO.of hV) hl hVx zO
     have u4:=u2.to (u3.oF hV.oF)
     rw[zF (vs:=cs) sM]at u4
     have ou:c'.size=c.strip.size:=by have e1:=u4.size;have e2:=hV.size;omega
     exact yo.obj ⟨pl0,cur0,e0,hp,hh,hg,wm hk u4.rp ou,by rw[wU c u4.rp,yx u4.rp ou];exact V.mono hle u4⟩
   ·simp only[ai]at yk
  ·simp only[ai]at yk
theorem wB{E:Env}:∀(t:Ty) (x:t.den) (u:av),(xk t x).eval=some u->∀cs,dm E t cs x->V E u cs
 | .im t,x,u,h,cs,hr=>by
  simp only[xk]at h
  obtain⟨h1,h2⟩:=bO.1 h
  obtain rfl:=ao.1 h2
  simp only[dm]at hr
  simp only[V]
  exact hr.1 (Option.isNone_iff_eq_none.1 h1)
 | .pair a b,x,u,h,cs,hr=>by
  simp only[xk]at h
  obtain⟨u1,h1,h2⟩:=ak.1 h
  obtain⟨u2,h3,h4⟩:=ak.1 h2
  obtain rfl:=ao.1 h4
  simp only[dm]at hr
  obtain⟨ca,cb,rfl,ha,hb⟩:=hr
  exact HB (wB a x.1 u1 h1 ca ha) (wB b x.2 u2 h3 cb hb)
 | .int k,x,u,h,cs,hr=>by simp only[xk]at h;obtain rfl:=ao.1 h;simpa only[V]using hr
 | .bool,x,u,h,cs,hr=>by simp only[xk]at h;obtain rfl:=ao.1 h;simpa only[V]using hr
 | .str,x,u,h,cs,hr=>by simp only[xk]at h;obtain rfl:=ao.1 h;simpa only[V]using hr
 | .slice t,x,u,h,cs,hr=>by simp only[xk]at h;obtain rfl:=ao.1 h;simpa only[V]using hr
 | .unit,x,u,h,cs,hr=>by simp only[xk]at h;obtain rfl:=ao.1 h;simpa only[V]using hr
 | .arr n t,x,u,h,cs,hr=>by simp only[xk]at h;obtain rfl:=ao.1 h;simpa only[V]using hr
 | .oq t,x,u,h,cs,hr=>by simp only[xk]at h;obtain rfl:=ao.1 h;simpa only[V]using hr
theorem Kg{e:TypeId}{z:Nat}{c:av}{pl:Pl}{n:Nat}(hz:0 < z)(h1:n=pl.cap*z)(h2:pl.cap<=maxLen)(h3:c.size<=n):(av.bx e z c).uw pl n e:=by
 cases z with
 |zero=>omega
 |succ z=>exact⟨rfl,h1,h2,h3⟩
theorem FA{e:TypeId}{z:Nat}{c:av}{n:Nat}(hz:0 < z):(av.bx e z c).qd n=c.size:=by
 cases z with
 |zero=>omega
 |succ z=>rfl
theorem EU{e e':TypeId}{z:Nat}{c:av}{pl:Pl}{n:Nat}(hz:0 < z)(h:(av.bx e z c).uw pl n e'):e'=e/\n=pl.cap*z/\pl.cap<=maxLen/\c.size<=n:=by
 cases z with
 |zero=>omega
 |succ z=>exact h
theorem GQ{E:Env}{id:Id}{ver n:Nat}{p p':List vH}{y:Value}(h:VS E (.ptr id ver p n) y):VS E (.ptr id ver p' n) y:=by
 obtain⟨cs,h1,h2⟩:=h
 exact⟨cs,by simpa only[V]using h1,h2⟩
theorem Inv.Tk(h:Inv C g β s a w){j:Nat}{id:Id}{ver n k v:Nat}{p p':List vH}(hj:s.slot j= .ptr id ver p n){e:TypeId}{t:Ty}{r:List t.den}(kr:s.obj id=some (v,false,.vec e t r))
  (hk:k < r.length) {u:av} (hu:(xk t (nth t r k)).eval=some u):
  iE C ((s.aO id (.obj v false (.bx e t.size (.pr (.d (.arr k t) (r.take k)) (.pr u (.d (.arr (r.drop (k+1)).length t) (r.drop (k+1)))))))).put (some j) (.ptr id ver p' n)) a w:=by
 have cV:=eH kr
 obtain⟨hz,hO⟩:pE (s.env w g β) id false (.vec e t r):=h.bK id v false _ cV
 have hO:(match β id with
  |none=>r=[]
  |some pl=>∃cur k,w.heap[pl.b]? =some (.cells cur e (0,0))/\cur.size=pl.cap*t.size/\r.length<=pl.cap/\pl.cap<=maxLen/\g pl.b= .own (.id id) k/\
    k<=r.length*t.size/\(false=false->k=0)/\bj (dm (s.env w g β) t) (cur.toList.take (r.length*t.size)) r):=hO
 have ht:=Trans.refl w g
 have hle:cP (s.env w g β) ((s.aO id (.obj v false (.bx e t.size (.pr (.d (.arr k t) (r.take k)) (.pr u (.d (.arr (r.drop (k+1)).length t) (r.drop (k+1)))))))).env w g β):=
  cP.aO cV (aw _) ht (λ_ _=>rfl) (λ_=>rfl)
 have hI:=h.step (du _ _ _) ht hle (jc.aO h.bK (by rw[cV];simp) hle (λ_ _=>rfl) (λ_ _ _ _ _ _ _ _=>⟨rfl,rfl⟩) (Fb:=xA cV) (by
  cases hp:β id with
  |none=>rw[hp]at hO;simp only at hO;subst hO;simp at hk
  |some pl=>
   rw[hp]at hO
   obtain⟨cur,k0,q1,q2,q3,q4,q5,q6,q7,q8⟩:=hO
   have TT:=q7 rfl
   subst TT
   have Ht:∀c x,dm (s.env w g β) t c x->c.length=t.size:=λc x hx=>hx.size
   have c1:=bj.take Ht k q8
   have c2:=(q8.get Ht k hk)
   have c3:=bj.drop Ht (k+1) q8
   have Fc:V (s.env w g β) u (((cur.toList.take (r.length*t.size)).drop (k*t.size)).take t.size):=wB t _ u (by rw[BH hk]at hu;exact hu) _ c2
   have Zg:=Fc.size
   have hlen:(cur.toList.take (r.length*t.size)).length=r.length*t.size:=bj.length Ht q8
   have ou:r.length*t.size<=cur.size:=by rw[q2];exact cY _ q3
   have ZP:(k+1)*t.size<=r.length*t.size:=cY _ hk
   have Jx:(k+1)*t.size=k*t.size+t.size:=Nat.succ_mul k t.size
   have Rv:u.size=t.size:=by rw[<-Zg,bQ,dy,hlen];omega
   have hm:(r.drop (k+1)).length*t.size=r.length*t.size - (k+1)*t.size:=by rw[dy,Nat.sub_mul]
   have KB:(av.pr (.d (.arr k t) (r.take k)) (.pr u (.d (.arr (r.drop (k+1)).length t) (r.drop (k+1))))).size=r.length*t.size:=by
    simp only[av.size,Ty.size,Rv,hm]
    omega
   refine yo.obj ⟨pl,cur,e,hp,q1,q5,Kg hz q2 q4 (by rw[KB];exact ou),?_⟩
   rw[FA hz,KB]
   refine V.mono hle ?_
   show V _ (.pr (.d (.arr k t) (r.take k)) (.pr u (.d (.arr (r.drop (k+1)).length t) (r.drop (k+1))))) _
   simp only[V]
   generalize cur.toList.take (r.length*t.size)=R at*
   refine⟨R.take (k*t.size),R.drop (k*t.size),(dO _ _).symm,?_,(R.drop (k*t.size)).take t.size,R.drop ((k+1)*t.size),?_,Fc,?_⟩
   ·simp only[dm]
    exact⟨by rw[bQ];omega,c1⟩
   ·rw[Jx,<-gD,dO]
   ·simp only[dm]
    exact⟨trivial,c3⟩))
 refine⟨g,β,hI.UD j ?_⟩
 have:=h.cr j
 rw[hj]at this
 exact GQ (VS.mono hle this)
theorem yH:∀(l:List Nat) {s s1:AS},iE C s a w->(Ku s l).eval=some s1->iE C s1 a w
 |[],s,s1,h,he=>by
  simp only[Ku]at he
  obtain rfl:=ao.1 he
  exact h
 |j::l,s,s1,h,he=>by
  obtain⟨g,β,h⟩:=h
  simp only[Ku]at he
  split at he
  ·rename_i id ver k p n hj
   split at he
   ·rename_i v e t r kr
    obtain⟨h1,he⟩:=ay.1 he
    obtain⟨h2,he⟩:=bO.1 he
    obtain⟨u,h3,he⟩:=ak.1 he
    exact yH l (h.Tk hj kr (of_decide_eq_true h2) h3) he
   ·simp only[ai]at he
  ·exact yH l ⟨g,β,h⟩ he
  ·simp only[ai]at he
theorem yE{s:AS}{id i:Id}(h:i≠id):(s.freeze id).bZ i=s.bZ i:=by
 unfold AS.freeze
 split
 ·exact da s id i _ h
 ·rfl
theorem qq:∀(ids:List Id) {s:AS} {i:Id},i ∉ ids->(s.bl ids).bZ i=s.bZ i
 |[],_,_,_=>rfl
 |id::ids,s,i,h=>by
  have h1:i≠id:=λe=>h (by rw[e];exact aH)
  exact(qq ids λhi=>h (aF _ hi)).trans (yE h1)
theorem Inv.UI(h:Inv C g β s a w){j:Nat}{id:Id}{ver n k m v z:Nat}{p p':List vH}(hj:s.slot j= .ptr id ver p n){e:TypeId}{t:Ty}{l1 l2:List t.den}{u:av}
  (kr:s.obj id=some (v,false,.bx e z (.pr (.d (.arr k t) l1) (.pr u (.d (.arr m t) l2))))) (hz:z=t.size) (Rz:0 < z) (dq:id ∉ u.shared) {x:t.den} (hx:(s.ji t u).eval=some x):
  iE C (((s.bl u.shared).aO id (.obj v false (.vec e t (l1++x::l2)))).put (some j) (.ptr id ver p' n)) a w:=by
 have cV:=eH kr
 obtain⟨pl0,cur0,e0,Rq,Rf,Wb,TT,hV0⟩:=(h.bK id v false _ cV).box rfl
 obtain⟨g',h1,h2,h3,h4⟩:=gf u.shared h
 have qs:(s.bl u.shared).bZ id=some (.obj v false (.bx e z (.pr (.d (.arr k t) l1) (.pr u (.d (.arr m t) l2))))):=(qq _ dq).trans cV
 obtain⟨pl,cur,e1,hp,hh,hg,hk,hV⟩:=(h1.bK id v false _ qs).box rfl
 have hp:β id=some pl:=hp
 have zN:pl0=pl:=by
  have Rq:β id=some pl0:=Rq
  rw[Rq]at hp
  exact ba hp
 subst zN
 have fB:cur0=cur:=by
  have Rf:w.heap[pl0.b]? =_:=Rf
  have hh:w.heap[pl0.b]? =_:=hh
  rw[Rf]at hh
  simpa using(congrArg (λo=>match o with | some (.cells x _ _)=>x | _=>cur0) hh)
 subst fB
 obtain⟨rfl,q2,q4,q3⟩:=EU Rz hk
 rw[FA Rz]at hV0
 have hV0:V (s.env w g β) (.pr (.d (.arr k t) l1) (.pr u (.d (.arr m t) l2))) _:=hV0
 have Zc:=hV0.size
 simp only[V]at hV0
 obtain⟨ca,cb,hR,hA,cu,cc,Q8,hU,hB⟩:=hV0
 subst Q8
 simp only[dm]at hA hB
 have hX:=pZ rfl h.bK h2 u t x cu hU hx h4
 have Ht:∀c x,dm ((s.bl u.shared).env w g' β) t c x->c.length=t.size:=λc x hx=>hx.size
 have cA:=hA.2.mono λ_ _ hx=>hx.mono h2.mem
 have cB:=hB.2.mono λ_ _ hx=>hx.mono h2.mem
 have pt:bj (dm ((s.bl u.shared).env w g' β) t) (ca++(cu++cc)) (l1++x::l2):=bj.append cA ⟨cu,cc,rfl,hX,cB⟩
 have hlen:=bj.length Ht pt
 have KB:(av.pr (.d (.arr k t) l1) (.pr u (.d (.arr m t) l2))).size=(l1++x::l2).length*t.size:=by rw[<-hlen,<-hR];exact Zc.symm
 rw[KB]at hR q3
 rw[hz]at q2
 have H9:(l1++x::l2).length<=pl0.cap:=by
  rw[q2]at q3
  exact Nat.le_of_mul_le_mul_right q3 (by omega)
 have ht:=Trans.refl w g'
 have hle:cP ((s.bl u.shared).env w g' β) (((s.bl u.shared).aO id (.obj v false (.vec e1 t (l1++x::l2)))).env w g' β):=cP.aO qs (aw _) ht (λ_ _=>rfl) (λ_=>rfl)
 have hI:=h1.step (du _ _ _) ht hle (jc.aO h1.bK (by rw[qs];simp) hle (λ_ _=>rfl) (λ_ _ _ _ _ _ _ _=>⟨rfl,rfl⟩) (Fb:=mG qs λ_ _ _ e=>by cases e) (by
  refine⟨by omega,?_⟩
  show(match β id with
   |none=>l1++x::l2=[]
   |some pl=>_)
  rw[hp]
  exact⟨cur0,0,hh,q2,H9,q4,hg,aK _,λ_=>rfl,by rw[hR];exact pt.mono λ_ _ hx=>hx.mono hle.mem⟩))
 refine⟨g',β,hI.UD j ?_⟩
 have:=h.cr j
 rw[hj]at this
 exact GQ (VS.mono (h2.trans hle) this)
theorem D0:∀(l:List Nat) {s s1:AS},iE C s a w->(NW s l).eval=some s1->iE C s1 a w
 |[],s,s1,h,he=>by
  simp only[NW]at he
  obtain rfl:=ao.1 he
  exact h
 |j::l,s,s1,h,he=>by
  obtain⟨g,β,h⟩:=h
  simp only[NW]at he
  split at he
  ·rename_i id ver p n hj
   split at he
   ·rename_i v e z k t l1 u m t' l2 kr
    obtain⟨h1,he⟩:=ay.1 he
    obtain⟨l2',h2,he⟩:=ak.1 he
    obtain⟨x,h3,he⟩:=ak.1 he
    simp only[aj,beq_iff_eq,cC,beq_eq_false_iff_ne]at h1
    obtain⟨⟨⟨h5,h6⟩,h7⟩,h8⟩:=h1
    obtain⟨et,hl⟩:=jB (jM.1 h2)
    have et':t'=t:=by simpa using et
    subst et'
    simp only at hl
    subst hl
    refine D0 l (h.UI hj kr h6 (by omega) (λhi=> ?_) h3) he
    have:(u.shared.any λi=>decide (i=id))=true:=List.any_eq_true.2 ⟨id,hi,by simp⟩
    rw[this]at h8
    cases h8
   ·simp only[ai]at he
  ·simp only[ai]at he
theorem qZ:∀(l:List U0) {s s1:AS},iE C s a w->(za s l).eval=some s1->iE C s1 a w
 |[],s,s1,h,he=>by
  simp only[za]at he
  obtain rfl:=ao.1 he
  exact h
 |o::l,s,s1,h,he=>by
  obtain⟨g,β,h⟩:=h
  unfold za at he
  split at he
  ·exact qZ l ⟨g,β,h⟩ he
  obtain⟨u,hu,he⟩:=ak.1 he
  obtain⟨x,hx,he⟩:=ak.1 he
  obtain⟨s',hs,he⟩:=ak.1 he
  exact qZ l (h.Th hu hx hs) he
theorem lJ(hC:C.ok):∀(l:List On) {s s1:AS},iE C s a w->(qO P s l).eval=some s1->iE C s1 a w
 |[],s,s1,h,he=>by
  simp only[qO]at he
  obtain rfl:=ao.1 he
  exact h
 |o::l,s,s1,h,he=>by
  obtain⟨g,β,h⟩:=h
  unfold qO at he
  split at he
  ·exact lJ hC l ⟨g,β,h⟩ he
  obtain⟨u,hu,he⟩:=ak.1 he
  split at he
  ·split at he
   ·rename_i e t b vK hv
    obtain⟨s',h1,h2⟩:=ak.1 he
    exact lJ hC l (h.Uu hu hv (CI vK) h1) h2
   ·simp only[ai]at he
  ·split at he
   ·rename_i b j ver XT
    split at he
    ·rename_i v fr c kr hm
     split at he
     ·have SH:b < s.news.length:=by
       have:=eH kr
       simp only[AS.bZ,aA]at this
       cases hn:s.news[b]? with
       |none=>rw[hn]at this;simp at this
       |some es=>exact(dL.1 hn).1
      obtain⟨g1,β1,h1⟩:=h.uW hC SH (by simpa using hm)
      exact lJ hC l ⟨g1,β1,h1⟩ he
     ·simp only[ai]at he
    ·simp only[ai]at he
   ·simp only[ai]at he
theorem wW:∀(l:List Nat) {s s1:AS},iE C s a w->(DZ s l).eval=some s1->iE C s1 a w
 |[],s,s1,h,he=>by
  simp only[DZ]at he
  obtain rfl:=ao.1 he
  exact h
 |j::l,s,s1,h,he=>by
  obtain⟨g,β,h⟩:=h
  simp only[DZ]at he
  split at he
  ·rename_i id ver len hj
   split at he
   ·rename_i v e t r kr
    split at he
    ·obtain⟨h1,h2⟩:=bO.1 he
     have h1:len<=r.length:=by simpa using h1
     refine wW l ?_ h2
     have cV:=eH kr
     have hO:pE (s.env w g β) id false (.vec e t r):=h.bK id v false _ cV
     have ht:=Trans.refl w g
     have hle:cP (s.env w g β) ((s.aO id (.obj v false (.vec e t (r.take len)))).env w g β):=cP.aO cV (aw _) ht (λ_ _=>rfl) (λ_=>rfl)
     refine⟨g,β,h.step (du _ _ _) ht hle (jc.aO h.bK (by rw[cV];simp) hle (λ_ _=>rfl) (λ_ _ _ _ _ _ _ _=>⟨rfl,rfl⟩) ?_ (xA cV))⟩
     obtain⟨hz,hO⟩:=hO
     refine⟨hz,?_⟩
     have hO:(match β id with
      |none=>r=[]
      |some pl=>∃cur k,w.heap[pl.b]? =some (.cells cur e (0,0))/\cur.size=pl.cap*t.size/\r.length<=pl.cap/\pl.cap<=maxLen/\g pl.b= .own (.id id) k/\
        k<=r.length*t.size/\(false=false->k=0)/\bj (dm (s.env w g β) t) (cur.toList.take (r.length*t.size)) r):=hO
     show(match β id with
      |none=>r.take len=[]
      |some pl=>_)
     cases hp:β id with
     |none=>rw[hp]at hO;simp only at hO;subst hO;simp
     |some pl=>
      rw[hp]at hO
      obtain⟨cur,k,q1,q2,q3,q4,q5,q6,q7,q8⟩:=hO
      have hk:=q7 rfl
      subst hk
      have hlen:(r.take len).length=len:=by simp;omega
      refine⟨cur,0,q1,q2,by omega,q4,q5,aK _,λ_=>rfl,?_⟩
      have:=bj.take (λ_ _ hx=>dm.size hx) len q8
      rw[kE,gH (cY _ h1)]at this
      rw[hlen]
      exact this.mono λ_ _ hx=>hx.mono hle.mem
    ·simp only[ai]at he
   ·simp only[ai]at he
  ·simp only[ai]at he
theorem xe:∀(l:List (Nat×Ty)) {s s1:AS},iE C s a w->(asData s l).eval=some s1->iE C s1 a w
 |[],s,s1,h,he=>by
  simp only[asData]at he
  obtain rfl:=ao.1 he
  exact h
 | (j,t)::l,s,s1,h,he=>by
  obtain⟨g,β,h⟩:=h
  simp only[asData]at he
  obtain⟨x,h1,h2⟩:=ak.1 he
  obtain⟨g',i1,_,_,cs,hR,hO⟩:=rF h (h.cr j) h1
  exact xe l ⟨g',β,i1.UD j (VS.of (a:= .d t x) (cs:=cs) (by simpa only[V]using hR) hO)⟩ h2
theorem Inv.still:∀(l:List Nat) {s:AS},Inv C g β s a w->Inv C g β (s.still l) a w
 |[],s,h=>h
 |q::l,s,h=>by
  simp only[AS.still]
  split
  ·rename_i v fr i ver k t r cu kr
   exact Inv.still l (h.Qb (eH kr) (.inr ⟨rfl,rfl,rfl⟩))
  ·exact Inv.still l h
theorem rS{α:Type}(l:List α):(iM l).Perm l:=Quotient.exact (s:=DM α) (mM (Quotient.mk (DM α) l)).choose_spec
theorem Kl{α:Type}{l l':List α}(h:l.Perm l'):iM l=iM l':=by
 have e:Quotient.mk (DM α) l=Quotient.mk (DM α) l':=Quotient.sound h
 unfold iM
 have:∀q q':Quotient (DM α),q=q'->(mM q).choose=(mM q').choose:=λq q' h=>by subst h;rfl
 exact this _ _ e
theorem Inv.canon:∀(l:List Id) {s:AS},Inv C g β s a w->Inv C g β (s.canon l) a w
 |[],s,h=>h
 |id::l,s,h=>by
  simp only[AS.canon]
  split
  ·rename_i v fr k t r kr
   have cV:=eH kr
   have ht:=Trans.refl w g
   have hle:cP (s.env w g β) ((s.aO id (.obj v fr (.mp k t (iM r)))).env w g β):=cP.aO cV (aw _) ht (λ_ _=>rfl) (λ_=>rfl)
   obtain⟨pl,es,clock,h1,h2,h3,⟨⟨l',h4,h5⟩,h6⟩,h7⟩:=h.bK id v fr _ cV
   refine Inv.canon l (h.step (du _ _ _) ht hle (jc.aO h.bK (by rw[cV];simp) hle (λ_ _=>rfl) (λ_ _ _ _ _ _ _ _=>⟨rfl,rfl⟩)
    ⟨pl,es,clock,h1,h2,h3,⟨⟨l',h4.mono λ_ _ he=>he.mono hle.mem,h5.trans (rS r).symm⟩,(((rS r).map _).nodup_iff).2 h6⟩,h7⟩ ?_))
   intro ver k' v' l2 hl
   rw[cV]at hl
   simp only[aq,dS.obj.injEq]at hl
   obtain⟨rfl,rfl,_⟩:=hl
   exact⟨rfl,rfl,⟨_,_,_,rfl⟩,λ_ _=>⟨rfl,rfl⟩⟩
  ·exact Inv.canon l h
theorem FF(k v n:Nat)(i:Id)(ver:Nat):(i= .aV k/\ver=v/\pG k v n i ver=some (.aV k,n))\/(i= .aV k/\pG k v n i ver=none)\/(i≠ .aV k/\pG k v n i ver=some (i,ver)):=by
 cases i with
 |new x j=>exact .inr (.inr ⟨by simp,rfl⟩)
 |aV j=>
  simp only[pG]
  cases h1:Nat.beq j k with
  |false=>exact .inr (.inr ⟨λe=>by injection e with e;subst e;simp at h1,rfl⟩)
  |true=>
   obtain rfl:=fb h1
   cases h2:Nat.beq ver v with
   |false=>exact .inr (.inl ⟨rfl,rfl⟩)
   |true=>exact .inl ⟨rfl,fb h2,rfl⟩
theorem FD(hC:C.ok){s s1:AS}(h:Inv C g β s a w){k n:Nat}(he:(s.Mh k n).eval=some s1):Inv C g β s1 a w:=by
 unfold AS.Mh at he
 split at he
 rotate_left
 ·exact(ai.1 he).elim
 rename_i v fr c hk
 obtain⟨X9,he⟩:=ay.1 he
 have X9:v<=n\/1<=n:=(Bool.or_eq_true_iff.1 X9).imp eK eK
 have hz:∀ver,C.E.tS (.aV k) ver->ver=0:=λver hb=>by
  obtain⟨h1,h2⟩:=hb
  cases hs:C.E.s (.aV k) with
  |none=>exact absurd hs h1
  |some en=>
   cases en with
   |dead=>
    have:=(h.le.tS (.aV k) (v+1) ⟨h1,λv' fr' c' hh=>by rw[hs]at hh;cases hh⟩).2 _ _ _ hk
    omega
   |obj v0 fr0 c0=>
    have:=hC.2 _ _ _ _ hs
    have:=h2 _ _ _ hs
    omega
 obtain rfl:=ao.1 he
 have TV:k < s.cz.length:=by
  rcases mC k s.cz.length with h | h
  ·exact h
  ·simp[AS.bZ,dM h]at hk
 generalize Cz:({cr:=s.cr.map (av.iW (pG k v n)),cz:=(s.cz.map (dS.IL (pG k v n))).set k (.obj n fr (c.iW (pG k v n))),news:=s.news.map λes=>es.map (dS.IL (pG k v n))}:AS)=s1
 have e0:s1.bZ (.aV k)=some (.obj n fr (c.iW (pG k v n))):=by
  rw[<-Cz]
  simp[AS.bZ,TV]
 have e1:∀i,i≠ .aV k->s1.bZ i=(s.bZ i).map (dS.IL (pG k v n)):=λi hi=>by
  rw[<-Cz]
  cases i with
  |aV j=>
   have:¬k=j:=λe=>hi (by rw[e])
   simp only[AS.bZ]
   rw[eW this,fj]
  |new x j=>
   simp only[AS.bZ,aA,fj]
   cases s.news[x]? <;> simp
 have e2:∀i v' fr' c',i≠ .aV k->s1.bZ i=some (.obj v' fr' c')->∃c0,s.bZ i=some (.obj v' fr' c0)/\c'=c0.iW (pG k v n):=λi v' fr' c' hi hh=>by
  rw[e1 i hi]at hh
  cases hs:s.bZ i with
  |none=>rw[hs]at hh;cases hh
  |some en=>
   rw[hs]at hh
   cases en with
   |dead=>simp[dS.IL]at hh
   |obj v0 fr0 c0=>
    simp only[ee,dS.IL,aq,dS.obj.injEq]at hh
    obtain⟨rfl,rfl,rfl⟩:=hh
    exact⟨c0,rfl,rfl⟩
 have e3:∀i,i≠ .aV k->s.bZ i≠none->s1.bZ i≠none:=λi hi hh=>by
  rw[e1 i hi]
  cases hs:s.bZ i with
  |none=>exact absurd hs hh
  |some en=>simp
 have hle:rP (pG k v n) (s.env w g β) (s1.env w g β):=by
  refine⟨Trans.mem (E:=s.env w g β) (E':=s1.env w g β) (Trans.refl w g),λi ver r hr H5=> ?_⟩
  rcases FF k v n i ver with⟨rfl,rfl,e⟩ | ⟨rfl,e⟩ | ⟨hi,e⟩
  ·rw[e]at hr
   obtain rfl:=ba hr
   refine⟨⟨by show s1.bZ (.aV k)≠none;rw[e0];simp,λv' fr' c' hh=> ?_⟩,λ_=>⟨⟨fr,c,hk⟩,rfl⟩⟩
   have hh:s1.bZ (.aV k)=some (.obj v' fr' c'):=hh
   rw[e0]at hh
   simp only[aq,dS.obj.injEq]at hh
   exact Nat.le_of_eq hh.1
  ·rw[e]at hr
   cases hr
  ·rw[e]at hr
   obtain rfl:=ba hr
   obtain⟨k1,k2⟩:=H5
   have k1:s.bZ i≠none:=k1
   have k2:∀v' fr' c',s.bZ i=some (.obj v' fr' c')->ver<=v':=k2
   refine⟨⟨e3 i hi k1,λv' fr' c' hh=> ?_⟩,λ⟨fr',c',hh⟩=> ?_⟩
   ·obtain⟨c0,Aa,_⟩:=e2 i v' fr' c' hi hh
    exact k2 _ _ _ Aa
   ·obtain⟨c0,Aa,_⟩:=e2 i ver fr' c' hi hh
    exact⟨⟨fr',c0,Aa⟩,rfl⟩
 refine⟨h.defers,by rw[<-Cz];simpa using h.size,λi=> ?_,λid ver fr' c' dq=> ?_,h.trans,?_⟩
 ·have:s1.slot i=(s.slot i).iW (pG k v n):=by rw[<-Cz];exact G6 _ rfl _ _
  rw[this]
  exact wi hle (h.cr i)
 ·have dq:s1.bZ id=some (.obj ver fr' c'):=dq
  by_cases hi:id= .aV k
  ·subst hi
   rw[e0]at dq
   simp only[aq,dS.obj.injEq]at dq
   obtain⟨rfl,rfl,rfl⟩:=dq
   exact pF hle (h.bK (.aV k) v fr c hk) (id':= .aV k) rfl λpl _=>⟨rfl,λ_ h=>h,λh=>h⟩
  ·obtain⟨c0,Aa,rfl⟩:=e2 id ver fr' c' hi dq
   exact pF hle (h.bK id ver fr' c0 Aa) (id':=id) rfl λpl _=>⟨rfl,λ_ h=>h,λh=>h⟩
 ·have hl:=h.le
  refine⟨hl.mem.trans (Trans.mem (E:=s.env w g β) (E':=s1.env w g β) (Trans.refl w g)),λid ver hb=> ?_,λid ver hb hc=> ?_⟩
  ·obtain⟨h1,h2⟩:=hl.tS _ ver hb
   have h1:s.bZ id≠none:=h1
   have h2:∀v' fr' c',s.bZ id=some (.obj v' fr' c')->ver<=v':=h2
   by_cases hi:id= .aV k
   ·subst hi
    obtain rfl:=hz ver hb
    exact⟨by show s1.bZ (.aV k)≠none;rw[e0];simp,λv' fr' c' hh=>aK _⟩
   ·exact⟨e3 id hi h1,λv' fr' c' hh=>let⟨c0,Aa,_⟩:=e2 id v' fr' c' hi hh;h2 _ _ _ Aa⟩
  ·obtain⟨fr',c',hc⟩:=hc
   have hc:s1.bZ id=some (.obj ver fr' c'):=hc
   by_cases hi:id= .aV k
   ·subst hi
    obtain rfl:=hz ver hb
    rw[e0]at hc
    simp only[aq,dS.obj.injEq]at hc
    have e4:=hc.1
    obtain rfl:v=0:=by omega
    exact hl.cur _ _ hb ⟨fr,c,hk⟩
   ·obtain⟨c0,Aa,_⟩:=e2 id ver fr' c' hi hc
    exact hl.cur _ _ hb ⟨fr',c0,Aa⟩
theorem td(hC:C.ok):∀(l:List (Nat×Nat)) {s s1:AS},Inv C g β s a w->(FE s l).eval=some s1->Inv C g β s1 a w
 |[],s,s1,h,he=>by
  obtain rfl:=ao.1 he
  exact h
 |x::l,s,s1,h,he=>by
  obtain⟨s2,h1,h2⟩:=ak.1 he
  exact td hC l (FD hC h h1) h2
theorem mh(hC:C.ok){an:mB}{s1:AS}(h:iE C s a w)(he:(norm P an s).eval=some s1):iE C s1 a w:=by
 unfold norm at he
 obtain⟨sb,Yu,he⟩:=ak.1 he
 obtain⟨su,Yv,he⟩:=ak.1 he
 obtain⟨sd,VU,he⟩:=ak.1 he
 obtain⟨s0,h1,h2⟩:=ak.1 he
 obtain⟨h3,h4⟩:=ay.1 h2
 obtain⟨sf,h5,h6⟩:=ak.1 h4
 obtain⟨g0,β0,h0⟩:=h
 obtain⟨g1,i1,_⟩:=gf an.Jp (td hC _ h0 Yu)
 obtain⟨g,β,h⟩:=xe _ (qZ _ (D0 _ ⟨g1,β0,(i1.still an.Uo).canon an.QL⟩ Yv) VU) h1
 exact lJ hC _ (yH _ ⟨g,β,h.bo hC h3⟩ h5) h6
end
end Go.Ab
end
