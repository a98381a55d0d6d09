/-
  Made short by a program of mine (wip/tools/mini.py).
-/
import Derived.Test.YtlpebgkekjfhaaaGreatS22x1
import Derived.Lib.Builder
import Derived.Lib.UnsafeStr
import Derived.Lib.AppendZeros
import Derived.Maps.RangeRun
set_option linter.unusedVariables false
set_option linter.unusedSimpArgs false
set_option maxRecDepth 100000
set_option synthInstance.maxSize 5000
noncomputable section
namespace Go.Ab
section
variable {P:Program} {C:Ctx} {g:Nat->iO} {β:Id->Option Pl} {s:AS} {a:Act} {w:World} {o:Oper}
theorem pb{b:Builtin}{args:Array Operand}{ts:Array TypeId}{f:Sem Value}{x:Value}{w':World}(ho:o.op= .call {callee:= .builtin b,args,argTypes:=ts})
  (hb:∀ty cs xs,xs=args.map a.eval->builtin b ts ty cs xs=(do pure (.value (<-f)))) (hf:f.run P w= .ok x w'):(execOp a.eval o).run P w= .ok (.value x) w':=by
 simp only[execOp,ho,resolve,Sem.run_bind,Sem.run_pure,Result.andThen_ok,invoke]
 rw[hb _ _ _ rfl,Sem.run_bind,hf]
 rfl
theorem H6(h:Inv C g β s a w){c:Call}{x:Operand}{T:TypeId}(ho:o.op= .call c)(hc:c.callee= .builtin .len)(ha:c.args.toList=[x])(ht:c.argTypes.toList=[T]){v:ao}(he:(JJ P T (s.ev x)).eval=some v):
  ed P o a w (fq C (s.put o.dst v)):=by
 obtain⟨cal,args,tys⟩:=c
 simp only at hc ha ht
 have ha':args= #[x]:=by apply eF;simpa using ha
 have ht':tys= #[T]:=by apply eF;simpa using ht
 subst hc ha' ht'
 have hx:=h.ev x
 have fin:∀z,(Builtin.len_ #[T] 0 #[a.eval x]).run P w= .ok z w->VS (s.env w g β) v z->ed P o a w (fq C (s.put o.dst v)):=by
  intro z h1 h2
  refine h.value h2 (pb ho (f:=Builtin.len_ #[T] 0 #[a.eval x]) (λty cs xs Dx=> ?_) h1)
  subst Dx
  have e1:Builtin.len_ #[T] 0 #[a.eval x]=Builtin.len_ #[T] ty #[a.eval x]:=rfl
  rw[e1]
  simp[builtin]
 unfold JJ at he
 split at he
 ·rename_i st hT hl
  rw[hl]at hx
  obtain rfl:=ak.1 he
  refine fin (.int .i64 (st.size:Int)) ?_ (gY _ _)
  rw[ri hx]
  simp[Builtin.len_,run_underlying hT,goInt]
 ·rename_i e t l hT hl
  rw[hl]at hx
  obtain rfl:=ak.1 he
  obtain⟨ad,cap,vs,hy,_⟩:=lJ hx
  refine fin (.int .i64 (l.length:Int)) ?_ (gY _ _)
  rw[hy]
  simp[Builtin.len_,run_underlying hT,goInt]
 ·rename_i e hT hl
  rw[hl]at hx
  obtain rfl:=ak.1 he
  refine fin (.int .i64 0) ?_ (gY _ _)
  rw[gV hx]
  simp[Builtin.len_,run_underlying hT,goInt]
 ·rename_i e id ver p c i len hT hl
  rw[hl]at hx
  obtain rfl:=ak.1 he
  obtain⟨ad,cap,hy,_⟩:=kz hx
  refine fin (.int .i64 (len:Int)) ?_ (gY _ _)
  rw[hy]
  simp[Builtin.len_,run_underlying hT,goInt]
 ·rename_i n e hT
  obtain rfl:=ak.1 he
  refine fin (.int .i64 (n:Int)) ?_ (gY _ _)
  simp[Builtin.len_,run_underlying hT,goInt]
 ·simp only[ag]at he
def Env.open(E:Env):Env:= {E with g:=λ_=> .free}
theorem JR(E:Env):bV E E.open:=⟨⟨λ_ _ _ h=>⟨h.1,trivial⟩,λ_ _ _ h=>⟨rfl,h⟩⟩,λ_ _ h=>h,λ_ _ _ h=>⟨h,rfl⟩⟩
theorem Ez(h:Inv C g β s a w){v:ao}{y:Value}(hv:VS (s.env w g β) v y){t:Ty}{x:t.den}(ht:(s.Ey t v).eval=some x):
  ∃cs,cC (s.env w g β).open t cs x/\ei t.agg cs y:=by
 obtain⟨cs,hV,hO⟩:=hv.dC (o7 ht)
 exact⟨cs,mS rfl h.bk (JR _) v t x cs hV ht (λid _ v fr c _ pl _ j x hx _=>⟨hx,trivial⟩),by rw[<-yU ht];exact hO⟩
theorem mA{E:Env}{k:IntKind}:∀ {vs:List Value} {l:List Int},aM (cC E (.int k)) vs l->vs=l.map (Value.int k)
 |vs,[],h=>h
 |_,x::xs,⟨c,cs',e,hx,hr⟩=>by
  have hx':c=[Value.int k x]:=by simpa only[cC]using hx
  rw[e,hx',mA hr]
  rfl
theorem mD{E:Env}{k:IntKind}:∀(l:List Int),aM (cC E (.int k)) (l.map (Value.int k)) l
 |[]=>rfl
 |x::xs=>⟨[.int k x],xs.map (Value.int k),rfl,by simp[cC],mD xs⟩
theorem foldl_push(l:List Int):∀b:ByteArray,l.foldl (λr n=>r.push (UInt8.ofNat n.toNat)) b=⟨b.data++(l.map λn=>UInt8.ofNat n.toNat).toArray⟩:=by
 induction l with
 |nil=>intro b;simp
 |cons n l ih=>
  intro b
  rw[cO,ih]
  simp[ByteArray.push]
theorem C1{α:Type}(xs:Array α)(x:α)(f:α->α):(xs.push x).modify xs.size f=xs.push (f x):=by
 apply kA
 intro i
 rw[eJ,Array.getElem?_push,Array.getElem?_push]
 by_cases h:i=xs.size
 ·subst h;simp
 ·have h':¬xs.size=i:=λe=>h e.symm
  simp[h,h']
theorem AY(w:World)(c:Array Value)(e:TypeId)(n:Nat):(w.alloc (.cells c e)).freeze ⟨w.heap.size,n,none⟩ 1=w.alloc (.cells c e (n,n+1)):=by
 show({w with heap:=(w.heap.push (.cells c e)).modify w.heap.size _}:World)= {w with heap:=w.heap.push (.cells c e (n,n+1))}
 rw[C1]
 rfl
theorem Ce{w:World}{b:Nat}{c:Array Value}{e:TypeId}{n:Nat}(h:w.heap[b]? =some (.cells c e (n,n+1))):w.freeze ⟨b,n,none⟩ 1=w:=by
 unfold World.freeze
 rw[if_neg (by omega)]
 have:∀f:Obj->Obj,f (.cells c e (n,n+1))= .cells c e (n,n+1)->w.heap.modify b f=w.heap:=λf hf=>by
  apply kA
  intro i
  rw[eJ]
  split
  ·rename_i hi;subst hi;rw[h];simp[hf]
  ·rfl
 rw[this]
 simp
theorem uA(e:TypeId)(st:ByteArray)(w:World):∃cap:Nat,st.size<=cap/\∃arr:Array Value,(∀(j:Nat) (v:Value),((bQ st).map (Value.int .u8))[j]? =some v->arr[j]? =some v)/\
  (Conv.stringToBytes e st).run P w= .ok (.slice (some ⟨w.heap.size,0,none⟩) st.size cap) (w.drew.alloc (.cells arr e (arr.size,arr.size+1))):=by
 refine⟨(Question.appendCap st.size 0 e).cut (w.tape w.drawn (.appendCap st.size 0 e)),by simp[Question.cut],
  (st.data.map λb=>Value.int .u8 b.toNat)++Array.replicate ((Question.appendCap st.size 0 e).cut (w.tape w.drawn (.appendCap st.size 0 e)) - st.size) (.int .u8 0),?_,?_⟩
 ·intro j v hj
  have hl:j < st.data.size:=by
   have:=(cT.1 hj).1
   simpa[bQ]using this
  rw[gH,if_pos (by simpa using hl)]
  simpa[bQ,hl]using hj
 ·have hs:∀(arr:Array Value),(markStringish ⟨w.heap.size,0,none⟩).run P (w.drew.alloc (.cells arr e))= .ok () (w.drew.alloc (.cells arr e (arr.size,arr.size+1))):=by
   intro arr
   have h1:(w.drew.alloc (.cells arr e)).shape? w.heap.size=some (e,arr.size):=by
    have h2:(w.drew.alloc (.cells arr e)).heap[w.heap.size]? =some (.cells arr e):=lh w.drew _
    simp only[World.shape?,h2]
   have h3:=AY w.drew arr e arr.size
   have h4:w.drew.heap.size=w.heap.size:=rfl
   rw[h4]at h3
   simp only[markStringish,Sem.run_bind,run_shape,h1,Result.andThen_ok,run_freeze,h3]
  simp[Conv.stringToBytes,Question.forced,newRow,hs]
theorem Inv.kill(h:Inv C g β s a w){id:Id}{v:Nat}{fr:Bool}{c:ao}(hs:s.bA id=some (.obj v fr c)){b:Nat}(hg:g b= .own (.id id) 0){w':World}(KA:w'.os=w.os)(Qi:w'.tape=w.tape)(A4:w'.output=w.output/\w.drawn<=w'.drawn)(lz:w'.heap.size=w.heap.size)
  (tO:∀b',b'≠b->w'.heap[b']? =w.heap[b']?):Inv C (iT g b .free) β (s.aD id .dead) a w':=by
 have ht:Trans w w' g (iT g b .free):=by
  refine⟨KA,Qi,A4,by omega,λb' hb'=> ?_⟩
  by_cases he:b'=b
  ·subst he
   rw[hg,eb]
   exact⟨.inl rfl,λ_ _ hh=>by omega⟩
  ·rw[dU _ _ _ he,tO b' he]
   cases wE:g b' with
   |free=>exact⟨rfl,rfl⟩
   |own o k=>cases o with
    |dm=>exact⟨rfl,rfl⟩
    |id i=>exact⟨.inr ⟨i,k,rfl,aw _⟩,λoff v _ hv=>by simp only[World.cell?,tO b' he]at hv ⊢;exact hv⟩
 have iL:=dv s id .dead (by rw[hs];simp)
 have hle:bV (s.env w g β) ((s.aD id .dead).env w' (iT g b .free) β):=by
  refine⟨Trans.mem ht,λi ver hb=> ?_,λi ver hb hc=> ?_⟩
  ·by_cases hi:i=id
   ·subst hi
    exact⟨by show(s.aD i .dead).bA i≠none;rw[iL];simp,λv fr c hh=>by
     have hh:(s.aD i .dead).bA i=some (.obj v fr c):=hh
     rw[iL]at hh;cases hh⟩
   ·have:=cq s id i .dead hi
    obtain⟨h1,h2⟩:=hb
    exact⟨by show(s.aD id .dead).bA i≠none;rw[this];exact h1,λv fr c hh=>h2 v fr c (this.symm.trans hh)⟩
  ·obtain⟨fr,c,hc⟩:=hc
   have hc:(s.aD id .dead).bA i=some (.obj ver fr c):=hc
   by_cases hi:i=id
   ·subst hi;rw[iL]at hc;cases hc
   ·rw[cq s id i .dead hi]at hc
    exact⟨⟨fr,c,hc⟩,rfl⟩
 refine h.step (cF _ _ _) ht hle λi ver fr c hi=> ?_
 have hi:(s.aD id .dead).bA i=some (.obj ver fr c):=hi
 by_cases cI:i=id
 ·subst cI;rw[iL]at hi;cases hi
 ·rw[cq s id i .dead cI]at hi
  refine(h.bk i ver fr c hi).mono hle rfl (λpl hp=> ?_) λq2 vq k2 v2 l2 xH Rt=> ?_
  ·have fL:=h.apart hg cI hi (pl:=pl) hp
   exact⟨tO pl.b fL,dU _ _ _ fL⟩
  ·have xH:s.bA q2=some (.obj vq true (.mp k2 v2 l2)):=xH
   have hd:q2≠id:=λe=>by
    obtain⟨fr3,c3,Kn⟩:=Rt
    have Kn:(s.aD id .dead).bA q2=some (.obj vq fr3 c3):=Kn
    rw[e,iL]at Kn
    cases Kn
   refine⟨⟨k2,v2,l2,by show(s.aD id .dead).bA q2=_;rw[cq s id q2 .dead hd];exact xH⟩,λpl hp=> ?_⟩
   have fL:=h.apart hg hd xH (pl:=pl) hp
   exact⟨tO pl.b fL,dU _ _ _ fL⟩
theorem DU(h:Inv C g β s a w){src dst:TypeId}{x:Operand}(ho:o.op= .convert src dst x){id:Id}{ver len:Nat}(hx:s.ev x= .cv id ver [] 0 0 len){s':AS}(he:(B1 P s o.dst src dst id ver len).eval=some s'):ed P o a w (fq C s'):=by
 unfold B1 at he
 split at he
 ·rename_i v e0 l e ia hD
  split at he
  ·rename_i hE
   obtain⟨h1,h2⟩:=av.1 he
   obtain⟨h3,h4⟩:=bl.1 h2
   obtain rfl:=ak.1 h4
   simp only[ae,beq_iff_eq]at h1
   obtain⟨rfl,rfl⟩:=h1
   simp only[decide_eq_true_eq]at h3
   obtain⟨h5,h6⟩:=h3
   have b5:=dj ia
   have hv:=h.ev x
   rw[hx]at hv
   obtain⟨ad,cap,hy,tM,_,_,dV⟩:=kz hv
   have dV:=dV ⟨false,_,b5⟩
   have hO:mr (s.env w g β) id false (.vec e0 (.int .u8) l):=h.bk id v false _ b5
   obtain⟨hz,hO⟩:=hO
   have hO:(match β id with
    |none=>l=[]
    |some pl=>∃cur k,w.heap[pl.b]? =some (.cells cur e0 (0,0))/\cur.size=pl.cap*(Ty.int .u8).size/\l.length<=pl.cap/\pl.cap<=maxLen/\g pl.b= .own (.id id) k/\
      k<=l.length*(Ty.int .u8).size/\(false=false->k=0)/\aM (cC (s.env w g β) (.int .u8)) (cur.toList.take (l.length*(Ty.int .u8).size)) l):=hO
   have dV:(match β id with
    |some pl=>(0 < len\/0=0->ad=some ⟨pl.b,0,none⟩)/\(([]:List rN)=[]->0=0->cap=pl.cap)
    |none=>ad=none/\len=0/\cap=0):=dV
   cases hp:β id with
   |none=>rw[hp]at hO;simp only at hO;subst hO;simp at h6;omega
   |some pl=>
    rw[hp]at hO dV
    obtain⟨cur,k,q1,q2,q3,q4,q5,q6,q7,q8⟩:=hO
    have hk:=q7 rfl
    subst hk
    have F9:=dV.1 (.inr rfl)
    subst F9
    have hb:pl.b < w.heap.size:=(bg.1 q1).1
    have NL:∃w',w.freeze ⟨pl.b,cur.size,none⟩ 1=w'/\w'.heap[pl.b]? =some (.cells cur e0 (cur.size,cur.size+1))/\w'.os=w.os/\w'.tape=w.tape/\(w'.output=w.output/\w.drawn<=w'.drawn)/\w'.heap.size=w.heap.size/\∀b',b'≠pl.b->w'.heap[b']? =w.heap[b']? :=by
     refine⟨_,rfl,?_⟩
     unfold World.freeze
     rw[if_neg (by omega)]
     refine⟨?_,rfl,rfl,⟨rfl,aw _⟩,by simp,λb' hb'=> ?_⟩
     ·simp only[eJ,if_true,q1,dh]
      rfl
     ·simp only[eJ]
      rw[if_neg (λe=>hb' e.symm)]
    obtain⟨w',hw',f1,f2,f3,f4,f5,f6⟩:=NL
    have HO:w.shape? pl.b=some (e0,cur.size):=by simp only[World.shape?,q1]
    have hm:(markStringish ⟨pl.b,0,none⟩).run P w= .ok () w':=by
     simp only[markStringish,Sem.run_bind,run_shape,HO,Result.andThen_ok,run_freeze,hw']
    have i1:=h.kill b5 q5 f2 f3 f4 f5 f6
    refine .inl ⟨.slice (some ⟨pl.b,0,none⟩) len cap,w',da (f:=convert src src (a.eval x)) (by simp only[execOp,ho]) ?_,_,β,i1.put o.dst ⟨_,?_,rfl⟩⟩
    ·rw[hy]
     simp[convert,run_underlying hD,run_underlying hE,hm]
    ·have tP:=mA q8
     have LX:(Ty.int .u8).size=1:=rfl
     rw[LX,mq]at tP
     simp only[V,cC]
     refine⟨_,cap,l.map (Value.int .u8),by rw[h6],by rw[<-h6];exact tM,λ_=>rfl,λj vv hj=>⟨_,_,rfl,?_,?_⟩,mD (E:=(s.aD id .dead).env w' (iT g pl.b .free) β) _⟩
     ·rw[aR]
      show w'.cell? ⟨pl.b,j,none⟩=some vv
      simp only[World.cell?,f1]
      rw[<-tP,cD]at hj
      split at hj
      ·simpa using hj
      ·cases hj
     ·show lQ (iT g pl.b .free) pl.b (0+j)
      unfold lQ
      rw[eb]
      trivial
  ·simp only[ag]at he
 ·simp only[ag]at he
theorem Jl(h:Inv C g β s a w){src dst:TypeId}{x:Operand}(ho:o.op= .convert src dst x){l:List Int}(hl:s.ev x= .sb l){v:ao}(he:(Hw P src dst l).eval=some v):ed P o a w (fq C (s.put o.dst v)):=by
 have hx:=h.ev x
 have fin:∀z,(convert src dst (a.eval x)).run P w= .ok z w->VS (s.env w g β) v z->ed P o a w (fq C (s.put o.dst v)):=by
  intro z h1 h2
  exact h.value h2 (da (f:=convert src dst (a.eval x)) (by simp only[execOp,ho]) h1)
 unfold Hw at he
 split at he
 ·rename_i e e' hD hS
  rw[hl]at hx
  split at he
  ·rename_i hE
   obtain⟨h1,h2⟩:=av.1 he
   obtain rfl:=ak.1 h2
   have h1:src=dst:=by simpa using h1
   subst h1
   obtain⟨cs,hv,hO⟩:=hx
   simp only[V]at hv
   obtain⟨b,cap,arr,e2,Gc,tM,LJ,hb,Ea⟩:=hv
   have hO':cs=[a.eval x]:=hO
   rw[Gc]at hO'
   have hy:a.eval x= .slice (some ⟨b,0,none⟩) l.length cap:=by simpa using hO'.symm
   rw[hD]at hS
   obtain rfl:e=e':=by simpa using hS
   refine fin (.slice (some ⟨b,0,none⟩) l.length cap) ?_ ⟨_,?_,rfl⟩
   ·rw[hy]
    have hb:w.heap[b]? =some (.cells arr e2 (arr.size,arr.size+1)):=hb
    have NL:=Ce hb
    have HO:w.shape? b=some (e2,arr.size):=by simp only[World.shape?,hb]
    have hm:(markStringish ⟨b,0,none⟩).run P w= .ok () w:=by
     simp only[markStringish,Sem.run_bind,run_shape,HO,Result.andThen_ok,run_freeze,NL]
    simp[convert,run_underlying hD,run_underlying hE,hm]
   ·simp only[V,cC]
    refine⟨_,cap,l.map (Value.int .u8),rfl,tM,λ_=>rfl,λj v hj=>⟨_,_,rfl,?_,?_⟩,mD (E:=s.env w g β) _⟩
    ·rw[aR]
     show w.cell? ⟨b,j,none⟩=some v
     have hb:w.heap[b]? =some (.cells arr e2 (arr.size,arr.size+1)):=hb
     simp only[World.cell?,hb]
     simpa using Ea j v hj
    ·show lQ g b (0+j)
     unfold lQ
     have LJ:g b= .free:=LJ
     rw[LJ]
     trivial
  ·simp only[ag]at he
 ·simp only[ag]at he
theorem AP(h:Inv C g β s a w){obj:Bool}{src dst:TypeId}{x:Operand}(ho:o.op= .convert src dst x){v:ao}(he:(zM P s obj src dst (s.ev x)).eval=some v):ed P o a w (fq C (s.put o.dst v)):=by
 have hx:=h.ev x
 have fin:∀z,(convert src dst (a.eval x)).run P w= .ok z w->VS (s.env w g β) v z->ed P o a w (fq C (s.put o.dst v)):=by
  intro z h1 h2
  exact h.value h2 (da (f:=convert src dst (a.eval x)) (by simp only[execOp,ho]) h1)
 unfold zM at he
 split at he
 ·rename_i l hl
  exact Jl h ho hl he
 rename_i Ku
 unfold Hv at he
 split at he
 ·rename_i k n k' d hl hD hS
  rw[hl]at hx
  obtain rfl:=ak.1 he
  refine fin (.int k' (k'.wrap n)) ?_ (gY _ _)
  rw[lY hx]
  simp[convert,run_underlying hD,run_underlying hS,Conv.intToInt]
 ·rename_i st d hl hD hS
  rw[hl]at hx
  obtain rfl:=ak.1 he
  refine fin (.string st) ?_ (AI _)
  rw[ri hx]
  simp[convert,run_underlying hD,run_underlying hS]
 ·rename_i st e d hl hD hS
  rw[hl]at hx
  split at he
  ·rename_i hE
   obtain⟨cap,tM,arr,Ea,jT⟩:=uA (P:=P) e st w
   have i1:=(h.drew).rr (.cells arr e (arr.size,arr.size+1))
   have hlen:(bQ st).length=st.size:=by simp only[bQ,cj,bU];rfl
   have h2:=lh w.drew (.cells arr e (arr.size,arr.size+1))
   have hex:(execOp a.eval o).run P w= .ok (.value (.slice (some ⟨w.heap.size,0,none⟩) st.size cap)) (w.drew.alloc (.cells arr e (arr.size,arr.size+1))):=by
    refine da (f:=convert src dst (a.eval x)) (by simp only[execOp,ho]) ?_
    rw[ri hx]
    simp[convert,run_underlying hD,run_underlying hS,run_underlying hE,jT]
   have Fg:iT g w.drew.heap.size .free w.heap.size= .free:=by
    rw[show w.drew.heap.size=w.heap.size from rfl,eb]
   cases obj with
   |false=>
    obtain rfl:=ak.1 he
    refine .inl ⟨_,_,hex,_,β,i1.put o.dst ⟨_,?_,rfl⟩⟩
    simp only[V,cC]
    refine⟨_,cap,(bQ st).map (Value.int .u8),by rw[hlen],by omega,λ_=>rfl,λj v hj=>⟨_,_,rfl,?_,?_⟩,mD (E:=s.env (w.drew.alloc (.cells arr e (arr.size,arr.size+1))) (iT g w.drew.heap.size .free) β) _⟩
    ·have:=Ea j v hj
     rw[aR]
     show(w.drew.alloc (.cells arr e (arr.size,arr.size+1))).cell? ⟨w.drew.heap.size,j,none⟩=some v
     simp only[World.cell?,h2]
     simpa using this
    ·show lQ (iT g w.drew.heap.size .free) w.heap.size (0+j)
     unfold lQ
     rw[Fg]
     trivial
   |true=>
    obtain rfl:=ak.1 he
    refine .inl ⟨_,_,hex,_,β,i1.put o.dst ⟨_,?_,rfl⟩⟩
    simp only[V]
    exact⟨w.heap.size,cap,arr,e,by rw[hlen],by omega,Fg,h2,Ea⟩
  ·simp only[ag]at he
 ·rename_i e hD hS fL
  clear fL
  split at he
  ·rename_i hE
   obtain⟨l,h1,h2⟩:=ai.1 he
   obtain rfl:=ak.1 h2
   obtain⟨cs,hR,hO⟩:=Ez h hx h1
   simp only[cC]at hR
   obtain⟨ad,cap,vs,rfl,Ha,jZ,na,mi⟩:=hR
   have hO': [Value.slice ad (List.length l) cap]=[a.eval x]:=hO
   have hy:a.eval x= .slice ad (List.length l) cap:=by simpa using hO'.symm
   refine fin (.string (dT l)) ?_ (AI _)
   rw[hy,run_convert_bytes_string w src dst e ad _ _ hS hE hD]
   have tP:=mA (E:=(s.env w g β).open) (k:= .u8) (vs:=vs) (l:=l) mi
   cases ad with
   |none=>
    have Ku:l=[]:=by
     cases l with
     |nil=>rfl
     |cons _ _=>simp at jZ
    subst Ku
    rfl
   |some ad=>
    have HL:(loadCells ad (List.length l)).run P w= .ok (l.map (Value.int .u8)).toArray w:=by
     have:=run_loadCells_list (P:=P) w ad (l.map (Value.int .u8)) (λj v hj=>by
      rw[<-tP]at hj
      obtain⟨bb,off,e1,hh⟩:=na j v hj
      simp only[al]at e1
      subst e1
      rw[Addr.add_lit]
      exact hh.1)
     simpa using this
    rw[run_bytesToString w ad _ _ l HL,foldl_push]
    simp[dT]
  ·simp only[ag]at he
 ·simp only[ag]at he
end
end Go.Ab
namespace Go.Ab
section
variable {P:Program} {C:Ctx} {g:Nat->iO} {β:Id->Option Pl} {s:AS} {a:Act} {w:World} {o:Oper}
theorem zU(off:Nat):∀(vs:List Value) (k:Nat) (cells:Array Value),off+k+vs.length<=cells.size->
  ((vs.zipIdx k).foldl (λcs (c,j)=>cs.setIfInBounds (off+j) c) cells).toList=cM cells.toList (off+k) vs
 |[],k,cells,_=>by simp[cM]
 |v::vs,k,cells,h=>by
  simp only[aC]at h
  rw[List.zipIdx_cons,cO,zU off vs (k+1) _ (by simpa using(by omega:off+(k+1)+vs.length<=cells.size))]
  rw[Array.toList_setIfInBounds]
  have:=list_seg_step cells.toList (off+k) v vs (by simp;omega)
  unfold cM
  simpa[dB]using this
theorem zR{place:Nat->Option (Nat×Nat)}{cells:Array Value}{i off:Nat}{v:Value}{vs:List Value}{rest:List (Nat×Value)}(hp:place i=some (off,vs.length))(hv:v.cells=vs.toArray)(hl:off+vs.length<=cells.size):
  Instr.fill place cells ((i,v)::rest)=Instr.fill place (cM cells.toList off vs).toArray rest:=by
 have h1:v.cells.size=vs.length:=by rw[hv];simp
 have h2:¬(v.cells.size≠vs.length || off+v.cells.size > cells.size)=true:=by simp[h1];omega
 simp only[Instr.fill,hp]
 rw[if_neg h2]
 congr 1
 apply eF
 have:=zU off vs 0 cells (by omega)
 simp only[ct]at this
 rw[<-this,hv]
 rw[<-Array.foldl_toList]
 simp
theorem pq{E E':Env}(hs:E.s=s.bA)(ho:fF E)(he:bV E E'){t:Ty}(Gd:∀x,VS E (s.ev x) (a.eval x)):
  ∀(ps:List (Nat×Operand)) (l:List t.den) (r:List t.den×List Id) (cells:Array Value),(fV t s ps l).eval=some r->M8 E E' r.2->aM (cC E' t) cells.toList l->
   ∃cells',Instr.fill (λi=>some (i*t.size,t.size)) cells (ps.map λ(i,x)=>(i,a.eval x))=some cells'/\aM (cC E' t) cells'.toList r.1
 |[],l,r,cells,h,_,hc=>by
  obtain rfl:=ak.1 h
  exact⟨cells,rfl,hc⟩
 | (i,x)::ps,l,r,cells,h,hf,hc=>by
  simp only[fV]at h
  obtain⟨h1,h2⟩:=av.1 h
  obtain⟨y,h3,h4⟩:=ai.1 h2
  obtain⟨r',h5,h6⟩:=ai.1 h4
  obtain rfl:=ak.1 h6
  have hi:i < l.length:=by simpa using h1
  obtain⟨cs,hV,hO⟩:=(Gd x).dC (o7 h3)
  have hR:=mS hs ho he _ t y cs hV h3 (λid cI=>hf id (by simp[cI]))
  have py:=hO.cells hV.one
  have hlen:=hc.length (λ_ _ hx=>cC.size hx)
  have lz:=hR.size
  have hle:i*t.size+cs.length<=cells.size:=by
   have:=cE t.size (show i+1<=l.length by omega)
   rw[dn,iH]at this
   simp at hlen
   omega
  have A6:=aM.set (λ_ _ hx=>cC.size hx) hc i hi hR
  obtain⟨cells',q1,q2⟩:=pq hs ho he Gd ps (l.set i y) r' (cM cells.toList (i*t.size) cs).toArray h5 (λid cI=>hf id (by simp[cI])) A6
  refine⟨cells',?_,q2⟩
  rw[bX,zR (by rw[lz]) py hle]
  exact q1
theorem lH{E:Env}{t:Ty}{zc:Array Value}(hz:cC E t zc.toList t.zero):∀n:Nat,aM (cC E t) (madeCells zc (n*t.size)).toList (List.replicate n t.zero):=by
 have lz:zc.size=t.size:=by have:=hz.size;simpa using this
 intro n
 induction n with
 |zero=>simp[madeCells,aM]
 |succ n ih=>
  have e:(madeCells zc ((n+1)*t.size)).toList=(madeCells zc (n*t.size)).toList++zc.toList:=by
   apply gQ
   intro j
   rw[dn,iH]
   simp only[madeCells,Array.toList_map,Array.toList_range,dJ,List.getElem?_append,cj,List.length_range]
   by_cases hj:j < n*t.size
   ·have hj':j < n*t.size+t.size:=by omega
    simp[hj,hj',lz]
   ·by_cases hj':j < n*t.size+t.size
    ·have gO:j - n*t.size < zc.size:=by omega
     have hm:j%t.size=j - n*t.size:=by
      have:j=(j - n*t.size)+t.size*n:=by rw[Nat.mul_comm t.size n];omega
      rw[this,Nat.add_mul_mod_self_left,Nat.mod_eq_of_lt (by omega)]
      rw[Nat.mul_comm t.size n];omega
     simp[hj,hj',lz,hm]
     rw[getElem?_pos zc _ gO,getElem!_pos zc _ gO]
    ·have h1:¬j - n*t.size < zc.size:=by omega
     simp[hj,hj',h1]
  rw[e,List.replicate_succ']
  exact aM.append ih (aM.one hz)
theorem kh{nl:Bool}{T:TypeId}{e:TypeId}{t:Ty}{b:Nat}(h:pK P nl T=some (e,t,b)):
  P.underlying T=some (.slice e)/\0 < t.size/\∃i zv,P.info? e=some i/\i.size=t.size/\i.bytes=b/\i.zero=some zv/\∀E,cC E t zv.cells.toList t.zero:=by
 unfold pK at h
 split at h
 ·rename_i e' hT
  split at h
  ·rename_i t' ht
   split at h
   ·rename_i hg
    simp only[al,bY]at h
    obtain⟨rfl,rfl,rfl⟩:=h
    simp only[ae,bt,beq_iff_eq,beq_eq_false_iff_ne]at hg
    obtain⟨⟨h1,h2⟩,h3⟩:=hg
    obtain⟨i,zv,hi,hz,_,_⟩:=me h3 {w:=default,g:=λ_=> .free,β:=λ_=>none,s:=λ_=>none}
    refine⟨hT,by omega,i,zv,hi,by rw[<-iQ hi];exact h1,by simp[Program.bytesOf,hi],hz,λE=> ?_⟩
    obtain⟨i',zv',hi',hz',hV,_⟩:=me h3 E
    rw[hi]at hi'
    obtain rfl:i=i':=by simpa using hi'
    rw[hz]at hz'
    obtain rfl:zv=zv':=by simpa using hz'
    simpa only[V]using hV
   ·cases h
  ·cases h
 ·cases h
theorem pc{T:TypeId}{e:TypeId}{t:Ty}{b:Nat}(h:wR P T=some (e,t,b)):
  P.underlying T=some (.slice e)/\0 < t.size/\∃i zv,P.info? e=some i/\i.size=t.size/\i.bytes=b/\i.zero=some zv/\∀E,cC E t zv.cells.toList t.zero:=kh h
theorem zf{T:TypeId}{e:TypeId}{t:Ty}{b:Nat}(h:AR P T=some (e,t,b)):0 < t.size:=by
 unfold AR at h
 split at h
 ·exact(kh h).2.1
 ·exact(kh h).2.1
theorem Inv.Bg(h:Inv C g β s a w){q:Nat}(hq:s.dd q=true){e:TypeId}{t:Ty}{l:List t.den}{cur:Array Value}{cap:Nat}(hz:0 < t.size)(hc:aM (cC (s.env w g β) t) (cur.toList.take (l.length*t.size)) l)
  (hs:cur.size=cap*t.size) (hl:l.length<=cap) (hm:cap<=maxLen):
  ∃g' β',Inv C g' β' (s.born q [.obj 0 false (.vec e t l)]) a (w.alloc (.cells cur e))/\
   VS ((s.born q [.obj 0 false (.vec e t l)]).env (w.alloc (.cells cur e)) g' β') (.cv (.new q 0) 0 [] 0 0 l.length) (.slice (some ⟨w.heap.size,0,none⟩) l.length cap):=by
 have ht:=Trans.alloc w g (.cells cur e) (.own (.id (.new q 0)) 0)
 obtain⟨h1,h2⟩:=h.uT hq (c:= .vec e t l) (p:=some ⟨w.heap.size,cap⟩) ht (λb hb=>⟨ka w _ hb,dU _ _ _ (by omega)⟩) (λhe=>by
  refine⟨hz,?_⟩
  show(match rp β (.new q 0) (some ⟨w.heap.size,cap⟩) (.new q 0) with
   |none=>l=[]
   |some pl=>_)
  rw[gv]
  exact⟨cur,0,lh w _,hs,hl,hm,eb _ _ _,bj _,λ_=>rfl,hc.mono λ_ _ hx=>hx.mono he.mem⟩)
 refine⟨_,_,h1,_,?_,rfl⟩
 simp only[V]
 refine⟨_,_,rfl,hl,λ_=>rfl,jS hq _ _ _ _,λ_=> ?_⟩
 show(match rp β (.new q 0) (some ⟨w.heap.size,cap⟩) (.new q 0) with
   |some pl=>_
   |none=>_)
 rw[gv]
 exact⟨λ_=>rfl,λ_ _=>rfl⟩
theorem Inv.Ik(h:Inv C g β s a w){q:Nat}(hq:s.dd q=true){e:TypeId}{t:Ty}(hz:0 < t.size):
  ∃β',Inv C g β' (s.born q [.obj 0 false (.vec e t [])]) a w/\bV (s.env w g β) ((s.born q [.obj 0 false (.vec e t [])]).env w g β')/\
   VS ((s.born q [.obj 0 false (.vec e t [])]).env w g β') (.cv (.new q 0) 0 [] 0 0 0) (.slice none 0 0):=by
 have ht:=Trans.refl w g
 obtain⟨h1,h2⟩:=h.uT hq (c:= .vec e t []) (p:=none) ht (λb hb=>⟨rfl,rfl⟩) (λhe=>by
  refine⟨hz,?_⟩
  show(match rp β (.new q 0) none (.new q 0) with
   |none=>([]:List t.den)=[]
   |some pl=>_)
  rw[gv])
 refine⟨_,h1,h2,_,?_,rfl⟩
 simp only[V]
 refine⟨_,_,rfl,aw _,λhh=>by omega,jS hq _ _ _ _,λ_=> ?_⟩
 simp[AS.env]
theorem vn(parts:Array (Nat×Operand)):(parts.map λ(i,x)=>(i,a.eval x)).toList=parts.toList.map λ(i,x)=>(i,a.eval x):=by simp
theorem wB(h:Inv C g β s a w){T:TypeId}{n:Nat}{parts:Array (Nat×Operand)}{nl obj:Bool}(ho:o.op= .buildSlice T n parts){s':AS}(he:(iJ P s nl obj o.dst T n parts.toList).eval=some s'):ed P o a w (fq C s'):=by
 unfold iJ at he
 split at he
 ·rename_i e t b q rR hd
  obtain⟨hT,hz,i,zv,hi,Gf,LO,Dy,Gi⟩:=kh rR
  obtain⟨h1,h2⟩:=av.1 he
  obtain⟨r,h3,h4⟩:=ai.1 h2
  simp only[decide_eq_true_eq]at h1
  obtain⟨g1,i1,e1,t1,f1⟩:=eA r.2 h
  have MW:zv.cells.size=t.size:=by have:=(Gi (s.env w g β)).size;simpa using this
  obtain⟨cells',NJ,mi⟩:=pq (a:=a) rfl h.bk e1 h.ev parts.toList _ r (madeCells zv.cells (n*t.size)) h3 f1 (lH (Gi _) n)
  have NU:r.1.length=n:=by
   have:∀(ps:List (Nat×Operand)) (l:List t.den) (r:List t.den×List Id),(fV t s ps l).eval=some r->r.1.length=l.length:=by
    intro ps
    induction ps with
    |nil=>intro l r hh;obtain rfl:=ak.1 hh;rfl
    |cons p ps ih=>
     intro l r hh
     obtain⟨i,x⟩:=p
     simp only[fV]at hh
     obtain⟨_,h2⟩:=av.1 hh
     obtain⟨y,h3,h4⟩:=ai.1 h2
     obtain⟨r',h5,h6⟩:=ai.1 h4
     obtain rfl:=ak.1 h6
     have:=ih _ _ h5
     simpa using this
   rw[this _ _ _ h3]
   simp
  have G7:=mi.length (λ_ _ hx=>cC.size hx)
  have jT:(execOp a.eval o).run P w= .ok (.value (.slice (some ⟨w.heap.size,0,none⟩) n n)) (w.alloc (.cells cells' e)):=by
   refine da (f:=Instr.buildSlice T n (parts.map λ(i,x)=>(i,a.eval x))) (by simp only[execOp,ho]) ?_
   have Nw:¬n*t.size > 2^24:=by omega
   have hfill':Instr.fill (λi=>some (i*t.size,t.size)) ((Array.range (n*t.size)).map (λx=>(zv.cells)[x%zv.cells.size]!)) (parts.map λ(i,x)=>(i,a.eval x)).toList=some cells':=by
    rw[vn];exact NJ
   by_cases hn:n*t.size=0
   ·have LV:n=0:=by
     rcases Nat.mul_eq_zero.1 hn with h' | h'
     ·exact h'
     ·omega
    subst LV
    simp only[jR]at hfill' Nw
    have h0:Array.range 0= #[]:=rfl
    rw[h0,Array.map_empty]at hfill'
    simp at hfill'
    simp[Instr.buildSlice,run_underlying hT,run_sizeOf hi,Gf,newRow,h0,hfill']
   ·simp[Instr.buildSlice,run_underlying hT,run_sizeOf hi,Gf,newRow,hn,Nw,zeroValue,typeInfo,hi,Dy]
    simp at hfill'
    simp[hfill']
  cases obj with
  |true=>
   simp only at h4
   obtain⟨hq,h5⟩:=av.1 h4
   obtain rfl:=ak.1 h5
   rw[<-mc r.2]at hq
   have NK:cells'.toList.take (r.1.length*t.size)=cells'.toList:=bo (by omega)
   obtain⟨g2,β2,i2,v7⟩:=i1.Bg hq (e:=e) (l:=r.1) (cur:=cells') (cap:=n) hz (by rw[NK];exact mi) (by simp at G7;rw[G7,NU]) (by omega) (by
    have:n<=n*t.size:=Nat.le_mul_of_pos_right n hz
    unfold maxLen;omega)
   refine .inl ⟨_,_,jT,g2,β2,?_⟩
   rw[hd]
   rw[NU]at v7 ⊢
   exact i2.put (some q) v7
  |false=>
   simp only at h4
   obtain rfl:=ak.1 h4
   have i2:=i1.rr (.cells cells' e)
   refine .inl ⟨_,_,jT,iT g1 w.heap.size .free,β,?_⟩
   rw[hd]
   refine i2.put (some q) ⟨[.slice (some ⟨w.heap.size,0,none⟩) n n],?_,rfl⟩
   simp only[V,cC]
   refine⟨_,n,cells'.toList,by rw[NU],by omega,λ_=>rfl,λj v hj=>⟨_,_,rfl,?_,?_⟩,mi.mono λ_ _ hx=>hx.mono (Trans.mem (E:=(s.aP r.2).env w g1 β) (E':=(s.aP r.2).env (w.alloc (.cells cells' e)) (iT g1 w.heap.size .free) β) (Trans.alloc w g1 (.cells cells' e) .free))⟩
   ·show(w.alloc (.cells cells' e)).cell? ⟨w.heap.size,0+j,none⟩=some v
    rw[World.cell?_alloc_new,aR];simpa using hj
   ·show lQ (iT g1 w.heap.size .free) w.heap.size (0+j)
    unfold lQ;rw[eb];trivial
 ·simp only[ag]at he
theorem yd(h:Inv C g β s a w){T:TypeId}{x y:Operand}(ho:o.op= .makeSlice T x y){len cap:Int}(hx:(asInt (s.ev x)).eval=some len)(hy:(asInt (s.ev y)).eval=some cap){s':AS}
  (he:(kS P s o.dst T len cap).eval=some s'):ed P o a w (fq C s'):=by
 obtain⟨k,hx⟩:=nV (h.ev x) hx
 obtain⟨k',hy⟩:=nV (h.ev y) hy
 unfold kS at he
 split at he
 ·rename_i e t b q rR hd
  obtain⟨hT,hz,i,zv,hi,Gf,LO,Dy,Gi⟩:=pc rR
  obtain⟨hq,h2⟩:=av.1 he
  obtain⟨h3,h4⟩:=bl.1 h2
  obtain rfl:=ak.1 h4
  simp only[ae,decide_eq_true_eq,dK]at h3
  obtain⟨⟨h5,h6⟩,h7,h8⟩:=h3
  have hbytes:(i.bytes:Int)*cap<=281474976710656:=by
   rw[LO]
   have:((cap.toNat*b:Nat):Int)<=140737488355328:=by omega
   rw[Int.natCast_mul,show((cap.toNat:Nat):Int)=cap by omega,Int.mul_comm]at this
   omega
  have hr:=run_make (P:=P) w T e i zv hT hi Dy k k' len cap h5 h6 hbytes (by omega)
  rw[Gf]at hr
  have MW:zv.cells.size=t.size:=by have:=(Gi (s.env w g β)).size;simpa using this
  have pM:=lH (Gi (s.env w g β)) cap.toNat
  have L8:=aM.take (λ_ _ hx=>cC.size hx) len.toNat pM
  rw[List.take_replicate,dY (by omega)]at L8
  obtain⟨g2,β2,i2,v7⟩:=h.Bg hq (e:=e) (l:=List.replicate len.toNat t.zero) (cur:=madeCells zv.cells (cap.toNat*t.size)) (cap:=cap.toNat) hz (by rw[cd];exact L8) (size_madeCells _ _) (by rw[cd];omega) (by unfold maxLen;omega)
  rw[cd]at v7
  refine .inl ⟨_,_,da (f:=Instr.makeSlice T (a.eval x) (a.eval y)) (by simp only[execOp,ho]) (by rw[hx,hy];exact hr),g2,β2,?_⟩
  rw[hd]
  exact i2.put (some q) v7
 ·simp only[ag]at he
end
end Go.Ab
namespace Go.Ab
section
variable {P:Program} {C:Ctx} {g:Nat->iO} {β:Id->Option Pl} {s:AS} {a:Act} {w:World} {o:Oper}
theorem Ex:∀(c:ao) (f off:Nat) (v:ao),partOf c f=some (off,v)->(loc c (jj f)).eval=some (off,v):=by
 intro c f
 induction f generalizing c with
 |zero=>
  intro off v h
  cases c with
  |d t y=>
   cases t <;> simp only[partOf,reduceCtorEq]at h
   simp only[al,bY]at h
   obtain⟨rfl,rfl⟩:=h
   rfl
  |pr b c=>
   simp only[partOf,al,bY]at h
   obtain⟨rfl,rfl⟩:=h
   simp only[jj,loc]
   cases b <;> rfl
  |_=>simp only[partOf,reduceCtorEq]at h
 |succ f ih=>
  intro off v h
  cases c with
  |d t y=>
   cases t with
   |pair ta tb=>
    simp only[partOf]at h
    cases hp:partOf (.d tb y.2) f with
    |none=>rw[hp]at h;cases h
    |some r=>
     rw[hp]at h
     simp only[al,bY]at h
     obtain⟨rfl,rfl⟩:=h
     simp only[jj,loc,ai]
     exact⟨_,ih _ _ _ hp,rfl⟩
   |_=>simp only[partOf,reduceCtorEq]at h
  |pr b c=>
   simp only[partOf]at h
   cases hp:partOf c f with
   |none=>rw[hp]at h;cases h
   |some r=>
    rw[hp]at h
    simp only[al,bY]at h
    obtain⟨rfl,rfl⟩:=h
    simp only[jj,loc,ai]
    exact⟨_,ih _ _ _ hp,rfl⟩
  |_=>simp only[partOf,reduceCtorEq]at h
theorem CL(a b:ao):(ua a b).agg=true:=by unfold ua;split <;> rfl
theorem zz{v x v':ao}{i:Nat}(h:(ns v (jj i) x).eval=some v'):v'.agg=true:=by
 have fin:∀ {o:Out ao} {f:ao->ao},(∀a,(f a).agg=true)->(o.bind λa=>Out.ok (f a)).eval=some v'->v'.agg=true:=by
  intro o f hf hh
  obtain⟨_,_,h2⟩:=ai.1 hh
  obtain rfl:=ak.1 h2
  exact hf _
 cases i <;> simp only[jj]at h
 all_goals
  cases v with
  |d t y=>cases t <;> first | (simp only[ns,ag]at h;done) | (simp only[ns]at h;exact fin (λ_=>CL _ _) h)
  |pr b c=>simp only[ns]at h;exact fin (λ_=>CL _ _) h
  |_=>simp only[ns,ag]at h
theorem ra{E:Env}(Gd:∀x,VS E (s.ev x) (a.eval x)){fs:Array Field}{places:Array (Nat×Nat)}(wF:∀(i:Nat) (f:Field),fs[i]? =some f->places[i]? =some (f.offset,P.cellsOf f.type)):
  ∀(ps:List (Nat×Operand)) (v v':ao) (cells:Array Value),(jX P fs s ps v).eval=some v'->V E v cells.toList->v.agg=true->
   ∃cells',Instr.fill (places[·]?) cells (ps.map λ(i,x)=>(i,a.eval x))=some cells'/\V E v' cells'.toList/\v'.agg=true
 |[],v,v',cells,h,hV,tx=>by
  obtain rfl:=ak.1 h
  exact⟨cells,rfl,hV,tx⟩
 | (i,x)::ps,v,v',cells,h,hV,tx=>by
  simp only[jX]at h
  split at h
  ·rename_i f off c8 hf hp
   obtain⟨h1,h2⟩:=av.1 h
   obtain⟨v1,h3,h4⟩:=ai.1 h2
   simp only[ae,beq_iff_eq]at h1
   obtain⟨⟨rfl,OO⟩,QX⟩:=h1
   obtain⟨Eb,_⟩:=kK QX
   obtain⟨cs,hVx,hO⟩:=(Gd x).dC Eb
   have hcells:=hO.cells hVx.one
   have PS:=Ex _ _ _ _ hp
   obtain⟨u1,u2,u3⟩:=jY (jj i) v cells.toList f.offset c8 (s.ev x) v1 cs (VO.of hV) PS hVx h3
   have NW:v1.fu=false:=u3.lG hV.lG
   have lz:P.cellsOf f.type=cs.length:=by rw[(qJ QX).2.1];exact hVx.size.symm
   obtain⟨cells',q1,q2,q3⟩:=ra Gd wF ps v1 v' (cM cells.toList f.offset cs).toArray h4 (by simpa using u2.to NW) (zz h3)
   refine⟨cells',?_,q2,q3⟩
   rw[bX,zR (by rw[wF i f hf,lz]) hcells (by simpa using u1)]
   exact q1
  ·simp only[ag]at h
theorem C6{α γ:Type}(f:α->Sem γ)(r:α->γ):∀(l:List α),(∀x∈l,(f x).run P w= .ok (r x) w)->(l.mapM f).run P w= .ok (l.map r) w
 |[],_=>by simp
 |x::xs,h=>by
  rw[List.mapM_cons]
  simp only[Sem.run_bind,h x (by simp),Result.andThen_ok,C6 f r xs (λy hy=>h y (by simp[hy])),Sem.run_pure,bX]
theorem DO(h:Inv C g β s a w){T:TypeId}{parts:Array (Nat×Operand)}(ho:o.op= .build T parts){s':AS}(he:(qD P s o.dst T parts.toList).eval=some s'):ed P o a w (fq C s'):=by
 unfold qD at he
 split at he
 ·rename_i fs hT
  split at he
  ·rename_i z SF
   obtain⟨h1,h2⟩:=av.1 he
   obtain⟨v,h3,h4⟩:=ai.1 h2
   obtain rfl:=ak.1 h4
   simp only[ae,cG]at h1
   obtain⟨⟨hz,tx⟩,PO⟩:=h1
   obtain⟨i,zv,hi,Dy,hV,hO⟩:=me hz (s.env w g β)
   let places:Array (Nat×Nat):=fs.map λf=>(f.offset,P.cellsOf f.type)
   have wF:∀(i:Nat) (f:Field),fs[i]? =some f->places[i]? =some (f.offset,P.cellsOf f.type):=by
    intro i f hf
    simp[places,hf]
   obtain⟨cells',q1,q2,q3⟩:=ra (a:=a) h.ev wF parts.toList z v zv.cells h3 hV tx
   have hm:(fs.mapM λf=>(do pure (f.offset,<-sizeOf f.type):Sem (Nat×Nat))).run P w= .ok places w:=by
    rw[Array.mapM_eq_mapM_toList]
    have:=C6 (P:=P) (w:=w) (λf=>(do pure (f.offset,<-sizeOf f.type):Sem (Nat×Nat))) (λf=>(f.offset,P.cellsOf f.type)) fs.toList (by
     intro f hf
     obtain⟨j,hj⟩:=bz.1 (PO f hf)
     rw[Sem.run_bind,run_sizeOf hj,iQ hj]
     rfl)
    rw[Sem.run_map,this]
    show Result.ok _ w=Result.ok _ w
    congr 1
    apply eF
    simp[places]
   refine h.value (x:= .agg cells') (VS.of q2 (by rw[q3];simp[ei])) (da (f:=Instr.build T (parts.map λ(i,x)=>(i,a.eval x))) (by simp only[execOp,ho]) ?_)
   have q1':Instr.fill (places[·]?) zv.cells (parts.map λ(i,x)=>(i,a.eval x)).toList=some cells':=by rw[vn];exact q1
   simp only[Instr.build,Sem.run_bind,zeroValue,typeInfo,run_program,hi,Result.andThen_ok,Sem.run_pure,Dy,run_underlying hT,hm,q1']
  ·simp only[ag]at he
 ·rename_i n e hT
  split at he
  ·rename_i t ht
   obtain⟨h1,h2⟩:=av.1 he
   obtain⟨r,h3,h4⟩:=ai.1 h2
   obtain rfl:=ak.1 h4
   simp only[ae,beq_iff_eq]at h1
   obtain⟨lz,hz⟩:=h1
   obtain⟨g1,i1,e1,t1,f1⟩:=eA r.2 h
   obtain⟨i,zv,hi,Dy,hV,hO⟩:=me hz ((s.aP r.2).env w g1 β)
   simp only[V,cC]at hV
   obtain⟨cells',q1,q2⟩:=pq (a:=a) rfl h.bk e1 h.ev parts.toList _ r zv.cells h3 f1 hV.2
   have NU:r.1.length=n:=by
    have:∀(ps:List (Nat×Operand)) (l:List t.den) (r:List t.den×List Id),(fV t s ps l).eval=some r->r.1.length=l.length:=by
     intro ps
     induction ps with
     |nil=>intro l r hh;obtain rfl:=ak.1 hh;rfl
     |cons p ps ih=>
      intro l r hh
      obtain⟨i,x⟩:=p
      simp only[fV]at hh
      obtain⟨_,h2⟩:=av.1 hh
      obtain⟨y,h3,h4⟩:=ai.1 h2
      obtain⟨r',h5,h6⟩:=ai.1 h4
      obtain rfl:=ak.1 h6
      have:=ih _ _ h5
      simpa using this
    rw[this _ _ _ h3]
    simp
   refine .inl ⟨.agg cells',w,da (f:=Instr.build T (parts.map λ(i,x)=>(i,a.eval x))) (by simp only[execOp,ho]) ?_,g1,β,i1.put o.dst ⟨cells'.toList,?_,by simp[ei,ao.agg,Ty.agg]⟩⟩
   ·have q1':Instr.fill (λi=>some (i*t.size,t.size)) zv.cells (parts.map λ(i,x)=>(i,a.eval x)).toList=some cells':=by rw[vn];exact q1
    cases PL:P.info? e with
    |none=>
     exfalso
     unfold Ds yX at ht
     simp only[depth]at ht
     have:P.underlying e=none:=by simp[Program.underlying,PL]
     rw[this]at ht
     cases ht
    |some ie=>
     have Q8:=run_sizeOf PL w
     rw[<-iQ PL,lz]at Q8
     simp only[Instr.build,Sem.run_bind,zeroValue,typeInfo,run_program,hi,Result.andThen_ok,Sem.run_pure,Dy,run_underlying hT,Q8,q1']
   ·simp only[V,cC]
    exact⟨NU,q2⟩
  ·simp only[ag]at he
 ·simp only[ag]at he
theorem vH{T X ty e:TypeId}{i:TypeInfo}(hT:P.underlying T=some (.slice e))(hX:P.underlying X=some .string\/∃e',P.underlying X=some (.slice e'))(hi:P.info? e=some i)
  {b sLen sCap:Nat} {cur:Array Value} (hg:w.heap[b]? =some (.cells cur e (0,0))) {x:Value} {n:Nat} {news:List Value} (h1:∀u∈news,u.oneCell'=true)
  (hlen:(Builtin.lenOf x).run P w= .ok n w) (hf:(Builtin.firstCells i.size n x).run P w= .ok news.toArray w) (si:sLen+n<=sCap) (A1:sLen*i.size+news.length<=cur.size):
  (Builtin.append_ #[T,X] ty #[.slice (some ⟨b,0,none⟩) sLen sCap,x]).run P w= .ok (.slice (some ⟨b,0,none⟩) (sLen+n) sCap) (w.setRow b (cM cur.toList (sLen*i.size) news).toArray):=by
 have kZ:=run_storeCells_at P b (sLen*i.size) e news 0 cur w hg (by simpa using A1) h1
 simp only[ct]at kZ
 rcases hX with hX | ⟨e',hX⟩ <;> simp[Builtin.append_,run_underlying hT,run_underlying hX,sizeOf,typeInfo,hi,hlen,si,hf,Addr.add_lit,kZ,cM]
theorem ql{T X ty e:TypeId}{i:TypeInfo}(hT:P.underlying T=some (.slice e))(hX:P.underlying X=some .string\/∃e',P.underlying X=some (.slice e'))(hi:P.info? e=some i)
  {x:Value} (hlen:(Builtin.lenOf x).run P w= .ok 0 w) (hf:(Builtin.firstCells i.size 0 x).run P w= .ok #[] w):
  (Builtin.append_ #[T,X] ty #[.slice none 0 0,x]).run P w= .ok (.slice none 0 0) w:=by
 rcases hX with hX | ⟨e',hX⟩ <;> simp[Builtin.append_,run_underlying hT,run_underlying hX,sizeOf,typeInfo,hi,hlen,hf]
theorem vG{T X ty e:TypeId}{i:TypeInfo}{zv:Value}(hT:P.underlying T=some (.slice e))(hX:P.underlying X=some .string\/∃e',P.underlying X=some (.slice e'))(hi:P.info? e=some i)(Dy:i.zero=some zv)
  {ad:Option Addr} {sLen sCap:Nat} {bP:List Value} (ho:(Builtin.firstCells i.size sLen (.slice ad sLen sCap)).run P w.drew= .ok bP.toArray w.drew) {x:Value} {n:Nat} {news:List Value}
  (hlen:(Builtin.lenOf x).run P w= .ok n w) (hf:(Builtin.firstCells i.size n x).run P w.drew= .ok news.toArray w.drew) (si:sCap < sLen+n)
  (QS:((sLen+n:Nat):Int)<=9223372036854775807) (A1:(sLen+n)*i.bytes<=140737488355328):
  (Builtin.append_ #[T,X] ty #[.slice ad sLen sCap,x]).run P w= .ok (.slice (some ⟨w.heap.size,0,none⟩) (sLen+n) (grownCap w (sLen+n) sCap e))
   (w.drew.alloc (.cells (bP.toArray++news.toArray++Builtin.zeroCells zv.cells (grownCap w (sLen+n) sCap e - (sLen+n))) e)):=by
 have hn:¬(sLen+n<=sCap):=by omega
 have h63':¬(9223372036854775807 < ((sLen:Int)+(n:Int))):=by omega
 have hfit':=growslice_fits (bytes:=i.bytes) si A1
 have h48':¬(281474976710656 < Builtin.nextslicecap (sLen+n) sCap*i.bytes):=by omega
 rcases hX with hX | ⟨e',hX⟩
 all_goals
  simp[Builtin.append_,run_underlying hT,run_underlying hX,sizeOf,typeInfo,zeroValue,hi,Dy,hlen,hn,h63',h48',Question.forced,hf,ho,newRow,grownCap]
  congr 2
  apply eF
  simp[bC]
end
end Go.Ab
namespace Go.Ab
section
variable {P:Program} {C:Ctx} {g:Nat->iO} {β:Id->Option Pl} {s:AS} {a:Act} {w:World} {o:Oper}
theorem Ip(h:Inv C g β s a w){v:ao}{y:Value}(hv:VS (s.env w g β) v y){t:Ty}{m:List t.den}(he:(s.Ey (.slice t) v).eval=some m):
  ∃ad cap vs,y= .slice ad m.length cap/\(0 < m.length->ad.isSome=true)/\(∀j u,vs[j]? =some u->∃bb off,ad=some ⟨bb,off,none⟩/\w.cell? ⟨bb,off+j,none⟩=some u)/\aM (cC (s.env w g β) t) vs m:=by
 have hp:(s.fK (.slice t) v).eval=some m:=he
 cases v <;> first | (simp only[AS.fK,ag]at hp;done) | skip
 case c6=>
  simp only[AS.fK,ak]at hp
  subst hp
  exact⟨none,0,[],gV hv,by simp,λj u hj=>by simp at hj,rfl⟩
 case d t' x=>
  simp only[AS.fK]at hp
  have hp:=gC.1 hp
  have ha:(ao.d t' x).agg=false:=zL hp
  have hV:=hv.single rfl ha
  simp only[V]at hV
  have hv:VS (s.env w g β) (.d (.slice t) m) y:=VS.of (cs:=[y]) (by simp only[V];exact pI hp hV) rfl
  obtain⟨ad,cap,vs,hy,_,hs,hr,hc⟩:=lJ hv
  exact⟨ad,cap,vs,hy,hs,λj u hj=>let⟨bb,off,e,hh⟩:=hr j u hj;⟨bb,off,e,hh.1⟩,hc⟩
 case cv id ver p c i len=>
  simp only[AS.fK]at hp
  obtain⟨⟨n,t',l⟩,h1,h2⟩:=ai.1 hp
  obtain⟨h3,h4⟩:=bl.1 h2
  obtain⟨MP,RO⟩:=FY (E:=s.env w g β) (gC.1 h4)
  rw[MP]
  simp only[decide_eq_true_eq]at h3
  obtain⟨hc,hlen⟩:=h3
  suffices hg:∃ad cap vs,y= .slice ad (cut l i len).length cap/\(0 < (cut l i len).length->ad.isSome=true)/\(∀j u,vs[j]? =some u->∃bb off,ad=some ⟨bb,off,none⟩/\w.cell? ⟨bb,off+j,none⟩=some u)/\aM (cC (s.env w g β) t') vs (cut l i len) by
   obtain⟨ad,cap,vs,e1,e2,e3,e4⟩:=hg
   exact⟨ad,cap,vs,e1,e2,e3,RO _ e4⟩
  obtain⟨fr,c0,b5,na⟩:=vF rfl h.bk h1
  obtain⟨ad,cap,hy,hle,jZ,hb,dV⟩:=kz hv
  have dV:=dV ⟨fr,c0,b5⟩
  have I3:(cut l i len).length=len:=oc hlen
  rcases na with⟨hp,hl,_⟩ | ⟨pl,cur,e,hp,hh,lz,mi,hbound⟩
  ·rw[hp]at dV
   simp only at dV
   obtain⟨rfl,rfl,rfl⟩:=dV
   have:cut l i 0=[]:=by simp[cut]
   refine⟨none,0,[],by rw[I3];exact hy,by rw[I3];omega,λ_ _ hh=>by simp at hh,?_⟩
   rw[this];rfl
  ·rw[hp]at dV
   simp only at dV
   have hmul:(i+len)*t'.size<=l.length*t'.size:=cE _ hlen
   rw[dn]at hmul
   refine⟨ad,cap,_,by rw[I3];exact hy,by rw[I3];exact jZ,?_,sM mi i len⟩
   rw[yu _ _ _ _ _ hmul]
   intro j v hj
   rw[cD]at hj
   split at hj
   ·rename_i LQ
    rw[ew,hc]at hj
    have PT:0 < len:=by
     rcases iP len with h0 | h0
     ·subst h0;simp at LQ
     ·exact h0
    refine⟨pl.b,c,dV.1 (.inl PT),?_⟩
    have hh':w.heap[pl.b]? =some (.cells cur e (0,0)):=hh
    rw[cell_of_row w pl.b (c+j) cur e (0,0) hh']
    simpa using hj
   ·cases hj
theorem wk(h:Inv C g β s a w){t:Ty}{X:TypeId}{x:ao}{y:Value}(hx:VS (s.env w g β) x y){m:List t.den}(he:(qT P s t X x).eval=some m):
  (P.underlying X=some .string\/∃e',P.underlying X=some (.slice e'))/\∃news:List Value,aM (cC (s.env w g β) t) news m/\(Builtin.lenOf y).run P w= .ok m.length w/\
   ∀w',w'.heap=w.heap->(Builtin.firstCells t.size m.length y).run P w'= .ok news.toArray w':=by
 have sl:∀(x:ao),VS (s.env w g β) x y->(match P.underlying X with
   |some (.slice _)=>s.Ey (.slice t) x
   |_=> .fail).eval=some m->(P.underlying X=some .string\/∃e',P.underlying X=some (.slice e'))/\∃news:List Value,aM (cC (s.env w g β) t) news m/\(Builtin.lenOf y).run P w= .ok m.length w/\
   ∀w',w'.heap=w.heap->(Builtin.firstCells t.size m.length y).run P w'= .ok news.toArray w':=by
  intro x hx he
  split at he
  ·rename_i e' hX
   refine⟨.inr ⟨e',hX⟩,?_⟩
   obtain⟨ad,cap,vs,rfl,jZ,na,mi⟩:=Ip h hx he
   have hlen:=aM.length (λ_ _ hx=>cC.size hx) mi
   refine⟨vs,mi,rfl,λw' hw'=> ?_⟩
   cases ad with
   |none=>
    have MO:m.length=0:=by
     rcases iP m.length with h0 | h0
     ·exact h0
     ·have:=jZ h0;simp at this
    have:vs=[]:=aJ (by rw[hlen,MO,jR])
    subst this
    rfl
   |some ad=>
    refine run_firstCells_some (P:=P) w' t.size _ ad _ _ vs hlen (λj v hj=> ?_)
    obtain⟨bb,off,e1,hh⟩:=na j v hj
    simp only[al]at e1
    subst e1
    rw[Addr.add_lit]
    simpa[World.cell?,hw']using hh
  ·simp only[ag]at he
 unfold qT at he
 split at he
 ·rename_i st
  split at he
  ·rename_i hX
   refine⟨.inl hX,?_⟩
   obtain⟨e,hm⟩:=gh (gC.1 he)
   have e':Ty.int .u8=t:=by simpa using e
   subst e'
   simp only at hm
   subst hm
   have hy:=ri hx
   subst hy
   have hlen:(bQ st).length=st.size:=by simp only[bQ,cj,bU];rfl
   refine⟨(bQ st).map (Value.int .u8),mD _,by rw[hlen];rfl,λw' _=> ?_⟩
   rw[hlen]
   simp only[Builtin.firstCells,Sem.run_pure]
   congr 1
   apply eF
   rw[ByteArray.extract_zero_size]
   simp[bQ]
  ·simp only[ag]at he
 ·exact sl _ hx he
theorem oN(z:Array Value)(n:Nat):(Builtin.zeroCells z n).size=n*z.size:=by simp[Builtin.zeroCells]
theorem FZ(h:Inv C g β s a w){c:Call}{x y:Operand}{T X:TypeId}(ho:o.op= .call c)(hc:c.callee= .builtin .copy)(ha:c.args.toList=[x,y])(ht:c.argTypes.toList=[T,X]){s':AS}
  (he:(xp P s o.dst T X (s.ev x) (s.ev y)).eval=some s'):ed P o a w (fq C s'):=by
 obtain⟨cal,args,tys⟩:=c
 simp only at hc ha ht
 have ha':args= #[x,y]:=by apply eF;simpa using ha
 have ht':tys= #[T,X]:=by apply eF;simpa using ht
 subst hc ha' ht'
 have hx:=h.ev x
 have hy:=h.ev y
 have fin:∀z w',(Builtin.copy_ #[T,X] 0 #[a.eval x,a.eval y]).run P w= .ok z w'->(∃g' β',Inv C g' β' s' (a.put o.dst z) w')->ed P o a w (fq C s'):=by
  intro z w' h1 h2
  refine .inl ⟨z,w',pb ho (f:=Builtin.copy_ #[T,X] 0 #[a.eval x,a.eval y]) (λty cs xs Dx=> ?_) h1,h2⟩
  subst Dx
  have e1:Builtin.copy_ #[T,X] 0 #[a.eval x,a.eval y]=Builtin.copy_ #[T,X] ty #[a.eval x,a.eval y]:=rfl
  rw[e1]
  simp[builtin]
 unfold xp at he
 split at he
 ·rename_i e t b id ver len rR Dx
  obtain⟨hT,hz,i,zv,hi,Gf,LO,Dy,Gi⟩:=pc rR
  obtain⟨m,hm,he⟩:=ai.1 he
  obtain⟨hX,news,mi,hlen,Kr⟩:=wk h hy hm
  have JC:=mi.length (λ_ _ hx=>cC.size hx)
  have h1news:∀u∈news,u.oneCell'=true:=aM.all (λ_ _ hx=>hx.one) mi
  rw[<-Gf]at Kr
  split at he
  ·rename_i ve n t' l ia
   obtain⟨h1,tN⟩:=av.1 he
   simp only[ae,beq_iff_eq]at h1
   obtain⟨Mb,RM⟩:=h1
   subst Mb RM
   obtain⟨l',hl',y5⟩:=ai.1 tN
   obtain⟨et,hl'⟩:=gh (gC.1 hl')
   have et':t'=t:=by simpa using et
   subst et'
   simp only at hl'
   subst hl'
   obtain⟨MP,MM⟩:=bl.1 y5
   have MP:m.length<=len:=by simpa using MP
   obtain rfl:=ak.1 MM
   have b5:=dj ia
   rw[Dx]at hx
   obtain⟨ad,cap,Hd,Ha,jZ,xE,dV⟩:=kz hx
   have dV:=dV ⟨false,_,b5⟩
   obtain⟨pl,cur,e0,hp,hh,hg,hk,hV⟩:=(h.bk id ve false _ b5).box rfl
   have hp:β id=some pl:=hp
   have hh:w.heap[pl.b]? =some (.cells cur e0 (0,0)):=hh
   have hg:g pl.b= .own (.id id) 0:=hg
   have hcur':(match β id with
    |some pl=>(0 < len\/0=0->ad=some ⟨pl.b,0,none⟩)/\(([.arr]:List rN)=[]->0=0->cap=pl.cap)
    |none=>ad=none/\len=0/\cap=0):=dV
   rw[hp]at hcur'
   simp only at hcur'
   have F9:=hcur'.1 (.inr trivial)
   subst F9
   have hV:V (s.env w g β) (.d (.arr len t') l) (cur.toList.take cur.size):=hV
   rw[<-bU,cX]at hV
   simp only[V,cC]at hV
   obtain⟨Kv,hVc⟩:=hV
   have G7:=hVc.length (λ_ _ hx=>cC.size hx)
   have A1:news.length<=cur.size:=by
    rw[JC]
    have:cur.size=l.length*t'.size:=by simpa using G7
    rw[this,Kv]
    exact cE _ MP
   have kZ:=run_storeCells_at P pl.b 0 e0 news 0 cur w hh (by simpa using A1) h1news
   have jT:(Builtin.copy_ #[T,X] 0 #[a.eval x,a.eval y]).run P w= .ok (goInt m.length) (w.setRow pl.b (cM cur.toList 0 news).toArray):=by
    have PW:Nat.min m.length len=m.length:=dY MP
    rw[Hd]
    simp only[ct,aR]at kZ
    simp[Builtin.copy_,run_underlying hT,hlen,sizeOf,typeInfo,hi,PW,Kr w rfl,kZ,cM]
   have Eg:=Trans.setRow w hg (cM cur.toList 0 news).toArray
   have hle:bV (s.env w g β) ((s.aD id (.obj ve false (.d (.arr len t') (m++l.drop m.length)))).env (w.setRow pl.b (cM cur.toList 0 news).toArray) g β):=bV.aD b5 (aw _) Eg (λ_ _=>rfl) (λ_=>rfl)
   have i1:=h.step (cF _ _ _) Eg hle (fF.aD (LU:=jU b5 λk v1 l e=>by cases e) h.bk (by rw[b5];simp) hle (λ_ _=>rfl) (λi ver fr c pl2 hi xI Aa=>⟨setRow_other w pl.b pl2.b _ (h.apart hg hi xI Aa),rfl⟩) (uQ.obj ⟨pl,_,e0,hp,setRow_heap w pl.b cur _ e0 (0,0) hh,hg,trivial,by
    show V _ (.d (.arr len t') (m++l.drop m.length)) ((cM cur.toList 0 news).toArray.toList.take (cM cur.toList 0 news).toArray.size)
    rw[<-bU,cX]
    simp only[V,cC]
    refine⟨by rw[au,cH];omega,?_⟩
    have e2:cM cur.toList 0 news=news++cur.toList.drop (m.length*t'.size):=by
     simp[cM,JC]
    have q:aM (cC (s.env w g β) t') (cM cur.toList 0 news) (m++l.drop m.length):=by
     rw[e2]
     exact aM.append mi (aM.drop (λ_ _ hx=>cC.size hx) m.length hVc)
    exact q.mono λ_ _ hx=>hx.mono hle.mem⟩))
   exact fin _ _ jT ⟨g,β,i1.put o.dst ⟨[.int .i64 (m.length:Int)],by simp only[V,cC],rfl⟩⟩
  ·exact(ag.1 he).elim
 ·exact(ag.1 he).elim
theorem BQ(h:Inv C g β s a w){c:Call}{x y:Operand}{T X:TypeId}(ho:o.op= .call c)(hc:c.callee= .builtin .append)(ha:c.args.toList=[x,y])(ht:c.argTypes.toList=[T,X]){s':AS}
  {nl dt:Bool} (he:(nu P s nl dt o.dst T X (s.ev x) (s.ev y)).eval=some s'):ed P o a w (fq C s'):=by
 obtain⟨cal,args,tys⟩:=c
 simp only at hc ha ht
 have ha':args= #[x,y]:=by apply eF;simpa using ha
 have ht':tys= #[T,X]:=by apply eF;simpa using ht
 subst hc ha' ht'
 have hx:=h.ev x
 have hy:=h.ev y
 have fin:∀z w',(Builtin.append_ #[T,X] 0 #[a.eval x,a.eval y]).run P w= .ok z w'->(∃g' β',Inv C g' β' s' (a.put o.dst z) w')->ed P o a w (fq C s'):=by
  intro z w' h1 h2
  refine .inl ⟨z,w',pb ho (f:=Builtin.append_ #[T,X] 0 #[a.eval x,a.eval y]) (λty cs xs Dx=> ?_) h1,h2⟩
  subst Dx
  have e1:Builtin.append_ #[T,X] 0 #[a.eval x,a.eval y]=Builtin.append_ #[T,X] ty #[a.eval x,a.eval y]:=rfl
  rw[e1]
  simp[builtin]
 unfold nu at he
 split at he
 ·rename_i e t b q rR hd
  obtain⟨hT,hz,i,zv,hi,Gf,LO,Dy,Gi⟩:=kh rR
  obtain⟨m,hm,he⟩:=ai.1 he
  obtain⟨hX,news,mi,hlen,Kr⟩:=wk h hy hm
  have JC:=mi.length (λ_ _ hx=>cC.size hx)
  have h1news:∀u∈news,u.oneCell'=true:=aM.all (λ_ _ hx=>hx.one) mi
  rw[<-Gf]at Kr
  have MW:zv.cells.size=t.size:=by have:=(Gi (s.env w g β)).size;simpa using this
  have Qs:∀n,(Builtin.zeroCells zv.cells n).size=n*t.size:=λn=>by rw[oN,MW]
  have grow:∀(ad:Option Addr) (sLen sCap:Nat) (bP:List Value) (l0:List t.den),a.eval x= .slice ad sLen sCap->bP.length=sLen*t.size->l0.length=sLen->aM (cC (s.env w g β) t) bP l0->
    (Builtin.firstCells i.size sLen (.slice ad sLen sCap)).run P w.drew= .ok bP.toArray w.drew->sCap < sLen+m.length->dK (sLen+m.length) b=true->
    ∃(cur:Array Value) (cap:Nat),(Builtin.append_ #[T,X] 0 #[a.eval x,a.eval y]).run P w= .ok (.slice (some ⟨w.heap.size,0,none⟩) (sLen+m.length) cap) (w.drew.alloc (.cells cur e))/\
     cur.size=cap*t.size/\sLen+m.length<=cap/\cap<=maxLen/\cur.toList.take ((sLen+m.length)*t.size)=bP++news:=by
   intro ad sLen sCap bP l0 Hd wU Ku NC OO si Dw
   simp only[dK,decide_eq_true_eq]at Dw
   have hr:=vG (P:=P) (w:=w) (ty:=0) hT hX hi Dy OO hlen (Kr w.drew rfl) si (by omega) (by rw[LO];exact Dw.1)
   rw[Hd]
   refine⟨_,_,hr,?_,grownCap_ge _ _ _ _,grownCap_le_maxLen _ _ _ _ (by unfold maxLen;omega),?_⟩
   ·have Sw:=grownCap_ge w (sLen+m.length) sCap e
    simp only[Array.size_append,fg,Qs,wU,JC,<-dn]
    congr 1
    omega
   ·have JA:(bP++news).length=(sLen+m.length)*t.size:=by rw[au,wU,JC,dn]
    simp only[bp]
    rw[<-JA]
    exact List.take_left
  split at he
  ·rename_i R8
   rw[R8]at hx
   have Hd:=gV hx
   cases dt with
   |true=>
    simp only at he
    obtain⟨Dw,he⟩:=bl.1 he
    obtain rfl:=ak.1 he
    simp only[ae,decide_eq_true_eq]at Dw
    obtain⟨Dw,MO⟩:=Dw
    obtain⟨cur,cap,hr,q1,q2,q3,q4⟩:=grow none 0 0 [] [] Hd (by simp) rfl rfl rfl (by omega) (by simpa using Dw)
    simp only[aR,aT]at hr q2 q4
    have PD:aM (cC (s.env w.drew g β) t) news m:=mi.mono λ_ _ hx=>hx.mono (bV.same (s:=s) (β:=β) (Trans.drew w g)).mem
    refine fin _ _ hr ⟨iT g w.heap.size .free,β,(h.drew.rr (.cells cur e)).put o.dst ⟨[.slice (some ⟨w.heap.size,0,none⟩) m.length cap],?_,rfl⟩⟩
    simp only[V,cC]
    refine⟨λh0=>(by cases h0),λm' hm'=> ?_⟩
    obtain rfl:m=m':=aN hm'
    refine⟨_,cap,cur.toList.take (m.length*t.size),rfl,q2,λ_=>rfl,λj v hj=>⟨_,_,rfl,?_,?_⟩,?_⟩
    ·show(w.drew.alloc (.cells cur e)).cell? ⟨w.drew.heap.size,0+j,none⟩=some v
     rw[World.cell?_alloc_new,aR]
     rw[cD]at hj
     split at hj
     ·simpa using hj
     ·cases hj
    ·show lQ (iT g w.heap.size .free) w.heap.size (0+j)
     unfold lQ;rw[eb];trivial
    ·rw[q4]
     exact PD.mono λ_ _ hx=>hx.mono (Trans.mem (E:=s.env w.drew g β) (E':=s.env (w.drew.alloc (.cells cur e)) (iT g w.drew.heap.size .free) β) (Trans.alloc w.drew g (.cells cur e) .free))
   |false=>
   simp only at he
   obtain⟨hq,he⟩:=av.1 he
   obtain⟨Dw,he⟩:=bl.1 he
   obtain rfl:=ak.1 he
   by_cases MO:m.length=0
   ·have PY:m=[]:=aJ MO
    subst PY
    have P1:news=[]:=aJ (by rw[JC];simp)
    subst P1
    obtain⟨β',i1,e1,v1⟩:=h.Ik hq (e:=e) hz
    refine fin (.slice none 0 0) w ?_ ⟨g,β',?_⟩
    ·rw[Hd]
     exact ql (P:=P) hT hX hi hlen (Kr w rfl)
    ·exact i1.put o.dst v1
   ·obtain⟨cur,cap,hr,q1,q2,q3,q4⟩:=grow none 0 0 [] [] Hd (by simp) rfl rfl rfl (by omega) (by simpa using Dw)
    simp only[aR,aT]at hr q2 q4
    obtain⟨g2,β2,i2,v2⟩:=(h.drew).Bg hq (e:=e) (l:=m) (cur:=cur) (cap:=cap) hz (by rw[q4];exact mi.mono λ_ _ hx=>hx.mono (bV.same (s:=s) (β:=β) (Trans.drew w g)).mem) q1 q2 q3
    refine fin _ _ hr ⟨g2,β2,?_⟩
    exact i2.put o.dst v2
  ·rename_i id ver len Dx
   rw[Dx]at hx
   obtain⟨ad,cap,Hd,Ha,jZ,xE,dV⟩:=kz hx
   split at he
   ·rename_i v fr e' t' l ia
    obtain⟨h1,tN⟩:=av.1 he
    clear he
    simp only[ae,beq_iff_eq]at h1
    obtain⟨Mb,Rz⟩:=h1
    subst Mb Rz
    obtain⟨l',hl',y5⟩:=ai.1 tN
    obtain⟨et,hl'⟩:=gh (gC.1 hl')
    have et':t'=t:=by simpa using et
    subst et'
    simp only at hl'
    subst hl'
    obtain⟨JB,NH⟩:=bl.1 y5
    have JB:len<=l.length:=by simpa using JB
    obtain⟨QW,MM⟩:=bl.1 NH
    obtain⟨Dw,QV⟩:=bl.1 MM
    obtain rfl:=ak.1 QV
    clear tN y5 NH MM QV
    have b5:=dj ia
    have dV:=dV ⟨fr,_,b5⟩
    obtain⟨_,hO⟩:=h.bk id v fr _ b5
    have hO':(match β id with
     |none=>l=[]
     |some pl=>∃cur k,w.heap[pl.b]? =some (.cells cur e (0,0))/\cur.size=pl.cap*t'.size/\l.length<=pl.cap/\pl.cap<=maxLen/\g pl.b= .own (.id id) k/\
       k<=l.length*t'.size/\(fr=false->k=0)/\aM (cC (s.env w g β) t') (cur.toList.take (l.length*t'.size)) l):=hO
    have hcur':(match β id with
     |some pl=>(0 < len\/0=0->ad=some ⟨pl.b,0,none⟩)/\(([]:List rN)=[]->0=0->cap=pl.cap)
     |none=>ad=none/\len=0/\cap=0):=dV
    have LJ:fr=false\/len=l.length:=by
     simp only[fj,bt,decide_eq_true_eq]at QW
     exact QW
    have fL:s.bA id≠none:=by rw[b5];simp
    have fresh:∀(cur:Array Value) (cp:Nat) (g0:Nat->iO),Trans w (w.drew.alloc (.cells cur e)) g (iT g0 w.heap.size (.own (.id (id)) 0))->
      (∀i ver fr c pl,i≠id->s.bA i=some (.obj ver fr c)->β i=some pl->g0 pl.b=g pl.b)->cur.size=cp*t'.size->len+m.length<=cp->cp<=maxLen->
      aM (cC (s.env w g β) t') (cur.toList.take ((len+m.length)*t'.size)) (l.take len++m)->len<=l.length->
      ∃g' β',Inv C g' β' ((s.aD id (.obj (v+1) fr (.vec e t' (l.take len++m)))).put o.dst (.cv id (v+1) [] 0 0 (len+m.length))) (a.put o.dst (.slice (some ⟨w.heap.size,0,none⟩) (len+m.length) cp)) (w.drew.alloc (.cells cur e)):=by
     intro cur cp g0 ht LL q1 q2 q3 q4 q5
     have Kv:(l.take len++m).length=len+m.length:=by simp;omega
     have hle:bV (s.env w g β) ((s.aD id (.obj (v+1) fr (.vec e t' (l.take len++m)))).env (w.drew.alloc (.cells cur e)) (iT g0 w.heap.size (.own (.id id) 0)) (rp β id (some ⟨w.heap.size,cp⟩))):=
      bV.aD b5 (by omega) ht (λi hi=>oL _ _ _ hi) (λhh=>by omega)
     have i1:=h.step (cF _ _ _) ht hle (fF.aD (LU:=jU b5 λk v1 l e=>by cases e) h.bk fL hle (λi hi=>oL _ _ _ hi) (λi ver fr' c' pl hi xI Aa=>by
       have gO:pl.b < w.heap.size:=((h.bk i ver fr' c' xI).label (pl:=pl) Aa).1
       exact⟨ka w.drew _ gO,by rw[dU _ _ _ (by omega)];exact LL i ver fr' c' pl hi xI Aa⟩) (by
      refine⟨hz,?_⟩
      show(match rp β id (some ⟨w.heap.size,cp⟩) id with
       |none=>(l.take len++m)=[]
       |some pl=>_)
      rw[gv]
      refine⟨cur,0,lh w.drew _,q1,by rw[Kv];exact q2,q3,eb _ _ _,bj _,λ_=>rfl,?_⟩
      rw[Kv]
      exact q4.mono λ_ _ hx=>hx.mono hle.mem))
     refine⟨_,_,i1.put o.dst ⟨_,?_,rfl⟩⟩
     simp only[V]
     have iL:=dv s id (.obj (v+1) fr (.vec e t' (l.take len++m))) fL
     refine⟨_,_,rfl,q2,λ_=>rfl,⟨by show(s.aD id _).bA id≠none;rw[iL];simp,λv' fr' c' hh=> ?_⟩,λ_=> ?_⟩
     ·have hh':(s.aD id (.obj (v+1) fr (.vec e t' (l.take len++m)))).bA id=some (.obj v' fr' c'):=hh
      rw[iL]at hh'
      simp only[al,c7.obj.injEq]at hh'
      omega
     ·show(match rp β id (some ⟨w.heap.size,cp⟩) id with
       |some pl=>_
       |none=>_)
      rw[gv]
      exact⟨λ_=>rfl,λ_ _=>rfl⟩
    cases hp:β id with
    |none=>
     rw[hp]at hO' hcur'
     simp only at hO' hcur'
     obtain⟨rfl,rfl,rfl⟩:=hcur'
     subst hO'
     by_cases MO:m.length=0
     ·have PY:m=[]:=aJ MO
      subst PY
      have P1:news=[]:=aJ (by rw[JC];simp)
      subst P1
      have ht:=Trans.refl w g
      have hle:bV (s.env w g β) ((s.aD id (.obj (v+1) fr (.vec e t' []))).env w g β):=bV.aD b5 (by omega) ht (λ_ _=>rfl) (λ_=>rfl)
      have i1:=h.step (cF _ _ _) ht hle (fF.aD (LU:=jU b5 λk v1 l e=>by cases e) h.bk fL hle (λ_ _=>rfl) (λ_ _ _ _ _ _ _ _=>⟨rfl,rfl⟩) (by
       refine⟨hz,?_⟩
       show(match β id with
        |none=>([]:List t'.den)=[]
        |some pl=>_)
       rw[hp]))
      refine fin (.slice none 0 0) w ?_ ⟨g,β,i1.put o.dst ⟨_,?_,rfl⟩⟩
      ·rw[Hd]
       exact ql (P:=P) hT hX hi hlen (Kr w rfl)
      ·simp only[V]
       have iL:=dv s id (.obj (v+1) fr (.vec e t' [])) fL
       refine⟨_,_,rfl,aw _,λhh=>by simp at hh,⟨by show(s.aD id _).bA id≠none;rw[iL];simp,λv' fr' c' hh=> ?_⟩,λ_=> ?_⟩
       ·have hh':(s.aD id (.obj (v+1) fr (.vec e t' []))).bA id=some (.obj v' fr' c'):=hh
        rw[iL]at hh'
        simp only[al,c7.obj.injEq]at hh'
        omega
       ·show(match β id with
         |some pl=>_
         |none=>_)
        rw[hp]
        exact⟨rfl,by simp,rfl⟩
     ·obtain⟨cur,cp,hr,q1,q2,q3,q4⟩:=grow none 0 0 [] [] Hd (by simp) rfl rfl rfl (by omega) Dw
      refine fin _ _ hr (fresh cur cp g (Trans.trans (Trans.drew w g) (Trans.alloc w.drew g _ _)) (λ_ _ _ _ _ _ _ _=>rfl) q1 q2 q3 ?_ (by simp))
      rw[q4]
      simpa using mi
    |some pl=>
     rw[hp]at hO' hcur'
     simp only at hO' hcur'
     obtain⟨F9,tM⟩:=hcur'
     have F9:=F9 (.inr trivial)
     have tM:=tM trivial trivial
     subst F9 tM
     obtain⟨cur,k,p1,p2,p3,p4,p5,p6,p7,p8⟩:=hO'
     have hk:k<=len*t'.size:=by
      rcases LJ with hf | hf
      ·rw[p7 hf];exact bj _
      ·rw[hf];exact p6
     have hmul:len*t'.size<=l.length*t'.size:=cE _ JB
     have Q5:l.length*t'.size<=cur.size:=by rw[p2];exact cE _ p3
     have L8:=aM.take (λ_ _ hx=>cC.size hx) len p8
     rw[gA,dY hmul]at L8
     have wU:(cur.toList.take (len*t'.size)).length=len*t'.size:=by simp;omega
     by_cases si:len+m.length<=pl.cap
     ·have RY:(len+m.length)*t'.size<=cur.size:=by rw[p2];exact cE _ si
      have A1:len*i.size+news.length<=cur.size:=by rw[Gf,JC,<-dn];exact RY
      have hr:=vH (P:=P) (w:=w) (ty:=0) hT hX hi p1 h1news hlen (Kr w rfl) si A1
      rw[Gf]at hr A1
      have ht:Trans w (w.setRow pl.b (cM cur.toList (len*t'.size) news).toArray) g g:=by
       refine⟨by simp,by simp,by simp,by simp,λb' hb=> ?_⟩
       by_cases A0:b'=pl.b
       ·subst A0
        rw[p5]
        refine⟨.inr ⟨id,k,rfl,aw _⟩,λoff u JE hu=> ?_⟩
        rw[cell_of_row w pl.b off cur e (0,0) p1]at hu
        rw[cell_setRow_same w pl.b off cur _ e (0,0) p1]
        simp only[cM,bC,List.getElem?_toArray]
        rw[dO (by rw[wU];omega),cD,if_pos (by omega)]
        simpa using hu
       ·rw[setRow_other w pl.b b' _ A0]
        cases wE:g b' with
        |free=>exact⟨rfl,rfl⟩
        |own o' k=>cases o' with
         |dm=>exact⟨rfl,rfl⟩
         |id i'=>exact⟨.inr ⟨i',k,rfl,aw _⟩,λoff v _ hv=>by rw[cell_setRow_other w pl.b _ _ A0];exact hv⟩
      have hle:bV (s.env w g β) ((s.aD id (.obj (v+1) fr (.vec e t' (l.take len++m)))).env (w.setRow pl.b (cM cur.toList (len*t'.size) news).toArray) g β):=
       bV.aD b5 (by omega) ht (λ_ _=>rfl) (λ_=>rfl)
      have Kv:(l.take len++m).length=len+m.length:=by simp;omega
      have Qd:(cM cur.toList (len*t'.size) news).length=cur.toList.length:=gm (by simpa using A1)
      have i1:=h.step (cF _ _ _) ht hle (fF.aD (LU:=jU b5 λk v1 l e=>by cases e) h.bk fL hle (λ_ _=>rfl) (λi ver fr c pl2 hi xI Aa=>⟨setRow_other w pl.b pl2.b _ (h.apart p5 hi xI Aa),rfl⟩) (by
       refine⟨hz,?_⟩
       show(match β id with
        |none=>(l.take len++m)=[]
        |some pl=>_)
       rw[hp]
       refine⟨_,k,setRow_heap w pl.b cur _ e (0,0) p1,by rw[fg,Qd];simpa using p2,by rw[Kv];exact si,p4,p5,?_,p7,?_⟩
       ·rw[Kv,dn];omega
       ·rw[Kv,show(cM cur.toList (len*t'.size) news).toArray.toList=cM cur.toList (len*t'.size) news from rfl]
        have e1:(cM cur.toList (len*t'.size) news).take ((len+m.length)*t'.size)=cur.toList.take (len*t'.size)++news:=by
         unfold cM
         have JA:(cur.toList.take (len*t'.size)++news).length=(len+m.length)*t'.size:=by rw[au,wU,JC,dn]
         rw[<-JA]
         exact List.take_left
        rw[e1]
        exact(aM.append L8 mi).mono λ_ _ hx=>hx.mono hle.mem))
      rw[<-Hd]at hr
      refine fin _ _ hr ⟨g,β,i1.put o.dst ⟨_,?_,rfl⟩⟩
      simp only[V]
      have iL:=dv s id (.obj (v+1) fr (.vec e t' (l.take len++m))) fL
      refine⟨_,_,rfl,si,λ_=>rfl,⟨by show(s.aD id _).bA id≠none;rw[iL];simp,λv' fr' c' hh=> ?_⟩,λ_=> ?_⟩
      ·have hh':(s.aD id (.obj (v+1) fr (.vec e t' (l.take len++m)))).bA id=some (.obj v' fr' c'):=hh
       rw[iL]at hh'
       simp only[al,c7.obj.injEq]at hh'
       omega
      ·show(match β id with
        |some pl=>_
        |none=>_)
       rw[hp]
       exact⟨λ_=>rfl,λ_ _=>rfl⟩
     ·have OO:(Builtin.firstCells i.size len (.slice (some ⟨pl.b,0,none⟩) len pl.cap)).run P w.drew= .ok (cur.toList.take (len*t'.size)).toArray w.drew:=by
       refine run_firstCells_some (P:=P) w.drew i.size _ _ _ _ _ (by rw[wU,Gf]) (λj u hj=> ?_)
       rw[Addr.add_lit,aR]
       show w.cell? ⟨pl.b,j,none⟩=some u
       rw[cell_of_row w pl.b j cur e (0,0) p1]
       rw[cD]at hj
       split at hj
       ·simpa using hj
       ·cases hj
      obtain⟨cur2,cp,hr,q1,q2,q3,q4⟩:=grow (some ⟨pl.b,0,none⟩) len pl.cap (cur.toList.take (len*t'.size)) (l.take len) Hd wU (by simp;omega) L8 OO (by omega) Dw
      have gO:pl.b < w.heap.size:=(bg.1 p1).1
      have Fg:Trans w w.drew g (iT g pl.b .free):=by
       refine⟨rfl,rfl,⟨rfl,Nat.le_succ _⟩,aw _,λb' hb=> ?_⟩
       by_cases A0:b'=pl.b
       ·subst A0
        rw[p5,eb]
        exact⟨.inl rfl,λ_ _ _ hh=>hh⟩
       ·rw[dU _ _ _ A0]
        exact(Trans.drew w g).uS b' hb
      refine fin _ _ hr (fresh cur2 cp (iT g pl.b .free) (Trans.trans Fg (Trans.alloc w.drew _ _ _)) (λi ver fr c pl2 hi xI Aa=>dU _ _ _ (h.apart p5 hi xI Aa)) q1 q2 q3 ?_ JB)
      rw[q4]
      exact aM.append L8 mi
   ·simp only[ag]at he
  ·simp only[ag]at he
 ·simp only[ag]at he
end
end Go.Ab
namespace Go.Ab
abbrev Ren:=Id->Nat->Option (Id×Nat)
structure oS(ρ:Ren)(E E':Env):Prop where
 mem:lg E E'
 ref:∀id ver r,ρ id ver=some r->E.qi id ver->E'.qi r.1 r.2/\(E'.cur r.1 r.2->E.cur id ver/\E'.β r.1=E.β id)
theorem FA(ρ:Ren)(a:ao):(a.fE ρ).agg=a.agg:=by
 cases a with
 |ptr id v p n=>simp only[ao.fE];cases ρ id v <;> rfl
 |cv id v p c i l=>simp only[ao.fE];cases ρ id v <;> rfl
 |kT id v=>simp only[ao.fE];cases ρ id v <;> rfl
 |yl id v=>simp only[ao.fE];cases ρ id v <;> rfl
 |_=>rfl
mutual
theorem BG{ρ:Ren}{E E':Env}(h:oS ρ E E'):∀ {a:ao} {cs:List Value},V E a cs->V E' (a.fE ρ) cs
 | .undef,_,hv=>by simp only[V]at hv
 | .gone,_,hv=>by simpa only[ao.fE,V]using hv
 | .c6,_,hv=>by simpa only[ao.fE,V]using hv
 | .kY,_,hv=>by simpa only[ao.fE,V]using hv
 | .mF,_,hv=>by simpa only[ao.fE,V]using hv
 | .pk,_,hv=>by simpa only[ao.fE,V]using hv
 | .sb l,_,hv=>by
  simp only[ao.fE,V]at hv ⊢
  obtain⟨b,cap,arr,e,h1,h2,h3,h4,h5⟩:=hv
  obtain⟨h6,h7⟩:=h.mem.fz b _ h3 h4
  exact⟨b,cap,arr,e,h1,h2,h6,h7,h5⟩
 | .d t x,_,hv=>by simp only[ao.fE,V]at hv ⊢;exact hv.mono h.mem
 | .pr a b,_,hv=>by
  simp only[ao.fE,V]at hv ⊢
  obtain⟨ca,cb,e,ha,hb⟩:=hv
  exact⟨ca,cb,e,BG h ha,BG h hb⟩
 | .ptr id ver p n,_,hv=>by
  have h1:=hv.one
  simp only[ao.fE]
  cases hr:ρ id ver with
  |none=>
   simp only[V]at hv ⊢
   obtain⟨a,e,_⟩:=hv
   exact⟨_,e,h1 _ (by simp[e])⟩
  |some r=>
   simp only[V]at hv ⊢
   obtain⟨a,e,hb,hc⟩:=hv
   obtain⟨b1,b2⟩:=h.ref id ver r hr hb
   refine⟨a,e,b1,λc=> ?_⟩
   obtain⟨c1,e1⟩:=b2 c
   rw[e1];exact hc c1
 | .eW t x,_,hv=>by
  simp only[ao.fE,V]at hv ⊢
  obtain⟨b,off,vs,e,hr,hx⟩:=hv
  exact⟨b,off,vs,e,hr.mono h.mem,hx.mono h.mem⟩
 | .cv id ver p c i len,_,hv=>by
  have h1:=hv.one
  simp only[ao.fE]
  cases hr:ρ id ver with
  |none=>
   simp only[V]at hv ⊢
   obtain⟨a,cap,e,_⟩:=hv
   exact⟨_,e,h1 _ (by simp[e])⟩
  |some r=>
   simp only[V]at hv ⊢
   obtain⟨a,cap,e,hl,hs,hb,hc⟩:=hv
   obtain⟨b1,b2⟩:=h.ref id ver r hr hb
   refine⟨a,cap,e,hl,hs,b1,λc=> ?_⟩
   obtain⟨c1,e1⟩:=b2 c
   rw[e1];exact hc c1
 | .fn f c,_,hv=>by
  simp only[ao.fE,V]at hv ⊢
  obtain⟨vs,e,hc⟩:=hv
  exact⟨vs,e,DG h hc⟩
 | .cons _ _,_,hv=>by simp only[V]at hv
 | .nil,_,hv=>by simp only[V]at hv
 | .vec ..,_,hv=>by simp only[V]at hv
 | .bx ..,_,hv=>by simp only[V]at hv
 | .yl id ver,_,hv=>by
  have h1:=hv.one
  simp only[ao.fE]
  cases hr:ρ id ver with
  |none=>
   simp only[V]at hv ⊢
   obtain⟨b,e,_⟩:=hv
   exact⟨_,e,h1 _ (by simp[e])⟩
  |some r=>
   simp only[V]at hv ⊢
   obtain⟨b,e,hb,hc⟩:=hv
   obtain⟨b1,b2⟩:=h.ref id ver r hr hb
   refine⟨b,e,b1,λc=> ?_⟩
   obtain⟨c1,e1⟩:=b2 c
   rw[e1];exact hc c1
 | .kT id ver,_,hv=>by
  have h1:=hv.one
  simp only[ao.fE]
  cases hr:ρ id ver with
  |none=>
   simp only[V]at hv ⊢
   obtain⟨b,e,_⟩:=hv
   exact⟨_,e,h1 _ (by simp[e])⟩
  |some r=>
   simp only[V]at hv ⊢
   obtain⟨b,e,hb,hc⟩:=hv
   obtain⟨b1,b2⟩:=h.ref id ver r hr hb
   refine⟨b,e,b1,λc=> ?_⟩
   obtain⟨c1,e1⟩:=b2 c
   rw[e1];exact hc c1
 | .mp ..,_,hv | .la ..,_,hv | .mV ..,_,hv=>by simp only[V]at hv
theorem DG{ρ:Ren}{E E':Env}(h:oS ρ E E'):∀ {a:ao} {vs:List Value},VC E a vs->VC E' (a.fE ρ) vs
 | .nil,_,hv=>by simpa only[ao.fE,VC]using hv
 | .cons a b,_,hv=>by
  simp only[ao.fE,VC]at hv ⊢
  obtain⟨v,vs',cs,e,ha,ho,hb⟩:=hv
  exact⟨v,vs',cs,e,BG h ha,by rw[FA];exact ho,DG h hb⟩
 | .undef,_,hv=>by simp only[VC]at hv
 | .gone,_,hv=>by simp only[VC]at hv
 | .c6,_,hv=>by simp only[VC]at hv
 | .kY,_,hv=>by simp only[VC]at hv
 | .mF,_,hv=>by simp only[VC]at hv
 | .yl ..,_,hv | .mV ..,_,hv=>by simp only[VC]at hv
 | .pk,_,hv=>by simp only[VC]at hv
 | .sb _,_,hv=>by simp only[VC]at hv
 | .d t x,_,hv=>by simp only[VC]at hv
 | .pr a b,_,hv=>by simp only[VC]at hv
 | .ptr ..,_,hv=>by simp only[VC]at hv
 | .eW ..,_,hv=>by simp only[VC]at hv
 | .cv ..,_,hv=>by simp only[VC]at hv
 | .fn ..,_,hv=>by simp only[VC]at hv
 | .vec ..,_,hv=>by simp only[VC]at hv
 | .bx ..,_,hv=>by simp only[VC]at hv
 | .kT ..,_,hv=>by simp only[VC]at hv
 | .mp ..,_,hv | .la ..,_,hv=>by simp only[VC]at hv
end
theorem sE{ρ:Ren}{E E':Env}(h:oS ρ E E'){a:ao}{v:Value}(hv:VS E a v):VS E' (a.fE ρ) v:=by
 by_cases hc:a.dC=true
 ·obtain⟨cs,h1,h2⟩:=hv.dC hc
  exact VS.of (BG h h1) (by rw[FA];exact h2)
 ·cases a <;> first | (exact absurd rfl hc) | skip
  ·trivial
  ·obtain⟨vs,e,OX⟩:=hv
   have:=DG h OX
   simp only[ao.fE]at this ⊢
   exact⟨vs,e,this⟩
  ·exact hv
  ·obtain⟨cs,h1,_⟩:=hv
   simp only[V]at h1
  ·obtain⟨cs,h1,_⟩:=hv
   simp only[V]at h1
  ·obtain⟨cs,h1,_⟩:=hv
   simp only[V]at h1
  ·obtain⟨cs,h1,_⟩:=hv
   simp only[V]at h1
  ·obtain⟨cs,h1,_⟩:=hv
   simp only[V]at h1
theorem yx(ρ:Ren):∀f:ao,(f.fE ρ).list=f.list.map (ao.fE ρ)
 | .cons a b=>by simp only[ao.fE,ao.list,bX,yx ρ b]
 | .undef | .gone | .c6 | .kY | .mF | .pk | .d _ _ | .eW _ _ | .fn _ _ | .pr _ _ | .nil | .vec .. | .sb _ | .bx .. | .mp .. | .la .. | .mV .. =>rfl
 | .ptr id ver p n=>by simp only[ao.fE];cases ρ id ver <;> rfl
 | .cv id ver p c i len=>by simp only[ao.fE];cases ρ id ver <;> rfl
 | .kT id ver=>by simp only[ao.fE];cases ρ id ver <;> rfl
 | .yl id ver=>by simp only[ao.fE];cases ρ id ver <;> rfl
theorem DD{ρ:Ren}{E E':Env}(h:oS ρ E E'){f:ao}{tmps:Array Value}(hs:pG E f tmps):pG E' (f.fE ρ) tmps:=by
 refine⟨by rw[yx,cj];exact hs.1,λi=> ?_⟩
 have:=sE h (hs.2 i)
 rw[yx,ax,dJ]
 rw[ax]at this
 cases hi:f.list[i]? with
 |none=>exact VS.undef
 |some x=>rw[hi]at this;exact this
theorem GJ(ρ:Ren)(c:ao):(c.fE ρ).strip=c.strip.fE ρ:=by
 cases c <;> first
  |rfl
  | (rename_i id ver p n;simp only[ao.strip,ao.fE];cases ρ id ver <;> rfl)
  | (rename_i id ver p c i len;simp only[ao.strip,ao.fE];cases ρ id ver <;> rfl)
  | (rename_i i v;simp only[ao.strip,ao.fE];cases ρ i v <;> rfl)
theorem uF(ρ:Ren):∀c:ao,(c.fE ρ).size=c.size
 | .pr a b=>by simp only[ao.fE,ao.size,uF ρ a,uF ρ b]
 | .ptr id ver p n=>by simp only[ao.fE];cases ρ id ver <;> rfl
 | .cv id ver p c i len=>by simp only[ao.fE];cases ρ id ver <;> rfl
 | .kT id ver=>by simp only[ao.fE];cases ρ id ver <;> rfl
 | .undef | .gone | .c6 | .kY | .mF | .pk | .d _ _ | .eW _ _ | .fn _ _ | .cons _ _ | .nil | .vec .. | .sb _ | .bx .. | .mp .. | .la .. | .mV .. =>rfl
 | .yl id ver=>by simp only[ao.fE];cases ρ id ver <;> rfl
theorem Hl(ρ:Ren){c:ao}(n:Nat):(c.fE ρ).mW n=c.mW n:=by
 cases c with
 |bx e z c=>cases z with
  |zero=>rfl
  |succ z=>exact uF ρ c
 |_=>first | rfl | (simp only[ao.fE];split <;> rfl)
theorem FP(ρ:Ren){c:ao}{pl:Pl}{n:Nat}{e:TypeId}(h:c.qC pl n e):(c.fE ρ).qC pl n e:=by
  cases c <;> first
    | (rename_i e' z c;cases z with
       |zero=>exact h
       |succ z=>exact⟨h.1,h.2.1,h.2.2.1,by rw[uF];exact h.2.2.2⟩)
    |exact h
    |trivial
    | (rename_i id ver p n;simp only[ao.fE];cases ρ id ver <;> trivial)
    | (rename_i id ver p c i len;simp only[ao.fE];cases ρ id ver <;> trivial)
    | (rename_i i v;simp only[ao.fE];cases ρ i v <;> trivial)
theorem mu{ρ:Ren}{E E':Env}(h:oS ρ E E'){id id':Id}{fr:Bool}{c:ao}(ho:mr E id fr c)(hβ:E'.β id'=E.β id)
  (hb:∀pl,E.β id=some pl->E'.w.heap[pl.b]? =E.w.heap[pl.b]? /\(∀k,E.g pl.b= .own (.id id) k->E'.g pl.b= .own (.id id') k)/\(E.g pl.b= .free->E'.g pl.b= .free)):mr E' id' fr (c.fE ρ):=by
 by_cases hn:c.fu=false
 ·obtain⟨pl,cur,e,h1,h2,h3,h5,h4⟩:=ho.box hn
  obtain⟨b1,b2,b3⟩:=hb pl h1
  have h6:=BG h h4
  refine uQ.obj ⟨pl,cur,e,by rw[hβ,h1],by rw[b1,h2],?_,FP ρ h5,by rw[GJ,Hl];exact h6⟩
  cases fr with
  |true=>exact b3 h3
  |false=>exact b2 0 h3
 ·cases c <;> first
   | (exact absurd rfl hn)
   |skip
  rotate_left
  rotate_left
  ·obtain⟨pl,mb,since,seen,c0,h1,h2,h3,_⟩:=ho
   obtain⟨b1,b2,_⟩:=hb pl h1
   exact⟨pl,mb,since,seen,c0,by rw[hβ,h1],by rw[b1,h2],b2 0 h3,λvr Eh=>by cases Eh⟩
  ·obtain⟨pl,r,h1,h2,h3,h4,h5,h6⟩:=ho
   obtain⟨b1,b2,_⟩:=hb pl h1
   exact⟨pl,r,by rw[hβ,h1],by rw[b1,h2],b2 0 h3,h4,DD h h5,h6⟩
  rotate_left
  ·obtain⟨pl,es,clock,h1,h2,h3,h4⟩:=ho
   obtain⟨b1,b2,_⟩:=hb pl h1
   exact⟨pl,es,clock,by rw[hβ,h1],by rw[b1,h2],b2 0 h3,⟨h4.1.1.mono h.mem,h4.1.2⟩,h4.2⟩
  rename_i e t l
  obtain⟨hz,ho⟩:=ho
  refine⟨hz,?_⟩
  rw[hβ]
  cases hp:E.β id with
  |none=>rw[hp]at ho;exact ho
  |some pl=>
   rw[hp]at ho
   simp only at ho ⊢
   obtain⟨b1,b2,_⟩:=hb pl hp
   obtain⟨cur,k,h1,h2,h3,h4,h5,h6,h7,h8⟩:=ho
   exact⟨cur,k,by rw[b1,h1],h2,h3,h4,b2 k h5,h6,h7,h8.mono λc x hx=>hx.mono h.mem⟩
def oP(E:Env):List ao->List Value->Prop
 |[],[]=>True
 |a::as,v::vs=>VS E a v/\oP E as vs
 |_,_=>False
def iq.st(G:iq):AS:= {bK:=[],bP:=G.bP,news:=[G.news]}
def eE(bP:List c7):AS:= {bK:=[],bP,news:=[]}
def ng(E:Env)(G:iq)(v:Value)(w':World):Prop:=
 ∃g' β',VS (G.st.env w' g' β') G.val v/\fF (G.st.env w' g' β')/\Trans E.w w' E.g g'/\bV E (G.st.env w' g' β')
def j2(P:Program)(f:FuncId)(en:Entry):Prop:=
 ∀w g β args bP hJ x,oP ((eE bP).env w g β) args hJ->fF ((eE bP).env w g β)->en.run args bP=some x->
  ((callFunc f hJ.toArray).run P w= .ok (.enter f hJ.toArray) w/\
   Calls P f hJ.toArray w λe w'=>∃v,e= .returned v/\ng ((eE bP).env w g β) (en.out args bP x) v w')\/
  (∃v w',(callFunc f hJ.toArray).run P w= .ok (.value v) w'/\ng ((eE bP).env w g β) (en.out args bP x) v w')
def vN(P:Program)(y:Nat)(en:Entry):Prop:=
 ∀w g β args bP hJ x,oP ((eE bP).env w g β) args hJ->fF ((eE bP).env w g β)->en.run args bP=some x->
  ∀l us ts f rd n,hJ= .func (.yield l) #[] #[]::(us++ts)->us.length=(qb P y).ps.size->
   RoundIn (Fr rd) n P l f (((qb P y).ps.zip us.toArray).foldl (λtmps (t,a)=>tmps.setIfInBounds t a) ts.toArray) (qb P y).as (qb P y).b w
    λe w'=>∃v,e= .returned v/\ng ((eE bP).env w g β) (en.out args bP x) v w'
def nh(P:Program)(f:Nat)(en:Entry):Prop:=(Nat.blt f yB=true->j2 P f en)/\(Nat.ble yB f=true->vN P f en)
theorem nh.of{P:Program}{f:FuncId}{en:Entry}(h:j2 P f en)(hf:Nat.blt f yB=true):nh P f en:=
 ⟨λ_=>h,λh2=>by
  exact absurd (kE (eL hf) (eL h2)) (gg _)⟩
theorem nh.Sb{P:Program}{f:FuncId}{en:Entry}(h:vN P f en)(hf:Nat.ble yB f=true):nh P f en:=
 ⟨λh2=>by
  exact absurd (kE (eL h2) (eL hf)) (gg _),λ_=>h⟩
def Sound(P:Program)(Γ:mU):Prop:=∀f vs en,Γ f vs=some en->nh P f en
theorem oP.mono{E E':Env}(h:bV E E'):∀ {as:List ao} {vs:List Value},oP E as vs->oP E' as vs
 |[],[],_=>trivial
 |_::_,_::_,⟨h1,h2⟩=>⟨h1.mono h,oP.mono h h2⟩
theorem oP.fE{ρ:Ren}{E E':Env}(h:oS ρ E E'):∀ {as:List ao} {vs:List Value},oP E as vs->oP E' (as.map (ao.fE ρ)) vs
 |[],[],_=>trivial
 |_::_,_::_,⟨h1,h2⟩=>⟨sE h h1,oP.fE h h2⟩
theorem oP.append{E:Env}:∀ {as:List ao} {vs:List Value} {bs:List ao} {us:List Value},oP E as vs->oP E bs us->oP E (as++bs) (vs++us)
 |[],[],_,_,_,h=>h
 |_::_,_::_,_,_,⟨h1,h2⟩,h=>⟨h1,oP.append h2 h⟩
theorem DF{E:Env}:∀ {c:ao} {vs:List Value},VC E c vs->oP E c.list vs
 | .cons a b,vs,h=>by
  simp only[VC]at h
  obtain⟨v,vs',cs,rfl,ha,ho,hb⟩:=h
  exact⟨VS.of ha ho,DF hb⟩
 | .nil,vs,h=>by
  simp only[VC]at h
  subst h
  trivial
 | .undef,_,hv=>by simp only[VC]at hv
 | .gone,_,hv=>by simp only[VC]at hv
 | .c6,_,hv=>by simp only[VC]at hv
 | .kY,_,hv=>by simp only[VC]at hv
 | .mF,_,hv=>by simp only[VC]at hv
 | .yl ..,_,hv | .mV ..,_,hv=>by simp only[VC]at hv
 | .pk,_,hv=>by simp only[VC]at hv
 | .sb _,_,hv=>by simp only[VC]at hv
 | .d t x,_,hv=>by simp only[VC]at hv
 | .pr a b,_,hv=>by simp only[VC]at hv
 | .ptr ..,_,hv=>by simp only[VC]at hv
 | .eW ..,_,hv=>by simp only[VC]at hv
 | .cv ..,_,hv=>by simp only[VC]at hv
 | .fn ..,_,hv=>by simp only[VC]at hv
 | .vec ..,_,hv=>by simp only[VC]at hv
 | .bx ..,_,hv=>by simp only[VC]at hv
 | .kT ..,_,hv=>by simp only[VC]at hv
 | .mp ..,_,hv | .la ..,_,hv=>by simp only[VC]at hv
theorem Inv.Pq{C:Ctx}{g:Nat->iO}{β:Id->Option Pl}{s:AS}{a:Act}{w:World}(h:Inv C g β s a w):∀l:List Operand,oP (s.env w g β) (l.map s.ev) (l.map a.eval)
 |[]=>trivial
 |x::l=>⟨h.ev x,h.Pq l⟩
theorem qH{E E':Env}{s:AS}(hs:E.s=s.bA)(ho:fF E)(he:bV E E'):∀(ps:List (Option Ty)) (vs:List ao) (ys:List Value) (r:List ao×List Id),oP E vs ys->(s.conv ps vs).eval=some r->M8 E E' r.2->oP E' r.1 ys
 |[],[],ys,r,hv,h,_=>by
  simp only[AS.conv,ak]at h
  subst h
  cases ys with
  |nil=>trivial
  |cons _ _=>exact hv.elim
 |some t::ps,v::vs,y::ys,r,⟨hv,tP⟩,h,hf=>by
  simp only[AS.conv]at h
  obtain⟨x,h1,h2⟩:=ai.1 h
  obtain⟨r',h3,h4⟩:=ai.1 h2
  obtain rfl:=ak.1 h4
  obtain⟨cs,hV,hO⟩:=hv.dC (o7 h1)
  refine⟨VS.of (cs:=cs) ?_ ?_,qH hs ho he ps vs ys r' tP h3 λid cI=>hf id (aX.2 (.inr cI))⟩
  ·simp only[V]
   exact mS hs ho he v t x cs hV h1 λid cI=>hf id (aX.2 (.inl cI))
  ·show ei t.agg cs y
   rw[<-yU h1];exact hO
 |none::ps,v::vs,y::ys,r,⟨hv,tP⟩,h,hf=>by
  simp only[AS.conv]at h
  obtain⟨r',h3,h4⟩:=ai.1 h
  obtain rfl:=ak.1 h4
  exact⟨hv.mono he,qH hs ho he ps vs ys r' tP h3 hf⟩
 |[],_::_,_,_,_,h,_=>by simp only[AS.conv,ag]at h
 |some _::_,[],_,_,_,h,_=>by simp only[AS.conv,ag]at h
 |none::_,[],_,_,_,h,_=>by simp only[AS.conv,ag]at h
end Go.Ab
namespace Go.Ab
theorem kN{id:Id}:∀ {ids:List Id} {k:Nat},idxOf id ids=some k->ids[k]? =some id
 |[],_,h=>by simp[idxOf]at h
 |x::xs,k,h=>by
  simp only[idxOf]at h
  split at h
  ·rename_i e
   simp only[al]at h
   subst h e
   rfl
  ·simp only[dQ]at h
   obtain⟨j,hj,rfl⟩:=h
   simpa using kN hj
theorem oX{id:Id}:∀ {ids:List Id} {k:Nat},ids.Nodup->ids[k]? =some id->idxOf id ids=some k
 |[],_,_,h=>by simp at h
 |x::xs,0,hn,h=>by
  simp only[ef,al]at h
  simp[idxOf,h]
 |x::xs,k+1,hn,h=>by
  simp only[iu]at h
  obtain⟨h1,h2⟩:=cP.1 hn
  have fL:x≠id:=λe=>h1 (e▸cr h)
  simp[idxOf,fL,oX h2 h]
theorem pt(s0:AS)(all:List Id)(t:Nat):∀(ids:List Id) (es:List c7) (s:AS),(AS.gf s0 all t s ids es).bK=s.bK
 |[],_,_=>by simp[AS.gf]
 |_::_,[],_=>by simp[AS.gf]
 |id::ids,e::es,s=>by rw[AS.gf,pt s0 all t ids es,cF]
theorem yL(s:AS)(ids:List Id)(t:Nat)(es:List c7):(s.made ids t es).bK=s.bK:=by cases es <;> rfl
theorem qI(s0:AS)(all:List Id)(t:Nat):∀(ids:List Id) (es:List c7) (s:AS),ids.Nodup->es.length=ids.length->(∀id∈ids,s.bA id≠none)->
  (∀id,id ∉ ids->(AS.gf s0 all t s ids es).bA id=s.bA id)/\
  ∀(k:Nat) (id:Id) (e:c7),ids[k]? =some id->es[k]? =some e->(AS.gf s0 all t s ids es).bA id=some (s0.kI all t (s0.o8 id) e)
 |[],es,s,_,_,_=>⟨λ_ _=>by simp[AS.gf],λk id e h=>by simp at h⟩
 |_::_,[],s,_,hl,_=>by simp at hl
 |i::ids,e::es,s,hn,hl,hp=>by
  obtain⟨h1,h2⟩:=cP.1 hn
  have hp':∀id∈ids,(s.aD i (s0.kI all t (s0.o8 i) e)).bA id≠none:=λid cI=>by
   rw[cq s i id _ (λe=>h1 (e▸cI))]
   exact hp id (aH _ cI)
  obtain⟨r1,r2⟩:=qI s0 all t ids es (s.aD i (s0.kI all t (s0.o8 i) e)) h2 (by simpa using hl) hp'
  rw[AS.gf]
  refine⟨λid cI=> ?_,λk id e' hk he=> ?_⟩
  ·simp only[b8,not_or]at cI
   rw[r1 id cI.2,cq s i id _ cI.1]
  ·cases k with
   |zero=>
    simp only[ef,al]at hk he
    subst hk he
    rw[r1 i h1,dv s i _ (hp i (aI ..))]
   |succ k=>
    simp only[iu]at hk he
    exact r2 k id e' hk he
theorem B9(s:AS)(ids:List Id)(t:Nat)(es:List c7)(hv:es=[]\/s.dd t=true):
  (∀id,(es=[]\/∀j,id≠ .new t j)->(s.made ids t es).bA id=s.bA id)/\(es≠ []->∀j,(s.made ids t es).bA (.new t j)=(es[j]?).map (s.kI ids t 0)):=by
 cases es with
 |nil=>exact⟨λ_ _=>rfl,λh=>absurd rfl h⟩
 |cons e es=>
  have hv:s.dd t=true:=by
   rcases hv with h | h
   ·cases h
   ·exact h
  refine⟨λid h=> ?_,λ_ j=> ?_⟩
  ·rcases h with h | h
   ·cases h
   ·exact fG _ h
  ·rw[AS.made,nC (gG hv).2,dJ]
def jv(ids:List Id):iO->iO
 | .free=> .free
 | .own .dm n=> .own .dm n
 | .own (.id i) n=>match idxOf i ids with | some k=> .own (.id (.c8 k)) n | none=> .own .dm n
def pX(β:Id->Option Pl)(ids:List Id):Id->Option Pl
 | .c8 k=>(ids[k]?).bind β
 | .new _ _=>none
def jq(g:Nat->iO)(size:Nat)(ids:List Id)(t:Nat)(b:Nat):iO->iO
 | .free=> .free
 | .own .dm n=>if b < size then g b else .own .dm n
 | .own (.id i) n=> .own (.id (KF ids t i)) n
def mJ(β β':Id->Option Pl)(ids:List Id)(t:Nat)(some?:Bool)(id:Id):Option Pl:=
 match idxOf id ids with
 |some k=>β' (.c8 k)
 |none=>match id with
  | .new i j=>if i=t/\some?=true then β' (.new 0 j) else β (.new i j)
  |id=>β id
theorem H4{ids:List Id}{l:iO}{off:Nat}(h:lQ (λ_=>l) 0 off):lQ (λ_=>jv ids l) 0 off:=by
 cases l with
 |free=>trivial
 |own o k=>cases o with
  |dm=>exact h
  |id i=>simp only[jv];cases idxOf i ids <;> exact h
section
variable {P:Program} {C:Ctx} {g:Nat->iO} {β:Id->Option Pl} {s:AS} {a:Act} {w:World} {o:Oper}
theorem KG(ids:List Id):
  oS (s.mN ids) (s.env w g β) ((eE (ids.map (s.iX ids))).env w (λb=>jv ids (g b)) (pX β ids)):=by
 refine⟨⟨λb off v ⟨h1,h2⟩=>⟨h1,?_⟩,λb ob h1 h2=>⟨by show jv ids (g b)= .free;have h1:g b= .free:=h1;rw[h1];rfl,h2⟩⟩,λid ver r hr _=> ?_⟩
 ·exact H4 (l:=g b) h2
 ·unfold AS.mN at hr
  split at hr
  ·rename_i k v fr c hk ho
   split at hr
   ·rename_i N9
    simp only[al]at hr
    subst hr N9
    have cI:=kN hk
    have b5:=dj ho
    refine⟨⟨?_,λ_ _ _ _=>bj _⟩,λ_=>⟨⟨fr,c,b5⟩,?_⟩⟩
    ·show(ids.map (s.iX ids))[k]? ≠none
     simp[cI]
    ·show(ids[k]?).bind β=β id
     rw[cI];rfl
   ·cases hr
  ·cases hr
theorem JI(ids:List Id)(hn:ids.Nodup)(h:fF (s.env w g β)):fF ((eE (ids.map (s.iX ids))).env w (λb=>jv ids (g b)) (pX β ids)):=by
 intro id ver fr c cI
 have cI:(eE (ids.map (s.iX ids))).bA id=some (.obj ver fr c):=cI
 cases id with
 |new i j=>simp[eE,AS.bA]at cI
 |c8 k=>
  simp only[eE,AS.bA,dJ,dQ]at cI
  obtain⟨id1,hk,he⟩:=cI
  unfold AS.iX at he
  split at he
  ·rename_i v fr1 c1 b5
   simp only[c7.obj.injEq]at he
   obtain⟨rfl,rfl,rfl⟩:=he
   refine mu (KG ids) (h id1 v fr1 c1 b5) (by show(ids[k]?).bind β=β id1;rw[hk];rfl) λpl hp=>⟨rfl,λn hg=> ?_,λhg=> ?_⟩
   ·have hg:g pl.b= .own (.id id1) n:=hg
    show jv ids (g pl.b)=_
    rw[hg]
    simp[jv,oX hn hk]
   ·have hg:g pl.b= .free:=hg
    show jv ids (g pl.b)=_
    rw[hg];rfl
  ·cases he
theorem xh(h:Inv C g β s a w){ids:List Id}(hn:ids.Nodup)(hp:∀id∈ids,∃r,s.obj id=some r)(wU:∀id∈ids,s.xU id=true){G:iq}{t:Nat}(hl:G.bP.length=ids.length)(hv:G.news=[]\/s.dd t=true){v:Value}{w':World}
  (ha:ng ((eE (ids.map (s.iX ids))).env w (λb=>jv ids (g b)) (pX β ids)) G v w'):
  ∃g' β',Inv C g' β' (AS.gf s ids t (s.made ids t G.news) ids G.bP) a w'/\VS ((AS.gf s ids t (s.made ids t G.news) ids G.bP).env w' g' β') (G.val.fE (s.l8 ids t)) v:=by
 obtain⟨g1,β1,oo,Kz,Eg,hle⟩:=ha
 have Eg:Trans w w' (λb=>jv ids (g b)) g1:=Eg
 obtain⟨m1,m2⟩:=B9 s ids t G.news hv
 have P4:∀id∈ids,s.bA id≠none:=λid cI=>by
  obtain⟨⟨v,fr,c⟩,hr⟩:=hp id cI
  rw[dj hr];simp
 have rS:∀id,s.bA id≠none->G.news=[]\/∀j,id≠ .new t j:=λid cI=>by
  rcases hv with hv | hv
  ·exact .inl hv
  ·exact .inr λj e=>cI (by rw[e];exact(gG hv).1 j)
 obtain⟨n1,n2⟩:=qI s ids t ids G.bP (s.made ids t G.news) hn hl (λid cI=>by rw[m1 id (rS id (P4 id cI))];exact P4 id cI)
 have Oa:∀j,G.news≠ []->Id.new t j ∉ ids:=λj fL cI=>by
  rcases hv with hv | hv
  ·exact fL hv
  ·exact P4 _ cI ((gG hv).1 j)
 generalize xI:AS.gf s ids t (s.made ids t G.news) ids G.bP=s2 at*
 have hgO:∀(k:Nat) (id:Id),ids[k]? =some id->∃e,G.bP[k]? =some e/\s2.bA id=some (s.kI ids t (s.o8 id) e):=λk id hk=>by
  have gO:k < G.bP.length:=by rw[hl];exact(cT.1 hk).1
  exact⟨_,bO gO,n2 k id _ hk (bO gO)⟩
 have hgN:G.news≠ []->∀j,s2.bA (.new t j)=(G.news[j]?).map (s.kI ids t 0):=λfL j=>by
  rw[n1 _ (Oa j fL),m2 fL j]
 have hgS:∀id,id ∉ ids->(G.news=[]\/∀j,id≠ .new t j)->s2.bA id=s.bA id:=λid h1 h2=>by
  rw[n1 id h1,m1 id h2]
 have hverOf:∀id∈ids,∃fr c,s.bA id=some (.obj (s.o8 id) fr c):=λid cI=>by
  obtain⟨⟨v,fr,c⟩,hr⟩:=hp id cI
  refine⟨fr,c,?_⟩
  rw[dj hr]
  simp[AS.o8,hr]
 have PH:∀b n,b < w.heap.size->g1 b= .own .dm n->(g b= .own .dm n\/∃i,g b= .own (.id i) n/\idxOf i ids=none):=λb n hb hg=>by
  have h1:=Eg.uS b hb
  cases wE:g b with
  |free=>simp only[wE,jv]at h1;rw[h1.1]at hg;cases hg
  |own o k=>cases o with
   |dm=>simp only[wE,jv]at h1;rw[h1.1]at hg;left;exact hg
   |id i=>
    cases hi:idxOf i ids with
    |none=>
     simp only[wE,jv,hi]at h1
     rw[h1.1]at hg
     simp only[iO.own.injEq,true_and]at hg
     subst hg
     exact .inr ⟨i,rfl,hi⟩
    |some k'=>
     simp only[wE,jv,hi]at h1
     rcases h1.1 with h2 | ⟨_,_,h2,_⟩ <;> (rw[h2]at hg;cases hg)
 let g2:Nat->iO:=λb=>jq g w.heap.size ids t b (g1 b)
 let β2:Id->Option Pl:=mJ β β1 ids t (!G.news.isEmpty)
 have hβO:∀k id,ids[k]? =some id->β2 id=β1 (.c8 k):=λk id hk=>by
  show mJ _ _ _ _ _ id=_
  simp[mJ,oX hn hk]
 have hβN:G.news≠ []->∀j,β2 (.new t j)=β1 (.new 0 j):=λfL j=>by
  show mJ _ _ _ _ _ _=_
  have:idxOf (.new t j) ids=none:=by
   cases hi:idxOf (.new t j) ids with
   |none=>rfl
   |some k=>exact absurd (cr (kN hi)) (Oa j fL)
  have hne':G.news.isEmpty=false:=by cases hh:G.news with
   |nil=>exact absurd hh fL
   |cons _ _=>rfl
  simp[mJ,this,hne']
 have hβS:∀id,id ∉ ids->(G.news=[]\/∀j,id≠ .new t j)->β2 id=β id:=λid h1 h2=>by
  show mJ _ _ _ _ _ _=_
  have:idxOf id ids=none:=by
   cases hi:idxOf id ids with
   |none=>rfl
   |some k=>exact absurd (cr (kN hi)) h1
  cases id with
  |c8 k=>simp[mJ,this]
  |new i j=>
   have:¬(i=t/\(!G.news.isEmpty)=true):=by
    rintro⟨rfl,h3⟩
    rcases h2 with h2 | h2
    ·rw[h2]at h3;cases h3
    ·exact h2 j rfl
   simp only[mJ, *,if_false]
 have N5:Trans w w' g g2:=by
  refine⟨Eg.os,Eg.tape,Eg.output,Eg.size,λb hb=> ?_⟩
  have h1:=Eg.uS b hb
  show match g b with | .free=>jq g w.heap.size ids t b (g1 b)= .free/\_ | .own .dm k=>jq g w.heap.size ids t b (g1 b)= .own .dm k/\_ | .own (.id _) k=>(jq g w.heap.size ids t b (g1 b)= .free\/∃i k',jq g w.heap.size ids t b (g1 b)= .own (.id i) k'/\k<=k')/\_
  cases wE:g b with
  |free=>simp only[wE,jv]at h1 ⊢;rw[h1.1];exact⟨rfl,h1.2⟩
  |own o k=>cases o with
   |dm=>simp only[wE,jv]at h1 ⊢;rw[h1.1];simp only[jq,hb,if_true,wE];exact⟨trivial,h1.2⟩
   |id i=>
    cases hi:idxOf i ids with
    |none=>
     simp only[wE,jv,hi]at h1 ⊢
     rw[h1.1]
     simp only[jq,hb,if_true,wE]
     exact⟨.inr ⟨i,k,rfl,aw _⟩,λoff v _ hv=>by simpa only[World.cell?,h1.2]using hv⟩
    |some k'=>
     simp only[wE,jv,hi]at h1 ⊢
     refine⟨?_,h1.2⟩
     rcases h1.1 with h2 | ⟨i',k'',h2,h3⟩
     ·rw[h2];exact .inl rfl
     ·rw[h2];exact .inr ⟨_,k'',rfl,h3⟩
 have pd:lg (G.st.env w' g1 β1) (s2.env w' g2 β2):=by
  refine⟨λb off v ⟨h1,h2⟩=> ?_,λb ob h1 h2=>⟨by show jq g w.heap.size ids t b (g1 b)= .free;have h1:g1 b= .free:=h1;rw[h1];rfl,h2⟩⟩
  refine⟨h1,?_⟩
  have h2:lQ g1 b off:=h2
  show lQ g2 b off
  unfold lQ at h2 ⊢
  show match jq g w.heap.size ids t b (g1 b) with | .free=>True | .own _ k=>off < k
  cases wE:g1 b with
  |free=>simp[jq]
  |own o k=>
   rw[wE]at h2
   cases o with
   |dm=>
    simp only[jq]
    by_cases hb:b < w.heap.size
    ·rw[if_pos hb]
     rcases PH b k hb wE with h3 | ⟨i,h3,_⟩ <;> (rw[h3];exact h2)
    ·rw[if_neg hb];exact h2
   |id i=>exact h2
 have hentOut:∀(base:Nat) (e:c7) (ver:Nat) (fr:Bool) (c:ao),s.kI ids t base e= .obj ver fr c->∃v0 c0,e= .obj v0 fr c0/\ver=base+v0/\c=c0.fE (s.l8 ids t):=λbase e ver fr c he=>by
  cases e with
  |dead=>cases he
  |obj v0 fr0 c0=>
   simp only[AS.kI,c7.obj.injEq]at he
   obtain⟨rfl,rfl,rfl⟩:=he
   exact⟨v0,c0,rfl,rfl,rfl⟩
 have A4:oS (s.l8 ids t) (G.st.env w' g1 β1) (s2.env w' g2 β2):=by
  refine⟨pd,λid ver r hr hb=> ?_⟩
  cases id with
  |c8 k=>
   obtain⟨uN,wS⟩:=hb
   have uN:G.bP[k]? ≠none:=uN
   have hk:k < ids.length:=by
    rcases jQ k ids.length with h' | h'
    ·exact h'
    ·exact absurd (cW (by omega)) uN
   have cI:ids[k]? =some ids[k]:=bO hk
   simp only[AS.l8,cI,al]at hr
   subst hr
   obtain⟨e,tN,y5⟩:=hgO k _ cI
   refine⟨⟨by show s2.bA _≠none;rw[y5];simp,λv fr c hh=> ?_⟩,λ⟨fr,c,hh⟩=>⟨?_,hβO k _ cI⟩⟩
   ·have hh:s2.bA ids[k]=some (.obj v fr c):=hh
    rw[y5,al]at hh
    obtain⟨v0,c0,rfl,rfl,_⟩:=hentOut _ _ _ _ _ hh
    have:=wS v0 fr c0 tN
    omega
   ·have hh:s2.bA ids[k]=some (.obj (s.o8 ids[k]+ver) fr c):=hh
    rw[y5,al]at hh
    obtain⟨v0,c0,rfl,MT,_⟩:=hentOut _ _ _ _ _ hh
    obtain rfl:ver=v0:=by omega
    exact⟨fr,c0,tN⟩
  |new i j=>
   simp only[AS.l8,al]at hr
   subst hr
   obtain⟨uN,wS⟩:=hb
   have uN:([G.news].getD i [])[j]? ≠none:=uN
   have wS:∀v fr c,([G.news].getD i [])[j]? =some (.obj v fr c)->ver<=v:=wS
   cases i with
   |succ i=>simp at uN
   |zero=>
    simp only[ij]at uN wS
    have fL:G.news≠ []:=λe=>by rw[e]at uN;simp at uN
    obtain⟨e,he⟩:=Option.ne_none_iff_exists'.1 uN
    have y5:=hgN fL j
    rw[he,dh]at y5
    refine⟨⟨by show s2.bA (.new t j)≠none;rw[y5];simp,λv fr c hh=> ?_⟩,λ⟨fr,c,hh⟩=>⟨?_,hβN fL j⟩⟩
    ·have hh:s2.bA (.new t j)=some (.obj v fr c):=hh
     rw[y5,al]at hh
     obtain⟨v0,c0,rfl,rfl,_⟩:=hentOut _ _ _ _ _ hh
     have:=wS v0 fr c0 he
     simp only
     omega
    ·have hh:s2.bA (.new t j)=some (.obj ver fr c):=hh
     rw[y5,al]at hh
     obtain⟨v0,c0,rfl,MT,_⟩:=hentOut _ _ _ _ _ hh
     obtain rfl:ver=v0:=by omega
     exact⟨fr,c0,he⟩
 have NS:bV (s.env w g β) (s2.env w' g2 β2):=by
  refine⟨Trans.mem N5,λid ver hb=> ?_,λid ver hb hc=> ?_⟩
  ·obtain⟨uN,wS⟩:=hb
   have uN:s.bA id≠none:=uN
   have wS:∀v fr c,s.bA id=some (.obj v fr c)->ver<=v:=wS
   by_cases cI:id∈ids
   ·obtain⟨k,hk⟩:=gI.1 cI
    obtain⟨e,tN,y5⟩:=hgO k id hk
    obtain⟨fr1,c1,y6⟩:=hverOf id cI
    refine⟨by show s2.bA _≠none;rw[y5];simp,λv fr c hh=> ?_⟩
    have hh:s2.bA id=some (.obj v fr c):=hh
    rw[y5,al]at hh
    obtain⟨v0,c0,rfl,rfl,_⟩:=hentOut _ _ _ _ _ hh
    have:=wS _ _ _ y6
    omega
   ·have:=hgS id cI (rS id uN)
    exact⟨by show s2.bA _≠none;rw[this];exact uN,λv fr c hh=>wS v fr c (this.symm.trans hh)⟩
  ·obtain⟨uN,wS⟩:=hb
   have uN:s.bA id≠none:=uN
   have wS:∀v fr c,s.bA id=some (.obj v fr c)->ver<=v:=wS
   obtain⟨fr,c,hh⟩:=hc
   have hh:s2.bA id=some (.obj ver fr c):=hh
   by_cases cI:id∈ids
   ·obtain⟨k,hk⟩:=gI.1 cI
    obtain⟨e,tN,y5⟩:=hgO k id hk
    obtain⟨fr1,c1,y6⟩:=hverOf id cI
    rw[y5,al]at hh
    obtain⟨v0,c0,rfl,MT,_⟩:=hentOut _ _ _ _ _ hh
    have N9:=wS _ _ _ y6
    obtain rfl:v0=0:=by omega
    have hver':ver=s.o8 id:=by omega
    refine⟨⟨fr1,c1,by rw[hver'];exact y6⟩,?_⟩
    show β2 id=β id
    rw[hβO k id hk]
    have NN:s.iX ids id= .obj 0 fr1 (c1.fE (s.mN ids)):=by simp[AS.iX,y6]
    have h0:((eE (ids.map (s.iX ids))).env w (λb=>jv ids (g b)) (pX β ids)).qi (.c8 k) 0:=by
     refine⟨?_,λ_ _ _ _=>bj _⟩
     show(ids.map (s.iX ids))[k]? ≠none
     simp[hk]
    have:=(hle.cur (.c8 k) 0 h0 ⟨fr,c0,tN⟩).2
    have this:β1 (.c8 k)=(ids[k]?).bind β:=this
    rw[this,hk];rfl
   ·have:=hgS id cI (rS id uN)
    exact⟨⟨fr,c,this.symm.trans hh⟩,hβS id cI (rS id uN)⟩
 have NZ:fF (s2.env w' g2 β2):=by
  intro id ver fr c hh
  have hh:s2.bA id=some (.obj ver fr c):=hh
  by_cases cI:id∈ids
  ·obtain⟨k,hk⟩:=gI.1 cI
   obtain⟨e,tN,y5⟩:=hgO k id hk
   rw[y5,al]at hh
   obtain⟨v0,c0,rfl,_,rfl⟩:=hentOut _ _ _ _ _ hh
   refine mu A4 (Kz (.c8 k) v0 fr c0 tN) (hβO k id hk) λpl _=>⟨rfl,λn hg=> ?_,λhg=> ?_⟩
   ·have hg:g1 pl.b= .own (.id (.c8 k)) n:=hg
    show jq g w.heap.size ids t pl.b (g1 pl.b)=_
    rw[hg]
    simp[jq,KF,ax,hk]
   ·have hg:g1 pl.b= .free:=hg
    show jq g w.heap.size ids t pl.b (g1 pl.b)=_
    rw[hg];rfl
  ·by_cases fL:G.news≠ []/\∃j,id= .new t j
   ·obtain⟨fL,j,rfl⟩:=fL
    rw[hgN fL j,dQ]at hh
    obtain⟨e,he,hh⟩:=hh
    obtain⟨v0,c0,rfl,_,rfl⟩:=hentOut _ _ _ _ _ hh
    refine mu A4 (Kz (.new 0 j) v0 fr c0 (by show([G.news].getD 0 [])[j]? =_;simpa using he)) (hβN fL j) λpl _=>⟨rfl,λn hg=> ?_,λhg=> ?_⟩
    ·have hg:g1 pl.b= .own (.id (.new 0 j)) n:=hg
     show jq g w.heap.size ids t pl.b (g1 pl.b)=_
     rw[hg]
     rfl
    ·have hg:g1 pl.b= .free:=hg
     show jq g w.heap.size ids t pl.b (g1 pl.b)=_
     rw[hg];rfl
   ·have Q7:G.news=[]\/∀j,id≠ .new t j:=by
     by_cases hh:G.news=[]
     ·exact .inl hh
     ·exact .inr λj e=>fL ⟨hh,j,e⟩
    rw[hgS id cI Q7]at hh
    have same:∀id,id ∉ ids->∀ver fr c,s.bA id=some (.obj ver fr c)->∀pl,β id=some pl->w'.heap[pl.b]? =w.heap[pl.b]? /\jq g w.heap.size ids t pl.b (g1 pl.b)=g pl.b:=by
     intro id cI ver fr c hh pl wF
     obtain⟨hb,NQ⟩:=(h.bk id ver fr c hh).label (pl:=pl) wF
     have hb:pl.b < w.heap.size:=hb
     have h1:=Eg.uS pl.b hb
     have PK:idxOf id ids=none:=by
      cases hi:idxOf id ids with
      |none=>rfl
      |some k=>exact absurd (cr (kN hi)) cI
     rcases NQ with⟨k,hk⟩ | ⟨_,hk⟩
     ·have hk:g pl.b= .own (.id id) k:=hk
      simp only[hk,jv,PK]at h1
      rw[h1.1]
      simp only[jq,hb,if_true]
      exact⟨h1.2,trivial⟩
     ·have hk:g pl.b= .free:=hk
      simp only[hk,jv]at h1
      rw[h1.1,hk]
      exact⟨h1.2,rfl⟩
    have ho:=h.bk id ver fr c hh
    refine ho.mono NS (hβS id cI Q7) (λpl wF=>same id cI ver fr c hh pl wF) λq2 vq k2 v2 l2 xH _=> ?_
    have xH:s.bA q2=some (.obj vq true (.mp k2 v2 l2)):=xH
    have Kx:q2 ∉ ids:=λhm=>by
     have:=wU q2 hm
     have e:s.obj q2=some (vq,true,.mp k2 v2 l2):=by simp[AS.obj,xH]
     unfold AS.xU at this
     rw[e]at this
     cases this
    refine⟨⟨k2,v2,l2,?_⟩,λpl wF=>same q2 Kx vq true _ xH pl wF⟩
    show s2.bA q2=_
    rw[hgS q2 Kx (rS q2 (by rw[xH];simp))]
    exact xH
 have Hb:s2.bK=s.bK:=by rw[<-xI,pt,yL]
 exact⟨g2,β2,h.step Hb N5 NS NZ,sE A4 oo⟩
end
end Go.Ab
namespace Go.Ab
theorem mL(s:AS):∀(n:Nat) (todo acc:List Id),acc.Nodup->(s.reach n todo acc).Nodup
 | 0,_,acc,h=>by simpa[AS.reach]using h
 |_+1,[],acc,h=>by simpa[AS.reach]using h
 |n+1,id::todo,acc,h=>by
  rw[AS.reach]
  split
  ·exact mL s n todo acc h
  ·rename_i hc
   refine mL s n _ _ ?_
   rw[List.nodup_append]
   refine⟨h,by simp,λx hx y hy e=> ?_⟩
   simp only[bD]at hy
   subst hy e
   exact hc (by simpa using hx)
theorem qN(s:AS)(vs:List ao):(s.Fo vs).Nodup:=mL s _ _ _ (by simp)
section
variable {P:Program} {C:Ctx} {g:Nat->iO} {β:Id->Option Pl} {s:AS} {a:Act} {w:World} {o:Oper}
theorem u6(h:Inv C g β s a w){en:Entry}{ids:List Id}(hn:ids.Nodup){vs:List ao}{ys:List Value}(hv:oP (s.env w g β) vs ys)
  {s':AS} (he:(s.enter en o.dst ids vs).eval=some s'):∃x,en.run (vs.map (ao.fE (s.mN ids))) (ids.map (s.iX ids))=some x/\
   oP ((eE (ids.map (s.iX ids))).env w (λb=>jv ids (g b)) (pX β ids)) (vs.map (ao.fE (s.mN ids))) ys/\
   fF ((eE (ids.map (s.iX ids))).env w (λb=>jv ids (g b)) (pX β ids))/\
   ∀v w',ng ((eE (ids.map (s.iX ids))).env w (λb=>jv ids (g b)) (pX β ids)) (en.out (vs.map (ao.fE (s.mN ids))) (ids.map (s.iX ids)) x) v w'->fq C s' (a.put o.dst v) w':=by
 unfold AS.enter at he
 obtain⟨pM,he⟩:=av.1 he
 obtain⟨x,hx,he⟩:=mB.1 he
 obtain⟨x0,Ob,he⟩:=ai.1 he
 rw[en.KS _ _ Ob]at he
 have hp:∀id∈ids,∃r,s.obj id=some r:=λid cI=>by
  have:=cG.1 pM id cI
  rw[ae]at this
  exact bz.1 this.1
 have wU:∀id∈ids,s.xU id=true:=λid cI=>by
  have:=cG.1 pM id cI
  rw[ae]at this
  exact this.2
 refine⟨x,hx,oP.fE (KG ids) hv,JI ids hn h.bk,?_⟩
 intro v w' ha
 unfold AS.back at he
 cases NG:o.dst with
 |some t=>
  rw[NG]at he
  obtain⟨hg,he⟩:=av.1 he
  obtain rfl:=ak.1 he
  simp only[ae,beq_iff_eq,fj]at hg
  obtain⟨hl,hg⟩:=hg
  have HT:(en.out (vs.map (ao.fE (s.mN ids))) (ids.map (s.iX ids)) x).news=[]\/s.dd t=true:=by
   rcases hg with hg | hg
   ·exact .inl (by simpa using hg)
   ·exact .inr hg
  obtain⟨g2,β2,h1,h2⟩:=xh h hn hp wU hl HT ha
  exact⟨g2,β2,h1.put (some t) h2⟩
 |none=>
  rw[NG]at he
  obtain⟨hg,he⟩:=av.1 he
  obtain rfl:=ak.1 he
  simp only[ae,beq_iff_eq]at hg
  obtain⟨hl,hg⟩:=hg
  have rS:(en.out (vs.map (ao.fE (s.mN ids))) (ids.map (s.iX ids)) x).news=[]:=by simpa using hg
  obtain⟨g2,β2,h1,_⟩:=xh (t:=0) h hn hp wU hl (.inl rS) ha
  rw[rS]at h1
  exact⟨g2,β2,h1⟩
theorem D0(h:Inv C g β s a w){f:FuncId}{en:Entry}(hd:j2 P f en){ids:List Id}(hn:ids.Nodup){vs:List ao}{ys:List Value}(hv:oP (s.env w g β) vs ys)
  (hr:(execOp a.eval o).run P w=(callFunc f ys.toArray).run P w) {s':AS} (he:(s.enter en o.dst ids vs).eval=some s'):ed P o a w (fq C s'):=by
 obtain⟨x,hx,h1,h2,key⟩:=u6 h hn hv he
 rcases hd _ _ _ _ _ _ _ h1 h2 hx with⟨G8,hc⟩ | ⟨v,w',OW,ha⟩
 ·exact .inr (.inr (.inl ⟨f,ys.toArray,w,hr.trans G8,hc.mono λe w' ⟨v,he,ha⟩=>⟨v,he,key v w' ha⟩⟩))
 ·exact .inl ⟨v,w',hr.trans OW,key v w' ha⟩
theorem FU(h:Inv C g β s a w){c:Call}{F:Operand}{f:FuncId}{caps:ao}{en:Entry}(ho:o.op= .call c)(hc:c.callee= .value F)(hF:s.ev F= .fn f caps)(hd:j2 P f en){s':AS}
  (he:(s.call en o.dst (c.args.toList.map s.ev++caps.list)).eval=some s'):ed P o a w (fq C s'):=by
 obtain⟨cal,args,tys⟩:=c
 simp only at hc he
 subst hc
 obtain⟨vs,hy,OX⟩:=zT (hF▸h.ev F)
 have xD:=(h.Pq args.toList).append (DF OX)
 have hr:(execOp a.eval o).run P w=(callFunc f (args.toList.map a.eval++vs).toArray).run P w:=by
  have e1:execOp a.eval o=(do let d <-resolve a.eval {callee:= .value F,args,argTypes:=tys} o.type;invoke d.target d.args):=by simp only[execOp,ho]
  rw[e1]
  simp only[resolve,hy,Deferred.ofValue,Sem.run_bind,Sem.run_pure,Result.andThen_ok,invoke]
  congr 2
  simp
 unfold AS.call at he
 obtain⟨r,h1,h2⟩:=ai.1 he
 obtain⟨g',i1,e1,_,f1⟩:=eA r.2 h
 exact D0 i1 hd (qN _ _) (qH rfl h.bk e1 _ _ _ r xD h1 f1) hr h2
theorem pG.Sk{E:Env}{f:ao}{tmps:Array Value}(h:pG E f tmps):oP E f.list tmps.toList:=by
 obtain⟨h1,h2⟩:=h
 have gen:∀(l:List ao) (ys:List Value),l.length=ys.length->(∀i,VS E (l.getD i .undef) (ys.getD i undef))->oP E l ys:=by
  intro l
  induction l with
  |nil=>intro ys hl _;cases ys with
   |nil=>trivial
   |cons _ _=>simp at hl
  |cons x l ih=>intro ys hl hi;cases ys with
   |nil=>simp at hl
   |cons y ys=>exact⟨by simpa using hi 0,ih ys (by simpa using hl) λi=>by simpa using hi (i+1)⟩
 exact gen _ _ (by simpa using h1) λi=>by simpa[bT,ax]using h2 i
theorem EX(h:Inv C g β s a w){c:Call}{F:Operand}{id:Id}{ver:Nat}{rc:lU}{f:ao}{en:Entry}(ho:o.op= .call c)(hc:c.callee= .value F)
  (hF:s.yielded (s.ev F) c.args.size=some (id,ver,rc,f)) (OU:rc=qb P rc.y) (hd:nh P rc.y en) {s':AS}
  (he:(s.call en o.dst (.yl id ver::(c.args.toList.map s.ev++f.list))).eval=some s'):ed P o a w (fq C s'):=by
 obtain⟨cal,args,tys⟩:=c
 simp only at hc he hF
 subst hc
 unfold AS.yielded at hF
 split at hF
 rotate_left
 ·cases hF
 rename_i id' ver' Gd
 split at hF
 rotate_left
 ·cases hF
 rename_i v c0 f0 ia
 split at hF
 rotate_left
 ·cases hF
 rename_i NB
 simp only[al,bY]at hF
 obtain⟨rfl,rfl,rfl,rfl⟩:=hF
 simp only[ae,beq_iff_eq]at NB
 obtain⟨⟨rfl,lz⟩,hy⟩:=NB
 have b5:=dj ia
 have hv:=h.ev F
 rw[Gd]at hv
 obtain⟨cs,hV,hO⟩:=hv
 simp only[V]at hV
 obtain⟨l,rfl,hb,dV⟩:=hV
 have Od:a.eval F= .func (.yield l) #[] #[]:=by simpa[ei,ao.agg]using hO.symm
 obtain⟨pl,hp,rfl⟩:=dV ⟨false,_,b5⟩
 obtain⟨pl',r,hp',hh,hg,⟨q1,q2,q3⟩,Hb,kZ⟩:=h.bk id' v false _ b5
 have hp':β id'=some pl':=hp'
 have hp:β id'=some pl:=hp
 rw[hp']at hp
 obtain rfl:pl'=pl:=by simpa using hp
 have hh:w.heap[pl'.b]? =some (.loop r):=hh
 have xD:oP (s.env w g β) (.yl id' v::(args.toList.map s.ev++f0.list)) (.func (.yield pl'.b) #[] #[]::(args.toList.map a.eval++r.tmps.toList)):=
  ⟨by rw[<-Od,<-Gd];exact h.ev F,(h.Pq args.toList).append Hb.Sk⟩
 have hr:(execOp a.eval o).run P w= .ok (.round pl'.b r.fn ((c0.ps.zip (args.toList.map a.eval).toArray).foldl (λtmps (t,a)=>tmps.setIfInBounds t a) r.tmps.toList.toArray) c0.as c0.b) w:=by
  have e1:execOp a.eval o=(do let d <-resolve a.eval {callee:= .value F,args,argTypes:=tys} o.type;invoke d.target d.args):=by simp only[execOp,ho]
  have e2:=run_yield (P:=P) (args:=args.map a.eval) hh (by simpa[q1]using lz)
  rw[q1,q2,q3]at e2
  rw[e1]
  simp only[resolve,Od,Deferred.ofValue,Sem.run_bind,Sem.run_pure,Result.andThen_ok,invoke]
  have e3:(args.toList.map a.eval).toArray=args.map a.eval:=by apply eF;simp
  rw[e3]
  simpa using e2
 unfold AS.call at he
 obtain⟨r2,h1,h2⟩:=ai.1 he
 obtain⟨g',i1,e1,_,f1⟩:=eA r2.2 h
 obtain⟨x,hx,k1,k2,key⟩:=u6 i1 (qN _ _) (qH rfl h.bk e1 _ _ _ r2 xD h1 f1) h2
 refine .inr (.inr (.inr ⟨pl'.b,r.fn,_,c0.as,c0.b,w,hr,λrd n=> ?_⟩))
 have:=hd.2 hy _ _ _ _ _ _ x k1 k2 hx pl'.b (args.toList.map a.eval) r.tmps.toList r.fn rd n rfl (by rw[<-OU];simpa using lz)
 rw[<-OU]at this
 exact this.mono λe w' ⟨v,he,ha⟩=>⟨v,he,key v w' ha⟩
end
end Go.Ab
namespace Go.Ab
section
variable {P:Program} {C:Ctx} {g:Nat->iO} {β:Id->Option Pl} {s:AS} {a:Act} {w:World} {o:Oper}
theorem fY{b:Builtin}{args:Array Operand}{ts:Array TypeId}{F:TypeId->Array Value->Sem Value}{x:Value}{w':World}{s':AS}(ho:o.op= .call {callee:= .builtin b,args,argTypes:=ts})
  (hb:∀ty cs xs,builtin b ts ty cs xs=(do pure (.value (<-F ty xs)))) (hf:∀ty,(F ty (args.map a.eval)).run P w= .ok x w') (h2:∃g' β',Inv C g' β' s' (a.put o.dst x) w'):ed P o a w (fq C s'):=by
 refine .inl ⟨x,w',?_,h2⟩
 simp only[execOp,ho,resolve,Sem.run_bind,Sem.run_pure,Result.andThen_ok,invoke]
 rw[hb,Sem.run_bind,hf]
 rfl
theorem DW(h:Inv C g β s a w){src dst:TypeId}{x:Operand}(ho:o.op= .convert src dst x){id:Id}{ver:Nat}(hx:s.ev x= .ptr id ver [] 0){v:ao}(he:(zN P s src dst id ver).eval=some v):ed P o a w (fq C (s.put o.dst v)):=by
 have hv:=h.ev x
 rw[hx]at hv
 obtain⟨ad,hy,hb,hc⟩:=l7 hv
 have fin:v= .ptr id ver [] 0->(convert src dst (a.eval x)).run P w= .ok (a.eval x) w->ed P o a w (fq C (s.put o.dst v)):=by
  intro h1 h2
  subst h1
  exact h.value hv (da (f:=convert src dst (a.eval x)) (by simp only[execOp,ho]) h2)
 unfold zN at he
 split at he
 ·rename_i v0 fr e c ia
  have b5:=dj ia
  obtain⟨pl',cur,e',hp',hh,hg,hk,hV⟩:=(h.bk id v0 fr _ b5).box rfl
  have hk:e'=e:=hk
  subst hk
  have hV:V (s.env w g β) c (cur.toList.take cur.size):=hV
  rw[<-bU,cX]at hV
  have hh:w.heap[pl'.b]? =some (.cells cur e' (0,0)):=hh
  have lz:=hV.size
  have lz:cur.toList.length=c.size:=lz
  have HO:w.shape? pl'.b=some (e',c.size):=by simp only[World.shape?,hh];rw[<-lz];simp
  have hp':β id=some pl':=hp'
  split at he
  ·rename_i t hS hD
   obtain⟨h1,h2⟩:=av.1 he
   have h2:=ak.1 h2
   simp only[ae,beq_iff_eq,bt,beq_eq_false_iff_ne]at h1
   obtain⟨⟨rfl,h3⟩,h4⟩:=h1
   obtain⟨pl,hp,rfl⟩:=hc ⟨fr,_,b5⟩
   have hp:β id=some pl:=hp
   rw[hp']at hp
   obtain rfl:pl'=pl:=by simpa using hp
   refine fin h2.symm ?_
   rw[hy]
   cases hi:P.info? t with
   |none=>exact absurd (by simp[Program.cellsOf,hi]) h3
   |some j=>
    have hj:j.size≠0:=by rw[<-iQ hi]at*;exact h3
    exact Go.Lib.run_to_unsafe w _ hS hD hi hj HO (by show 0 < c.size;omega)
  ·rename_i u hS hD
   obtain⟨h1,h2⟩:=av.1 he
   have h2:=ak.1 h2
   simp only[ae,beq_iff_eq,bt,beq_eq_false_iff_ne]at h1
   obtain⟨⟨rfl,h3⟩,h4⟩:=h1
   obtain⟨pl,hp,rfl⟩:=hc ⟨fr,_,b5⟩
   have hp:β id=some pl:=hp
   rw[hp']at hp
   obtain rfl:pl'=pl:=by simpa using hp
   refine fin h2.symm ?_
   rw[hy]
   cases hi:P.info? u with
   |none=>exact absurd (by simp[Program.cellsOf,hi]) h3
   |some j=>exact Go.Lib.run_from_unsafe w _ hS hD hi HO h4
  ·simp only[ag]at he
 ·simp only[ag]at he
theorem HD(h:Inv C g β s a w){T U:TypeId}{op:BinOp}{x y:Operand}(ho:o.op= .binOp op T x y U){i j:Id}{v1 v2:Nat}(hx:s.ev x= .ptr i v1 [] 0)(hy:s.ev y= .ptr j v2 [] 0){v:ao}(he:(MI P s T op i v1 j v2).eval=some v):
  ed P o a w (fq C (s.put o.dst v)):=by
 unfold MI at he
 split at he
 ·rename_i v' fr c ia
  obtain⟨h1,h2⟩:=av.1 he
  simp only[ae,beq_iff_eq,decide_eq_true_eq]at h1
  obtain⟨⟨⟨rfl,rfl⟩,rfl⟩,MS⟩:=h1
  have b5:=dj ia
  have xK:=h.ev x
  have KD:=h.ev y
  rw[hx]at xK
  rw[hy]at KD
  obtain⟨ad,Nu,_,hc⟩:=l7 xK
  obtain⟨ad',Nv,_,hc'⟩:=l7 KD
  obtain⟨pl,hp,rfl⟩:=hc ⟨fr,c,b5⟩
  obtain⟨pl',hp',rfl⟩:=hc' ⟨fr,c,b5⟩
  rw[hp]at hp'
  obtain rfl:pl=pl':=by simpa using hp'
  have hT:∃t j,P.underlying T=some (.pointer t)/\P.info? t=some j:=by
   unfold Oq at MS
   split at MS
   ·rename_i t ht
    obtain⟨j,hj⟩:=bz.1 MS
    exact⟨t,j,ht,hj⟩
   ·cases MS
  obtain⟨t,j,hT,hj⟩:=hT
  have hq:(Op.equal T (.pointer (some ⟨pl.b,0,none⟩)) (.pointer (some ⟨pl.b,0,none⟩))).run P w= .ok true w:=
   dP λd=>by simp[Op.equalIn,run_underlying hT,sizeOf,typeInfo,hj,run_sameAddr_same]
  have RC:(eqGuard op T x y (a.eval x) (a.eval y)).run P w= .ok () w:=by rw[Nu,Nv];exact ji (by simp) rfl
  have fin:∀z,(binOp op T (a.eval x) (a.eval y)).run P w= .ok z w->VS (s.env w g β) v z->ed P o a w (fq C (s.put o.dst v)):=by
   intro z h1 h3
   refine h.value h3 ?_
   simp[execOp,ho,h1,RC]
  split at h2
  ·obtain rfl:=ak.1 h2
   refine fin (.bool true) ?_ (mg true)
   rw[Nu,Nv]
   simp[binOp,hq]
  ·obtain rfl:=ak.1 h2
   refine fin (.bool false) ?_ (mg false)
   rw[Nu,Nv]
   simp[binOp,hq]
  ·simp only[ag]at h2
 ·simp only[ag]at he
theorem Kg{c:Call}{b:Builtin}{x:Operand}(hc:c.callee= .builtin b)(ha:c.args.toList=[x]):c= {callee:= .builtin b,args:= #[x],argTypes:=c.argTypes}:=by
 obtain⟨cal,args,tys⟩:=c
 simp only at hc ha
 have ha':args= #[x]:=by apply eF;simpa using ha
 subst hc ha'
 rfl
theorem E5{c:Call}{b:Builtin}{x y:Operand}(hc:c.callee= .builtin b)(ha:c.args.toList=[x,y]):c= {callee:= .builtin b,args:= #[x,y],argTypes:=c.argTypes}:=by
 obtain⟨cal,args,tys⟩:=c
 simp only at hc ha
 have ha':args= #[x,y]:=by apply eF;simpa using ha
 subst hc ha'
 rfl
theorem QK{ts:Array TypeId}{T:TypeId}(h:ts.toList=[T]):ts= #[T]:=by apply eF;simpa using h
theorem Mz{ts:Array TypeId}{T U:TypeId}(h:ts.toList=[T,U]):ts= #[T,U]:=by apply eF;simpa using h
theorem Hr(h:Inv C g β s a w){c:Call}{x:Operand}{T e:TypeId}(ho:o.op= .call c)(hc:c.callee= .builtin .cap)(ha:c.args.toList=[x])(ht:c.argTypes.toList=[T])(hx:s.ev x= .c6)(hT:P.underlying T=some (.slice e)):
  ed P o a w (fq C (s.put o.dst (.d (.int .i64) (0:Int)))):=by
 rw[Kg hc ha,QK ht]at ho
 have hv:=h.ev x
 rw[hx]at hv
 have hy:=gV hv
 refine fY ho (F:=λty xs=>Builtin.cap_ #[T] ty xs) (λty cs xs=>rfl) (x:= .int .i64 0) (w':=w) (λty=> ?_) ⟨g,β,h.put o.dst (gY _ _)⟩
 simp[Builtin.cap_,run_underlying hT,hy,goInt]
theorem Dc(h:Inv C g β s a w){c:Call}{x:Operand}{id:Id}{ver len:Nat}(ho:o.op= .call c)(hc:c.callee= .builtin .unsafeSliceData)(ha:c.args.toList=[x])(hx:s.ev x= .cv id ver [] 0 0 len)(hl:0 < len):
  ed P o a w (fq C (s.put o.dst (.ptr id ver [.idx 0] 0))):=by
 rw[Kg hc ha]at ho
 have hv:=h.ev x
 rw[hx]at hv
 obtain⟨ad,cap,hy,tM,hs,hb,dV⟩:=kz hv
 obtain⟨ad,rfl⟩:=bz.1 (hs hl)
 refine fY ho (F:=λty xs=>Builtin.unsafeSliceData_ c.argTypes ty xs) (λty cs xs=>rfl) (x:= .pointer (some ad)) (w':=w) (λty=> ?_) ⟨g,β,h.put o.dst ?_⟩
 ·rw[show(#[x].map a.eval)= #[a.eval x] by simp,hy]
  exact Go.Lib.run_unsafeSliceData_row w _ _ _ _ _ (by omega)
 ·refine⟨[.pointer (some ad)],?_,rfl⟩
  simp only[V]
  refine⟨ad,rfl,hb,λhc=> ?_⟩
  have h1:=dV hc
  cases hp:(s.env w g β).β id with
  |none=>rw[hp]at h1;simp only at h1;cases h1.1
  |some pl=>
   rw[hp]at h1
   simp only at h1
   exact⟨pl,rfl,by simpa using h1.1 (.inl hl)⟩
theorem CK(h:Inv C g β s a w){c:Call}{mx:Bool}(ho:o.op= .call c)(hc:c.callee= .builtin (if mx then .max else .min)){v:ao}(he:(Gs mx (c.args.toList.map s.ev)).eval=some v):ed P o a w (fq C (s.put o.dst v)):=by
 unfold Gs at he
 split at he
 ·rename_i k x k' y v8
  obtain⟨h1,h2⟩:=av.1 he
  obtain rfl:=ak.1 h2
  have h1:k=k':=by simpa using h1
  subst h1
  have HI:∃p q,c.args.toList=[p,q]/\s.ev p= .d (.int k) x/\s.ev q= .d (.int k) y:=by
   match hh:c.args.toList,v8 with
   |[p,q],v8=>simp only[bX,fW,dg]at v8;exact⟨p,q,rfl,v8.1,v8.2.1⟩
   |[],v8=>simp at v8
   |[_],v8=>simp at v8
   |_::_::_::_,v8=>simp at v8
  obtain⟨p,q,ha,hp,hq⟩:=HI
  rw[E5 hc ha]at ho
  have Mc:=h.ev p
  have KC:=h.ev q
  rw[hp]at Mc
  rw[hq]at KC
  have ep:=lY Mc
  have eq:=lY KC
  cases mx with
  |true=>
   refine fY ho (F:=λty xs=>Builtin.max_ c.argTypes ty xs) (λty cs xs=>rfl) (x:= .int k (if x < y then y else x)) (w':=w) (λty=> ?_) ⟨g,β,h.put o.dst (gY _ _)⟩
   rw[show(#[p,q].map a.eval)= #[a.eval p,a.eval q] by simp,ep,eq]
   simp[Builtin.max_,Builtin.max2]
  |false=>
   refine fY ho (F:=λty xs=>Builtin.min_ c.argTypes ty xs) (λty cs xs=>rfl) (x:= .int k (if y < x then y else x)) (w':=w) (λty=> ?_) ⟨g,β,h.put o.dst (gY _ _)⟩
   rw[show(#[p,q].map a.eval)= #[a.eval p,a.eval q] by simp,ep,eq]
   simp[Builtin.min_,Builtin.min2]
 ·rename_i k x k' y k2 z v8
  obtain⟨h1,h2⟩:=av.1 he
  obtain rfl:=ak.1 h2
  simp only[ae,decide_eq_true_eq]at h1
  obtain⟨rfl,rfl⟩:=h1
  have HI:∃p q r,c.args.toList=[p,q,r]/\s.ev p= .d (.int k) x/\s.ev q= .d (.int k) y/\s.ev r= .d (.int k) z:=by
   match hh:c.args.toList,v8 with
   |[p,q,r],v8=>simp only[bX,fW,dg]at v8;exact⟨p,q,r,rfl,v8.1,v8.2.1,v8.2.2.1⟩
   |[],v8=>simp at v8
   |[_],v8=>simp at v8
   |[_,_],v8=>simp at v8
   |_::_::_::_::_,v8=>simp at v8
  obtain⟨p,q,r,ha,hp,hq,hr⟩:=HI
  have Kn:c= {callee:= .builtin (if mx then .max else .min),args:= #[p,q,r],argTypes:=c.argTypes}:=by
   obtain⟨cal,args,tys⟩:=c
   simp only at hc ha
   have ha':args= #[p,q,r]:=by apply eF;simpa using ha
   subst hc ha'
   rfl
  rw[Kn]at ho
  have Mc:=h.ev p
  have KC:=h.ev q
  have Eh:=h.ev r
  rw[hp]at Mc
  rw[hq]at KC
  rw[hr]at Eh
  have ep:=lY Mc
  have eq:=lY KC
  have er:=lY Eh
  cases mx with
  |true=>
   refine fY ho (F:=λty xs=>Builtin.max_ c.argTypes ty xs) (λty cs xs=>rfl) (x:= .int k (if(if x < y then y else x) < z then z else(if x < y then y else x))) (w':=w) (λty=> ?_) ⟨g,β,h.put o.dst (gY _ _)⟩
   rw[show(#[p,q,r].map a.eval)= #[a.eval p,a.eval q,a.eval r] by simp,ep,eq,er]
   simp[Builtin.max_,Builtin.max2]
  |false=>
   refine fY ho (F:=λty xs=>Builtin.min_ c.argTypes ty xs) (λty cs xs=>rfl) (x:= .int k (if z < (if y < x then y else x) then z else(if y < x then y else x))) (w':=w) (λty=> ?_) ⟨g,β,h.put o.dst (gY _ _)⟩
   rw[show(#[p,q,r].map a.eval)= #[a.eval p,a.eval q,a.eval r] by simp,ep,eq,er]
   simp[Builtin.min_,Builtin.min2]
 ·simp only[ag]at he
theorem y3(z:Array Value)(n:Nat):Builtin.zeroCells z n=madeCells z (n*z.size):=rfl
theorem F8(h:Inv C g β s a w){c:Call}{x y:Operand}{T X:TypeId}{k:IntKind}{n:Int}(ho:o.op= .call c)(hc:c.callee= .builtin .append)(ha:c.args.toList=[x,y])(ht:c.argTypes.toList=[T,X])(hx:s.ev x= .c6)(hy:s.ev y= .d (.int k) n){s':AS}
  (he:(Cl P s o.dst T X n).eval=some s'):ed P o a w (fq C s'):=by
 rw[E5 hc ha,Mz ht]at ho
 have xK:=h.ev x
 have KD:=h.ev y
 rw[hx]at xK
 rw[hy]at KD
 have ex:=gV xK
 have ey:=lY KD
 unfold Cl at he
 split at he
 ·rename_i e t b q kn rR hd hX
  obtain⟨hT,hz,i,zv,hi,Gf,LO,Dy,Gi⟩:=pc rR
  obtain⟨hq,h2⟩:=av.1 he
  obtain⟨h3,h4⟩:=bl.1 h2
  obtain rfl:=ak.1 h4
  simp only[ae,decide_eq_true_eq,dK]at h3
  obtain⟨h5,h7,h8⟩:=h3
  obtain⟨m,rfl⟩:=Int.eq_ofNat_of_zero_le (Int.le_of_lt h5)
  simp only[aa]at h7 h8 ⊢
  have MW:zv.cells.size=t.size:=by have:=(Gi (s.env w g β)).size;simpa using this
  have hr:=λty=>Go.Lib.run_append_nil_zeros (P:=P) w T X ty e i zv k kn hT hX hi Dy m (by omega) (by rw[Gf];exact hz) (by omega) (by rw[LO];omega)
  obtain⟨cap,tM⟩:∃cap,grownCap w m 0 e=cap:=⟨_,rfl⟩
  have c1:m<=cap:=by rw[<-tM];exact grownCap_ge _ _ _ _
  have c2:cap<=maxLen:=by rw[<-tM];exact grownCap_le_maxLen _ _ _ _ (by unfold maxLen;omega)
  rw[tM]at hr
  obtain⟨cur,dV⟩:∃cur,Builtin.zeroCells zv.cells m++Builtin.zeroCells zv.cells (cap - m)=cur:=⟨_,rfl⟩
  rw[dV]at hr
  have s1:cur.size=cap*t.size:=by
   rw[<-dV,Array.size_append,oN,oN,MW,<-dn]
   congr 1
   omega
  have pM:=lH (Gi (s.env w.drew g β)) m
  have s2:cur.toList.take (m*t.size)=(madeCells zv.cells (m*t.size)).toList:=by
   rw[<-dV,bp,y3,MW]
   have hl:(madeCells zv.cells (m*t.size)).toList.length=m*t.size:=by simp[size_madeCells]
   rw[eH (by omega),bo (by omega)]
  obtain⟨g2,β2,i2,v7⟩:=(h.drew).Bg hq (e:=e) (l:=List.replicate m t.zero) (cur:=cur) (cap:=cap) hz (by rw[cd,s2];exact pM) s1 (by rw[cd];exact c1) c2
  rw[cd]at v7
  refine fY ho (F:=λty xs=>Builtin.append_ #[T,X] ty xs) (λty cs xs=>rfl) (λty=> ?_) ⟨g2,β2,i2.put o.dst v7⟩
  rw[show(#[x,y].map a.eval)= #[a.eval x,a.eval y] by simp,ex,ey]
  exact hr ty
 ·simp only[ag]at he
theorem Av:∀(xs:List Int) (a:Addr) (acc:ByteArray),(∀j x,xs[j]? =some x->w.cell? (a.add j)=some (.int .u8 x))->
  (loadBytes a acc xs.length).run P w= .ok ⟨acc.data++(xs.map λn=>UInt8.ofNat n.toNat).toArray⟩ w
 |[],a,acc,_=>by simp[loadBytes]
 |x::l,a,acc,h=>by
  have h0:w.cell? a=some (.int .u8 x):=by
   have:=h 0 x rfl
   simpa[Addr.add]using this
  have ih:=Av l (a.add 1) (acc.push x.toNat.toUInt8) (λj y hy=>by
   have:=h (j+1) y (by simpa using hy)
   have e:(a.add 1).add j=a.add (j+1):=by
    unfold Addr.add
    by_cases hj:j=0
    ·subst hj;simp
    ·simp[hj];omega
   rw[e];exact this)
  simp only[aC,loadBytes,Sem.run_bind,run_load,h0,Result.andThen]
  rw[ih]
  congr 1
  apply ByteArray.ext
  simp[ByteArray.push]
theorem G0(h:Inv C g β s a w){c:Call}{x y:Operand}{T U:TypeId}{id:Id}{ver:Nat}{n:Int}(ho:o.op= .call c)(hc:c.callee= .builtin .unsafeString)(ha:c.args.toList=[x,y])(ht:c.argTypes.toList=[T,U])
  (hx:s.ev x= .ptr id ver [.idx 0] 0) (hy:s.ev y= .d (.int .i64) n) {s':AS} (he:(Dm P s o.dst T id ver n).eval=some s'):ed P o a w (fq C s'):=by
 rw[E5 hc ha,Mz ht]at ho
 have xK:=h.ev x
 rw[hx]at xK
 obtain⟨ad,Nu,_,Ru⟩:=l7 xK
 have KD:=h.ev y
 rw[hy]at KD
 have Nv:=lY KD
 unfold Dm at he
 split at he
 ·rename_i v e l u ia hT
  obtain⟨h1,h2⟩:=av.1 he
  obtain⟨h3,h4⟩:=bl.1 h2
  obtain rfl:=ak.1 h4
  simp only[ae,beq_iff_eq]at h1
  obtain⟨⟨rfl,rfl⟩,OL⟩:=h1
  simp only[decide_eq_true_eq]at h3
  obtain⟨h5,h6⟩:=h3
  obtain⟨n,rfl⟩:=Int.eq_ofNat_of_zero_le (Int.le_of_lt h5)
  have h6:n<=(l:List Int).length:=by omega
  have b5:=dj ia
  obtain⟨pl,hp,rfl⟩:=Ru ⟨false,_,b5⟩
  have hp:β id=some pl:=hp
  have hO:mr (s.env w g β) id false (.vec u (.int .u8) l):=h.bk id v false _ b5
  obtain⟨hz,hO⟩:=hO
  have hO:(match β id with
   |none=>l=[]
   |some pl=>∃cur k,w.heap[pl.b]? =some (.cells cur u (0,0))/\cur.size=pl.cap*(Ty.int .u8).size/\(l:List Int).length<=pl.cap/\pl.cap<=maxLen/\g pl.b= .own (.id id) k/\
     k<=(l:List Int).length*(Ty.int .u8).size/\(false=false->k=0)/\aM (cC (s.env w g β) (.int .u8)) (cur.toList.take ((l:List Int).length*(Ty.int .u8).size)) l):=hO
  rw[hp]at hO
  obtain⟨cur,k,q1,q2,q3,q4,q5,q6,q7,q8⟩:=hO
  have hk:=q7 rfl
  subst hk
  have LX:(Ty.int .u8).size=1:=rfl
  rw[LX,mq]at q2 q8
  have tP:=mA q8
  have HO:w.shape? pl.b=some (u,cur.size):=by simp only[World.shape?,q1]
  have py:∀j z,((l:List Int).take n)[j]? =some z->w.cell? ((⟨pl.b,0,none⟩:Addr).add j)=some (.int .u8 z):=λj z hj=>by
   rw[cD]at hj
   split at hj
   ·rename_i Sx
    have LQ:j < (l:List Int).length:=by omega
    rw[Addr.add_lit,aR]
    simp only[World.cell?,q1]
    have:(cur.toList.take (l:List Int).length)[j]? =some (.int .u8 z):=by rw[tP,dJ,hj];rfl
    rw[cD,if_pos LQ]at this
    simpa using this
   ·cases hj
  have hlen:((l:List Int).take n).length=n:=by rw[cn];omega
  have NR:=Av (P:=P) (w:=w) ((l:List Int).take n) ⟨pl.b,0,none⟩ .empty py
  rw[hlen]at NR
  have NT:=Go.Lib.liesAt_bytes (P:=P) (e:=u) (by simpa using OL) (cur.size / P.cellsOf u) n (by
   rw[show P.cellsOf u=1 by simpa using OL,Nat.div_one];omega)
  have NL:∃w',w.freeze ⟨pl.b,0,none⟩ n=w'/\w'.os=w.os/\w'.tape=w.tape/\(w'.output=w.output/\w.drawn<=w'.drawn)/\w'.heap.size=w.heap.size/\∀b',b'≠pl.b->w'.heap[b']? =w.heap[b']? :=by
   refine⟨_,rfl,?_⟩
   unfold World.freeze
   rw[if_neg (by omega)]
   refine⟨rfl,rfl,⟨rfl,aw _⟩,by simp,λb' hb'=> ?_⟩
   simp only[eJ]
   rw[if_neg (λe=>hb' e.symm)]
  obtain⟨w',hw',f1,f2,f3,f4,f5⟩:=NL
  have i1:=h.kill b5 q5 f1 f2 f3 f4 f5
  have QS:¬(9223372036854775807:Int) < (n:Int):=by unfold maxLen at q4;omega
  have PZ:¬(n:Int) < 0:=by omega
  have LV:n≠0:=by omega
  have PV:IntKind.i64.max=9223372036854775807:=rfl
  refine fY ho (F:=λty xs=>Builtin.unsafeString_ #[T,U] ty xs) (λty cs xs=>rfl) (x:= .string (dT ((l:List Int).take n))) (w':=w') (λty=> ?_) ⟨_,β,i1.put o.dst ⟨[.string (dT ((l:List Int).take n))],by simp only[V,cC];rfl,rfl⟩⟩
  rw[show(#[x,y].map a.eval)= #[a.eval x,a.eval y] by simp,Nu,Nv]
  have LH:Builtin.unsafeString_ #[T,U] ty #[.pointer (some ⟨pl.b,0,none⟩),.int .i64 n]=
    (do
     let n <-Go.asInt (.int .i64 n)
     if n < 0 then runtimePanic (.error "unsafe.String: len out of range")
     if n > IntKind.i64.max then unsupported (.unsafePointer "String: a length above the largest int")
     if n=0 then pure (.string .empty)
     else if <-variablesAt ⟨pl.b,0,none⟩ (<-elemOf T) n.toNat then do
      let s <-loadBytes ⟨pl.b,0,none⟩ .empty n.toNat
      freeze ⟨pl.b,0,none⟩ n.toNat
      pure (.string s)
     else unsupported (.unsafePointer "String: not so many bytes at ptr")):=rfl
  rw[LH]
  simp[Go.asInt,asIntOf,PV,QS,PZ,LV,variablesAt,HO,elemOf,run_underlying hT,NT,NR,hw',dT]
 ·simp only[ag]at he
end
end Go.Ab
namespace Go.Ab
section
variable {P:Program} {C:Ctx} {g:Nat->iO} {β:Id->Option Pl} {s:AS} {a:Act} {w:World} {o:Oper}
theorem CH(h:Inv C g β s a w){c:Call}{T T2:TypeId}{m k:Operand}(cJ:o.op= .call c)(hc:c.callee= .builtin .delete)(ha:c.args.toList=[m,k])(ht:c.argTypes.toList=[T,T2]){s':AS}(he:(pS P s T (s.ev m) (s.ev k)).eval=some s'):ed P o a w (fq C (s'.put o.dst .nil)):=by
 have cJ:o.op= .call {callee:= .builtin .delete,args:= #[m,k],argTypes:= #[T,T2]}:=by rw[cJ,E5 hc ha,Mz ht]
 unfold pS at he
 split at he
 ·rename_i K V' kt vt id ver hm hx
  obtain⟨l,h1,he⟩:=ai.1 he
  obtain⟨kx,h2,he⟩:=ai.1 he
  obtain⟨L9,he⟩:=av.1 he
  obtain rfl:=ak.1 he
  obtain⟨hT,hK,_⟩:=oY hm
  have xK:=h.ev m
  rw[hx]at xK
  obtain⟨fr,pl,es,clock,g1,g2,g3,g4,g5,g6,g7,gn⟩:=nK h h1 xK
  obtain⟨l0,g6,gp⟩:=g6
  have sh:=oe depth K kt hK
  have hk:=pY (h.ev k) h2
  have Ko:=jD (P:=P) (w:=w) es.isEmpty depth K kt hK 10000 (by decide) _ _ hk
  obtain⟨r,hf,hr⟩:=sU (P:=P) (w:=w) hK hk g6
  have fin:∀(es':Array MapEntry) (clock':Nat),(∀ty,(Builtin.delete_ #[T,T2] ty (#[m,k].map a.eval)).run P w= .ok (.tuple #[]) {w with heap:=w.heap.setIfInBounds pl.b (.map es' clock')})->Alike (pF (s.env w g β) kt vt) es'.toList (jx kt kx l0)->jz es'.toList clock'->
    ed P o a w (fq C ((s.aD id (.obj ver false (.mp kt vt (jx kt kx l)))).put o.dst .nil)):=λes' clock' jT HI Nx=>
   fY (F:=λty xs=>Builtin.delete_ #[T,T2] ty xs) cJ (λ_ _ _=>rfl) jT ⟨g,β,(h.IA g1 g2 g4 g5 ⟨_,HI,yf sh gn gp⟩ (qU sh gn) Nx L9).put o.dst rfl⟩
  cases r with
  |none=>
   simp only at hr
   refine fin es clock (λty=> ?_) (by simp only[jx,hr];exact g6) g7
   simp[Builtin.delete_,run_underlying hT,g3,Go.MapKept.run_getObj_map g4,Ko,hf,Go.MapKept.run_setObj_map _ g4]
  |some u=>
   obtain⟨j,u⟩:=u
   obtain⟨e,m1,m2,rfl⟩:=hr
   refine fin (es.eraseIdxIfInBounds j) clock (λty=> ?_) ?_ (by rw[Array.toList_eraseIdxIfInBounds];exact g7.erase j)
   ·simp[Builtin.delete_,run_underlying hT,g3,Go.MapKept.run_getObj_map g4,Ko,hf,Go.MapKept.run_setObj_map _ g4]
   ·simp only[jx,m1,Array.toList_eraseIdxIfInBounds]
    exact g6.erase j
 ·simp only[ag]at he
theorem BP{Γ:mU}(hΓ:Sound P Γ){bk:List Nat}(h:Inv C g β s a w){s':AS}(he:(j4 P Γ bk o s).eval=some s'):ed P o a w (fq C s'):=by
 unfold j4 at he
 split at he
 ·rename_i x cJ
  obtain rfl:=ak.1 he
  exact Ak h (.inl cJ)
 ·rename_i x cJ
  obtain rfl:=ak.1 he
  exact Ak h (.inr cJ)
 ·rename_i c x y cJ
  obtain⟨v,h1,h2⟩:=ai.1 he
  obtain rfl:=ak.1 h2
  exact GG h cJ h1
 ·rename_i T cJ
  split at he
  ·rename_i z q hz hq
   obtain⟨h1,h2⟩:=av.1 he
   obtain rfl:=ak.1 h2
   simp only[ae]at h1
   exact DJ h cJ h1.1 h1.2
  ·exact(ag.1 he).elim
 ·rename_i T x cJ
  exact Hm h cJ he
 ·rename_i T parts cJ
  exact DO h cJ he
 ·rename_i T n parts cJ
  exact wB h cJ he
 ·rename_i T x cJ
  obtain⟨v,h1,h2⟩:=ai.1 he
  obtain rfl:=ak.1 h2
  exact Gq h cJ h1
 ·rename_i T x v cJ
  obtain⟨v,h1,h2⟩:=ai.1 he
  obtain rfl:=ak.1 h2
  exact ER h cJ h1
 ·rename_i x cJ
  exact zp h cJ he
 ·rename_i op T x y U cJ
  split at he
  ·rename_i i v1 j v2 hx hy
   obtain⟨v,h1,h2⟩:=ai.1 he
   obtain rfl:=ak.1 h2
   exact HD h cJ hx hy h1
  ·obtain⟨v,h1,h2⟩:=ai.1 he
   obtain rfl:=ak.1 h2
   exact DM h cJ h1
 ·rename_i op T x cJ
  obtain⟨v,h1,h2⟩:=ai.1 he
  obtain rfl:=ak.1 h2
  exact G3 h cJ h1
 ·rename_i T U x cJ
  split at he
  ·rename_i id ver len hTU hx
   exact DU h cJ hx he
  ·rename_i id ver hx
   obtain⟨v,h1,h2⟩:=ai.1 he
   obtain rfl:=ak.1 h2
   exact DW h cJ hx h1
  ·obtain⟨v,h1,h2⟩:=ai.1 he
   obtain rfl:=ak.1 h2
   exact AP h cJ h1
 ·rename_i T x cJ
  exact EU h cJ he
 ·rename_i f first caps cJ
  obtain⟨h1,h2⟩:=av.1 he
  obtain rfl:=ak.1 h2
  simp only[ae]at h1
  exact zk h cJ h1.1 h1.2
 ·rename_i T l c cJ
  obtain⟨n,h1,h2⟩:=ai.1 he
  obtain⟨m,h3,h4⟩:=ai.1 h2
  exact yd h cJ h1 h3 h4
 ·rename_i T x lo hi cJ
  obtain⟨v,h1,h2⟩:=ai.1 he
  obtain rfl:=ak.1 h2
  exact yJ h cJ (.inl rfl) h1
 ·rename_i T x lo y m cJ
  obtain⟨v',h0,h8⟩:=ai.1 he
  obtain rfl:=ak.1 h8
  obtain⟨hv,h1,h2⟩:=ai.1 h0
  obtain⟨mv,h3,h4⟩:=ai.1 h2
  obtain⟨h5,h6⟩:=bl.1 h4
  obtain⟨v,h7,h9⟩:=ai.1 h6
  obtain rfl:=ak.1 h9
  simp only[decide_eq_true_eq]at h5
  exact yJ h cJ (.inr ⟨m,y,hv,mv,rfl,rfl,h1,h3,h5.1,h5.2.1,h5.2.2⟩) h7
 ·rename_i T x f cJ
  obtain⟨v,h1,h2⟩:=ai.1 he
  obtain rfl:=ak.1 h2
  exact xv h cJ h1
 ·rename_i T x f cJ
  obtain⟨v,h1,h2⟩:=ai.1 he
  obtain rfl:=ak.1 h2
  exact D5 h cJ h1
 ·rename_i T x i cJ
  obtain⟨n,h0,he⟩:=ai.1 he
  obtain⟨v,h1,h2⟩:=ai.1 he
  obtain rfl:=ak.1 h2
  exact xO h cJ h0 h1
 ·rename_i T x i cJ
  obtain⟨n,h0,he⟩:=ai.1 he
  obtain⟨v,h1,h2⟩:=ai.1 he
  obtain rfl:=ak.1 h2
  exact Ei h cJ h0 h1
 ·rename_i x i cJ
  obtain⟨v,h1,h2⟩:=ai.1 he
  obtain rfl:=ak.1 h2
  exact AV h cJ h1
 ·rename_i T cJ
  exact Bd h cJ he
 ·rename_i T x i ok cJ
  obtain⟨v,h1,h2⟩:=ai.1 he
  obtain rfl:=ak.1 h2
  exact CE h cJ h1
 ·rename_i T m k x cJ
  obtain⟨s1,h1,h2⟩:=ai.1 he
  obtain rfl:=ak.1 h2
  exact CJ h cJ h1
 ·rename_i c cJ
  split at he
  ·rename_i hc
   split at he
   ·rename_i m k T T2 ha ht
    obtain⟨s1,h1,h2⟩:=ai.1 he
    obtain rfl:=ak.1 h2
    exact CH h cJ hc ha ht h1
   ·exact(ag.1 he).elim
  ·rename_i hc
   split at he
   ·rename_i x y T X ha ht
    exact FZ h cJ hc ha ht he
   ·exact(ag.1 he).elim
  ·rename_i hc
   split at he
   ·rename_i x T ha ht
    obtain⟨v,h1,h2⟩:=ai.1 he
    obtain rfl:=ak.1 h2
    exact H6 h cJ hc ha ht h1
   ·exact(ag.1 he).elim
  ·rename_i hc
   split at he
   ·rename_i x y T X ha ht
    split at he
    ·rename_i k n hx hy
     exact F8 h cJ hc ha ht hx hy he
    ·exact BQ h cJ hc ha ht he
   ·exact(ag.1 he).elim
  ·rename_i hc
   split at he
   ·rename_i x T ha ht
    split at he
    ·rename_i e hx hT
     obtain rfl:=ak.1 he
     exact Hr h cJ hc ha ht hx hT
    ·exact(ag.1 he).elim
   ·exact(ag.1 he).elim
  ·rename_i hc
   obtain⟨v,h1,h2⟩:=ai.1 he
   obtain rfl:=ak.1 h2
   exact CK (mx:=true) h cJ hc h1
  ·rename_i hc
   obtain⟨v,h1,h2⟩:=ai.1 he
   obtain rfl:=ak.1 h2
   exact CK (mx:=false) h cJ hc h1
  ·rename_i hc
   split at he
   ·rename_i x ha
    split at he
    ·rename_i id ver len hx
     obtain⟨h1,h2⟩:=bl.1 he
     obtain rfl:=ak.1 h2
     exact Dc h cJ hc ha hx (by simpa using h1)
    ·exact(ag.1 he).elim
   ·exact(ag.1 he).elim
  ·rename_i hc
   split at he
   ·rename_i x y T U ha ht
    split at he
    ·rename_i id ver n hx hy
     exact G0 h cJ hc ha ht hx hy he
    ·exact(ag.1 he).elim
   ·exact(ag.1 he).elim
  ·rename_i F hc
   split at he
   ·rename_i f caps hF
    split at he
    ·rename_i en G8
     obtain⟨gO,he⟩:=av.1 he
     exact FU h cJ hc hF ((hΓ f _ en G8).1 gO) he
    ·exact(ag.1 he).elim
   ·exact(ag.1 he).elim
  ·exact(ag.1 he).elim
 ·exact(ag.1 he).elim
end
end Go.Ab
namespace Go.Ab
def j9(P:Program)(ops:Array Oper)(o:Oper)(a:Act)(w:World)(K:Act->World->Prop):Prop:=
 if Region.wanted o (yielded ops a.tmps) then ed P o a w K else K (a.put o.dst undef) w
theorem j9.mono{P:Program}{ops:Array Oper}{o:Oper}{a:Act}{w:World}{K K':Act->World->Prop}(h:j9 P ops o a w K)(hk:∀a w,K a w->K' a w):j9 P ops o a w K':=by
 unfold j9 at*
 split
 ·rename_i hw;rw[if_pos hw]at h;exact h.mono hk
 ·rename_i hw;rw[if_neg hw]at h;exact hk _ _ h
theorem ed.some{P:Program}{o:Oper}{a:Act}{w:World}{K:Act->World->Prop}(h:ed P o a w K):∃a' w',K a' w':=by
 rcases h with⟨x,w',_,h⟩ | ⟨w',_,h⟩ | ⟨f,args,w',_,h⟩ | ⟨l,f,tmps,as,b,w',_,h⟩
 ·exact⟨_,_,h⟩
 ·exact⟨_,_,h⟩
 ·obtain⟨e,w'',_,⟨x,_,hx⟩,_⟩:=h []
  exact⟨_,_,hx⟩
 ·obtain⟨e,w'',⟨x,_,hx⟩,_⟩:=(h none 0).2 default [] (room_wide _)
  exact⟨_,_,hx⟩
theorem j9.some{P:Program}{ops:Array Oper}{o:Oper}{a:Act}{w:World}{K:Act->World->Prop}(h:j9 P ops o a w K):∃a' w',K a' w':=by
 unfold j9 at h
 split at h
 ·exact h.some
 ·exact⟨_,_,h⟩
theorem j9.wpListIn{r:Option Nat}{n:Nat}{P:Program}{ops:Array Oper}{o:Oper}{a:Act}{w:World}{Q:Exit->Act->World->Prop}{l:List Oper}(h:j9 P ops o a w (wpListIn (Fr r) n P ops Q l)):Go.wpListIn (Fr r) n P ops Q (o::l) a w:=by
 unfold j9 at h
 unfold Go.wpListIn
 split
 ·rename_i hw;rw[if_pos hw]at h;exact h.wpIn
 ·rename_i hw;rw[if_neg hw]at h;exact⟨λ_ _=>trivial,h⟩
theorem j9.wpOpIn{r:Option Nat}{n:Nat}{P:Program}{ops:Array Oper}{o:Oper}{i:Nat}{a:Act}{w:World}{Q:Exit->Act->World->Prop}{K:Act->World->Prop}(ho:ops[i]? =Option.some o)(h:j9 P ops o a w K):Go.wpOpIn (Fr r) n P ops Q i K a w:=by
 unfold j9 at h
 unfold Go.wpOpIn
 simp only[ho]
 split
 ·rename_i hw;rw[if_pos hw]at h;exact h.wpIn
 ·rename_i hw;rw[if_neg hw]at h;exact⟨λ_ _=>trivial,h⟩
theorem Iu{s:AS}{q:Nat}{v:ao}(h:s.slot q=v)(hq:q < s.bK.length):s.put (some q) v=s:=by
 have hv:s.bK[q]=v:=by simpa[AS.slot,ax,hq]using h
 simp only[AS.put]
 rw[<-hv,eK]
theorem FC{s:AS}{q:Nat}{t:Ty}{x:t.den}(h:s.slot q= .d t x):q < s.bK.length:=by
 rcases jQ q s.bK.length with h' | h'
 ·exact h'
 ·simp[AS.slot,ax,cW h']at h
def rQ(P:Program)(Γ:mU)(bk:List Nat)(ops:Array Oper)(o:Oper)(s:AS):Option AS:=
 match o.guard with
 |none=>(j4 P Γ bk o s).eval
 |some (j,want)=>match(ops[j]?).bind (·.dst) with
  |some q=>match s.slot q with
   | .d .bool b=>if b=want then(j4 P Γ bk o s).eval else some (s.put o.dst .nil)
   | .nil=>some (s.put o.dst .nil)
   |_=>none
  |none=>none
theorem Ck{R:Type}{P:Program}{Γ:mU}{bk:List Nat}{ops:Array Oper}{o:Oper}{s:AS}{k:AS->Option R}{r:R}(h:Js P Γ bk ops o s k=some r):∃s',rQ P Γ bk ops o s=some s'/\k s'=some r:=by
 unfold Js at h
 unfold rQ
 split at h
 ·rename_i hg
  simp only[hg]
  exact fU.1 h
 ·rename_i j want hg
  simp only[hg]
  split at h
  ·rename_i q hq
   simp only[hq]
   split at h
   ·rename_i b hb
    have e:=Iu hb (FC hb)
    simp only[hb]
    cases want <;> cases b <;> simp only[aO]at h <;> rw[e]at h
    ·obtain⟨s',h1,h2⟩:=fU.1 h
     exact⟨s',by simpa using h1,h2⟩
    ·exact⟨_,by simp,h⟩
    ·exact⟨_,by simp,h⟩
    ·obtain⟨s',h1,h2⟩:=fU.1 h
     exact⟨s',by simpa using h1,h2⟩
   ·rename_i hb
    simp only[hb]
    exact⟨_,rfl,h⟩
   ·cases h
  ·cases h
section
variable {P:Program} {C:Ctx} {g:Nat->iO} {β:Id->Option Pl} {s:AS} {a:Act} {w:World} {o:Oper}
theorem EY(h:Inv C g β s a w){ops:Array Oper}{j q:Nat}{b:Bool}(hq:(ops[j]?).bind (·.dst)=some q)(hb:s.slot q= .d .bool b):yielded ops a.tmps j=some b:=by
 have hv:=h.bK q
 rw[hb]at hv
 have hv:=wP hv
 have hl:=FC hb
 rw[<-h.size]at hl
 unfold yielded
 rw[hq,Option.bind_some]
 have:a.tmps[q]? =some (.bool b):=by
  rw[dN hl]
  simpa[Array.getD,hl]using hv
 rw[this]
theorem Du(h:Inv C g β s a w){ops:Array Oper}{j q:Nat}(hq:(ops[j]?).bind (·.dst)=some q)(hb:s.slot q= .nil):yielded ops a.tmps j=none:=by
 have hv:=h.bK q
 rw[hb]at hv
 have hv:a.tmps.getD q undef= .tuple #[]:=hv
 unfold yielded
 rw[hq,Option.bind_some]
 split
 ·rename_i b hb
  rw[bT,hb]at hv
  cases hv
 ·rfl
theorem zX{Γ:mU}(hΓ:Sound P Γ){bk:List Nat}{ops:Array Oper}(h:fq C s a w){s':AS}(he:rQ P Γ bk ops o s=some s'):j9 P ops o a w (fq C s'):=by
 obtain⟨g,β,h⟩:=h
 unfold rQ at he
 unfold j9
 split at he
 ·rename_i hg
  have:Region.wanted o (yielded ops a.tmps)=true:=by simp[Region.wanted,hg]
  rw[if_pos this]
  exact BP hΓ h he
 ·rename_i j want hg
  split at he
  ·rename_i q hq
   split at he
   ·rename_i b hb
    have hy:=EY h hq hb
    have hw:Region.wanted o (yielded ops a.tmps)=(b==want):=by simp[Region.wanted,hg,hy]
    rw[hw]
    by_cases e:b=want
    ·rw[if_pos e]at he
     rw[if_pos (by simp[e])]
     exact BP hΓ h he
    ·rw[if_neg e]at he
     rw[if_neg (by simp[e])]
     simp only[al]at he
     subst he
     exact⟨g,β,h.put o.dst rfl⟩
   ·rename_i hb
    have hy:=Du h hq hb
    have hw:Region.wanted o (yielded ops a.tmps)=false:=by simp[Region.wanted,hg,hy]
    rw[hw,if_neg (by simp)]
    simp only[al]at he
    subst he
    exact⟨g,β,h.put o.dst rfl⟩
   ·cases he
  ·cases he
theorem GP{R:Type}{c c':lU}{x:Option R}{r:R}(h:same c c' x=some r):c=c'/\x=some r:=by
 unfold same at h
 split at h
 ·exact⟨‹_›,h⟩
 ·cases h
theorem Fw{R:Type}{x y:Option R}{r:R}(h:nd x y=some r):x=some r/\y=some r:=by
 unfold nd at h
 split at h
 ·rename_i e;exact⟨h,e▸h⟩
 ·cases h
theorem Ev(h:Inv C g β s a w){x y:Operand}{n:Nat}(hn:yq s x y=some n){T:TypeId}(hT:oQ.isSl P T=true):∃b,(0 < n->b=false)/\(Op.equal T (a.eval x) (a.eval y)).run P w= .ok b w/\
  kP (a.eval x)=false/\a.eval x≠ .nilIface/\∀op,binOp op T (a.eval x) (a.eval y)=(match op with | .eql=>do pure (.bool (<-Op.equal T (a.eval x) (a.eval y))) | .neq=>do pure (.bool (!(<-Op.equal T (a.eval x) (a.eval y)))) | _=>binOp op T (a.eval x) (a.eval y)):=by
 have hx:=h.ev x
 have hy:=h.ev y
 unfold oQ.isSl at hT
 split at hT <;> try (cases hT;done)
 rename_i e hU
 unfold yq at hn
 split at hn
 ·rename_i t l h1 h2
  rw[h1]at hx;rw[h2]at hy
  obtain⟨ad,cap,vs,hv,_,hs,_⟩:=lJ hx
  have v7:=gV hy
  rw[hv,v7]
  refine⟨ad.isNone,λhp=> ?_,?_,rfl,by simp,λop=>by cases op <;> rfl⟩
  ·obtain rfl:=aN hn
   obtain⟨ad',rfl⟩:=bz.1 (hs hp)
   rfl
  ·cases ad with
   |none=>exact dP λd=>by simp[Op.equalIn,run_underlying hU]
   |some ad=>exact dP λd=>by simp[Op.equalIn,run_underlying hU]
 ·rename_i t l h1 h2
  rw[h1]at hx;rw[h2]at hy
  obtain⟨ad,cap,vs,hv,_,hs,_⟩:=lJ hy
  have v7:=gV hx
  rw[hv,v7]
  refine⟨ad.isNone,λhp=> ?_,?_,rfl,by simp,λop=>by cases op <;> rfl⟩
  ·obtain rfl:=aN hn
   obtain⟨ad',rfl⟩:=bz.1 (hs hp)
   rfl
  ·exact dP λd=>by simp[Op.equalIn,run_underlying hU]
 ·rename_i id ver pp c i len h1 h2
  rw[h1]at hx;rw[h2]at hy
  obtain⟨ad,cap,hv,_,hs,_⟩:=kz hx
  have v7:=gV hy
  rw[hv,v7]
  refine⟨ad.isNone,λhp=> ?_,?_,rfl,by simp,λop=>by cases op <;> rfl⟩
  ·obtain rfl:=aN hn
   obtain⟨ad',rfl⟩:=bz.1 (hs hp)
   rfl
  ·cases ad with
   |none=>exact dP λd=>by simp[Op.equalIn,run_underlying hU]
   |some ad=>exact dP λd=>by simp[Op.equalIn,run_underlying hU]
 ·rename_i id ver pp c i len h1 h2
  rw[h1]at hx;rw[h2]at hy
  obtain⟨ad,cap,hv,_,hs,_⟩:=kz hy
  have v7:=gV hx
  rw[hv,v7]
  refine⟨ad.isNone,λhp=> ?_,?_,rfl,by simp,λop=>by cases op <;> rfl⟩
  ·obtain rfl:=aN hn
   obtain⟨ad',rfl⟩:=bz.1 (hs hp)
   rfl
  ·exact dP λd=>by simp[Op.equalIn,run_underlying hU]
 ·cases hn
theorem uf(h:Inv C g β s a w){x y:Operand}{n:Nat}{T U:TypeId}(hn:yq s x y=some n)(hT:oQ.isSl P T=true):
  (o.op= .binOp .eql T x y U->∃b,(0 < n->b=false)/\ed P o a w (fq C (s.put o.dst (.d .bool b))))/\(o.op= .binOp .neq T x y U->∃b,(0 < n->b=true)/\ed P o a w (fq C (s.put o.dst (.d .bool b)))):=by
 obtain⟨b,h1,h2,h3,h4,h5⟩:=Ev (w:=w) h hn hT
 have hg:∀op,(eqGuard op T x y (a.eval x) (a.eval y)).run P w= .ok () w:=λop=>ji h4 h3
 refine⟨λho=>⟨b,h1,h.value (mg b) ?_⟩,λho=>⟨!b,λhp=>by rw[h1 hp];rfl,h.value (mg (!b)) ?_⟩⟩
 ·have h6:(binOp .eql T (a.eval x) (a.eval y)).run P w= .ok (.bool b) w:=by rw[h5 .eql];simp[h2]
  simp[execOp,ho,hg,h6]
 ·have h6:(binOp .neq T (a.eval x) (a.eval y)).run P w= .ok (.bool (!b)) w:=by rw[h5 .neq];simp[h2]
  simp[execOp,ho,hg,h6]
theorem uC{R:Type}{c:Bool}{x y:Option R}{r:R}(h:aO c x y=some r):(c=true/\x=some r)\/(c=false/\y=some r):=by
 cases c
 ·exact .inr ⟨rfl,h⟩
 ·exact .inl ⟨rfl,h⟩
theorem Hy{R:Type}{n:Nat}{k:Nat->Option R}{r:R}(h:Pp n k=some r):0 < n/\∀j,j < n->k j=some r:=by
 unfold Pp at h
 split at h
 ·rename_i hx
  obtain rfl:=aN h
  exact hx.choose_spec
 ·cases h
theorem zA{s:AS}{id:Id}{e:c7}{q:Nat}(hq:s.dd q=true)(fL:s.bA id≠none):(s.aD id e).dd q=true:=by
 cases id with
 |c8 k=>exact hq
 |new i j=>
  by_cases hi:i=q
  ·subst hi;exact absurd ((gG hq).1 j) fL
  ·unfold AS.dd AS.aD
   simp only[dz hi]
   exact hq
theorem Alike.len{α β:Type}{R:α->β->Prop}:∀ {xs:List α} {ys:List β},Alike R xs ys->xs.length=ys.length
 |[],[],_=>rfl
 |_::_,_::_,⟨_,h⟩=>by simp[h.len]
 |[],_::_,h=>h.elim
 |_::_,[],h=>h.elim
theorem EA{α:Type}:∀ {xs ys:List α} {i j:Nat} {x:α},xs.Perm ys->xs[i]? =some x->ys[j]? =some x->(xs.eraseIdx i).Perm (ys.eraseIdx j):=by
 have key:∀ {xs:List α} {i:Nat} {x:α},xs[i]? =some x->xs.Perm (x::xs.eraseIdx i):=by
  intro xs
  induction xs with
  |nil=>intro i x h;simp at h
  |cons y xs ih=>
   intro i x h
   cases i with
   |zero=>simp at h;subst h;exact jA _
   |succ i=>
    have h:xs[i]? =some x:=by simpa using h
    exact((ih h).cons y).trans (List.Perm.swap x y _)
 intro xs ys i j x hp hi hj
 exact((key hi).symm.trans (hp.trans (key hj))).cons_inv
theorem EE(h:Inv C g β s a w){T:TypeId}{m:Operand}(cJ:o.op= .range T m){s':AS}(he:(ED P s o.dst T (s.ev m)).eval=some s'):ed P o a w (fq C s'):=by
 unfold ED at he
 split at he
 ·rename_i K V' kt vt id ver q hm hx hd
  obtain⟨l,h1,he⟩:=ai.1 he
  obtain⟨hq,he⟩:=av.1 he
  obtain rfl:=ak.1 he
  rw[ae]at hq
  obtain⟨hT,_,_⟩:=oY hm
  have xK:=h.ev m
  rw[hx]at xK
  obtain⟨fr,pl,es,clock,g1,g2,g3,g4,g5,g6,g7,gn⟩:=nK h h1 xK
  obtain rfl:=rn g1 hq.1
  have fL:s.bA id≠none:=by rw[g1];simp
  have OV:=Trans.refl w g
  have Ee:bV (s.env w g β) ((s.aD id (.obj ver true (.mp kt vt l))).env w g β):=bV.aD g1 (aw _) OV (λ_ _=>rfl) (λ_=>rfl)
  have i0:Inv C g β (s.aD id (.obj ver true (.mp kt vt l))) a w:=
   h.step (cF _ _ _) OV Ee (fF.aD h.bk fL Ee (λ_ _=>rfl) (λ_ _ _ _ _ _ _ _=>⟨rfl,rfl⟩) ⟨pl,es,clock,g2,g4,g5,⟨g6.mono Ee.mem,gn⟩,g7⟩ (tV g1))
  have b5:=dv s id (.obj ver true (.mp kt vt l)) fL
  have hq':=zA (e:= .obj ver true (.mp kt vt l)) hq.2 fL
  generalize SD:s.aD id (.obj ver true (.mp kt vt l))=s0 at i0 b5 hq' Ee
  have rS:∀j,id≠ .new q j:=λj e=>by rw[e,(gG hq').1 j]at b5;cases b5
  have gO:pl.b < w.heap.size:=(bg.1 g4).1
  have ht:=Trans.alloc w g (.mapIter (some pl.b) clock #[] clock) (.own (.id (.new q 0)) 0)
  obtain⟨h3,h4⟩:=i0.uT hq' (c:= .la id (ver+1) kt vt l none) (p:=some ⟨w.heap.size,0⟩) ht (λb hb=>⟨ka w _ hb,dU _ _ _ (by omega)⟩) (λhE=>
   ⟨⟨w.heap.size,0⟩,pl.b,clock,#[],clock,gv _ _ _,lh w _,eb _ _ _,λvr Eh=>by
    obtain rfl:ver=vr:=by omega
    have hb:(s0.env w g β).qi id ver:=⟨by show s0.bA id≠none;rw[b5];simp,λv2 fr2 c2 h2=>by
     have h2:s0.bA id=some (.obj v2 fr2 c2):=h2
     rw[b5]at h2
     simp only[al,c7.obj.injEq]at h2
     omega⟩
    refine⟨hE.qi _ _ hb,λ_=>⟨⟨kt,vt,l,?_⟩,pl,es,clock,?_,rfl,?_,?_,λx hx=>g7.2 x hx,⟨aw _,aw _⟩,g7.1,?_,λx hx=>by cases hx⟩⟩
    ·show(s0.born q _).bA id=_
     rw[fG _ rS];exact b5
    ·show rp β (.new q 0) _ id=_
     rw[oL _ _ _ (rS 0)];exact g2
    ·exact(ka w _ gO).trans g4
    ·show iT g w.heap.size _ pl.b=_
     rw[dU _ _ _ (by omega)];exact g5
    ·have:es.toList.filter (λe=> !(#[]:Array Nat).contains e.born)=es.toList:=fR.2 λx _=>by simp
     rw[this]
     exact(g6.mono Ee.mem).mono hE.mem⟩)
  refine .inl ⟨.pointer (some ⟨w.heap.size,0,none⟩),w.alloc (.mapIter (some pl.b) clock #[] clock),?_,_,_,h3.put o.dst (v:= .ptr (.new q 0) 0 [] 0) ⟨[.pointer (some ⟨w.heap.size,0,none⟩)],?_,rfl⟩⟩
  ·refine da (f:=Instr.range T (a.eval m)) (by simp only[execOp,cJ]) ?_
   rw[g3]
   exact run_range_map w T K V' pl.b es clock hT g4
  ·simp only[V]
   exact⟨_,rfl,jS hq' _ _ _ _,λ_=>⟨_,gv _ _ _,rfl⟩⟩
 ·simp only[ag]at he
theorem xS(h:Inv C g β s a w){x:Operand}{t:FH}(ht:s.HX (s.ev x)=some t):
  s.bA t.i=some (.obj t.v t.fr (.la t.q (t.vr+1) t.kt t.vt t.rest t.cur))/\(∃k v l,s.bA t.q=some (.obj t.vr true (.mp k v l)))/\
  ∃pl plq since seen c0 es clock,a.eval x= .pointer (some ⟨pl.b,0,none⟩)/\β t.i=some pl/\w.heap[pl.b]? =some (.mapIter (some plq.b) since seen c0)/\g pl.b= .own (.id t.i) 0/\
   β t.q=some plq/\w.heap[plq.b]? =some (.map es clock)/\g plq.b= .own (.id t.q) 0/\(∀x∈es.toList,x.born < since)/\(since<=c0/\since<=clock)/\(es.toList.map (·.born)).Nodup/\
   AH (s.env w g β) t.kt t.vt (es.toList.filter λe=> !seen.contains e.born) t.rest/\
   ∀x,t.cur=some x->∃(e:MapEntry) (seen':Array Nat),e∈es.toList/\seen=seen'.push e.born/\c0=clock/\pF (s.env w g β) t.kt t.vt e x:=by
 have xK:=h.ev x
 generalize s.ev x=y at ht xK
 unfold AS.HX at ht
 split at ht
 ·rename_i i ver
  split at ht
  ·rename_i v fr q vr kt vt rest cur ia
   split at ht
   ·rename_i hv hl
    obtain rfl:=aN ht
    have hv:v=ver:=by simpa using hv
    subst hv
    have b5:=dj ia
    unfold AS.CD at hl
    split at hl
    ·rename_i v2 k2 t2 l2 P3
     have hl:v2=vr:=by simpa using hl
     subst hl
     have hq:=dj P3
     refine⟨b5,⟨_,_,_,hq⟩,?_⟩
     obtain⟨pl,mb,since,seen,c0,h1,h2,h3,h4⟩:=h.bk i v fr _ b5
     obtain⟨h5,h6⟩:=h4 v2 rfl
     obtain⟨_,plq,es,clock,k1,k2,k3,k4,k5,k6,k7,k8,k9⟩:=h6 ⟨_,_,hq⟩
     subst k2
     obtain⟨ad,m1,m2,m3⟩:=l7 xK
     obtain⟨pl',m4,rfl⟩:=m3 ⟨_,_,b5⟩
     have h1:β i=some pl:=h1
     have m4:β i=some pl':=m4
     rw[h1]at m4
     obtain rfl:pl=pl':=by simpa using m4
     exact⟨pl,plq,since,seen,c0,es,clock,m1,h1,h2,h3,k1,k3,k4,k5,k6,k7,k8,k9⟩
    ·cases hl
   ·cases ht
  ·cases ht
 ·cases ht
theorem pF.Si{E:Env}{kt vt:Ty}{e:MapEntry}{x:kt.den×vt.den}(h:pF E kt vt e x):VS E (.cons (.d kt x.1) (.cons (.d vt x.2) .nil)) (.tuple #[e.key,e.val]):=by
 obtain⟨⟨c1,a1,b1⟩,c2,a2,b2⟩:=h
 refine⟨[e.key,e.val],rfl,?_⟩
 simp only[VC]
 exact⟨_,_,c1,rfl,by simpa only[V]using a1,b1,_,_,c2,rfl,by simpa only[V]using a2,b2,rfl⟩
theorem pF.Sj{E:Env}{kt vt:Ty}{e:MapEntry}{x:kt.den×vt.den}(h:pF E kt vt e x):VS E (.cons (.d .bool true) (.cons (.d kt x.1) (.cons (.d vt x.2) .nil))) (.tuple #[.bool true,e.key,e.val]):=by
 obtain⟨⟨c1,a1,b1⟩,c2,a2,b2⟩:=h
 refine⟨[.bool true,e.key,e.val],rfl,?_⟩
 simp only[VC]
 exact⟨_,_,[.bool true],rfl,by simp only[V,cC],rfl,_,_,c1,rfl,by simpa only[V]using a1,b1,_,_,c2,rfl,by simpa only[V]using a2,b2,rfl⟩
theorem D3(h:Inv C g β s a w){x:Operand}(cJ:o.op= .entry x){v:ao}(he:(D1 s (s.ev x)).eval=some v):ed P o a w (fq C (s.put o.dst v)):=by
 unfold D1 at he
 split at he
 ·rename_i i v0 fr q vr kt vt rest c ht
  obtain rfl:=ak.1 he
  obtain⟨_,_,pl,plq,since,seen,c0,es,clock,m1,m2,m3,_,m5,m6,m7,_,_,m10,_,m12⟩:=xS h ht
  obtain⟨e,seen',n1,rfl,rfl,n4⟩:=m12 c rfl
  refine h.value n4.Si (da (f:=Instr.entry (a.eval x)) (by simp only[execOp,cJ]) ?_)
  rw[m1]
  exact run_entry_at w pl.b plq.b since seen' es _ e m3 m6 n1 m10
 ·simp only[ag]at he
theorem heap_drew{w w1:World}(hw:w1=w\/w1=w.drew):w1.heap=w.heap/\w1.os=w.os/\w1.tape=w.tape/\(w1.output=w.output/\w.drawn<=w1.drawn):=by
 rcases hw with rfl | rfl
 ·exact⟨rfl,rfl,rfl,rfl,aw _⟩
 ·exact⟨rfl,rfl,rfl,rfl,Nat.le_succ _⟩
theorem Inv.Ox(h:Inv C g β s a w){i q:Id}{v vr:Nat}{fr:Bool}{kt vt:Ty}{rest:List (kt.den×vt.den)}{cur:Option (kt.den×vt.den)}(b5:s.bA i=some (.obj v fr (.la q (vr+1) kt vt rest cur)))
  {k2 v2:Ty} {l2:List (k2.den×v2.den)} (hq:s.bA q=some (.obj vr true (.mp k2 v2 l2))) {pl plq:Pl} {m0:Option Nat} {since0 c00:Nat} {seen0:Array Nat} (hp:β i=some pl) (hb:w.heap[pl.b]? =some (.mapIter m0 since0 seen0 c00)) (hg:g pl.b= .own (.id i) 0)
  {w1:World} (hw:w1=w\/w1=w.drew) {es:Array MapEntry} {clock since c0:Nat} {seen:Array Nat} (RW:β q=some plq) (LF:w.heap[plq.b]? =some (.map es clock)) (RD:g plq.b= .own (.id q) 0)
  (h1:∀x∈es.toList,x.born < since) (h2:since<=c0/\since<=clock) (h3:(es.toList.map (·.born)).Nodup) {rest':List (kt.den×vt.den)} {cur':Option (kt.den×vt.den)} (h4:AH (s.env w g β) kt vt (es.toList.filter λe=> !seen.contains e.born) rest')
  (h5:∀x,cur'=some x->∃(e:MapEntry) (seen':Array Nat),e∈es.toList/\seen=seen'.push e.born/\c0=clock/\pF (s.env w g β) kt vt e x):
  Inv C g β (s.aD i (.obj v fr (.la q (vr+1) kt vt rest' cur'))) a (Go.ChangeMaps.setBlock w1 pl.b (.mapIter (some plq.b) since seen c0))/\
   lg (s.env w g β) ((s.aD i (.obj v fr (.la q (vr+1) kt vt rest' cur'))).env (Go.ChangeMaps.setBlock w1 pl.b (.mapIter (some plq.b) since seen c0)) g β):=by
 obtain⟨d1,d2,d3,d4⟩:=heap_drew hw
 have gO:pl.b < w.heap.size:=(bg.1 hb).1
 have Fh:(Go.ChangeMaps.setBlock w1 pl.b (.mapIter (some plq.b) since seen c0)).heap=w.heap.setIfInBounds pl.b (.mapIter (some plq.b) since seen c0):=by
  show w1.heap.setIfInBounds _ _=_
  rw[d1]
 have KA:(Go.ChangeMaps.setBlock w1 pl.b (.mapIter (some plq.b) since seen c0)).os=w.os/\(Go.ChangeMaps.setBlock w1 pl.b (.mapIter (some plq.b) since seen c0)).tape=w.tape/\((Go.ChangeMaps.setBlock w1 pl.b (.mapIter (some plq.b) since seen c0)).output=w.output/\w.drawn<=(Go.ChangeMaps.setBlock w1 pl.b (.mapIter (some plq.b) since seen c0)).drawn):=⟨d2,d3,d4⟩
 generalize Go.ChangeMaps.setBlock w1 pl.b (.mapIter (some plq.b) since seen c0)=w' at Fh KA
 have hother:∀b',b'≠pl.b->w'.heap[b']? =w.heap[b']? :=λb' fL=>by
  rw[Fh,c9,if_neg (λe=>fL e.symm)]
 have iL:w'.heap[pl.b]? =some (.mapIter (some plq.b) since seen c0):=by
  rw[Fh,c9,if_pos rfl,if_pos gO]
 have ht:Trans w w' g g:=by
  refine⟨KA.1,KA.2.1,KA.2.2,by rw[Fh];simp,λb' _=> ?_⟩
  by_cases he:b'=pl.b
  ·subst he
   rw[hg]
   exact⟨.inr ⟨i,0,rfl,aw _⟩,λ_ _ hh=>by omega⟩
  ·rw[hother b' he]
   cases wE:g b' with
   |free=>exact⟨rfl,rfl⟩
   |own o' k=>cases o' with
    |dm=>exact⟨rfl,rfl⟩
    |id i'=>exact⟨.inr ⟨i',k,rfl,aw _⟩,λoff v _ hv=>by simpa only[World.cell?,hother b' he]using hv⟩
 have hle:bV (s.env w g β) ((s.aD i (.obj v fr (.la q (vr+1) kt vt rest' cur'))).env w' g β):=bV.aD b5 (aw _) ht (λ_ _=>rfl) (λ_=>rfl)
 have N2:q≠i:=λe=>by rw[e,b5]at hq;cases hq
 have RV:plq.b≠pl.b:=λe=>by rw[e,hb]at LF;cases LF
 refine⟨h.step (cF _ _ _) ht hle (fF.aD h.bk (by rw[b5];simp) hle (λ_ _=>rfl) (λi' ver' fr' c' pl2 hi xI Aa=>⟨hother _ (h.apart hg hi xI Aa),rfl⟩) ?_ (jU b5 λ_ _ _ e=>by cases e)),hle.mem⟩
 refine⟨pl,plq.b,since,seen,c0,hp,iL,hg,λvr' Eh=> ?_⟩
 obtain rfl:vr=vr':=by omega
 have Ga:(s.env w g β).qi q vr:=⟨by show s.bA q≠none;rw[hq];simp,λv3 fr3 c3 h3=>by
  have h3:s.bA q=some (.obj v3 fr3 c3):=h3
  rw[hq]at h3
  simp only[al,c7.obj.injEq]at h3
  omega⟩
 refine⟨hle.qi _ _ Ga,λ_=>⟨⟨k2,v2,l2,?_⟩,plq,es,clock,RW,rfl,(hother _ RV).trans LF,RD,h1,h2,h3,h4.mono hle.mem,λx hx=> ?_⟩⟩
 ·show(s.aD i _).bA q=_
  rw[cq s i q _ N2];exact hq
 ·obtain⟨e,se,a1,a2,a3,a4⟩:=h5 x hx
  exact⟨e,se,a1,a2,a3,a4.mono hle.mem⟩
theorem Inv.KH(h:Inv C g β s a w){i q:Id}{v ver ver':Nat}{fr:Bool}{kt vt:Ty}{rest rest':List (kt.den×vt.den)}{cur cur':Option (kt.den×vt.den)}(b5:s.bA i=some (.obj v fr (.la q ver kt vt rest cur)))
  (hk:ver'=0\/(ver'=ver/\rest'=rest/\cur'=none)):Inv C g β (s.aD i (.obj v fr (.la q ver' kt vt rest' cur'))) a w:=by
 have ht:=Trans.refl w g
 have hle:bV (s.env w g β) ((s.aD i (.obj v fr (.la q ver' kt vt rest' cur'))).env w g β):=bV.aD b5 (aw _) ht (λ_ _=>rfl) (λ_=>rfl)
 refine h.step (cF _ _ _) ht hle (fF.aD h.bk (by rw[b5];simp) hle (λ_ _=>rfl) (λ_ _ _ _ _ _ _ _=>⟨rfl,rfl⟩) ?_ (jU b5 λ_ _ _ e=>by cases e))
 obtain⟨pl,mb,since,seen,c0,h1,h2,h3,h4⟩:=h.bk i v fr _ b5
 refine⟨pl,mb,since,seen,c0,h1,h2,h3,λvr Eh=> ?_⟩
 rcases hk with hk | ⟨rfl,rfl,rfl⟩
 ·omega
 ·obtain⟨h5,h6⟩:=h4 vr Eh
  refine⟨hle.qi _ _ h5,λhc=> ?_⟩
  obtain⟨c1,_⟩:=hle.cur _ _ h5 hc
  obtain⟨⟨k,v1,l,hq⟩,plq,es,clock,k1,k2,k3,k4,k5,k6,k7,k8,_⟩:=h6 c1
  have N2:q≠i:=λe=>by
   have hq:s.bA q=_:=hq
   rw[e,b5]at hq;cases hq
  exact⟨⟨k,v1,l,by show(s.aD i _).bA q=_;rw[cq s i q _ N2];exact hq⟩,plq,es,clock,k1,k2,k3,k4,k5,k6,k7,k8.mono hle.mem,λx hx=>by cases hx⟩
theorem EF{s:AS}{q i:Id}{e:c7}(h:s.yw q=false)(hi:s.bA i=some e):e.HY q=false:=by
 unfold AS.yw at h
 rw[Bool.or_eq_false_iff]at h
 cases i with
 |c8 k=>simpa using jr.1 h.1 _ (cr hi)
 |new a b=>
  have hi:(s.news.getD a [])[b]? =some e:=hi
  by_cases ha:a < s.news.length
  ·have h2:(s.news.getD a []).any (c7.HY q)=false:=by simpa using jr.1 h.2 (s.news.getD a []) (by simp[ax,bO ha])
   simpa using jr.1 h2 _ (cr hi)
  ·simp[ax,cW (Nat.le_of_not_lt ha)]at hi
theorem Inv.unlock(h:Inv C g β s a w){q:Id}{vr:Nat}{k v:Ty}{l:List (k.den×v.den)}(b5:s.bA q=some (.obj vr true (.mp k v l)))(hr:s.yw q=false):Inv C g β (s.aD q (.obj vr false (.mp k v l))) a w:=by
 have ht:=Trans.refl w g
 have hle:bV (s.env w g β) ((s.aD q (.obj vr false (.mp k v l))).env w g β):=bV.aD b5 (aw _) ht (λ_ _=>rfl) (λ_=>rfl)
 refine h.step (cF _ _ _) ht hle λi ver fr c hi=> ?_
 have hi:(s.aD q (.obj vr false (.mp k v l))).bA i=some (.obj ver fr c):=hi
 by_cases Q1:i=q
 ·subst Q1
  rw[dv s i _ (by rw[b5];simp)]at hi
  simp only[al,c7.obj.injEq]at hi
  obtain⟨rfl,rfl,rfl⟩:=hi
  obtain⟨pl,es,clock,h1,h2,h3,h4,h5⟩:=h.bk i vr true _ b5
  exact⟨pl,es,clock,h1,h2,h3,⟨h4.1.mono hle.mem,h4.2⟩,h5⟩
 ·rw[cq s q i _ Q1]at hi
  refine(h.bk i ver fr c hi).KK hle rfl (λ_ _=>⟨rfl,rfl⟩) λq2 v2 k2 v3 l2 hc xH _=>⟨⟨k2,v3,l2,?_⟩,λ_ _=>⟨rfl,rfl⟩⟩
  obtain⟨kt,vt,rest,cu,rfl⟩:=hc
  have hn:=EF hr hi
  have fL:q2≠q:=λe=>by simp[c7.HY,e]at hn
  show(s.aD q _).bA q2=_
  rw[cq s q q2 _ fL];exact xH
theorem En{es:List MapEntry}{seen:Array Nat}(hn:(es.map (·.born)).Nodup){j:Nat}{e:MapEntry}(hj:(es.filter λe=> !seen.contains e.born)[j]? =some e):
  es.filter (λx=> !(seen.push e.born).contains x.born)=(es.filter λe=> !seen.contains e.born).eraseIdx j:=by
 have h1:es.filter (λx=> !(seen.push e.born).contains x.born)=(es.filter λe=> !seen.contains e.born).filter λx=>x.born !=e.born:=by
  rw[List.filter_filter]
  refine List.filter_congr λx _=> ?_
  rw[contains_push]
  cases seen.contains x.born <;> cases hb:x.born==e.born <;> simp[bne,hb]
 rw[h1]
 have Kx:((es.filter λe=> !seen.contains e.born).map (·.born)).Nodup:=hn.sublist (List.filter_sublist.map _)
 generalize es.filter (λe=> !seen.contains e.born)=L at hj Kx
 induction L generalizing j with
 |nil=>simp at hj
 |cons x L ih=>
  rw[bX,cP]at Kx
  cases j with
  |zero=>
   simp only[ef,al]at hj
   subst hj
   have:L.filter (λy=>y.born !=x.born)=L:=fR.2 λy hy=>by
    have:y.born≠x.born:=λe=>Kx.1 (e▸cU.2 ⟨y,hy,rfl⟩)
    simpa using this
   simp[this]
  |succ j=>
   have hj:L[j]? =some e:=by simpa using hj
   have hx:(x.born !=e.born)=true:=by
    have:x.born≠e.born:=λh=>Kx.1 (h▸cU.2 ⟨e,cr hj,rfl⟩)
    simpa using this
   rw[ir,hx,List.eraseIdx_cons_succ]
   simp only[if_true]
   rw[ih hj Kx.2]
theorem Gy(h:Inv C g β s a w){x:Operand}(cJ:o.op= .next x false){t:FH}(ht:s.HX (s.ev x)=some t){R:Type}{k:AS->Option R}{r:R}(he:Ij s o.dst t k=some r):
  ed P o a w λa' w'=>∃s',fq C s' a' w'/\k s'=some r:=by
 obtain⟨hi,⟨k2,v2,l2,hq⟩,pl,plq,since,seen,c0,es,clock,m1,m2,m3,m4,m5,m6,m7,m8,m9,m10,m11,_⟩:=xS h ht
 have hex:∀ {y:Value} {w':World},(Instr.next (a.eval x) false o.type).run P w= .ok y w'->(execOp a.eval o).run P w= .ok (.value y) w':=λhr=>
  da (f:=Instr.next (a.eval x) false o.type) (by simp only[execOp,cJ]) hr
 have wU:(leftOf es seen).toList=es.toList.filter λe=> !seen.contains e.born:=by unfold leftOf;rw[Array.toList_filter]
 obtain⟨l',m11,Cp⟩:=m11
 have hlen:=m11.len
 rw[Cp.length_eq]at hlen
 rw[<-wU,bU]at hlen
 unfold Ij at he
 rcases run_next_at (P:=P) w o.type pl.b plq.b since c0 seen es clock m3 m6 m8 m9.1 with⟨h0,jT⟩ | ⟨e,MN,w1,hw,jT⟩
 ·rcases uC he with⟨hc,_⟩ | ⟨_,he⟩
  ·have:0 < t.rest.length:=by simpa using hc
   omega
  ·unfold AS.JU at he
   have i1:=h.KH (rest':=[]) (cur':=none) hi (.inl rfl)
   have N2:t.q≠t.i:=λe=>by rw[e,hi]at hq;simp at hq
   have P6:(s.aD t.i (.obj t.v t.fr (.la t.q 0 t.kt t.vt [] none))).bA t.q=some (.obj t.vr true (.mp k2 v2 l2)):=by rw[cq s t.i t.q _ N2];exact hq
   generalize s.aD t.i (.obj t.v t.fr (.la t.q 0 t.kt t.vt [] none))=s1 at he i1 P6
   cases hr:s1.yw t.q with
   |true=>rw[hr]at he;cases he
   |false=>
    rw[hr]at he
    simp only at he
    have R5:s1.unlock t.q=s1.aD t.q (.obj t.vr false (.mp k2 v2 l2)):=by simp only[AS.unlock,AS.obj,P6]
    rw[R5]at he
    rw[<-m1]at jT
    refine .inl ⟨_,w,hex jT,_,⟨g,β,(i1.unlock P6 hr).put o.dst (v:= .cons (.d .bool false) .nil) ⟨[.bool false],rfl,?_⟩⟩,he⟩
    simp only[VC]
    exact⟨_,_,[.bool false],rfl,by simp only[V,cC],rfl,rfl⟩
 ·rcases uC he with⟨hc,he⟩ | ⟨hc,_⟩
  ·obtain⟨_,hd⟩:=Hy he
   rw[wU]at MN
   obtain⟨i,Jy⟩:=List.getElem?_of_mem MN
   obtain⟨y,Od,MV⟩:=m11.get Jy
   obtain⟨j,hj⟩:=List.getElem?_of_mem (Cp.mem_iff.1 (cr Od))
   have LQ:j < t.rest.length:=(cT.1 hj).1
   have hy:Bh t.kt t.vt t.rest j=y:=by simp[Bh,ax,hj]
   have pM:e∈es.toList:=(dX.1 MN).1
   have i1:=h.Ox (rest':=t.rest.eraseIdx j) (cur':=some (Bh t.kt t.vt t.rest j)) (since:=since) (c0:=clock) (seen:=seen.push e.born) hi hq m2 m3 m4 hw m5 m6 m7 m8 ⟨m9.2,m9.2⟩ m10 ?_ ?_
   rotate_left
   ·rw[En m10 Jy];exact⟨_,m11.erase i,EA Cp Od hj⟩
   ·intro z hz
    obtain rfl:=aN hz
    exact⟨e,seen,pM,rfl,rfl,by rw[hy];exact MV⟩
   rw[<-m1]at jT
   have hVS:=(hy▸MV:pF (s.env w g β) t.kt t.vt e (Bh t.kt t.vt t.rest j))
   refine .inl ⟨_,_,hex jT,_,⟨g,β,i1.1.put o.dst (v:= .cons (.d .bool true) (.cons (.d t.kt (Bh t.kt t.vt t.rest j).1) (.cons (.d t.vt (Bh t.kt t.vt t.rest j).2) .nil))) ?_⟩,hd j LQ⟩
   exact pF.Sj (hVS.mono i1.2)
  ·have hc:¬0 < t.rest.length:=by simpa using hc
   have:0 < (leftOf es seen).toList.length:=List.length_pos_of_mem MN
   rw[bU]at this
   omega
theorem F7{Γ:mU}(hΓ:Sound P Γ){bk:List Nat}{ops:Array Oper}{R:Type}{k:AS->Option R}{r:R}(h:fq C s a w)(he:Jt P Γ bk ops o s k=some r):
  j9 P ops o a w λa' w'=>∃s',fq C s' a' w'/\k s'=some r:=by
 have plain:Js P Γ bk ops o s k=some r->j9 P ops o a w λa' w'=>∃s',fq C s' a' w'/\k s'=some r:=λhe=>by
  obtain⟨s1,h1,h2⟩:=Ck he
  exact(zX hΓ h h1).mono λa' w' hs=>⟨s1,hs,h2⟩
 have stepK:∀(hg:o.guard=none),(ed P o a w λa' w'=>∃s',fq C s' a' w'/\k s'=some r)->j9 P ops o a w λa' w'=>∃s',fq C s' a' w'/\k s'=some r:=λhg hr=>by
  unfold j9
  have:Region.wanted o (yielded ops a.tmps)=true:=by simp[Region.wanted,hg]
  rw[if_pos this]
  exact hr
 have step:∀(hg:o.guard=none) (b:Bool),ed P o a w (fq C (s.put o.dst (.d .bool b)))->k (s.put o.dst (.d .bool b))=some r->j9 P ops o a w λa' w'=>∃s',fq C s' a' w'/\k s'=some r:=λhg b hr hk=>by
  unfold j9
  have:Region.wanted o (yielded ops a.tmps)=true:=by simp[Region.wanted,hg]
  rw[if_pos this]
  exact hr.mono λa' w' hs=>⟨_,hs,hk⟩
 unfold Jt at he
 split at he
 ·rename_i T x y U hg ho
  split at he
  ·rename_i n hn hT
   obtain⟨g,β,hi⟩:=h
   obtain⟨b,hb,hr⟩:=(uf (o:=o) (U:=U) hi hn hT).1 ho
   refine step hg b hr ?_
   rcases uC he with⟨hc,hk⟩ | ⟨_,hk⟩
   ·rw[hb (by simpa using hc)];exact hk
   ·obtain⟨k1,k2⟩:=Fw hk
    cases b
    ·exact k2
    ·exact k1
  ·exact plain he
 ·rename_i T x y U hg ho
  split at he
  ·rename_i n hn hT
   obtain⟨g,β,hi⟩:=h
   obtain⟨b,hb,hr⟩:=(uf (o:=o) (U:=U) hi hn hT).2 ho
   refine step hg b hr ?_
   rcases uC he with⟨hc,hk⟩ | ⟨_,hk⟩
   ·rw[hb (by simpa using hc)];exact hk
   ·obtain⟨k1,k2⟩:=Fw hk
    cases b
    ·exact k2
    ·exact k1
  ·exact plain he
 ·rename_i T m hg ho
  obtain⟨s1,h1,h2⟩:=fU.1 he
  obtain⟨g,β,hi⟩:=h
  exact stepK hg ((EE hi ho h1).mono λ_ _ hs=>⟨_,hs,h2⟩)
 ·rename_i x hg ho
  obtain⟨s1,h1,h2⟩:=fU.1 he
  obtain⟨v,h3,h4⟩:=ai.1 h1
  obtain rfl:=ak.1 h4
  obtain⟨g,β,hi⟩:=h
  exact stepK hg ((D3 hi ho h3).mono λ_ _ hs=>⟨_,hs,h2⟩)
 ·rename_i x hg ho
  split at he
  ·rename_i t ht
   obtain⟨g,β,hi⟩:=h
   exact stepK hg (Gy hi ho ht he)
  ·cases he
 ·rename_i c hg ho
  split at he
  ·rename_i F hc
   split at he
   ·rename_i id ver rc f hF
    split at he
    ·rename_i en G8
     obtain⟨OU,he⟩:=GP he
     obtain⟨s1,h1,h2⟩:=fU.1 he
     obtain⟨g,β,hi⟩:=h
     exact stepK hg ((EX hi ho hc hF OU (hΓ _ _ en G8) h1).mono λ_ _ hs=>⟨_,hs,h2⟩)
    ·cases he
   ·exact plain he
  ·exact plain he
 ·exact plain he
theorem vY{rd:Option Nat}{n:Nat}{Γ:mU}(hΓ:Sound P Γ){bk:List Nat}{ops:Array Oper}{R:Type}{Q:Exit->Act->World->Prop}:∀(l:List Oper) {s:AS} {a:Act} {w:World} {k:AS->Option R} {r:R},fq C s a w->Ju P Γ bk ops l s k=some r->
  (∀s' a' w',fq C s' a' w'->k s'=some r->Q .normal a' w')->wpListIn (Fr rd) n P ops Q l a w
 |[],s,a,w,k,r,h,he,hk=>hk s a w h he
 |o::l,s,a,w,k,r,h,he,hk=>by
  have he:Jt P Γ bk ops o s (λs'=>s'.seen λs'=>Ju P Γ bk ops l s' k)=some r:=he
  simp only[AS.uB]at he
  exact((F7 hΓ h he).mono λa' w' ⟨s',hs,h2⟩=>vY hΓ l hs h2 hk).wpListIn
end
end Go.Ab
namespace Go.Ab
theorem AS.HE{s t:AS}(h1:s.bK=t.bK)(h2:s.news.length=t.news.length)(h3:∀id,s.bA id=t.bA id):s=t:=by
 obtain⟨a,b,c⟩:=s
 obtain⟨a',b',c'⟩:=t
 simp only at h1 h2
 subst h1
 have hb:b=b':=gQ λk=>h3 (.c8 k)
 subst hb
 have hc:c=c':=by
  apply List.ext_getElem h2
  intro i h h'
  apply gQ
  intro j
  have:=h3 (.new i j)
  simpa[AS.bA,ax,h,h']using this
 rw[hc]
def c7.BD:c7->c7->Prop
 | .obj v _ c,.obj v' _ c'=>v=v'/\c=c'
 | .dead,.dead=>True
 |_,_=>False
def nQ:Option c7->Option c7->Prop
 |some a,some b=>a.BD b
 |none,none=>True
 |_,_=>False
def c7.D8:c7->c7
 | .obj v _ c=> .obj v true c
 | .dead=> .dead
theorem c7.IF(a:c7):a.BD a:=by cases a <;> simp[c7.BD]
theorem GR(a:Option c7):nQ a a:=by cases a <;> simp[nQ,c7.IF]
theorem GQ(a:Option c7):nQ (a.map c7.D8) a:=by
 cases a with
 |none=>trivial
 |some x=>cases x <;> simp[nQ,c7.BD,c7.D8]
theorem c7.Jq(a:c7):a.D8.D8=a.D8:=by cases a <;> rfl
structure iF(f:qv)(s t:AS):Prop where
 bK:∀i∈f.bK,t.slot i=s.slot i
 ws:∀id∈f.ws,t.bA id=s.bA id
 rs:∀id∈f.rs,nQ (t.bA id) (s.bA id)
 dd:∀q,f.dst=some q->t.dd q=s.dd q
structure MD where
 v:ao
 up:Id->Option c7
 fz:List Id
structure App(d:Option Tmp)(E:MD)(s s':AS):Prop where
 bK:s'.bK=(s.put d E.v).bK
 len:s'.news.length=s.news.length
 bA:∀id,s'.bA id=match E.up id with | some e=>some e | none=>if id∈E.fz then(s.bA id).map c7.D8 else s.bA id
theorem App.Li{d:Option Tmp}{E:MD}{s s1 s2:AS}(h1:App d E s s1)(h2:App d E s s2):s1=s2:=
 AS.HE (by rw[h1.bK,h2.bK]) (by rw[h1.len,h2.len]) λid=>by rw[h1.bA,h2.bA]
structure AJ(f:qv)(s:AS)(E:MD):Prop where
 up:∀id e,E.up id=some e->(id∈f.ws/\s.bA id≠none)\/∃q j,f.dst=some q/\id= .new q j
 fz:∀id∈E.fz,id∈f.rs
theorem sY(s:AS)(id:Id)(e:c7):(s.aD id e).news.length=s.news.length:=by cases id <;> simp[AS.aD]
theorem zg(s:AS)(id i:Id):(s.freeze id).bA i=if i=id then(s.bA i).map c7.D8 else s.bA i:=by
 unfold AS.freeze
 cases hs:s.bA id with
 |none=>
  by_cases hi:i=id
  ·subst hi;simp[hs]
  ·simp[hi]
 |some e=>
  cases e with
  |dead=>
   by_cases hi:i=id
   ·subst hi;simp[hs,c7.D8]
   ·simp[hi]
  |obj v fr c=>
   simp only
   by_cases hi:i=id
   ·subst hi
    rw[dv s i _ (by rw[hs];simp)]
    simp[hs,c7.D8]
   ·rw[cq s id i _ hi];simp[hi]
theorem ea(i:Id):∀(ids:List Id) (s:AS),(s.aP ids).bA i=if i∈ids then(s.bA i).map c7.D8 else s.bA i
 |[],s=>by simp[AS.aP]
 |id::ids,s=>by
  rw[AS.aP,ea i ids,zg]
  by_cases h1:i=id
  ·subst h1
   by_cases h2:i∈ids
   ·simp[h2,Option.map_map,Function.comp_def,c7.Jq]
   ·simp[h2]
  ·simp[h1]
theorem Eo(s:AS)(id:Id):(s.freeze id).news.length=s.news.length:=by
 unfold AS.freeze
 split
 ·exact sY _ _ _
 ·rfl
theorem kj:∀(ids:List Id) (s:AS),(s.aP ids).news.length=s.news.length
 |[],_=>rfl
 |id::ids,s=>by rw[AS.aP,kj ids,Eo]
theorem oM{s:AS}{q:Nat}:s.dd q=true↔q < s.news.length/\∀j,s.bA (.new q j)=none:=by
 refine⟨λh=>⟨(gG h).2,(gG h).1⟩,λ⟨h1,h2⟩=> ?_⟩
 unfold AS.dd
 rw[bO h1]
 have h0:=h2 0
 simp only[AS.bA,ax,bO h1,dH]at h0
 cases hh:s.news[q]with
 |nil=>rfl
 |cons x xs=>rw[hh]at h0;simp at h0
theorem App.vb(d:Option Tmp)(v:ao)(ids:List Id)(s:AS):App d ⟨v,λ_=>none,ids⟩ s ((s.aP ids).put d v):=by
 refine⟨?_,?_,λid=> ?_⟩
 ·cases d <;> simp[AS.put,je]
 ·cases d <;> simp[AS.put,kj]
 ·rw[rz,ea]
theorem App.rC(d:Option Tmp)(v:ao)(s:AS):App d ⟨v,λ_=>none,[]⟩ s (s.put d v):=App.vb d v [] s
def uU(q:Nat)(es:List c7):Id->Option c7
 | .new i j=>if i=q then es[j]? else none
 | .c8 _=>none
theorem HB(s:AS){q:Nat}(hq:q < s.news.length)(es:List c7)(id:Id):(s.born q es).bA id=match id with | .new i j=>if i=q then es[j]? else s.bA (.new i j) | .c8 k=>s.bA (.c8 k):=by
 cases id with
 |c8 k=>rfl
 |new i j=>
  simp only
  by_cases h:i=q
  ·subst h;rw[if_pos rfl];exact nC hq _ j
  ·rw[if_neg h];exact fG _ λj' e=>by simp only[Id.new.injEq]at e;exact h e.1
theorem App.E8{s:AS}{q:Nat}(hv:s.dd q=true)(v:ao)(ids:List Id)(es:List c7):App (some q) ⟨v,uU q es,ids⟩ s (((s.aP ids).born q es).put (some q) v):=by
 obtain⟨h1,h2⟩:=oM.1 hv
 refine⟨?_,?_,λid=> ?_⟩
 ·simp[AS.put,je]
 ·simp[AS.put,AS.born,kj]
 ·rw[rz,HB _ (by rw[kj];exact h1)]
  cases id with
  |c8 k=>simp only[uU];exact ea _ _ _
  |new i j=>
   simp only[uU]
   by_cases h:i=q
   ·subst h
    rw[if_pos rfl]
    cases he:es[j]? with
    |none=>simp[h2]
    |some e=>simp
   ·rw[if_neg h]
    simp only[if_neg h]
    exact ea _ _ _
theorem App.IB{s:AS}{id:Id}{e0:c7}(hs:s.bA id=some e0)(d:Option Tmp)(v:ao)(e:c7):App d ⟨v,λi=>if i=id then some e else none,[]⟩ s ((s.aD id e).put d v):=by
 refine⟨?_,?_,λi=> ?_⟩
 ·cases d <;> simp[AS.put]
 ·cases d <;> simp[AS.put,sY]
 ·rw[rz]
  by_cases hi:i=id
  ·subst hi
   rw[dv s i _ (by rw[hs];simp)]
   simp
  ·rw[cq s id i _ hi];simp[hi]
section
variable {P:Program} {Γ:mU} {bk:List Nat} {ops:Array Oper} {o:Oper} {s t:AS}
def tz(P:Program)(Γ:mU)(bk:List Nat)(ops:Array Oper)(o:Oper)(s s':AS):Prop:=
 ∃E,App o.dst E s s'/\AJ (eZ Γ ops s o) s E/\∀t,iF (eZ Γ ops s o) s t->∃t',(j4 P Γ bk o t).eval=some t'/\App o.dst E t t'
theorem wh{xs:Array Operand}{i:Nat}(h:Operand.tmp i∈xs.toList):i∈w8 xs:=by
 unfold w8
 exact List.mem_filterMap.2 ⟨_,h,rfl⟩
theorem iF.ev(h:iF (eZ Γ ops s o) s t){x:Operand}(hx:x∈o.op.operands.toList):t.ev x=s.ev x:=by
 cases x with
 |tmp i=>exact h.bK i (aX.2 (.inl (wh hx)))
 |_=>rfl
theorem CQ(v:Value):(ofConst v).ids=[]:=by unfold ofConst;split <;> rfl
theorem An{o:Oper}{x:Op}(h:o.op=x)(hx:Aj x=false):Aj o.op=false:=by rw[h];exact hx
theorem sW(hn:Aj o.op=false){x:Operand}(hx:x∈o.op.operands.toList){id:Id}(cI:id∈(s.ev x).ids):id∈(eZ Γ ops s o).rs:=by
 refine aX.2 (.inl ?_)
 unfold CT
 rw[hn]
 cases x with
 |tmp i=>exact List.mem_flatMap.2 ⟨i,wh hx,cI⟩
 |const v=>simp[AS.ev,CQ]at cI
 |global _=>simp[AS.ev,ao.ids]at cI
 |func f=>simp[AS.ev,ao.ids]at cI
theorem iF.BD(h:iF (eZ Γ ops s o) s t)(hn:Aj o.op=false){x:Operand}(hx:x∈o.op.operands.toList){id:Id}(cI:id∈(s.ev x).ids):nQ (t.bA id) (s.bA id):=
 h.rs id (sW hn hx cI)
theorem uE{id:Id}(h:nQ (t.bA id) (s.bA id)):(t.obj id=none/\s.obj id=none)\/∃v f f' c,t.obj id=some (v,f,c)/\s.obj id=some (v,f',c):=by
 unfold AS.obj
 revert h
 cases t.bA id with
 |none=>cases s.bA id with
  |none=>intro _;simp
  |some b=>intro h;exact h.elim
 |some a=>cases s.bA id with
  |none=>intro h;exact h.elim
  |some b=>cases a <;> cases b <;> intro h <;> first
    |exact h.elim
    | (left;exact⟨rfl,rfl⟩)
    | (obtain⟨rfl,rfl⟩:=h;right;exact⟨_,_,_,_,rfl,rfl⟩)
theorem vE{id:Id}(h:nQ (t.bA id) (s.bA id))(ver:Nat)(p:List rN):t.row id ver p=s.row id ver p:=by
 unfold AS.row
 rcases uE h with⟨h1,h2⟩ | ⟨v,f,f',c,h1,h2⟩ <;> rw[h1,h2]
theorem jM:∀(v:ao) (ty:Ty),(∀id∈v.ids,nQ (t.bA id) (s.bA id))->t.fK ty v=s.fK ty v
 | .cv id ver p c i len,ty,h=>by
  cases ty <;> first
   |rfl
   | (simp only[AS.fK];rw[vE (h id (by simp[ao.ids]))])
 | .pr a b,ty,h=>by
  cases ty <;> first
   |rfl
   | (simp only[AS.fK];rw[jM a _ λid cI=>h id (by simp[ao.ids,cI]),jM b _ λid cI=>h id (by simp[ao.ids,cI])])
 | .undef,ty,_ | .gone,ty,_ | .c6,ty,_ | .kY,ty,_ | .mF,ty,_ | .pk,ty,_ | .d _ _,ty,_ | .ptr ..,ty,_ | .eW ..,ty,_ | .fn ..,ty,_ | .cons ..,ty,_ | .nil,ty,_ | .vec ..,ty,_ | .bx ..,ty,_ | .kT ..,ty,_ | .mp ..,ty,_ | .la ..,ty,_ | .yl ..,ty,_ | .mV ..,ty,_ | .sb _,ty,_=>by
  cases ty <;> simp only[AS.fK]
theorem l9:∀(v:ao),∀id∈v.shared,id∈v.ids
 | .cv ..,id,h=>by simpa[ao.shared,ao.ids]using h
 | .pr a b,id,h=>by
  simp only[ao.shared,aX,ao.ids]at h ⊢
  rcases h with h | h
  ·exact .inl (l9 a id h)
  ·exact .inr (l9 b id h)
 | .undef,_,h | .gone,_,h | .c6,_,h | .kY,_,h | .mF,_,h | .pk,_,h | .d _ _,_,h | .ptr ..,_,h | .eW ..,_,h | .fn ..,_,h | .cons ..,_,h | .nil,_,h | .vec ..,_,h | .bx ..,_,h | .kT ..,_,h | .mp ..,_,h | .la ..,_,h | .yl ..,_,h | .mV ..,_,h | .sb _,_,h=>by
  simp[ao.shared]at h
theorem CC{T:TypeId}{x:ao}(h:∀id∈x.ids,nQ (t.bA id) (s.bA id)):tW P t T x=tW P s T x:=by
 unfold tW
 split
 ·rename_i id ver p n
  rcases uE (h id (by simp[ao.ids])) with⟨h1,h2⟩ | ⟨v,f,f',c,h1,h2⟩ <;> rw[h1,h2]
 ·rfl
 ·rfl
 ·rfl
theorem AO{n:Nat}{lo hi:Option Operand}(hl:∀x,lo=some x->t.ev x=s.ev x)(hh:∀x,hi=some x->t.ev x=s.ev x):bounds t n lo hi=bounds s n lo hi:=by
 unfold bounds
 cases lo <;> cases hi <;> simp only[] <;> first
  |rfl
  | (rw[hl _ rfl,hh _ rfl])
  |rw[hl _ rfl]
  |rw[hh _ rfl]
theorem uH{T:TypeId}{x:ao}{lo hi:Option Operand}(h:∀id∈x.ids,nQ (t.bA id) (s.bA id))(hl:∀x,lo=some x->t.ev x=s.ev x)(hh:∀x,hi=some x->t.ev x=s.ev x):
  re P t T x lo hi=re P s T x lo hi:=by
 have hb:∀n,bounds t n lo hi=bounds s n lo hi:=λn=>AO hl hh
 unfold re
 split <;> first
  |rfl
  | (rw[vE (h _ (by simp[ao.ids]))];simp only[hb];done)
  | (simp only[hb];done)
theorem zw{T:TypeId}{x:ao}{lo:Option Operand}{y m:Operand}(h:∀id∈x.ids,nQ (t.bA id) (s.bA id))(hl:∀x,lo=some x->t.ev x=s.ev x)(hh:t.ev y=s.ev y)(hm:t.ev m=s.ev m):
  uG P t T x lo y m=uG P s T x lo y m:=by
 unfold uG
 rw[hh,hm,uH h hl λz hz=>by obtain rfl:=aN hz;exact hh]
theorem vh{T:TypeId}{x:ao}{i:Int}(h:∀id∈x.ids,nQ (t.bA id) (s.bA id)):kO P t T x i=kO P s T x i:=by
 unfold kO
 split <;> first
  |rfl
  |rw[vE (h _ (by simp[ao.ids]))]
theorem B0{obj:Bool}{src dst:TypeId}{x:ao}(h:∀id∈x.ids,nQ (t.bA id) (s.bA id)):zM P t obj src dst x=zM P s obj src dst x:=by
 unfold zM
 split
 ·rfl
 ·unfold Hv
  split <;> first
   |rfl
   | (simp only[AS.Ey,jM _ _ h])
theorem F1{T:TypeId}{op:BinOp}{i:Id}{v:Nat}{j:Id}{w:Nat}(h:nQ (t.bA i) (s.bA i)):MI P t T op i v j w=MI P s T op i v j w:=by
 unfold MI
 rcases uE h with⟨h1,h2⟩ | ⟨v,f,f',c,h1,h2⟩ <;> rw[h1,h2]
theorem B4{src dst:TypeId}{id:Id}{ver:Nat}(h:nQ (t.bA id) (s.bA id)):zN P t src dst id ver=zN P s src dst id ver:=by
 unfold zN
 rcases uE h with⟨h1,h2⟩ | ⟨v,f,f',c,h1,h2⟩
 ·rw[h1,h2]
 ·rw[h1,h2]
  cases c <;> first
   |rfl
   | (rename_i e z c;cases z <;> rfl)
theorem oF{ty:Ty}:∀(ps:List (Nat×Operand)) (l:List ty.den),(∀x∈ps,t.ev x.2=s.ev x.2/\∀id∈(s.ev x.2).ids,nQ (t.bA id) (s.bA id))->fV ty t ps l=fV ty s ps l
 |[],_,_=>rfl
 | (i,x)::ps,l,h=>by
  obtain⟨h1,h2⟩:=h (i,x) (aI ..)
  simp only[fV]
  simp only at h1 h2
  rw[h1,jM _ _ h2]
  congr 2
  funext y
  rw[oF ps _ λz hz=>h z (aH _ hz)]
theorem nf{ty:Ty}:∀(ps:List (Nat×Operand)) (l:List ty.den) (r:List ty.den×List Id),(fV ty s ps l).eval=some r->∀id∈r.2,∃x∈ps,id∈(s.ev x.2).ids
 |[],l,r,h,id,cI=>by
  obtain rfl:=ak.1 h
  cases cI
 | (i,x)::ps,l,r,h,id,cI=>by
  simp only[fV]at h
  obtain⟨h1,h2⟩:=av.1 h
  obtain⟨y,h3,h4⟩:=ai.1 h2
  obtain⟨r',h5,h6⟩:=ai.1 h4
  obtain rfl:=ak.1 h6
  rcases aX.1 cI with cI | cI
  ·exact⟨(i,x),aI ..,l9 _ _ cI⟩
  ·obtain⟨z,hz,vd⟩:=nf ps _ r' h5 id cI
   exact⟨z,aH _ hz,vd⟩
theorem qn{fs:Array Field}:∀(ps:List (Nat×Operand)) (v:ao),(∀x∈ps,t.ev x.2=s.ev x.2)->jX P fs t ps v=jX P fs s ps v
 |[],_,_=>rfl
 | (i,x)::ps,v,h=>by
  have h1:=h (i,x) (aI ..)
  simp only at h1
  simp only[jX,h1]
  have ih:∀v,jX P fs t ps v=jX P fs s ps v:=λv=>qn ps v λz hz=>h z (aH _ hz)
  simp only[ih]
theorem tE:∀(l:List Operand),(∀x∈l,t.ev x=s.ev x)->kH t l=kH s l
 |[],_=>rfl
 |x::l,h=>by
  simp only[kH]
  rw[h x (aI ..),tE l λy hy=>h y (aH _ hy)]
theorem wj{ty:Ty}{X:TypeId}{x:ao}(h:∀id∈x.ids,nQ (t.bA id) (s.bA id)):qT P t ty X x=qT P s ty X x:=by
 unfold qT
 split
 ·rfl
 ·simp only[AS.Ey,jM _ _ h]
theorem il{v:ao}(h:∀t,iF (eZ Γ ops s o) s t->(j4 P Γ bk o t).eval=some (t.put o.dst v)):tz P Γ bk ops o s (s.put o.dst v):=
 ⟨⟨v,λ_=>none,[]⟩,App.rC _ _ _,⟨λ_ _ h=>by simp at h,λ_ h=>by simp at h⟩,λt ht=>⟨_,h t ht,App.rC _ _ _⟩⟩
theorem jw{F:AS->Out ao}(ho:∀t,j4 P Γ bk o t=(F t).bind λv=> .ok (t.put o.dst v))(hF:∀t,iF (eZ Γ ops s o) s t->F t=F s){s':AS}(he:(j4 P Γ bk o s).eval=some s'):tz P Γ bk ops o s s':=by
 rw[ho]at he
 obtain⟨v,h1,h2⟩:=ai.1 he
 obtain rfl:=ak.1 h2
 refine il λt ht=> ?_
 rw[ho,hF t ht,ai]
 exact⟨v,h1,rfl⟩
theorem wY{v:ao}{ids:List Id}(hi:∀id∈ids,id∈(eZ Γ ops s o).rs)(h:∀t,iF (eZ Γ ops s o) s t->(j4 P Γ bk o t).eval=some ((t.aP ids).put o.dst v)):tz P Γ bk ops o s ((s.aP ids).put o.dst v):=
 ⟨⟨v,λ_=>none,ids⟩,App.vb _ _ _ _,⟨λ_ _ h=>by simp at h,hi⟩,λt ht=>⟨_,h t ht,App.vb _ _ _ _⟩⟩
theorem ov{v:ao}{ids:List Id}{q:Nat}{es:List c7}(hd:o.dst=some q)(hv:s.dd q=true)(hi:∀id∈ids,id∈(eZ Γ ops s o).rs)
  (h:∀t,iF (eZ Γ ops s o) s t->t.dd q=true->(j4 P Γ bk o t).eval=some (((t.aP ids).born q es).put o.dst v)):tz P Γ bk ops o s (((s.aP ids).born q es).put o.dst v):=by
 refine⟨⟨v,uU q es,ids⟩,by rw[hd];exact App.E8 hv _ _ _,⟨λid e h=> .inr ?_,hi⟩,λt ht=> ?_⟩
 ·cases id with
  |c8 _=>simp[uU]at h
  |new i j=>
   simp only[uU]at h
   split at h
   ·rename_i hq;exact⟨q,j,hd,by rw[hq]⟩
   ·cases h
 ·have hv':t.dd q=true:=by rw[ht.dd q hd];exact hv
  exact⟨_,h t ht hv',by rw[hd];exact App.E8 hv' _ _ _⟩
theorem pO{v:ao}{id:Id}{e0 e:c7}(hs:s.bA id=some e0)(hw:id∈(eZ Γ ops s o).ws)(h:∀t,iF (eZ Γ ops s o) s t->t.bA id=s.bA id->(j4 P Γ bk o t).eval=some ((t.aD id e).put o.dst v)):
  tz P Γ bk ops o s ((s.aD id e).put o.dst v):=by
 refine⟨⟨v,λi=>if i=id then some e else none,[]⟩,App.IB hs _ _ _,⟨λi e' h=> .inl ?_,λ_ h=>by simp at h⟩,λt ht=> ?_⟩
 ·simp only at h
  split at h
  ·rename_i hi;subst hi;exact⟨hw,by rw[hs];simp⟩
  ·cases h
 ·have:=ht.ws id hw
  exact⟨_,h t ht this,App.IB (this.trans hs) _ _ _⟩
end
end Go.Ab
namespace Go.Ab
section
variable {P:Program} {Γ:mU} {bk:List Nat} {ops:Array Oper} {o:Oper} {s t:AS}
theorem Bq{T:TypeId}{x v:ao}{s':AS}(h:(rh P s T x v).eval=some s'):
  ∃id e0 e,x.ids=[id]/\s.bA id=some e0/\s'=s.aD id e/\∀t:AS,t.bA id=s.bA id->(rh P t T x v).eval=some (t.aD id e):=by
 unfold rh at h
 split at h
 ·rename_i id ver p n
  cases ia:s.obj id with
  |none=>rw[ia]at h;simp only[ag]at h
  |some r=>
   obtain⟨ve,fr,c⟩:=r
   rw[ia]at h
   obtain⟨h1,h2⟩:=av.1 h
   obtain⟨r,h3,h4⟩:=ai.1 h2
   obtain⟨h5,h6⟩:=av.1 h4
   obtain⟨h7,h8⟩:=bl.1 h6
   obtain⟨c',h9,Np⟩:=ai.1 h8
   obtain rfl:=ak.1 Np
   refine⟨id,_,_,rfl,dj ia,rfl,λt ht=> ?_⟩
   have hob':t.obj id=some (ve,fr,c):=by simp only[AS.obj,ht];exact ia
   unfold rh
   simp only[hob']
   exact av.2 ⟨h1,ai.2 ⟨r,h3,av.2 ⟨h5,bl.2 ⟨h7,ai.2 ⟨c',h9,ak.2 rfl⟩⟩⟩⟩⟩
 ·simp only[ag]at h
theorem DX{c:Call}{x y:Operand}{T X:TypeId}(cJ:o.op= .call c)(hc:c.callee= .builtin .copy)(ha:c.args.toList=[x,y])(ht:c.argTypes.toList=[T,X]){s':AS}
  (he:(xp P s o.dst T X (s.ev x) (s.ev y)).eval=some s'):tz P Γ bk ops o s s':=by
 have z8:∀t:AS,j4 P Γ bk o t=xp P t o.dst T X (t.ev x) (t.ev y):=λt=>by
  unfold j4
  rw[cJ]
  simp only[hc,ha,ht]
 have pd:∀z,z=x\/z=y->z∈o.op.operands.toList:=λz hz=>by
  rw[cJ]
  simp only[Op.operands,Call.operands,hc,aT,bp,ha]
  simpa using hz
 have hx:∀t,iF (eZ Γ ops s o) s t->t.ev x=s.ev x:=λt h=>h.ev (pd x (.inl rfl))
 have hy:∀t,iF (eZ Γ ops s o) s t->t.ev y=s.ev y:=λt h=>h.ev (pd y (.inr rfl))
 have hm:∀t,iF (eZ Γ ops s o) s t->∀ty,qT P t ty X (s.ev y)=qT P s ty X (s.ev y):=λt h ty=>wj λid cI=>h.BD (An cJ rfl) (pd y (.inr rfl)) cI
 unfold xp at he
 split at he
 ·rename_i e t b id ver len rR Dx
  obtain⟨m,h1,he⟩:=ai.1 he
  split at he
  ·rename_i ve n t' l ia
   obtain⟨h2,tN⟩:=av.1 he
   obtain⟨l',h3,y5⟩:=ai.1 tN
   obtain⟨h4,MM⟩:=bl.1 y5
   obtain rfl:=ak.1 MM
   have hw:id∈(eZ Γ ops s o).ws:=by
    show id∈writes Γ s o
    unfold writes
    rw[cJ]
    simp only[hc,ha,Dx]
    simp[ao.ids]
   refine pO (dj ia) hw λt ht Gh=> ?_
   rw[z8 t,hx t ht,hy t ht]
   have hob':t.obj id=some (ve,false,.d (.arr n t') l):=by simp only[AS.obj,Gh];exact ia
   unfold xp
   simp only[rR,Dx]
   refine ai.2 ⟨m,by rw[hm t ht];exact h1,?_⟩
   simp only[hob']
   exact av.2 ⟨h2,ai.2 ⟨l',h3,bl.2 ⟨h4,ak.2 rfl⟩⟩⟩
  ·exact(ag.1 he).elim
 ·exact(ag.1 he).elim
theorem AM{c:Call}{x y:Operand}{T X:TypeId}(cJ:o.op= .call c)(hc:c.callee= .builtin .append)(ha:c.args.toList=[x,y])(ht:c.argTypes.toList=[T,X])(fL:∀k n,s.ev x= .c6->s.ev y= .d (.int k) n->False){s':AS}
  (he:(nu P s (Gm bk o.dst) (Ej bk o.dst) o.dst T X (s.ev x) (s.ev y)).eval=some s'):tz P Γ bk ops o s s':=by
 have z8:∀t:AS,t.ev x=s.ev x->t.ev y=s.ev y->j4 P Γ bk o t=nu P t (Gm bk o.dst) (Ej bk o.dst) o.dst T X (t.ev x) (t.ev y):=λt e1 e2=>by
  unfold j4
  rw[cJ]
  simp only[hc,ha,ht]
  split
  ·rename_i k n hx hy
   rw[e1]at hx
   rw[e2]at hy
   exact(fL k n hx hy).elim
  ·rfl
 have pd:∀z,z=x\/z=y->z∈o.op.operands.toList:=λz hz=>by
  rw[cJ]
  simp only[Op.operands,Call.operands,hc,aT,bp,ha]
  simpa using hz
 have hx:∀t,iF (eZ Γ ops s o) s t->t.ev x=s.ev x:=λt h=>h.ev (pd x (.inl rfl))
 have hy:∀t,iF (eZ Γ ops s o) s t->t.ev y=s.ev y:=λt h=>h.ev (pd y (.inr rfl))
 have hm:∀t,iF (eZ Γ ops s o) s t->∀ty,qT P t ty X (s.ev y)=qT P s ty X (s.ev y):=λt h ty=>wj λid cI=>h.BD (An cJ rfl) (pd y (.inr rfl)) cI
 unfold nu at he
 split at he
 ·rename_i e ty b q rR hd
  obtain⟨m,h1,h2⟩:=ai.1 he
  split at h2
  ·rename_i NX
   cases ML:Ej bk o.dst with
   |true=>
    rw[ML]at h2
    simp only at h2
    obtain⟨h5,h6⟩:=bl.1 h2
    obtain rfl:=ak.1 h6
    refine il λt ht=> ?_
    rw[z8 t (hx t ht) (hy t ht),hx t ht,hy t ht]
    unfold nu
    simp only[hd]at ML rR ⊢
    simp only[rR,NX,ML]
    refine ai.2 ⟨m,by rw[hm t ht];exact h1,?_⟩
    exact bl.2 ⟨h5,ak.2 rfl⟩
   |false=>
   rw[ML]at h2
   simp only at h2
   obtain⟨h3,h4⟩:=av.1 h2
   obtain⟨h5,h6⟩:=bl.1 h4
   obtain rfl:=ak.1 h6
   refine ov (ids:=[]) hd h3 (λ_ h=>by cases h) λt ht hv=> ?_
   rw[z8 t (hx t ht) (hy t ht),hx t ht,hy t ht]
   unfold nu
   simp only[hd]at ML rR ⊢
   simp only[rR,NX,ML]
   refine ai.2 ⟨m,by rw[hm t ht];exact h1,?_⟩
   exact av.2 ⟨hv,bl.2 ⟨h5,ak.2 rfl⟩⟩
  ·rename_i id ver len NX
   split at h2
   ·rename_i v fr e' t' l ia
    obtain⟨h3,h4⟩:=av.1 h2
    obtain⟨l',h5,h6⟩:=ai.1 h4
    obtain⟨h7,h8⟩:=bl.1 h6
    obtain⟨h9,Np⟩:=bl.1 h8
    obtain⟨Ro,Nq⟩:=bl.1 Np
    obtain rfl:=ak.1 Nq
    have hw:id∈(eZ Γ ops s o).ws:=by
     show id∈writes Γ s o
     unfold writes
     rw[cJ]
     simp only[hc,ha,NX]
     simp[ao.ids]
    refine pO (dj ia) hw λt ht Gh=> ?_
    rw[z8 t (hx t ht) (hy t ht),hx t ht,hy t ht]
    have hob':t.obj id=some (v,fr,.vec e' t' l):=by simp only[AS.obj,Gh];exact ia
    unfold nu
    simp only[hd]at rR ⊢
    simp only[rR,NX]
    refine ai.2 ⟨m,by rw[hm t ht];exact h1,?_⟩
    simp only[hob']
    exact av.2 ⟨h3,ai.2 ⟨l',h5,bl.2 ⟨h7,bl.2 ⟨h9,bl.2 ⟨Ro,ak.2 rfl⟩⟩⟩⟩⟩
   ·simp only[ag]at h2
  ·simp only[ag]at h2
 ·simp only[ag]at he
theorem vB:∀(n:Nat) (todo acc:List Id),∀id∈acc,id∈s.reach n todo acc
 | 0,_,_,id,h=>h
 |_+1,[],_,id,h=>h
 |n+1,x::todo,acc,id,h=>by
  rw[AS.reach]
  split
  ·exact vB n todo acc id h
  ·exact vB n _ _ id (aX.2 (.inl h))
theorem mK:∀(n:Nat) (todo acc:List Id),(∀id∈s.reach n todo acc,((t.bA id).getD .dead).ids=((s.bA id).getD .dead).ids)->t.reach n todo acc=s.reach n todo acc
 | 0,_,_,_=>rfl
 |_+1,[],_,_=>rfl
 |n+1,x::todo,acc,h=>by
  rw[AS.reach]at h
  rw[AS.reach,AS.reach]
  split
  ·rename_i hc
   rw[if_pos hc]at h
   exact mK n todo acc h
  ·rename_i hc
   rw[if_neg hc]at h
   have hx:=h x (vB n _ _ x (aX.2 (.inr (bD.2 rfl))))
   rw[hx]
   exact mK n _ _ h
theorem JH(e:Option c7):((e.map c7.D8).getD .dead).ids=(e.getD .dead).ids:=by
 cases e with
 |none=>rfl
 |some x=>cases x <;> rfl
theorem wL(ids:List Id)(n:Nat)(todo acc:List Id):(s.aP ids).reach n todo acc=s.reach n todo acc:=by
 refine mK n todo acc λid _=> ?_
 rw[ea]
 split
 ·exact JH _
 ·rfl
theorem sO:∀(ps:List (Option Ty)) (vs:List ao),(∀v∈vs,∀id∈v.ids,nQ (t.bA id) (s.bA id))->t.conv ps vs=s.conv ps vs
 |[],[],_=>rfl
 |[],_::_,_=>rfl
 |some _::_,[],_=>rfl
 |none::_,[],_=>rfl
 |some ty::ps,v::vs,h=>by
  simp only[AS.conv]
  rw[jM v ty (h v (aI ..)),sO ps vs λx hx=>h x (aH _ hx)]
 |none::ps,v::vs,h=>by
  simp only[AS.conv]
  rw[sO ps vs λx hx=>h x (aH _ hx)]
theorem sP:∀(ps:List (Option Ty)) (vs:List ao) (r:List ao×List Id),(s.conv ps vs).eval=some r->r.1.flatMap ao.ids=mj ps vs/\∀id∈r.2,∃v∈vs,id∈v.ids
 |[],[],r,h=>by
  simp only[AS.conv,ak]at h
  subst h
  exact⟨rfl,λ_ h=>by cases h⟩
 |some ty::ps,v::vs,r,h=>by
  simp only[AS.conv]at h
  obtain⟨x,h1,h2⟩:=ai.1 h
  obtain⟨r',h3,h4⟩:=ai.1 h2
  obtain rfl:=ak.1 h4
  obtain⟨i1,i2⟩:=sP ps vs r' h3
  refine⟨by simp[mj,i1,ao.ids],λid cI=> ?_⟩
  rcases aX.1 cI with cI | cI
  ·exact⟨v,aI ..,l9 v id cI⟩
  ·obtain⟨u,hu,BB⟩:=i2 id cI
   exact⟨u,aH _ hu,BB⟩
 |none::ps,v::vs,r,h=>by
  simp only[AS.conv]at h
  obtain⟨r',h3,h4⟩:=ai.1 h
  obtain rfl:=ak.1 h4
  obtain⟨i1,i2⟩:=sP ps vs r' h3
  refine⟨by simp[mj,i1],λid cI=> ?_⟩
  obtain⟨u,hu,BB⟩:=i2 id cI
  exact⟨u,aH _ hu,BB⟩
 |[],_::_,_,h=>by simp only[AS.conv,ag]at h
 |some _::_,[],_,h=>by simp only[AS.conv,ag]at h
 |none::_,[],_,h=>by simp only[AS.conv,ag]at h
theorem CB:∀(c:ao),∀v∈c.list,∀id∈v.ids,id∈c.ids
 | .cons a b,v,hv,id,cI=>by
  simp only[ao.list,b8]at hv
  simp only[ao.ids,aX]
  rcases hv with rfl | hv
  ·exact .inl cI
  ·exact .inr (CB b v hv id cI)
 | .sb _,_,h,_,_ | .undef,_,h,_,_ | .gone,_,h,_,_ | .c6,_,h,_,_ | .kY,_,h,_,_ | .mF,_,h,_,_ | .pk,_,h,_,_ | .d _ _,_,h,_,_ | .ptr ..,_,h,_,_ | .eW ..,_,h,_,_
 | .fn ..,_,h,_,_ | .pr ..,_,h,_,_ | .nil,_,h,_,_ | .vec ..,_,h,_,_ | .bx ..,_,h,_,_ | .kT ..,_,h,_,_ | .mp ..,_,h,_,_ | .la ..,_,h,_,_ | .yl ..,_,h,_,_ | .mV ..,_,h,_,_ | .cv ..,_,h,_,_=>by simp[ao.list]at h
theorem wx{ids:List Id}(h:∀id∈ids,t.bA id=s.bA id):t.mN ids=s.mN ids:=by
 funext id ver
 unfold AS.mN
 cases hi:idxOf id ids with
 |none=>rfl
 |some k=>
  have:t.obj id=s.obj id:=by simp only[AS.obj,h id (cr (kN hi))]
  rw[this]
theorem wA{id:Id}(h:t.bA id=s.bA id):t.o8 id=s.o8 id:=by simp only[AS.o8,AS.obj,h]
theorem uo{ids:List Id}(h:∀id∈ids,t.bA id=s.bA id)(q:Nat):t.l8 ids q=s.l8 ids q:=by
 funext id ver
 cases id with
 |new i j=>rfl
 |c8 k=>
  simp only[AS.l8]
  cases hk:ids[k]? with
  |none=>rfl
  |some id=>simp only[wA (h id (cr hk))]
theorem tG{ids:List Id}(h:∀id∈ids,t.bA id=s.bA id)(q b:Nat):t.kI ids q b=s.kI ids q b:=by
 funext e
 cases e <;> simp only[AS.kI,uo h]
theorem B8{ids:List Id}(h:∀id∈ids,t.bA id=s.bA id){id:Id}(cI:id∈ids):t.iX ids id=s.iX ids id:=by
 unfold AS.iX
 rw[h id cI,wx h]
def jn(s:AS)(ids:List Id)(d:Option Tmp)(G:iq):AS:=
 (AS.gf s ids (d.getD 0) (s.made ids (d.getD 0) G.news) ids G.bP).put d (G.val.fE (s.l8 ids (d.getD 0)))
theorem zI{ids:List Id}{d:Option Tmp}{G:iq}{s':AS}:(s.back ids d G).eval=some s'↔(G.bP.length=ids.length/\(G.news=[]\/∃q,d=some q/\s.dd q=true))/\s'=jn s ids d G:=by
 unfold AS.back
 cases d with
 |none=>
  rw[av,ak]
  simp only[ae,beq_iff_eq,List.isEmpty_iff,jn,AS.put,Option.getD_none]
  constructor
  ·rintro⟨⟨h1,h2⟩,rfl⟩
   rw[h2];exact⟨⟨h1,.inl rfl⟩,rfl⟩
  ·rintro⟨⟨h1,h2⟩,rfl⟩
   rcases h2 with h2 | ⟨q,hq,_⟩
   ·rw[h2];exact⟨⟨h1,rfl⟩,rfl⟩
   ·cases hq
 |some q=>
  rw[av,ak]
  simp only[ae,beq_iff_eq,fj,List.isEmpty_iff,jn,dH]
  constructor
  ·rintro⟨⟨h1,h2⟩,rfl⟩
   exact⟨⟨h1,h2.imp id λh=>⟨q,rfl,h⟩⟩,rfl⟩
  ·rintro⟨⟨h1,h2⟩,rfl⟩
   refine⟨⟨h1,h2.imp id λ⟨q',hq,h⟩=> ?_⟩,rfl⟩
   obtain rfl:q=q':=by simpa using hq
   exact h
theorem wb(s0:AS)(all:List Id)(q:Nat):∀(ids:List Id) (es:List c7) (s:AS),(AS.gf s0 all q s ids es).news.length=s.news.length
 |[],_,_=>by simp[AS.gf]
 |_::_,[],_=>by simp[AS.gf]
 |id::ids,e::es,s=>by rw[AS.gf,wb s0 all q ids es,sY]
theorem H5(s:AS)(ids:List Id)(q:Nat)(es:List c7):(s.made ids q es).news.length=s.news.length:=by
 cases es <;> simp[AS.made,AS.born]
def rK(ids:List Id)(d:Option Tmp)(G:iq)(id:Id):Prop:=id∈ids\/(G.news≠ []/\∃q j,d=some q/\id= .new q j)
theorem xg{ids:List Id}{d:Option Tmp}{G:iq}(hn:ids.Nodup)(hp:∀id∈ids,s.bA id≠none)(hl:G.bP.length=ids.length)(hv:G.news=[]\/∃q,d=some q/\s.dd q=true):
  (∀id,¬rK ids d G id->(jn s ids d G).bA id=s.bA id)/\
  (∀(k:Nat) (id:Id) (e:c7),ids[k]? =some id->G.bP[k]? =some e->(jn s ids d G).bA id=some (s.kI ids (d.getD 0) (s.o8 id) e))/\
  (∀q j,G.news≠ []->d=some q->(jn s ids d G).bA (.new q j)=(G.news[j]?).map (s.kI ids q 0))/\
  (∀q j,G.news≠ []->d=some q->s.bA (.new q j)=none):=by
 have hv':G.news=[]\/s.dd (d.getD 0)=true:=by
  rcases hv with h | ⟨q,rfl,h⟩
  ·exact .inl h
  ·exact .inr h
 obtain⟨m1,m2⟩:=B9 s ids (d.getD 0) G.news hv'
 have Ky:∀q j,G.news≠ []->d=some q->s.bA (.new q j)=none:=λq j h1 h2=>by
  rcases hv' with h | h
  ·exact absurd h h1
  ·subst h2;exact(oM.1 h).2 j
 have rS:∀id,s.bA id≠none->G.news=[]\/∀j,id≠ .new (d.getD 0) j:=λid cI=>by
  rcases hv with h | ⟨q,rfl,h⟩
  ·exact .inl h
  ·exact .inr λj e=>cI (by rw[e];exact(oM.1 h).2 j)
 obtain⟨n1,n2⟩:=qI s ids (d.getD 0) ids G.bP (s.made ids (d.getD 0) G.news) hn hl (λid cI=>by rw[m1 id (rS id (hp id cI))];exact hp id cI)
 refine⟨λid cI=> ?_,λk id e h1 h2=> ?_,λq j h1 h2=> ?_,Ky⟩
 ·unfold rK at cI
  simp only[not_or]at cI
  rw[jn,rz,n1 id cI.1]
  refine m1 id ?_
  by_cases fL:G.news=[]
  ·exact .inl fL
  ·right
   intro j e
   rcases hv with h | ⟨q,hq,_⟩
   ·exact fL h
   ·exact cI.2 ⟨fL,q,j,hq,by rw[e,hq];rfl⟩
 ·rw[jn,rz,n2 k id e h1 h2]
 ·subst h2
  have P2:Id.new q j ∉ ids:=λcI=>hp _ cI (Ky q j h1 rfl)
  rw[jn,rz,n1 _ P2]
  exact m2 h1 j
open Classical in
theorem DQ{c:Call}{F:Operand}{f:FuncId}{caps:ao}{en:Entry}(cJ:o.op= .call c)(hc:c.callee= .value F)(hF:s.ev F= .fn f caps)(hΓ:Γ f (c.args.toList.map s.ev++caps.list)=some en)(gO:Nat.blt f yB=true){s':AS}
  (he:(s.call en o.dst (c.args.toList.map s.ev++caps.list)).eval=some s'):tz P Γ bk ops o s s':=by
 have pd:∀z,z=F\/z∈c.args.toList->z∈o.op.operands.toList:=λz hz=>by
  rw[cJ]
  simp only[Op.operands,Call.operands,hc,bp,aX]
  rcases hz with rfl | hz
  ·exact .inl (by simp)
  ·exact .inr hz
 have HS:∀v∈c.args.toList.map s.ev++caps.list,∀id∈v.ids,id∈(eZ Γ ops s o).rs:=λv hv id cI=>by
  rcases aX.1 hv with hv | hv
  ·obtain⟨x,hx,rfl⟩:=cU.1 hv
   exact sW (An cJ rfl) (pd x (.inr hx)) cI
  ·refine sW (An cJ rfl) (pd F (.inl rfl)) ?_
   rw[hF]
   exact CB caps v hv id cI
 generalize tP:c.args.toList.map s.ev++caps.list=vs at he HS hΓ
 have I2:(eZ Γ ops s o).ws=s.reach 64 (mj en.params vs) []:=by
  show writes Γ s o=_
  unfold writes
  rw[cJ]
  simp only[hc,hF,tP,hΓ]
 have z8:∀t,iF (eZ Γ ops s o) s t->j4 P Γ bk o t=t.call en o.dst vs:=λt ht=>by
  unfold j4
  rw[cJ]
  have h1:t.ev F= .fn f caps:=by rw[ht.ev (pd F (.inl rfl)),hF]
  have h2:c.args.toList.map t.ev=c.args.toList.map s.ev:=fi λx hx=>ht.ev (pd x (.inr hx))
  obtain⟨cal,args,tys⟩:=c
  simp only at hc tP h2
  subst hc
  simp only[h1,h2,tP,hΓ,gO,Out.guard]
 unfold AS.call at he
 obtain⟨r,h1,h2⟩:=ai.1 he
 obtain⟨LZ,Ef⟩:=sP _ _ r h1
 have hlends:∀t:AS,(t.aP r.2).Fo r.1=t.reach 64 (mj en.params vs) []:=λt=>by
  unfold AS.Fo
  rw[wL,LZ]
 rw[hlends]at h2
 generalize hW:s.reach 64 (mj en.params vs) []=W at h2 I2
 have hWn:W.Nodup:=by rw[<-hW];exact mL s _ _ _ (by simp)
 unfold AS.enter at h2
 obtain⟨pM,h3⟩:=av.1 h2
 obtain⟨x,hx,h4⟩:=mB.1 h3
 obtain⟨x0,Ob,h4⟩:=ai.1 h4
 have Qr:=en.KS _ _ Ob
 rw[Qr]at h4 Ob
 obtain⟨⟨hl,hv⟩,rfl⟩:=zI.1 h4
 generalize hG:en.out (r.1.map (ao.fE ((s.aP r.2).mN W))) (W.map ((s.aP r.2).iX W)) x=G at hl hv h4 ⊢
 have hp:∀id∈W,(s.aP r.2).bA id≠none:=λid cI=>by
  have:=(ae _ _▸cG.1 pM id cI).1
  obtain⟨⟨v,fr,c⟩,hr⟩:=bz.1 this
  rw[dj hr];simp
 obtain⟨b1,b2,b3,b4⟩:=xg (s:=s.aP r.2) (d:=o.dst) hWn hp hl hv
 have hfzent:∀(u:AS) id,u.bA id=none↔(u.aP r.2).bA id=none:=λu id=>by
  rw[ea];split <;> simp
 let E:MD:=⟨G.val.fE ((s.aP r.2).l8 W (o.dst.getD 0)),λid=>if rK W o.dst G id then(jn (s.aP r.2) W o.dst G).bA id else none,r.2⟩
 have hslots:∀u:AS,(jn (u.aP r.2) W o.dst G).bK=(u.put o.dst (G.val.fE ((u.aP r.2).l8 W (o.dst.getD 0)))).bK:=λu=>by
  unfold jn
  cases o.dst <;> simp[AS.put,pt,yL,je]
 have hlen:∀u:AS,(jn (u.aP r.2) W o.dst G).news.length=u.news.length:=λu=>by
  unfold jn
  cases o.dst <;> simp[AS.put,wb,H5,kj]
 refine⟨E,⟨hslots s,hlen s,λid=> ?_⟩,⟨λid e wH=> ?_,λid cI=> ?_⟩,λt ht=> ?_⟩
 ·by_cases y7:rK W o.dst G id
  ·have wH:E.up id=(jn (s.aP r.2) W o.dst G).bA id:=if_pos y7
   rw[wH]
   cases hb:(jn (s.aP r.2) W o.dst G).bA id with
   |some e=>rfl
   |none=>
    rcases y7 with cI | ⟨fL,q,j,hq,rfl⟩
    ·obtain⟨k,hk⟩:=gI.1 cI
     have gO:k < G.bP.length:=by rw[hl];exact(cT.1 hk).1
     rw[b2 k id _ hk (bO gO)]at hb
     cases hb
    ·have:=(hfzent s _).2 (b4 q j fL hq)
     simp[this]
  ·have wH:E.up id=none:=if_neg y7
   rw[wH,b1 id y7,ea]
 ·by_cases y7:rK W o.dst G id
  ·rcases y7 with cI | ⟨_,q,j,hq,rfl⟩
   ·left
    refine⟨by rw[I2];exact cI,λh=>hp id cI ((hfzent s id).1 h)⟩
   ·exact .inr ⟨q,j,hq,rfl⟩
  ·have:E.up id=none:=if_neg y7
   rw[this]at wH;cases wH
 ·obtain⟨v,hv,cI⟩:=Ef id cI
  exact HS v hv id cI
 ·have NC:t.conv en.params vs=s.conv en.params vs:=sO _ _ λv hv id cI=>ht.rs id (HS v hv id cI)
  have tx:∀id∈W,t.bA id=s.bA id:=λid cI=>ht.ws id (by rw[I2];exact cI)
  have Cm:∀id∈W,(t.aP r.2).bA id=(s.aP r.2).bA id:=λid cI=>by
   rw[ea,ea,tx id cI]
  have hWt:t.reach 64 (mj en.params vs) []=W:=by
   rw[<-hW]
   refine mK _ _ _ λid cI=> ?_
   rw[tx id (by rw[<-hW];exact cI)]
  have Oa:G.news=[]\/∃q,o.dst=some q/\(t.aP r.2).dd q=true:=hv.imp id λ⟨q,hq,h⟩=>⟨q,hq,by
   rw[mc]at h ⊢
   rw[ht.dd q hq];exact h⟩
  have MS:∀id∈W,(t.aP r.2).bA id≠none:=λid cI=>by rw[Cm id cI];exact hp id cI
  obtain⟨d1,d2,d3,d4⟩:=xg (s:=t.aP r.2) (d:=o.dst) hWn MS hl Oa
  refine⟨jn (t.aP r.2) W o.dst G,?_,⟨?_,hlen t,λid=> ?_⟩⟩
  ·rw[z8 t ht]
   unfold AS.call
   rw[NC]
   refine ai.2 ⟨r,h1,?_⟩
   rw[hlends,hWt]
   unfold AS.enter
   have hA:(t.aP r.2).mN W=(s.aP r.2).mN W:=wx Cm
   have hO:W.map ((t.aP r.2).iX W)=W.map ((s.aP r.2).iX W):=fi λid cI=>B8 Cm cI
   refine av.2 ⟨?_,mB.2 ⟨x,?_,ai.2 ⟨x,Ob,?_⟩⟩⟩
   ·refine cG.2 λid cI=> ?_
    have:=cG.1 pM id cI
    simp only[AS.obj,AS.xU]at this ⊢
    rw[Cm id cI]
    exact this
   ·rw[hA,hO,<-hx]
   ·rw[hA,hO,hG]
    exact zI.2 ⟨⟨hl,Oa⟩,rfl⟩
  ·rw[hslots t,uo Cm]
  ·by_cases y7:rK W o.dst G id
   ·have wH:E.up id=(jn (s.aP r.2) W o.dst G).bA id:=if_pos y7
    rw[wH]
    rcases y7 with cI | ⟨fL,q,j,hq,rfl⟩
    ·obtain⟨k,hk⟩:=gI.1 cI
     have gO:k < G.bP.length:=by rw[hl];exact(cT.1 hk).1
     rw[b2 k id _ hk (bO gO),d2 k id _ hk (bO gO),tG Cm,wA (Cm id cI)]
    ·rw[b3 q j fL hq,d3 q j fL hq,tG Cm]
     cases hn:G.news[j]? with
     |some e=>rfl
     |none=>
      have:=(hfzent t _).2 (d4 q j fL hq)
      simp[this]
   ·have wH:E.up id=none:=if_neg y7
    rw[wH,d1 id y7,ea]
end
end Go.Ab
namespace Go.Ab
section
variable {P:Program} {Γ:mU} {bk:List Nat} {ops:Array Oper} {o:Oper} {s t:AS}
theorem Out.bind_assoc{α β γ:Type}(o:Out α)(f:α->Out β)(g:β->Out γ):(o.bind f).bind g=o.bind λa=>(f a).bind g:=by
 induction o with
 |ok a=>rfl
 |fail=>rfl
 |lN c r ih=>simp only[Out.bind,ih]
 |get x h ih=>simp only[Out.bind,ih]
 |br c x y ih1 ih2=>simp only[Out.bind,ih1,ih2]
theorem CW{parts:Array (Nat×Operand)}{x:Nat×Operand}(h:x∈parts.toList):x.2∈(parts.toList.map (·.2)).toArray.toList:=cU.2 ⟨x,h,rfl⟩
theorem FR{T:TypeId}{x:Operand}(cJ:o.op= .box T x){s':AS}(he:(BS P s (isObj bk o.dst) (Ej bk o.dst) o.dst T (s.ev x)).eval=some s'):tz P Γ bk ops o s s':=by
 have z8:∀t,j4 P Γ bk o t=BS P t (isObj bk o.dst) (Ej bk o.dst) o.dst T (t.ev x):=λt=>by unfold j4;rw[cJ]
 have hm:x∈o.op.operands.toList:=by rw[cJ];simp[Op.operands]
 unfold BS at he
 split at he
 ·rename_i q hd
  split at he
  ·rename_i ho
   obtain⟨h1,h2⟩:=av.1 he
   obtain rfl:=ak.1 h2
   simp only[ae]at h1
   refine ov (ids:=[]) hd h1.1 (λ_ h=>by cases h) λt ht hv=> ?_
   rw[z8,ht.ev hm]
   unfold BS
   simp only[hd]at ho ⊢
   simp only[ho]
   exact av.2 ⟨by simp[hv,h1.2],ak.2 rfl⟩
  ·rename_i ho
   split at he
   ·rename_i ty N6
    obtain⟨h1,h2⟩:=av.1 he
    obtain⟨y,h3,h4⟩:=ai.1 h2
    obtain rfl:=ak.1 h4
    refine wY (λid cI=>sW (An cJ rfl) hm (l9 _ _ cI)) λt ht=> ?_
    rw[z8,ht.ev hm]
    unfold BS
    simp only[hd]at ho ⊢
    simp only[ho,N6]
    refine av.2 ⟨h1,ai.2 ⟨y,?_,ak.2 rfl⟩⟩
    rw[jM _ _ λid cI=>ht.BD (An cJ rfl) hm cI];exact h3
   ·simp only[ag]at he
 ·simp only[ag]at he
theorem Dp{T:TypeId}{x:Operand}(cJ:o.op= .sliceToArrayPointer T x){s':AS}(he:(tn P s o.dst T (s.ev x)).eval=some s'):tz P Γ bk ops o s s':=by
 have z8:∀t,j4 P Γ bk o t=tn P t o.dst T (t.ev x):=λt=>by unfold j4;rw[cJ]
 have hm:x∈o.op.operands.toList:=by rw[cJ];simp[Op.operands]
 unfold tn at he
 split at he
 ·rename_i n e hT
  split at he
  ·rename_i ty N6
   obtain⟨h1,h2⟩:=av.1 he
   obtain⟨l,h3,h4⟩:=ai.1 h2
   obtain⟨h5,h6⟩:=bl.1 h4
   obtain rfl:=ak.1 h6
   refine wY (λid cI=>sW (An cJ rfl) hm (l9 _ _ cI)) λt ht=> ?_
   rw[z8,ht.ev hm]
   unfold tn
   simp only[hT,N6]
   refine av.2 ⟨h1,ai.2 ⟨l,?_,bl.2 ⟨h5,ak.2 rfl⟩⟩⟩
   rw[jM _ _ λid cI=>ht.BD (An cJ rfl) hm cI];exact h3
  ·simp only[ag]at he
 ·simp only[ag]at he
theorem BU{T:TypeId}{parts:Array (Nat×Operand)}(cJ:o.op= .build T parts){s':AS}(he:(qD P s o.dst T parts.toList).eval=some s'):tz P Γ bk ops o s s':=by
 have z8:∀t,j4 P Γ bk o t=qD P t o.dst T parts.toList:=λt=>by unfold j4;rw[cJ]
 have hm:∀x∈parts.toList,x.2∈o.op.operands.toList:=λx hx=>by rw[cJ];exact CW hx
 unfold qD at he
 split at he
 ·rename_i fs hT
  split at he
  ·rename_i z hz
   obtain⟨h1,h2⟩:=av.1 he
   obtain⟨v,h3,h4⟩:=ai.1 h2
   obtain rfl:=ak.1 h4
   refine il λt ht=> ?_
   rw[z8]
   unfold qD
   simp only[hT,hz]
   refine av.2 ⟨h1,ai.2 ⟨v,?_,ak.2 rfl⟩⟩
   rw[qn _ _ λx hx=>ht.ev (hm x hx)];exact h3
  ·simp only[ag]at he
 ·rename_i n e hT
  split at he
  ·rename_i ty N6
   obtain⟨h1,h2⟩:=av.1 he
   obtain⟨r,h3,h4⟩:=ai.1 h2
   obtain rfl:=ak.1 h4
   refine wY (λid cI=> ?_) λt ht=> ?_
   ·obtain⟨x,hx,hi⟩:=nf _ _ _ h3 id cI
    exact sW (An cJ rfl) (hm x hx) hi
   ·rw[z8]
    unfold qD
    simp only[hT,N6]
    refine av.2 ⟨h1,ai.2 ⟨r,?_,ak.2 rfl⟩⟩
    rw[oF _ _ λx hx=>⟨ht.ev (hm x hx),λid cI=>ht.BD (An cJ rfl) (hm x hx) cI⟩];exact h3
  ·simp only[ag]at he
 ·simp only[ag]at he
theorem uX{T:TypeId}{n:Nat}{parts:Array (Nat×Operand)}(cJ:o.op= .buildSlice T n parts){s':AS}(he:(iJ P s (Gm bk o.dst) (isObj bk o.dst) o.dst T n parts.toList).eval=some s'):tz P Γ bk ops o s s':=by
 have z8:∀t,j4 P Γ bk o t=iJ P t (Gm bk o.dst) (isObj bk o.dst) o.dst T n parts.toList:=λt=>by unfold j4;rw[cJ]
 have hm:∀x∈parts.toList,x.2∈o.op.operands.toList:=λx hx=>by rw[cJ];exact CW hx
 unfold iJ at he
 split at he
 ·rename_i e ty b q rR hd
  obtain⟨h1,h2⟩:=av.1 he
  obtain⟨r,h3,h4⟩:=ai.1 h2
  have HO:∀id∈r.2,id∈(eZ Γ ops s o).rs:=λid cI=>by
   obtain⟨x,hx,hi⟩:=nf _ _ _ h3 id cI
   exact sW (An cJ rfl) (hm x hx) hi
  have NC:∀t,iF (eZ Γ ops s o) s t->∀l,fV ty t parts.toList l=fV ty s parts.toList l:=λt ht l=>oF _ _ λx hx=>⟨ht.ev (hm x hx),λid cI=>ht.BD (An cJ rfl) (hm x hx) cI⟩
  split at h4
  ·rename_i ho
   obtain⟨h5,h6⟩:=av.1 h4
   obtain rfl:=ak.1 h6
   refine ov hd h5 HO λt ht hv=> ?_
   rw[z8]
   unfold iJ
   simp only[hd]at ho rR ⊢
   simp only[rR,ho]
   refine av.2 ⟨h1,ai.2 ⟨r,by rw[NC t ht];exact h3,av.2 ⟨hv,ak.2 rfl⟩⟩⟩
  ·rename_i ho
   obtain rfl:=ak.1 h4
   refine wY HO λt ht=> ?_
   rw[z8]
   unfold iJ
   simp only[hd]at ho rR ⊢
   simp only[rR,ho]
   exact av.2 ⟨h1,ai.2 ⟨r,by rw[NC t ht];exact h3,ak.2 rfl⟩⟩
 ·simp only[ag]at he
theorem wJ{T:TypeId}{x y:Operand}(cJ:o.op= .makeSlice T x y){len cap:Int}(hx:(asInt (s.ev x)).eval=some len)(hy:(asInt (s.ev y)).eval=some cap){s':AS}(he:(kS P s o.dst T len cap).eval=some s'):tz P Γ bk ops o s s':=by
 have z8:∀t,j4 P Γ bk o t=(asInt (t.ev x)).bind λl=>(asInt (t.ev y)).bind λc=>kS P t o.dst T l c:=λt=>by unfold j4;rw[cJ]
 have hm:∀z,z=x\/z=y->z∈o.op.operands.toList:=λz hz=>by rw[cJ];simpa[Op.operands]using hz
 unfold kS at he
 split at he
 ·rename_i e ty b q rR hd
  obtain⟨h1,h2⟩:=av.1 he
  obtain⟨h3,h4⟩:=bl.1 h2
  obtain rfl:=ak.1 h4
  refine ov (ids:=[]) hd h1 (λ_ h=>by cases h) λt ht hv=> ?_
  rw[z8,ht.ev (hm x (.inl rfl)),ht.ev (hm y (.inr rfl))]
  refine ai.2 ⟨len,hx,ai.2 ⟨cap,hy,?_⟩⟩
  unfold kS
  simp only[rR,hd]
  exact av.2 ⟨hv,bl.2 ⟨h3,ak.2 rfl⟩⟩
 ·simp only[ag]at he
theorem Be{id:Id}{ver:Nat}{kt vt:Ty}(h:nQ (t.bA id) (s.bA id)):t.lC id ver kt vt=s.lC id ver kt vt:=by
 unfold AS.lC
 rcases uE h with⟨h1,h2⟩ | ⟨v,f,f',c,h1,h2⟩
 ·rw[h1,h2]
 ·rw[h1,h2]
  cases c <;> rfl
theorem zj{T:TypeId}{m k:ao}{ok:Bool}(h:∀id∈m.ids,nQ (t.bA id) (s.bA id)):pP P t T m k ok=pP P s T m k ok:=by
 unfold pP
 split
 ·rename_i id ver hm
  rw[Be (h id (by simp[ao.ids]))]
 ·rfl
theorem Ag{id:Id}{ver:Nat}{kt vt:Ty}{l:List (kt.den×vt.den)}(h:(s.lC id ver kt vt).eval=some l):∃e,s.bA id=some e:=by
 unfold AS.lC at h
 split at h
 ·rename_i v fr k' v' l' ia
  exact⟨_,dj ia⟩
 ·simp only[ag]at h
theorem we{id:Id}{ver:Nat}{kt vt:Ty}(h:t.bA id=s.bA id):t.lC id ver kt vt=s.lC id ver kt vt:=by
 unfold AS.lC AS.obj
 rw[h]
theorem sC{id:Id}(h:t.bA id=s.bA id):t.lK id=s.lK id:=by
 unfold AS.lK AS.obj
 rw[h]
theorem zm{T:TypeId}{m k v:ao}{s':AS}(h:(pT P s T m k v).eval=some s'):
  ∃id e0 e,m.ids=[id]/\s.bA id=some e0/\s'=s.aD id e/\∀t:AS,t.bA id=s.bA id->(pT P t T m k v).eval=some (t.aD id e):=by
 unfold pT at h
 split at h
 ·rename_i K V kt vt id ver hm
  obtain⟨l,h1,h⟩:=ai.1 h
  obtain⟨kx,h2,h⟩:=ai.1 h
  obtain⟨vx,h3,h⟩:=ai.1 h
  obtain⟨hu,h⟩:=av.1 h
  obtain rfl:=ak.1 h
  obtain⟨e0,BA⟩:=Ag h1
  refine⟨id,e0,_,rfl,BA,rfl,λt ht=> ?_⟩
  unfold pT
  simp only[hm]
  exact ai.2 ⟨l,by rw[we ht];exact h1,ai.2 ⟨kx,h2,ai.2 ⟨vx,h3,av.2 ⟨by rw[sC ht];exact hu,ak.2 rfl⟩⟩⟩⟩
 ·simp only[ag]at h
theorem zl{T:TypeId}{m k:ao}{s':AS}(h:(pS P s T m k).eval=some s'):
  ∃id e0 e,m.ids=[id]/\s.bA id=some e0/\s'=s.aD id e/\∀t:AS,t.bA id=s.bA id->(pS P t T m k).eval=some (t.aD id e):=by
 unfold pS at h
 split at h
 ·rename_i K V kt vt id ver hm
  obtain⟨l,h1,h⟩:=ai.1 h
  obtain⟨kx,h2,h⟩:=ai.1 h
  obtain⟨hu,h⟩:=av.1 h
  obtain rfl:=ak.1 h
  obtain⟨e0,BA⟩:=Ag h1
  refine⟨id,e0,_,rfl,BA,rfl,λt ht=> ?_⟩
  unfold pS
  simp only[hm]
  exact ai.2 ⟨l,by rw[we ht];exact h1,ai.2 ⟨kx,h2,av.2 ⟨by rw[sC ht];exact hu,ak.2 rfl⟩⟩⟩
 ·simp only[ag]at h
theorem zG{s':AS}(he:(j4 P Γ bk o s).eval=some s'):tz P Γ bk ops o s s':=by
 have BA:=he
 have one:∀x,o.op.operands= #[x]->∀t,iF (eZ Γ ops s o) s t->t.ev x=s.ev x/\(Aj o.op=false->∀id∈(s.ev x).ids,nQ (t.bA id) (s.bA id)):=λx hx t ht=>
  have hm:x∈o.op.operands.toList:=by rw[hx];simp
  ⟨ht.ev hm,λhn _ cI=>ht.BD hn hm cI⟩
 unfold j4 at he
 split at he
 ·rename_i x cJ
  obtain rfl:=ak.1 he
  refine il λt ht=> ?_
  unfold j4
  rw[cJ]
  simp only
  rw[(one x (by rw[cJ];rfl) t ht).1];rfl
 ·rename_i x cJ
  obtain rfl:=ak.1 he
  refine il λt ht=> ?_
  unfold j4
  rw[cJ]
  simp only
  rw[(one x (by rw[cJ];rfl) t ht).1];rfl
 ·rename_i c x y cJ
  refine jw (F:=λt=>Fz (t.ev c) (t.ev x) (t.ev y)) (λt=>by unfold j4;rw[cJ]) (λt ht=> ?_) BA
  rw[ht.ev (by rw[cJ];simp[Op.operands]),ht.ev (by rw[cJ];simp[Op.operands]),ht.ev (by rw[cJ];simp[Op.operands])]
 ·rename_i T cJ
  split at he
  ·rename_i z q hz hq
   obtain⟨h1,h2⟩:=av.1 he
   obtain rfl:=ak.1 h2
   simp only[ae]at h1
   refine ov (ids:=[]) hq h1.1 (λ_ h=>by cases h) λt ht hv=> ?_
   unfold j4
   rw[cJ]
   simp only[hz,hq]
   exact av.2 ⟨by simp[hv,h1.2],ak.2 rfl⟩
  ·exact(ag.1 he).elim
 ·rename_i T x cJ
  exact FR cJ he
 ·rename_i T parts cJ
  exact BU cJ he
 ·rename_i T n parts cJ
  exact uX cJ he
 ·rename_i T x cJ
  refine jw (F:=λt=>tW P t T (t.ev x)) (λt=>by unfold j4;rw[cJ]) (λt ht=> ?_) BA
  obtain⟨h1,h2⟩:=one x (by rw[cJ];rfl) t ht
  rw[h1,CC (h2 (An cJ rfl))]
 ·rename_i T x v cJ
  obtain⟨s1,h1,h2⟩:=ai.1 he
  obtain rfl:=ak.1 h2
  obtain⟨id,e0,e,cI,hs,rfl,hl⟩:=Bq h1
  refine pO hs ?_ λt ht Gh=> ?_
  ·show id∈writes Γ s o
   unfold writes
   rw[cJ]
   simp only[cI,bD]
  ·unfold j4
   rw[cJ]
   simp only
   rw[ht.ev (x:=x) (by rw[cJ];simp[Op.operands]),ht.ev (x:=v) (by rw[cJ];simp[Op.operands])]
   exact ai.2 ⟨_,hl t Gh,ak.2 rfl⟩
 ·rename_i x cJ
  split at he
  ·rename_i id v p n hx
   obtain rfl:=ak.1 he
   refine il λt ht=> ?_
   unfold j4
   rw[cJ]
   simp only[(one x (by rw[cJ];rfl) t ht).1,hx];rfl
  ·rename_i ty y hx
   obtain rfl:=ak.1 he
   refine il λt ht=> ?_
   unfold j4
   rw[cJ]
   simp only[(one x (by rw[cJ];rfl) t ht).1,hx];rfl
  ·rename_i ty y hx
   obtain⟨z,e,he⟩:=mB.1 he
   obtain rfl:=ak.1 he
   refine il λt ht=> ?_
   unfold j4
   rw[cJ]
   simp only[(one x (by rw[cJ];rfl) t ht).1,hx]
   exact mB.2 ⟨z,e,ak.2 rfl⟩
  ·rename_i f c hx
   obtain rfl:=ak.1 he
   refine il λt ht=> ?_
   unfold j4
   rw[cJ]
   simp only[(one x (by rw[cJ];rfl) t ht).1,hx];rfl
  ·exact(ag.1 he).elim
 ·rename_i op T x y U cJ
  have HM:x∈o.op.operands.toList:=by rw[cJ];simp[Op.operands]
  have MQ:y∈o.op.operands.toList:=by rw[cJ];simp[Op.operands]
  split at he
  ·rename_i i v1 j v2 hx hy
   obtain⟨v,h1,h2⟩:=ai.1 he
   obtain rfl:=ak.1 h2
   refine il λt ht=> ?_
   unfold j4
   rw[cJ]
   simp only[ht.ev HM,ht.ev MQ,hx,hy]
   exact ai.2 ⟨v,by rw[F1 (ht.BD (An cJ rfl) HM (by rw[hx];simp[ao.ids]))];exact h1,rfl⟩
  ·rename_i fL
   obtain⟨v,h1,h2⟩:=ai.1 he
   obtain rfl:=ak.1 h2
   refine il λt ht=> ?_
   unfold j4
   rw[cJ]
   simp only[ht.ev HM,ht.ev MQ]
   exact ai.2 ⟨v,h1,rfl⟩
 ·rename_i op T x cJ
  refine jw (F:=λt=>O2 op (t.ev x)) (λt=>by unfold j4;rw[cJ]) (λt ht=> ?_) BA
  rw[(one x (by rw[cJ];rfl) t ht).1]
 ·rename_i T U x cJ
  split at he
  ·rename_i id ver len hTU hx
   unfold B1 at he
   split at he
   ·rename_i v e0 l e ia hD
    split at he
    ·rename_i hE
     obtain⟨h1,h2⟩:=av.1 he
     obtain⟨h3,h4⟩:=bl.1 h2
     obtain rfl:=ak.1 h4
     refine pO (dj ia) ?_ λt ht Gh=> ?_
     ·show id∈writes Γ s o
      unfold writes
      rw[cJ]
      simp only[hTU,hx]
      simp[ao.ids]
     ·have hob':t.obj id=some (v,false,.vec e0 (.int .u8) l):=by simp only[AS.obj,Gh];exact ia
      unfold j4
      rw[cJ]
      simp only[hTU,(one x (by rw[cJ];rfl) t ht).1,hx]
      unfold B1
      simp only[hob',hD,hE]
      exact av.2 ⟨h1,bl.2 ⟨h3,ak.2 rfl⟩⟩
    ·exact(ag.1 he).elim
   ·exact(ag.1 he).elim
  ·rename_i id ver hx
   obtain⟨v,h1,h2⟩:=ai.1 he
   obtain rfl:=ak.1 h2
   refine il λt ht=> ?_
   obtain⟨h3,h4⟩:=one x (by rw[cJ];rfl) t ht
   unfold j4
   rw[cJ]
   simp only[h3,hx]
   exact ai.2 ⟨v,by rw[B4 (h4 (An cJ rfl) _ (by rw[hx];simp[ao.ids]))];exact h1,rfl⟩
  ·rename_i fL
   obtain⟨v,h1,h2⟩:=ai.1 he
   obtain rfl:=ak.1 h2
   refine il λt ht=> ?_
   obtain⟨h3,h4⟩:=one x (by rw[cJ];rfl) t ht
   unfold j4
   rw[cJ]
   simp only[h3]
   exact ai.2 ⟨v,by rw[B0 (h4 (An cJ rfl))];exact h1,rfl⟩
 ·rename_i T x cJ
  exact Dp cJ he
 ·rename_i f first caps cJ
  obtain⟨h1,h2⟩:=av.1 he
  obtain rfl:=ak.1 h2
  refine il λt ht=> ?_
  have hc:kH t caps.toList=kH s caps.toList:=tE _ λx hx=>ht.ev (by rw[cJ];simp only[Op.operands,bp];exact aX.2 (.inr hx))
  unfold j4
  rw[cJ]
  simp only[hc]
  exact av.2 ⟨h1,ak.2 rfl⟩
 ·rename_i T l c cJ
  obtain⟨n,h1,h2⟩:=ai.1 he
  obtain⟨m,h3,h4⟩:=ai.1 h2
  exact wJ cJ h1 h3 h4
 ·rename_i T x lo hi cJ
  refine jw (F:=λt=>re P t T (t.ev x) lo hi) (λt=>by unfold j4;rw[cJ]) (λt ht=> ?_) BA
  have hm:∀z,(z=x\/lo=some z\/hi=some z)->z∈o.op.operands.toList:=λz hz=>by
   rw[cJ]
   simp only[Op.operands,bp,aX]
   rcases hz with rfl | rfl | rfl
   ·left;left;left;simp
   ·left;left;right;simp
   ·left;right;simp
  have hx:=hm x (.inl rfl)
  rw[ht.ev hx]
  exact uH (λid cI=>ht.BD (An cJ rfl) hx cI) (λy hy=>ht.ev (hm y (.inr (.inl hy)))) (λy hy=>ht.ev (hm y (.inr (.inr hy))))
 ·rename_i T x lo y m cJ
  refine jw (F:=λt=>uG P t T (t.ev x) lo y m) (λt=>by unfold j4;rw[cJ]) (λt ht=> ?_) BA
  have hm:∀z,(z=x\/lo=some z\/y=z\/m=z)->z∈o.op.operands.toList:=λz hz=>by
   rw[cJ]
   simp only[Op.operands,bp,aX]
   rcases hz with rfl | rfl | rfl | rfl
   ·left;left;left;simp
   ·left;left;right;simp
   ·left;right;simp
   ·right;simp
  have hx:=hm x (.inl rfl)
  rw[ht.ev hx]
  exact zw (λid cI=>ht.BD (An cJ rfl) hx cI) (λz hz=>ht.ev (hm z (.inr (.inl hz)))) (ht.ev (hm y (.inr (.inr (.inl rfl))))) (ht.ev (hm m (.inr (.inr (.inr rfl)))))
 ·rename_i T x f cJ
  refine jw (F:=λt=>pL P T (t.ev x) f) (λt=>by unfold j4;rw[cJ]) (λt ht=> ?_) BA
  rw[(one x (by rw[cJ];rfl) t ht).1]
 ·rename_i T x f cJ
  refine jw (F:=λt=>AW P T (t.ev x) f) (λt=>by unfold j4;rw[cJ]) (λt ht=> ?_) BA
  rw[(one x (by rw[cJ];rfl) t ht).1]
 ·rename_i T x i cJ
  refine jw (F:=λt=>(asInt (t.ev i)).bind λi=>kO P t T (t.ev x) i) (λt=>by unfold j4;rw[cJ,Out.bind_assoc]) (λt ht=> ?_) BA
  have hx:x∈o.op.operands.toList:=by rw[cJ];simp[Op.operands]
  rw[ht.ev (x:=i) (by rw[cJ];simp[Op.operands]),ht.ev hx]
  congr 1
  funext i
  exact vh λid cI=>ht.BD (An cJ rfl) hx cI
 ·rename_i T x i cJ
  refine jw (F:=λt=>(asInt (t.ev i)).bind λi=>A8 P T (t.ev x) i) (λt=>by unfold j4;rw[cJ,Out.bind_assoc]) (λt ht=> ?_) BA
  rw[ht.ev (x:=i) (by rw[cJ];simp[Op.operands]),ht.ev (x:=x) (by rw[cJ];simp[Op.operands])]
 ·rename_i x i cJ
  refine jw (F:=λt=>Out.opt ((t.ev x).list[i]?)) (λt=>by unfold j4;rw[cJ]) (λt ht=> ?_) BA
  rw[(one x (by rw[cJ];rfl) t ht).1]
 ·rename_i T cJ
  have tN:=he
  unfold qS at tN
  split at tN
  ·rename_i K V kt vt q hm hd
   obtain⟨h1,h2⟩:=av.1 tN
   obtain rfl:=ak.1 h2
   refine ov (ids:=[]) hd h1 (λ_ h=>by cases h) λt ht hv=> ?_
   unfold j4
   rw[cJ]
   simp only
   unfold qS
   simp only[hm,hd]
   exact av.2 ⟨hv,ak.2 rfl⟩
  ·exact(ag.1 tN).elim
 ·rename_i T x i ok cJ
  refine jw (F:=λt=>pP P t T (t.ev x) (t.ev i) ok) (λt=>by unfold j4;rw[cJ]) (λt ht=> ?_) BA
  have hx:x∈o.op.operands.toList:=by rw[cJ];simp[Op.operands]
  rw[ht.ev (x:=i) (by rw[cJ];simp[Op.operands]),ht.ev hx]
  exact zj λid cI=>ht.BD (An cJ rfl) hx cI
 ·rename_i T m k x cJ
  obtain⟨s1,h1,h2⟩:=ai.1 he
  obtain rfl:=ak.1 h2
  obtain⟨id,e0,e,cI,hs,rfl,hl⟩:=zm h1
  refine pO hs ?_ λt ht Gh=> ?_
  ·show id∈writes Γ s o
   unfold writes
   rw[cJ]
   simp only[cI,bD]
  ·unfold j4
   rw[cJ]
   simp only
   rw[ht.ev (x:=m) (by rw[cJ];simp[Op.operands]),ht.ev (x:=k) (by rw[cJ];simp[Op.operands]),ht.ev (x:=x) (by rw[cJ];simp[Op.operands])]
   exact ai.2 ⟨_,hl t Gh,ak.2 rfl⟩
 ·rename_i c cJ
  obtain⟨cal,args,tys⟩:=c
  simp only at he
  split at he
  ·split at he
   ·rename_i m k T T2 ha ht'
    have OS:m∈o.op.operands.toList:=by rw[cJ];simp only[Op.operands,Call.operands,aT,bp,ha];simp
    have PX:k∈o.op.operands.toList:=by rw[cJ];simp only[Op.operands,Call.operands,aT,bp,ha];simp
    obtain⟨s1,h1,h2⟩:=ai.1 he
    obtain rfl:=ak.1 h2
    obtain⟨id,e0,e,cI,hs,rfl,hl⟩:=zl h1
    refine pO hs ?_ λt ht Gh=> ?_
    ·show id∈writes Γ s o
     unfold writes
     rw[cJ]
     simp only[ha,cI,bD]
    ·unfold j4
     rw[cJ]
     simp only[ha,ht']
     rw[ht.ev OS,ht.ev PX]
     exact ai.2 ⟨_,hl t Gh,ak.2 rfl⟩
   ·exact(ag.1 he).elim
  ·split at he
   ·rename_i x y T X ha ht'
    exact DX cJ rfl ha ht' he
   ·exact(ag.1 he).elim
  ·split at he
   ·rename_i x T ha ht'
    refine jw (F:=λt=>JJ P T (t.ev x)) (λt=>by unfold j4;rw[cJ];simp only[ha,ht']) (λt ht=> ?_) BA
    rw[ht.ev (by rw[cJ];simp only[Op.operands,Call.operands,aT,bp,ha];simp)]
   ·exact(ag.1 he).elim
  ·split at he
   ·rename_i x y T X ha ht'
    have HM:x∈o.op.operands.toList:=by rw[cJ];simp only[Op.operands,Call.operands,aT,bp,ha];simp
    have MQ:y∈o.op.operands.toList:=by rw[cJ];simp only[Op.operands,Call.operands,aT,bp,ha];simp
    split at he
    ·rename_i k n hx hy
     have tN:=he
     unfold Cl at tN
     split at tN
     ·rename_i e t0 b q kn rR hd hX
      obtain⟨h1,h2⟩:=av.1 tN
      obtain⟨h3,h4⟩:=bl.1 h2
      obtain rfl:=ak.1 h4
      refine ov (ids:=[]) hd h1 (λ_ h=>by cases h) λt ht hv=> ?_
      unfold j4
      rw[cJ]
      simp only[ha,ht',ht.ev HM,ht.ev MQ,hx,hy]
      unfold Cl
      simp only[rR,hd,hX]
      exact av.2 ⟨hv,bl.2 ⟨h3,ak.2 rfl⟩⟩
     ·exact(ag.1 tN).elim
    ·rename_i fL
     exact AM cJ rfl ha ht' fL he
   ·exact(ag.1 he).elim
  ·split at he
   ·rename_i x T ha ht'
    have HM:x∈o.op.operands.toList:=by rw[cJ];simp only[Op.operands,Call.operands,aT,bp,ha];simp
    split at he
    ·rename_i e hx hT
     obtain rfl:=ak.1 he
     refine il λt ht=> ?_
     unfold j4
     rw[cJ]
     simp only[ha,ht',ht.ev HM,hx,hT];rfl
    ·exact(ag.1 he).elim
   ·exact(ag.1 he).elim
  ·refine jw (F:=λt=>Gs true (args.toList.map t.ev)) (λt=>by unfold j4;rw[cJ]) (λt ht=> ?_) BA
   congr 1
   exact fi λx hx=>ht.ev (by rw[cJ];simp only[Op.operands,Call.operands,aT,bp];exact hx)
  ·refine jw (F:=λt=>Gs false (args.toList.map t.ev)) (λt=>by unfold j4;rw[cJ]) (λt ht=> ?_) BA
   congr 1
   exact fi λx hx=>ht.ev (by rw[cJ];simp only[Op.operands,Call.operands,aT,bp];exact hx)
  ·split at he
   ·rename_i x ha
    have HM:x∈o.op.operands.toList:=by rw[cJ];simp only[Op.operands,Call.operands,aT,bp,ha];simp
    split at he
    ·rename_i id ver len hx
     obtain⟨h1,h2⟩:=bl.1 he
     obtain rfl:=ak.1 h2
     refine il λt ht=> ?_
     unfold j4
     rw[cJ]
     simp only[ha,ht.ev HM,hx]
     exact bl.2 ⟨h1,rfl⟩
    ·exact(ag.1 he).elim
   ·exact(ag.1 he).elim
  ·split at he
   ·rename_i x y T U ha ht'
    have HM:x∈o.op.operands.toList:=by rw[cJ];simp only[Op.operands,Call.operands,aT,bp,ha];simp
    have MQ:y∈o.op.operands.toList:=by rw[cJ];simp only[Op.operands,Call.operands,aT,bp,ha];simp
    split at he
    ·rename_i id ver n hx hy
     have tN:=he
     unfold Dm at tN
     split at tN
     ·rename_i v e l u ia hT
      obtain⟨h1,h2⟩:=av.1 tN
      obtain⟨h3,h4⟩:=bl.1 h2
      obtain rfl:=ak.1 h4
      refine pO (dj ia) ?_ λt ht Gh=> ?_
      ·show id∈writes Γ s o
       unfold writes
       rw[cJ]
       simp only[ha,hx]
       simp[ao.ids]
      ·have hob':t.obj id=some (v,false,.vec e (.int .u8) l):=by simp only[AS.obj,Gh];exact ia
       unfold j4
       rw[cJ]
       simp only[ha,ht',ht.ev HM,ht.ev MQ,hx,hy]
       unfold Dm
       simp only[hob',hT]
       exact av.2 ⟨h1,bl.2 ⟨h3,ak.2 rfl⟩⟩
     ·exact(ag.1 tN).elim
    ·exact(ag.1 he).elim
   ·exact(ag.1 he).elim
  ·rename_i F _
   split at he
   ·rename_i f caps hF
    split at he
    ·rename_i en G8
     obtain⟨gO,he⟩:=av.1 he
     exact DQ cJ rfl hF G8 gO he
    ·exact(ag.1 he).elim
   ·exact(ag.1 he).elim
  ·exact(ag.1 he).elim
 ·exact(ag.1 he).elim
end
end Go.Ab
namespace Go.Ab
section
variable {P:Program} {Γ:mU} {bk:List Nat} {ops:Array Oper} {o:Oper} {s t:AS}
def Loc(P:Program)(Γ:mU)(bk:List Nat)(ops:Array Oper)(o:Oper)(s s':AS):Prop:=
 ∃E,App o.dst E s s'/\AJ (eZ Γ ops s o) s E/\∀t,iF (eZ Γ ops s o) s t->∃t',rQ P Γ bk ops o t=some t'/\App o.dst E t t'
theorem xC{s':AS}(he:rQ P Γ bk ops o s=some s'):Loc P Γ bk ops o s s':=by
 unfold rQ at he
 split at he
 ·rename_i hg
  obtain⟨E,h1,h2,h3⟩:=zG (ops:=ops) he
  refine⟨E,h1,h2,λt ht=> ?_⟩
  obtain⟨t',h4,h5⟩:=h3 t ht
  exact⟨t',by unfold rQ;simp only[hg];exact h4,h5⟩
 ·rename_i j want hg
  split at he
  ·rename_i q hq
   split at he
   ·rename_i b hb
    have Hb:∀t,iF (eZ Γ ops s o) s t->t.slot q= .d .bool b:=λt ht=>by
     rw[ht.bK q (aX.2 (.inr (by unfold vc;simp only[hg,hq];simp)))];exact hb
    by_cases e:b=want
    ·rw[if_pos e]at he
     obtain⟨E,h1,h2,h3⟩:=zG (ops:=ops) he
     refine⟨E,h1,h2,λt ht=> ?_⟩
     obtain⟨t',h4,h5⟩:=h3 t ht
     exact⟨t',by unfold rQ;simp only[hg,hq,Hb t ht,if_pos e];exact h4,h5⟩
    ·rw[if_neg e]at he
     simp only[al]at he
     subst he
     exact⟨⟨.nil,λ_=>none,[]⟩,App.rC _ _ _,⟨λ_ _ h=>by simp at h,λ_ h=>by simp at h⟩,λt ht=>⟨_,by unfold rQ;simp only[hg,hq,Hb t ht,if_neg e],App.rC _ _ _⟩⟩
   ·rename_i hb
    have Hb:∀t,iF (eZ Γ ops s o) s t->t.slot q= .nil:=λt ht=>by
     rw[ht.bK q (aX.2 (.inr (by unfold vc;simp only[hg,hq];simp)))];exact hb
    simp only[al]at he
    subst he
    exact⟨⟨.nil,λ_=>none,[]⟩,App.rC _ _ _,⟨λ_ _ h=>by simp at h,λ_ h=>by simp at h⟩,λt ht=>⟨_,by unfold rQ;simp only[hg,hq,Hb t ht],App.rC _ _ _⟩⟩
   ·cases he
  ·cases he
theorem Bx(h:iF (eZ Γ ops s o) s t):writes Γ t o=writes Γ s o:=by
 have I2:∀id∈writes Γ s o,t.bA id=s.bA id:=h.ws
 unfold writes at I2 ⊢
 split
 ·rename_i x v cJ
  rw[h.ev (by rw[cJ];simp[Op.operands])]
 ·rename_i m k v cJ
  rw[h.ev (by rw[cJ];simp[Op.operands])]
 ·rename_i T U x cJ
  rw[h.ev (by rw[cJ];simp[Op.operands])]
 ·rename_i c cJ
  obtain⟨cal,args,tys⟩:=c
  simp only[cJ]at I2
  simp only
  split
  ·split
   ·rename_i x l ha
    rw[h.ev (by rw[cJ];simp only[Op.operands,Call.operands,aT,bp,ha];simp)]
   ·rfl
  ·split
   ·rename_i x l ha
    rw[h.ev (by rw[cJ];simp only[Op.operands,Call.operands,aT,bp,ha];simp)]
   ·rfl
  ·split
   ·rename_i x l ha
    rw[h.ev (by rw[cJ];simp only[Op.operands,Call.operands,aT,bp,ha];simp)]
   ·rfl
  ·split
   ·rename_i x l ha
    rw[h.ev (by rw[cJ];simp only[Op.operands,Call.operands,aT,bp,ha];simp)]
   ·rfl
  ·rename_i F
   simp only at I2
   have hm:∀z,z=F\/z∈args.toList->z∈o.op.operands.toList:=λz hz=>by
    rw[cJ]
    simp only[Op.operands,Call.operands,bp,aX]
    rcases hz with rfl | hz
    ·exact .inl (by simp)
    ·exact .inr hz
   have h1:t.ev F=s.ev F:=h.ev (hm F (.inl rfl))
   have h2:args.toList.map t.ev=args.toList.map s.ev:=fi λx hx=>h.ev (hm x (.inr hx))
   rw[h1]
   split
   ·rename_i f caps hF
    simp only[hF]at I2
    rw[h2]
    split
    ·rename_i en G8
     simp only[G8]at I2
     exact mK _ _ _ λid cI=>by rw[I2 id cI]
    ·rfl
   ·rfl
  ·rfl
 ·rfl
theorem xy(h:iF (eZ Γ ops s o) s t):eZ Γ ops t o=eZ Γ ops s o:=by
 have h1:=Bx h
 have h2:CT t o=CT s o:=by
  unfold CT
  split
  ·rfl
  unfold List.flatMap
  congr 1
  exact fi λi hi=>by rw[h.bK i (aX.2 (.inl hi))]
 unfold eZ
 rw[h1,h2]
theorem mE{xs ys:List Id}(h:meets xs ys=false){id:Id}(hx:id∈xs):id ∉ ys:=by
 intro hy
 have:meets xs ys=true:=by
  unfold meets
  exact List.any_eq_true.2 ⟨id,hx,List.any_eq_true.2 ⟨id,hy,by simp⟩⟩
 rw[h]at this;cases this
theorem lI{d:Option Tmp}{ids:List Id}(h:yI d ids=false){q:Nat}(hd:d=some q)(j:Nat):Id.new q j ∉ ids:=by
 intro hy
 have:yI d ids=true:=by
  subst hd
  exact List.any_eq_true.2 ⟨_,hy,by simp⟩
 rw[h]at this;cases this
theorem rA{f g:qv}(h:f.NO g=false){q:Nat}(hd:f.dst=some q):q ∉ g.bK/\g.dst≠some q:=by
 unfold qv.NO at h
 rw[hd]at h
 simp only[Bool.or_eq_false_iff,jr,decide_eq_true_eq,decide_eq_false_iff_not]at h
 exact⟨λhx=>h.1 q hx rfl,h.2⟩
theorem De(s:AS)(d:Option Tmp)(v:ao)(i:Nat)(h:d≠some i):(s.put d v).slot i=s.slot i:=by
 cases d with
 |none=>rfl
 |some q=>rw[yK,if_neg];rintro⟨rfl,_⟩;exact h rfl
theorem App.slot{d:Option Tmp}{E:MD}{s s':AS}(h:App d E s s')(i:Nat)(hi:d≠some i):s'.slot i=s.slot i:=by
 rw[<-De s d E.v i hi]
 simp only[AS.slot,h.bK]
theorem BI{f f':qv}{E:MD}{s s1:AS}(ha:App f.dst E s s1)(hw:AJ f s E)(Qf:∀id∈f'.ws,id∈f'.rs)(h1:f.NO f'=false)(h2:meets f.ws f'.rs=false)(h3:meets f'.ws f.rs=false)
  (h4:yI f.dst f'.rs=false):(∀i∈f'.bK,s1.slot i=s.slot i)/\(∀id∈f'.ws,s1.bA id=s.bA id)/\(∀id∈f'.rs,nQ (s1.bA id) (s.bA id))/\∀q,f'.dst=some q->s1.dd q=s.dd q:=by
 have wH:∀id∈f'.rs,E.up id=none:=λid cI=>by
  cases hu:E.up id with
  |none=>rfl
  |some e=>
   rcases hw.up id e hu with⟨h,_⟩ | ⟨q,j,hd,rfl⟩
   ·exact absurd cI (mE h2 h)
   ·exact absurd cI (lI h4 hd j)
 refine⟨λi hi=>ha.slot i λhd=>(rA h1 hd).1 hi,λid cI=> ?_,λid cI=> ?_,λq hq=> ?_⟩
 ·rw[ha.bA,wH id (Qf id cI)]
  have:id ∉ E.fz:=λhz=>mE h3 cI (hw.fz id hz)
  simp only[if_neg this]
 ·rw[ha.bA,wH id cI]
  simp only
  split
  ·exact GQ _
  ·exact GR _
 ·have fL:∀j,(s1.bA (.new q j)=none↔s.bA (.new q j)=none):=λj=>by
   rw[ha.bA]
   cases hu:E.up (.new q j) with
   |none=>
    simp only
    split <;> simp
   |some e=>
    rcases hw.up _ e hu with⟨_,h⟩ | ⟨q',j',hd,he⟩
    ·simp[h]
    ·simp only[Id.new.injEq]at he
     obtain⟨rfl,_⟩:=he
     exact absurd hq (rA h1 hd).2
  rw[Bool.eq_iff_iff,oM,oM,ha.len]
  exact and_congr Iff.rfl (forall_congr' fL)
theorem qK(s:AS)(o:Oper):∀id∈(eZ Γ ops s o).ws,id∈(eZ Γ ops s o).rs:=λ_ cI=>aX.2 (.inr cI)
theorem swap{o':Oper}{s1 s2:AS}(h1:rQ P Γ bk ops o s=some s1)(h2:rQ P Γ bk ops o' s1=some s2)(hi:(eZ Γ ops s o).indep (eZ Γ ops s1 o')=true):
  ∃t1,rQ P Γ bk ops o' s=some t1/\rQ P Γ bk ops o t1=some s2/\eZ Γ ops s o'=eZ Γ ops s1 o'/\eZ Γ ops t1 o=eZ Γ ops s o:=by
 unfold qv.indep at hi
 simp only[ae,bt]at hi
 obtain⟨⟨⟨⟨⟨i1,i2⟩,i3⟩,i4⟩,i5⟩,i6⟩:=hi
 obtain⟨E,a1,w1,l1⟩:=xC h1
 obtain⟨E',a2,w2,l2⟩:=xC h2
 obtain⟨g1,g2,g3,g4⟩:=BI (f:=eZ Γ ops s o) (f':=eZ Γ ops s1 o') a1 w1 (qK _ _) i1 i3 i4 i5
 have tx:iF (eZ Γ ops s1 o') s1 s:=⟨λi hi=>(g1 i hi).symm,λid cI=>(g2 id cI).symm,λid cI=>by
  have:=g3 id cI
  revert this
  cases s1.bA id <;> cases s.bA id <;> simp only[nQ] <;> intro h <;> first | trivial | exact h | skip
  rename_i a b
  cases a <;> cases b <;> simp_all [c7.BD],λq hq=>(g4 q hq).symm⟩
 obtain⟨t1,k1,k2⟩:=l2 s tx
 have hf':=xy tx
 have w2':AJ (eZ Γ ops s1 o') s E':=⟨λid e hu=>by
  rcases w2.up id e hu with⟨h,hn⟩ | h
  ·exact .inl ⟨h,by rw[<-g2 id h];exact hn⟩
  ·exact .inr h,w2.fz⟩
 obtain⟨m1,m2,m3,m4⟩:=BI (f:=eZ Γ ops s1 o') (f':=eZ Γ ops s o) k2 w2' (qK _ _) i2 i4 i3 i6
 have Ns:iF (eZ Γ ops s o) s t1:=⟨m1,m2,m3,m4⟩
 obtain⟨t2,k3,k4⟩:=l1 t1 Ns
 refine⟨t1,k1,?_,hf',xy Ns⟩
 rw[k3]
 congr 1
 have N7:∀id e,E.up id=some e->E'.up id=none/\id ∉ E'.fz:=λid e hu=>by
  rcases w1.up id e hu with⟨h,hn⟩ | ⟨q,j,hd,rfl⟩
  ·refine⟨?_,λhz=>mE i3 h (w2.fz id hz)⟩
   cases hu':E'.up id with
   |none=>rfl
   |some e'=>
    rcases w2.up id e' hu' with⟨h',_⟩ | ⟨q,j,hd,rfl⟩
    ·exact absurd (qK _ _ id h') (mE i3 h)
    ·exact absurd (qK _ _ _ h) (lI i6 hd j)
  ·refine⟨?_,λhz=>lI i5 hd j (w2.fz _ hz)⟩
   cases hu':E'.up (.new q j) with
   |none=>rfl
   |some e'=>
    rcases w2.up _ e' hu' with⟨h',_⟩ | ⟨q',j',hd',he⟩
    ·exact absurd (qK _ _ _ h') (lI i5 hd j)
    ·simp only[Id.new.injEq]at he
     obtain⟨rfl,_⟩:=he
     exact absurd hd' (rA i1 hd).2
 have Qk:∀id e,E'.up id=some e->E.up id=none/\id ∉ E.fz:=λid e hu=>by
  have hn:E.up id=none:=by
   cases R4:E.up id with
   |none=>rfl
   |some e1=>rw[(N7 id e1 R4).1]at hu;cases hu
  refine⟨hn,λhz=> ?_⟩
  rcases w2.up id e hu with⟨h,_⟩ | ⟨q,j,hd,rfl⟩
  ·exact mE i4 h (w1.fz id hz)
  ·exact lI i6 hd j (w1.fz _ hz)
 refine AS.HE ?_ (by rw[k4.len,k2.len,a2.len,a1.len]) λid=> ?_
 ·have e1:∀(u u':AS) (d:Option Tmp) (v:ao),u.bK=u'.bK->(u.put d v).bK=(u'.put d v).bK:=λu u' d v h=>by cases d <;> simp[AS.put,h]
  rw[k4.bK,a2.bK,e1 t1 (s.put o'.dst E'.v) _ _ k2.bK,e1 s1 (s.put o.dst E.v) _ _ a1.bK]
  cases hd:o.dst with
  |none=>cases o'.dst <;> rfl
  |some q=>
   cases hd':o'.dst with
   |none=>rfl
   |some q'=>
    have fL:q'≠q:=λe=>(rA (f:=eZ Γ ops s o) i1 hd).2 (by show o'.dst=some q;rw[hd',e])
    simp only[AS.put]
    exact List.set_comm _ _ fL
 ·rw[k4.bA,k2.bA,a2.bA,a1.bA]
  cases hu:E.up id with
  |some e=>
   obtain⟨h3,h4⟩:=N7 id e hu
   simp only[h3,if_neg h4]
  |none=>
   simp only
   cases hu':E'.up id with
   |some e=>
    obtain⟨_,h4⟩:=Qk id e hu'
    simp only[if_neg h4]
   |none=>
    simp only
    by_cases z1:id∈E.fz <;> by_cases z2:id∈E'.fz <;> simp only[if_pos,if_neg,z1,z2,not_false_eq_true]
end
end Go.Ab
namespace Go.Ab
section
variable {P:Program} {Γ:mU} {bk:List Nat} {ops:Array Oper}
def BF(P:Program)(Γ:mU)(bk:List Nat)(ops:Array Oper)(fs:Nat->qv):List Nat->AS->AS->Prop
 |[],s,sn=>s=sn
 |i::l,s,sn=>∃o,ops[i]? =some o/\eZ Γ ops s o=fs i/\∃s',rQ P Γ bk ops o s=some s'/\BF P Γ bk ops fs l s' sn
theorem BF.Ho{fs:Nat->qv}{i:Nat}{l2:List Nat}{sn:AS}:∀(l1:List Nat) {s:AS},BF P Γ bk ops fs (l1++i::l2) s sn->(∀j∈l1,(fs j).indep (fs i)=true)->BF P Γ bk ops fs (i::(l1++l2)) s sn
 |[],_,h,_=>h
 |j::l1,s,h,hi=>by
  obtain⟨oj,h1,h2,s1,h3,h4⟩:=h
  obtain⟨oi,h5,h6,s2,h7,h8⟩:=BF.Ho l1 h4 λj hj=>hi j (aH _ hj)
  have hd:=hi j (aI ..)
  rw[<-h2,<-h6]at hd
  obtain⟨t1,k1,k2,k3,k4⟩:=swap h3 h7 hd
  exact⟨oi,h5,by rw[k3,h6],t1,k1,oj,h1,by rw[k4,h2],s2,k2,h8⟩
theorem zZ{R:Type}{anc:List Nat}{k:AS->Option R}{r:R}:∀(l:List Oper) (i:Nat) (acc:List (Nat×qv)) (s:AS) (f0:Nat->qv),(∀n o,l[n]? =some o->ops[i+n]? =some o)->(∀x∈acc,f0 x.1=x.2/\x.1 < i)->
  zY P Γ bk ops anc i l acc s k=some r->∃fs sn,(∀j,j < i->fs j=f0 j)/\BF P Γ bk ops fs (List.range' i l.length) s sn/\k sn=some r/\
   (∀x∈acc,∀m,i<=m->m < i+l.length->(anc.getD m 0).testBit x.1=true\/x.2.indep (fs m)=true)/\(∀m1 m2,i<=m1->m1 < m2->m2 < i+l.length->(anc.getD m2 0).testBit m1=true\/(fs m1).indep (fs m2)=true)
 |[],i,acc,s,f0,_,_,h=>⟨f0,s,λ_ _=>rfl,rfl,h,λ_ _ m h1 h2=>by simp at h2;omega,λ_ _ h1 h2 h3=>by simp at h3;omega⟩
 |o::l,i,acc,s,f0,ho,hf,h=>by
  unfold zY at h
  split at h
  ·rename_i pM
   simp only[AS.uB]at h
   obtain⟨s',h1,h2⟩:=Ck (k:=λs'=>zY P Γ bk ops anc (i+1) l ((i,eZ Γ ops s o)::acc) s' k) h
   have Pv:∀x∈(i,eZ Γ ops s o)::acc,(if x.1=i then eZ Γ ops s o else f0 x.1)=x.2/\x.1 < i+1:=λx hx=>by
    rcases b8.1 hx with rfl | hx
    ·simp
    ·obtain⟨q1,q2⟩:=hf x hx
     rw[if_neg (by omega)]
     exact⟨q1,by omega⟩
   obtain⟨fs,sn,g1,g2,g3,g4,g5⟩:=zZ l (i+1) ((i,eZ Γ ops s o)::acc) s' (λn=>if n=i then eZ Γ ops s o else f0 n)
    (λn o' hn=>by have:=ho (n+1) o' (by simpa using hn);rw[<-this];congr 1;omega) Pv h2
   have gi:fs i=eZ Γ ops s o:=by rw[g1 i (by omega),if_pos rfl]
   refine⟨fs,sn,λj hj=>by rw[g1 j (by omega),if_neg (by omega)],?_,g3,λx hx m h3 h4=> ?_,λm1 m2 h3 h4 h5=> ?_⟩
   ·rw[aC,List.range'_succ]
    exact⟨o,ho 0 o rfl,gi.symm,s',h1,g2⟩
   ·rcases Nat.eq_or_lt_of_le h3 with rfl | h3
    ·have:=cG.1 pM x hx
     simp only[fj]at this
     rcases this with h | h
     ·exact .inl h
     ·right;rw[gi];exact h
    ·exact g4 x (aH _ hx) m (by omega) (by simp only[aC]at h4;omega)
   ·rcases Nat.eq_or_lt_of_le h3 with rfl | h3
    ·rw[gi]
     exact g4 (i,eZ Γ ops s o) (aI ..) m2 (by omega) (by simp only[aC]at h5;omega)
    ·exact g5 m1 m2 (by omega) h4 (by simp only[aC]at h5;omega)
  ·cases h
theorem BM{acc:List Nat}{j:Nat}:∀ {l:List Edge},(l.foldr (λe m=>Nat.lor (Nat.lor (Nat.pow 2 e.on) (acc.getD e.on 0)) m) 0).testBit j=true->∃e∈l,j=e.on\/(acc.getD e.on 0).testBit j=true
 |[],h=>by simp at h
 |e::l,h=>by
  rw[List.foldr_cons,show ∀x y,Nat.lor x y=x ||| y from λ_ _=>rfl,show ∀x y,Nat.lor x y=x ||| y from λ_ _=>rfl,Nat.testBit_or,Nat.testBit_or,show Nat.pow 2 e.on=2^e.on from rfl,Nat.testBit_two_pow]at h
  simp only[fj,decide_eq_true_eq]at h
  rcases h with(h | h) | h
  ·exact⟨e,aI ..,.inl h.symm⟩
  ·exact⟨e,aI ..,.inr h⟩
  ·obtain⟨e',h1,h2⟩:=BM h
   exact⟨e',aH _ h1,h2⟩
theorem zF:∀(l:List Oper) (acc:List Nat),(∀i,i < acc.length->(l.foldl (λacc o=>acc++ [AL acc o]) acc)[i]? =acc[i]?)/\
  ∀i o,l[i]? =some o->(l.foldl (λacc o=>acc++ [AL acc o]) acc)[acc.length+i]? =some (AL ((l.foldl (λacc o=>acc++ [AL acc o]) acc).take (acc.length+i)) o)
 |[],acc=>⟨λ_ _=>rfl,λi o h=>by simp at h⟩
 |x::l,acc=>by
  obtain⟨h1,h2⟩:=zF l (acc++ [AL acc x])
  simp only[cO]
  refine⟨λi hi=> ?_,λi o hi=> ?_⟩
  ·rw[h1 i (by simp;omega),dO hi]
  ·cases i with
   |zero=>
    simp only[ef,al]at hi
    subst hi
    rw[ct,h1 _ (by simp)]
    have:(l.foldl (λacc o=>acc++ [AL acc o]) (acc++ [AL acc x])).take acc.length=acc:=by
     apply gQ
     intro j
     rw[cD]
     split
     ·rename_i hj
      rw[h1 j (by simp;omega),dO hj]
     ·rename_i hj
      rw[cW (by omega)]
    rw[this]
    simp
   |succ i=>
    have:=h2 i o (by simpa using hi)
    simp only[au,aC,aZ,aR]at this
    rw[show acc.length+(i+1)=acc.length+1+i by omega]
    exact this
theorem Hk{l:List Oper}{i:Nat}{o:Oper}(hi:l[i]? =some o){j:Nat}(hj:((BN l).getD i 0).testBit j=true):∃e∈o.after.toList,Region.binds .any e=true/\(j=e.on\/((BN l).getD e.on 0).testBit j=true):=by
 have h:=(zF l []).2 i o hi
 have e:BN l=l.foldl (λacc o=>acc++ [AL acc o]) []:=rfl
 rw[<-e]at h
 simp only[aZ,aR]at h
 rw[ax,h]at hj
 obtain⟨e,h1,h3⟩:=BM hj
 obtain⟨h1,h2⟩:=dX.1 h1
 refine⟨e,h1,h2,h3.imp id λh4=> ?_⟩
 rw[ax,cD]at h4
 split at h4
 ·rw[ax];exact h4
 ·simp at h4
def AD(n:Nat)(listed:Array Bool):List Nat:=(List.range n).filter λi=> !listed.getD i true
theorem tZ{n:Nat}{listed:Array Bool}{i:Nat}:i∈AD n listed↔i < n/\listed.getD i true=false:=by simp[AD]
theorem tr(n:Nat)(listed:Array Bool):(AD n listed).Pairwise (· < ·):=(List.pairwise_lt_range).filter _
theorem xB{listed:Array Bool}{i j:Nat}(d:Bool)(hi:i < listed.size):(listed.setIfInBounds i true).getD j d=if j=i then true else listed.getD j d:=by
 simp only[bT,c9]
 by_cases h:i=j
 ·subst h;simp[hi]
 ·simp[h,Ne.symm h]
theorem J8{listed:Array Bool}{i:Nat}(hi:i < listed.size){l1 l2:List Nat}(h:AD listed.size listed=l1++i::l2):AD listed.size (listed.setIfInBounds i true)=l1++l2:=by
 have hs:=tr listed.size listed
 rw[h]at hs
 obtain⟨p1,p2,p3⟩:=List.pairwise_append.1 hs
 obtain⟨p4,_⟩:=kD.1 p2
 have e:AD listed.size (listed.setIfInBounds i true)=(AD listed.size listed).filter λj=>decide (j≠i):=by
  unfold AD
  rw[List.filter_filter]
  refine List.filter_congr λj _=> ?_
  rw[xB true hi]
  by_cases hj:j=i
  ·simp[hj]
  ·simp[hj]
 rw[e,h,List.filter_append,ir]
 have f1:l1.filter (λj=>decide (j≠i))=l1:=fR.2 λj hj=>by
  have:=p3 j hj i (aI ..)
  simp;omega
 have f2:l2.filter (λj=>decide (j≠i))=l2:=fR.2 λj hj=>by
  have:=p4 j hj
  simp;omega
 rw[f1,f2]
 simp
theorem FL{rd:Option Nat}{n:Nat}{C:Ctx}(hΓ:Sound P Γ){fs:Nat->qv}{sn:AS}{Q:Exit->Act->World->Prop}(hE:AQ ops.toList=true)
  (PN:∀m1 m2,m1 < m2->m2 < ops.size->((BN ops.toList).getD m2 0).testBit m1=true\/(fs m1).indep (fs m2)=true) (hQ:∀a w,fq C sn a w->Q .normal a w):
  ∀(fuel:Nat) (listed:Array Bool) (s:AS) (a:Act) (w:World),listed.size=ops.size->(AD ops.size listed).length=fuel->
   (∀i,i < ops.size->listed.getD i true=true->∀j,((BN ops.toList).getD i 0).testBit j=true->listed.getD j false=true)->BF P Γ bk ops fs (AD ops.size listed) s sn->fq C s a w->wpAnyIn (Fr rd) n P .any ops Q fuel listed a w:=by
 have Kp:∀i o,ops[i]? =some o->∀e∈o.after.toList,Region.binds .any e=true->e.on < i:=λi o hi e he hb=>by
  have:=cG.1 hE (o,i) (List.mem_zipIdx_iff_getElem?.2 (by simpa using hi))
  have:=cG.1 this e he
  simpa[hb]using this
 have L4:∀(listed:Array Bool),listed.size=ops.size->∀i,i∈Region.ready .any ops listed↔i∈AD ops.size listed/\∀o,ops[i]? =some o->∀e∈o.after.toList,Region.binds .any e=true->listed.getD e.on false=true:=λlisted _ i=>by
  rw[tZ]
  unfold Region.ready
  simp only[dX,List.mem_range,ae,bt]
  constructor
  ·rintro⟨h1,h2,h3⟩
   refine⟨⟨h1,h2⟩,λo ho e he hb=> ?_⟩
   rw[ho]at h3
   simp only[dh,dH,Array.all_eq_true',fj,bt]at h3
   rcases h3 e (by simpa using he) with h | h
   ·rw[hb]at h;cases h
   ·exact h
  ·rintro⟨⟨h1,h2⟩,h3⟩
   refine⟨h1,h2,?_⟩
   obtain⟨o,ho⟩:∃o,ops[i]? =some o:=⟨ops[i],by simp[h1]⟩
   rw[ho]
   simp only[dh,dH,Array.all_eq_true',fj,bt]
   intro e he
   cases hb:Region.binds .any e with
   |false=>exact .inl rfl
   |true=>exact .inr (h3 o ho e (by simpa using he) hb)
 have jZ:∀(listed:Array Bool),listed.size=ops.size->Region.ready .any ops listed=[]->AD ops.size listed=[]:=λlisted hs hr=>by
  cases hu:AD ops.size listed with
  |nil=>rfl
  |cons i l=>
   exfalso
   have hi:i∈AD ops.size listed:=by rw[hu];exact aI ..
   have N4:=tr ops.size listed
   rw[hu]at N4
   have:i∈Region.ready .any ops listed:=(L4 listed hs i).2 ⟨hi,λo ho e he hb=>by
    have gO:=Kp i o ho e he hb
    have NN:=(tZ.1 hi).1
    cases hl:listed.getD e.on true with
    |false=>
     have hm:e.on∈AD ops.size listed:=tZ.2 ⟨by omega,hl⟩
     rw[hu]at hm
     rcases b8.1 hm with h | h
     ·omega
     ·have:=(kD.1 N4).1 _ h;omega
    |true=>
     have:e.on < listed.size:=by omega
     simp only[bT,dN this,dH]at hl ⊢
     exact hl⟩
   rw[hr]at this
   cases this
 intro fuel
 induction fuel with
 |zero=>
  intro listed s a w hs hl _ hr kZ
  have hn:AD ops.size listed=[]:=aJ hl
  refine⟨?_,?_⟩
  ·cases Qa:Region.ready .any ops listed with
   |nil=>rfl
   |cons i l=>
    have:i∈Region.ready .any ops listed:=by rw[Qa];exact aI ..
    have:=((L4 listed hs i).1 this).1
    rw[hn]at this;cases this
  ·rw[hn]at hr
   have:s=sn:=hr
   subst this
   exact hQ a w kZ
 |succ fuel ih=>
  intro listed s a w hs hl G7 hr kZ
  refine⟨λQa=> ?_,λi hi=> ?_⟩
  ·have:=jZ listed hs Qa
   rw[this]at hl;simp at hl
  ·obtain⟨hu,NF⟩:=(L4 listed hs i).1 hi
   obtain⟨NN,Sz⟩:=tZ.1 hu
   obtain⟨o,ho⟩:∃o,ops[i]? =some o:=⟨ops[i],by simp[NN]⟩
   obtain⟨l1,l2,HR⟩:=List.append_of_mem hu
   have N4:=tr ops.size listed
   rw[HR]at N4
   have Nt:∀j,((BN ops.toList).getD i 0).testBit j=true->listed.getD j false=true:=λj hj=>by
    obtain⟨e,he,hb,h | h⟩:=Hk (by simpa using ho) hj
    ·rw[h];exact NF o ho e he hb
    ·have h1:=NF o ho e he hb
     have h2:=Kp i o ho e he hb
     refine G7 e.on (by omega) ?_ j h
     have:e.on < listed.size:=by omega
     simp only[bT,dN this,dH]at h1 ⊢
     exact h1
   rw[HR]at hr
   have hb:=BF.Ho l1 hr λj hj=>by
    have gO:j < i:=(List.pairwise_append.1 N4).2.2 j hj i (aI ..)
    rcases PN j i gO NN with h | h
    ·have h1:=Nt j h
     have RH:j∈AD ops.size listed:=by rw[HR];exact aX.2 (.inl hj)
     have h2:=(tZ.1 RH).2
     have:j < listed.size:=by omega
     simp only[bT,dN this,dH]at h1 h2
     rw[h1]at h2;cases h2
    ·exact h
   obtain⟨o',ho',hf,s',hg,jT⟩:=hb
   obtain rfl:o=o':=by rw[ho]at ho';simpa using ho'
   have A6:AD ops.size (listed.setIfInBounds i true)=l1++l2:=by
    rw[<-hs]at HR ⊢
    exact J8 (by omega) HR
   refine((zX hΓ kZ hg).mono λa' w' hst'=>ih (listed.setIfInBounds i true) s' a' w' (by simpa using hs) ?_ ?_ (by rw[A6];exact jT) hst').wpOpIn ho
   ·rw[A6]
    rw[HR]at hl
    simp only[au,aC]at hl ⊢
    omega
   ·intro m hm OR j hj
    rw[xB false (by omega)]
    split
    ·rfl
    ·rw[xB true (by omega)]at OR
     split at OR
     ·rename_i RP
      subst RP
      exact Nt j hj
     ·exact G7 m hm OR j hj
theorem C4{rd:Option Nat}{n:Nat}{C:Ctx}(hm:P.follows .mixedOrders=true)(hΓ:Sound P Γ){id:Nat}{R:Type}{Q:Exit->Act->World->Prop}{s:AS}{a:Act}{w:World}{k:AS->Option R}{r:R}(h:fq C s a w)(hE:AQ ops.toList=true)
  (he:zY P Γ bk ops (BN ops.toList) 0 ops.toList [] s k=some r) (hk:∀s' a' w',fq C s' a' w'->k s'=some r->Q .normal a' w'):(Code.region id ops true).wpIn (Fr rd) n P Q a w:=by
 obtain⟨fs,sn,_,g2,g3,_,g5⟩:=zZ ops.toList 0 [] s (λ_=>⟨none,[],[],[]⟩) (λn o hn=>by simpa using hn) (λ_ hx=>by cases hx) he
 refine wpIn_region_any hm ?_
 obtain⟨g,β,h⟩:=h
 have hu:AD ops.size (Array.replicate ops.size false)=List.range' 0 ops.toList.length:=by
  unfold AD
  rw[fR.2]
  ·simp[List.range_eq_range']
  ·intro i hi
   have hi:i < ops.size:=by simpa using hi
   simp[bT,hi]
 refine FL (bk:=bk) hΓ hE (fs:=fs) (sn:=sn) (λm1 m2 h1 h2=>g5 m1 m2 (bj _) h1 (by simpa using h2)) (λa' w' hs=>hk sn a' w' hs g3) ops.size _ s a _ (by simp) (by rw[hu];simp) (λi hi hl=> ?_) (by rw[hu];exact g2) ⟨g,β,h.drew⟩
 simp[bT,hi]at hl
end
end Go.Ab
namespace Go.Ab
theorem mO{ρ:Ren}{s:AS}(h:∀id,(s.obj id).isSome=true->∀ver,ρ id ver=some (id,ver)):∀(v:ao),v.there s=true->v.fE ρ=v
 | .ptr id ver p n,ht=>by simp only[ao.fE];rw[h id ht]
 | .cv id ver p c i len,ht=>by simp only[ao.fE];rw[h id ht]
 | .pr a b,ht=>by
  simp only[ao.there,ae]at ht
  simp only[ao.fE];rw[mO h a ht.1,mO h b ht.2]
 | .cons a b,ht=>by
  simp only[ao.there,ae]at ht
  simp only[ao.fE];rw[mO h a ht.1,mO h b ht.2]
 | .fn f c,ht=>by simp only[ao.fE];rw[mO h c ht]
 | .bx e z c,ht=>by simp only[ao.fE];rw[mO h c ht]
 | .kT id ver,ht=>by simp only[ao.fE];rw[h id ht]
 | .yl id ver,ht=>by simp only[ao.fE];rw[h id ht]
 | .mV k f p,ht=>by simp only[ao.fE];rw[mO h f ht]
 | .la ..,ht=>by cases ht
 | .undef,_ | .gone,_ | .c6,_ | .kY,_ | .mF,_ | .pk,_ | .d _ _,_ | .eW _ _,_ | .nil,_ | .vec ..,_ | .mp ..,_ | .sb _,_=>rfl
theorem ME.bI{E E':Env}(hm:lg E E')(hh:∀b:Nat,E'.w.heap[b]? =E.w.heap[b]?){i q:Id}{ver:Nat}{kt vt:Ty}{rest:List (kt.den×vt.den)}{cur:Option (kt.den×vt.den)}(h:ME E i q ver kt vt rest cur)(hβ:E'.β i=E.β i)
  (hg:∀pl,E.β i=some pl->E.g pl.b= .own (.id i) 0->E'.g pl.b= .own (.id i) 0)
  (hq:∀vr,ver=vr+1->(E.qi q vr->E'.qi q vr/\(E'.cur q vr->E.cur q vr/\E'.β q=E.β q))/\(∀k v l,E.s q=some (.obj vr true (.mp k v l))->E'.s q=some (.obj vr true (.mp k v l)))/\
   ∀pl,E.β q=some pl->E.g pl.b= .own (.id q) 0->E'.g pl.b= .own (.id q) 0):ME E' i q ver kt vt rest cur:=by
 obtain⟨pl,mb,since,seen,c0,h1,h2,h3,h4⟩:=h
 refine⟨pl,mb,since,seen,c0,by rw[hβ,h1],by rw[hh,h2],hg pl h1 h3,λvr Eh=> ?_⟩
 obtain⟨h5,h6⟩:=h4 vr Eh
 obtain⟨q1,q2,q3⟩:=hq vr Eh
 obtain⟨b1,b2⟩:=q1 h5
 refine⟨b1,λhc=> ?_⟩
 obtain⟨c1,c2⟩:=b2 hc
 obtain⟨⟨k,v,l,k0⟩,plq,es,clock,k1,k2,k3,k4,k5,k6,k7,k8,k9⟩:=h6 c1
 exact⟨⟨k,v,l,q2 _ _ _ k0⟩,plq,es,clock,by rw[c2,k1],k2,by rw[hh,k3],q3 _ k1 k4,k5,k6,k7,k8.mono hm,λx hx=>
  let⟨e,se,a1,a2,a3,a4⟩:=k9 x hx
  ⟨e,se,a1,a2,a3,a4.mono hm⟩⟩
theorem HZ(c:ao):(∃q ver k v l cu,c= .la q ver k v l cu)\/(∀ρ kp,c.Mo ρ kp=c.fE ρ)/\∀s v fr,c7.there s (.obj v fr c)=c.there s:=by
 cases c <;> first | exact .inl ⟨_,_,_,_,_,_,rfl⟩ | exact .inr ⟨λ_ _=>rfl,λ_ _ _=>rfl⟩
section
variable {P:Program} {C:Ctx} {g:Nat->iO} {β:Id->Option Pl} {s:AS} {a:Act} {w:World}
theorem Inv.Ar(h:Inv C g β s a w)(hC:C.ok){s1:AS}{g1:Nat->iO}{β1:Id->Option Pl}(ρ:Ren)(hlen:s1.bK.length=s.bK.length)(ht:Trans w w g g1)(hle:oS ρ (s.env w g β) (s1.env w g1 β1))
  (xJ:∀i,VS (s1.env w g1 β1) (s1.slot i) (a.tmps.getD i undef))
  (b5:∀id ver fr c,s1.bA id=some (.obj ver fr c)->mr (s1.env w g1 β1) id fr c\/∃id0 v0 c0,s.bA id0=some (.obj v0 fr c0)/\c0.fE ρ=c/\β1 id=β id0/\∀pl,β id0=some pl->(∀k,g pl.b= .own (.id id0) k->g1 pl.b= .own (.id id) k)/\(g pl.b= .free->g1 pl.b= .free))
  (hold:∀k,(s.bA (.c8 k)≠none->s1.bA (.c8 k)≠none)/\(∀v fr c,s1.bA (.c8 k)=some (.obj v fr c)->∃c0,s.bA (.c8 k)=some (.obj v fr c0))/\β1 (.c8 k)=β (.c8 k)):Inv C g1 β1 s1 a w:=by
 refine⟨h.defers.mono ht,by rw[hlen];exact h.size,xJ,λid ver fr c cI=> ?_,h.trans.trans ht,?_⟩
 ·rcases b5 id ver fr c cI with ho | ⟨id0,v0,c0,h1,h2,h3,h4⟩
  ·exact ho
  have:=mu hle (h.bk id0 v0 fr c0 h1) (id':=id) h3 λpl hp=>⟨rfl,(h4 pl hp).1,(h4 pl hp).2⟩
  rw[h2]at this
  exact this
 ·have hl:=h.le
  have ho:∀id ver,C.E.qi id ver->∃k,id= .c8 k:=λid ver hb=>by
   cases id with
   |c8 k=>exact⟨k,rfl⟩
   |new i j=>exact absurd (hC.1 i j) hb.1
  refine⟨hl.mem.trans (Trans.mem (E:=s.env w g β) (E':=s1.env w g1 β1) ht),λid ver hb=> ?_,λid ver hb hc=> ?_⟩
  ·obtain⟨k,rfl⟩:=ho id ver hb
   obtain⟨h1,h2⟩:=hl.qi _ ver hb
   obtain⟨e1,e2,_⟩:=hold k
   exact⟨e1 h1,λv fr c hh=>let⟨c0,wT⟩:=e2 v fr c hh;h2 v fr c0 wT⟩
  ·obtain⟨k,rfl⟩:=ho id ver hb
   obtain⟨fr,c,hc⟩:=hc
   obtain⟨_,e2,e3⟩:=hold k
   obtain⟨c0,wT⟩:=e2 _ _ _ hc
   obtain⟨h1,h2⟩:=hl.cur _ ver hb ⟨fr,c0,wT⟩
   exact⟨h1,e3.trans h2⟩
theorem Inv.renamed(h:Inv C g β s a w)(hC:C.ok){s1:AS}{β1:Id->Option Pl}(ρ:Ren)(hlen:s1.bK.length=s.bK.length)(hle:oS ρ (s.env w g β) (s1.env w g β1))
  (xJ:∀i,VS (s1.env w g β1) (s1.slot i) (a.tmps.getD i undef)) (b5:∀id ver fr c,s1.bA id=some (.obj ver fr c)->mr (s1.env w g β1) id fr c\/∃v0,s.bA id=some (.obj v0 fr c)/\c.fE ρ=c/\β1 id=β id)
  (hold:∀k,s1.bA (.c8 k)=s.bA (.c8 k)/\β1 (.c8 k)=β (.c8 k)):Inv C g β1 s1 a w:=
 h.Ar hC ρ hlen (Trans.refl w g) hle xJ (λid ver fr c cI=>(b5 id ver fr c cI).imp (λh=>h) λ⟨v0,h1,h2,h3⟩=>⟨id,v0,c,h1,h2,h3,λ_ _=>⟨λ_ h=>h,λh=>h⟩⟩)
  λk=>⟨λhh=>by rw[(hold k).1];exact hh,λv fr c hh=>⟨c,(hold k).1.symm.trans hh⟩,(hold k).2⟩
theorem Inv.Ow(h:Inv C g β s a w)(j:Nat){v:ao}(hv:VS (s.env w g β) v (a.tmps.getD j undef)):Inv C g β (s.put (some j) v) a w:=by
 refine⟨h.defers,by simpa[AS.put]using h.size,λi=> ?_,by simpa using h.bk,h.trans,by simpa using h.le⟩
 rw[AT,yK]
 split
 ·rename_i PM;rw[PM.1];exact hv
 ·exact h.bK i
theorem vI(bI:List Nat):∀(l:List ao) (n i:Nat),(dw bI n l).getD i .undef= .undef\/(dw bI n l).getD i .undef=l.getD i .undef
 |[],n,i=>by simp[dw]
 |v::l,n,0=>by
  simp only[dw,ij]
  split
  ·exact .inr rfl
  ·exact .inl rfl
 |v::l,n,i+1=>by
  simp only[dw,List.getD_cons_succ]
  exact vI bI l (n+1) i
theorem ph(bI:List Nat):∀(l:List ao) (n:Nat),(dw bI n l).length=l.length
 |[],n=>rfl
 |v::l,n=>by simp[dw,ph bI l]
theorem Ax(bI:List Nat):∀(l:List (List c7)) (n i:Nat),(jk bI n l).getD i []=[]\/(jk bI n l).getD i []=l.getD i []
 |[],n,i=>by simp[jk]
 |v::l,n,0=>by
  simp only[jk,ij]
  split
  ·exact .inr rfl
  ·exact .inl rfl
 |v::l,n,i+1=>by
  simp only[jk,List.getD_cons_succ]
  exact Ax bI l (n+1) i
theorem Gr{s:AS}(i:Nat):s.slot i= .undef\/s.slot i∈s.bK:=by
 unfold AS.slot
 rw[ax]
 cases h:s.bK[i]? with
 |none=>exact .inl rfl
 |some v=>exact .inr (cr h)
theorem Jo{s:AS}{id:Id}{e:c7}(h:s.bA id=some e):e∈s.bP\/∃es∈s.news,e∈es:=by
 cases id with
 |c8 k=>exact .inl (cr h)
 |new i j=>
  simp only[AS.bA,ax]at h
  cases hi:s.news[i]? with
  |none=>rw[hi]at h;simp at h
  |some es=>rw[hi]at h;exact .inr ⟨es,cr hi,cr h⟩
theorem Inv.bI(h:Inv C g β s a w)(hC:C.ok){an:jP}(ht:(tS an s).BK=true):Inv C g β (tS an s) a w:=by
 obtain⟨ks,kt,_,_,_⟩:=an
 obtain⟨s1,y6⟩:∃s1:AS,s1= {bK:=dw ks 0 s.bK,bP:=s.bP,news:=jk kt 0 s.news}:=⟨_,rfl⟩
 have e1:s1.bK=dw ks 0 s.bK:=by rw[y6]
 have e2:s1.bP=s.bP:=by rw[y6]
 have e3:s1.news=jk kt 0 s.news:=by rw[y6]
 have ht:(s1.bK.all (ao.there s1) && s1.bP.all (c7.there s1) && s1.news.all λes=>es.all (c7.there s1))=true:=by rw[y6];exact ht
 show Inv C g β {bK:=dw ks 0 s.bK,bP:=s.bP,news:=jk kt 0 s.news} a w
 rw[<-y6]
 rw[ae,ae]at ht
 obtain⟨⟨t1,t2⟩,t3⟩:=ht
 have b5:∀id,s1.bA id=none\/s1.bA id=s.bA id:=λid=>by
  cases id with
  |c8 k=>right;simp only[AS.bA,e2]
  |new i j=>
   simp only[AS.bA,e3]
   rcases Ax kt s.news 0 i with h | h
   ·rw[h];exact .inl rfl
   ·rw[h];exact .inr rfl
 have JD:∀id,(s1.obj id).isSome=true->s1.bA id=s.bA id:=λid hi=>by
  rcases b5 id with h | h
  ·simp[AS.obj,h]at hi
  ·exact h
 let ρ:Ren:=λid ver=>if(s1.obj id).isSome=true then some (id,ver) else none
 have hρ:∀v:ao,v.there s1=true->v.fE ρ=v:=mO λid cI ver=>if_pos cI
 have hle:oS ρ (s.env w g β) (s1.env w g β):=by
  refine⟨⟨λ_ _ _ h=>h,λ_ _ h h'=>⟨h,h'⟩⟩,λid ver r hr hb=> ?_⟩
  by_cases hi:(s1.obj id).isSome=true
  ·have:ρ id ver=some (id,ver):=if_pos hi
   rw[this,al]at hr
   subst hr
   have e:=JD id hi
   obtain⟨b1,b2⟩:=hb
   exact⟨⟨by show s1.bA id≠none;rw[e];exact b1,λv fr c hh=>b2 v fr c (e.symm.trans hh)⟩,λ⟨fr,c,hc⟩=>⟨⟨fr,c,e.symm.trans hc⟩,rfl⟩⟩
  ·have:ρ id ver=none:=if_neg hi
   rw[this]at hr;cases hr
 refine h.renamed hC ρ (by rw[e1,ph]) hle (λi=> ?_) (λid ver fr c cI=> ?_) λk=>⟨by simp only[AS.bA,e2],rfl⟩
 ·rcases Gr (s:=s1) i with hi | hi
  ·rw[hi];exact VS.undef
  ·have Qh:=cG.1 t1 _ hi
   rcases vI ks s.bK 0 i with h1 | h1
   ·have:s1.slot i= .undef:=by simp only[AS.slot,e1,h1]
    rw[this];exact VS.undef
   ·have:s1.slot i=s.slot i:=by simp only[AS.slot,e1,h1]
    have hv:=sE hle (h.bK i)
    rw[<-this,hρ _ Qh]at hv
    exact hv
 ·have:s1.bA id=s.bA id:=by
   rcases b5 id with h | h
   ·rw[h]at cI;cases cI
   ·exact h
  have hc:c7.there s1 (.obj ver fr c)=true:=by
   rcases Jo cI with h | ⟨es,h1,h2⟩
   ·exact cG.1 t2 _ h
   ·exact cG.1 (cG.1 t3 _ h1) _ h2
  rcases HZ c with⟨q,vq,k,v,l,cu,rfl⟩ | ⟨_,Qh⟩
  ·have e:=JD q hc
   refine .inl (ME.bI hle.mem (λ_=>rfl) (h.bk id ver fr _ (this.symm.trans cI)) rfl (λ_ _ h=>h) λvr _=>⟨λhb=>hle.ref q vr (q,vr) (if_pos hc) hb,λk v l hk=>e.trans hk,λ_ _ h=>h⟩)
  ·rw[Qh]at hc
   exact .inr ⟨ver,this.symm.trans cI,hρ c hc,rfl⟩
theorem Inv.drop(h:Inv C g β s a w)(ks:List Nat):Inv C g β (s.drop ks) a w:=by
 refine⟨h.defers,by simpa[AS.drop,ph]using h.size,λi=> ?_,h.bk,h.trans,h.le⟩
 rcases vI ks s.bK 0 i with h1 | h1
 ·have:(s.drop ks).slot i= .undef:=h1
  rw[this];exact VS.undef
 ·have:(s.drop ks).slot i=s.slot i:=h1
  rw[this];exact h.bK i
def p9(b q:Nat):iO->iO
 | .own (.id (.new x j)) k=>if x=b then .own (.id (.new q j)) k else .own (.id (.new x j)) k
 |l=>l
theorem Trans.Ou(w:World)(g:Nat->iO)(b q:Nat):Trans w w g λx=>p9 b q (g x):=by
 refine⟨rfl,rfl,⟨rfl,aw _⟩,aw _,λy _=> ?_⟩
 cases hg:g y with
 |free=>exact⟨by simp[p9],rfl⟩
 |own o k=>cases o with
  |dm=>exact⟨by simp[p9],rfl⟩
  |id x=>
   refine⟨.inr ?_,λ_ _ _ h=>h⟩
   cases x with
   |c8 m=>exact⟨_,_,rfl,aw _⟩
   |new x j=>
    simp only[p9]
    split
    ·exact⟨_,_,rfl,aw _⟩
    ·exact⟨_,_,rfl,aw _⟩
theorem Dd(f:ao->ao)(hf:f .undef= .undef)(l:List ao)(i:Nat):(l.map f).getD i .undef=f (l.getD i .undef):=by
 simp only[ax,dJ]
 cases l[i]? <;> simp[hf]
theorem Inv.qZ(h:Inv C g β s a w)(hC:C.ok){b q:Nat}(MK:b < s.news.length)(RX:q < s.news.length):
  ∃g1 β1,Inv C g1 β1 (s.qZ b q (s.news.getD b [])) a w:=by
 generalize RA:s.news.getD b []=es
 have NI:∀j,s.bA (.new b j)=es[j]? :=λj=>by rw[<-RA];rfl
 let ρ:Ren:=uq es b q
 let s1:=s.qZ b q es
 have iL:∀j',s1.bA (.new q j')=(es[j']?).map (c7.JZ ρ):=λj'=>by
  simp[s1,AS.qZ,AS.bA,ax,RX,ρ]
 have NM:b≠q->∀j',s1.bA (.new b j')=none:=λLF j'=>by
  have hbq':¬q=b:=λe=>LF e.symm
  simp only[s1,AS.qZ,AS.bA,ax]
  rw[dz hbq',List.getElem?_set,if_pos rfl]
  split <;> simp
 have tO:∀i,(∀j',i≠ .new q j')->(∀j',i≠ .new b j')->s1.bA i=(s.bA i).map (c7.zt ρ (rD b q)):=λi hi hi'=>by
  cases i with
  |c8 k=>simp[s1,AS.qZ,AS.bA,ρ]
  |new x y=>
   have h1:¬q=x:=λe=>hi y (by rw[e])
   have h2:¬b=x:=λe=>hi' y (by rw[e])
   simp only[s1,AS.qZ,AS.bA,ax]
   rw[dz h1,dz h2,dJ]
   cases s.news[x]? <;> simp[ρ]
 let g1:Nat->iO:=λx=>p9 b q (g x)
 let β1:Id->Option Pl:=λi=>match i with | .new x j=>if x=q then β (.new b j) else β (.new x j) | .c8 k=>β (.c8 k)
 have hβ1:∀i,(∀j',i≠ .new q j')->β1 i=β i:=λi hi=>by
  cases i with
  |c8 k=>rfl
  |new x y=>exact if_neg λe=>hi y (by rw[e])
 have ht:Trans w w g g1:=Trans.Ou w g _ _
 have hρ:∀i ver r,ρ i ver=some r->(∃j fr c,i= .new b j/\es[j]? =some (.obj ver fr c)/\r=(.new q j,0))\/((∀j',i≠ .new q j')/\(∀j',i≠ .new b j')/\r=(i,ver)):=λi ver r hr=>by
  replace hr:uq es b q i ver=some r:=hr
  cases i with
  |c8 k=>exact .inr ⟨λ_=>by simp,λ_=>by simp,(aN hr).symm⟩
  |new x j=>
   unfold uq at hr
   simp only at hr
   split at hr
   ·rename_i hx
    have hx:x=b:=by simpa using hx
    subst hx
    split at hr
    ·rename_i v fr c he
     split at hr
     ·rename_i hv
      have hv:ver=v:=by simpa using hv
      subst hv
      exact .inl ⟨j,fr,c,rfl,he,(aN hr).symm⟩
     ·cases hr
    ·cases hr
   ·rename_i hx
    have hx:¬x=b:=by simpa using hx
    split at hr
    ·cases hr
    ·rename_i hx'
     have hx':¬x=q:=by simpa using hx'
     exact .inr ⟨λ_ e=>hx' (by injection e),λ_ e=>hx (by injection e),(aN hr).symm⟩
 have hle:oS ρ (s.env w g β) (s1.env w g1 β1):=by
  refine⟨Trans.mem (E:=s.env w g β) (E':=s1.env w g1 β1) ht,λi ver r hr Ga=> ?_⟩
  rcases hρ i ver r hr with⟨j,fr,c,rfl,he,rfl⟩ | ⟨hi,hi',rfl⟩
  ·refine⟨⟨by show s1.bA (.new q j)≠none;rw[iL,he];simp,λ_ _ _ _=>bj _⟩,λ_=>⟨⟨fr,c,(NI j).trans he⟩,if_pos rfl⟩⟩
  ·obtain⟨k1,k2⟩:=Ga
   have k1:s.bA i≠none:=k1
   have e:s1.bA i=(s.bA i).map (c7.zt ρ (rD b q)):=tO i hi hi'
   have back:∀v' fr' c',s1.bA i=some (.obj v' fr' c')->∃c0,s.bA i=some (.obj v' fr' c0):=λv' fr' c' hh=>by
    rw[e]at hh
    cases hs:s.bA i with
    |none=>exact absurd hs k1
    |some en=>
     rw[hs]at hh
     cases en with
     |dead=>simp[c7.zt]at hh
     |obj v0 fr0 c0=>
      simp only[dh,c7.zt,al,c7.obj.injEq]at hh
      obtain⟨rfl,rfl,_⟩:=hh
      exact⟨c0,rfl⟩
   refine⟨⟨by
    show s1.bA i≠none
    rw[e]
    cases hs:s.bA i with
    |none=>exact absurd hs k1
    |some en=>simp,λv' fr' c' hh=> ?_⟩,λ⟨fr',c',hh⟩=> ?_⟩
   ·obtain⟨c0,wT⟩:=back v' fr' c' hh
    exact k2 v' fr' c0 wT
   ·obtain⟨c0,wT⟩:=back ver fr' c' hh
    exact⟨⟨fr',c0,wT⟩,hβ1 i hi⟩
 have OP:∀(i:Id),(∀j',i≠ .new b j')->∀(x:Nat) (k:Nat),g x= .own (.id i) k->g1 x= .own (.id i) k:=λi hi x k hk=>by
  show p9 b q (g x)=_
  rw[hk]
  cases i with
  |c8 m=>rfl
  |new y j=>exact if_neg λe=>hi j (by rw[e])
 refine⟨g1,β1,h.Ar hC ρ (by simp[AS.qZ]) ht hle (λi=> ?_) (λid ver fr' c' cI=> ?_) λk=>⟨λhk=> ?_,λv' fr' c' hh=> ?_,rfl⟩⟩
 ·have:(s.qZ b q es).slot i=(s.slot i).fE ρ:=Dd _ rfl _ _
  rw[this]
  exact sE hle (h.bK i)
 ·have cI:s1.bA id=some (.obj ver fr' c'):=cI
  by_cases hi:∃j',id= .new q j'
  ·obtain⟨j',rfl⟩:=hi
   rw[iL]at cI
   cases he:es[j']? with
   |none=>rw[he]at cI;cases cI
   |some en=>
    rw[he]at cI
    cases en with
    |dead=>simp[c7.JZ]at cI
    |obj v0 fr0 c0=>
     simp only[dh,c7.JZ,al,c7.obj.injEq]at cI
     obtain⟨_,rfl,rfl⟩:=cI
     exact .inr ⟨.new b j',v0,c0,(NI j').trans he,rfl,if_pos rfl,λpl hp=>⟨λk hk=>by
      show p9 b q (g pl.b)=_
      rw[hk];exact if_pos rfl,λhk=>by
      show p9 b q (g pl.b)=_
      rw[hk];rfl⟩⟩
  ·by_cases hi':∃j',id= .new b j'
   ·obtain⟨j',rfl⟩:=hi'
    have LF:b≠q:=λe=>hi ⟨j',by rw[e]⟩
    rw[NM LF]at cI;cases cI
   ·have OT:∀j',id≠ .new q j':=λj' e=>hi ⟨j',e⟩
    have hni':∀j',id≠ .new b j':=λj' e=>hi' ⟨j',e⟩
    have e:=tO id OT hni'
    rw[e]at cI
    cases hs:s.bA id with
    |none=>rw[hs]at cI;cases cI
    |some en=>
     rw[hs]at cI
     cases en with
     |dead=>simp[c7.zt]at cI
     |obj v0 fr0 c0=>
      simp only[dh,c7.zt,al,c7.obj.injEq]at cI
      obtain⟨rfl,rfl,rfl⟩:=cI
      rcases HZ c0 with⟨q2,vq,k,v2,l,cu,rfl⟩ | ⟨Qb,_⟩
      ·have h0:=h.bk id v0 fr0 _ hs
       left
       simp only[ao.Mo]
       cases Q3:rD b q q2 with
       |true=>
        have Fi:(∀j',q2≠ .new b j')/\(∀j',q2≠ .new q j')/\∀vr,ρ q2 vr=some (q2,vr):=by
         cases q2 with
         |c8 k=>exact⟨λ_=>by simp,λ_=>by simp,λ_=>rfl⟩
         |new x y=>
          simp only[rD,ae,bt,decide_eq_false_iff_not]at Q3
          obtain⟨k1,k2⟩:=Q3
          refine⟨λ_ e=>k1 (by injection e),λ_ e=>k2 (by injection e),λvr=> ?_⟩
          show uq es b q (.new x y) vr=_
          unfold uq
          simp only[decide_eq_false k1,decide_eq_false k2]
        obtain⟨Fi,Co,hρq⟩:=Fi
        refine ME.bI hle.mem (λ_=>rfl) h0 (hβ1 id OT) (λpl _ hk=>OP id hni' _ _ hk) λvr _=>⟨λhb=>hle.ref q2 vr (q2,vr) (hρq vr) hb,λk v l hk=> ?_,λpl _ hk=>OP q2 Fi _ _ hk⟩
        have hk:s.bA q2=some (.obj vr true (.mp k v l)):=hk
        show s1.bA q2=_
        rw[tO q2 Co Fi,hk]
        rfl
       |false=>
        obtain⟨pl,mb,since,seen,c0,h1,h2,h3,h4⟩:=h0
        exact⟨pl,mb,since,seen,c0,(hβ1 id OT).trans h1,h2,OP id hni' _ _ h3,λvr Eh=>by omega⟩
      rw[Qb]
      exact .inr ⟨id,v0,c0,hs,rfl,hβ1 id OT,λpl hp=>⟨λk hk=>OP id hni' _ _ hk,λhk=>by
       show p9 b q (g pl.b)=_
       rw[hk];rfl⟩⟩
 ·have e:=tO (.c8 k) (λ_=>by simp) (λ_=>by simp)
  show s1.bA (.c8 k)≠none
  rw[e]
  cases hs:s.bA (.c8 k) with
  |none=>exact absurd hs hk
  |some en=>simp
 ·have e:=tO (.c8 k) (λ_=>by simp) (λ_=>by simp)
  have hh:s1.bA (.c8 k)=some (.obj v' fr' c'):=hh
  rw[e]at hh
  cases hs:s.bA (.c8 k) with
  |none=>rw[hs]at hh;cases hh
  |some en=>
   rw[hs]at hh
   cases en with
   |dead=>simp[c7.zt]at hh
   |obj v0 fr0 c0=>
    simp only[dh,c7.zt,al,c7.obj.injEq]at hh
    obtain⟨rfl,rfl,_⟩:=hh
    exact⟨c0,rfl⟩
theorem yY{k t:Ty}{l:List (k.den×t.den)}:∀ {p:List rN} {x c':ao},¬(ns (.mp k t l) p x).eval=some c'
 |[],x,c',h=>by simp only[ns,ag]at h
 | .arr::p,x,c',h=>by simp only[ns]at h;exact yY h
 | .idx i::p,x,c',h=>by simp only[ns,ag]at h
 | .fst::p,x,c',h=>by simp only[ns,ag]at h
 | .snd::p,x,c',h=>by simp only[ns,ag]at h
theorem Bu{q:Id}{vq:Nat}{k t:Ty}{l:List (k.den×t.den)}{cu:Option (k.den×t.den)}:∀ {p:List rN} {x c':ao},¬(ns (.la q vq k t l cu) p x).eval=some c'
 |[],x,c',h=>by simp only[ns,ag]at h
 | .arr::p,x,c',h=>by simp only[ns]at h;exact Bu h
 | .idx i::p,x,c',h=>by simp only[ns,ag]at h
 | .fst::p,x,c',h=>by simp only[ns,ag]at h
 | .snd::p,x,c',h=>by simp only[ns,ag]at h
theorem Bv{k:lU}{f:ao}{m:Nat}:∀ {p:List rN} {x c':ao},¬(ns (.mV k f m) p x).eval=some c'
 |[],x,c',h=>by simp only[ns,ag]at h
 | .arr::p,x,c',h=>by simp only[ns]at h;exact Bv h
 | .idx i::p,x,c',h=>by simp only[ns,ag]at h
 | .fst::p,x,c',h=>by simp only[ns,ag]at h
 | .snd::p,x,c',h=>by simp only[ns,ag]at h
theorem wz{l:List Value}{n:Nat}{vs:List Value}(h:(l.drop n).take vs.length=vs):cM l n vs=l:=by
 unfold cM
 have h2:l.drop n=vs++l.drop (n+vs.length):=by
  conv=>lhs;rw[<-cQ vs.length (l.drop n)]
  rw[h,eu]
 have h3:=cQ n l
 rw[h2]at h3
 simpa[bC]using h3
theorem Inv.Om(h:Inv C g β s a w){j:Nat}{p:List rN}(wD:(s.at j p).eval=some .c6){q:Nat}(hq:s.dd q=true){e:TypeId}{t:Ty}(hz:0 < t.size){s':AS}
  (he:((s.born q [.obj 0 false (.vec e t [])]).putAt j (.cv (.new q 0) 0 [] 0 0 0) p).eval=some s'):fq C s' a w:=by
 obtain⟨β',h1,h2,h3⟩:=h.Ik hq (e:=e) hz
 cases p with
 |nil=>
  simp only[AS.at]at wD
  have hj:=ak.1 wD
  simp only[AS.putAt]at he
  obtain rfl:=ak.1 he
  refine⟨g,β',h1.Ow j ?_⟩
  have:=h.bK j
  rw[hj]at this
  rw[gV this]
  exact h3
 |cons st p=>
  simp only[AS.at]at wD
  simp only[AS.putAt]at he
  have xJ:(s.born q [.obj 0 false (.vec e t [])]).slot j=s.slot j:=rfl
  rw[xJ]at he
  split at wD
  ·rename_i id ver p0 nn hj
   split at wD
   ·rename_i v fr c ia
    obtain⟨hv,wD⟩:=av.1 wD
    obtain⟨⟨n,u⟩,hl,wD⟩:=ai.1 wD
    have hu:=ak.1 wD
    simp only at hu
    subst hu
    have b5:=dj ia
    have fL:id≠ .new q 0:=λe=>by rw[e,(gG hq).1 0]at b5;cases b5
    have hne':∀j',id≠ .new q j':=λj' e=>by rw[e,(gG hq).1 j']at b5;cases b5
    have nj:(s.born q [.obj 0 false (.vec e t [])]).bA id=some (.obj v fr c):=(fG _ hne').trans b5
    have LW:(s.born q [.obj 0 false (.vec e t [])]).obj id=some (v,fr,c):=by simp only[AS.obj,nj]
    simp only[hj,LW]at he
    split at he
    ·simp only[ag]at he
    ·rename_i c1 PC
     obtain⟨c',wH,he⟩:=ai.1 he
     obtain rfl:=ak.1 he
     have hn:c.fu=false:=by
      cases c <;> first | rfl | (exact(PC _ _ _ rfl).elim) | (exact absurd wH yY) | (exact absurd wH Bu) | (exact absurd wH Bv)
     have hO:=h1.bk id v fr c nj
     obtain⟨pl,cur,e0,hp,hh,hg,hk,hV⟩:=hO.box hn
     have ht:=Trans.refl w g
     have hN:=wQ hk
     have hle:=bV.aD (s:=s.born q [.obj 0 false (.vec e t [])]) (β:=β') (v':=v) (fr':=fr) (c':=c.wrap c') nj (aw _) ht (λ_ _=>rfl) (λ_=>rfl)
     refine⟨g,β',h1.step (cF _ _ _) ht hle (fF.aD h1.bk (by rw[nj];simp) hle (λ_ _=>rfl) (λ_ _ _ _ _ _ _ _=>⟨rfl,rfl⟩) ?_ (jU nj λk v1 l e=>by subst e;exact absurd wH yY))⟩
     obtain⟨cs,k1,k2⟩:=h3
     have k2:cs=[.slice none 0 0]:=k2
     subst k2
     obtain⟨u1,u2,u3⟩:=jY (p0++st::p) c.strip (cur.toList.take (c.mW cur.size)) n .c6 _ c' [.slice none 0 0] (VO.of hV) hl k1 wH
     have u4:=u2.to (u3.lG hV.lG)
     have py:((cur.toList.take (c.mW cur.size)).drop n).take 1=[.slice none 0 0]:=by
      rcases kV (p0++st::p) c.strip (cur.toList.take (c.mW cur.size)) n .c6 (VO.of hV) hl with⟨LV,wT⟩ | ⟨q1,q2⟩
      ·rw[<-wT]at hV
       simp only[V]at hV
       rw[hV,LV]
       rfl
      ·simpa only[V,ao.size]using q1
     rw[wz (vs:=[.slice none 0 0]) py]at u4
     have lz:c'.size=c.strip.size:=by have e1:=u4.size;have e2:=hV.size;omega
     exact uQ.obj ⟨pl,cur,e0,hp,hh,hg,sG hk u4.oB lz,by rw[tm c u4.oB,uV u4.oB lz];exact V.mono hle u4⟩
   ·simp only[ag]at wD
  ·simp only[ag]at wD
theorem sa:∀(ids:List Id) {s:AS} {i:Id} {v:Nat} {fr:Bool} {c:ao},s.bA i=some (.obj v fr c)->∃fr',(s.aP ids).bA i=some (.obj v fr' c)
 |[],s,i,v,fr,c,h=>⟨fr,h⟩
 |id::ids,s,i,v,fr,c,h=>by
  obtain⟨fr',h'⟩:=xt (id:=id) h
  exact sa ids h'
theorem Inv.Ng(h:Inv C g β s a w){j:Nat}{p:List rN}{u:ao}(wD:(s.at j p).eval=some u){t:Ty}{x:t.den}(ht:(s.fK t u).eval=some x){s':AS}
  (he:((s.aP u.shared).putAt j (.d t x) p).eval=some s'):fq C s' a w:=by
 cases p with
 |nil=>
  simp only[AS.at]at wD
  have hj:=ak.1 wD
  simp only[AS.putAt]at he
  obtain rfl:=ak.1 he
  have hs:=h.bK j
  rw[hj]at hs
  obtain⟨g',i1,_,_,cs,hR,hO⟩:=oJ h hs ht
  exact⟨g',β,i1.Ow j (VS.of (a:= .d t x) (cs:=cs) (by simpa only[V]using hR) hO)⟩
 |cons st p=>
  simp only[AS.at]at wD
  simp only[AS.putAt]at he
  have xJ:(s.aP u.shared).slot j=s.slot j:=by simp only[AS.slot,je]
  rw[xJ]at he
  split at wD
  ·rename_i id ver p0 nn hj
   split at wD
   ·rename_i v fr c ia
    obtain⟨hv,wD⟩:=av.1 wD
    obtain⟨⟨n,u'⟩,hl,wD⟩:=ai.1 wD
    have hu:=ak.1 wD
    simp only at hu
    subst hu
    have b5:=dj ia
    obtain⟨g',h1,h2,h3,h4⟩:=eA u'.shared h
    obtain⟨fr',nj⟩:=sa u'.shared b5
    have LW:(s.aP u'.shared).obj id=some (v,fr',c):=by simp only[AS.obj,nj]
    simp only[hj,LW]at he
    split at he
    ·simp only[ag]at he
    ·rename_i c1 PC
     obtain⟨c',wH,he⟩:=ai.1 he
     obtain rfl:=ak.1 he
     have hn:c.fu=false:=by
      cases c <;> first | rfl | (exact(PC _ _ _ rfl).elim) | (exact absurd wH yY) | (exact absurd wH Bu) | (exact absurd wH Bv)
     obtain⟨pl0,cur0,e00,LY,LN,LL,Kt,hV0⟩:=(h.bk id v fr c b5).box hn
     obtain⟨pl,cur,e0,hp,hh,hg,hk,hV⟩:=(h1.bk id v fr' c nj).box hn
     have wF:pl0=pl:=by
      have LY:β id=some pl0:=LY
      have hp:β id=some pl:=hp
      rw[LY]at hp
      exact aN hp
     subst wF
     have dV:cur0=cur:=by
      have LN:w.heap[pl0.b]? =_:=LN
      have hh:w.heap[pl0.b]? =_:=hh
      rw[LN]at hh
      simpa using(congrArg (λo=>match o with | some (.cells x _ _)=>x | _=>cur0) hh)
     subst dV
     obtain⟨cs,hVu,py⟩:∃cs,V (s.env w g β) u' cs/\((cur0.toList.take (c.mW cur0.size)).drop n).take cs.length=cs:=by
      rcases kV (p0++st::p) c.strip (cur0.toList.take (c.mW cur0.size)) n u' (VO.of hV0) hl with⟨LV,wT⟩ | ⟨q1,q2⟩
      ·refine⟨cur0.toList.take (c.mW cur0.size),by rw[wT];exact hV0,?_⟩
       rw[LV,aL,cX]
      ·refine⟨_,q1,?_⟩
       rw[cn,cH]
       congr 1
       omega
     have hR:=mS rfl h.bk h2 u' t x cs hVu ht h4
     have hVx:V ((s.aP u'.shared).env w g' β) (.d t x) cs:=by simpa only[V]using hR
     have ht':=Trans.refl w g'
     have hle:=bV.aD (s:=s.aP u'.shared) (β:=β) (v':=v) (fr':=fr') (c':=c.wrap c') nj (aw _) ht' (λ_ _=>rfl) (λ_=>rfl)
     refine⟨g',β,h1.step (cF _ _ _) ht' hle (fF.aD h1.bk (by rw[nj];simp) hle (λ_ _=>rfl) (λ_ _ _ _ _ _ _ _=>⟨rfl,rfl⟩) ?_ (jU nj λk v1 l e=>by subst e;exact absurd wH yY))⟩
     obtain⟨u1,u2,u3⟩:=jY (p0++st::p) c.strip (cur0.toList.take (c.mW cur0.size)) n u' _ c' cs (VO.of hV) hl hVx wH
     have u4:=u2.to (u3.lG hV.lG)
     rw[wz (vs:=cs) py]at u4
     have lz:c'.size=c.strip.size:=by have e1:=u4.size;have e2:=hV.size;omega
     exact uQ.obj ⟨pl0,cur0,e0,hp,hh,hg,sG hk u4.oB lz,by rw[tm c u4.oB,uV u4.oB lz];exact V.mono hle u4⟩
   ·simp only[ag]at wD
  ·simp only[ag]at wD
theorem sS{E:Env}:∀(t:Ty) (x:t.den) (u:ao),(tI t x).eval=some u->∀cs,cC E t cs x->V E u cs
 | .fm t,x,u,h,cs,hr=>by
  simp only[tI]at h
  obtain⟨h1,h2⟩:=bl.1 h
  obtain rfl:=ak.1 h2
  simp only[cC]at hr
  simp only[V]
  exact hr.1 (Option.isNone_iff_eq_none.1 h1)
 | .pair a b,x,u,h,cs,hr=>by
  simp only[tI]at h
  obtain⟨u1,h1,h2⟩:=ai.1 h
  obtain⟨u2,h3,h4⟩:=ai.1 h2
  obtain rfl:=ak.1 h4
  simp only[cC]at hr
  obtain⟨ca,cb,rfl,ha,hb⟩:=hr
  exact DH (sS a x.1 u1 h1 ca ha) (sS b x.2 u2 h3 cb hb)
 | .int k,x,u,h,cs,hr=>by simp only[tI]at h;obtain rfl:=ak.1 h;simpa only[V]using hr
 | .bool,x,u,h,cs,hr=>by simp only[tI]at h;obtain rfl:=ak.1 h;simpa only[V]using hr
 | .str,x,u,h,cs,hr=>by simp only[tI]at h;obtain rfl:=ak.1 h;simpa only[V]using hr
 | .slice t,x,u,h,cs,hr=>by simp only[tI]at h;obtain rfl:=ak.1 h;simpa only[V]using hr
 | .unit,x,u,h,cs,hr=>by simp only[tI]at h;obtain rfl:=ak.1 h;simpa only[V]using hr
 | .arr n t,x,u,h,cs,hr=>by simp only[tI]at h;obtain rfl:=ak.1 h;simpa only[V]using hr
 | .lu t,x,u,h,cs,hr=>by simp only[tI]at h;obtain rfl:=ak.1 h;simpa only[V]using hr
theorem FQ{e:TypeId}{z:Nat}{c:ao}{pl:Pl}{n:Nat}(hz:0 < z)(h1:n=pl.cap*z)(h2:pl.cap<=maxLen)(h3:c.size<=n):(ao.bx e z c).qC pl n e:=by
 cases z with
 |zero=>omega
 |succ z=>exact⟨rfl,h1,h2,h3⟩
theorem BT{e:TypeId}{z:Nat}{c:ao}{n:Nat}(hz:0 < z):(ao.bx e z c).mW n=c.size:=by
 cases z with
 |zero=>omega
 |succ z=>rfl
theorem Bj{e e':TypeId}{z:Nat}{c:ao}{pl:Pl}{n:Nat}(hz:0 < z)(h:(ao.bx e z c).qC pl n e'):e'=e/\n=pl.cap*z/\pl.cap<=maxLen/\c.size<=n:=by
 cases z with
 |zero=>omega
 |succ z=>exact h
theorem C0{E:Env}{id:Id}{ver n:Nat}{p p':List rN}{y:Value}(h:VS E (.ptr id ver p n) y):VS E (.ptr id ver p' n) y:=by
 obtain⟨cs,h1,h2⟩:=h
 exact⟨cs,by simpa only[V]using h1,h2⟩
theorem Inv.Nk(h:Inv C g β s a w){j:Nat}{id:Id}{ver n k v:Nat}{p p':List rN}(hj:s.slot j= .ptr id ver p n){e:TypeId}{t:Ty}{r:List t.den}(ia:s.obj id=some (v,false,.vec e t r))
  (hk:k < r.length) {u:ao} (hu:(tI t (nth t r k)).eval=some u):
  fq C ((s.aD id (.obj v false (.bx e t.size (.pr (.d (.arr k t) (r.take k)) (.pr u (.d (.arr (r.drop (k+1)).length t) (r.drop (k+1)))))))).put (some j) (.ptr id ver p' n)) a w:=by
 have b5:=dj ia
 obtain⟨hz,hO⟩:mr (s.env w g β) id false (.vec e t r):=h.bk id v false _ b5
 have hO:(match β id with
  |none=>r=[]
  |some pl=>∃cur k,w.heap[pl.b]? =some (.cells cur e (0,0))/\cur.size=pl.cap*t.size/\r.length<=pl.cap/\pl.cap<=maxLen/\g pl.b= .own (.id id) k/\
    k<=r.length*t.size/\(false=false->k=0)/\aM (cC (s.env w g β) t) (cur.toList.take (r.length*t.size)) r):=hO
 have ht:=Trans.refl w g
 have hle:bV (s.env w g β) ((s.aD id (.obj v false (.bx e t.size (.pr (.d (.arr k t) (r.take k)) (.pr u (.d (.arr (r.drop (k+1)).length t) (r.drop (k+1)))))))).env w g β):=
  bV.aD b5 (aw _) ht (λ_ _=>rfl) (λ_=>rfl)
 have hI:=h.step (cF _ _ _) ht hle (fF.aD h.bk (by rw[b5];simp) hle (λ_ _=>rfl) (λ_ _ _ _ _ _ _ _=>⟨rfl,rfl⟩) (LU:=tV b5) (by
  cases hp:β id with
  |none=>rw[hp]at hO;simp only at hO;subst hO;simp at hk
  |some pl=>
   rw[hp]at hO
   obtain⟨cur,k0,q1,q2,q3,q4,q5,q6,q7,q8⟩:=hO
   have Kt:=q7 rfl
   subst Kt
   have Dz:∀c x,cC (s.env w g β) t c x->c.length=t.size:=λc x hx=>hx.size
   have c1:=aM.take Dz k q8
   have c2:=(q8.get Dz k hk)
   have c3:=aM.drop Dz (k+1) q8
   have BB:V (s.env w g β) u (((cur.toList.take (r.length*t.size)).drop (k*t.size)).take t.size):=sS t _ u (by rw[yr hk]at hu;exact hu) _ c2
   have R6:=BB.size
   have hlen:(cur.toList.take (r.length*t.size)).length=r.length*t.size:=aM.length Dz q8
   have lz:r.length*t.size<=cur.size:=by rw[q2];exact cE _ q3
   have Sy:(k+1)*t.size<=r.length*t.size:=cE _ hk
   have Fi:(k+1)*t.size=k*t.size+t.size:=Nat.succ_mul k t.size
   have L9:u.size=t.size:=by rw[<-R6,cn,cH,hlen];omega
   have hm:(r.drop (k+1)).length*t.size=r.length*t.size - (k+1)*t.size:=by rw[cH,Nat.sub_mul]
   have Gc:(ao.pr (.d (.arr k t) (r.take k)) (.pr u (.d (.arr (r.drop (k+1)).length t) (r.drop (k+1))))).size=r.length*t.size:=by
    simp only[ao.size,Ty.size,L9,hm]
    omega
   refine uQ.obj ⟨pl,cur,e,hp,q1,q5,FQ hz q2 q4 (by rw[Gc];exact lz),?_⟩
   rw[BT hz,Gc]
   refine V.mono hle ?_
   show V _ (.pr (.d (.arr k t) (r.take k)) (.pr u (.d (.arr (r.drop (k+1)).length t) (r.drop (k+1))))) _
   simp only[V]
   generalize cur.toList.take (r.length*t.size)=R at*
   refine⟨R.take (k*t.size),R.drop (k*t.size),(cQ _ _).symm,?_,(R.drop (k*t.size)).take t.size,R.drop ((k+1)*t.size),?_,BB,?_⟩
   ·simp only[cC]
    exact⟨by rw[cn];omega,c1⟩
   ·rw[Fi,<-eu,cQ]
   ·simp only[cC]
    exact⟨trivial,c3⟩))
 refine⟨g,β,hI.Ow j ?_⟩
 have:=h.bK j
 rw[hj]at this
 exact C0 (VS.mono hle this)
theorem va:∀(l:List Nat) {s s1:AS},fq C s a w->(F6 s l).eval=some s1->fq C s1 a w
 |[],s,s1,h,he=>by
  simp only[F6]at he
  obtain rfl:=ak.1 he
  exact h
 |j::l,s,s1,h,he=>by
  obtain⟨g,β,h⟩:=h
  simp only[F6]at he
  split at he
  ·rename_i id ver k p n hj
   split at he
   ·rename_i v e t r ia
    obtain⟨h1,he⟩:=av.1 he
    obtain⟨h2,he⟩:=bl.1 he
    obtain⟨u,h3,he⟩:=ai.1 he
    exact va l (h.Nk hj ia (of_decide_eq_true h2) h3) he
   ·simp only[ag]at he
  ·exact va l ⟨g,β,h⟩ he
  ·simp only[ag]at he
theorem u5{s:AS}{id i:Id}(h:i≠id):(s.freeze id).bA i=s.bA i:=by
 unfold AS.freeze
 split
 ·exact cq s id i _ h
 ·rfl
theorem ni:∀(ids:List Id) {s:AS} {i:Id},i ∉ ids->(s.aP ids).bA i=s.bA i
 |[],_,_,_=>rfl
 |id::ids,s,i,h=>by
  have h1:i≠id:=λe=>h (by rw[e];exact aI)
  exact(ni ids λhi=>h (aH _ hi)).trans (u5 h1)
theorem Inv.Oz(h:Inv C g β s a w){j:Nat}{id:Id}{ver n k m v z:Nat}{p p':List rN}(hj:s.slot j= .ptr id ver p n){e:TypeId}{t:Ty}{l1 l2:List t.den}{u:ao}
  (ia:s.obj id=some (v,false,.bx e z (.pr (.d (.arr k t) l1) (.pr u (.d (.arr m t) l2))))) (hz:z=t.size) (Md:0 < z) (cI:id ∉ u.shared) {x:t.den} (hx:(s.fK t u).eval=some x):
  fq C (((s.aP u.shared).aD id (.obj v false (.vec e t (l1++x::l2)))).put (some j) (.ptr id ver p' n)) a w:=by
 have b5:=dj ia
 obtain⟨pl0,cur0,e0,LY,LN,LL,Kt,hV0⟩:=(h.bk id v false _ b5).box rfl
 obtain⟨g',h1,h2,h3,h4⟩:=eA u.shared h
 have nj:(s.aP u.shared).bA id=some (.obj v false (.bx e z (.pr (.d (.arr k t) l1) (.pr u (.d (.arr m t) l2))))):=(ni _ cI).trans b5
 obtain⟨pl,cur,e1,hp,hh,hg,hk,hV⟩:=(h1.bk id v false _ nj).box rfl
 have hp:β id=some pl:=hp
 have wF:pl0=pl:=by
  have LY:β id=some pl0:=LY
  rw[LY]at hp
  exact aN hp
 subst wF
 have dV:cur0=cur:=by
  have LN:w.heap[pl0.b]? =_:=LN
  have hh:w.heap[pl0.b]? =_:=hh
  rw[LN]at hh
  simpa using(congrArg (λo=>match o with | some (.cells x _ _)=>x | _=>cur0) hh)
 subst dV
 obtain⟨rfl,q2,q4,q3⟩:=Bj Md hk
 rw[BT Md]at hV0
 have hV0:V (s.env w g β) (.pr (.d (.arr k t) l1) (.pr u (.d (.arr m t) l2))) _:=hV0
 have R1:=hV0.size
 simp only[V]at hV0
 obtain⟨ca,cb,hR,hA,cu,cc,LG,hU,hB⟩:=hV0
 subst LG
 simp only[cC]at hA hB
 have hX:=mS rfl h.bk h2 u t x cu hU hx h4
 have Dz:∀c x,cC ((s.aP u.shared).env w g' β) t c x->c.length=t.size:=λc x hx=>hx.size
 have cA:=hA.2.mono λ_ _ hx=>hx.mono h2.mem
 have cB:=hB.2.mono λ_ _ hx=>hx.mono h2.mem
 have mi:aM (cC ((s.aP u.shared).env w g' β) t) (ca++(cu++cc)) (l1++x::l2):=aM.append cA ⟨cu,cc,rfl,hX,cB⟩
 have hlen:=aM.length Dz mi
 have Gc:(ao.pr (.d (.arr k t) l1) (.pr u (.d (.arr m t) l2))).size=(l1++x::l2).length*t.size:=by rw[<-hlen,<-hR];exact R1.symm
 rw[Gc]at hR q3
 rw[hz]at q2
 have Ee:(l1++x::l2).length<=pl0.cap:=by
  rw[q2]at q3
  exact Nat.le_of_mul_le_mul_right q3 (by omega)
 have ht:=Trans.refl w g'
 have hle:bV ((s.aP u.shared).env w g' β) (((s.aP u.shared).aD id (.obj v false (.vec e1 t (l1++x::l2)))).env w g' β):=bV.aD nj (aw _) ht (λ_ _=>rfl) (λ_=>rfl)
 have hI:=h1.step (cF _ _ _) ht hle (fF.aD h1.bk (by rw[nj];simp) hle (λ_ _=>rfl) (λ_ _ _ _ _ _ _ _=>⟨rfl,rfl⟩) (LU:=jU nj λ_ _ _ e=>by cases e) (by
  refine⟨by omega,?_⟩
  show(match β id with
   |none=>l1++x::l2=[]
   |some pl=>_)
  rw[hp]
  exact⟨cur0,0,hh,q2,Ee,q4,hg,bj _,λ_=>rfl,by rw[hR];exact mi.mono λ_ _ hx=>hx.mono hle.mem⟩))
 refine⟨g',β,hI.Ow j ?_⟩
 have:=h.bK j
 rw[hj]at this
 exact C0 (VS.mono (h2.trans hle) this)
theorem AB:∀(l:List Nat) {s s1:AS},fq C s a w->(IN s l).eval=some s1->fq C s1 a w
 |[],s,s1,h,he=>by
  simp only[IN]at he
  obtain rfl:=ak.1 he
  exact h
 |j::l,s,s1,h,he=>by
  obtain⟨g,β,h⟩:=h
  simp only[IN]at he
  split at he
  ·rename_i id ver p n hj
   split at he
   ·rename_i v e z k t l1 u m t' l2 ia
    obtain⟨h1,he⟩:=av.1 he
    obtain⟨l2',h2,he⟩:=ai.1 he
    obtain⟨x,h3,he⟩:=ai.1 he
    simp only[ae,beq_iff_eq,bt,beq_eq_false_iff_ne]at h1
    obtain⟨⟨⟨h5,h6⟩,h7⟩,h8⟩:=h1
    obtain⟨et,hl⟩:=gh (gC.1 h2)
    have et':t'=t:=by simpa using et
    subst et'
    simp only at hl
    subst hl
    refine AB l (h.Oz hj ia h6 (by omega) (λhi=> ?_) h3) he
    have:(u.shared.any λi=>decide (i=id))=true:=List.any_eq_true.2 ⟨id,hi,by simp⟩
    rw[this]at h8
    cases h8
   ·simp only[ag]at he
  ·simp only[ag]at he
theorem od:∀(l:List OG) {s s1:AS},fq C s a w->(vU s l).eval=some s1->fq C s1 a w
 |[],s,s1,h,he=>by
  simp only[vU]at he
  obtain rfl:=ak.1 he
  exact h
 |o::l,s,s1,h,he=>by
  obtain⟨g,β,h⟩:=h
  unfold vU at he
  split at he
  ·exact od l ⟨g,β,h⟩ he
  obtain⟨u,hu,he⟩:=ai.1 he
  obtain⟨x,hx,he⟩:=ai.1 he
  obtain⟨s',hs,he⟩:=ai.1 he
  exact od l (h.Ng hu hx hs) he
theorem jl(hC:C.ok):∀(l:List Jc) {s s1:AS},fq C s a w->(nM P s l).eval=some s1->fq C s1 a w
 |[],s,s1,h,he=>by
  simp only[nM]at he
  obtain rfl:=ak.1 he
  exact h
 |o::l,s,s1,h,he=>by
  obtain⟨g,β,h⟩:=h
  unfold nM at he
  split at he
  ·exact jl hC l ⟨g,β,h⟩ he
  obtain⟨u,hu,he⟩:=ai.1 he
  split at he
  ·split at he
   ·rename_i e t b rR hv
    obtain⟨s',h1,h2⟩:=ai.1 he
    exact jl hC l (h.Om hu hv (zf rR) h1) h2
   ·simp only[ag]at he
  ·split at he
   ·rename_i b j ver QZ
    split at he
    ·rename_i v fr c ia hm
     split at he
     ·have MK:b < s.news.length:=by
       have:=dj ia
       simp only[AS.bA,ax]at this
       cases hn:s.news[b]? with
       |none=>rw[hn]at this;simp at this
       |some es=>exact(cT.1 hn).1
      obtain⟨g1,β1,h1⟩:=h.qZ hC MK (by simpa using hm)
      exact jl hC l ⟨g1,β1,h1⟩ he
     ·simp only[ag]at he
    ·simp only[ag]at he
   ·simp only[ag]at he
theorem tp:∀(l:List Nat) {s s1:AS},fq C s a w->(AA s l).eval=some s1->fq C s1 a w
 |[],s,s1,h,he=>by
  simp only[AA]at he
  obtain rfl:=ak.1 he
  exact h
 |j::l,s,s1,h,he=>by
  obtain⟨g,β,h⟩:=h
  simp only[AA]at he
  split at he
  ·rename_i id ver len hj
   split at he
   ·rename_i v e t r ia
    split at he
    ·obtain⟨h1,h2⟩:=bl.1 he
     have h1:len<=r.length:=by simpa using h1
     refine tp l ?_ h2
     have b5:=dj ia
     have hO:mr (s.env w g β) id false (.vec e t r):=h.bk id v false _ b5
     have ht:=Trans.refl w g
     have hle:bV (s.env w g β) ((s.aD id (.obj v false (.vec e t (r.take len)))).env w g β):=bV.aD b5 (aw _) ht (λ_ _=>rfl) (λ_=>rfl)
     refine⟨g,β,h.step (cF _ _ _) ht hle (fF.aD h.bk (by rw[b5];simp) hle (λ_ _=>rfl) (λ_ _ _ _ _ _ _ _=>⟨rfl,rfl⟩) ?_ (tV b5))⟩
     obtain⟨hz,hO⟩:=hO
     refine⟨hz,?_⟩
     have hO:(match β id with
      |none=>r=[]
      |some pl=>∃cur k,w.heap[pl.b]? =some (.cells cur e (0,0))/\cur.size=pl.cap*t.size/\r.length<=pl.cap/\pl.cap<=maxLen/\g pl.b= .own (.id id) k/\
        k<=r.length*t.size/\(false=false->k=0)/\aM (cC (s.env w g β) t) (cur.toList.take (r.length*t.size)) r):=hO
     show(match β id with
      |none=>r.take len=[]
      |some pl=>_)
     cases hp:β id with
     |none=>rw[hp]at hO;simp only at hO;subst hO;simp
     |some pl=>
      rw[hp]at hO
      obtain⟨cur,k,q1,q2,q3,q4,q5,q6,q7,q8⟩:=hO
      have hk:=q7 rfl
      subst hk
      have hlen:(r.take len).length=len:=by simp;omega
      refine⟨cur,0,q1,q2,by omega,q4,q5,bj _,λ_=>rfl,?_⟩
      have:=aM.take (λ_ _ hx=>cC.size hx) len q8
      rw[gA,dY (cE _ h1)]at this
      rw[hlen]
      exact this.mono λ_ _ hx=>hx.mono hle.mem
    ·simp only[ag]at he
   ·simp only[ag]at he
  ·simp only[ag]at he
theorem tA:∀(l:List (Nat×Ty)) {s s1:AS},fq C s a w->(asData s l).eval=some s1->fq C s1 a w
 |[],s,s1,h,he=>by
  simp only[asData]at he
  obtain rfl:=ak.1 he
  exact h
 | (j,t)::l,s,s1,h,he=>by
  obtain⟨g,β,h⟩:=h
  simp only[asData]at he
  obtain⟨x,h1,h2⟩:=ai.1 he
  obtain⟨g',i1,_,_,cs,hR,hO⟩:=oJ h (h.bK j) h1
  exact tA l ⟨g',β,i1.Ow j (VS.of (a:= .d t x) (cs:=cs) (by simpa only[V]using hR) hO)⟩ h2
theorem Inv.still:∀(l:List Nat) {s:AS},Inv C g β s a w->Inv C g β (s.still l) a w
 |[],s,h=>h
 |q::l,s,h=>by
  simp only[AS.still]
  split
  ·rename_i v fr i ver k t r cu ia
   exact Inv.still l (h.KH (dj ia) (.inr ⟨rfl,rfl,rfl⟩))
  ·exact Inv.still l h
theorem vQ{α:Type}(l:List α):(DR l).Perm l:=Quotient.exact (s:=Iq α) (Quotient.exists_rep (Quotient.mk (Iq α) l)).choose_spec
theorem Inv.canon:∀(l:List Id) {s:AS},Inv C g β s a w->Inv C g β (s.canon l) a w
 |[],s,h=>h
 |id::l,s,h=>by
  simp only[AS.canon]
  split
  ·rename_i v fr k t r ia
   have b5:=dj ia
   have ht:=Trans.refl w g
   have hle:bV (s.env w g β) ((s.aD id (.obj v fr (.mp k t (DR r)))).env w g β):=bV.aD b5 (aw _) ht (λ_ _=>rfl) (λ_=>rfl)
   obtain⟨pl,es,clock,h1,h2,h3,⟨⟨l',h4,h5⟩,h6⟩,h7⟩:=h.bk id v fr _ b5
   refine Inv.canon l (h.step (cF _ _ _) ht hle (fF.aD h.bk (by rw[b5];simp) hle (λ_ _=>rfl) (λ_ _ _ _ _ _ _ _=>⟨rfl,rfl⟩)
    ⟨pl,es,clock,h1,h2,h3,⟨⟨l',h4.mono λ_ _ he=>he.mono hle.mem,h5.trans (vQ r).symm⟩,(((vQ r).map _).nodup_iff).2 h6⟩,h7⟩ ?_))
   intro ver k' v' l2 hl
   rw[b5]at hl
   simp only[al,c7.obj.injEq]at hl
   obtain⟨rfl,rfl,_⟩:=hl
   exact⟨rfl,rfl,⟨_,_,_,rfl⟩,λ_ _=>⟨rfl,rfl⟩⟩
  ·exact Inv.canon l h
theorem BX(k v n:Nat)(i:Id)(ver:Nat):(i= .c8 k/\ver=v/\my k v n i ver=some (.c8 k,n))\/(i= .c8 k/\my k v n i ver=none)\/(i≠ .c8 k/\my k v n i ver=some (i,ver)):=by
 cases i with
 |new x j=>exact .inr (.inr ⟨by simp,rfl⟩)
 |c8 j=>
  simp only[my]
  cases h1:Nat.beq j k with
  |false=>exact .inr (.inr ⟨λe=>by injection e with e;subst e;simp at h1,rfl⟩)
  |true=>
   obtain rfl:=dE h1
   cases h2:Nat.beq ver v with
   |false=>exact .inr (.inl ⟨rfl,rfl⟩)
   |true=>exact .inl ⟨rfl,dE h2,rfl⟩
theorem BV(hC:C.ok){s s1:AS}(h:Inv C g β s a w){k n:Nat}(he:(s.Hp k n).eval=some s1):Inv C g β s1 a w:=by
 unfold AS.Hp at he
 split at he
 rotate_left
 ·exact(ag.1 he).elim
 rename_i v fr c hk
 obtain⟨Q9,he⟩:=av.1 he
 have Q9:v<=n\/1<=n:=(Bool.or_eq_true_iff.1 Q9).imp eL eL
 have hz:∀ver,C.E.qi (.c8 k) ver->ver=0:=λver hb=>by
  obtain⟨h1,h2⟩:=hb
  cases hs:C.E.s (.c8 k) with
  |none=>exact absurd hs h1
  |some en=>
   cases en with
   |dead=>
    have:=(h.le.qi (.c8 k) (v+1) ⟨h1,λv' fr' c' hh=>by rw[hs]at hh;cases hh⟩).2 _ _ _ hk
    omega
   |obj v0 fr0 c0=>
    have:=hC.2 _ _ _ _ hs
    have:=h2 _ _ _ hs
    omega
 obtain rfl:=ak.1 he
 have RK:k < s.bP.length:=by
  rcases jQ k s.bP.length with h | h
  ·exact h
  ·simp[AS.bA,cW h]at hk
 generalize y6:({bK:=s.bK.map (ao.fE (my k v n)),bP:=(s.bP.map (c7.EH (my k v n))).set k (.obj n fr (c.fE (my k v n))),news:=s.news.map λes=>es.map (c7.EH (my k v n))}:AS)=s1
 have e0:s1.bA (.c8 k)=some (.obj n fr (c.fE (my k v n))):=by
  rw[<-y6]
  simp[AS.bA,RK]
 have e1:∀i,i≠ .c8 k->s1.bA i=(s.bA i).map (c7.EH (my k v n)):=λi hi=>by
  rw[<-y6]
  cases i with
  |c8 j=>
   have:¬k=j:=λe=>hi (by rw[e])
   simp only[AS.bA]
   rw[dz this,dJ]
  |new x j=>
   simp only[AS.bA,ax,dJ]
   cases s.news[x]? <;> simp
 have e2:∀i v' fr' c',i≠ .c8 k->s1.bA i=some (.obj v' fr' c')->∃c0,s.bA i=some (.obj v' fr' c0)/\c'=c0.fE (my k v n):=λi v' fr' c' hi hh=>by
  rw[e1 i hi]at hh
  cases hs:s.bA i with
  |none=>rw[hs]at hh;cases hh
  |some en=>
   rw[hs]at hh
   cases en with
   |dead=>simp[c7.EH]at hh
   |obj v0 fr0 c0=>
    simp only[dh,c7.EH,al,c7.obj.injEq]at hh
    obtain⟨rfl,rfl,rfl⟩:=hh
    exact⟨c0,rfl,rfl⟩
 have e3:∀i,i≠ .c8 k->s.bA i≠none->s1.bA i≠none:=λi hi hh=>by
  rw[e1 i hi]
  cases hs:s.bA i with
  |none=>exact absurd hs hh
  |some en=>simp
 have hle:oS (my k v n) (s.env w g β) (s1.env w g β):=by
  refine⟨Trans.mem (E:=s.env w g β) (E':=s1.env w g β) (Trans.refl w g),λi ver r hr Ga=> ?_⟩
  rcases BX k v n i ver with⟨rfl,rfl,e⟩ | ⟨rfl,e⟩ | ⟨hi,e⟩
  ·rw[e]at hr
   obtain rfl:=aN hr
   refine⟨⟨by show s1.bA (.c8 k)≠none;rw[e0];simp,λv' fr' c' hh=> ?_⟩,λ_=>⟨⟨fr,c,hk⟩,rfl⟩⟩
   have hh:s1.bA (.c8 k)=some (.obj v' fr' c'):=hh
   rw[e0]at hh
   simp only[al,c7.obj.injEq]at hh
   exact Nat.le_of_eq hh.1
  ·rw[e]at hr
   cases hr
  ·rw[e]at hr
   obtain rfl:=aN hr
   obtain⟨k1,k2⟩:=Ga
   have k1:s.bA i≠none:=k1
   have k2:∀v' fr' c',s.bA i=some (.obj v' fr' c')->ver<=v':=k2
   refine⟨⟨e3 i hi k1,λv' fr' c' hh=> ?_⟩,λ⟨fr',c',hh⟩=> ?_⟩
   ·obtain⟨c0,wT,_⟩:=e2 i v' fr' c' hi hh
    exact k2 _ _ _ wT
   ·obtain⟨c0,wT,_⟩:=e2 i ver fr' c' hi hh
    exact⟨⟨fr',c0,wT⟩,rfl⟩
 refine⟨h.defers,by rw[<-y6];simpa using h.size,λi=> ?_,λid ver fr' c' cI=> ?_,h.trans,?_⟩
 ·have:s1.slot i=(s.slot i).fE (my k v n):=by rw[<-y6];exact Dd _ rfl _ _
  rw[this]
  exact sE hle (h.bK i)
 ·have cI:s1.bA id=some (.obj ver fr' c'):=cI
  by_cases hi:id= .c8 k
  ·subst hi
   rw[e0]at cI
   simp only[al,c7.obj.injEq]at cI
   obtain⟨rfl,rfl,rfl⟩:=cI
   exact mu hle (h.bk (.c8 k) v fr c hk) (id':= .c8 k) rfl λpl _=>⟨rfl,λ_ h=>h,λh=>h⟩
  ·obtain⟨c0,wT,rfl⟩:=e2 id ver fr' c' hi cI
   exact mu hle (h.bk id ver fr' c0 wT) (id':=id) rfl λpl _=>⟨rfl,λ_ h=>h,λh=>h⟩
 ·have hl:=h.le
  refine⟨hl.mem.trans (Trans.mem (E:=s.env w g β) (E':=s1.env w g β) (Trans.refl w g)),λid ver hb=> ?_,λid ver hb hc=> ?_⟩
  ·obtain⟨h1,h2⟩:=hl.qi _ ver hb
   have h1:s.bA id≠none:=h1
   have h2:∀v' fr' c',s.bA id=some (.obj v' fr' c')->ver<=v':=h2
   by_cases hi:id= .c8 k
   ·subst hi
    obtain rfl:=hz ver hb
    exact⟨by show s1.bA (.c8 k)≠none;rw[e0];simp,λv' fr' c' hh=>bj _⟩
   ·exact⟨e3 id hi h1,λv' fr' c' hh=>let⟨c0,wT,_⟩:=e2 id v' fr' c' hi hh;h2 _ _ _ wT⟩
  ·obtain⟨fr',c',hc⟩:=hc
   have hc:s1.bA id=some (.obj ver fr' c'):=hc
   by_cases hi:id= .c8 k
   ·subst hi
    obtain rfl:=hz ver hb
    rw[e0]at hc
    simp only[al,c7.obj.injEq]at hc
    have e4:=hc.1
    obtain rfl:v=0:=by omega
    exact hl.cur _ _ hb ⟨fr,c,hk⟩
   ·obtain⟨c0,wT,_⟩:=e2 id ver fr' c' hi hc
    exact hl.cur _ _ hb ⟨fr',c0,wT⟩
theorem pH(hC:C.ok):∀(l:List (Nat×Nat)) {s s1:AS},Inv C g β s a w->(BW s l).eval=some s1->Inv C g β s1 a w
 |[],s,s1,h,he=>by
  obtain rfl:=ak.1 he
  exact h
 |x::l,s,s1,h,he=>by
  obtain⟨s2,h1,h2⟩:=ai.1 he
  exact pH hC l (BV hC h h1) h2
theorem jH(hC:C.ok){an:jP}{s1:AS}(h:fq C s a w)(he:(norm P an s).eval=some s1):fq C s1 a w:=by
 unfold norm at he
 obtain⟨sb,Rm,he⟩:=ai.1 he
 obtain⟨su,Rn,he⟩:=ai.1 he
 obtain⟨sd,Pr,he⟩:=ai.1 he
 obtain⟨s0,h1,h2⟩:=ai.1 he
 obtain⟨h3,h4⟩:=av.1 h2
 obtain⟨sf,h5,h6⟩:=ai.1 h4
 obtain⟨g0,β0,h0⟩:=h
 obtain⟨g1,i1,_⟩:=eA an.D8 (pH hC _ h0 Rm)
 obtain⟨g,β,h⟩:=tA _ (od _ (AB _ ⟨g1,β0,(i1.still an.Rc).canon an.Nf⟩ Rn) Pr) h1
 exact jl hC _ (va _ ⟨g,β,h.bI hC h3⟩ h5) h6
end
end Go.Ab
end
