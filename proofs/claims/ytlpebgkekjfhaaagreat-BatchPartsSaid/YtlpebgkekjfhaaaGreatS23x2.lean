/-
  Made short by a program of mine (wip/tools/mini.py).
-/
import Derived.Test.YtlpebgkekjfhaaaGreatS23x1
import Derived.Lib.Builder
import Derived.Lib.UnsafeStr
import Derived.Lib.AppendZeros
import Derived.Maps.RangeRun
set_option linter.unusedVariables false
set_option linter.unusedSimpArgs false
set_option maxRecDepth 100000
set_option synthInstance.maxSize 5000
noncomputable section
namespace Go.Ab
section
variable {P:Program} {C:Ctx} {g:Nat->jm} {β:Id->Option Pl} {s:AS} {a:Act} {w:World} {o:Oper}
theorem pV{b:Builtin}{args:Array Operand}{ts:Array TypeId}{f:Sem Value}{x:Value}{w':World}(ho:o.op= .call {callee:= .builtin b,args,argTypes:=ts})
  (hb:∀ty cs xs,xs=args.map a.eval->builtin b ts ty cs xs=(do pure (.value (<-f)))) (hf:f.run P w= .ok x w'):(execOp a.eval o).run P w= .ok (.value x) w':=by
 simp only[execOp,ho,resolve,Sem.run_bind,Sem.run_pure,Result.andThen_ok,invoke]
 rw[hb _ _ _ rfl,Sem.run_bind,hf]
 rfl
theorem Jj(h:Inv C g β s a w){c:Call}{x:Operand}{T:TypeId}(ho:o.op= .call c)(hc:c.callee= .builtin .len)(ha:c.args.toList=[x])(ht:c.argTypes.toList=[T]){v:av}(he:(KG P T (s.ev x)).eval=some v):
  ez P o a w (fF C (s.put o.dst v)):=by
 obtain⟨cal,args,tys⟩:=c
 simp only at hc ha ht
 have ha':args= #[x]:=by apply eP;simpa using ha
 have ht':tys= #[T]:=by apply eP;simpa using ht
 subst hc ha' ht'
 have hx:=h.ev x
 have fin:∀z,(Builtin.len_ #[T] 0 #[a.eval x]).run P w= .ok z w->VS (s.env w g β) v z->ez P o a w (fF C (s.put o.dst v)):=by
  intro z h1 h2
  refine h.value h2 (pV ho (f:=Builtin.len_ #[T] 0 #[a.eval x]) (λty cs xs Ex=> ?_) h1)
  subst Ex
  have e1:Builtin.len_ #[T] 0 #[a.eval x]=Builtin.len_ #[T] ty #[a.eval x]:=rfl
  rw[e1]
  simp[builtin]
 unfold KG at he
 split at he
 ·rename_i st hT hl
  rw[hl]at hx
  obtain rfl:=al.1 he
  refine fin (.int .i64 (st.size:Int)) ?_ (iB _ _)
  rw[sC hx]
  simp[Builtin.len_,run_underlying hT,goInt]
 ·rename_i e t l hT hl
  rw[hl]at hx
  obtain rfl:=al.1 he
  obtain⟨ad,cap,vs,hy,_⟩:=mj hx
  refine fin (.int .i64 (l.length:Int)) ?_ (iB _ _)
  rw[hy]
  simp[Builtin.len_,run_underlying hT,goInt]
 ·rename_i e hT hl
  rw[hl]at hx
  obtain rfl:=al.1 he
  refine fin (.int .i64 0) ?_ (iB _ _)
  rw[iw hx]
  simp[Builtin.len_,run_underlying hT,goInt]
 ·rename_i e id ver p c i len hT hl
  rw[hl]at hx
  obtain rfl:=al.1 he
  obtain⟨ad,cap,hy,_⟩:=kZ hx
  refine fin (.int .i64 (len:Int)) ?_ (iB _ _)
  rw[hy]
  simp[Builtin.len_,run_underlying hT,goInt]
 ·rename_i n e hT
  obtain rfl:=al.1 he
  refine fin (.int .i64 (n:Int)) ?_ (iB _ _)
  simp[Builtin.len_,run_underlying hT,goInt]
 ·simp only[ai]at he
def Env.open(E:Env):Env:= {E with g:=λ_=> .free}
theorem KO(E:Env):b6 E E.open:=⟨⟨λ_ _ _ h=>⟨h.1,trivial⟩,λ_ _ _ h=>⟨rfl,h⟩⟩,λ_ _ h=>h,λ_ _ _ h=>⟨h,rfl⟩⟩
theorem FE(h:Inv C g β s a w){v:av}{y:Value}(hv:VS (s.env w g β) v y){t:Ty}{x:t.den}(ht:(s.FD t v).eval=some x):
  ∃cs,cG (s.env w g β).open t cs x/\eC t.agg cs y:=by
 obtain⟨cs,hV,hO⟩:=hv.dK (pS ht)
 exact⟨cs,nF rfl h.bo (KO _) v t x cs hV ht (λid _ v fr c _ pl _ j x hx _=>⟨hx,trivial⟩),by rw[<-zL ht];exact hO⟩
theorem ng{E:Env}{k:IntKind}:∀ {vs:List Value} {l:List Int},aO (cG E (.int k)) vs l->vs=l.map (Value.int k)
 |vs,[],h=>h
 |_,x::xs,⟨c,cs',e,hx,hr⟩=>by
  have hx':c=[Value.int k x]:=by simpa only[cG]using hx
  rw[e,hx',ng hr]
  rfl
theorem nj{E:Env}{k:IntKind}:∀(l:List Int),aO (cG E (.int k)) (l.map (Value.int k)) l
 |[]=>rfl
 |x::xs=>⟨[.int k x],xs.map (Value.int k),rfl,by simp[cG],nj xs⟩
theorem foldl_push(l:List Int):∀b:ByteArray,l.foldl (λr n=>r.push (UInt8.ofNat n.toNat)) b=⟨b.data++(l.map λn=>UInt8.ofNat n.toNat).toArray⟩:=by
 induction l with
 |nil=>intro b;simp
 |cons n l ih=>
  intro b
  rw[cU,ih]
  simp[ByteArray.push]
theorem D0{α:Type}(xs:Array α)(x:α)(f:α->α):(xs.push x).modify xs.size f=xs.push (f x):=by
 apply la
 intro i
 rw[eT,Array.getElem?_push,Array.getElem?_push]
 by_cases h:i=xs.size
 ·subst h;simp
 ·have h':¬xs.size=i:=λe=>h e.symm
  simp[h,h']
theorem BO(w:World)(c:Array Value)(e:TypeId)(n:Nat):(w.alloc (.cells c e)).freeze ⟨w.heap.size,n,none⟩ 1=w.alloc (.cells c e (n,n+1)):=by
 show({w with heap:=(w.heap.push (.cells c e)).modify w.heap.size _}:World)= {w with heap:=w.heap.push (.cells c e (n,n+1))}
 rw[D0]
 rfl
theorem C5{w:World}{b:Nat}{c:Array Value}{e:TypeId}{n:Nat}(h:w.heap[b]? =some (.cells c e (n,n+1))):w.freeze ⟨b,n,none⟩ 1=w:=by
 unfold World.freeze
 rw[if_neg (by omega)]
 have:∀f:Obj->Obj,f (.cells c e (n,n+1))= .cells c e (n,n+1)->w.heap.modify b f=w.heap:=λf hf=>by
  apply la
  intro i
  rw[eT]
  split
  ·rename_i hi;subst hi;rw[h];simp[hf]
  ·rfl
 rw[this]
 simp
theorem vA(e:TypeId)(st:ByteArray)(w:World):∃cap:Nat,st.size<=cap/\∃arr:Array Value,(∀(j:Nat) (v:Value),((bV st).map (Value.int .u8))[j]? =some v->arr[j]? =some v)/\
  (Conv.stringToBytes e st).run P w= .ok (.slice (some ⟨w.heap.size,0,none⟩) st.size cap) (w.drew.alloc (.cells arr e (arr.size,arr.size+1))):=by
 refine⟨(Question.appendCap st.size 0 e).cut (w.tape w.drawn (.appendCap st.size 0 e)),by simp[Question.cut],
  (st.data.map λb=>Value.int .u8 b.toNat)++Array.replicate ((Question.appendCap st.size 0 e).cut (w.tape w.drawn (.appendCap st.size 0 e)) - st.size) (.int .u8 0),?_,?_⟩
 ·intro j v hj
  have hl:j < st.data.size:=by
   have:=(c6.1 hj).1
   simpa[bV]using this
  rw[hJ,if_pos (by simpa using hl)]
  simpa[bV,hl]using hj
 ·have hs:∀(arr:Array Value),(markStringish ⟨w.heap.size,0,none⟩).run P (w.drew.alloc (.cells arr e))= .ok () (w.drew.alloc (.cells arr e (arr.size,arr.size+1))):=by
   intro arr
   have h1:(w.drew.alloc (.cells arr e)).shape? w.heap.size=some (e,arr.size):=by
    have h2:(w.drew.alloc (.cells arr e)).heap[w.heap.size]? =some (.cells arr e):=lV w.drew _
    simp only[World.shape?,h2]
   have h3:=BO w.drew arr e arr.size
   have h4:w.drew.heap.size=w.heap.size:=rfl
   rw[h4]at h3
   simp only[markStringish,Sem.run_bind,run_shape,h1,Result.andThen_ok,run_freeze,h3]
  simp[Conv.stringToBytes,Question.forced,newRow,hs]
theorem Inv.kill(h:Inv C g β s a w){id:Id}{v:Nat}{fr:Bool}{c:av}(hs:s.bG id=some (.obj v fr c)){b:Nat}(hg:g b= .own (.id id) 0){w':World}(LI:w'.os=w.os)(Rt:w'.tape=w.tape)(BT:w'.output=w.output/\w.drawn<=w'.drawn)(l8:w'.heap.size=w.heap.size)
  (uS:∀b',b'≠b->w'.heap[b']? =w.heap[b']?):Inv C (jv g b .free) β (s.aH id .dead) a w':=by
 have ht:Trans w w' g (jv g b .free):=by
  refine⟨LI,Rt,BT,by omega,λb' hb'=> ?_⟩
  by_cases he:b'=b
  ·subst he
   rw[hg,ew]
   exact⟨.inl rfl,λ_ _ hh=>by omega⟩
  ·rw[ee _ _ _ he,uS b' he]
   cases xy:g b' with
   |free=>exact⟨rfl,rfl⟩
   |own o k=>cases o with
    |dx=>exact⟨rfl,rfl⟩
    |id i=>exact⟨.inr ⟨i,k,rfl,ax _⟩,λoff v _ hv=>by simp only[World.cell?,uS b' he]at hv ⊢;exact hv⟩
 have ji:=dF s id .dead (by rw[hs];simp)
 have hle:b6 (s.env w g β) ((s.aH id .dead).env w' (jv g b .free) β):=by
  refine⟨Trans.mem ht,λi ver hb=> ?_,λi ver hb hc=> ?_⟩
  ·by_cases hi:i=id
   ·subst hi
    exact⟨by show(s.aH i .dead).bG i≠none;rw[ji];simp,λv fr c hh=>by
     have hh:(s.aH i .dead).bG i=some (.obj v fr c):=hh
     rw[ji]at hh;cases hh⟩
   ·have:=cC s id i .dead hi
    obtain⟨h1,h2⟩:=hb
    exact⟨by show(s.aH id .dead).bG i≠none;rw[this];exact h1,λv fr c hh=>h2 v fr c (this.symm.trans hh)⟩
  ·obtain⟨fr,c,hc⟩:=hc
   have hc:(s.aH id .dead).bG i=some (.obj ver fr c):=hc
   by_cases hi:i=id
   ·subst hi;rw[ji]at hc;cases hc
   ·rw[cC s id i .dead hi]at hc
    exact⟨⟨fr,c,hc⟩,rfl⟩
 refine h.step (cK _ _ _) ht hle λi ver fr c hi=> ?_
 have hi:(s.aH id .dead).bG i=some (.obj ver fr c):=hi
 by_cases cP:i=id
 ·subst cP;rw[ji]at hi;cases hi
 ·rw[cC s id i .dead cP]at hi
  refine(h.bo i ver fr c hi).mono hle rfl (λpl hp=> ?_) λq2 vq k2 v2 l2 yJ SM=> ?_
  ·have ga:=h.apart hg cP hi (pl:=pl) hp
   exact⟨uS pl.b ga,ee _ _ _ ga⟩
  ·have yJ:s.bG q2=some (.obj vq true (.mp k2 v2 l2)):=yJ
   have hd:q2≠id:=λe=>by
    obtain⟨fr3,c3,Lu⟩:=SM
    have Lu:(s.aH id .dead).bG q2=some (.obj vq fr3 c3):=Lu
    rw[e,ji]at Lu
    cases Lu
   refine⟨⟨k2,v2,l2,by show(s.aH id .dead).bG q2=_;rw[cC s id q2 .dead hd];exact yJ⟩,λpl hp=> ?_⟩
   have ga:=h.apart hg hd yJ (pl:=pl) hp
   exact⟨uS pl.b ga,ee _ _ _ ga⟩
theorem EW(h:Inv C g β s a w){src dst:TypeId}{x:Operand}(ho:o.op= .convert src dst x){id:Id}{ver len:Nat}(hx:s.ev x= .cD id ver [] 0 0 len){s':AS}(he:(CU P s o.dst src dst id ver len).eval=some s'):ez P o a w (fF C s'):=by
 unfold CU at he
 split at he
 ·rename_i v e0 l e iH hD
  split at he
  ·rename_i hE
   obtain⟨h1,h2⟩:=aw.1 he
   obtain⟨h3,h4⟩:=bt.1 h2
   obtain rfl:=al.1 h4
   simp only[ag,beq_iff_eq]at h1
   obtain⟨rfl,rfl⟩:=h1
   simp only[decide_eq_true_eq]at h3
   obtain⟨h5,h6⟩:=h3
   have cj:=dw iH
   have hv:=h.ev x
   rw[hx]at hv
   obtain⟨ad,cap,hy,uQ,_,_,ef⟩:=kZ hv
   have ef:=ef ⟨false,_,cj⟩
   have hO:nb (s.env w g β) id false (.vec e0 (.int .u8) l):=h.bo id v false _ cj
   obtain⟨hz,hO⟩:=hO
   have hO:(match β id with
    |none=>l=[]
    |some pl=>∃cur k,w.heap[pl.b]? =some (.cells cur e0 (0,0))/\cur.size=pl.cap*(Ty.int .u8).size/\l.length<=pl.cap/\pl.cap<=maxLen/\g pl.b= .own (.id id) k/\
      k<=l.length*(Ty.int .u8).size/\(false=false->k=0)/\aO (cG (s.env w g β) (.int .u8)) (cur.toList.take (l.length*(Ty.int .u8).size)) l):=hO
   have ef:(match β id with
    |some pl=>(0 < len\/0=0->ad=some ⟨pl.b,0,none⟩)/\(([]:List sW)=[]->0=0->cap=pl.cap)
    |none=>ad=none/\len=0/\cap=0):=ef
   cases hp:β id with
   |none=>rw[hp]at hO;simp only at hO;subst hO;simp at h6;omega
   |some pl=>
    rw[hp]at hO ef
    obtain⟨cur,k,q1,q2,q3,q4,q5,q6,q7,q8⟩:=hO
    have hk:=q7 rfl
    subst hk
    have Hi:=ef.1 (.inr rfl)
    subst Hi
    have hb:pl.b < w.heap.size:=(bk.1 q1).1
    have OX:∃w',w.freeze ⟨pl.b,cur.size,none⟩ 1=w'/\w'.heap[pl.b]? =some (.cells cur e0 (cur.size,cur.size+1))/\w'.os=w.os/\w'.tape=w.tape/\(w'.output=w.output/\w.drawn<=w'.drawn)/\w'.heap.size=w.heap.size/\∀b',b'≠pl.b->w'.heap[b']? =w.heap[b']? :=by
     refine⟨_,rfl,?_⟩
     unfold World.freeze
     rw[if_neg (by omega)]
     refine⟨?_,rfl,rfl,⟨rfl,ax _⟩,by simp,λb' hb'=> ?_⟩
     ·simp only[eT,if_true,q1,dq]
      rfl
     ·simp only[eT]
      rw[if_neg (λe=>hb' e.symm)]
    obtain⟨w',hw',f1,f2,f3,f4,f5,f6⟩:=OX
    have I1:w.shape? pl.b=some (e0,cur.size):=by simp only[World.shape?,q1]
    have hm:(markStringish ⟨pl.b,0,none⟩).run P w= .ok () w':=by
     simp only[markStringish,Sem.run_bind,run_shape,I1,Result.andThen_ok,run_freeze,hw']
    have i1:=h.kill cj q5 f2 f3 f4 f5 f6
    refine .inl ⟨.slice (some ⟨pl.b,0,none⟩) len cap,w',dg (f:=convert src src (a.eval x)) (by simp only[execOp,ho]) ?_,_,β,i1.put o.dst ⟨_,?_,rfl⟩⟩
    ·rw[hy]
     simp[convert,run_underlying hD,run_underlying hE,hm]
    ·have uT:=ng q8
     have M4:(Ty.int .u8).size=1:=rfl
     rw[M4,na]at uT
     simp only[V,cG]
     refine⟨_,cap,l.map (Value.int .u8),by rw[h6],by rw[<-h6];exact uQ,λ_=>rfl,λj vv hj=>⟨_,_,rfl,?_,?_⟩,nj (E:=(s.aH id .dead).env w' (jv g pl.b .free) β) _⟩
     ·rw[aN]
      show w'.cell? ⟨pl.b,j,none⟩=some vv
      simp only[World.cell?,f1]
      rw[<-uT,cI]at hj
      split at hj
      ·simpa using hj
      ·cases hj
     ·show mr (jv g pl.b .free) pl.b (0+j)
      unfold mr
      rw[ew]
      trivial
  ·simp only[ai]at he
 ·simp only[ai]at he
theorem Kj(h:Inv C g β s a w){src dst:TypeId}{x:Operand}(ho:o.op= .convert src dst x){l:List Int}(hl:s.ev x= .sb l){v:av}(he:(IF P src dst l).eval=some v):ez P o a w (fF C (s.put o.dst v)):=by
 have hx:=h.ev x
 have fin:∀z,(convert src dst (a.eval x)).run P w= .ok z w->VS (s.env w g β) v z->ez P o a w (fF C (s.put o.dst v)):=by
  intro z h1 h2
  exact h.value h2 (dg (f:=convert src dst (a.eval x)) (by simp only[execOp,ho]) h1)
 unfold IF at he
 split at he
 ·rename_i e e' hD hS
  rw[hl]at hx
  split at he
  ·rename_i hE
   obtain⟨h1,h2⟩:=aw.1 he
   obtain rfl:=al.1 h2
   have h1:src=dst:=by simpa using h1
   subst h1
   obtain⟨cs,hv,hO⟩:=hx
   simp only[V]at hv
   obtain⟨b,cap,arr,e2,Hl,uQ,MQ,hb,Fa⟩:=hv
   have hO':cs=[a.eval x]:=hO
   rw[Hl]at hO'
   have hy:a.eval x= .slice (some ⟨b,0,none⟩) l.length cap:=by simpa using hO'.symm
   rw[hD]at hS
   obtain rfl:e=e':=by simpa using hS
   refine fin (.slice (some ⟨b,0,none⟩) l.length cap) ?_ ⟨_,?_,rfl⟩
   ·rw[hy]
    have hb:w.heap[b]? =some (.cells arr e2 (arr.size,arr.size+1)):=hb
    have OX:=C5 hb
    have I1:w.shape? b=some (e2,arr.size):=by simp only[World.shape?,hb]
    have hm:(markStringish ⟨b,0,none⟩).run P w= .ok () w:=by
     simp only[markStringish,Sem.run_bind,run_shape,I1,Result.andThen_ok,run_freeze,OX]
    simp[convert,run_underlying hD,run_underlying hE,hm]
   ·simp only[V,cG]
    refine⟨_,cap,l.map (Value.int .u8),rfl,uQ,λ_=>rfl,λj v hj=>⟨_,_,rfl,?_,?_⟩,nj (E:=s.env w g β) _⟩
    ·rw[aN]
     show w.cell? ⟨b,j,none⟩=some v
     have hb:w.heap[b]? =some (.cells arr e2 (arr.size,arr.size+1)):=hb
     simp only[World.cell?,hb]
     simpa using Fa j v hj
    ·show mr g b (0+j)
     unfold mr
     have MQ:g b= .free:=MQ
     rw[MQ]
     trivial
  ·simp only[ai]at he
 ·simp only[ai]at he
theorem BG(h:Inv C g β s a w){obj:Bool}{src dst:TypeId}{x:Operand}(ho:o.op= .convert src dst x){v:av}(he:(AH P s obj src dst (s.ev x)).eval=some v):ez P o a w (fF C (s.put o.dst v)):=by
 have hx:=h.ev x
 have fin:∀z,(convert src dst (a.eval x)).run P w= .ok z w->VS (s.env w g β) v z->ez P o a w (fF C (s.put o.dst v)):=by
  intro z h1 h2
  exact h.value h2 (dg (f:=convert src dst (a.eval x)) (by simp only[execOp,ho]) h1)
 unfold AH at he
 split at he
 ·rename_i l hl
  exact Kj h ho hl he
 rename_i LC
 unfold IE at he
 split at he
 ·rename_i k n k' d hl hD hS
  rw[hl]at hx
  obtain rfl:=al.1 he
  refine fin (.int k' (k'.wrap n)) ?_ (iB _ _)
  rw[mE hx]
  simp[convert,run_underlying hD,run_underlying hS,Conv.intToInt]
 ·rename_i st d hl hD hS
  rw[hl]at hx
  obtain rfl:=al.1 he
  refine fin (.string st) ?_ (Bz _)
  rw[sC hx]
  simp[convert,run_underlying hD,run_underlying hS]
 ·rename_i st e d hl hD hS
  rw[hl]at hx
  split at he
  ·rename_i hE
   obtain⟨cap,uQ,arr,Fa,kj⟩:=vA (P:=P) e st w
   have i1:=(h.drew).sH (.cells arr e (arr.size,arr.size+1))
   have hlen:(bV st).length=st.size:=by simp only[bV,ct,bZ];rfl
   have h2:=lV w.drew (.cells arr e (arr.size,arr.size+1))
   have hex:(execOp a.eval o).run P w= .ok (.value (.slice (some ⟨w.heap.size,0,none⟩) st.size cap)) (w.drew.alloc (.cells arr e (arr.size,arr.size+1))):=by
    refine dg (f:=convert src dst (a.eval x)) (by simp only[execOp,ho]) ?_
    rw[sC hx]
    simp[convert,run_underlying hD,run_underlying hS,run_underlying hE,kj]
   have Gr:jv g w.drew.heap.size .free w.heap.size= .free:=by
    rw[show w.drew.heap.size=w.heap.size from rfl,ew]
   cases obj with
   |false=>
    obtain rfl:=al.1 he
    refine .inl ⟨_,_,hex,_,β,i1.put o.dst ⟨_,?_,rfl⟩⟩
    simp only[V,cG]
    refine⟨_,cap,(bV st).map (Value.int .u8),by rw[hlen],by omega,λ_=>rfl,λj v hj=>⟨_,_,rfl,?_,?_⟩,nj (E:=s.env (w.drew.alloc (.cells arr e (arr.size,arr.size+1))) (jv g w.drew.heap.size .free) β) _⟩
    ·have:=Fa j v hj
     rw[aN]
     show(w.drew.alloc (.cells arr e (arr.size,arr.size+1))).cell? ⟨w.drew.heap.size,j,none⟩=some v
     simp only[World.cell?,h2]
     simpa using this
    ·show mr (jv g w.drew.heap.size .free) w.heap.size (0+j)
     unfold mr
     rw[Gr]
     trivial
   |true=>
    obtain rfl:=al.1 he
    refine .inl ⟨_,_,hex,_,β,i1.put o.dst ⟨_,?_,rfl⟩⟩
    simp only[V]
    exact⟨w.heap.size,cap,arr,e,by rw[hlen],by omega,Gr,h2,Fa⟩
  ·simp only[ai]at he
 ·rename_i e hD hS ga
  clear ga
  split at he
  ·rename_i hE
   obtain⟨l,h1,h2⟩:=ak.1 he
   obtain rfl:=al.1 h2
   obtain⟨cs,hR,hO⟩:=FE h hx h1
   simp only[cG]at hR
   obtain⟨ad,cap,vs,rfl,Ii,ku,nN,mS⟩:=hR
   have hO': [Value.slice ad (List.length l) cap]=[a.eval x]:=hO
   have hy:a.eval x= .slice ad (List.length l) cap:=by simpa using hO'.symm
   refine fin (.string (ed l)) ?_ (Bz _)
   rw[hy,run_convert_bytes_string w src dst e ad _ _ hS hE hD]
   have uT:=ng (E:=(s.env w g β).open) (k:= .u8) (vs:=vs) (l:=l) mS
   cases ad with
   |none=>
    have LC:l=[]:=by
     cases l with
     |nil=>rfl
     |cons _ _=>simp at ku
    subst LC
    rfl
   |some ad=>
    have IY:(loadCells ad (List.length l)).run P w= .ok (l.map (Value.int .u8)).toArray w:=by
     have:=run_loadCells_list (P:=P) w ad (l.map (Value.int .u8)) (λj v hj=>by
      rw[<-uT]at hj
      obtain⟨bb,off,e1,hh⟩:=nN j v hj
      simp only[ao]at e1
      subst e1
      rw[Addr.add_lit]
      exact hh.1)
     simpa using this
    rw[run_bytesToString w ad _ _ l IY,foldl_push]
    simp[ed]
  ·simp only[ai]at he
 ·simp only[ai]at he
end
end Go.Ab
namespace Go.Ab
section
variable {P:Program} {C:Ctx} {g:Nat->jm} {β:Id->Option Pl} {s:AS} {a:Act} {w:World} {o:Oper}
theorem AP(off:Nat):∀(vs:List Value) (k:Nat) (cells:Array Value),off+k+vs.length<=cells.size->
  ((vs.zipIdx k).foldl (λcs (c,j)=>cs.setIfInBounds (off+j) c) cells).toList=cT cells.toList (off+k) vs
 |[],k,cells,_=>by simp[cT]
 |v::vs,k,cells,h=>by
  simp only[aD]at h
  rw[List.zipIdx_cons,cU,AP off vs (k+1) _ (by simpa using(by omega:off+(k+1)+vs.length<=cells.size))]
  rw[Array.toList_setIfInBounds]
  have:=list_seg_step cells.toList (off+k) v vs (by simp;omega)
  unfold cT
  simpa[dz]using this
theorem AM{place:Nat->Option (Nat×Nat)}{cells:Array Value}{i off:Nat}{v:Value}{vs:List Value}{rest:List (Nat×Value)}(hp:place i=some (off,vs.length))(hv:v.cells=vs.toArray)(hl:off+vs.length<=cells.size):
  Instr.fill place cells ((i,v)::rest)=Instr.fill place (cT cells.toList off vs).toArray rest:=by
 have h1:v.cells.size=vs.length:=by rw[hv];simp
 have h2:¬(v.cells.size≠vs.length || off+v.cells.size > cells.size)=true:=by simp[h1];omega
 simp only[Instr.fill,hp]
 rw[if_neg h2]
 congr 1
 apply eP
 have:=AP off vs 0 cells (by omega)
 simp only[cq]at this
 rw[<-this,hv]
 rw[<-Array.foldl_toList]
 simp
theorem qh{E E':Env}(hs:E.s=s.bG)(ho:fT E)(he:b6 E E'){t:Ty}(Hm:∀x,VS E (s.ev x) (a.eval x)):
  ∀(ps:List (Nat×Operand)) (l:List t.den) (r:List t.den×List Id) (cells:Array Value),(gq t s ps l).eval=some r->Oi E E' r.2->aO (cG E' t) cells.toList l->
   ∃cells',Instr.fill (λi=>some (i*t.size,t.size)) cells (ps.map λ(i,x)=>(i,a.eval x))=some cells'/\aO (cG E' t) cells'.toList r.1
 |[],l,r,cells,h,_,hc=>by
  obtain rfl:=al.1 h
  exact⟨cells,rfl,hc⟩
 | (i,x)::ps,l,r,cells,h,hf,hc=>by
  simp only[gq]at h
  obtain⟨h1,h2⟩:=aw.1 h
  obtain⟨y,h3,h4⟩:=ak.1 h2
  obtain⟨r',h5,h6⟩:=ak.1 h4
  obtain rfl:=al.1 h6
  have hi:i < l.length:=by simpa using h1
  obtain⟨cs,hV,hO⟩:=(Hm x).dK (pS h3)
  have hR:=nF hs ho he _ t y cs hV h3 (λid cP=>hf id (by simp[cP]))
  have qt:=hO.cells hV.one
  have hlen:=hc.length (λ_ _ hx=>cG.size hx)
  have l8:=hR.size
  have hle:i*t.size+cs.length<=cells.size:=by
   have:=cJ t.size (show i+1<=l.length by omega)
   rw[dy,je]at this
   simp at hlen
   omega
  have BV:=aO.set (λ_ _ hx=>cG.size hx) hc i hi hR
  obtain⟨cells',q1,q2⟩:=qh hs ho he Hm ps (l.set i y) r' (cT cells.toList (i*t.size) cs).toArray h5 (λid cP=>hf id (by simp[cP])) BV
  refine⟨cells',?_,q2⟩
  rw[bE,AM (by rw[l8]) qt hle]
  exact q1
theorem mh{E:Env}{t:Ty}{zc:Array Value}(hz:cG E t zc.toList t.zero):∀n:Nat,aO (cG E t) (madeCells zc (n*t.size)).toList (List.replicate n t.zero):=by
 have l8:zc.size=t.size:=by have:=hz.size;simpa using this
 intro n
 induction n with
 |zero=>simp[madeCells,aO]
 |succ n ih=>
  have e:(madeCells zc ((n+1)*t.size)).toList=(madeCells zc (n*t.size)).toList++zc.toList:=by
   apply il
   intro j
   rw[dy,je]
   simp only[madeCells,Array.toList_map,Array.toList_range,dU,List.getElem?_append,ct,List.length_range]
   by_cases hj:j < n*t.size
   ·have hj':j < n*t.size+t.size:=by omega
    simp[hj,hj',l8]
   ·by_cases hj':j < n*t.size+t.size
    ·have iC:j - n*t.size < zc.size:=by omega
     have hm:j%t.size=j - n*t.size:=by
      have:j=(j - n*t.size)+t.size*n:=by rw[Nat.mul_comm t.size n];omega
      rw[this,Nat.add_mul_mod_self_left,Nat.mod_eq_of_lt (by omega)]
      rw[Nat.mul_comm t.size n];omega
     simp[hj,hj',l8,hm]
     rw[getElem?_pos zc _ iC,getElem!_pos zc _ iC]
    ·have h1:¬j - n*t.size < zc.size:=by omega
     simp[hj,hj',h1]
  rw[e,List.replicate_succ']
  exact aO.append ih (aO.one hz)
theorem kN{nl:Bool}{T:TypeId}{e:TypeId}{t:Ty}{b:Nat}(h:qM P nl T=some (e,t,b)):
  P.underlying T=some (.slice e)/\0 < t.size/\∃i zv,P.info? e=some i/\i.size=t.size/\i.bytes=b/\i.zero=some zv/\∀E,cG E t zv.cells.toList t.zero:=by
 unfold qM at h
 split at h
 ·rename_i e' hT
  split at h
  ·rename_i t' ht
   split at h
   ·rename_i hg
    simp only[ao,cd]at h
    obtain⟨rfl,rfl,rfl⟩:=h
    simp only[ag,bp,beq_iff_eq,beq_eq_false_iff_ne]at hg
    obtain⟨⟨h1,h2⟩,h3⟩:=hg
    obtain⟨i,zv,hi,hz,_,_⟩:=mN h3 {w:=default,g:=λ_=> .free,β:=λ_=>none,s:=λ_=>none}
    refine⟨hT,by omega,i,zv,hi,by rw[<-jo hi];exact h1,by simp[Program.bytesOf,hi],hz,λE=> ?_⟩
    obtain⟨i',zv',hi',hz',hV,_⟩:=mN h3 E
    rw[hi]at hi'
    obtain rfl:i=i':=by simpa using hi'
    rw[hz]at hz'
    obtain rfl:zv=zv':=by simpa using hz'
    simpa only[V]using hV
   ·cases h
  ·cases h
 ·cases h
theorem pX{T:TypeId}{e:TypeId}{t:Ty}{b:Nat}(h:xM P T=some (e,t,b)):
  P.underlying T=some (.slice e)/\0 < t.size/\∃i zv,P.info? e=some i/\i.size=t.size/\i.bytes=b/\i.zero=some zv/\∀E,cG E t zv.cells.toList t.zero:=kN h
theorem z8{T:TypeId}{e:TypeId}{t:Ty}{b:Nat}(h:BI P T=some (e,t,b)):0 < t.size:=by
 unfold BI at h
 split at h
 ·exact(kN h).2.1
 ·exact(kN h).2.1
theorem Inv.B9(h:Inv C g β s a w){q:Nat}(hq:s.di q=true){e:TypeId}{t:Ty}{l:List t.den}{cur:Array Value}{cap:Nat}(hz:0 < t.size)(hc:aO (cG (s.env w g β) t) (cur.toList.take (l.length*t.size)) l)
  (hs:cur.size=cap*t.size) (hl:l.length<=cap) (hm:cap<=maxLen):
  ∃g' β',Inv C g' β' (s.born q [.obj 0 false (.vec e t l)]) a (w.alloc (.cells cur e))/\
   VS ((s.born q [.obj 0 false (.vec e t l)]).env (w.alloc (.cells cur e)) g' β') (.cD (.new q 0) 0 [] 0 0 l.length) (.slice (some ⟨w.heap.size,0,none⟩) l.length cap):=by
 have ht:=Trans.alloc w g (.cells cur e) (.own (.id (.new q 0)) 0)
 obtain⟨h1,h2⟩:=h.vT hq (c:= .vec e t l) (p:=some ⟨w.heap.size,cap⟩) ht (λb hb=>⟨kH w _ hb,ee _ _ _ (by omega)⟩) (λhe=>by
  refine⟨hz,?_⟩
  show(match sG β (.new q 0) (some ⟨w.heap.size,cap⟩) (.new q 0) with
   |none=>l=[]
   |some pl=>_)
  rw[gN]
  exact⟨cur,0,lV w _,hs,hl,hm,ew _ _ _,bh _,λ_=>rfl,hc.mono λ_ _ hx=>hx.mono he.mem⟩)
 refine⟨_,_,h1,_,?_,rfl⟩
 simp only[V]
 refine⟨_,_,rfl,hl,λ_=>rfl,kh hq _ _ _ _,λ_=> ?_⟩
 show(match sG β (.new q 0) (some ⟨w.heap.size,cap⟩) (.new q 0) with
   |some pl=>_
   |none=>_)
 rw[gN]
 exact⟨λ_=>rfl,λ_ _=>rfl⟩
theorem Inv.Ju(h:Inv C g β s a w){q:Nat}(hq:s.di q=true){e:TypeId}{t:Ty}(hz:0 < t.size):
  ∃β',Inv C g β' (s.born q [.obj 0 false (.vec e t [])]) a w/\b6 (s.env w g β) ((s.born q [.obj 0 false (.vec e t [])]).env w g β')/\
   VS ((s.born q [.obj 0 false (.vec e t [])]).env w g β') (.cD (.new q 0) 0 [] 0 0 0) (.slice none 0 0):=by
 have ht:=Trans.refl w g
 obtain⟨h1,h2⟩:=h.vT hq (c:= .vec e t []) (p:=none) ht (λb hb=>⟨rfl,rfl⟩) (λhe=>by
  refine⟨hz,?_⟩
  show(match sG β (.new q 0) none (.new q 0) with
   |none=>([]:List t.den)=[]
   |some pl=>_)
  rw[gN])
 refine⟨_,h1,h2,_,?_,rfl⟩
 simp only[V]
 refine⟨_,_,rfl,ax _,λhh=>by omega,kh hq _ _ _ _,λ_=> ?_⟩
 simp[AS.env]
theorem wx(parts:Array (Nat×Operand)):(parts.map λ(i,x)=>(i,a.eval x)).toList=parts.toList.map λ(i,x)=>(i,a.eval x):=by simp
theorem xu(h:Inv C g β s a w){T:TypeId}{n:Nat}{parts:Array (Nat×Operand)}{nl obj:Bool}(ho:o.op= .buildSlice T n parts){s':AS}(he:(jg P s nl obj o.dst T n parts.toList).eval=some s'):ez P o a w (fF C s'):=by
 unfold jg at he
 split at he
 ·rename_i e t b q s9 hd
  obtain⟨hT,hz,i,zv,hi,Ho,MU,Ey,Hr⟩:=kN s9
  obtain⟨h1,h2⟩:=aw.1 he
  obtain⟨r,h3,h4⟩:=ak.1 h2
  simp only[decide_eq_true_eq]at h1
  obtain⟨g1,i1,e1,t1,f1⟩:=eK r.2 h
  have N5:zv.cells.size=t.size:=by have:=(Hr (s.env w g β)).size;simpa using this
  obtain⟨cells',OV,mS⟩:=qh (a:=a) rfl h.bo e1 h.ev parts.toList _ r (madeCells zv.cells (n*t.size)) h3 f1 (mh (Hr _) n)
  have O6:r.1.length=n:=by
   have:∀(ps:List (Nat×Operand)) (l:List t.den) (r:List t.den×List Id),(gq t s ps l).eval=some r->r.1.length=l.length:=by
    intro ps
    induction ps with
    |nil=>intro l r hh;obtain rfl:=al.1 hh;rfl
    |cons p ps ih=>
     intro l r hh
     obtain⟨i,x⟩:=p
     simp only[gq]at hh
     obtain⟨_,h2⟩:=aw.1 hh
     obtain⟨y,h3,h4⟩:=ak.1 h2
     obtain⟨r',h5,h6⟩:=ak.1 h4
     obtain rfl:=al.1 h6
     have:=ih _ _ h5
     simpa using this
   rw[this _ _ _ h3]
   simp
  have Fc:=mS.length (λ_ _ hx=>cG.size hx)
  have kj:(execOp a.eval o).run P w= .ok (.value (.slice (some ⟨w.heap.size,0,none⟩) n n)) (w.alloc (.cells cells' e)):=by
   refine dg (f:=Instr.buildSlice T n (parts.map λ(i,x)=>(i,a.eval x))) (by simp only[execOp,ho]) ?_
   have OJ:¬n*t.size > 2^24:=by omega
   have hfill':Instr.fill (λi=>some (i*t.size,t.size)) ((Array.range (n*t.size)).map (λx=>(zv.cells)[x%zv.cells.size]!)) (parts.map λ(i,x)=>(i,a.eval x)).toList=some cells':=by
    rw[wx];exact OV
   by_cases hn:n*t.size=0
   ·have M1:n=0:=by
     rcases Nat.mul_eq_zero.1 hn with h' | h'
     ·exact h'
     ·omega
    subst M1
    simp only[kg]at hfill' OJ
    have h0:Array.range 0= #[]:=rfl
    rw[h0,Array.map_empty]at hfill'
    simp at hfill'
    simp[Instr.buildSlice,run_underlying hT,run_sizeOf hi,Ho,newRow,h0,hfill']
   ·simp[Instr.buildSlice,run_underlying hT,run_sizeOf hi,Ho,newRow,hn,OJ,zeroValue,typeInfo,hi,Ey]
    simp at hfill'
    simp[hfill']
  cases obj with
  |true=>
   simp only at h4
   obtain⟨hq,h5⟩:=aw.1 h4
   obtain rfl:=al.1 h5
   rw[<-mM r.2]at hq
   have OW:cells'.toList.take (r.1.length*t.size)=cells'.toList:=bz (by omega)
   obtain⟨g2,β2,i2,w6⟩:=i1.B9 hq (e:=e) (l:=r.1) (cur:=cells') (cap:=n) hz (by rw[OW];exact mS) (by simp at Fc;rw[Fc,O6]) (by omega) (by
    have:n<=n*t.size:=Nat.le_mul_of_pos_right n hz
    unfold maxLen;omega)
   refine .inl ⟨_,_,kj,g2,β2,?_⟩
   rw[hd]
   rw[O6]at w6 ⊢
   exact i2.put (some q) w6
  |false=>
   simp only at h4
   obtain rfl:=al.1 h4
   have i2:=i1.sH (.cells cells' e)
   refine .inl ⟨_,_,kj,jv g1 w.heap.size .free,β,?_⟩
   rw[hd]
   refine i2.put (some q) ⟨[.slice (some ⟨w.heap.size,0,none⟩) n n],?_,rfl⟩
   simp only[V,cG]
   refine⟨_,n,cells'.toList,by rw[O6],by omega,λ_=>rfl,λj v hj=>⟨_,_,rfl,?_,?_⟩,mS.mono λ_ _ hx=>hx.mono (Trans.mem (E:=(s.aQ r.2).env w g1 β) (E':=(s.aQ r.2).env (w.alloc (.cells cells' e)) (jv g1 w.heap.size .free) β) (Trans.alloc w g1 (.cells cells' e) .free))⟩
   ·show(w.alloc (.cells cells' e)).cell? ⟨w.heap.size,0+j,none⟩=some v
    rw[World.cell?_alloc_new,aN];simpa using hj
   ·show mr (jv g1 w.heap.size .free) w.heap.size (0+j)
    unfold mr;rw[ew];trivial
 ·simp only[ai]at he
theorem y5(h:Inv C g β s a w){T:TypeId}{x y:Operand}(ho:o.op= .makeSlice T x y){len cap:Int}(hx:(asInt (s.ev x)).eval=some len)(hy:(asInt (s.ev y)).eval=some cap){s':AS}
  (he:(lE P s o.dst T len cap).eval=some s'):ez P o a w (fF C s'):=by
 obtain⟨k,hx⟩:=oQ (h.ev x) hx
 obtain⟨k',hy⟩:=oQ (h.ev y) hy
 unfold lE at he
 split at he
 ·rename_i e t b q s9 hd
  obtain⟨hT,hz,i,zv,hi,Ho,MU,Ey,Hr⟩:=pX s9
  obtain⟨hq,h2⟩:=aw.1 he
  obtain⟨h3,h4⟩:=bt.1 h2
  obtain rfl:=al.1 h4
  simp only[ag,decide_eq_true_eq,dT]at h3
  obtain⟨⟨h5,h6⟩,h7,h8⟩:=h3
  have hbytes:(i.bytes:Int)*cap<=281474976710656:=by
   rw[MU]
   have:((cap.toNat*b:Nat):Int)<=140737488355328:=by omega
   rw[Int.natCast_mul,show((cap.toNat:Nat):Int)=cap by omega,Int.mul_comm]at this
   omega
  have hr:=run_make (P:=P) w T e i zv hT hi Ey k k' len cap h5 h6 hbytes (by omega)
  rw[Ho]at hr
  have N5:zv.cells.size=t.size:=by have:=(Hr (s.env w g β)).size;simpa using this
  have qO:=mh (Hr (s.env w g β)) cap.toNat
  have M9:=aO.take (λ_ _ hx=>cG.size hx) len.toNat qO
  rw[List.take_replicate,ei (by omega)]at M9
  obtain⟨g2,β2,i2,w6⟩:=h.B9 hq (e:=e) (l:=List.replicate len.toNat t.zero) (cur:=madeCells zv.cells (cap.toNat*t.size)) (cap:=cap.toNat) hz (by rw[ck];exact M9) (size_madeCells _ _) (by rw[ck];omega) (by unfold maxLen;omega)
  rw[ck]at w6
  refine .inl ⟨_,_,dg (f:=Instr.makeSlice T (a.eval x) (a.eval y)) (by simp only[execOp,ho]) (by rw[hx,hy];exact hr),g2,β2,?_⟩
  rw[hd]
  exact i2.put (some q) w6
 ·simp only[ai]at he
end
end Go.Ab
namespace Go.Ab
section
variable {P:Program} {C:Ctx} {g:Nat->jm} {β:Id->Option Pl} {s:AS} {a:Act} {w:World} {o:Oper}
theorem FC:∀(c:av) (f off:Nat) (v:av),partOf c f=some (off,v)->(loc c (jK f)).eval=some (off,v):=by
 intro c f
 induction f generalizing c with
 |zero=>
  intro off v h
  cases c with
  |d t y=>
   cases t <;> simp only[partOf,reduceCtorEq]at h
   simp only[ao,cd]at h
   obtain⟨rfl,rfl⟩:=h
   rfl
  |pr b c=>
   simp only[partOf,ao,cd]at h
   obtain⟨rfl,rfl⟩:=h
   simp only[jK,loc]
   cases b <;> rfl
  |_=>simp only[partOf,reduceCtorEq]at h
 |succ f ih=>
  intro off v h
  cases c with
  |d t y=>
   cases t with
   |pair ta tb=>
    simp only[partOf]at h
    cases hp:partOf (.d tb y.2) f with
    |none=>rw[hp]at h;cases h
    |some r=>
     rw[hp]at h
     simp only[ao,cd]at h
     obtain⟨rfl,rfl⟩:=h
     simp only[jK,loc,ak]
     exact⟨_,ih _ _ _ hp,rfl⟩
   |_=>simp only[partOf,reduceCtorEq]at h
  |pr b c=>
   simp only[partOf]at h
   cases hp:partOf c f with
   |none=>rw[hp]at h;cases h
   |some r=>
    rw[hp]at h
    simp only[ao,cd]at h
    obtain⟨rfl,rfl⟩:=h
    simp only[jK,loc,ak]
    exact⟨_,ih _ _ _ hp,rfl⟩
  |_=>simp only[partOf,reduceCtorEq]at h
theorem DJ(a b:av):(u9 a b).agg=true:=by unfold u9;split <;> rfl
theorem Au{v x v':av}{i:Nat}(h:(nZ v (jK i) x).eval=some v'):v'.agg=true:=by
 have fin:∀ {o:Out av} {f:av->av},(∀a,(f a).agg=true)->(o.bind λa=>Out.ok (f a)).eval=some v'->v'.agg=true:=by
  intro o f hf hh
  obtain⟨_,_,h2⟩:=ak.1 hh
  obtain rfl:=al.1 h2
  exact hf _
 cases i <;> simp only[jK]at h
 all_goals
  cases v with
  |d t y=>cases t <;> first | (simp only[nZ,ai]at h;done) | (simp only[nZ]at h;exact fin (λ_=>DJ _ _) h)
  |pr b c=>simp only[nZ]at h;exact fin (λ_=>DJ _ _) h
  |_=>simp only[nZ,ai]at h
theorem sy{E:Env}(Hm:∀x,VS E (s.ev x) (a.eval x)){fs:Array Field}{places:Array (Nat×Nat)}(xz:∀(i:Nat) (f:Field),fs[i]? =some f->places[i]? =some (f.offset,P.cellsOf f.type)):
  ∀(ps:List (Nat×Operand)) (v v':av) (cells:Array Value),(kq P fs s ps v).eval=some v'->V E v cells.toList->v.agg=true->
   ∃cells',Instr.fill (places[·]?) cells (ps.map λ(i,x)=>(i,a.eval x))=some cells'/\V E v' cells'.toList/\v'.agg=true
 |[],v,v',cells,h,hV,uC=>by
  obtain rfl:=al.1 h
  exact⟨cells,rfl,hV,uC⟩
 | (i,x)::ps,v,v',cells,h,hV,uC=>by
  simp only[kq]at h
  split at h
  ·rename_i f off dd hf hp
   obtain⟨h1,h2⟩:=aw.1 h
   obtain⟨v1,h3,h4⟩:=ak.1 h2
   simp only[ag,beq_iff_eq]at h1
   obtain⟨⟨rfl,PY⟩,R7⟩:=h1
   obtain⟨Fb,_⟩:=lr R7
   obtain⟨cs,hVx,hO⟩:=(Hm x).dK Fb
   have hcells:=hO.cells hVx.one
   have Q1:=FC _ _ _ _ hp
   obtain⟨u1,u2,u3⟩:=kr (jK i) v cells.toList f.offset dd (s.ev x) v1 cs (VO.of hV) Q1 hVx h3
   have O8:v1.fJ=false:=u3.mg hV.mg
   have l8:P.cellsOf f.type=cs.length:=by rw[(rX R7).2.1];exact hVx.size.symm
   obtain⟨cells',q1,q2,q3⟩:=sy Hm xz ps v1 v' (cT cells.toList f.offset cs).toArray h4 (by simpa using u2.to O8) (Au h3)
   refine⟨cells',?_,q2,q3⟩
   rw[bE,AM (by rw[xz i f hf,l8]) hcells (by simpa using u1)]
   exact q1
  ·simp only[ai]at h
theorem D6{α γ:Type}(f:α->Sem γ)(r:α->γ):∀(l:List α),(∀x∈l,(f x).run P w= .ok (r x) w)->(l.mapM f).run P w= .ok (l.map r) w
 |[],_=>by simp
 |x::xs,h=>by
  rw[List.mapM_cons]
  simp only[Sem.run_bind,h x (by simp),Result.andThen_ok,D6 f r xs (λy hy=>h y (by simp[hy])),Sem.run_pure,bE]
theorem EP(h:Inv C g β s a w){T:TypeId}{parts:Array (Nat×Operand)}(ho:o.op= .build T parts){s':AS}(he:(rR P s o.dst T parts.toList).eval=some s'):ez P o a w (fF C s'):=by
 unfold rR at he
 split at he
 ·rename_i fs hT
  split at he
  ·rename_i z T0
   obtain⟨h1,h2⟩:=aw.1 he
   obtain⟨v,h3,h4⟩:=ak.1 h2
   obtain rfl:=al.1 h4
   simp only[ag,cM]at h1
   obtain⟨⟨hz,uC⟩,QX⟩:=h1
   obtain⟨i,zv,hi,Ey,hV,hO⟩:=mN hz (s.env w g β)
   let places:Array (Nat×Nat):=fs.map λf=>(f.offset,P.cellsOf f.type)
   have xz:∀(i:Nat) (f:Field),fs[i]? =some f->places[i]? =some (f.offset,P.cellsOf f.type):=by
    intro i f hf
    simp[places,hf]
   obtain⟨cells',q1,q2,q3⟩:=sy (a:=a) h.ev xz parts.toList z v zv.cells h3 hV uC
   have hm:(fs.mapM λf=>(do pure (f.offset,<-sizeOf f.type):Sem (Nat×Nat))).run P w= .ok places w:=by
    rw[Array.mapM_eq_mapM_toList]
    have:=D6 (P:=P) (w:=w) (λf=>(do pure (f.offset,<-sizeOf f.type):Sem (Nat×Nat))) (λf=>(f.offset,P.cellsOf f.type)) fs.toList (by
     intro f hf
     obtain⟨j,hj⟩:=bF.1 (QX f hf)
     rw[Sem.run_bind,run_sizeOf hj,jo hj]
     rfl)
    rw[Sem.run_map,this]
    show Result.ok _ w=Result.ok _ w
    congr 1
    apply eP
    simp[places]
   refine h.value (x:= .agg cells') (VS.of q2 (by rw[q3];simp[eC])) (dg (f:=Instr.build T (parts.map λ(i,x)=>(i,a.eval x))) (by simp only[execOp,ho]) ?_)
   have q1':Instr.fill (places[·]?) zv.cells (parts.map λ(i,x)=>(i,a.eval x)).toList=some cells':=by rw[wx];exact q1
   simp only[Instr.build,Sem.run_bind,zeroValue,typeInfo,run_program,hi,Result.andThen_ok,Sem.run_pure,Ey,run_underlying hT,hm,q1']
  ·simp only[ai]at he
 ·rename_i n e hT
  split at he
  ·rename_i t ht
   obtain⟨h1,h2⟩:=aw.1 he
   obtain⟨r,h3,h4⟩:=ak.1 h2
   obtain rfl:=al.1 h4
   simp only[ag,beq_iff_eq]at h1
   obtain⟨l8,hz⟩:=h1
   obtain⟨g1,i1,e1,t1,f1⟩:=eK r.2 h
   obtain⟨i,zv,hi,Ey,hV,hO⟩:=mN hz ((s.aQ r.2).env w g1 β)
   simp only[V,cG]at hV
   obtain⟨cells',q1,q2⟩:=qh (a:=a) rfl h.bo e1 h.ev parts.toList _ r zv.cells h3 f1 hV.2
   have O6:r.1.length=n:=by
    have:∀(ps:List (Nat×Operand)) (l:List t.den) (r:List t.den×List Id),(gq t s ps l).eval=some r->r.1.length=l.length:=by
     intro ps
     induction ps with
     |nil=>intro l r hh;obtain rfl:=al.1 hh;rfl
     |cons p ps ih=>
      intro l r hh
      obtain⟨i,x⟩:=p
      simp only[gq]at hh
      obtain⟨_,h2⟩:=aw.1 hh
      obtain⟨y,h3,h4⟩:=ak.1 h2
      obtain⟨r',h5,h6⟩:=ak.1 h4
      obtain rfl:=al.1 h6
      have:=ih _ _ h5
      simpa using this
    rw[this _ _ _ h3]
    simp
   refine .inl ⟨.agg cells',w,dg (f:=Instr.build T (parts.map λ(i,x)=>(i,a.eval x))) (by simp only[execOp,ho]) ?_,g1,β,i1.put o.dst ⟨cells'.toList,?_,by simp[eC,av.agg,Ty.agg]⟩⟩
   ·have q1':Instr.fill (λi=>some (i*t.size,t.size)) zv.cells (parts.map λ(i,x)=>(i,a.eval x)).toList=some cells':=by rw[wx];exact q1
    cases QU:P.info? e with
    |none=>
     exfalso
     unfold Es zO at ht
     simp only[depth]at ht
     have:P.underlying e=none:=by simp[Program.underlying,QU]
     rw[this]at ht
     cases ht
    |some ie=>
     have Sk:=run_sizeOf QU w
     rw[<-jo QU,l8]at Sk
     simp only[Instr.build,Sem.run_bind,zeroValue,typeInfo,run_program,hi,Result.andThen_ok,Sem.run_pure,Ey,run_underlying hT,Sk,q1']
   ·simp only[V,cG]
    exact⟨O6,q2⟩
  ·simp only[ai]at he
 ·simp only[ai]at he
theorem wJ{T X ty e:TypeId}{i:TypeInfo}(hT:P.underlying T=some (.slice e))(hX:P.underlying X=some .string\/∃e',P.underlying X=some (.slice e'))(hi:P.info? e=some i)
  {b sLen sCap:Nat} {cur:Array Value} (hg:w.heap[b]? =some (.cells cur e (0,0))) {x:Value} {n:Nat} {news:List Value} (h1:∀u∈news,u.oneCell'=true)
  (hlen:(Builtin.lenOf x).run P w= .ok n w) (hf:(Builtin.firstCells i.size n x).run P w= .ok news.toArray w) (tn:sLen+n<=sCap) (BR:sLen*i.size+news.length<=cur.size):
  (Builtin.append_ #[T,X] ty #[.slice (some ⟨b,0,none⟩) sLen sCap,x]).run P w= .ok (.slice (some ⟨b,0,none⟩) (sLen+n) sCap) (w.setRow b (cT cur.toList (sLen*i.size) news).toArray):=by
 have lQ:=run_storeCells_at P b (sLen*i.size) e news 0 cur w hg (by simpa using BR) h1
 simp only[cq]at lQ
 rcases hX with hX | ⟨e',hX⟩ <;> simp[Builtin.append_,run_underlying hT,run_underlying hX,sizeOf,typeInfo,hi,hlen,tn,hf,Addr.add_lit,lQ,cT]
theorem rv{T X ty e:TypeId}{i:TypeInfo}(hT:P.underlying T=some (.slice e))(hX:P.underlying X=some .string\/∃e',P.underlying X=some (.slice e'))(hi:P.info? e=some i)
  {x:Value} (hlen:(Builtin.lenOf x).run P w= .ok 0 w) (hf:(Builtin.firstCells i.size 0 x).run P w= .ok #[] w):
  (Builtin.append_ #[T,X] ty #[.slice none 0 0,x]).run P w= .ok (.slice none 0 0) w:=by
 rcases hX with hX | ⟨e',hX⟩ <;> simp[Builtin.append_,run_underlying hT,run_underlying hX,sizeOf,typeInfo,hi,hlen,hf]
theorem wI{T X ty e:TypeId}{i:TypeInfo}{zv:Value}(hT:P.underlying T=some (.slice e))(hX:P.underlying X=some .string\/∃e',P.underlying X=some (.slice e'))(hi:P.info? e=some i)(Ey:i.zero=some zv)
  {ad:Option Addr} {sLen sCap:Nat} {bT:List Value} (ho:(Builtin.firstCells i.size sLen (.slice ad sLen sCap)).run P w.drew= .ok bT.toArray w.drew) {x:Value} {n:Nat} {news:List Value}
  (hlen:(Builtin.lenOf x).run P w= .ok n w) (hf:(Builtin.firstCells i.size n x).run P w.drew= .ok news.toArray w.drew) (tn:sCap < sLen+n)
  (R3:((sLen+n:Nat):Int)<=9223372036854775807) (BR:(sLen+n)*i.bytes<=140737488355328):
  (Builtin.append_ #[T,X] ty #[.slice ad sLen sCap,x]).run P w= .ok (.slice (some ⟨w.heap.size,0,none⟩) (sLen+n) (grownCap w (sLen+n) sCap e))
   (w.drew.alloc (.cells (bT.toArray++news.toArray++Builtin.zeroCells zv.cells (grownCap w (sLen+n) sCap e - (sLen+n))) e)):=by
 have hn:¬(sLen+n<=sCap):=by omega
 have h63':¬(9223372036854775807 < ((sLen:Int)+(n:Int))):=by omega
 have hfit':=growslice_fits (bytes:=i.bytes) tn BR
 have h48':¬(281474976710656 < Builtin.nextslicecap (sLen+n) sCap*i.bytes):=by omega
 rcases hX with hX | ⟨e',hX⟩
 all_goals
  simp[Builtin.append_,run_underlying hT,run_underlying hX,sizeOf,typeInfo,zeroValue,hi,Ey,hlen,hn,h63',h48',Question.forced,hf,ho,newRow,grownCap]
  congr 2
  apply eP
  simp[bg]
end
end Go.Ab
namespace Go.Ab
section
variable {P:Program} {C:Ctx} {g:Nat->jm} {β:Id->Option Pl} {s:AS} {a:Act} {w:World} {o:Oper}
theorem Jy(h:Inv C g β s a w){v:av}{y:Value}(hv:VS (s.env w g β) v y){t:Ty}{m:List t.den}(he:(s.FD (.slice t) v).eval=some m):
  ∃ad cap vs,y= .slice ad m.length cap/\(0 < m.length->ad.isSome=true)/\(∀j u,vs[j]? =some u->∃bb off,ad=some ⟨bb,off,none⟩/\w.cell? ⟨bb,off+j,none⟩=some u)/\aO (cG (s.env w g β) t) vs m:=by
 have hp:(s.fZ (.slice t) v).eval=some m:=he
 cases v <;> first | (simp only[AS.fZ,ai]at hp;done) | skip
 case db=>
  simp only[AS.fZ,al]at hp
  subst hp
  exact⟨none,0,[],iw hv,by simp,λj u hj=>by simp at hj,rfl⟩
 case d t' x=>
  simp only[AS.fZ]at hp
  have hp:=gU.1 hp
  have ha:(av.d t' x).agg=false:=AG hp
  have hV:=hv.single rfl ha
  simp only[V]at hV
  have hv:VS (s.env w g β) (.d (.slice t) m) y:=VS.of (cs:=[y]) (by simp only[V];exact qK hp hV) rfl
  obtain⟨ad,cap,vs,hy,_,hs,hr,hc⟩:=mj hv
  exact⟨ad,cap,vs,hy,hs,λj u hj=>let⟨bb,off,e,hh⟩:=hr j u hj;⟨bb,off,e,hh.1⟩,hc⟩
 case cD id ver p c i len=>
  simp only[AS.fZ]at hp
  obtain⟨⟨n,t',l⟩,h1,h2⟩:=ak.1 hp
  obtain⟨h3,h4⟩:=bt.1 h2
  obtain⟨NX,Tc⟩:=G9 (E:=s.env w g β) (gU.1 h4)
  rw[NX]
  simp only[decide_eq_true_eq]at h3
  obtain⟨hc,hlen⟩:=h3
  suffices hg:∃ad cap vs,y= .slice ad (cut l i len).length cap/\(0 < (cut l i len).length->ad.isSome=true)/\(∀j u,vs[j]? =some u->∃bb off,ad=some ⟨bb,off,none⟩/\w.cell? ⟨bb,off+j,none⟩=some u)/\aO (cG (s.env w g β) t') vs (cut l i len) by
   obtain⟨ad,cap,vs,e1,e2,e3,e4⟩:=hg
   exact⟨ad,cap,vs,e1,e2,e3,Tc _ e4⟩
  obtain⟨fr,c0,cj,nN⟩:=wH rfl h.bo h1
  obtain⟨ad,cap,hy,hle,ku,hb,ef⟩:=kZ hv
  have ef:=ef ⟨fr,c0,cj⟩
  have Fj:(cut l i len).length=len:=oV hlen
  rcases nN with⟨hp,hl,_⟩ | ⟨pl,cur,e,hp,hh,l8,mS,hbound⟩
  ·rw[hp]at ef
   simp only at ef
   obtain⟨rfl,rfl,rfl⟩:=ef
   have:cut l i 0=[]:=by simp[cut]
   refine⟨none,0,[],by rw[Fj];exact hy,by rw[Fj];omega,λ_ _ hh=>by simp at hh,?_⟩
   rw[this];rfl
  ·rw[hp]at ef
   simp only at ef
   have hmul:(i+len)*t'.size<=l.length*t'.size:=cJ _ hlen
   rw[dy]at hmul
   refine⟨ad,cap,_,by rw[Fj];exact hy,by rw[Fj];exact ku,?_,tN mS i len⟩
   rw[zl _ _ _ _ _ hmul]
   intro j v hj
   rw[cI]at hj
   split at hj
   ·rename_i MW
    rw[eG,hc]at hj
    have Q2:0 < len:=by
     rcases jn len with h0 | h0
     ·subst h0;simp at MW
     ·exact h0
    refine⟨pl.b,c,ef.1 (.inl Q2),?_⟩
    have hh':w.heap[pl.b]? =some (.cells cur e (0,0)):=hh
    rw[cell_of_row w pl.b (c+j) cur e (0,0) hh']
    simpa using hj
   ·cases hj
theorem xj(h:Inv C g β s a w){t:Ty}{X:TypeId}{x:av}{y:Value}(hx:VS (s.env w g β) x y){m:List t.den}(he:(sk P s t X x).eval=some m):
  (P.underlying X=some .string\/∃e',P.underlying X=some (.slice e'))/\∃news:List Value,aO (cG (s.env w g β) t) news m/\(Builtin.lenOf y).run P w= .ok m.length w/\
   ∀w',w'.heap=w.heap->(Builtin.firstCells t.size m.length y).run P w'= .ok news.toArray w':=by
 have sl:∀(x:av),VS (s.env w g β) x y->(match P.underlying X with
   |some (.slice _)=>s.FD (.slice t) x
   |_=> .fail).eval=some m->(P.underlying X=some .string\/∃e',P.underlying X=some (.slice e'))/\∃news:List Value,aO (cG (s.env w g β) t) news m/\(Builtin.lenOf y).run P w= .ok m.length w/\
   ∀w',w'.heap=w.heap->(Builtin.firstCells t.size m.length y).run P w'= .ok news.toArray w':=by
  intro x hx he
  split at he
  ·rename_i e' hX
   refine⟨.inr ⟨e',hX⟩,?_⟩
   obtain⟨ad,cap,vs,rfl,ku,nN,mS⟩:=Jy h hx he
   have hlen:=aO.length (λ_ _ hx=>cG.size hx) mS
   refine⟨vs,mS,rfl,λw' hw'=> ?_⟩
   cases ad with
   |none=>
    have NW:m.length=0:=by
     rcases jn m.length with h0 | h0
     ·exact h0
     ·have:=ku h0;simp at this
    have:vs=[]:=aL (by rw[hlen,NW,kg])
    subst this
    rfl
   |some ad=>
    refine run_firstCells_some (P:=P) w' t.size _ ad _ _ vs hlen (λj v hj=> ?_)
    obtain⟨bb,off,e1,hh⟩:=nN j v hj
    simp only[ao]at e1
    subst e1
    rw[Addr.add_lit]
    simpa[World.cell?,hw']using hh
  ·simp only[ai]at he
 unfold sk at he
 split at he
 ·rename_i st
  split at he
  ·rename_i hX
   refine⟨.inl hX,?_⟩
   obtain⟨e,hm⟩:=gF (gU.1 he)
   have e':Ty.int .u8=t:=by simpa using e
   subst e'
   simp only at hm
   subst hm
   have hy:=sC hx
   subst hy
   have hlen:(bV st).length=st.size:=by simp only[bV,ct,bZ];rfl
   refine⟨(bV st).map (Value.int .u8),nj _,by rw[hlen];rfl,λw' _=> ?_⟩
   rw[hlen]
   simp only[Builtin.firstCells,Sem.run_pure]
   congr 1
   apply eP
   rw[ByteArray.extract_zero_size]
   simp[bV]
  ·simp only[ai]at he
 ·exact sl _ hx he
theorem pC(z:Array Value)(n:Nat):(Builtin.zeroCells z n).size=n*z.size:=by simp[Builtin.zeroCells]
theorem Ha(h:Inv C g β s a w){c:Call}{x y:Operand}{T X:TypeId}(ho:o.op= .call c)(hc:c.callee= .builtin .copy)(ha:c.args.toList=[x,y])(ht:c.argTypes.toList=[T,X]){s':AS}
  (he:(yo P s o.dst T X (s.ev x) (s.ev y)).eval=some s'):ez P o a w (fF C s'):=by
 obtain⟨cal,args,tys⟩:=c
 simp only at hc ha ht
 have ha':args= #[x,y]:=by apply eP;simpa using ha
 have ht':tys= #[T,X]:=by apply eP;simpa using ht
 subst hc ha' ht'
 have hx:=h.ev x
 have hy:=h.ev y
 have fin:∀z w',(Builtin.copy_ #[T,X] 0 #[a.eval x,a.eval y]).run P w= .ok z w'->(∃g' β',Inv C g' β' s' (a.put o.dst z) w')->ez P o a w (fF C s'):=by
  intro z w' h1 h2
  refine .inl ⟨z,w',pV ho (f:=Builtin.copy_ #[T,X] 0 #[a.eval x,a.eval y]) (λty cs xs Ex=> ?_) h1,h2⟩
  subst Ex
  have e1:Builtin.copy_ #[T,X] 0 #[a.eval x,a.eval y]=Builtin.copy_ #[T,X] ty #[a.eval x,a.eval y]:=rfl
  rw[e1]
  simp[builtin]
 unfold yo at he
 split at he
 ·rename_i e t b id ver len s9 Ex
  obtain⟨hT,hz,i,zv,hi,Ho,MU,Ey,Hr⟩:=pX s9
  obtain⟨m,hm,he⟩:=ak.1 he
  obtain⟨hX,news,mS,hlen,Lz⟩:=xj h hy hm
  have Kz:=mS.length (λ_ _ hx=>cG.size hx)
  have h1news:∀u∈news,u.oneCell'=true:=aO.all (λ_ _ hx=>hx.one) mS
  rw[<-Ho]at Lz
  split at he
  ·rename_i ve n t' l iH
   obtain⟨h1,uR⟩:=aw.1 he
   simp only[ag,beq_iff_eq]at h1
   obtain⟨Nc,S9⟩:=h1
   subst Nc S9
   obtain⟨l',hl',zU⟩:=ak.1 uR
   obtain⟨et,hl'⟩:=gF (gU.1 hl')
   have et':t'=t:=by simpa using et
   subst et'
   simp only at hl'
   subst hl'
   obtain⟨NX,NU⟩:=bt.1 zU
   have NX:m.length<=len:=by simpa using NX
   obtain rfl:=al.1 NU
   have cj:=dw iH
   rw[Ex]at hx
   obtain⟨ad,cap,Il,Ii,ku,yG,ef⟩:=kZ hx
   have ef:=ef ⟨false,_,cj⟩
   obtain⟨pl,cur,e0,hp,hh,hg,hk,hV⟩:=(h.bo id ve false _ cj).box rfl
   have hp:β id=some pl:=hp
   have hh:w.heap[pl.b]? =some (.cells cur e0 (0,0)):=hh
   have hg:g pl.b= .own (.id id) 0:=hg
   have hcur':(match β id with
    |some pl=>(0 < len\/0=0->ad=some ⟨pl.b,0,none⟩)/\(([.arr]:List sW)=[]->0=0->cap=pl.cap)
    |none=>ad=none/\len=0/\cap=0):=ef
   rw[hp]at hcur'
   simp only at hcur'
   have Hi:=hcur'.1 (.inr trivial)
   subst Hi
   have hV:V (s.env w g β) (.d (.arr len t') l) (cur.toList.take cur.size):=hV
   rw[<-bZ,cY]at hV
   simp only[V,cG]at hV
   obtain⟨LD,hVc⟩:=hV
   have Fc:=hVc.length (λ_ _ hx=>cG.size hx)
   have BR:news.length<=cur.size:=by
    rw[Kz]
    have:cur.size=l.length*t'.size:=by simpa using Fc
    rw[this,LD]
    exact cJ _ NX
   have lQ:=run_storeCells_at P pl.b 0 e0 news 0 cur w hh (by simpa using BR) h1news
   have kj:(Builtin.copy_ #[T,X] 0 #[a.eval x,a.eval y]).run P w= .ok (goInt m.length) (w.setRow pl.b (cT cur.toList 0 news).toArray):=by
    have Q5:Nat.min m.length len=m.length:=ei NX
    rw[Il]
    simp only[cq,aN]at lQ
    simp[Builtin.copy_,run_underlying hT,hlen,sizeOf,typeInfo,hi,Q5,Lz w rfl,lQ,cT]
   have Fh:=Trans.setRow w hg (cT cur.toList 0 news).toArray
   have hle:b6 (s.env w g β) ((s.aH id (.obj ve false (.d (.arr len t') (m++l.drop m.length)))).env (w.setRow pl.b (cT cur.toList 0 news).toArray) g β):=b6.aH cj (ax _) Fh (λ_ _=>rfl) (λ_=>rfl)
   have i1:=h.step (cK _ _ _) Fh hle (fT.aH (M0:=kk cj λk v1 l e=>by cases e) h.bo (by rw[cj];simp) hle (λ_ _=>rfl) (λi ver fr c pl2 hi yK A0=>⟨setRow_other w pl.b pl2.b _ (h.apart hg hi yK A0),rfl⟩) (vQ.obj ⟨pl,_,e0,hp,setRow_heap w pl.b cur _ e0 (0,0) hh,hg,trivial,by
    show V _ (.d (.arr len t') (m++l.drop m.length)) ((cT cur.toList 0 news).toArray.toList.take (cT cur.toList 0 news).toArray.size)
    rw[<-bZ,cY]
    simp only[V,cG]
    refine⟨by rw[aq,cO];omega,?_⟩
    have e2:cT cur.toList 0 news=news++cur.toList.drop (m.length*t'.size):=by
     simp[cT,Kz]
    have q:aO (cG (s.env w g β) t') (cT cur.toList 0 news) (m++l.drop m.length):=by
     rw[e2]
     exact aO.append mS (aO.drop (λ_ _ hx=>cG.size hx) m.length hVc)
    exact q.mono λ_ _ hx=>hx.mono hle.mem⟩))
   exact fin _ _ kj ⟨g,β,i1.put o.dst ⟨[.int .i64 (m.length:Int)],by simp only[V,cG],rfl⟩⟩
  ·exact(ai.1 he).elim
 ·exact(ai.1 he).elim
theorem CJ(h:Inv C g β s a w){c:Call}{x y:Operand}{T X:TypeId}(ho:o.op= .call c)(hc:c.callee= .builtin .append)(ha:c.args.toList=[x,y])(ht:c.argTypes.toList=[T,X]){s':AS}
  {nl dt:Bool} (he:(oa P s nl dt o.dst T X (s.ev x) (s.ev y)).eval=some s'):ez P o a w (fF C s'):=by
 obtain⟨cal,args,tys⟩:=c
 simp only at hc ha ht
 have ha':args= #[x,y]:=by apply eP;simpa using ha
 have ht':tys= #[T,X]:=by apply eP;simpa using ht
 subst hc ha' ht'
 have hx:=h.ev x
 have hy:=h.ev y
 have fin:∀z w',(Builtin.append_ #[T,X] 0 #[a.eval x,a.eval y]).run P w= .ok z w'->(∃g' β',Inv C g' β' s' (a.put o.dst z) w')->ez P o a w (fF C s'):=by
  intro z w' h1 h2
  refine .inl ⟨z,w',pV ho (f:=Builtin.append_ #[T,X] 0 #[a.eval x,a.eval y]) (λty cs xs Ex=> ?_) h1,h2⟩
  subst Ex
  have e1:Builtin.append_ #[T,X] 0 #[a.eval x,a.eval y]=Builtin.append_ #[T,X] ty #[a.eval x,a.eval y]:=rfl
  rw[e1]
  simp[builtin]
 unfold oa at he
 split at he
 ·rename_i e t b q s9 hd
  obtain⟨hT,hz,i,zv,hi,Ho,MU,Ey,Hr⟩:=kN s9
  obtain⟨m,hm,he⟩:=ak.1 he
  obtain⟨hX,news,mS,hlen,Lz⟩:=xj h hy hm
  have Kz:=mS.length (λ_ _ hx=>cG.size hx)
  have h1news:∀u∈news,u.oneCell'=true:=aO.all (λ_ _ hx=>hx.one) mS
  rw[<-Ho]at Lz
  have N5:zv.cells.size=t.size:=by have:=(Hr (s.env w g β)).size;simpa using this
  have RC:∀n,(Builtin.zeroCells zv.cells n).size=n*t.size:=λn=>by rw[pC,N5]
  have grow:∀(ad:Option Addr) (sLen sCap:Nat) (bT:List Value) (l0:List t.den),a.eval x= .slice ad sLen sCap->bT.length=sLen*t.size->l0.length=sLen->aO (cG (s.env w g β) t) bT l0->
    (Builtin.firstCells i.size sLen (.slice ad sLen sCap)).run P w.drew= .ok bT.toArray w.drew->sCap < sLen+m.length->dT (sLen+m.length) b=true->
    ∃(cur:Array Value) (cap:Nat),(Builtin.append_ #[T,X] 0 #[a.eval x,a.eval y]).run P w= .ok (.slice (some ⟨w.heap.size,0,none⟩) (sLen+m.length) cap) (w.drew.alloc (.cells cur e))/\
     cur.size=cap*t.size/\sLen+m.length<=cap/\cap<=maxLen/\cur.toList.take ((sLen+m.length)*t.size)=bT++news:=by
   intro ad sLen sCap bT l0 Il xP LC OP PY tn Ew
   simp only[dT,decide_eq_true_eq]at Ew
   have hr:=wI (P:=P) (w:=w) (ty:=0) hT hX hi Ey PY hlen (Lz w.drew rfl) tn (by omega) (by rw[MU];exact Ew.1)
   rw[Il]
   refine⟨_,_,hr,?_,grownCap_ge _ _ _ _,grownCap_le_maxLen _ _ _ _ (by unfold maxLen;omega),?_⟩
   ·have TT:=grownCap_ge w (sLen+m.length) sCap e
    simp only[Array.size_append,fx,RC,xP,Kz,<-dy]
    congr 1
    omega
   ·have Gu:(bT++news).length=(sLen+m.length)*t.size:=by rw[aq,xP,Kz,dy]
    simp only[bC]
    rw[<-Gu]
    exact List.take_left
  split at he
  ·rename_i Tw
   rw[Tw]at hx
   have Il:=iw hx
   cases dt with
   |true=>
    simp only at he
    obtain⟨Ew,he⟩:=bt.1 he
    obtain rfl:=al.1 he
    simp only[ag,decide_eq_true_eq]at Ew
    obtain⟨Ew,NW⟩:=Ew
    obtain⟨cur,cap,hr,q1,q2,q3,q4⟩:=grow none 0 0 [] [] Il (by simp) rfl rfl rfl (by omega) (by simpa using Ew)
    simp only[aN,aS]at hr q2 q4
    have QM:aO (cG (s.env w.drew g β) t) news m:=mS.mono λ_ _ hx=>hx.mono (b6.same (s:=s) (β:=β) (Trans.drew w g)).mem
    refine fin _ _ hr ⟨jv g w.heap.size .free,β,(h.drew.sH (.cells cur e)).put o.dst ⟨[.slice (some ⟨w.heap.size,0,none⟩) m.length cap],?_,rfl⟩⟩
    simp only[V,cG]
    refine⟨λh0=>(by cases h0),λm' hm'=> ?_⟩
    obtain rfl:m=m':=aP hm'
    refine⟨_,cap,cur.toList.take (m.length*t.size),rfl,q2,λ_=>rfl,λj v hj=>⟨_,_,rfl,?_,?_⟩,?_⟩
    ·show(w.drew.alloc (.cells cur e)).cell? ⟨w.drew.heap.size,0+j,none⟩=some v
     rw[World.cell?_alloc_new,aN]
     rw[cI]at hj
     split at hj
     ·simpa using hj
     ·cases hj
    ·show mr (jv g w.heap.size .free) w.heap.size (0+j)
     unfold mr;rw[ew];trivial
    ·rw[q4]
     exact QM.mono λ_ _ hx=>hx.mono (Trans.mem (E:=s.env w.drew g β) (E':=s.env (w.drew.alloc (.cells cur e)) (jv g w.drew.heap.size .free) β) (Trans.alloc w.drew g (.cells cur e) .free))
   |false=>
   simp only at he
   obtain⟨hq,he⟩:=aw.1 he
   obtain⟨Ew,he⟩:=bt.1 he
   obtain rfl:=al.1 he
   by_cases NW:m.length=0
   ·have Q7:m=[]:=aL NW
    subst Q7
    have Ra:news=[]:=aL (by rw[Kz];simp)
    subst Ra
    obtain⟨β',i1,e1,v1⟩:=h.Ju hq (e:=e) hz
    refine fin (.slice none 0 0) w ?_ ⟨g,β',?_⟩
    ·rw[Il]
     exact rv (P:=P) hT hX hi hlen (Lz w rfl)
    ·exact i1.put o.dst v1
   ·obtain⟨cur,cap,hr,q1,q2,q3,q4⟩:=grow none 0 0 [] [] Il (by simp) rfl rfl rfl (by omega) (by simpa using Ew)
    simp only[aN,aS]at hr q2 q4
    obtain⟨g2,β2,i2,v2⟩:=(h.drew).B9 hq (e:=e) (l:=m) (cur:=cur) (cap:=cap) hz (by rw[q4];exact mS.mono λ_ _ hx=>hx.mono (b6.same (s:=s) (β:=β) (Trans.drew w g)).mem) q1 q2 q3
    refine fin _ _ hr ⟨g2,β2,?_⟩
    exact i2.put o.dst v2
  ·rename_i id ver len Ex
   rw[Ex]at hx
   obtain⟨ad,cap,Il,Ii,ku,yG,ef⟩:=kZ hx
   split at he
   ·rename_i v fr e' t' l iH
    obtain⟨h1,uR⟩:=aw.1 he
    clear he
    simp only[ag,beq_iff_eq]at h1
    obtain⟨Nc,SS⟩:=h1
    subst Nc SS
    obtain⟨l',hl',zU⟩:=ak.1 uR
    obtain⟨et,hl'⟩:=gF (gU.1 hl')
    have et':t'=t:=by simpa using et
    subst et'
    simp only at hl'
    subst hl'
    obtain⟨Ky,OT⟩:=bt.1 zU
    have Ky:len<=l.length:=by simpa using Ky
    obtain⟨PX,NU⟩:=bt.1 OT
    obtain⟨Ew,R6⟩:=bt.1 NU
    obtain rfl:=al.1 R6
    clear uR zU OT NU R6
    have cj:=dw iH
    have ef:=ef ⟨fr,_,cj⟩
    obtain⟨_,hO⟩:=h.bo id v fr _ cj
    have hO':(match β id with
     |none=>l=[]
     |some pl=>∃cur k,w.heap[pl.b]? =some (.cells cur e (0,0))/\cur.size=pl.cap*t'.size/\l.length<=pl.cap/\pl.cap<=maxLen/\g pl.b= .own (.id id) k/\
       k<=l.length*t'.size/\(fr=false->k=0)/\aO (cG (s.env w g β) t') (cur.toList.take (l.length*t'.size)) l):=hO
    have hcur':(match β id with
     |some pl=>(0 < len\/0=0->ad=some ⟨pl.b,0,none⟩)/\(([]:List sW)=[]->0=0->cap=pl.cap)
     |none=>ad=none/\len=0/\cap=0):=ef
    have MQ:fr=false\/len=l.length:=by
     simp only[fb,bp,decide_eq_true_eq]at PX
     exact PX
    have ga:s.bG id≠none:=by rw[cj];simp
    have fresh:∀(cur:Array Value) (cp:Nat) (g0:Nat->jm),Trans w (w.drew.alloc (.cells cur e)) g (jv g0 w.heap.size (.own (.id (id)) 0))->
      (∀i ver fr c pl,i≠id->s.bG i=some (.obj ver fr c)->β i=some pl->g0 pl.b=g pl.b)->cur.size=cp*t'.size->len+m.length<=cp->cp<=maxLen->
      aO (cG (s.env w g β) t') (cur.toList.take ((len+m.length)*t'.size)) (l.take len++m)->len<=l.length->
      ∃g' β',Inv C g' β' ((s.aH id (.obj (v+1) fr (.vec e t' (l.take len++m)))).put o.dst (.cD id (v+1) [] 0 0 (len+m.length))) (a.put o.dst (.slice (some ⟨w.heap.size,0,none⟩) (len+m.length) cp)) (w.drew.alloc (.cells cur e)):=by
     intro cur cp g0 ht MS q1 q2 q3 q4 q5
     have LD:(l.take len++m).length=len+m.length:=by simp;omega
     have hle:b6 (s.env w g β) ((s.aH id (.obj (v+1) fr (.vec e t' (l.take len++m)))).env (w.drew.alloc (.cells cur e)) (jv g0 w.heap.size (.own (.id id) 0)) (sG β id (some ⟨w.heap.size,cp⟩))):=
      b6.aH cj (by omega) ht (λi hi=>pv _ _ _ hi) (λhh=>by omega)
     have i1:=h.step (cK _ _ _) ht hle (fT.aH (M0:=kk cj λk v1 l e=>by cases e) h.bo ga hle (λi hi=>pv _ _ _ hi) (λi ver fr' c' pl hi yK A0=>by
       have iC:pl.b < w.heap.size:=((h.bo i ver fr' c' yK).label (pl:=pl) A0).1
       exact⟨kH w.drew _ iC,by rw[ee _ _ _ (by omega)];exact MS i ver fr' c' pl hi yK A0⟩) (by
      refine⟨hz,?_⟩
      show(match sG β id (some ⟨w.heap.size,cp⟩) id with
       |none=>(l.take len++m)=[]
       |some pl=>_)
      rw[gN]
      refine⟨cur,0,lV w.drew _,q1,by rw[LD];exact q2,q3,ew _ _ _,bh _,λ_=>rfl,?_⟩
      rw[LD]
      exact q4.mono λ_ _ hx=>hx.mono hle.mem))
     refine⟨_,_,i1.put o.dst ⟨_,?_,rfl⟩⟩
     simp only[V]
     have ji:=dF s id (.obj (v+1) fr (.vec e t' (l.take len++m))) ga
     refine⟨_,_,rfl,q2,λ_=>rfl,⟨by show(s.aH id _).bG id≠none;rw[ji];simp,λv' fr' c' hh=> ?_⟩,λ_=> ?_⟩
     ·have hh':(s.aH id (.obj (v+1) fr (.vec e t' (l.take len++m)))).bG id=some (.obj v' fr' c'):=hh
      rw[ji]at hh'
      simp only[ao,de.obj.injEq]at hh'
      omega
     ·show(match sG β id (some ⟨w.heap.size,cp⟩) id with
       |some pl=>_
       |none=>_)
      rw[gN]
      exact⟨λ_=>rfl,λ_ _=>rfl⟩
    cases hp:β id with
    |none=>
     rw[hp]at hO' hcur'
     simp only at hO' hcur'
     obtain⟨rfl,rfl,rfl⟩:=hcur'
     subst hO'
     by_cases NW:m.length=0
     ·have Q7:m=[]:=aL NW
      subst Q7
      have Ra:news=[]:=aL (by rw[Kz];simp)
      subst Ra
      have ht:=Trans.refl w g
      have hle:b6 (s.env w g β) ((s.aH id (.obj (v+1) fr (.vec e t' []))).env w g β):=b6.aH cj (by omega) ht (λ_ _=>rfl) (λ_=>rfl)
      have i1:=h.step (cK _ _ _) ht hle (fT.aH (M0:=kk cj λk v1 l e=>by cases e) h.bo ga hle (λ_ _=>rfl) (λ_ _ _ _ _ _ _ _=>⟨rfl,rfl⟩) (by
       refine⟨hz,?_⟩
       show(match β id with
        |none=>([]:List t'.den)=[]
        |some pl=>_)
       rw[hp]))
      refine fin (.slice none 0 0) w ?_ ⟨g,β,i1.put o.dst ⟨_,?_,rfl⟩⟩
      ·rw[Il]
       exact rv (P:=P) hT hX hi hlen (Lz w rfl)
      ·simp only[V]
       have ji:=dF s id (.obj (v+1) fr (.vec e t' [])) ga
       refine⟨_,_,rfl,ax _,λhh=>by simp at hh,⟨by show(s.aH id _).bG id≠none;rw[ji];simp,λv' fr' c' hh=> ?_⟩,λ_=> ?_⟩
       ·have hh':(s.aH id (.obj (v+1) fr (.vec e t' []))).bG id=some (.obj v' fr' c'):=hh
        rw[ji]at hh'
        simp only[ao,de.obj.injEq]at hh'
        omega
       ·show(match β id with
         |some pl=>_
         |none=>_)
        rw[hp]
        exact⟨rfl,by simp,rfl⟩
     ·obtain⟨cur,cp,hr,q1,q2,q3,q4⟩:=grow none 0 0 [] [] Il (by simp) rfl rfl rfl (by omega) Ew
      refine fin _ _ hr (fresh cur cp g (Trans.trans (Trans.drew w g) (Trans.alloc w.drew g _ _)) (λ_ _ _ _ _ _ _ _=>rfl) q1 q2 q3 ?_ (by simp))
      rw[q4]
      simpa using mS
    |some pl=>
     rw[hp]at hO' hcur'
     simp only at hO' hcur'
     obtain⟨Hi,uQ⟩:=hcur'
     have Hi:=Hi (.inr trivial)
     have uQ:=uQ trivial trivial
     subst Hi uQ
     obtain⟨cur,k,p1,p2,p3,p4,p5,p6,p7,p8⟩:=hO'
     have hk:k<=len*t'.size:=by
      rcases MQ with hf | hf
      ·rw[p7 hf];exact bh _
      ·rw[hf];exact p6
     have hmul:len*t'.size<=l.length*t'.size:=cJ _ Ky
     have Sh:l.length*t'.size<=cur.size:=by rw[p2];exact cJ _ p3
     have M9:=aO.take (λ_ _ hx=>cG.size hx) len p8
     rw[gS,ei hmul]at M9
     have xP:(cur.toList.take (len*t'.size)).length=len*t'.size:=by simp;omega
     by_cases tn:len+m.length<=pl.cap
     ·have Tl:(len+m.length)*t'.size<=cur.size:=by rw[p2];exact cJ _ tn
      have BR:len*i.size+news.length<=cur.size:=by rw[Ho,Kz,<-dy];exact Tl
      have hr:=wJ (P:=P) (w:=w) (ty:=0) hT hX hi p1 h1news hlen (Lz w rfl) tn BR
      rw[Ho]at hr BR
      have ht:Trans w (w.setRow pl.b (cT cur.toList (len*t'.size) news).toArray) g g:=by
       refine⟨by simp,by simp,by simp,by simp,λb' hb=> ?_⟩
       by_cases BQ:b'=pl.b
       ·subst BQ
        rw[p5]
        refine⟨.inr ⟨id,k,rfl,ax _⟩,λoff u KB hu=> ?_⟩
        rw[cell_of_row w pl.b off cur e (0,0) p1]at hu
        rw[cell_setRow_same w pl.b off cur _ e (0,0) p1]
        simp only[cT,bg,List.getElem?_toArray]
        rw[dY (by rw[xP];omega),cI,if_pos (by omega)]
        simpa using hu
       ·rw[setRow_other w pl.b b' _ BQ]
        cases xy:g b' with
        |free=>exact⟨rfl,rfl⟩
        |own o' k=>cases o' with
         |dx=>exact⟨rfl,rfl⟩
         |id i'=>exact⟨.inr ⟨i',k,rfl,ax _⟩,λoff v _ hv=>by rw[cell_setRow_other w pl.b _ _ BQ];exact hv⟩
      have hle:b6 (s.env w g β) ((s.aH id (.obj (v+1) fr (.vec e t' (l.take len++m)))).env (w.setRow pl.b (cT cur.toList (len*t'.size) news).toArray) g β):=
       b6.aH cj (by omega) ht (λ_ _=>rfl) (λ_=>rfl)
      have LD:(l.take len++m).length=len+m.length:=by simp;omega
      have Ro:(cT cur.toList (len*t'.size) news).length=cur.toList.length:=gI (by simpa using BR)
      have i1:=h.step (cK _ _ _) ht hle (fT.aH (M0:=kk cj λk v1 l e=>by cases e) h.bo ga hle (λ_ _=>rfl) (λi ver fr c pl2 hi yK A0=>⟨setRow_other w pl.b pl2.b _ (h.apart p5 hi yK A0),rfl⟩) (by
       refine⟨hz,?_⟩
       show(match β id with
        |none=>(l.take len++m)=[]
        |some pl=>_)
       rw[hp]
       refine⟨_,k,setRow_heap w pl.b cur _ e (0,0) p1,by rw[fx,Ro];simpa using p2,by rw[LD];exact tn,p4,p5,?_,p7,?_⟩
       ·rw[LD,dy];omega
       ·rw[LD,show(cT cur.toList (len*t'.size) news).toArray.toList=cT cur.toList (len*t'.size) news from rfl]
        have e1:(cT cur.toList (len*t'.size) news).take ((len+m.length)*t'.size)=cur.toList.take (len*t'.size)++news:=by
         unfold cT
         have Gu:(cur.toList.take (len*t'.size)++news).length=(len+m.length)*t'.size:=by rw[aq,xP,Kz,dy]
         rw[<-Gu]
         exact List.take_left
        rw[e1]
        exact(aO.append M9 mS).mono λ_ _ hx=>hx.mono hle.mem))
      rw[<-Il]at hr
      refine fin _ _ hr ⟨g,β,i1.put o.dst ⟨_,?_,rfl⟩⟩
      simp only[V]
      have ji:=dF s id (.obj (v+1) fr (.vec e t' (l.take len++m))) ga
      refine⟨_,_,rfl,tn,λ_=>rfl,⟨by show(s.aH id _).bG id≠none;rw[ji];simp,λv' fr' c' hh=> ?_⟩,λ_=> ?_⟩
      ·have hh':(s.aH id (.obj (v+1) fr (.vec e t' (l.take len++m)))).bG id=some (.obj v' fr' c'):=hh
       rw[ji]at hh'
       simp only[ao,de.obj.injEq]at hh'
       omega
      ·show(match β id with
        |some pl=>_
        |none=>_)
       rw[hp]
       exact⟨λ_=>rfl,λ_ _=>rfl⟩
     ·have PY:(Builtin.firstCells i.size len (.slice (some ⟨pl.b,0,none⟩) len pl.cap)).run P w.drew= .ok (cur.toList.take (len*t'.size)).toArray w.drew:=by
       refine run_firstCells_some (P:=P) w.drew i.size _ _ _ _ _ (by rw[xP,Ho]) (λj u hj=> ?_)
       rw[Addr.add_lit,aN]
       show w.cell? ⟨pl.b,j,none⟩=some u
       rw[cell_of_row w pl.b j cur e (0,0) p1]
       rw[cI]at hj
       split at hj
       ·simpa using hj
       ·cases hj
      obtain⟨cur2,cp,hr,q1,q2,q3,q4⟩:=grow (some ⟨pl.b,0,none⟩) len pl.cap (cur.toList.take (len*t'.size)) (l.take len) Il xP (by simp;omega) M9 PY (by omega) Ew
      have iC:pl.b < w.heap.size:=(bk.1 p1).1
      have Gr:Trans w w.drew g (jv g pl.b .free):=by
       refine⟨rfl,rfl,⟨rfl,Nat.le_succ _⟩,ax _,λb' hb=> ?_⟩
       by_cases BQ:b'=pl.b
       ·subst BQ
        rw[p5,ew]
        exact⟨.inl rfl,λ_ _ _ hh=>hh⟩
       ·rw[ee _ _ _ BQ]
        exact(Trans.drew w g).vS b' hb
      refine fin _ _ hr (fresh cur2 cp (jv g pl.b .free) (Trans.trans Gr (Trans.alloc w.drew _ _ _)) (λi ver fr c pl2 hi yK A0=>ee _ _ _ (h.apart p5 hi yK A0)) q1 q2 q3 ?_ Ky)
      rw[q4]
      exact aO.append M9 mS
   ·simp only[ai]at he
  ·simp only[ai]at he
 ·simp only[ai]at he
end
end Go.Ab
namespace Go.Ab
abbrev Ren:=Id->Nat->Option (Id×Nat)
structure pI(ρ:Ren)(E E':Env):Prop where
 mem:lU E E'
 ref:∀id ver r,ρ id ver=some r->E.rp id ver->E'.rp r.1 r.2/\(E'.cur r.1 r.2->E.cur id ver/\E'.β r.1=E.β id)
theorem GL(ρ:Ren)(a:av):(a.fS ρ).agg=a.agg:=by
 cases a with
 |ptr id v p n=>simp only[av.fS];cases ρ id v <;> rfl
 |cD id v p c i l=>simp only[av.fS];cases ρ id v <;> rfl
 |lF id v=>simp only[av.fS];cases ρ id v <;> rfl
 |yl id v=>simp only[av.fS];cases ρ id v <;> rfl
 |_=>rfl
mutual
theorem Cz{ρ:Ren}{E E':Env}(h:pI ρ E E'):∀ {a:av} {cs:List Value},V E a cs->V E' (a.fS ρ) cs
 | .undef,_,hv=>by simp only[V]at hv
 | .gone,_,hv=>by simpa only[av.fS,V]using hv
 | .db,_,hv=>by simpa only[av.fS,V]using hv
 | .lP,_,hv=>by simpa only[av.fS,V]using hv
 | .nm,_,hv=>by simpa only[av.fS,V]using hv
 | .qe,_,hv=>by simpa only[av.fS,V]using hv
 | .sb l,_,hv=>by
  simp only[av.fS,V]at hv ⊢
  obtain⟨b,cap,arr,e,h1,h2,h3,h4,h5⟩:=hv
  obtain⟨h6,h7⟩:=h.mem.fz b _ h3 h4
  exact⟨b,cap,arr,e,h1,h2,h6,h7,h5⟩
 | .d t x,_,hv=>by simp only[av.fS,V]at hv ⊢;exact hv.mono h.mem
 | .pr a b,_,hv=>by
  simp only[av.fS,V]at hv ⊢
  obtain⟨ca,cb,e,ha,hb⟩:=hv
  exact⟨ca,cb,e,Cz h ha,Cz h hb⟩
 | .ptr id ver p n,_,hv=>by
  have h1:=hv.one
  simp only[av.fS]
  cases hr:ρ id ver with
  |none=>
   simp only[V]at hv ⊢
   obtain⟨a,e,_⟩:=hv
   exact⟨_,e,h1 _ (by simp[e])⟩
  |some r=>
   simp only[V]at hv ⊢
   obtain⟨a,e,hb,hc⟩:=hv
   obtain⟨b1,b2⟩:=h.ref id ver r hr hb
   refine⟨a,e,b1,λc=> ?_⟩
   obtain⟨c1,e1⟩:=b2 c
   rw[e1];exact hc c1
 | .eO t x,_,hv=>by
  simp only[av.fS,V]at hv ⊢
  obtain⟨b,off,vs,e,hr,hx⟩:=hv
  exact⟨b,off,vs,e,hr.mono h.mem,hx.mono h.mem⟩
 | .cD id ver p c i len,_,hv=>by
  have h1:=hv.one
  simp only[av.fS]
  cases hr:ρ id ver with
  |none=>
   simp only[V]at hv ⊢
   obtain⟨a,cap,e,_⟩:=hv
   exact⟨_,e,h1 _ (by simp[e])⟩
  |some r=>
   simp only[V]at hv ⊢
   obtain⟨a,cap,e,hl,hs,hb,hc⟩:=hv
   obtain⟨b1,b2⟩:=h.ref id ver r hr hb
   refine⟨a,cap,e,hl,hs,b1,λc=> ?_⟩
   obtain⟨c1,e1⟩:=b2 c
   rw[e1];exact hc c1
 | .fn f c,_,hv=>by
  simp only[av.fS,V]at hv ⊢
  obtain⟨vs,e,hc⟩:=hv
  exact⟨vs,e,EH h hc⟩
 | .cons _ _,_,hv=>by simp only[V]at hv
 | .nil,_,hv=>by simp only[V]at hv
 | .vec ..,_,hv=>by simp only[V]at hv
 | .bx ..,_,hv=>by simp only[V]at hv
 | .yl id ver,_,hv=>by
  have h1:=hv.one
  simp only[av.fS]
  cases hr:ρ id ver with
  |none=>
   simp only[V]at hv ⊢
   obtain⟨b,e,_⟩:=hv
   exact⟨_,e,h1 _ (by simp[e])⟩
  |some r=>
   simp only[V]at hv ⊢
   obtain⟨b,e,hb,hc⟩:=hv
   obtain⟨b1,b2⟩:=h.ref id ver r hr hb
   refine⟨b,e,b1,λc=> ?_⟩
   obtain⟨c1,e1⟩:=b2 c
   rw[e1];exact hc c1
 | .lF id ver,_,hv=>by
  have h1:=hv.one
  simp only[av.fS]
  cases hr:ρ id ver with
  |none=>
   simp only[V]at hv ⊢
   obtain⟨b,e,_⟩:=hv
   exact⟨_,e,h1 _ (by simp[e])⟩
  |some r=>
   simp only[V]at hv ⊢
   obtain⟨b,e,hb,hc⟩:=hv
   obtain⟨b1,b2⟩:=h.ref id ver r hr hb
   refine⟨b,e,b1,λc=> ?_⟩
   obtain⟨c1,e1⟩:=b2 c
   rw[e1];exact hc c1
 | .mp ..,_,hv | .lR ..,_,hv | .nH ..,_,hv=>by simp only[V]at hv
theorem EH{ρ:Ren}{E E':Env}(h:pI ρ E E'):∀ {a:av} {vs:List Value},VC E a vs->VC E' (a.fS ρ) vs
 | .nil,_,hv=>by simpa only[av.fS,VC]using hv
 | .cons a b,_,hv=>by
  simp only[av.fS,VC]at hv ⊢
  obtain⟨v,vs',cs,e,ha,ho,hb⟩:=hv
  exact⟨v,vs',cs,e,Cz h ha,by rw[GL];exact ho,EH h hb⟩
 | .undef,_,hv=>by simp only[VC]at hv
 | .gone,_,hv=>by simp only[VC]at hv
 | .db,_,hv=>by simp only[VC]at hv
 | .lP,_,hv=>by simp only[VC]at hv
 | .nm,_,hv=>by simp only[VC]at hv
 | .yl ..,_,hv | .nH ..,_,hv=>by simp only[VC]at hv
 | .qe,_,hv=>by simp only[VC]at hv
 | .sb _,_,hv=>by simp only[VC]at hv
 | .d t x,_,hv=>by simp only[VC]at hv
 | .pr a b,_,hv=>by simp only[VC]at hv
 | .ptr ..,_,hv=>by simp only[VC]at hv
 | .eO ..,_,hv=>by simp only[VC]at hv
 | .cD ..,_,hv=>by simp only[VC]at hv
 | .fn ..,_,hv=>by simp only[VC]at hv
 | .vec ..,_,hv=>by simp only[VC]at hv
 | .bx ..,_,hv=>by simp only[VC]at hv
 | .lF ..,_,hv=>by simp only[VC]at hv
 | .mp ..,_,hv | .lR ..,_,hv=>by simp only[VC]at hv
end
theorem tF{ρ:Ren}{E E':Env}(h:pI ρ E E'){a:av}{v:Value}(hv:VS E a v):VS E' (a.fS ρ) v:=by
 by_cases hc:a.dK=true
 ·obtain⟨cs,h1,h2⟩:=hv.dK hc
  exact VS.of (Cz h h1) (by rw[GL];exact h2)
 ·cases a <;> first | (exact absurd rfl hc) | skip
  ·trivial
  ·obtain⟨vs,e,P7⟩:=hv
   have:=EH h P7
   simp only[av.fS]at this ⊢
   exact⟨vs,e,this⟩
  ·exact hv
  ·obtain⟨cs,h1,_⟩:=hv
   simp only[V]at h1
  ·obtain⟨cs,h1,_⟩:=hv
   simp only[V]at h1
  ·obtain⟨cs,h1,_⟩:=hv
   simp only[V]at h1
  ·obtain⟨cs,h1,_⟩:=hv
   simp only[V]at h1
  ·obtain⟨cs,h1,_⟩:=hv
   simp only[V]at h1
theorem zn(ρ:Ren):∀f:av,(f.fS ρ).list=f.list.map (av.fS ρ)
 | .cons a b=>by simp only[av.fS,av.list,bE,zn ρ b]
 | .undef | .gone | .db | .lP | .nm | .qe | .d _ _ | .eO _ _ | .fn _ _ | .pr _ _ | .nil | .vec .. | .sb _ | .bx .. | .mp .. | .lR .. | .nH .. =>rfl
 | .ptr id ver p n=>by simp only[av.fS];cases ρ id ver <;> rfl
 | .cD id ver p c i len=>by simp only[av.fS];cases ρ id ver <;> rfl
 | .lF id ver=>by simp only[av.fS];cases ρ id ver <;> rfl
 | .yl id ver=>by simp only[av.fS];cases ρ id ver <;> rfl
theorem EE{ρ:Ren}{E E':Env}(h:pI ρ E E'){f:av}{tmps:Array Value}(hs:qG E f tmps):qG E' (f.fS ρ) tmps:=by
 refine⟨by rw[zn,ct];exact hs.1,λi=> ?_⟩
 have:=tF h (hs.2 i)
 rw[zn,ay,dU]
 rw[ay]at this
 cases hi:f.list[i]? with
 |none=>exact VS.undef
 |some x=>rw[hi]at this;exact this
theorem HQ(ρ:Ren)(c:av):(c.fS ρ).strip=c.strip.fS ρ:=by
 cases c <;> first
  |rfl
  | (rename_i id ver p n;simp only[av.strip,av.fS];cases ρ id ver <;> rfl)
  | (rename_i id ver p c i len;simp only[av.strip,av.fS];cases ρ id ver <;> rfl)
  | (rename_i i v;simp only[av.strip,av.fS];cases ρ i v <;> rfl)
theorem vF(ρ:Ren):∀c:av,(c.fS ρ).size=c.size
 | .pr a b=>by simp only[av.fS,av.size,vF ρ a,vF ρ b]
 | .ptr id ver p n=>by simp only[av.fS];cases ρ id ver <;> rfl
 | .cD id ver p c i len=>by simp only[av.fS];cases ρ id ver <;> rfl
 | .lF id ver=>by simp only[av.fS];cases ρ id ver <;> rfl
 | .undef | .gone | .db | .lP | .nm | .qe | .d _ _ | .eO _ _ | .fn _ _ | .cons _ _ | .nil | .vec .. | .sb _ | .bx .. | .mp .. | .lR .. | .nH .. =>rfl
 | .yl id ver=>by simp only[av.fS];cases ρ id ver <;> rfl
theorem Iu(ρ:Ren){c:av}(n:Nat):(c.fS ρ).nJ n=c.nJ n:=by
 cases c with
 |bx e z c=>cases z with
  |zero=>rfl
  |succ z=>exact vF ρ c
 |_=>first | rfl | (simp only[av.fS];split <;> rfl)
theorem G1(ρ:Ren){c:av}{pl:Pl}{n:Nat}{e:TypeId}(h:c.rQ pl n e):(c.fS ρ).rQ pl n e:=by
  cases c <;> first
    | (rename_i e' z c;cases z with
       |zero=>exact h
       |succ z=>exact⟨h.1,h.2.1,h.2.2.1,by rw[vF];exact h.2.2.2⟩)
    |exact h
    |trivial
    | (rename_i id ver p n;simp only[av.fS];cases ρ id ver <;> trivial)
    | (rename_i id ver p c i len;simp only[av.fS];cases ρ id ver <;> trivial)
    | (rename_i i v;simp only[av.fS];cases ρ i v <;> trivial)
theorem nc{ρ:Ren}{E E':Env}(h:pI ρ E E'){id id':Id}{fr:Bool}{c:av}(ho:nb E id fr c)(hβ:E'.β id'=E.β id)
  (hb:∀pl,E.β id=some pl->E'.w.heap[pl.b]? =E.w.heap[pl.b]? /\(∀k,E.g pl.b= .own (.id id) k->E'.g pl.b= .own (.id id') k)/\(E.g pl.b= .free->E'.g pl.b= .free)):nb E' id' fr (c.fS ρ):=by
 by_cases hn:c.fJ=false
 ·obtain⟨pl,cur,e,h1,h2,h3,h5,h4⟩:=ho.box hn
  obtain⟨b1,b2,b3⟩:=hb pl h1
  have h6:=Cz h h4
  refine vQ.obj ⟨pl,cur,e,by rw[hβ,h1],by rw[b1,h2],?_,G1 ρ h5,by rw[HQ,Iu];exact h6⟩
  cases fr with
  |true=>exact b3 h3
  |false=>exact b2 0 h3
 ·cases c <;> first
   | (exact absurd rfl hn)
   |skip
  rotate_left
  rotate_left
  ·obtain⟨pl,mb,since,seen,c0,h1,h2,h3,_⟩:=ho
   obtain⟨b1,b2,_⟩:=hb pl h1
   exact⟨pl,mb,since,seen,c0,by rw[hβ,h1],by rw[b1,h2],b2 0 h3,λvr Fi=>by cases Fi⟩
  ·obtain⟨pl,r,h1,h2,h3,h4,h5,h6⟩:=ho
   obtain⟨b1,b2,_⟩:=hb pl h1
   exact⟨pl,r,by rw[hβ,h1],by rw[b1,h2],b2 0 h3,h4,EE h h5,h6⟩
  rotate_left
  ·obtain⟨pl,es,clock,h1,h2,h3,h4⟩:=ho
   obtain⟨b1,b2,_⟩:=hb pl h1
   exact⟨pl,es,clock,by rw[hβ,h1],by rw[b1,h2],b2 0 h3,⟨h4.1.1.mono h.mem,h4.1.2⟩,h4.2⟩
  rename_i e t l
  obtain⟨hz,ho⟩:=ho
  refine⟨hz,?_⟩
  rw[hβ]
  cases hp:E.β id with
  |none=>rw[hp]at ho;exact ho
  |some pl=>
   rw[hp]at ho
   simp only at ho ⊢
   obtain⟨b1,b2,_⟩:=hb pl hp
   obtain⟨cur,k,h1,h2,h3,h4,h5,h6,h7,h8⟩:=ho
   exact⟨cur,k,by rw[b1,h1],h2,h3,h4,b2 k h5,h6,h7,h8.mono λc x hx=>hx.mono h.mem⟩
def pF(E:Env):List av->List Value->Prop
 |[],[]=>True
 |a::as,v::vs=>VS E a v/\pF E as vs
 |_,_=>False
def iO.st(G:iO):AS:= {bR:=[],bT:=G.bT,news:=[G.news]}
def eN(bT:List de):AS:= {bR:=[],bT,news:=[]}
def nR(E:Env)(G:iO)(v:Value)(w':World):Prop:=
 ∃g' β',VS (G.st.env w' g' β') G.val v/\fT (G.st.env w' g' β')/\Trans E.w w' E.g g'/\b6 E (G.st.env w' g' β')
def ky(P:Program)(f:FuncId)(en:Entry):Prop:=
 ∀w g β args bT iE x,pF ((eN bT).env w g β) args iE->fT ((eN bT).env w g β)->en.run args bT=some x->
  ((callFunc f iE.toArray).run P w= .ok (.enter f iE.toArray) w/\
   Calls P f iE.toArray w λe w'=>∃v,e= .returned v/\nR ((eN bT).env w g β) (en.out args bT x) v w')\/
  (∃v w',(callFunc f iE.toArray).run P w= .ok (.value v) w'/\nR ((eN bT).env w g β) (en.out args bT x) v w')
def wP(P:Program)(y:Nat)(en:Entry):Prop:=
 ∀w g β args bT iE x,pF ((eN bT).env w g β) args iE->fT ((eN bT).env w g β)->en.run args bT=some x->
  ∀l us ts f rd n,iE= .func (.yield l) #[] #[]::(us++ts)->us.length=(rh P y).ps.size->
   RoundIn (Fr rd) n P l f (((rh P y).ps.zip us.toArray).foldl (λtmps (t,a)=>tmps.setIfInBounds t a) ts.toArray) (rh P y).as (rh P y).b w
    λe w'=>∃v,e= .returned v/\nR ((eN bT).env w g β) (en.out args bT x) v w'
def nS(P:Program)(f:Nat)(en:Entry):Prop:=(Nat.blt f yB=true->ky P f en)/\(Nat.ble yB f=true->wP P f en)
theorem nS.of{P:Program}{f:FuncId}{en:Entry}(h:ky P f en)(hf:Nat.blt f yB=true):nS P f en:=
 ⟨λ_=>h,λh2=>by
  exact absurd (lh (eW hf) (eW h2)) (gE _)⟩
theorem nS.TA{P:Program}{f:FuncId}{en:Entry}(h:wP P f en)(hf:Nat.ble yB f=true):nS P f en:=
 ⟨λh2=>by
  exact absurd (lh (eW h2) (eW hf)) (gE _),λ_=>h⟩
def Sound(P:Program)(Γ:nG):Prop:=∀f vs en,Γ f vs=some en->nS P f en
theorem pF.mono{E E':Env}(h:b6 E E'):∀ {as:List av} {vs:List Value},pF E as vs->pF E' as vs
 |[],[],_=>trivial
 |_::_,_::_,⟨h1,h2⟩=>⟨h1.mono h,pF.mono h h2⟩
theorem pF.fS{ρ:Ren}{E E':Env}(h:pI ρ E E'):∀ {as:List av} {vs:List Value},pF E as vs->pF E' (as.map (av.fS ρ)) vs
 |[],[],_=>trivial
 |_::_,_::_,⟨h1,h2⟩=>⟨tF h h1,pF.fS h h2⟩
theorem pF.append{E:Env}:∀ {as:List av} {vs:List Value} {bs:List av} {us:List Value},pF E as vs->pF E bs us->pF E (as++bs) (vs++us)
 |[],[],_,_,_,h=>h
 |_::_,_::_,_,_,⟨h1,h2⟩,h=>⟨h1,pF.append h2 h⟩
theorem EG{E:Env}:∀ {c:av} {vs:List Value},VC E c vs->pF E c.list vs
 | .cons a b,vs,h=>by
  simp only[VC]at h
  obtain⟨v,vs',cs,rfl,ha,ho,hb⟩:=h
  exact⟨VS.of ha ho,EG hb⟩
 | .nil,vs,h=>by
  simp only[VC]at h
  subst h
  trivial
 | .undef,_,hv=>by simp only[VC]at hv
 | .gone,_,hv=>by simp only[VC]at hv
 | .db,_,hv=>by simp only[VC]at hv
 | .lP,_,hv=>by simp only[VC]at hv
 | .nm,_,hv=>by simp only[VC]at hv
 | .yl ..,_,hv | .nH ..,_,hv=>by simp only[VC]at hv
 | .qe,_,hv=>by simp only[VC]at hv
 | .sb _,_,hv=>by simp only[VC]at hv
 | .d t x,_,hv=>by simp only[VC]at hv
 | .pr a b,_,hv=>by simp only[VC]at hv
 | .ptr ..,_,hv=>by simp only[VC]at hv
 | .eO ..,_,hv=>by simp only[VC]at hv
 | .cD ..,_,hv=>by simp only[VC]at hv
 | .fn ..,_,hv=>by simp only[VC]at hv
 | .vec ..,_,hv=>by simp only[VC]at hv
 | .bx ..,_,hv=>by simp only[VC]at hv
 | .lF ..,_,hv=>by simp only[VC]at hv
 | .mp ..,_,hv | .lR ..,_,hv=>by simp only[VC]at hv
theorem Inv.Qz{C:Ctx}{g:Nat->jm}{β:Id->Option Pl}{s:AS}{a:Act}{w:World}(h:Inv C g β s a w):∀l:List Operand,pF (s.env w g β) (l.map s.ev) (l.map a.eval)
 |[]=>trivial
 |x::l=>⟨h.ev x,h.Qz l⟩
theorem rV{E E':Env}{s:AS}(hs:E.s=s.bG)(ho:fT E)(he:b6 E E'):∀(ps:List (Option Ty)) (vs:List av) (ys:List Value) (r:List av×List Id),pF E vs ys->(s.conv ps vs).eval=some r->Oi E E' r.2->pF E' r.1 ys
 |[],[],ys,r,hv,h,_=>by
  simp only[AS.conv,al]at h
  subst h
  cases ys with
  |nil=>trivial
  |cons _ _=>exact hv.elim
 |some t::ps,v::vs,y::ys,r,⟨hv,uT⟩,h,hf=>by
  simp only[AS.conv]at h
  obtain⟨x,h1,h2⟩:=ak.1 h
  obtain⟨r',h3,h4⟩:=ak.1 h2
  obtain rfl:=al.1 h4
  obtain⟨cs,hV,hO⟩:=hv.dK (pS h1)
  refine⟨VS.of (cs:=cs) ?_ ?_,rV hs ho he ps vs ys r' uT h3 λid cP=>hf id (bf.2 (.inr cP))⟩
  ·simp only[V]
   exact nF hs ho he v t x cs hV h1 λid cP=>hf id (bf.2 (.inl cP))
  ·show eC t.agg cs y
   rw[<-zL h1];exact hO
 |none::ps,v::vs,y::ys,r,⟨hv,uT⟩,h,hf=>by
  simp only[AS.conv]at h
  obtain⟨r',h3,h4⟩:=ak.1 h
  obtain rfl:=al.1 h4
  exact⟨hv.mono he,rV hs ho he ps vs ys r' uT h3 hf⟩
 |[],_::_,_,_,_,h,_=>by simp only[AS.conv,ai]at h
 |some _::_,[],_,_,_,h,_=>by simp only[AS.conv,ai]at h
 |none::_,[],_,_,_,h,_=>by simp only[AS.conv,ai]at h
end Go.Ab
namespace Go.Ab
theorem lz{id:Id}:∀ {ids:List Id} {k:Nat},idxOf id ids=some k->ids[k]? =some id
 |[],_,h=>by simp[idxOf]at h
 |x::xs,k,h=>by
  simp only[idxOf]at h
  split at h
  ·rename_i e
   simp only[ao]at h
   subst h e
   rfl
  ·simp only[ea]at h
   obtain⟨j,hj,rfl⟩:=h
   simpa using lz hj
theorem pM{id:Id}:∀ {ids:List Id} {k:Nat},ids.Nodup->ids[k]? =some id->idxOf id ids=some k
 |[],_,_,h=>by simp at h
 |x::xs,0,hn,h=>by
  simp only[eB,ao]at h
  simp[idxOf,h]
 |x::xs,k+1,hn,h=>by
  simp only[iR]at h
  obtain⟨h1,h2⟩:=cV.1 hn
  have ga:x≠id:=λe=>h1 (e▸cE h)
  simp[idxOf,ga,pM h2 h]
theorem qi(s0:AS)(all:List Id)(t:Nat):∀(ids:List Id) (es:List de) (s:AS),(AS.gB s0 all t s ids es).bR=s.bR
 |[],_,_=>by simp[AS.gB]
 |_::_,[],_=>by simp[AS.gB]
 |id::ids,e::es,s=>by rw[AS.gB,qi s0 all t ids es,cK]
theorem zB(s:AS)(ids:List Id)(t:Nat)(es:List de):(s.made ids t es).bR=s.bR:=by cases es <;> rfl
theorem rW(s0:AS)(all:List Id)(t:Nat):∀(ids:List Id) (es:List de) (s:AS),ids.Nodup->es.length=ids.length->(∀id∈ids,s.bG id≠none)->
  (∀id,id ∉ ids->(AS.gB s0 all t s ids es).bG id=s.bG id)/\
  ∀(k:Nat) (id:Id) (e:de),ids[k]? =some id->es[k]? =some e->(AS.gB s0 all t s ids es).bG id=some (s0.lq all t (s0.pT id) e)
 |[],es,s,_,_,_=>⟨λ_ _=>by simp[AS.gB],λk id e h=>by simp at h⟩
 |_::_,[],s,_,hl,_=>by simp at hl
 |i::ids,e::es,s,hn,hl,hp=>by
  obtain⟨h1,h2⟩:=cV.1 hn
  have hp':∀id∈ids,(s.aH i (s0.lq all t (s0.pT i) e)).bG id≠none:=λid cP=>by
   rw[cC s i id _ (λe=>h1 (e▸cP))]
   exact hp id (aF _ cP)
  obtain⟨r1,r2⟩:=rW s0 all t ids es (s.aH i (s0.lq all t (s0.pT i) e)) h2 (by simpa using hl) hp'
  rw[AS.gB]
  refine⟨λid cP=> ?_,λk id e' hk he=> ?_⟩
  ·simp only[cv,not_or]at cP
   rw[r1 id cP.2,cC s i id _ cP.1]
  ·cases k with
   |zero=>
    simp only[eB,ao]at hk he
    subst hk he
    rw[r1 i h1,dF s i _ (hp i (aG ..))]
   |succ k=>
    simp only[iR]at hk he
    exact r2 k id e' hk he
theorem C0(s:AS)(ids:List Id)(t:Nat)(es:List de)(hv:es=[]\/s.di t=true):
  (∀id,(es=[]\/∀j,id≠ .new t j)->(s.made ids t es).bG id=s.bG id)/\(es≠ []->∀j,(s.made ids t es).bG (.new t j)=(es[j]?).map (s.lq ids t 0)):=by
 cases es with
 |nil=>exact⟨λ_ _=>rfl,λh=>absurd rfl h⟩
 |cons e es=>
  have hv:s.di t=true:=by
   rcases hv with h | h
   ·cases h
   ·exact h
  refine⟨λid h=> ?_,λ_ j=> ?_⟩
  ·rcases h with h | h
   ·cases h
   ·exact fU _ h
  ·rw[AS.made,oh (gZ hv).2,dU]
def jT(ids:List Id):jm->jm
 | .free=> .free
 | .own .dx n=> .own .dx n
 | .own (.id i) n=>match idxOf i ids with | some k=> .own (.id (.dd k)) n | none=> .own .dx n
def qZ(β:Id->Option Pl)(ids:List Id):Id->Option Pl
 | .dd k=>(ids[k]?).bind β
 | .new _ _=>none
def jO(g:Nat->jm)(size:Nat)(ids:List Id)(t:Nat)(b:Nat):jm->jm
 | .free=> .free
 | .own .dx n=>if b < size then g b else .own .dx n
 | .own (.id i) n=> .own (.id (LM ids t i)) n
def ns(β β':Id->Option Pl)(ids:List Id)(t:Nat)(some?:Bool)(id:Id):Option Pl:=
 match idxOf id ids with
 |some k=>β' (.dd k)
 |none=>match id with
  | .new i j=>if i=t/\some?=true then β' (.new 0 j) else β (.new i j)
  |id=>β id
theorem Jh{ids:List Id}{l:jm}{off:Nat}(h:mr (λ_=>l) 0 off):mr (λ_=>jT ids l) 0 off:=by
 cases l with
 |free=>trivial
 |own o k=>cases o with
  |dx=>exact h
  |id i=>simp only[jT];cases idxOf i ids <;> exact h
section
variable {P:Program} {C:Ctx} {g:Nat->jm} {β:Id->Option Pl} {s:AS} {a:Act} {w:World} {o:Oper}
theorem LN(ids:List Id):
  pI (s.nA ids) (s.env w g β) ((eN (ids.map (s.jz ids))).env w (λb=>jT ids (g b)) (qZ β ids)):=by
 refine⟨⟨λb off v ⟨h1,h2⟩=>⟨h1,?_⟩,λb ob h1 h2=>⟨by show jT ids (g b)= .free;have h1:g b= .free:=h1;rw[h1];rfl,h2⟩⟩,λid ver r hr _=> ?_⟩
 ·exact Jh (l:=g b) h2
 ·unfold AS.nA at hr
  split at hr
  ·rename_i k v fr c hk ho
   split at hr
   ·rename_i Po
    simp only[ao]at hr
    subst hr Po
    have cP:=lz hk
    have cj:=dw ho
    refine⟨⟨?_,λ_ _ _ _=>bh _⟩,λ_=>⟨⟨fr,c,cj⟩,?_⟩⟩
    ·show(ids.map (s.jz ids))[k]? ≠none
     simp[cP]
    ·show(ids[k]?).bind β=β id
     rw[cP];rfl
   ·cases hr
  ·cases hr
theorem KF(ids:List Id)(hn:ids.Nodup)(h:fT (s.env w g β)):fT ((eN (ids.map (s.jz ids))).env w (λb=>jT ids (g b)) (qZ β ids)):=by
 intro id ver fr c cP
 have cP:(eN (ids.map (s.jz ids))).bG id=some (.obj ver fr c):=cP
 cases id with
 |new i j=>simp[eN,AS.bG]at cP
 |dd k=>
  simp only[eN,AS.bG,dU,ea]at cP
  obtain⟨id1,hk,he⟩:=cP
  unfold AS.jz at he
  split at he
  ·rename_i v fr1 c1 cj
   simp only[de.obj.injEq]at he
   obtain⟨rfl,rfl,rfl⟩:=he
   refine nc (LN ids) (h id1 v fr1 c1 cj) (by show(ids[k]?).bind β=β id1;rw[hk];rfl) λpl hp=>⟨rfl,λn hg=> ?_,λhg=> ?_⟩
   ·have hg:g pl.b= .own (.id id1) n:=hg
    show jT ids (g pl.b)=_
    rw[hg]
    simp[jT,pM hn hk]
   ·have hg:g pl.b= .free:=hg
    show jT ids (g pl.b)=_
    rw[hg];rfl
  ·cases he
theorem yg(h:Inv C g β s a w){ids:List Id}(hn:ids.Nodup)(hp:∀id∈ids,∃r,s.obj id=some r)(xP:∀id∈ids,s.yW id=true){G:iO}{t:Nat}(hl:G.bT.length=ids.length)(hv:G.news=[]\/s.di t=true){v:Value}{w':World}
  (ha:nR ((eN (ids.map (s.jz ids))).env w (λb=>jT ids (g b)) (qZ β ids)) G v w'):
  ∃g' β',Inv C g' β' (AS.gB s ids t (s.made ids t G.news) ids G.bT) a w'/\VS ((AS.gB s ids t (s.made ids t G.news) ids G.bT).env w' g' β') (G.val.fS (s.mJ ids t)) v:=by
 obtain⟨g1,β1,o7,LH,Fh,hle⟩:=ha
 have Fh:Trans w w' (λb=>jT ids (g b)) g1:=Fh
 obtain⟨m1,m2⟩:=C0 s ids t G.news hv
 have Re:∀id∈ids,s.bG id≠none:=λid cP=>by
  obtain⟨⟨v,fr,c⟩,hr⟩:=hp id cP
  rw[dw hr];simp
 have tc:∀id,s.bG id≠none->G.news=[]\/∀j,id≠ .new t j:=λid cP=>by
  rcases hv with hv | hv
  ·exact .inl hv
  ·exact .inr λj e=>cP (by rw[e];exact(gZ hv).1 j)
 obtain⟨n1,n2⟩:=rW s ids t ids G.bT (s.made ids t G.news) hn hl (λid cP=>by rw[m1 id (tc id (Re id cP))];exact Re id cP)
 have Pp:∀j,G.news≠ []->Id.new t j ∉ ids:=λj ga cP=>by
  rcases hv with hv | hv
  ·exact ga hv
  ·exact Re _ cP ((gZ hv).1 j)
 generalize yK:AS.gB s ids t (s.made ids t G.news) ids G.bT=s2 at*
 have hgO:∀(k:Nat) (id:Id),ids[k]? =some id->∃e,G.bT[k]? =some e/\s2.bG id=some (s.lq ids t (s.pT id) e):=λk id hk=>by
  have iC:k < G.bT.length:=by rw[hl];exact(c6.1 hk).1
  exact⟨_,bS iC,n2 k id _ hk (bS iC)⟩
 have hgN:G.news≠ []->∀j,s2.bG (.new t j)=(G.news[j]?).map (s.lq ids t 0):=λga j=>by
  rw[n1 _ (Pp j ga),m2 ga j]
 have hgS:∀id,id ∉ ids->(G.news=[]\/∀j,id≠ .new t j)->s2.bG id=s.bG id:=λid h1 h2=>by
  rw[n1 id h1,m1 id h2]
 have hverOf:∀id∈ids,∃fr c,s.bG id=some (.obj (s.pT id) fr c):=λid cP=>by
  obtain⟨⟨v,fr,c⟩,hr⟩:=hp id cP
  refine⟨fr,c,?_⟩
  rw[dw hr]
  simp[AS.pT,hr]
 have QQ:∀b n,b < w.heap.size->g1 b= .own .dx n->(g b= .own .dx n\/∃i,g b= .own (.id i) n/\idxOf i ids=none):=λb n hb hg=>by
  have h1:=Fh.vS b hb
  cases xy:g b with
  |free=>simp only[xy,jT]at h1;rw[h1.1]at hg;cases hg
  |own o k=>cases o with
   |dx=>simp only[xy,jT]at h1;rw[h1.1]at hg;left;exact hg
   |id i=>
    cases hi:idxOf i ids with
    |none=>
     simp only[xy,jT,hi]at h1
     rw[h1.1]at hg
     simp only[jm.own.injEq,true_and]at hg
     subst hg
     exact .inr ⟨i,rfl,hi⟩
    |some k'=>
     simp only[xy,jT,hi]at h1
     rcases h1.1 with h2 | ⟨_,_,h2,_⟩ <;> (rw[h2]at hg;cases hg)
 let g2:Nat->jm:=λb=>jO g w.heap.size ids t b (g1 b)
 let β2:Id->Option Pl:=ns β β1 ids t (!G.news.isEmpty)
 have hβO:∀k id,ids[k]? =some id->β2 id=β1 (.dd k):=λk id hk=>by
  show ns _ _ _ _ _ id=_
  simp[ns,pM hn hk]
 have hβN:G.news≠ []->∀j,β2 (.new t j)=β1 (.new 0 j):=λga j=>by
  show ns _ _ _ _ _ _=_
  have:idxOf (.new t j) ids=none:=by
   cases hi:idxOf (.new t j) ids with
   |none=>rfl
   |some k=>exact absurd (cE (lz hi)) (Pp j ga)
  have hne':G.news.isEmpty=false:=by cases hh:G.news with
   |nil=>exact absurd hh ga
   |cons _ _=>rfl
  simp[ns,this,hne']
 have hβS:∀id,id ∉ ids->(G.news=[]\/∀j,id≠ .new t j)->β2 id=β id:=λid h1 h2=>by
  show ns _ _ _ _ _ _=_
  have:idxOf id ids=none:=by
   cases hi:idxOf id ids with
   |none=>rfl
   |some k=>exact absurd (cE (lz hi)) h1
  cases id with
  |dd k=>simp[ns,this]
  |new i j=>
   have:¬(i=t/\(!G.news.isEmpty)=true):=by
    rintro⟨rfl,h3⟩
    rcases h2 with h2 | h2
    ·rw[h2]at h3;cases h3
    ·exact h2 j rfl
   simp only[ns, *,if_false]
 have Ph:Trans w w' g g2:=by
  refine⟨Fh.os,Fh.tape,Fh.output,Fh.size,λb hb=> ?_⟩
  have h1:=Fh.vS b hb
  show match g b with | .free=>jO g w.heap.size ids t b (g1 b)= .free/\_ | .own .dx k=>jO g w.heap.size ids t b (g1 b)= .own .dx k/\_ | .own (.id _) k=>(jO g w.heap.size ids t b (g1 b)= .free\/∃i k',jO g w.heap.size ids t b (g1 b)= .own (.id i) k'/\k<=k')/\_
  cases xy:g b with
  |free=>simp only[xy,jT]at h1 ⊢;rw[h1.1];exact⟨rfl,h1.2⟩
  |own o k=>cases o with
   |dx=>simp only[xy,jT]at h1 ⊢;rw[h1.1];simp only[jO,hb,if_true,xy];exact⟨trivial,h1.2⟩
   |id i=>
    cases hi:idxOf i ids with
    |none=>
     simp only[xy,jT,hi]at h1 ⊢
     rw[h1.1]
     simp only[jO,hb,if_true,xy]
     exact⟨.inr ⟨i,k,rfl,ax _⟩,λoff v _ hv=>by simpa only[World.cell?,h1.2]using hv⟩
    |some k'=>
     simp only[xy,jT,hi]at h1 ⊢
     refine⟨?_,h1.2⟩
     rcases h1.1 with h2 | ⟨i',k'',h2,h3⟩
     ·rw[h2];exact .inl rfl
     ·rw[h2];exact .inr ⟨_,k'',rfl,h3⟩
 have pZ:lU (G.st.env w' g1 β1) (s2.env w' g2 β2):=by
  refine⟨λb off v ⟨h1,h2⟩=> ?_,λb ob h1 h2=>⟨by show jO g w.heap.size ids t b (g1 b)= .free;have h1:g1 b= .free:=h1;rw[h1];rfl,h2⟩⟩
  refine⟨h1,?_⟩
  have h2:mr g1 b off:=h2
  show mr g2 b off
  unfold mr at h2 ⊢
  show match jO g w.heap.size ids t b (g1 b) with | .free=>True | .own _ k=>off < k
  cases xy:g1 b with
  |free=>simp[jO]
  |own o k=>
   rw[xy]at h2
   cases o with
   |dx=>
    simp only[jO]
    by_cases hb:b < w.heap.size
    ·rw[if_pos hb]
     rcases QQ b k hb xy with h3 | ⟨i,h3,_⟩ <;> (rw[h3];exact h2)
    ·rw[if_neg hb];exact h2
   |id i=>exact h2
 have hentOut:∀(base:Nat) (e:de) (ver:Nat) (fr:Bool) (c:av),s.lq ids t base e= .obj ver fr c->∃v0 c0,e= .obj v0 fr c0/\ver=base+v0/\c=c0.fS (s.mJ ids t):=λbase e ver fr c he=>by
  cases e with
  |dead=>cases he
  |obj v0 fr0 c0=>
   simp only[AS.lq,de.obj.injEq]at he
   obtain⟨rfl,rfl,rfl⟩:=he
   exact⟨v0,c0,rfl,rfl,rfl⟩
 have BT:pI (s.mJ ids t) (G.st.env w' g1 β1) (s2.env w' g2 β2):=by
  refine⟨pZ,λid ver r hr hb=> ?_⟩
  cases id with
  |dd k=>
   obtain⟨vN,xN⟩:=hb
   have vN:G.bT[k]? ≠none:=vN
   have hk:k < ids.length:=by
    rcases kf k ids.length with h' | h'
    ·exact h'
    ·exact absurd (c7 (by omega)) vN
   have cP:ids[k]? =some ids[k]:=bS hk
   simp only[AS.mJ,cP,ao]at hr
   subst hr
   obtain⟨e,uR,zU⟩:=hgO k _ cP
   refine⟨⟨by show s2.bG _≠none;rw[zU];simp,λv fr c hh=> ?_⟩,λ⟨fr,c,hh⟩=>⟨?_,hβO k _ cP⟩⟩
   ·have hh:s2.bG ids[k]=some (.obj v fr c):=hh
    rw[zU,ao]at hh
    obtain⟨v0,c0,rfl,rfl,_⟩:=hentOut _ _ _ _ _ hh
    have:=xN v0 fr c0 uR
    omega
   ·have hh:s2.bG ids[k]=some (.obj (s.pT ids[k]+ver) fr c):=hh
    rw[zU,ao]at hh
    obtain⟨v0,c0,rfl,N2,_⟩:=hentOut _ _ _ _ _ hh
    obtain rfl:ver=v0:=by omega
    exact⟨fr,c0,uR⟩
  |new i j=>
   simp only[AS.mJ,ao]at hr
   subst hr
   obtain⟨vN,xN⟩:=hb
   have vN:([G.news].getD i [])[j]? ≠none:=vN
   have xN:∀v fr c,([G.news].getD i [])[j]? =some (.obj v fr c)->ver<=v:=xN
   cases i with
   |succ i=>simp at vN
   |zero=>
    simp only[iL]at vN xN
    have ga:G.news≠ []:=λe=>by rw[e]at vN;simp at vN
    obtain⟨e,he⟩:=Option.ne_none_iff_exists'.1 vN
    have zU:=hgN ga j
    rw[he,dq]at zU
    refine⟨⟨by show s2.bG (.new t j)≠none;rw[zU];simp,λv fr c hh=> ?_⟩,λ⟨fr,c,hh⟩=>⟨?_,hβN ga j⟩⟩
    ·have hh:s2.bG (.new t j)=some (.obj v fr c):=hh
     rw[zU,ao]at hh
     obtain⟨v0,c0,rfl,rfl,_⟩:=hentOut _ _ _ _ _ hh
     have:=xN v0 fr c0 he
     simp only
     omega
    ·have hh:s2.bG (.new t j)=some (.obj ver fr c):=hh
     rw[zU,ao]at hh
     obtain⟨v0,c0,rfl,N2,_⟩:=hentOut _ _ _ _ _ hh
     obtain rfl:ver=v0:=by omega
     exact⟨fr,c0,he⟩
 have O4:b6 (s.env w g β) (s2.env w' g2 β2):=by
  refine⟨Trans.mem Ph,λid ver hb=> ?_,λid ver hb hc=> ?_⟩
  ·obtain⟨vN,xN⟩:=hb
   have vN:s.bG id≠none:=vN
   have xN:∀v fr c,s.bG id=some (.obj v fr c)->ver<=v:=xN
   by_cases cP:id∈ids
   ·obtain⟨k,hk⟩:=hZ.1 cP
    obtain⟨e,uR,zU⟩:=hgO k id hk
    obtain⟨fr1,c1,xA⟩:=hverOf id cP
    refine⟨by show s2.bG _≠none;rw[zU];simp,λv fr c hh=> ?_⟩
    have hh:s2.bG id=some (.obj v fr c):=hh
    rw[zU,ao]at hh
    obtain⟨v0,c0,rfl,rfl,_⟩:=hentOut _ _ _ _ _ hh
    have:=xN _ _ _ xA
    omega
   ·have:=hgS id cP (tc id vN)
    exact⟨by show s2.bG _≠none;rw[this];exact vN,λv fr c hh=>xN v fr c (this.symm.trans hh)⟩
  ·obtain⟨vN,xN⟩:=hb
   have vN:s.bG id≠none:=vN
   have xN:∀v fr c,s.bG id=some (.obj v fr c)->ver<=v:=xN
   obtain⟨fr,c,hh⟩:=hc
   have hh:s2.bG id=some (.obj ver fr c):=hh
   by_cases cP:id∈ids
   ·obtain⟨k,hk⟩:=hZ.1 cP
    obtain⟨e,uR,zU⟩:=hgO k id hk
    obtain⟨fr1,c1,xA⟩:=hverOf id cP
    rw[zU,ao]at hh
    obtain⟨v0,c0,rfl,N2,_⟩:=hentOut _ _ _ _ _ hh
    have Po:=xN _ _ _ xA
    obtain rfl:v0=0:=by omega
    have hver':ver=s.pT id:=by omega
    refine⟨⟨fr1,c1,by rw[hver'];exact xA⟩,?_⟩
    show β2 id=β id
    rw[hβO k id hk]
    have OZ:s.jz ids id= .obj 0 fr1 (c1.fS (s.nA ids)):=by simp[AS.jz,xA]
    have h0:((eN (ids.map (s.jz ids))).env w (λb=>jT ids (g b)) (qZ β ids)).rp (.dd k) 0:=by
     refine⟨?_,λ_ _ _ _=>bh _⟩
     show(ids.map (s.jz ids))[k]? ≠none
     simp[hk]
    have:=(hle.cur (.dd k) 0 h0 ⟨fr,c0,uR⟩).2
    have this:β1 (.dd k)=(ids[k]?).bind β:=this
    rw[this,hk];rfl
   ·have:=hgS id cP (tc id vN)
    exact⟨⟨fr,c,this.symm.trans hh⟩,hβS id cP (tc id vN)⟩
 have Pb:fT (s2.env w' g2 β2):=by
  intro id ver fr c hh
  have hh:s2.bG id=some (.obj ver fr c):=hh
  by_cases cP:id∈ids
  ·obtain⟨k,hk⟩:=hZ.1 cP
   obtain⟨e,uR,zU⟩:=hgO k id hk
   rw[zU,ao]at hh
   obtain⟨v0,c0,rfl,_,rfl⟩:=hentOut _ _ _ _ _ hh
   refine nc BT (LH (.dd k) v0 fr c0 uR) (hβO k id hk) λpl _=>⟨rfl,λn hg=> ?_,λhg=> ?_⟩
   ·have hg:g1 pl.b= .own (.id (.dd k)) n:=hg
    show jO g w.heap.size ids t pl.b (g1 pl.b)=_
    rw[hg]
    simp[jO,LM,ay,hk]
   ·have hg:g1 pl.b= .free:=hg
    show jO g w.heap.size ids t pl.b (g1 pl.b)=_
    rw[hg];rfl
  ·by_cases ga:G.news≠ []/\∃j,id= .new t j
   ·obtain⟨ga,j,rfl⟩:=ga
    rw[hgN ga j,ea]at hh
    obtain⟨e,he,hh⟩:=hh
    obtain⟨v0,c0,rfl,_,rfl⟩:=hentOut _ _ _ _ _ hh
    refine nc BT (LH (.new 0 j) v0 fr c0 (by show([G.news].getD 0 [])[j]? =_;simpa using he)) (hβN ga j) λpl _=>⟨rfl,λn hg=> ?_,λhg=> ?_⟩
    ·have hg:g1 pl.b= .own (.id (.new 0 j)) n:=hg
     show jO g w.heap.size ids t pl.b (g1 pl.b)=_
     rw[hg]
     rfl
    ·have hg:g1 pl.b= .free:=hg
     show jO g w.heap.size ids t pl.b (g1 pl.b)=_
     rw[hg];rfl
   ·have Sj:G.news=[]\/∀j,id≠ .new t j:=by
     by_cases hh:G.news=[]
     ·exact .inl hh
     ·exact .inr λj e=>ga ⟨hh,j,e⟩
    rw[hgS id cP Sj]at hh
    have same:∀id,id ∉ ids->∀ver fr c,s.bG id=some (.obj ver fr c)->∀pl,β id=some pl->w'.heap[pl.b]? =w.heap[pl.b]? /\jO g w.heap.size ids t pl.b (g1 pl.b)=g pl.b:=by
     intro id cP ver fr c hh pl xz
     obtain⟨hb,O2⟩:=(h.bo id ver fr c hh).label (pl:=pl) xz
     have hb:pl.b < w.heap.size:=hb
     have h1:=Fh.vS pl.b hb
     have QT:idxOf id ids=none:=by
      cases hi:idxOf id ids with
      |none=>rfl
      |some k=>exact absurd (cE (lz hi)) cP
     rcases O2 with⟨k,hk⟩ | ⟨_,hk⟩
     ·have hk:g pl.b= .own (.id id) k:=hk
      simp only[hk,jT,QT]at h1
      rw[h1.1]
      simp only[jO,hb,if_true]
      exact⟨h1.2,trivial⟩
     ·have hk:g pl.b= .free:=hk
      simp only[hk,jT]at h1
      rw[h1.1,hk]
      exact⟨h1.2,rfl⟩
    have ho:=h.bo id ver fr c hh
    refine ho.mono O4 (hβS id cP Sj) (λpl xz=>same id cP ver fr c hh pl xz) λq2 vq k2 v2 l2 yJ _=> ?_
    have yJ:s.bG q2=some (.obj vq true (.mp k2 v2 l2)):=yJ
    have Gv:q2 ∉ ids:=λhm=>by
     have:=xP q2 hm
     have e:s.obj q2=some (vq,true,.mp k2 v2 l2):=by simp[AS.obj,yJ]
     unfold AS.yW at this
     rw[e]at this
     cases this
    refine⟨⟨k2,v2,l2,?_⟩,λpl xz=>same q2 Gv vq true _ yJ pl xz⟩
    show s2.bG q2=_
    rw[hgS q2 Gv (tc q2 (by rw[yJ];simp))]
    exact yJ
 have Dn:s2.bR=s.bR:=by rw[<-yK,qi,zB]
 exact⟨g2,β2,h.step Dn Ph O4 Pb,tF BT o7⟩
end
end Go.Ab
namespace Go.Ab
theorem nv(s:AS):∀(n:Nat) (todo acc:List Id),acc.Nodup->(s.reach n todo acc).Nodup
 | 0,_,acc,h=>by simpa[AS.reach]using h
 |_+1,[],acc,h=>by simpa[AS.reach]using h
 |n+1,id::todo,acc,h=>by
  rw[AS.reach]
  split
  ·exact nv s n todo acc h
  ·rename_i hc
   refine nv s n _ _ ?_
   rw[List.nodup_append]
   refine⟨h,by simp,λx hx y hy e=> ?_⟩
   simp only[bM]at hy
   subst hy e
   exact hc (by simpa using hx)
theorem sa(s:AS)(vs:List av):(s.GB vs).Nodup:=nv s _ _ _ (by simp)
section
variable {P:Program} {C:Ctx} {g:Nat->jm} {β:Id->Option Pl} {s:AS} {a:Act} {w:World} {o:Oper}
theorem wa(h:Inv C g β s a w){en:Entry}{ids:List Id}(hn:ids.Nodup){vs:List av}{ys:List Value}(hv:pF (s.env w g β) vs ys)
  {s':AS} (he:(s.enter en o.dst ids vs).eval=some s'):∃x,en.run (vs.map (av.fS (s.nA ids))) (ids.map (s.jz ids))=some x/\
   pF ((eN (ids.map (s.jz ids))).env w (λb=>jT ids (g b)) (qZ β ids)) (vs.map (av.fS (s.nA ids))) ys/\
   fT ((eN (ids.map (s.jz ids))).env w (λb=>jT ids (g b)) (qZ β ids))/\
   ∀v w',nR ((eN (ids.map (s.jz ids))).env w (λb=>jT ids (g b)) (qZ β ids)) (en.out (vs.map (av.fS (s.nA ids))) (ids.map (s.jz ids)) x) v w'->fF C s' (a.put o.dst v) w':=by
 unfold AS.enter at he
 obtain⟨qO,he⟩:=aw.1 he
 obtain⟨x,hx,he⟩:=nh.1 he
 obtain⟨x0,Pq,he⟩:=ak.1 he
 rw[en.L7 _ _ Pq]at he
 have hp:∀id∈ids,∃r,s.obj id=some r:=λid cP=>by
  have:=cM.1 qO id cP
  rw[ag]at this
  exact bF.1 this.1
 have xP:∀id∈ids,s.yW id=true:=λid cP=>by
  have:=cM.1 qO id cP
  rw[ag]at this
  exact this.2
 refine⟨x,hx,pF.fS (LN ids) hv,KF ids hn h.bo,?_⟩
 intro v w' ha
 unfold AS.back at he
 cases OS:o.dst with
 |some t=>
  rw[OS]at he
  obtain⟨hg,he⟩:=aw.1 he
  obtain rfl:=al.1 he
  simp only[ag,beq_iff_eq,fb]at hg
  obtain⟨hl,hg⟩:=hg
  have I5:(en.out (vs.map (av.fS (s.nA ids))) (ids.map (s.jz ids)) x).news=[]\/s.di t=true:=by
   rcases hg with hg | hg
   ·exact .inl (by simpa using hg)
   ·exact .inr hg
  obtain⟨g2,β2,h1,h2⟩:=yg h hn hp xP hl I5 ha
  exact⟨g2,β2,h1.put (some t) h2⟩
 |none=>
  rw[OS]at he
  obtain⟨hg,he⟩:=aw.1 he
  obtain rfl:=al.1 he
  simp only[ag,beq_iff_eq]at hg
  obtain⟨hl,hg⟩:=hg
  have tc:(en.out (vs.map (av.fS (s.nA ids))) (ids.map (s.jz ids)) x).news=[]:=by simpa using hg
  obtain⟨g2,β2,h1,_⟩:=yg (t:=0) h hn hp xP hl (.inl tc) ha
  rw[tc]at h1
  exact⟨g2,β2,h1⟩
theorem E1(h:Inv C g β s a w){f:FuncId}{en:Entry}(hd:ky P f en){ids:List Id}(hn:ids.Nodup){vs:List av}{ys:List Value}(hv:pF (s.env w g β) vs ys)
  (hr:(execOp a.eval o).run P w=(callFunc f ys.toArray).run P w) {s':AS} (he:(s.enter en o.dst ids vs).eval=some s'):ez P o a w (fF C s'):=by
 obtain⟨x,hx,h1,h2,key⟩:=wa h hn hv he
 rcases hd _ _ _ _ _ _ _ h1 h2 hx with⟨Ig,hc⟩ | ⟨v,w',P6,ha⟩
 ·exact .inr (.inr (.inl ⟨f,ys.toArray,w,hr.trans Ig,hc.mono λe w' ⟨v,he,ha⟩=>⟨v,he,key v w' ha⟩⟩))
 ·exact .inl ⟨v,w',hr.trans P6,key v w' ha⟩
theorem G5(h:Inv C g β s a w){c:Call}{F:Operand}{f:FuncId}{caps:av}{en:Entry}(ho:o.op= .call c)(hc:c.callee= .value F)(hF:s.ev F= .fn f caps)(hd:ky P f en){s':AS}
  (he:(s.call en o.dst (c.args.toList.map s.ev++caps.list)).eval=some s'):ez P o a w (fF C s'):=by
 obtain⟨cal,args,tys⟩:=c
 simp only at hc he
 subst hc
 obtain⟨vs,hy,P7⟩:=AO (hF▸h.ev F)
 have yE:=(h.Qz args.toList).append (EG P7)
 have hr:(execOp a.eval o).run P w=(callFunc f (args.toList.map a.eval++vs).toArray).run P w:=by
  have e1:execOp a.eval o=(do let d <-resolve a.eval {callee:= .value F,args,argTypes:=tys} o.type;invoke d.target d.args):=by simp only[execOp,ho]
  rw[e1]
  simp only[resolve,hy,Deferred.ofValue,Sem.run_bind,Sem.run_pure,Result.andThen_ok,invoke]
  congr 2
  simp
 unfold AS.call at he
 obtain⟨r,h1,h2⟩:=ak.1 he
 obtain⟨g',i1,e1,_,f1⟩:=eK r.2 h
 exact E1 i1 hd (sa _ _) (rV rfl h.bo e1 _ _ _ r yE h1 f1) hr h2
theorem qG.TI{E:Env}{f:av}{tmps:Array Value}(h:qG E f tmps):pF E f.list tmps.toList:=by
 obtain⟨h1,h2⟩:=h
 have gen:∀(l:List av) (ys:List Value),l.length=ys.length->(∀i,VS E (l.getD i .undef) (ys.getD i undef))->pF E l ys:=by
  intro l
  induction l with
  |nil=>intro ys hl _;cases ys with
   |nil=>trivial
   |cons _ _=>simp at hl
  |cons x l ih=>intro ys hl hi;cases ys with
   |nil=>simp at hl
   |cons y ys=>exact⟨by simpa using hi 0,ih ys (by simpa using hl) λi=>by simpa using hi (i+1)⟩
 exact gen _ _ (by simpa using h1) λi=>by simpa[bY,ay]using h2 i
theorem F4(h:Inv C g β s a w){c:Call}{F:Operand}{id:Id}{ver:Nat}{rc:mA}{f:av}{en:Entry}(ho:o.op= .call c)(hc:c.callee= .value F)
  (hF:s.yielded (s.ev F) c.args.size=some (id,ver,rc,f)) (P4:rc=rh P rc.y) (hd:nS P rc.y en) {s':AS}
  (he:(s.call en o.dst (.yl id ver::(c.args.toList.map s.ev++f.list))).eval=some s'):ez P o a w (fF C s'):=by
 obtain⟨cal,args,tys⟩:=c
 simp only at hc he hF
 subst hc
 unfold AS.yielded at hF
 split at hF
 rotate_left
 ·cases hF
 rename_i id' ver' Hm
 split at hF
 rotate_left
 ·cases hF
 rename_i v c0 f0 iH
 split at hF
 rotate_left
 ·cases hF
 rename_i OO
 simp only[ao,cd]at hF
 obtain⟨rfl,rfl,rfl,rfl⟩:=hF
 simp only[ag,beq_iff_eq]at OO
 obtain⟨⟨rfl,l8⟩,hy⟩:=OO
 have cj:=dw iH
 have hv:=h.ev F
 rw[Hm]at hv
 obtain⟨cs,hV,hO⟩:=hv
 simp only[V]at hV
 obtain⟨l,rfl,hb,ef⟩:=hV
 have Ps:a.eval F= .func (.yield l) #[] #[]:=by simpa[eC,av.agg]using hO.symm
 obtain⟨pl,hp,rfl⟩:=ef ⟨false,_,cj⟩
 obtain⟨pl',r,hp',hh,hg,⟨q1,q2,q3⟩,Dn,lQ⟩:=h.bo id' v false _ cj
 have hp':β id'=some pl':=hp'
 have hp:β id'=some pl:=hp
 rw[hp']at hp
 obtain rfl:pl'=pl:=by simpa using hp
 have hh:w.heap[pl'.b]? =some (.loop r):=hh
 have yE:pF (s.env w g β) (.yl id' v::(args.toList.map s.ev++f0.list)) (.func (.yield pl'.b) #[] #[]::(args.toList.map a.eval++r.tmps.toList)):=
  ⟨by rw[<-Ps,<-Hm];exact h.ev F,(h.Qz args.toList).append Dn.TI⟩
 have hr:(execOp a.eval o).run P w= .ok (.round pl'.b r.fn ((c0.ps.zip (args.toList.map a.eval).toArray).foldl (λtmps (t,a)=>tmps.setIfInBounds t a) r.tmps.toList.toArray) c0.as c0.b) w:=by
  have e1:execOp a.eval o=(do let d <-resolve a.eval {callee:= .value F,args,argTypes:=tys} o.type;invoke d.target d.args):=by simp only[execOp,ho]
  have e2:=run_yield (P:=P) (args:=args.map a.eval) hh (by simpa[q1]using l8)
  rw[q1,q2,q3]at e2
  rw[e1]
  simp only[resolve,Ps,Deferred.ofValue,Sem.run_bind,Sem.run_pure,Result.andThen_ok,invoke]
  have e3:(args.toList.map a.eval).toArray=args.map a.eval:=by apply eP;simp
  rw[e3]
  simpa using e2
 unfold AS.call at he
 obtain⟨r2,h1,h2⟩:=ak.1 he
 obtain⟨g',i1,e1,_,f1⟩:=eK r2.2 h
 obtain⟨x,hx,k1,k2,key⟩:=wa i1 (sa _ _) (rV rfl h.bo e1 _ _ _ r2 yE h1 f1) h2
 refine .inr (.inr (.inr ⟨pl'.b,r.fn,_,c0.as,c0.b,w,hr,λrd n=> ?_⟩))
 have:=hd.2 hy _ _ _ _ _ _ x k1 k2 hx pl'.b (args.toList.map a.eval) r.tmps.toList r.fn rd n rfl (by rw[<-P4];simpa using l8)
 rw[<-P4]at this
 exact this.mono λe w' ⟨v,he,ha⟩=>⟨v,he,key v w' ha⟩
end
end Go.Ab
namespace Go.Ab
section
variable {P:Program} {C:Ctx} {g:Nat->jm} {β:Id->Option Pl} {s:AS} {a:Act} {w:World} {o:Oper}
theorem gv{b:Builtin}{args:Array Operand}{ts:Array TypeId}{F:TypeId->Array Value->Sem Value}{x:Value}{w':World}{s':AS}(ho:o.op= .call {callee:= .builtin b,args,argTypes:=ts})
  (hb:∀ty cs xs,builtin b ts ty cs xs=(do pure (.value (<-F ty xs)))) (hf:∀ty,(F ty (args.map a.eval)).run P w= .ok x w') (h2:∃g' β',Inv C g' β' s' (a.put o.dst x) w'):ez P o a w (fF C s'):=by
 refine .inl ⟨x,w',?_,h2⟩
 simp only[execOp,ho,resolve,Sem.run_bind,Sem.run_pure,Result.andThen_ok,invoke]
 rw[hb,Sem.run_bind,hf]
 rfl
theorem EX(h:Inv C g β s a w){src dst:TypeId}{x:Operand}(ho:o.op= .convert src dst x){id:Id}{ver:Nat}(hx:s.ev x= .ptr id ver [] 0){v:av}(he:(AI P s src dst id ver).eval=some v):ez P o a w (fF C (s.put o.dst v)):=by
 have hv:=h.ev x
 rw[hx]at hv
 obtain⟨ad,hy,hb,hc⟩:=mI hv
 have fin:v= .ptr id ver [] 0->(convert src dst (a.eval x)).run P w= .ok (a.eval x) w->ez P o a w (fF C (s.put o.dst v)):=by
  intro h1 h2
  subst h1
  exact h.value hv (dg (f:=convert src dst (a.eval x)) (by simp only[execOp,ho]) h2)
 unfold AI at he
 split at he
 ·rename_i v0 fr e c iH
  have cj:=dw iH
  obtain⟨pl',cur,e',hp',hh,hg,hk,hV⟩:=(h.bo id v0 fr _ cj).box rfl
  have hk:e'=e:=hk
  subst hk
  have hV:V (s.env w g β) c (cur.toList.take cur.size):=hV
  rw[<-bZ,cY]at hV
  have hh:w.heap[pl'.b]? =some (.cells cur e' (0,0)):=hh
  have l8:=hV.size
  have l8:cur.toList.length=c.size:=l8
  have I1:w.shape? pl'.b=some (e',c.size):=by simp only[World.shape?,hh];rw[<-l8];simp
  have hp':β id=some pl':=hp'
  split at he
  ·rename_i t hS hD
   obtain⟨h1,h2⟩:=aw.1 he
   have h2:=al.1 h2
   simp only[ag,beq_iff_eq,bp,beq_eq_false_iff_ne]at h1
   obtain⟨⟨rfl,h3⟩,h4⟩:=h1
   obtain⟨pl,hp,rfl⟩:=hc ⟨fr,_,cj⟩
   have hp:β id=some pl:=hp
   rw[hp']at hp
   obtain rfl:pl'=pl:=by simpa using hp
   refine fin h2.symm ?_
   rw[hy]
   cases hi:P.info? t with
   |none=>exact absurd (by simp[Program.cellsOf,hi]) h3
   |some j=>
    have hj:j.size≠0:=by rw[<-jo hi]at*;exact h3
    exact Go.Lib.run_to_unsafe w _ hS hD hi hj I1 (by show 0 < c.size;omega)
  ·rename_i u hS hD
   obtain⟨h1,h2⟩:=aw.1 he
   have h2:=al.1 h2
   simp only[ag,beq_iff_eq,bp,beq_eq_false_iff_ne]at h1
   obtain⟨⟨rfl,h3⟩,h4⟩:=h1
   obtain⟨pl,hp,rfl⟩:=hc ⟨fr,_,cj⟩
   have hp:β id=some pl:=hp
   rw[hp']at hp
   obtain rfl:pl'=pl:=by simpa using hp
   refine fin h2.symm ?_
   rw[hy]
   cases hi:P.info? u with
   |none=>exact absurd (by simp[Program.cellsOf,hi]) h3
   |some j=>exact Go.Lib.run_from_unsafe w _ hS hD hi I1 h4
  ·simp only[ai]at he
 ·simp only[ai]at he
theorem IM(h:Inv C g β s a w){T U:TypeId}{op:BinOp}{x y:Operand}(ho:o.op= .binOp op T x y U){i j:Id}{v1 v2:Nat}(hx:s.ev x= .ptr i v1 [] 0)(hy:s.ev y= .ptr j v2 [] 0){v:av}(he:(NQ P s T op i v1 j v2).eval=some v):
  ez P o a w (fF C (s.put o.dst v)):=by
 unfold NQ at he
 split at he
 ·rename_i v' fr c iH
  obtain⟨h1,h2⟩:=aw.1 he
  simp only[ag,beq_iff_eq,decide_eq_true_eq]at h1
  obtain⟨⟨⟨rfl,rfl⟩,rfl⟩,N1⟩:=h1
  have cj:=dw iH
  have yM:=h.ev x
  have LL:=h.ev y
  rw[hx]at yM
  rw[hy]at LL
  obtain⟨ad,OH,_,hc⟩:=mI yM
  obtain⟨ad',OI,_,hc'⟩:=mI LL
  obtain⟨pl,hp,rfl⟩:=hc ⟨fr,c,cj⟩
  obtain⟨pl',hp',rfl⟩:=hc' ⟨fr,c,cj⟩
  rw[hp]at hp'
  obtain rfl:pl=pl':=by simpa using hp'
  have hT:∃t j,P.underlying T=some (.pointer t)/\P.info? t=some j:=by
   unfold PC at N1
   split at N1
   ·rename_i t ht
    obtain⟨j,hj⟩:=bF.1 N1
    exact⟨t,j,ht,hj⟩
   ·cases N1
  obtain⟨t,j,hT,hj⟩:=hT
  have hq:(Op.equal T (.pointer (some ⟨pl.b,0,none⟩)) (.pointer (some ⟨pl.b,0,none⟩))).run P w= .ok true w:=
   dZ λd=>by simp[Op.equalIn,run_underlying hT,sizeOf,typeInfo,hj,run_sameAddr_same]
  have SX:(eqGuard op T x y (a.eval x) (a.eval y)).run P w= .ok () w:=by rw[OH,OI];exact jJ (by simp) rfl
  have fin:∀z,(binOp op T (a.eval x) (a.eval y)).run P w= .ok z w->VS (s.env w g β) v z->ez P o a w (fF C (s.put o.dst v)):=by
   intro z h1 h3
   refine h.value h3 ?_
   simp[execOp,ho,h1,SX]
  split at h2
  ·obtain rfl:=al.1 h2
   refine fin (.bool true) ?_ (mP true)
   rw[OH,OI]
   simp[binOp,hq]
  ·obtain rfl:=al.1 h2
   refine fin (.bool false) ?_ (mP false)
   rw[OH,OI]
   simp[binOp,hq]
  ·simp only[ai]at h2
 ·simp only[ai]at he
theorem Ll{c:Call}{b:Builtin}{x:Operand}(hc:c.callee= .builtin b)(ha:c.args.toList=[x]):c= {callee:= .builtin b,args:= #[x],argTypes:=c.argTypes}:=by
 obtain⟨cal,args,tys⟩:=c
 simp only at hc ha
 have ha':args= #[x]:=by apply eP;simpa using ha
 subst hc ha'
 rfl
theorem Ge{c:Call}{b:Builtin}{x y:Operand}(hc:c.callee= .builtin b)(ha:c.args.toList=[x,y]):c= {callee:= .builtin b,args:= #[x,y],argTypes:=c.argTypes}:=by
 obtain⟨cal,args,tys⟩:=c
 simp only at hc ha
 have ha':args= #[x,y]:=by apply eP;simpa using ha
 subst hc ha'
 rfl
theorem RU{ts:Array TypeId}{T:TypeId}(h:ts.toList=[T]):ts= #[T]:=by apply eP;simpa using h
theorem ND{ts:Array TypeId}{T U:TypeId}(h:ts.toList=[T,U]):ts= #[T,U]:=by apply eP;simpa using h
theorem IA(h:Inv C g β s a w){c:Call}{x:Operand}{T e:TypeId}(ho:o.op= .call c)(hc:c.callee= .builtin .cap)(ha:c.args.toList=[x])(ht:c.argTypes.toList=[T])(hx:s.ev x= .db)(hT:P.underlying T=some (.slice e)):
  ez P o a w (fF C (s.put o.dst (.d (.int .i64) (0:Int)))):=by
 rw[Ll hc ha,RU ht]at ho
 have hv:=h.ev x
 rw[hx]at hv
 have hy:=iw hv
 refine gv ho (F:=λty xs=>Builtin.cap_ #[T] ty xs) (λty cs xs=>rfl) (x:= .int .i64 0) (w':=w) (λty=> ?_) ⟨g,β,h.put o.dst (iB _ _)⟩
 simp[Builtin.cap_,run_underlying hT,hy,goInt]
theorem Ec(h:Inv C g β s a w){c:Call}{x:Operand}{id:Id}{ver len:Nat}(ho:o.op= .call c)(hc:c.callee= .builtin .unsafeSliceData)(ha:c.args.toList=[x])(hx:s.ev x= .cD id ver [] 0 0 len)(hl:0 < len):
  ez P o a w (fF C (s.put o.dst (.ptr id ver [.idx 0] 0))):=by
 rw[Ll hc ha]at ho
 have hv:=h.ev x
 rw[hx]at hv
 obtain⟨ad,cap,hy,uQ,hs,hb,ef⟩:=kZ hv
 obtain⟨ad,rfl⟩:=bF.1 (hs hl)
 refine gv ho (F:=λty xs=>Builtin.unsafeSliceData_ c.argTypes ty xs) (λty cs xs=>rfl) (x:= .pointer (some ad)) (w':=w) (λty=> ?_) ⟨g,β,h.put o.dst ?_⟩
 ·rw[show(#[x].map a.eval)= #[a.eval x] by simp,hy]
  exact Go.Lib.run_unsafeSliceData_row w _ _ _ _ _ (by omega)
 ·refine⟨[.pointer (some ad)],?_,rfl⟩
  simp only[V]
  refine⟨ad,rfl,hb,λhc=> ?_⟩
  have h1:=ef hc
  cases hp:(s.env w g β).β id with
  |none=>rw[hp]at h1;simp only at h1;cases h1.1
  |some pl=>
   rw[hp]at h1
   simp only at h1
   exact⟨pl,rfl,by simpa using h1.1 (.inl hl)⟩
theorem DI(h:Inv C g β s a w){c:Call}{mx:Bool}(ho:o.op= .call c)(hc:c.callee= .builtin (if mx then .max else .min)){v:av}(he:(Hz mx (c.args.toList.map s.ev)).eval=some v):ez P o a w (fF C (s.put o.dst v)):=by
 unfold Hz at he
 split at he
 ·rename_i k x k' y w7
  obtain⟨h1,h2⟩:=aw.1 he
  obtain rfl:=al.1 h2
  have h1:k=k':=by simpa using h1
  subst h1
  have IV:∃p q,c.args.toList=[p,q]/\s.ev p= .d (.int k) x/\s.ev q= .d (.int k) y:=by
   match hh:c.args.toList,w7 with
   |[p,q],w7=>simp only[bE,gr,dp]at w7;exact⟨p,q,rfl,w7.1,w7.2.1⟩
   |[],w7=>simp at w7
   |[_],w7=>simp at w7
   |_::_::_::_,w7=>simp at w7
  obtain⟨p,q,ha,hp,hq⟩:=IV
  rw[Ge hc ha]at ho
  have Nd:=h.ev p
  have LK:=h.ev q
  rw[hp]at Nd
  rw[hq]at LK
  have ep:=mE Nd
  have eq:=mE LK
  cases mx with
  |true=>
   refine gv ho (F:=λty xs=>Builtin.max_ c.argTypes ty xs) (λty cs xs=>rfl) (x:= .int k (if x < y then y else x)) (w':=w) (λty=> ?_) ⟨g,β,h.put o.dst (iB _ _)⟩
   rw[show(#[p,q].map a.eval)= #[a.eval p,a.eval q] by simp,ep,eq]
   simp[Builtin.max_,Builtin.max2]
  |false=>
   refine gv ho (F:=λty xs=>Builtin.min_ c.argTypes ty xs) (λty cs xs=>rfl) (x:= .int k (if y < x then y else x)) (w':=w) (λty=> ?_) ⟨g,β,h.put o.dst (iB _ _)⟩
   rw[show(#[p,q].map a.eval)= #[a.eval p,a.eval q] by simp,ep,eq]
   simp[Builtin.min_,Builtin.min2]
 ·rename_i k x k' y k2 z w7
  obtain⟨h1,h2⟩:=aw.1 he
  obtain rfl:=al.1 h2
  simp only[ag,decide_eq_true_eq]at h1
  obtain⟨rfl,rfl⟩:=h1
  have IV:∃p q r,c.args.toList=[p,q,r]/\s.ev p= .d (.int k) x/\s.ev q= .d (.int k) y/\s.ev r= .d (.int k) z:=by
   match hh:c.args.toList,w7 with
   |[p,q,r],w7=>simp only[bE,gr,dp]at w7;exact⟨p,q,r,rfl,w7.1,w7.2.1,w7.2.2.1⟩
   |[],w7=>simp at w7
   |[_],w7=>simp at w7
   |[_,_],w7=>simp at w7
   |_::_::_::_::_,w7=>simp at w7
  obtain⟨p,q,r,ha,hp,hq,hr⟩:=IV
  have Lu:c= {callee:= .builtin (if mx then .max else .min),args:= #[p,q,r],argTypes:=c.argTypes}:=by
   obtain⟨cal,args,tys⟩:=c
   simp only at hc ha
   have ha':args= #[p,q,r]:=by apply eP;simpa using ha
   subst hc ha'
   rfl
  rw[Lu]at ho
  have Nd:=h.ev p
  have LK:=h.ev q
  have Fi:=h.ev r
  rw[hp]at Nd
  rw[hq]at LK
  rw[hr]at Fi
  have ep:=mE Nd
  have eq:=mE LK
  have er:=mE Fi
  cases mx with
  |true=>
   refine gv ho (F:=λty xs=>Builtin.max_ c.argTypes ty xs) (λty cs xs=>rfl) (x:= .int k (if(if x < y then y else x) < z then z else(if x < y then y else x))) (w':=w) (λty=> ?_) ⟨g,β,h.put o.dst (iB _ _)⟩
   rw[show(#[p,q,r].map a.eval)= #[a.eval p,a.eval q,a.eval r] by simp,ep,eq,er]
   simp[Builtin.max_,Builtin.max2]
  |false=>
   refine gv ho (F:=λty xs=>Builtin.min_ c.argTypes ty xs) (λty cs xs=>rfl) (x:= .int k (if z < (if y < x then y else x) then z else(if y < x then y else x))) (w':=w) (λty=> ?_) ⟨g,β,h.put o.dst (iB _ _)⟩
   rw[show(#[p,q,r].map a.eval)= #[a.eval p,a.eval q,a.eval r] by simp,ep,eq,er]
   simp[Builtin.min_,Builtin.min2]
 ·simp only[ai]at he
theorem zR(z:Array Value)(n:Nat):Builtin.zeroCells z n=madeCells z (n*z.size):=rfl
theorem Hh(h:Inv C g β s a w){c:Call}{x y:Operand}{T X:TypeId}{k:IntKind}{n:Int}(ho:o.op= .call c)(hc:c.callee= .builtin .append)(ha:c.args.toList=[x,y])(ht:c.argTypes.toList=[T,X])(hx:s.ev x= .db)(hy:s.ev y= .d (.int k) n){s':AS}
  (he:(De P s o.dst T X n).eval=some s'):ez P o a w (fF C s'):=by
 rw[Ge hc ha,ND ht]at ho
 have yM:=h.ev x
 have LL:=h.ev y
 rw[hx]at yM
 rw[hy]at LL
 have ex:=iw yM
 have ey:=mE LL
 unfold De at he
 split at he
 ·rename_i e t b q kn s9 hd hX
  obtain⟨hT,hz,i,zv,hi,Ho,MU,Ey,Hr⟩:=pX s9
  obtain⟨hq,h2⟩:=aw.1 he
  obtain⟨h3,h4⟩:=bt.1 h2
  obtain rfl:=al.1 h4
  simp only[ag,decide_eq_true_eq,dT]at h3
  obtain⟨h5,h7,h8⟩:=h3
  obtain⟨m,rfl⟩:=Int.eq_ofNat_of_zero_le (Int.le_of_lt h5)
  simp only[aa]at h7 h8 ⊢
  have N5:zv.cells.size=t.size:=by have:=(Hr (s.env w g β)).size;simpa using this
  have hr:=λty=>Go.Lib.run_append_nil_zeros (P:=P) w T X ty e i zv k kn hT hX hi Ey m (by omega) (by rw[Ho];exact hz) (by omega) (by rw[MU];omega)
  obtain⟨cap,uQ⟩:∃cap,grownCap w m 0 e=cap:=⟨_,rfl⟩
  have c1:m<=cap:=by rw[<-uQ];exact grownCap_ge _ _ _ _
  have c2:cap<=maxLen:=by rw[<-uQ];exact grownCap_le_maxLen _ _ _ _ (by unfold maxLen;omega)
  rw[uQ]at hr
  obtain⟨cur,ef⟩:∃cur,Builtin.zeroCells zv.cells m++Builtin.zeroCells zv.cells (cap - m)=cur:=⟨_,rfl⟩
  rw[ef]at hr
  have s1:cur.size=cap*t.size:=by
   rw[<-ef,Array.size_append,pC,pC,N5,<-dy]
   congr 1
   omega
  have qO:=mh (Hr (s.env w.drew g β)) m
  have s2:cur.toList.take (m*t.size)=(madeCells zv.cells (m*t.size)).toList:=by
   rw[<-ef,bC,zR,N5]
   have hl:(madeCells zv.cells (m*t.size)).toList.length=m*t.size:=by simp[size_madeCells]
   rw[eR (by omega),bz (by omega)]
  obtain⟨g2,β2,i2,w6⟩:=(h.drew).B9 hq (e:=e) (l:=List.replicate m t.zero) (cur:=cur) (cap:=cap) hz (by rw[ck,s2];exact qO) s1 (by rw[ck];exact c1) c2
  rw[ck]at w6
  refine gv ho (F:=λty xs=>Builtin.append_ #[T,X] ty xs) (λty cs xs=>rfl) (λty=> ?_) ⟨g2,β2,i2.put o.dst w6⟩
  rw[show(#[x,y].map a.eval)= #[a.eval x,a.eval y] by simp,ex,ey]
  exact hr ty
 ·simp only[ai]at he
theorem Bk:∀(xs:List Int) (a:Addr) (acc:ByteArray),(∀j x,xs[j]? =some x->w.cell? (a.add j)=some (.int .u8 x))->
  (loadBytes a acc xs.length).run P w= .ok ⟨acc.data++(xs.map λn=>UInt8.ofNat n.toNat).toArray⟩ w
 |[],a,acc,_=>by simp[loadBytes]
 |x::l,a,acc,h=>by
  have h0:w.cell? a=some (.int .u8 x):=by
   have:=h 0 x rfl
   simpa[Addr.add]using this
  have ih:=Bk l (a.add 1) (acc.push x.toNat.toUInt8) (λj y hy=>by
   have:=h (j+1) y (by simpa using hy)
   have e:(a.add 1).add j=a.add (j+1):=by
    unfold Addr.add
    by_cases hj:j=0
    ·subst hj;simp
    ·simp[hj];omega
   rw[e];exact this)
  simp only[aD,loadBytes,Sem.run_bind,run_load,h0,Result.andThen]
  rw[ih]
  congr 1
  apply ByteArray.ext
  simp[ByteArray.push]
theorem H6(h:Inv C g β s a w){c:Call}{x y:Operand}{T U:TypeId}{id:Id}{ver:Nat}{n:Int}(ho:o.op= .call c)(hc:c.callee= .builtin .unsafeString)(ha:c.args.toList=[x,y])(ht:c.argTypes.toList=[T,U])
  (hx:s.ev x= .ptr id ver [.idx 0] 0) (hy:s.ev y= .d (.int .i64) n) {s':AS} (he:(Em P s o.dst T id ver n).eval=some s'):ez P o a w (fF C s'):=by
 rw[Ge hc ha,ND ht]at ho
 have yM:=h.ev x
 rw[hx]at yM
 obtain⟨ad,OH,_,SN⟩:=mI yM
 have LL:=h.ev y
 rw[hy]at LL
 have OI:=mE LL
 unfold Em at he
 split at he
 ·rename_i v e l u iH hT
  obtain⟨h1,h2⟩:=aw.1 he
  obtain⟨h3,h4⟩:=bt.1 h2
  obtain rfl:=al.1 h4
  simp only[ag,beq_iff_eq]at h1
  obtain⟨⟨rfl,rfl⟩,PU⟩:=h1
  simp only[decide_eq_true_eq]at h3
  obtain⟨h5,h6⟩:=h3
  obtain⟨n,rfl⟩:=Int.eq_ofNat_of_zero_le (Int.le_of_lt h5)
  have h6:n<=(l:List Int).length:=by omega
  have cj:=dw iH
  obtain⟨pl,hp,rfl⟩:=SN ⟨false,_,cj⟩
  have hp:β id=some pl:=hp
  have hO:nb (s.env w g β) id false (.vec u (.int .u8) l):=h.bo id v false _ cj
  obtain⟨hz,hO⟩:=hO
  have hO:(match β id with
   |none=>l=[]
   |some pl=>∃cur k,w.heap[pl.b]? =some (.cells cur u (0,0))/\cur.size=pl.cap*(Ty.int .u8).size/\(l:List Int).length<=pl.cap/\pl.cap<=maxLen/\g pl.b= .own (.id id) k/\
     k<=(l:List Int).length*(Ty.int .u8).size/\(false=false->k=0)/\aO (cG (s.env w g β) (.int .u8)) (cur.toList.take ((l:List Int).length*(Ty.int .u8).size)) l):=hO
  rw[hp]at hO
  obtain⟨cur,k,q1,q2,q3,q4,q5,q6,q7,q8⟩:=hO
  have hk:=q7 rfl
  subst hk
  have M4:(Ty.int .u8).size=1:=rfl
  rw[M4,na]at q2 q8
  have uT:=ng q8
  have I1:w.shape? pl.b=some (u,cur.size):=by simp only[World.shape?,q1]
  have qt:∀j z,((l:List Int).take n)[j]? =some z->w.cell? ((⟨pl.b,0,none⟩:Addr).add j)=some (.int .u8 z):=λj z hj=>by
   rw[cI]at hj
   split at hj
   ·rename_i TU
    have MW:j < (l:List Int).length:=by omega
    rw[Addr.add_lit,aN]
    simp only[World.cell?,q1]
    have:(cur.toList.take (l:List Int).length)[j]? =some (.int .u8 z):=by rw[uT,dU,hj];rfl
    rw[cI,if_pos MW]at this
    simpa using this
   ·cases hj
  have hlen:((l:List Int).take n).length=n:=by rw[cz];omega
  have O3:=Bk (P:=P) (w:=w) ((l:List Int).take n) ⟨pl.b,0,none⟩ .empty qt
  rw[hlen]at O3
  have O5:=Go.Lib.liesAt_bytes (P:=P) (e:=u) (by simpa using PU) (cur.size / P.cellsOf u) n (by
   rw[show P.cellsOf u=1 by simpa using PU,Nat.div_one];omega)
  have OX:∃w',w.freeze ⟨pl.b,0,none⟩ n=w'/\w'.os=w.os/\w'.tape=w.tape/\(w'.output=w.output/\w.drawn<=w'.drawn)/\w'.heap.size=w.heap.size/\∀b',b'≠pl.b->w'.heap[b']? =w.heap[b']? :=by
   refine⟨_,rfl,?_⟩
   unfold World.freeze
   rw[if_neg (by omega)]
   refine⟨rfl,rfl,⟨rfl,ax _⟩,by simp,λb' hb'=> ?_⟩
   simp only[eT]
   rw[if_neg (λe=>hb' e.symm)]
  obtain⟨w',hw',f1,f2,f3,f4,f5⟩:=OX
  have i1:=h.kill cj q5 f1 f2 f3 f4 f5
  have R3:¬(9223372036854775807:Int) < (n:Int):=by unfold maxLen at q4;omega
  have Q8:¬(n:Int) < 0:=by omega
  have M1:n≠0:=by omega
  have Q4:IntKind.i64.max=9223372036854775807:=rfl
  refine gv ho (F:=λty xs=>Builtin.unsafeString_ #[T,U] ty xs) (λty cs xs=>rfl) (x:= .string (ed ((l:List Int).take n))) (w':=w') (λty=> ?_) ⟨_,β,i1.put o.dst ⟨[.string (ed ((l:List Int).take n))],by simp only[V,cG];rfl,rfl⟩⟩
  rw[show(#[x,y].map a.eval)= #[a.eval x,a.eval y] by simp,OH,OI]
  have MO:Builtin.unsafeString_ #[T,U] ty #[.pointer (some ⟨pl.b,0,none⟩),.int .i64 n]=
    (do
     let n <-Go.asInt (.int .i64 n)
     if n < 0 then runtimePanic (.error "unsafe.String: len out of range")
     if n > IntKind.i64.max then unsupported (.unsafePointer "String: a length above the largest int")
     if n=0 then pure (.string .empty)
     else if <-variablesAt ⟨pl.b,0,none⟩ (<-elemOf T) n.toNat then do
      let s <-loadBytes ⟨pl.b,0,none⟩ .empty n.toNat
      freeze ⟨pl.b,0,none⟩ n.toNat
      pure (.string s)
     else unsupported (.unsafePointer "String: not so many bytes at ptr")):=rfl
  rw[MO]
  simp[Go.asInt,asIntOf,Q4,R3,Q8,M1,variablesAt,I1,elemOf,run_underlying hT,O5,O3,hw',ed]
 ·simp only[ai]at he
end
end Go.Ab
namespace Go.Ab
section
variable {P:Program} {C:Ctx} {g:Nat->jm} {β:Id->Option Pl} {s:AS} {a:Act} {w:World} {o:Oper}
theorem DF(h:Inv C g β s a w){c:Call}{T T2:TypeId}{m k:Operand}(cQ:o.op= .call c)(hc:c.callee= .builtin .delete)(ha:c.args.toList=[m,k])(ht:c.argTypes.toList=[T,T2]){s':AS}(he:(qU P s T (s.ev m) (s.ev k)).eval=some s'):ez P o a w (fF C (s'.put o.dst .nil)):=by
 have cQ:o.op= .call {callee:= .builtin .delete,args:= #[m,k],argTypes:= #[T,T2]}:=by rw[cQ,Ge hc ha,ND ht]
 unfold qU at he
 split at he
 ·rename_i K V' kt vt id ver hm hx
  obtain⟨l,h1,he⟩:=ak.1 he
  obtain⟨kx,h2,he⟩:=ak.1 he
  obtain⟨Na,he⟩:=aw.1 he
  obtain rfl:=al.1 he
  obtain⟨hT,hK,_⟩:=pN hm
  have yM:=h.ev m
  rw[hx]at yM
  obtain⟨fr,pl,es,clock,g1,g2,g3,g4,g5,g6,g7,gn⟩:=oD h h1 yM
  obtain⟨l0,g6,gp⟩:=g6
  have tm:=oX depth K kt hK
  have hk:=q9 (h.ev k) h2
  have Lv:=j4 (P:=P) (w:=w) es.isEmpty depth K kt hK 10000 (by decide) _ _ hk
  obtain⟨r,hf,hr⟩:=tW (P:=P) (w:=w) hK hk g6
  have fin:∀(es':Array MapEntry) (clock':Nat),(∀ty,(Builtin.delete_ #[T,T2] ty (#[m,k].map a.eval)).run P w= .ok (.tuple #[]) {w with heap:=w.heap.setIfInBounds pl.b (.map es' clock')})->Alike (qF (s.env w g β) kt vt) es'.toList (jV kt kx l0)->jY es'.toList clock'->
    ez P o a w (fF C ((s.aH id (.obj ver false (.mp kt vt (jV kt kx l)))).put o.dst .nil)):=λes' clock' kj IV OK=>
   gv (F:=λty xs=>Builtin.delete_ #[T,T2] ty xs) cQ (λ_ _ _=>rfl) kj ⟨g,β,(h.JJ g1 g2 g4 g5 ⟨_,IV,y7 tm gn gp⟩ (sm tm gn) OK Na).put o.dst rfl⟩
  cases r with
  |none=>
   simp only at hr
   refine fin es clock (λty=> ?_) (by simp only[jV,hr];exact g6) g7
   simp[Builtin.delete_,run_underlying hT,g3,Go.MapKept.run_getObj_map g4,Lv,hf,Go.MapKept.run_setObj_map _ g4]
  |some u=>
   obtain⟨j,u⟩:=u
   obtain⟨e,m1,m2,rfl⟩:=hr
   refine fin (es.eraseIdxIfInBounds j) clock (λty=> ?_) ?_ (by rw[Array.toList_eraseIdxIfInBounds];exact g7.erase j)
   ·simp[Builtin.delete_,run_underlying hT,g3,Go.MapKept.run_getObj_map g4,Lv,hf,Go.MapKept.run_setObj_map _ g4]
   ·simp only[jV,m1,Array.toList_eraseIdxIfInBounds]
    exact g6.erase j
 ·simp only[ai]at he
theorem CI{Γ:nG}(hΓ:Sound P Γ){bo:List Nat}(h:Inv C g β s a w){s':AS}(he:(kA P Γ bo o s).eval=some s'):ez P o a w (fF C s'):=by
 unfold kA at he
 split at he
 ·rename_i x cQ
  obtain rfl:=al.1 he
  exact Ba h (.inl cQ)
 ·rename_i x cQ
  obtain rfl:=al.1 he
  exact Ba h (.inr cQ)
 ·rename_i c x y cQ
  obtain⟨v,h1,h2⟩:=ak.1 he
  obtain rfl:=al.1 h2
  exact HM h cQ h1
 ·rename_i T cQ
  split at he
  ·rename_i z q hz hq
   obtain⟨h1,h2⟩:=aw.1 he
   obtain rfl:=al.1 h2
   simp only[ag]at h1
   exact EK h cQ h1.1 h1.2
  ·exact(ai.1 he).elim
 ·rename_i T x cQ
  exact Iv h cQ he
 ·rename_i T parts cQ
  exact EP h cQ he
 ·rename_i T n parts cQ
  exact xu h cQ he
 ·rename_i T x cQ
  obtain⟨v,h1,h2⟩:=ak.1 he
  obtain rfl:=al.1 h2
  exact Hx h cQ h1
 ·rename_i T x v cQ
  obtain⟨v,h1,h2⟩:=ak.1 he
  obtain rfl:=al.1 h2
  exact FY h cQ h1
 ·rename_i x cQ
  exact Ak h cQ he
 ·rename_i op T x y U cQ
  split at he
  ·rename_i i v1 j v2 hx hy
   obtain⟨v,h1,h2⟩:=ak.1 he
   obtain rfl:=al.1 h2
   exact IM h cQ hx hy h1
  ·obtain⟨v,h1,h2⟩:=ak.1 he
   obtain rfl:=al.1 h2
   exact EN h cQ h1
 ·rename_i op T x cQ
  obtain⟨v,h1,h2⟩:=ak.1 he
  obtain rfl:=al.1 h2
  exact Ia h cQ h1
 ·rename_i T U x cQ
  split at he
  ·rename_i id ver len hTU hx
   exact EW h cQ hx he
  ·rename_i id ver hx
   obtain⟨v,h1,h2⟩:=ak.1 he
   obtain rfl:=al.1 h2
   exact EX h cQ hx h1
  ·obtain⟨v,h1,h2⟩:=ak.1 he
   obtain rfl:=al.1 h2
   exact BG h cQ h1
 ·rename_i T x cQ
  exact F1 h cQ he
 ·rename_i f first caps cQ
  obtain⟨h1,h2⟩:=aw.1 he
  obtain rfl:=al.1 h2
  simp only[ag]at h1
  exact Af h cQ h1.1 h1.2
 ·rename_i T l c cQ
  obtain⟨n,h1,h2⟩:=ak.1 he
  obtain⟨m,h3,h4⟩:=ak.1 h2
  exact y5 h cQ h1 h3 h4
 ·rename_i T x lo hi cQ
  obtain⟨v,h1,h2⟩:=ak.1 he
  obtain rfl:=al.1 h2
  exact zz h cQ (.inl rfl) h1
 ·rename_i T x lo y m cQ
  obtain⟨v',h0,h8⟩:=ak.1 he
  obtain rfl:=al.1 h8
  obtain⟨hv,h1,h2⟩:=ak.1 h0
  obtain⟨mv,h3,h4⟩:=ak.1 h2
  obtain⟨h5,h6⟩:=bt.1 h4
  obtain⟨v,h7,h9⟩:=ak.1 h6
  obtain rfl:=al.1 h9
  simp only[decide_eq_true_eq]at h5
  exact zz h cQ (.inr ⟨m,y,hv,mv,rfl,rfl,h1,h3,h5.1,h5.2.1,h5.2.2⟩) h7
 ·rename_i T x f cQ
  obtain⟨v,h1,h2⟩:=ak.1 he
  obtain rfl:=al.1 h2
  exact yw h cQ h1
 ·rename_i T x f cQ
  obtain⟨v,h1,h2⟩:=ak.1 he
  obtain rfl:=al.1 h2
  exact E5 h cQ h1
 ·rename_i T x i cQ
  obtain⟨n,h0,he⟩:=ak.1 he
  obtain⟨v,h1,h2⟩:=ak.1 he
  obtain rfl:=al.1 h2
  exact yQ h cQ h0 h1
 ·rename_i T x i cQ
  obtain⟨n,h0,he⟩:=ak.1 he
  obtain⟨v,h1,h2⟩:=ak.1 he
  obtain rfl:=al.1 h2
  exact Fk h cQ h0 h1
 ·rename_i x i cQ
  obtain⟨v,h1,h2⟩:=ak.1 he
  obtain rfl:=al.1 h2
  exact BL h cQ h1
 ·rename_i T cQ
  exact B5 h cQ he
 ·rename_i T x i ok cQ
  obtain⟨v,h1,h2⟩:=ak.1 he
  obtain rfl:=al.1 h2
  exact DC h cQ h1
 ·rename_i T m k x cQ
  obtain⟨s1,h1,h2⟩:=ak.1 he
  obtain rfl:=al.1 h2
  exact DH h cQ h1
 ·rename_i c cQ
  split at he
  ·rename_i hc
   split at he
   ·rename_i m k T T2 ha ht
    obtain⟨s1,h1,h2⟩:=ak.1 he
    obtain rfl:=al.1 h2
    exact DF h cQ hc ha ht h1
   ·exact(ai.1 he).elim
  ·rename_i hc
   split at he
   ·rename_i x y T X ha ht
    exact Ha h cQ hc ha ht he
   ·exact(ai.1 he).elim
  ·rename_i hc
   split at he
   ·rename_i x T ha ht
    obtain⟨v,h1,h2⟩:=ak.1 he
    obtain rfl:=al.1 h2
    exact Jj h cQ hc ha ht h1
   ·exact(ai.1 he).elim
  ·rename_i hc
   split at he
   ·rename_i x y T X ha ht
    split at he
    ·rename_i k n hx hy
     exact Hh h cQ hc ha ht hx hy he
    ·exact CJ h cQ hc ha ht he
   ·exact(ai.1 he).elim
  ·rename_i hc
   split at he
   ·rename_i x T ha ht
    split at he
    ·rename_i e hx hT
     obtain rfl:=al.1 he
     exact IA h cQ hc ha ht hx hT
    ·exact(ai.1 he).elim
   ·exact(ai.1 he).elim
  ·rename_i hc
   obtain⟨v,h1,h2⟩:=ak.1 he
   obtain rfl:=al.1 h2
   exact DI (mx:=true) h cQ hc h1
  ·rename_i hc
   obtain⟨v,h1,h2⟩:=ak.1 he
   obtain rfl:=al.1 h2
   exact DI (mx:=false) h cQ hc h1
  ·rename_i hc
   split at he
   ·rename_i x ha
    split at he
    ·rename_i id ver len hx
     obtain⟨h1,h2⟩:=bt.1 he
     obtain rfl:=al.1 h2
     exact Ec h cQ hc ha hx (by simpa using h1)
    ·exact(ai.1 he).elim
   ·exact(ai.1 he).elim
  ·rename_i hc
   split at he
   ·rename_i x y T U ha ht
    split at he
    ·rename_i id ver n hx hy
     exact H6 h cQ hc ha ht hx hy he
    ·exact(ai.1 he).elim
   ·exact(ai.1 he).elim
  ·rename_i F hc
   split at he
   ·rename_i f caps hF
    split at he
    ·rename_i en Ig
     obtain⟨iC,he⟩:=aw.1 he
     exact G5 h cQ hc hF ((hΓ f _ en Ig).1 iC) he
    ·exact(ai.1 he).elim
   ·exact(ai.1 he).elim
  ·exact(ai.1 he).elim
 ·exact(ai.1 he).elim
end
end Go.Ab
namespace Go.Ab
def kG(P:Program)(ops:Array Oper)(o:Oper)(a:Act)(w:World)(K:Act->World->Prop):Prop:=
 if Region.wanted o (yielded ops a.tmps) then ez P o a w K else K (a.put o.dst undef) w
theorem kG.mono{P:Program}{ops:Array Oper}{o:Oper}{a:Act}{w:World}{K K':Act->World->Prop}(h:kG P ops o a w K)(hk:∀a w,K a w->K' a w):kG P ops o a w K':=by
 unfold kG at*
 split
 ·rename_i hw;rw[if_pos hw]at h;exact h.mono hk
 ·rename_i hw;rw[if_neg hw]at h;exact hk _ _ h
theorem ez.some{P:Program}{o:Oper}{a:Act}{w:World}{K:Act->World->Prop}(h:ez P o a w K):∃a' w',K a' w':=by
 rcases h with⟨x,w',_,h⟩ | ⟨w',_,h⟩ | ⟨f,args,w',_,h⟩ | ⟨l,f,tmps,as,b,w',_,h⟩
 ·exact⟨_,_,h⟩
 ·exact⟨_,_,h⟩
 ·obtain⟨e,w'',_,⟨x,_,hx⟩,_⟩:=h []
  exact⟨_,_,hx⟩
 ·obtain⟨e,w'',⟨x,_,hx⟩,_⟩:=(h none 0).2 default [] (room_wide _)
  exact⟨_,_,hx⟩
theorem kG.some{P:Program}{ops:Array Oper}{o:Oper}{a:Act}{w:World}{K:Act->World->Prop}(h:kG P ops o a w K):∃a' w',K a' w':=by
 unfold kG at h
 split at h
 ·exact h.some
 ·exact⟨_,_,h⟩
theorem kG.wpListIn{r:Option Nat}{n:Nat}{P:Program}{ops:Array Oper}{o:Oper}{a:Act}{w:World}{Q:Exit->Act->World->Prop}{l:List Oper}(h:kG P ops o a w (wpListIn (Fr r) n P ops Q l)):Go.wpListIn (Fr r) n P ops Q (o::l) a w:=by
 unfold kG at h
 unfold Go.wpListIn
 split
 ·rename_i hw;rw[if_pos hw]at h;exact h.wpIn
 ·rename_i hw;rw[if_neg hw]at h;exact⟨λ_ _=>trivial,h⟩
theorem kG.wpOpIn{r:Option Nat}{n:Nat}{P:Program}{ops:Array Oper}{o:Oper}{i:Nat}{a:Act}{w:World}{Q:Exit->Act->World->Prop}{K:Act->World->Prop}(ho:ops[i]? =Option.some o)(h:kG P ops o a w K):Go.wpOpIn (Fr r) n P ops Q i K a w:=by
 unfold kG at h
 unfold Go.wpOpIn
 simp only[ho]
 split
 ·rename_i hw;rw[if_pos hw]at h;exact h.wpIn
 ·rename_i hw;rw[if_neg hw]at h;exact⟨λ_ _=>trivial,h⟩
theorem JC{s:AS}{q:Nat}{v:av}(h:s.slot q=v)(hq:q < s.bR.length):s.put (some q) v=s:=by
 have hv:s.bR[q]=v:=by simpa[AS.slot,ay,hq]using h
 simp only[AS.put]
 rw[<-hv,eU]
theorem GN{s:AS}{q:Nat}{t:Ty}{x:t.den}(h:s.slot q= .d t x):q < s.bR.length:=by
 rcases kf q s.bR.length with h' | h'
 ·exact h'
 ·simp[AS.slot,ay,c7 h']at h
def sY(P:Program)(Γ:nG)(bo:List Nat)(ops:Array Oper)(o:Oper)(s:AS):Option AS:=
 match o.guard with
 |none=>(kA P Γ bo o s).eval
 |some (j,want)=>match(ops[j]?).bind (·.dst) with
  |some q=>match s.slot q with
   | .d .bool b=>if b=want then(kA P Γ bo o s).eval else some (s.put o.dst .nil)
   | .nil=>some (s.put o.dst .nil)
   |_=>none
  |none=>none
theorem Dd{R:Type}{P:Program}{Γ:nG}{bo:List Nat}{ops:Array Oper}{o:Oper}{s:AS}{k:AS->Option R}{r:R}(h:Kq P Γ bo ops o s k=some r):∃s',sY P Γ bo ops o s=some s'/\k s'=some r:=by
 unfold Kq at h
 unfold sY
 split at h
 ·rename_i hg
  simp only[hg]
  exact gm.1 h
 ·rename_i j want hg
  simp only[hg]
  split at h
  ·rename_i q hq
   simp only[hq]
   split at h
   ·rename_i b hb
    have e:=JC hb (GN hb)
    simp only[hb]
    cases want <;> cases b <;> simp only[aK]at h <;> rw[e]at h
    ·obtain⟨s',h1,h2⟩:=gm.1 h
     exact⟨s',by simpa using h1,h2⟩
    ·exact⟨_,by simp,h⟩
    ·exact⟨_,by simp,h⟩
    ·obtain⟨s',h1,h2⟩:=gm.1 h
     exact⟨s',by simpa using h1,h2⟩
   ·rename_i hb
    simp only[hb]
    exact⟨_,rfl,h⟩
   ·cases h
  ·cases h
section
variable {P:Program} {C:Ctx} {g:Nat->jm} {β:Id->Option Pl} {s:AS} {a:Act} {w:World} {o:Oper}
theorem F5(h:Inv C g β s a w){ops:Array Oper}{j q:Nat}{b:Bool}(hq:(ops[j]?).bind (·.dst)=some q)(hb:s.slot q= .d .bool b):yielded ops a.tmps j=some b:=by
 have hv:=h.bR q
 rw[hb]at hv
 have hv:=xK hv
 have hl:=GN hb
 rw[<-h.size]at hl
 unfold yielded
 rw[hq,Option.bind_some]
 have:a.tmps[q]? =some (.bool b):=by
  rw[dX hl]
  simpa[Array.getD,hl]using hv
 rw[this]
theorem Eu(h:Inv C g β s a w){ops:Array Oper}{j q:Nat}(hq:(ops[j]?).bind (·.dst)=some q)(hb:s.slot q= .nil):yielded ops a.tmps j=none:=by
 have hv:=h.bR q
 rw[hb]at hv
 have hv:a.tmps.getD q undef= .tuple #[]:=hv
 unfold yielded
 rw[hq,Option.bind_some]
 split
 ·rename_i b hb
  rw[bY,hb]at hv
  cases hv
 ·rfl
theorem AU{Γ:nG}(hΓ:Sound P Γ){bo:List Nat}{ops:Array Oper}(h:fF C s a w){s':AS}(he:sY P Γ bo ops o s=some s'):kG P ops o a w (fF C s'):=by
 obtain⟨g,β,h⟩:=h
 unfold sY at he
 unfold kG
 split at he
 ·rename_i hg
  have:Region.wanted o (yielded ops a.tmps)=true:=by simp[Region.wanted,hg]
  rw[if_pos this]
  exact CI hΓ h he
 ·rename_i j want hg
  split at he
  ·rename_i q hq
   split at he
   ·rename_i b hb
    have hy:=F5 h hq hb
    have hw:Region.wanted o (yielded ops a.tmps)=(b==want):=by simp[Region.wanted,hg,hy]
    rw[hw]
    by_cases e:b=want
    ·rw[if_pos e]at he
     rw[if_pos (by simp[e])]
     exact CI hΓ h he
    ·rw[if_neg e]at he
     rw[if_neg (by simp[e])]
     simp only[ao]at he
     subst he
     exact⟨g,β,h.put o.dst rfl⟩
   ·rename_i hb
    have hy:=Eu h hq hb
    have hw:Region.wanted o (yielded ops a.tmps)=false:=by simp[Region.wanted,hg,hy]
    rw[hw,if_neg (by simp)]
    simp only[ao]at he
    subst he
    exact⟨g,β,h.put o.dst rfl⟩
   ·cases he
  ·cases he
theorem HW{R:Type}{c c':mA}{x:Option R}{r:R}(h:same c c' x=some r):c=c'/\x=some r:=by
 unfold same at h
 split at h
 ·exact⟨‹_›,h⟩
 ·cases h
theorem GH{R:Type}{x y:Option R}{r:R}(h:nd x y=some r):x=some r/\y=some r:=by
 unfold nd at h
 split at h
 ·rename_i e;exact⟨h,e▸h⟩
 ·cases h
theorem FA(h:Inv C g β s a w){x y:Operand}{n:Nat}(hn:zi s x y=some n){T:TypeId}(hT:pG.isSl P T=true):∃b,(0 < n->b=false)/\(Op.equal T (a.eval x) (a.eval y)).run P w= .ok b w/\
  lB (a.eval x)=false/\a.eval x≠ .nilIface/\∀op,binOp op T (a.eval x) (a.eval y)=(match op with | .eql=>do pure (.bool (<-Op.equal T (a.eval x) (a.eval y))) | .neq=>do pure (.bool (!(<-Op.equal T (a.eval x) (a.eval y)))) | _=>binOp op T (a.eval x) (a.eval y)):=by
 have hx:=h.ev x
 have hy:=h.ev y
 unfold pG.isSl at hT
 split at hT <;> try (cases hT;done)
 rename_i e hU
 unfold zi at hn
 split at hn
 ·rename_i t l h1 h2
  rw[h1]at hx;rw[h2]at hy
  obtain⟨ad,cap,vs,hv,_,hs,_⟩:=mj hx
  have w6:=iw hy
  rw[hv,w6]
  refine⟨ad.isNone,λhp=> ?_,?_,rfl,by simp,λop=>by cases op <;> rfl⟩
  ·obtain rfl:=aP hn
   obtain⟨ad',rfl⟩:=bF.1 (hs hp)
   rfl
  ·cases ad with
   |none=>exact dZ λd=>by simp[Op.equalIn,run_underlying hU]
   |some ad=>exact dZ λd=>by simp[Op.equalIn,run_underlying hU]
 ·rename_i t l h1 h2
  rw[h1]at hx;rw[h2]at hy
  obtain⟨ad,cap,vs,hv,_,hs,_⟩:=mj hy
  have w6:=iw hx
  rw[hv,w6]
  refine⟨ad.isNone,λhp=> ?_,?_,rfl,by simp,λop=>by cases op <;> rfl⟩
  ·obtain rfl:=aP hn
   obtain⟨ad',rfl⟩:=bF.1 (hs hp)
   rfl
  ·exact dZ λd=>by simp[Op.equalIn,run_underlying hU]
 ·rename_i id ver pp c i len h1 h2
  rw[h1]at hx;rw[h2]at hy
  obtain⟨ad,cap,hv,_,hs,_⟩:=kZ hx
  have w6:=iw hy
  rw[hv,w6]
  refine⟨ad.isNone,λhp=> ?_,?_,rfl,by simp,λop=>by cases op <;> rfl⟩
  ·obtain rfl:=aP hn
   obtain⟨ad',rfl⟩:=bF.1 (hs hp)
   rfl
  ·cases ad with
   |none=>exact dZ λd=>by simp[Op.equalIn,run_underlying hU]
   |some ad=>exact dZ λd=>by simp[Op.equalIn,run_underlying hU]
 ·rename_i id ver pp c i len h1 h2
  rw[h1]at hx;rw[h2]at hy
  obtain⟨ad,cap,hv,_,hs,_⟩:=kZ hy
  have w6:=iw hx
  rw[hv,w6]
  refine⟨ad.isNone,λhp=> ?_,?_,rfl,by simp,λop=>by cases op <;> rfl⟩
  ·obtain rfl:=aP hn
   obtain⟨ad',rfl⟩:=bF.1 (hs hp)
   rfl
  ·exact dZ λd=>by simp[Op.equalIn,run_underlying hU]
 ·cases hn
theorem vf(h:Inv C g β s a w){x y:Operand}{n:Nat}{T U:TypeId}(hn:zi s x y=some n)(hT:pG.isSl P T=true):
  (o.op= .binOp .eql T x y U->∃b,(0 < n->b=false)/\ez P o a w (fF C (s.put o.dst (.d .bool b))))/\(o.op= .binOp .neq T x y U->∃b,(0 < n->b=true)/\ez P o a w (fF C (s.put o.dst (.d .bool b)))):=by
 obtain⟨b,h1,h2,h3,h4,h5⟩:=FA (w:=w) h hn hT
 have hg:∀op,(eqGuard op T x y (a.eval x) (a.eval y)).run P w= .ok () w:=λop=>jJ h4 h3
 refine⟨λho=>⟨b,h1,h.value (mP b) ?_⟩,λho=>⟨!b,λhp=>by rw[h1 hp];rfl,h.value (mP (!b)) ?_⟩⟩
 ·have h6:(binOp .eql T (a.eval x) (a.eval y)).run P w= .ok (.bool b) w:=by rw[h5 .eql];simp[h2]
  simp[execOp,ho,hg,h6]
 ·have h6:(binOp .neq T (a.eval x) (a.eval y)).run P w= .ok (.bool (!b)) w:=by rw[h5 .neq];simp[h2]
  simp[execOp,ho,hg,h6]
theorem vC{R:Type}{c:Bool}{x y:Option R}{r:R}(h:aK c x y=some r):(c=true/\x=some r)\/(c=false/\y=some r):=by
 cases c
 ·exact .inr ⟨rfl,h⟩
 ·exact .inl ⟨rfl,h⟩
theorem IH{R:Type}{n:Nat}{k:Nat->Option R}{r:R}(h:Qy n k=some r):0 < n/\∀j,j < n->k j=some r:=by
 unfold Qy at h
 split at h
 ·rename_i hx
  obtain rfl:=aP h
  exact hx.choose_spec
 ·cases h
theorem Av{s:AS}{id:Id}{e:de}{q:Nat}(hq:s.di q=true)(ga:s.bG id≠none):(s.aH id e).di q=true:=by
 cases id with
 |dd k=>exact hq
 |new i j=>
  by_cases hi:i=q
  ·subst hi;exact absurd ((gZ hq).1 j) ga
  ·unfold AS.di AS.aH
   simp only[dJ hi]
   exact hq
theorem Alike.len{α β:Type}{R:α->β->Prop}:∀ {xs:List α} {ys:List β},Alike R xs ys->xs.length=ys.length
 |[],[],_=>rfl
 |_::_,_::_,⟨_,h⟩=>by simp[h.len]
 |[],_::_,h=>h.elim
 |_::_,[],h=>h.elim
theorem FF{α:Type}:∀ {xs ys:List α} {i j:Nat} {x:α},xs.Perm ys->xs[i]? =some x->ys[j]? =some x->(xs.eraseIdx i).Perm (ys.eraseIdx j):=by
 have key:∀ {xs:List α} {i:Nat} {x:α},xs[i]? =some x->xs.Perm (x::xs.eraseIdx i):=by
  intro xs
  induction xs with
  |nil=>intro i x h;simp at h
  |cons y xs ih=>
   intro i x h
   cases i with
   |zero=>simp at h;subst h;exact jZ _
   |succ i=>
    have h:xs[i]? =some x:=by simpa using h
    exact((ih h).cons y).trans (List.Perm.swap x y _)
 intro xs ys i j x hp hi hj
 exact((key hi).symm.trans (hp.trans (key hj))).cons_inv
theorem FL(h:Inv C g β s a w){T:TypeId}{m:Operand}(cQ:o.op= .range T m){s':AS}(he:(FK P s o.dst T (s.ev m)).eval=some s'):ez P o a w (fF C s'):=by
 unfold FK at he
 split at he
 ·rename_i K V' kt vt id ver q hm hx hd
  obtain⟨l,h1,he⟩:=ak.1 he
  obtain⟨hq,he⟩:=aw.1 he
  obtain rfl:=al.1 he
  rw[ag]at hq
  obtain⟨hT,_,_⟩:=pN hm
  have yM:=h.ev m
  rw[hx]at yM
  obtain⟨fr,pl,es,clock,g1,g2,g3,g4,g5,g6,g7,gn⟩:=oD h h1 yM
  obtain rfl:=sF g1 hq.1
  have ga:s.bG id≠none:=by rw[g1];simp
  have P5:=Trans.refl w g
  have Ff:b6 (s.env w g β) ((s.aH id (.obj ver true (.mp kt vt l))).env w g β):=b6.aH g1 (ax _) P5 (λ_ _=>rfl) (λ_=>rfl)
  have i0:Inv C g β (s.aH id (.obj ver true (.mp kt vt l))) a w:=
   h.step (cK _ _ _) P5 Ff (fT.aH h.bo ga Ff (λ_ _=>rfl) (λ_ _ _ _ _ _ _ _=>⟨rfl,rfl⟩) ⟨pl,es,clock,g2,g4,g5,⟨g6.mono Ff.mem,gn⟩,g7⟩ (uY g1))
  have cj:=dF s id (.obj ver true (.mp kt vt l)) ga
  have hq':=Av (e:= .obj ver true (.mp kt vt l)) hq.2 ga
  generalize Rn:s.aH id (.obj ver true (.mp kt vt l))=s0 at i0 cj hq' Ff
  have tc:∀j,id≠ .new q j:=λj e=>by rw[e,(gZ hq').1 j]at cj;cases cj
  have iC:pl.b < w.heap.size:=(bk.1 g4).1
  have ht:=Trans.alloc w g (.mapIter (some pl.b) clock #[] clock) (.own (.id (.new q 0)) 0)
  obtain⟨h3,h4⟩:=i0.vT hq' (c:= .lR id (ver+1) kt vt l none) (p:=some ⟨w.heap.size,0⟩) ht (λb hb=>⟨kH w _ hb,ee _ _ _ (by omega)⟩) (λhE=>
   ⟨⟨w.heap.size,0⟩,pl.b,clock,#[],clock,gN _ _ _,lV w _,ew _ _ _,λvr Fi=>by
    obtain rfl:ver=vr:=by omega
    have hb:(s0.env w g β).rp id ver:=⟨by show s0.bG id≠none;rw[cj];simp,λv2 fr2 c2 h2=>by
     have h2:s0.bG id=some (.obj v2 fr2 c2):=h2
     rw[cj]at h2
     simp only[ao,de.obj.injEq]at h2
     omega⟩
    refine⟨hE.rp _ _ hb,λ_=>⟨⟨kt,vt,l,?_⟩,pl,es,clock,?_,rfl,?_,?_,λx hx=>g7.2 x hx,⟨ax _,ax _⟩,g7.1,?_,λx hx=>by cases hx⟩⟩
    ·show(s0.born q _).bG id=_
     rw[fU _ tc];exact cj
    ·show sG β (.new q 0) _ id=_
     rw[pv _ _ _ (tc 0)];exact g2
    ·exact(kH w _ iC).trans g4
    ·show jv g w.heap.size _ pl.b=_
     rw[ee _ _ _ (by omega)];exact g5
    ·have:es.toList.filter (λe=> !(#[]:Array Nat).contains e.born)=es.toList:=gj.2 λx _=>by simp
     rw[this]
     exact(g6.mono Ff.mem).mono hE.mem⟩)
  refine .inl ⟨.pointer (some ⟨w.heap.size,0,none⟩),w.alloc (.mapIter (some pl.b) clock #[] clock),?_,_,_,h3.put o.dst (v:= .ptr (.new q 0) 0 [] 0) ⟨[.pointer (some ⟨w.heap.size,0,none⟩)],?_,rfl⟩⟩
  ·refine dg (f:=Instr.range T (a.eval m)) (by simp only[execOp,cQ]) ?_
   rw[g3]
   exact run_range_map w T K V' pl.b es clock hT g4
  ·simp only[V]
   exact⟨_,rfl,kh hq' _ _ _ _,λ_=>⟨_,gN _ _ _,rfl⟩⟩
 ·simp only[ai]at he
theorem yU(h:Inv C g β s a w){x:Operand}{t:GU}(ht:s.I9 (s.ev x)=some t):
  s.bG t.i=some (.obj t.v t.fr (.lR t.q (t.vr+1) t.kt t.vt t.rest t.cur))/\(∃k v l,s.bG t.q=some (.obj t.vr true (.mp k v l)))/\
  ∃pl plq since seen c0 es clock,a.eval x= .pointer (some ⟨pl.b,0,none⟩)/\β t.i=some pl/\w.heap[pl.b]? =some (.mapIter (some plq.b) since seen c0)/\g pl.b= .own (.id t.i) 0/\
   β t.q=some plq/\w.heap[plq.b]? =some (.map es clock)/\g plq.b= .own (.id t.q) 0/\(∀x∈es.toList,x.born < since)/\(since<=c0/\since<=clock)/\(es.toList.map (·.born)).Nodup/\
   By (s.env w g β) t.kt t.vt (es.toList.filter λe=> !seen.contains e.born) t.rest/\
   ∀x,t.cur=some x->∃(e:MapEntry) (seen':Array Nat),e∈es.toList/\seen=seen'.push e.born/\c0=clock/\qF (s.env w g β) t.kt t.vt e x:=by
 have yM:=h.ev x
 generalize s.ev x=y at ht yM
 unfold AS.I9 at ht
 split at ht
 ·rename_i i ver
  split at ht
  ·rename_i v fr q vr kt vt rest cur iH
   split at ht
   ·rename_i hv hl
    obtain rfl:=aP ht
    have hv:v=ver:=by simpa using hv
    subst hv
    have cj:=dw iH
    unfold AS.DB at hl
    split at hl
    ·rename_i v2 k2 t2 l2 Rc
     have hl:v2=vr:=by simpa using hl
     subst hl
     have hq:=dw Rc
     refine⟨cj,⟨_,_,_,hq⟩,?_⟩
     obtain⟨pl,mb,since,seen,c0,h1,h2,h3,h4⟩:=h.bo i v fr _ cj
     obtain⟨h5,h6⟩:=h4 v2 rfl
     obtain⟨_,plq,es,clock,k1,k2,k3,k4,k5,k6,k7,k8,k9⟩:=h6 ⟨_,_,hq⟩
     subst k2
     obtain⟨ad,m1,m2,m3⟩:=mI yM
     obtain⟨pl',m4,rfl⟩:=m3 ⟨_,_,cj⟩
     have h1:β i=some pl:=h1
     have m4:β i=some pl':=m4
     rw[h1]at m4
     obtain rfl:pl=pl':=by simpa using m4
     exact⟨pl,plq,since,seen,c0,es,clock,m1,h1,h2,h3,k1,k3,k4,k5,k6,k7,k8,k9⟩
    ·cases hl
   ·cases ht
  ·cases ht
 ·cases ht
theorem qF.TG{E:Env}{kt vt:Ty}{e:MapEntry}{x:kt.den×vt.den}(h:qF E kt vt e x):VS E (.cons (.d kt x.1) (.cons (.d vt x.2) .nil)) (.tuple #[e.key,e.val]):=by
 obtain⟨⟨c1,a1,b1⟩,c2,a2,b2⟩:=h
 refine⟨[e.key,e.val],rfl,?_⟩
 simp only[VC]
 exact⟨_,_,c1,rfl,by simpa only[V]using a1,b1,_,_,c2,rfl,by simpa only[V]using a2,b2,rfl⟩
theorem qF.TH{E:Env}{kt vt:Ty}{e:MapEntry}{x:kt.den×vt.den}(h:qF E kt vt e x):VS E (.cons (.d .bool true) (.cons (.d kt x.1) (.cons (.d vt x.2) .nil))) (.tuple #[.bool true,e.key,e.val]):=by
 obtain⟨⟨c1,a1,b1⟩,c2,a2,b2⟩:=h
 refine⟨[.bool true,e.key,e.val],rfl,?_⟩
 simp only[VC]
 exact⟨_,_,[.bool true],rfl,by simp only[V,cG],rfl,_,_,c1,rfl,by simpa only[V]using a1,b1,_,_,c2,rfl,by simpa only[V]using a2,b2,rfl⟩
theorem E3(h:Inv C g β s a w){x:Operand}(cQ:o.op= .entry x){v:av}(he:(E2 s (s.ev x)).eval=some v):ez P o a w (fF C (s.put o.dst v)):=by
 unfold E2 at he
 split at he
 ·rename_i i v0 fr q vr kt vt rest c ht
  obtain rfl:=al.1 he
  obtain⟨_,_,pl,plq,since,seen,c0,es,clock,m1,m2,m3,_,m5,m6,m7,_,_,m10,_,m12⟩:=yU h ht
  obtain⟨e,seen',n1,rfl,rfl,n4⟩:=m12 c rfl
  refine h.value n4.TG (dg (f:=Instr.entry (a.eval x)) (by simp only[execOp,cQ]) ?_)
  rw[m1]
  exact run_entry_at w pl.b plq.b since seen' es _ e m3 m6 n1 m10
 ·simp only[ai]at he
theorem heap_drew{w w1:World}(hw:w1=w\/w1=w.drew):w1.heap=w.heap/\w1.os=w.os/\w1.tape=w.tape/\(w1.output=w.output/\w.drawn<=w1.drawn):=by
 rcases hw with rfl | rfl
 ·exact⟨rfl,rfl,rfl,rfl,ax _⟩
 ·exact⟨rfl,rfl,rfl,rfl,Nat.le_succ _⟩
theorem Inv.PG(h:Inv C g β s a w){i q:Id}{v vr:Nat}{fr:Bool}{kt vt:Ty}{rest:List (kt.den×vt.den)}{cur:Option (kt.den×vt.den)}(cj:s.bG i=some (.obj v fr (.lR q (vr+1) kt vt rest cur)))
  {k2 v2:Ty} {l2:List (k2.den×v2.den)} (hq:s.bG q=some (.obj vr true (.mp k2 v2 l2))) {pl plq:Pl} {m0:Option Nat} {since0 c00:Nat} {seen0:Array Nat} (hp:β i=some pl) (hb:w.heap[pl.b]? =some (.mapIter m0 since0 seen0 c00)) (hg:g pl.b= .own (.id i) 0)
  {w1:World} (hw:w1=w\/w1=w.drew) {es:Array MapEntry} {clock since c0:Nat} {seen:Array Nat} (Tj:β q=some plq) (MM:w.heap[plq.b]? =some (.map es clock)) (SY:g plq.b= .own (.id q) 0)
  (h1:∀x∈es.toList,x.born < since) (h2:since<=c0/\since<=clock) (h3:(es.toList.map (·.born)).Nodup) {rest':List (kt.den×vt.den)} {cur':Option (kt.den×vt.den)} (h4:By (s.env w g β) kt vt (es.toList.filter λe=> !seen.contains e.born) rest')
  (h5:∀x,cur'=some x->∃(e:MapEntry) (seen':Array Nat),e∈es.toList/\seen=seen'.push e.born/\c0=clock/\qF (s.env w g β) kt vt e x):
  Inv C g β (s.aH i (.obj v fr (.lR q (vr+1) kt vt rest' cur'))) a (Go.ChangeMaps.setBlock w1 pl.b (.mapIter (some plq.b) since seen c0))/\
   lU (s.env w g β) ((s.aH i (.obj v fr (.lR q (vr+1) kt vt rest' cur'))).env (Go.ChangeMaps.setBlock w1 pl.b (.mapIter (some plq.b) since seen c0)) g β):=by
 obtain⟨d1,d2,d3,d4⟩:=heap_drew hw
 have iC:pl.b < w.heap.size:=(bk.1 hb).1
 have Gs:(Go.ChangeMaps.setBlock w1 pl.b (.mapIter (some plq.b) since seen c0)).heap=w.heap.setIfInBounds pl.b (.mapIter (some plq.b) since seen c0):=by
  show w1.heap.setIfInBounds _ _=_
  rw[d1]
 have LI:(Go.ChangeMaps.setBlock w1 pl.b (.mapIter (some plq.b) since seen c0)).os=w.os/\(Go.ChangeMaps.setBlock w1 pl.b (.mapIter (some plq.b) since seen c0)).tape=w.tape/\((Go.ChangeMaps.setBlock w1 pl.b (.mapIter (some plq.b) since seen c0)).output=w.output/\w.drawn<=(Go.ChangeMaps.setBlock w1 pl.b (.mapIter (some plq.b) since seen c0)).drawn):=⟨d2,d3,d4⟩
 generalize Go.ChangeMaps.setBlock w1 pl.b (.mapIter (some plq.b) since seen c0)=w' at Gs LI
 have hother:∀b',b'≠pl.b->w'.heap[b']? =w.heap[b']? :=λb' ga=>by
  rw[Gs,df,if_neg (λe=>ga e.symm)]
 have ji:w'.heap[pl.b]? =some (.mapIter (some plq.b) since seen c0):=by
  rw[Gs,df,if_pos rfl,if_pos iC]
 have ht:Trans w w' g g:=by
  refine⟨LI.1,LI.2.1,LI.2.2,by rw[Gs];simp,λb' _=> ?_⟩
  by_cases he:b'=pl.b
  ·subst he
   rw[hg]
   exact⟨.inr ⟨i,0,rfl,ax _⟩,λ_ _ hh=>by omega⟩
  ·rw[hother b' he]
   cases xy:g b' with
   |free=>exact⟨rfl,rfl⟩
   |own o' k=>cases o' with
    |dx=>exact⟨rfl,rfl⟩
    |id i'=>exact⟨.inr ⟨i',k,rfl,ax _⟩,λoff v _ hv=>by simpa only[World.cell?,hother b' he]using hv⟩
 have hle:b6 (s.env w g β) ((s.aH i (.obj v fr (.lR q (vr+1) kt vt rest' cur'))).env w' g β):=b6.aH cj (ax _) ht (λ_ _=>rfl) (λ_=>rfl)
 have Pe:q≠i:=λe=>by rw[e,cj]at hq;cases hq
 have Ti:plq.b≠pl.b:=λe=>by rw[e,hb]at MM;cases MM
 refine⟨h.step (cK _ _ _) ht hle (fT.aH h.bo (by rw[cj];simp) hle (λ_ _=>rfl) (λi' ver' fr' c' pl2 hi yK A0=>⟨hother _ (h.apart hg hi yK A0),rfl⟩) ?_ (kk cj λ_ _ _ e=>by cases e)),hle.mem⟩
 refine⟨pl,plq.b,since,seen,c0,hp,ji,hg,λvr' Fi=> ?_⟩
 obtain rfl:vr=vr':=by omega
 have Hj:(s.env w g β).rp q vr:=⟨by show s.bG q≠none;rw[hq];simp,λv3 fr3 c3 h3=>by
  have h3:s.bG q=some (.obj v3 fr3 c3):=h3
  rw[hq]at h3
  simp only[ao,de.obj.injEq]at h3
  omega⟩
 refine⟨hle.rp _ _ Hj,λ_=>⟨⟨k2,v2,l2,?_⟩,plq,es,clock,Tj,rfl,(hother _ Ti).trans MM,SY,h1,h2,h3,h4.mono hle.mem,λx hx=> ?_⟩⟩
 ·show(s.aH i _).bG q=_
  rw[cC s i q _ Pe];exact hq
 ·obtain⟨e,se,a1,a2,a3,a4⟩:=h5 x hx
  exact⟨e,se,a1,a2,a3,a4.mono hle.mem⟩
theorem Inv.LO(h:Inv C g β s a w){i q:Id}{v ver ver':Nat}{fr:Bool}{kt vt:Ty}{rest rest':List (kt.den×vt.den)}{cur cur':Option (kt.den×vt.den)}(cj:s.bG i=some (.obj v fr (.lR q ver kt vt rest cur)))
  (hk:ver'=0\/(ver'=ver/\rest'=rest/\cur'=none)):Inv C g β (s.aH i (.obj v fr (.lR q ver' kt vt rest' cur'))) a w:=by
 have ht:=Trans.refl w g
 have hle:b6 (s.env w g β) ((s.aH i (.obj v fr (.lR q ver' kt vt rest' cur'))).env w g β):=b6.aH cj (ax _) ht (λ_ _=>rfl) (λ_=>rfl)
 refine h.step (cK _ _ _) ht hle (fT.aH h.bo (by rw[cj];simp) hle (λ_ _=>rfl) (λ_ _ _ _ _ _ _ _=>⟨rfl,rfl⟩) ?_ (kk cj λ_ _ _ e=>by cases e))
 obtain⟨pl,mb,since,seen,c0,h1,h2,h3,h4⟩:=h.bo i v fr _ cj
 refine⟨pl,mb,since,seen,c0,h1,h2,h3,λvr Fi=> ?_⟩
 rcases hk with hk | ⟨rfl,rfl,rfl⟩
 ·omega
 ·obtain⟨h5,h6⟩:=h4 vr Fi
  refine⟨hle.rp _ _ h5,λhc=> ?_⟩
  obtain⟨c1,_⟩:=hle.cur _ _ h5 hc
  obtain⟨⟨k,v1,l,hq⟩,plq,es,clock,k1,k2,k3,k4,k5,k6,k7,k8,_⟩:=h6 c1
  have Pe:q≠i:=λe=>by
   have hq:s.bG q=_:=hq
   rw[e,cj]at hq;cases hq
  exact⟨⟨k,v1,l,by show(s.aH i _).bG q=_;rw[cC s i q _ Pe];exact hq⟩,plq,es,clock,k1,k2,k3,k4,k5,k6,k7,k8.mono hle.mem,λx hx=>by cases hx⟩
theorem FM{s:AS}{q i:Id}{e:de}(h:s.zm q=false)(hi:s.bG i=some e):e.Ja q=false:=by
 unfold AS.zm at h
 rw[Bool.or_eq_false_iff]at h
 cases i with
 |dd k=>simpa using ik.1 h.1 _ (cE hi)
 |new a b=>
  have hi:(s.news.getD a [])[b]? =some e:=hi
  by_cases ha:a < s.news.length
  ·have h2:(s.news.getD a []).any (de.Ja q)=false:=by simpa using ik.1 h.2 (s.news.getD a []) (by simp[ay,bS ha])
   simpa using ik.1 h2 _ (cE hi)
  ·simp[ay,c7 (Nat.le_of_not_lt ha)]at hi
theorem Inv.unlock(h:Inv C g β s a w){q:Id}{vr:Nat}{k v:Ty}{l:List (k.den×v.den)}(cj:s.bG q=some (.obj vr true (.mp k v l)))(hr:s.zm q=false):Inv C g β (s.aH q (.obj vr false (.mp k v l))) a w:=by
 have ht:=Trans.refl w g
 have hle:b6 (s.env w g β) ((s.aH q (.obj vr false (.mp k v l))).env w g β):=b6.aH cj (ax _) ht (λ_ _=>rfl) (λ_=>rfl)
 refine h.step (cK _ _ _) ht hle λi ver fr c hi=> ?_
 have hi:(s.aH q (.obj vr false (.mp k v l))).bG i=some (.obj ver fr c):=hi
 by_cases Sb:i=q
 ·subst Sb
  rw[dF s i _ (by rw[cj];simp)]at hi
  simp only[ao,de.obj.injEq]at hi
  obtain⟨rfl,rfl,rfl⟩:=hi
  obtain⟨pl,es,clock,h1,h2,h3,h4,h5⟩:=h.bo i vr true _ cj
  exact⟨pl,es,clock,h1,h2,h3,⟨h4.1.mono hle.mem,h4.2⟩,h5⟩
 ·rw[cC s q i _ Sb]at hi
  refine(h.bo i ver fr c hi).LS hle rfl (λ_ _=>⟨rfl,rfl⟩) λq2 v2 k2 v3 l2 hc yJ _=>⟨⟨k2,v3,l2,?_⟩,λ_ _=>⟨rfl,rfl⟩⟩
  obtain⟨kt,vt,rest,cu,rfl⟩:=hc
  have hn:=FM hr hi
  have ga:q2≠q:=λe=>by simp[de.Ja,e]at hn
  show(s.aH q _).bG q2=_
  rw[cC s q q2 _ ga];exact yJ
theorem Ft{es:List MapEntry}{seen:Array Nat}(hn:(es.map (·.born)).Nodup){j:Nat}{e:MapEntry}(hj:(es.filter λe=> !seen.contains e.born)[j]? =some e):
  es.filter (λx=> !(seen.push e.born).contains x.born)=(es.filter λe=> !seen.contains e.born).eraseIdx j:=by
 have h1:es.filter (λx=> !(seen.push e.born).contains x.born)=(es.filter λe=> !seen.contains e.born).filter λx=>x.born !=e.born:=by
  rw[lg]
  refine List.filter_congr λx _=> ?_
  rw[contains_push]
  cases seen.contains x.born <;> cases hb:x.born==e.born <;> simp[bne,hb]
 rw[h1]
 have Gv:((es.filter λe=> !seen.contains e.born).map (·.born)).Nodup:=hn.sublist (List.filter_sublist.map _)
 generalize es.filter (λe=> !seen.contains e.born)=L at hj Gv
 induction L generalizing j with
 |nil=>simp at hj
 |cons x L ih=>
  rw[bE,cV]at Gv
  cases j with
  |zero=>
   simp only[eB,ao]at hj
   subst hj
   have:L.filter (λy=>y.born !=x.born)=L:=gj.2 λy hy=>by
    have:y.born≠x.born:=λe=>Gv.1 (e▸cX.2 ⟨y,hy,rfl⟩)
    simpa using this
   simp[this]
  |succ j=>
   have hj:L[j]? =some e:=by simpa using hj
   have hx:(x.born !=e.born)=true:=by
    have:x.born≠e.born:=λh=>Gv.1 (h▸cX.2 ⟨e,cE hj,rfl⟩)
    simpa using this
   rw[iP,hx,List.eraseIdx_cons_succ]
   simp only[if_true]
   rw[ih hj Gv.2]
theorem HF(h:Inv C g β s a w){x:Operand}(cQ:o.op= .next x false){t:GU}(ht:s.I9 (s.ev x)=some t){R:Type}{k:AS->Option R}{r:R}(he:Jt s o.dst t k=some r):
  ez P o a w λa' w'=>∃s',fF C s' a' w'/\k s'=some r:=by
 obtain⟨hi,⟨k2,v2,l2,hq⟩,pl,plq,since,seen,c0,es,clock,m1,m2,m3,m4,m5,m6,m7,m8,m9,m10,m11,_⟩:=yU h ht
 have hex:∀ {y:Value} {w':World},(Instr.next (a.eval x) false o.type).run P w= .ok y w'->(execOp a.eval o).run P w= .ok (.value y) w':=λhr=>
  dg (f:=Instr.next (a.eval x) false o.type) (by simp only[execOp,cQ]) hr
 have xP:(leftOf es seen).toList=es.toList.filter λe=> !seen.contains e.born:=by unfold leftOf;rw[Array.toList_filter]
 obtain⟨l',m11,Dm⟩:=m11
 have hlen:=m11.len
 rw[Dm.length_eq]at hlen
 rw[<-xP,bZ]at hlen
 unfold Jt at he
 rcases run_next_at (P:=P) w o.type pl.b plq.b since c0 seen es clock m3 m6 m8 m9.1 with⟨h0,kj⟩ | ⟨e,NV,w1,hw,kj⟩
 ·rcases vC he with⟨hc,_⟩ | ⟨_,he⟩
  ·have:0 < t.rest.length:=by simpa using hc
   omega
  ·unfold AS.KR at he
   have i1:=h.LO (rest':=[]) (cur':=none) hi (.inl rfl)
   have Pe:t.q≠t.i:=λe=>by rw[e,hi]at hq;simp at hq
   have Rg:(s.aH t.i (.obj t.v t.fr (.lR t.q 0 t.kt t.vt [] none))).bG t.q=some (.obj t.vr true (.mp k2 v2 l2)):=by rw[cC s t.i t.q _ Pe];exact hq
   generalize s.aH t.i (.obj t.v t.fr (.lR t.q 0 t.kt t.vt [] none))=s1 at he i1 Rg
   cases hr:s1.zm t.q with
   |true=>rw[hr]at he;cases he
   |false=>
    rw[hr]at he
    simp only at he
    have Tt:s1.unlock t.q=s1.aH t.q (.obj t.vr false (.mp k2 v2 l2)):=by simp only[AS.unlock,AS.obj,Rg]
    rw[Tt]at he
    rw[<-m1]at kj
    refine .inl ⟨_,w,hex kj,_,⟨g,β,(i1.unlock Rg hr).put o.dst (v:= .cons (.d .bool false) .nil) ⟨[.bool false],rfl,?_⟩⟩,he⟩
    simp only[VC]
    exact⟨_,_,[.bool false],rfl,by simp only[V,cG],rfl,rfl⟩
 ·rcases vC he with⟨hc,he⟩ | ⟨hc,_⟩
  ·obtain⟨_,hd⟩:=IH he
   rw[xP]at NV
   obtain⟨i,Kw⟩:=List.getElem?_of_mem NV
   obtain⟨y,Ps,N4⟩:=m11.get Kw
   obtain⟨j,hj⟩:=List.getElem?_of_mem (Dm.mem_iff.1 (cE Ps))
   have MW:j < t.rest.length:=(c6.1 hj).1
   have hy:Ca t.kt t.vt t.rest j=y:=by simp[Ca,ay,hj]
   have qO:e∈es.toList:=(dE.1 NV).1
   have i1:=h.PG (rest':=t.rest.eraseIdx j) (cur':=some (Ca t.kt t.vt t.rest j)) (since:=since) (c0:=clock) (seen:=seen.push e.born) hi hq m2 m3 m4 hw m5 m6 m7 m8 ⟨m9.2,m9.2⟩ m10 ?_ ?_
   rotate_left
   ·rw[Ft m10 Kw];exact⟨_,m11.erase i,FF Dm Ps hj⟩
   ·intro z hz
    obtain rfl:=aP hz
    exact⟨e,seen,qO,rfl,rfl,by rw[hy];exact N4⟩
   rw[<-m1]at kj
   have hVS:=(hy▸N4:qF (s.env w g β) t.kt t.vt e (Ca t.kt t.vt t.rest j))
   refine .inl ⟨_,_,hex kj,_,⟨g,β,i1.1.put o.dst (v:= .cons (.d .bool true) (.cons (.d t.kt (Ca t.kt t.vt t.rest j).1) (.cons (.d t.vt (Ca t.kt t.vt t.rest j).2) .nil))) ?_⟩,hd j MW⟩
   exact qF.TH (hVS.mono i1.2)
  ·have hc:¬0 < t.rest.length:=by simpa using hc
   have:0 < (leftOf es seen).toList.length:=List.length_pos_of_mem NV
   rw[bZ]at this
   omega
theorem Hg{Γ:nG}(hΓ:Sound P Γ){bo:List Nat}{ops:Array Oper}{R:Type}{k:AS->Option R}{r:R}(h:fF C s a w)(he:Kr P Γ bo ops o s k=some r):
  kG P ops o a w λa' w'=>∃s',fF C s' a' w'/\k s'=some r:=by
 have plain:Kq P Γ bo ops o s k=some r->kG P ops o a w λa' w'=>∃s',fF C s' a' w'/\k s'=some r:=λhe=>by
  obtain⟨s1,h1,h2⟩:=Dd he
  exact(AU hΓ h h1).mono λa' w' hs=>⟨s1,hs,h2⟩
 have stepK:∀(hg:o.guard=none),(ez P o a w λa' w'=>∃s',fF C s' a' w'/\k s'=some r)->kG P ops o a w λa' w'=>∃s',fF C s' a' w'/\k s'=some r:=λhg hr=>by
  unfold kG
  have:Region.wanted o (yielded ops a.tmps)=true:=by simp[Region.wanted,hg]
  rw[if_pos this]
  exact hr
 have step:∀(hg:o.guard=none) (b:Bool),ez P o a w (fF C (s.put o.dst (.d .bool b)))->k (s.put o.dst (.d .bool b))=some r->kG P ops o a w λa' w'=>∃s',fF C s' a' w'/\k s'=some r:=λhg b hr hk=>by
  unfold kG
  have:Region.wanted o (yielded ops a.tmps)=true:=by simp[Region.wanted,hg]
  rw[if_pos this]
  exact hr.mono λa' w' hs=>⟨_,hs,hk⟩
 unfold Kr at he
 split at he
 ·rename_i T x y U hg ho
  split at he
  ·rename_i n hn hT
   obtain⟨g,β,hi⟩:=h
   obtain⟨b,hb,hr⟩:=(vf (o:=o) (U:=U) hi hn hT).1 ho
   refine step hg b hr ?_
   rcases vC he with⟨hc,hk⟩ | ⟨_,hk⟩
   ·rw[hb (by simpa using hc)];exact hk
   ·obtain⟨k1,k2⟩:=GH hk
    cases b
    ·exact k2
    ·exact k1
  ·exact plain he
 ·rename_i T x y U hg ho
  split at he
  ·rename_i n hn hT
   obtain⟨g,β,hi⟩:=h
   obtain⟨b,hb,hr⟩:=(vf (o:=o) (U:=U) hi hn hT).2 ho
   refine step hg b hr ?_
   rcases vC he with⟨hc,hk⟩ | ⟨_,hk⟩
   ·rw[hb (by simpa using hc)];exact hk
   ·obtain⟨k1,k2⟩:=GH hk
    cases b
    ·exact k2
    ·exact k1
  ·exact plain he
 ·rename_i T m hg ho
  obtain⟨s1,h1,h2⟩:=gm.1 he
  obtain⟨g,β,hi⟩:=h
  exact stepK hg ((FL hi ho h1).mono λ_ _ hs=>⟨_,hs,h2⟩)
 ·rename_i x hg ho
  obtain⟨s1,h1,h2⟩:=gm.1 he
  obtain⟨v,h3,h4⟩:=ak.1 h1
  obtain rfl:=al.1 h4
  obtain⟨g,β,hi⟩:=h
  exact stepK hg ((E3 hi ho h3).mono λ_ _ hs=>⟨_,hs,h2⟩)
 ·rename_i x hg ho
  split at he
  ·rename_i t ht
   obtain⟨g,β,hi⟩:=h
   exact stepK hg (HF hi ho ht he)
  ·cases he
 ·rename_i c hg ho
  split at he
  ·rename_i F hc
   split at he
   ·rename_i id ver rc f hF
    split at he
    ·rename_i en Ig
     obtain⟨P4,he⟩:=HW he
     obtain⟨s1,h1,h2⟩:=gm.1 he
     obtain⟨g,β,hi⟩:=h
     exact stepK hg ((F4 hi ho hc hF P4 (hΓ _ _ en Ig) h1).mono λ_ _ hs=>⟨_,hs,h2⟩)
    ·cases he
   ·exact plain he
  ·exact plain he
 ·exact plain he
theorem wZ{rd:Option Nat}{n:Nat}{Γ:nG}(hΓ:Sound P Γ){bo:List Nat}{ops:Array Oper}{R:Type}{Q:Exit->Act->World->Prop}:∀(l:List Oper) {s:AS} {a:Act} {w:World} {k:AS->Option R} {r:R},fF C s a w->Ks P Γ bo ops l s k=some r->
  (∀s' a' w',fF C s' a' w'->k s'=some r->Q .normal a' w')->wpListIn (Fr rd) n P ops Q l a w
 |[],s,a,w,k,r,h,he,hk=>hk s a w h he
 |o::l,s,a,w,k,r,h,he,hk=>by
  have he:Kr P Γ bo ops o s (λs'=>s'.seen λs'=>Ks P Γ bo ops l s' k)=some r:=he
  simp only[AS.vB]at he
  exact((Hg hΓ h he).mono λa' w' ⟨s',hs,h2⟩=>wZ hΓ l hs h2 hk).wpListIn
end
end Go.Ab
namespace Go.Ab
theorem AS.IN{s t:AS}(h1:s.bR=t.bR)(h2:s.news.length=t.news.length)(h3:∀id,s.bG id=t.bG id):s=t:=by
 obtain⟨a,b,c⟩:=s
 obtain⟨a',b',c'⟩:=t
 simp only at h1 h2
 subst h1
 have hb:b=b':=il λk=>h3 (.dd k)
 subst hb
 have hc:c=c':=by
  apply List.ext_getElem h2
  intro i h h'
  apply il
  intro j
  have:=h3 (.new i j)
  simpa[AS.bG,ay,h,h']using this
 rw[hc]
def de.Cv:de->de->Prop
 | .obj v _ c,.obj v' _ c'=>v=v'/\c=c'
 | .dead,.dead=>True
 |_,_=>False
def oK:Option de->Option de->Prop
 |some a,some b=>a.Cv b
 |none,none=>True
 |_,_=>False
def de.E8:de->de
 | .obj v _ c=> .obj v true c
 | .dead=> .dead
theorem de.JO(a:de):a.Cv a:=by cases a <;> simp[de.Cv]
theorem HY(a:Option de):oK a a:=by cases a <;> simp[oK,de.JO]
theorem HX(a:Option de):oK (a.map de.E8) a:=by
 cases a with
 |none=>trivial
 |some x=>cases x <;> simp[oK,de.Cv,de.E8]
theorem de.Ko(a:de):a.E8.E8=a.E8:=by cases a <;> rfl
structure jc(f:rK)(s t:AS):Prop where
 bR:∀i∈f.bR,t.slot i=s.slot i
 ws:∀id∈f.ws,t.bG id=s.bG id
 rs:∀id∈f.rs,oK (t.bG id) (s.bG id)
 di:∀q,f.dst=some q->t.di q=s.di q
structure NL where
 v:av
 up:Id->Option de
 fz:List Id
structure App(d:Option Tmp)(E:NL)(s s':AS):Prop where
 bR:s'.bR=(s.put d E.v).bR
 len:s'.news.length=s.news.length
 bG:∀id,s'.bG id=match E.up id with | some e=>some e | none=>if id∈E.fz then(s.bG id).map de.E8 else s.bG id
theorem App.Ms{d:Option Tmp}{E:NL}{s s1 s2:AS}(h1:App d E s s1)(h2:App d E s s2):s1=s2:=
 AS.IN (by rw[h1.bR,h2.bR]) (by rw[h1.len,h2.len]) λid=>by rw[h1.bG,h2.bG]
structure BA(f:rK)(s:AS)(E:NL):Prop where
 up:∀id e,E.up id=some e->(id∈f.ws/\s.bG id≠none)\/∃q j,f.dst=some q/\id= .new q j
 fz:∀id∈E.fz,id∈f.rs
theorem ua(s:AS)(id:Id)(e:de):(s.aH id e).news.length=s.news.length:=by cases id <;> simp[AS.aH]
theorem Aa(s:AS)(id i:Id):(s.freeze id).bG i=if i=id then(s.bG i).map de.E8 else s.bG i:=by
 unfold AS.freeze
 cases hs:s.bG id with
 |none=>
  by_cases hi:i=id
  ·subst hi;simp[hs]
  ·simp[hi]
 |some e=>
  cases e with
  |dead=>
   by_cases hi:i=id
   ·subst hi;simp[hs,de.E8]
   ·simp[hi]
  |obj v fr c=>
   simp only
   by_cases hi:i=id
   ·subst hi
    rw[dF s i _ (by rw[hs];simp)]
    simp[hs,de.E8]
   ·rw[cC s id i _ hi];simp[hi]
theorem eo(i:Id):∀(ids:List Id) (s:AS),(s.aQ ids).bG i=if i∈ids then(s.bG i).map de.E8 else s.bG i
 |[],s=>by simp[AS.aQ]
 |id::ids,s=>by
  rw[AS.aQ,eo i ids,Aa]
  by_cases h1:i=id
  ·subst h1
   by_cases h2:i∈ids
   ·simp[h2,Option.map_map,Function.comp_def,de.Ko]
   ·simp[h2]
  ·simp[h1]
theorem Fu(s:AS)(id:Id):(s.freeze id).news.length=s.news.length:=by
 unfold AS.freeze
 split
 ·exact ua _ _ _
 ·rfl
theorem kP:∀(ids:List Id) (s:AS),(s.aQ ids).news.length=s.news.length
 |[],_=>rfl
 |id::ids,s=>by rw[AS.aQ,kP ids,Fu]
theorem px{s:AS}{q:Nat}:s.di q=true↔q < s.news.length/\∀j,s.bG (.new q j)=none:=by
 refine⟨λh=>⟨(gZ h).2,(gZ h).1⟩,λ⟨h1,h2⟩=> ?_⟩
 unfold AS.di
 rw[bS h1]
 have h0:=h2 0
 simp only[AS.bG,ay,bS h1,dR]at h0
 cases hh:s.news[q]with
 |nil=>rfl
 |cons x xs=>rw[hh]at h0;simp at h0
theorem App.we(d:Option Tmp)(v:av)(ids:List Id)(s:AS):App d ⟨v,λ_=>none,ids⟩ s ((s.aQ ids).put d v):=by
 refine⟨?_,?_,λid=> ?_⟩
 ·cases d <;> simp[AS.put,jF]
 ·cases d <;> simp[AS.put,kP]
 ·rw[sK,eo]
theorem App.sO(d:Option Tmp)(v:av)(s:AS):App d ⟨v,λ_=>none,[]⟩ s (s.put d v):=App.we d v [] s
def vU(q:Nat)(es:List de):Id->Option de
 | .new i j=>if i=q then es[j]? else none
 | .dd _=>none
theorem IK(s:AS){q:Nat}(hq:q < s.news.length)(es:List de)(id:Id):(s.born q es).bG id=match id with | .new i j=>if i=q then es[j]? else s.bG (.new i j) | .dd k=>s.bG (.dd k):=by
 cases id with
 |dd k=>rfl
 |new i j=>
  simp only
  by_cases h:i=q
  ·subst h;rw[if_pos rfl];exact oh hq _ j
  ·rw[if_neg h];exact fU _ λj' e=>by simp only[Id.new.injEq]at e;exact h e.1
theorem App.Gh{s:AS}{q:Nat}(hv:s.di q=true)(v:av)(ids:List Id)(es:List de):App (some q) ⟨v,vU q es,ids⟩ s (((s.aQ ids).born q es).put (some q) v):=by
 obtain⟨h1,h2⟩:=px.1 hv
 refine⟨?_,?_,λid=> ?_⟩
 ·simp[AS.put,jF]
 ·simp[AS.put,AS.born,kP]
 ·rw[sK,IK _ (by rw[kP];exact h1)]
  cases id with
  |dd k=>simp only[vU];exact eo _ _ _
  |new i j=>
   simp only[vU]
   by_cases h:i=q
   ·subst h
    rw[if_pos rfl]
    cases he:es[j]? with
    |none=>simp[h2]
    |some e=>simp
   ·rw[if_neg h]
    simp only[if_neg h]
    exact eo _ _ _
theorem App.JK{s:AS}{id:Id}{e0:de}(hs:s.bG id=some e0)(d:Option Tmp)(v:av)(e:de):App d ⟨v,λi=>if i=id then some e else none,[]⟩ s ((s.aH id e).put d v):=by
 refine⟨?_,?_,λi=> ?_⟩
 ·cases d <;> simp[AS.put]
 ·cases d <;> simp[AS.put,ua]
 ·rw[sK]
  by_cases hi:i=id
  ·subst hi
   rw[dF s i _ (by rw[hs];simp)]
   simp
  ·rw[cC s id i _ hi];simp[hi]
section
variable {P:Program} {Γ:nG} {bo:List Nat} {ops:Array Oper} {o:Oper} {s t:AS}
def uE(P:Program)(Γ:nG)(bo:List Nat)(ops:Array Oper)(o:Oper)(s s':AS):Prop:=
 ∃E,App o.dst E s s'/\BA (fk Γ ops s o) s E/\∀t,jc (fk Γ ops s o) s t->∃t',(kA P Γ bo o t).eval=some t'/\App o.dst E t t'
theorem xg{xs:Array Operand}{i:Nat}(h:Operand.tmp i∈xs.toList):i∈xX xs:=by
 unfold xX
 exact List.mem_filterMap.2 ⟨_,h,rfl⟩
theorem jc.ev(h:jc (fk Γ ops s o) s t){x:Operand}(hx:x∈o.op.operands.toList):t.ev x=s.ev x:=by
 cases x with
 |tmp i=>exact h.bR i (bf.2 (.inl (xg hx)))
 |_=>rfl
theorem DO(v:Value):(ofConst v).ids=[]:=by unfold ofConst;split <;> rfl
theorem Bd{o:Oper}{x:Op}(h:o.op=x)(hx:A9 x=false):A9 o.op=false:=by rw[h];exact hx
theorem tY(hn:A9 o.op=false){x:Operand}(hx:x∈o.op.operands.toList){id:Id}(cP:id∈(s.ev x).ids):id∈(fk Γ ops s o).rs:=by
 refine bf.2 (.inl ?_)
 unfold DR
 rw[hn]
 cases x with
 |tmp i=>exact List.mem_flatMap.2 ⟨i,xg hx,cP⟩
 |const v=>simp[AS.ev,DO]at cP
 |global _=>simp[AS.ev,av.ids]at cP
 |func f=>simp[AS.ev,av.ids]at cP
theorem jc.Cv(h:jc (fk Γ ops s o) s t)(hn:A9 o.op=false){x:Operand}(hx:x∈o.op.operands.toList){id:Id}(cP:id∈(s.ev x).ids):oK (t.bG id) (s.bG id):=
 h.rs id (tY hn hx cP)
theorem vE{id:Id}(h:oK (t.bG id) (s.bG id)):(t.obj id=none/\s.obj id=none)\/∃v f f' c,t.obj id=some (v,f,c)/\s.obj id=some (v,f',c):=by
 unfold AS.obj
 revert h
 cases t.bG id with
 |none=>cases s.bG id with
  |none=>intro _;simp
  |some b=>intro h;exact h.elim
 |some a=>cases s.bG id with
  |none=>intro h;exact h.elim
  |some b=>cases a <;> cases b <;> intro h <;> first
    |exact h.elim
    | (left;exact⟨rfl,rfl⟩)
    | (obtain⟨rfl,rfl⟩:=h;right;exact⟨_,_,_,_,rfl,rfl⟩)
theorem wG{id:Id}(h:oK (t.bG id) (s.bG id))(ver:Nat)(p:List sW):t.row id ver p=s.row id ver p:=by
 unfold AS.row
 rcases vE h with⟨h1,h2⟩ | ⟨v,f,f',c,h1,h2⟩ <;> rw[h1,h2]
theorem kb:∀(v:av) (ty:Ty),(∀id∈v.ids,oK (t.bG id) (s.bG id))->t.fZ ty v=s.fZ ty v
 | .cD id ver p c i len,ty,h=>by
  cases ty <;> first
   |rfl
   | (simp only[AS.fZ];rw[wG (h id (by simp[av.ids]))])
 | .pr a b,ty,h=>by
  cases ty <;> first
   |rfl
   | (simp only[AS.fZ];rw[kb a _ λid cP=>h id (by simp[av.ids,cP]),kb b _ λid cP=>h id (by simp[av.ids,cP])])
 | .undef,ty,_ | .gone,ty,_ | .db,ty,_ | .lP,ty,_ | .nm,ty,_ | .qe,ty,_ | .d _ _,ty,_ | .ptr ..,ty,_ | .eO ..,ty,_ | .fn ..,ty,_ | .cons ..,ty,_ | .nil,ty,_ | .vec ..,ty,_ | .bx ..,ty,_ | .lF ..,ty,_ | .mp ..,ty,_ | .lR ..,ty,_ | .yl ..,ty,_ | .nH ..,ty,_ | .sb _,ty,_=>by
  cases ty <;> simp only[AS.fZ]
theorem mK:∀(v:av),∀id∈v.shared,id∈v.ids
 | .cD ..,id,h=>by simpa[av.shared,av.ids]using h
 | .pr a b,id,h=>by
  simp only[av.shared,bf,av.ids]at h ⊢
  rcases h with h | h
  ·exact .inl (mK a id h)
  ·exact .inr (mK b id h)
 | .undef,_,h | .gone,_,h | .db,_,h | .lP,_,h | .nm,_,h | .qe,_,h | .d _ _,_,h | .ptr ..,_,h | .eO ..,_,h | .fn ..,_,h | .cons ..,_,h | .nil,_,h | .vec ..,_,h | .bx ..,_,h | .lF ..,_,h | .mp ..,_,h | .lR ..,_,h | .yl ..,_,h | .nH ..,_,h | .sb _,_,h=>by
  simp[av.shared]at h
theorem DA{T:TypeId}{x:av}(h:∀id∈x.ids,oK (t.bG id) (s.bG id)):uZ P t T x=uZ P s T x:=by
 unfold uZ
 split
 ·rename_i id ver p n
  rcases vE (h id (by simp[av.ids])) with⟨h1,h2⟩ | ⟨v,f,f',c,h1,h2⟩ <;> rw[h1,h2]
 ·rfl
 ·rfl
 ·rfl
theorem BF{n:Nat}{lo hi:Option Operand}(hl:∀x,lo=some x->t.ev x=s.ev x)(hh:∀x,hi=some x->t.ev x=s.ev x):bounds t n lo hi=bounds s n lo hi:=by
 unfold bounds
 cases lo <;> cases hi <;> simp only[] <;> first
  |rfl
  | (rw[hl _ rfl,hh _ rfl])
  |rw[hl _ rfl]
  |rw[hh _ rfl]
theorem vH{T:TypeId}{x:av}{lo hi:Option Operand}(h:∀id∈x.ids,oK (t.bG id) (s.bG id))(hl:∀x,lo=some x->t.ev x=s.ev x)(hh:∀x,hi=some x->t.ev x=s.ev x):
  sA P t T x lo hi=sA P s T x lo hi:=by
 have hb:∀n,bounds t n lo hi=bounds s n lo hi:=λn=>BF hl hh
 unfold sA
 split <;> first
  |rfl
  | (rw[wG (h _ (by simp[av.ids]))];simp only[hb];done)
  | (simp only[hb];done)
theorem Aq{T:TypeId}{x:av}{lo:Option Operand}{y m:Operand}(h:∀id∈x.ids,oK (t.bG id) (s.bG id))(hl:∀x,lo=some x->t.ev x=s.ev x)(hh:t.ev y=s.ev y)(hm:t.ev m=s.ev m):
  vG P t T x lo y m=vG P s T x lo y m:=by
 unfold vG
 rw[hh,hm,vH h hl λz hz=>by obtain rfl:=aP hz;exact hh]
theorem wk{T:TypeId}{x:av}{i:Int}(h:∀id∈x.ids,oK (t.bG id) (s.bG id)):lA P t T x i=lA P s T x i:=by
 unfold lA
 split <;> first
  |rfl
  |rw[wG (h _ (by simp[av.ids]))]
theorem CT{obj:Bool}{src dst:TypeId}{x:av}(h:∀id∈x.ids,oK (t.bG id) (s.bG id)):AH P t obj src dst x=AH P s obj src dst x:=by
 unfold AH
 split
 ·rfl
 ·unfold IE
  split <;> first
   |rfl
   | (simp only[AS.FD,kb _ _ h])
theorem Hc{T:TypeId}{op:BinOp}{i:Id}{v:Nat}{j:Id}{w:Nat}(h:oK (t.bG i) (s.bG i)):NQ P t T op i v j w=NQ P s T op i v j w:=by
 unfold NQ
 rcases vE h with⟨h1,h2⟩ | ⟨v,f,f',c,h1,h2⟩ <;> rw[h1,h2]
theorem CV{src dst:TypeId}{id:Id}{ver:Nat}(h:oK (t.bG id) (s.bG id)):AI P t src dst id ver=AI P s src dst id ver:=by
 unfold AI
 rcases vE h with⟨h1,h2⟩ | ⟨v,f,f',c,h1,h2⟩
 ·rw[h1,h2]
 ·rw[h1,h2]
  cases c <;> first
   |rfl
   | (rename_i e z c;cases z <;> rfl)
theorem pj{ty:Ty}:∀(ps:List (Nat×Operand)) (l:List ty.den),(∀x∈ps,t.ev x.2=s.ev x.2/\∀id∈(s.ev x.2).ids,oK (t.bG id) (s.bG id))->gq ty t ps l=gq ty s ps l
 |[],_,_=>rfl
 | (i,x)::ps,l,h=>by
  obtain⟨h1,h2⟩:=h (i,x) (aG ..)
  simp only[gq]
  simp only at h1 h2
  rw[h1,kb _ _ h2]
  congr 2
  funext y
  rw[pj ps _ λz hz=>h z (aF _ hz)]
theorem nQ{ty:Ty}:∀(ps:List (Nat×Operand)) (l:List ty.den) (r:List ty.den×List Id),(gq ty s ps l).eval=some r->∀id∈r.2,∃x∈ps,id∈(s.ev x.2).ids
 |[],l,r,h,id,cP=>by
  obtain rfl:=al.1 h
  cases cP
 | (i,x)::ps,l,r,h,id,cP=>by
  simp only[gq]at h
  obtain⟨h1,h2⟩:=aw.1 h
  obtain⟨y,h3,h4⟩:=ak.1 h2
  obtain⟨r',h5,h6⟩:=ak.1 h4
  obtain rfl:=al.1 h6
  rcases bf.1 cP with cP | cP
  ·exact⟨(i,x),aG ..,mK _ _ cP⟩
  ·obtain⟨z,hz,wh⟩:=nQ ps _ r' h5 id cP
   exact⟨z,aF _ hz,wh⟩
theorem rA{fs:Array Field}:∀(ps:List (Nat×Operand)) (v:av),(∀x∈ps,t.ev x.2=s.ev x.2)->kq P fs t ps v=kq P fs s ps v
 |[],_,_=>rfl
 | (i,x)::ps,v,h=>by
  have h1:=h (i,x) (aG ..)
  simp only at h1
  simp only[kq,h1]
  have ih:∀v,kq P fs t ps v=kq P fs s ps v:=λv=>rA ps v λz hz=>h z (aF _ hz)
  simp only[ih]
theorem uJ:∀(l:List Operand),(∀x∈l,t.ev x=s.ev x)->ln t l=ln s l
 |[],_=>rfl
 |x::l,h=>by
  simp only[ln]
  rw[h x (aG ..),uJ l λy hy=>h y (aF _ hy)]
theorem xi{ty:Ty}{X:TypeId}{x:av}(h:∀id∈x.ids,oK (t.bG id) (s.bG id)):sk P t ty X x=sk P s ty X x:=by
 unfold sk
 split
 ·rfl
 ·simp only[AS.FD,kb _ _ h]
theorem iM{v:av}(h:∀t,jc (fk Γ ops s o) s t->(kA P Γ bo o t).eval=some (t.put o.dst v)):uE P Γ bo ops o s (s.put o.dst v):=
 ⟨⟨v,λ_=>none,[]⟩,App.sO _ _ _,⟨λ_ _ h=>by simp at h,λ_ h=>by simp at h⟩,λt ht=>⟨_,h t ht,App.sO _ _ _⟩⟩
theorem jU{F:AS->Out av}(ho:∀t,kA P Γ bo o t=(F t).bind λv=> .ok (t.put o.dst v))(hF:∀t,jc (fk Γ ops s o) s t->F t=F s){s':AS}(he:(kA P Γ bo o s).eval=some s'):uE P Γ bo ops o s s':=by
 rw[ho]at he
 obtain⟨v,h1,h2⟩:=ak.1 he
 obtain rfl:=al.1 h2
 refine iM λt ht=> ?_
 rw[ho,hF t ht,ak]
 exact⟨v,h1,rfl⟩
theorem xS{v:av}{ids:List Id}(hi:∀id∈ids,id∈(fk Γ ops s o).rs)(h:∀t,jc (fk Γ ops s o) s t->(kA P Γ bo o t).eval=some ((t.aQ ids).put o.dst v)):uE P Γ bo ops o s ((s.aQ ids).put o.dst v):=
 ⟨⟨v,λ_=>none,ids⟩,App.we _ _ _ _,⟨λ_ _ h=>by simp at h,hi⟩,λt ht=>⟨_,h t ht,App.we _ _ _ _⟩⟩
theorem pb{v:av}{ids:List Id}{q:Nat}{es:List de}(hd:o.dst=some q)(hv:s.di q=true)(hi:∀id∈ids,id∈(fk Γ ops s o).rs)
  (h:∀t,jc (fk Γ ops s o) s t->t.di q=true->(kA P Γ bo o t).eval=some (((t.aQ ids).born q es).put o.dst v)):uE P Γ bo ops o s (((s.aQ ids).born q es).put o.dst v):=by
 refine⟨⟨v,vU q es,ids⟩,by rw[hd];exact App.Gh hv _ _ _,⟨λid e h=> .inr ?_,hi⟩,λt ht=> ?_⟩
 ·cases id with
  |dd _=>simp[vU]at h
  |new i j=>
   simp only[vU]at h
   split at h
   ·rename_i hq;exact⟨q,j,hd,by rw[hq]⟩
   ·cases h
 ·have hv':t.di q=true:=by rw[ht.di q hd];exact hv
  exact⟨_,h t ht hv',by rw[hd];exact App.Gh hv' _ _ _⟩
theorem qQ{v:av}{id:Id}{e0 e:de}(hs:s.bG id=some e0)(hw:id∈(fk Γ ops s o).ws)(h:∀t,jc (fk Γ ops s o) s t->t.bG id=s.bG id->(kA P Γ bo o t).eval=some ((t.aH id e).put o.dst v)):
  uE P Γ bo ops o s ((s.aH id e).put o.dst v):=by
 refine⟨⟨v,λi=>if i=id then some e else none,[]⟩,App.JK hs _ _ _,⟨λi e' h=> .inl ?_,λ_ h=>by simp at h⟩,λt ht=> ?_⟩
 ·simp only at h
  split at h
  ·rename_i hi;subst hi;exact⟨hw,by rw[hs];simp⟩
  ·cases h
 ·have:=ht.ws id hw
  exact⟨_,h t ht this,App.JK (this.trans hs) _ _ _⟩
end
end Go.Ab
namespace Go.Ab
section
variable {P:Program} {Γ:nG} {bo:List Nat} {ops:Array Oper} {o:Oper} {s t:AS}
theorem Ci{T:TypeId}{x v:av}{s':AS}(h:(sB P s T x v).eval=some s'):
  ∃id e0 e,x.ids=[id]/\s.bG id=some e0/\s'=s.aH id e/\∀t:AS,t.bG id=s.bG id->(sB P t T x v).eval=some (t.aH id e):=by
 unfold sB at h
 split at h
 ·rename_i id ver p n
  cases iH:s.obj id with
  |none=>rw[iH]at h;simp only[ai]at h
  |some r=>
   obtain⟨ve,fr,c⟩:=r
   rw[iH]at h
   obtain⟨h1,h2⟩:=aw.1 h
   obtain⟨r,h3,h4⟩:=ak.1 h2
   obtain⟨h5,h6⟩:=aw.1 h4
   obtain⟨h7,h8⟩:=bt.1 h6
   obtain⟨c',h9,OC⟩:=ak.1 h8
   obtain rfl:=al.1 OC
   refine⟨id,_,_,rfl,dw iH,rfl,λt ht=> ?_⟩
   have hob':t.obj id=some (ve,fr,c):=by simp only[AS.obj,ht];exact iH
   unfold sB
   simp only[hob']
   exact aw.2 ⟨h1,ak.2 ⟨r,h3,aw.2 ⟨h5,bt.2 ⟨h7,ak.2 ⟨c',h9,al.2 rfl⟩⟩⟩⟩⟩
 ·simp only[ai]at h
theorem EY{c:Call}{x y:Operand}{T X:TypeId}(cQ:o.op= .call c)(hc:c.callee= .builtin .copy)(ha:c.args.toList=[x,y])(ht:c.argTypes.toList=[T,X]){s':AS}
  (he:(yo P s o.dst T X (s.ev x) (s.ev y)).eval=some s'):uE P Γ bo ops o s s':=by
 have AZ:∀t:AS,kA P Γ bo o t=yo P t o.dst T X (t.ev x) (t.ev y):=λt=>by
  unfold kA
  rw[cQ]
  simp only[hc,ha,ht]
 have pZ:∀z,z=x\/z=y->z∈o.op.operands.toList:=λz hz=>by
  rw[cQ]
  simp only[Op.operands,Call.operands,hc,aS,bC,ha]
  simpa using hz
 have hx:∀t,jc (fk Γ ops s o) s t->t.ev x=s.ev x:=λt h=>h.ev (pZ x (.inl rfl))
 have hy:∀t,jc (fk Γ ops s o) s t->t.ev y=s.ev y:=λt h=>h.ev (pZ y (.inr rfl))
 have hm:∀t,jc (fk Γ ops s o) s t->∀ty,sk P t ty X (s.ev y)=sk P s ty X (s.ev y):=λt h ty=>xi λid cP=>h.Cv (Bd cQ rfl) (pZ y (.inr rfl)) cP
 unfold yo at he
 split at he
 ·rename_i e t b id ver len s9 Ex
  obtain⟨m,h1,he⟩:=ak.1 he
  split at he
  ·rename_i ve n t' l iH
   obtain⟨h2,uR⟩:=aw.1 he
   obtain⟨l',h3,zU⟩:=ak.1 uR
   obtain⟨h4,NU⟩:=bt.1 zU
   obtain rfl:=al.1 NU
   have hw:id∈(fk Γ ops s o).ws:=by
    show id∈writes Γ s o
    unfold writes
    rw[cQ]
    simp only[hc,ha,Ex]
    simp[av.ids]
   refine qQ (dw iH) hw λt ht Hq=> ?_
   rw[AZ t,hx t ht,hy t ht]
   have hob':t.obj id=some (ve,false,.d (.arr n t') l):=by simp only[AS.obj,Hq];exact iH
   unfold yo
   simp only[s9,Ex]
   refine ak.2 ⟨m,by rw[hm t ht];exact h1,?_⟩
   simp only[hob']
   exact aw.2 ⟨h2,ak.2 ⟨l',h3,bt.2 ⟨h4,al.2 rfl⟩⟩⟩
  ·exact(ai.1 he).elim
 ·exact(ai.1 he).elim
theorem BD{c:Call}{x y:Operand}{T X:TypeId}(cQ:o.op= .call c)(hc:c.callee= .builtin .append)(ha:c.args.toList=[x,y])(ht:c.argTypes.toList=[T,X])(ga:∀k n,s.ev x= .db->s.ev y= .d (.int k) n->False){s':AS}
  (he:(oa P s (Hu bo o.dst) (Fl bo o.dst) o.dst T X (s.ev x) (s.ev y)).eval=some s'):uE P Γ bo ops o s s':=by
 have AZ:∀t:AS,t.ev x=s.ev x->t.ev y=s.ev y->kA P Γ bo o t=oa P t (Hu bo o.dst) (Fl bo o.dst) o.dst T X (t.ev x) (t.ev y):=λt e1 e2=>by
  unfold kA
  rw[cQ]
  simp only[hc,ha,ht]
  split
  ·rename_i k n hx hy
   rw[e1]at hx
   rw[e2]at hy
   exact(ga k n hx hy).elim
  ·rfl
 have pZ:∀z,z=x\/z=y->z∈o.op.operands.toList:=λz hz=>by
  rw[cQ]
  simp only[Op.operands,Call.operands,hc,aS,bC,ha]
  simpa using hz
 have hx:∀t,jc (fk Γ ops s o) s t->t.ev x=s.ev x:=λt h=>h.ev (pZ x (.inl rfl))
 have hy:∀t,jc (fk Γ ops s o) s t->t.ev y=s.ev y:=λt h=>h.ev (pZ y (.inr rfl))
 have hm:∀t,jc (fk Γ ops s o) s t->∀ty,sk P t ty X (s.ev y)=sk P s ty X (s.ev y):=λt h ty=>xi λid cP=>h.Cv (Bd cQ rfl) (pZ y (.inr rfl)) cP
 unfold oa at he
 split at he
 ·rename_i e ty b q s9 hd
  obtain⟨m,h1,h2⟩:=ak.1 he
  split at h2
  ·rename_i O9
   cases NT:Fl bo o.dst with
   |true=>
    rw[NT]at h2
    simp only at h2
    obtain⟨h5,h6⟩:=bt.1 h2
    obtain rfl:=al.1 h6
    refine iM λt ht=> ?_
    rw[AZ t (hx t ht) (hy t ht),hx t ht,hy t ht]
    unfold oa
    simp only[hd]at NT s9 ⊢
    simp only[s9,O9,NT]
    refine ak.2 ⟨m,by rw[hm t ht];exact h1,?_⟩
    exact bt.2 ⟨h5,al.2 rfl⟩
   |false=>
   rw[NT]at h2
   simp only at h2
   obtain⟨h3,h4⟩:=aw.1 h2
   obtain⟨h5,h6⟩:=bt.1 h4
   obtain rfl:=al.1 h6
   refine pb (ids:=[]) hd h3 (λ_ h=>by cases h) λt ht hv=> ?_
   rw[AZ t (hx t ht) (hy t ht),hx t ht,hy t ht]
   unfold oa
   simp only[hd]at NT s9 ⊢
   simp only[s9,O9,NT]
   refine ak.2 ⟨m,by rw[hm t ht];exact h1,?_⟩
   exact aw.2 ⟨hv,bt.2 ⟨h5,al.2 rfl⟩⟩
  ·rename_i id ver len O9
   split at h2
   ·rename_i v fr e' t' l iH
    obtain⟨h3,h4⟩:=aw.1 h2
    obtain⟨l',h5,h6⟩:=ak.1 h4
    obtain⟨h7,h8⟩:=bt.1 h6
    obtain⟨h9,OC⟩:=bt.1 h8
    obtain⟨SH,OD⟩:=bt.1 OC
    obtain rfl:=al.1 OD
    have hw:id∈(fk Γ ops s o).ws:=by
     show id∈writes Γ s o
     unfold writes
     rw[cQ]
     simp only[hc,ha,O9]
     simp[av.ids]
    refine qQ (dw iH) hw λt ht Hq=> ?_
    rw[AZ t (hx t ht) (hy t ht),hx t ht,hy t ht]
    have hob':t.obj id=some (v,fr,.vec e' t' l):=by simp only[AS.obj,Hq];exact iH
    unfold oa
    simp only[hd]at s9 ⊢
    simp only[s9,O9]
    refine ak.2 ⟨m,by rw[hm t ht];exact h1,?_⟩
    simp only[hob']
    exact aw.2 ⟨h3,ak.2 ⟨l',h5,bt.2 ⟨h7,bt.2 ⟨h9,bt.2 ⟨SH,al.2 rfl⟩⟩⟩⟩⟩
   ·simp only[ai]at h2
  ·simp only[ai]at h2
 ·simp only[ai]at he
theorem wD:∀(n:Nat) (todo acc:List Id),∀id∈acc,id∈s.reach n todo acc
 | 0,_,_,id,h=>h
 |_+1,[],_,id,h=>h
 |n+1,x::todo,acc,id,h=>by
  rw[AS.reach]
  split
  ·exact wD n todo acc id h
  ·exact wD n _ _ id (bf.2 (.inl h))
theorem nu:∀(n:Nat) (todo acc:List Id),(∀id∈s.reach n todo acc,((t.bG id).getD .dead).ids=((s.bG id).getD .dead).ids)->t.reach n todo acc=s.reach n todo acc
 | 0,_,_,_=>rfl
 |_+1,[],_,_=>rfl
 |n+1,x::todo,acc,h=>by
  rw[AS.reach]at h
  rw[AS.reach,AS.reach]
  split
  ·rename_i hc
   rw[if_pos hc]at h
   exact nu n todo acc h
  ·rename_i hc
   rw[if_neg hc]at h
   have hx:=h x (wD n _ _ x (bf.2 (.inr (bM.2 rfl))))
   rw[hx]
   exact nu n _ _ h
theorem KE(e:Option de):((e.map de.E8).getD .dead).ids=(e.getD .dead).ids:=by
 cases e with
 |none=>rfl
 |some x=>cases x <;> rfl
theorem xG(ids:List Id)(n:Nat)(todo acc:List Id):(s.aQ ids).reach n todo acc=s.reach n todo acc:=by
 refine nu n todo acc λid _=> ?_
 rw[eo]
 split
 ·exact KE _
 ·rfl
theorem tP:∀(ps:List (Option Ty)) (vs:List av),(∀v∈vs,∀id∈v.ids,oK (t.bG id) (s.bG id))->t.conv ps vs=s.conv ps vs
 |[],[],_=>rfl
 |[],_::_,_=>rfl
 |some _::_,[],_=>rfl
 |none::_,[],_=>rfl
 |some ty::ps,v::vs,h=>by
  simp only[AS.conv]
  rw[kb v ty (h v (aG ..)),tP ps vs λx hx=>h x (aF _ hx)]
 |none::ps,v::vs,h=>by
  simp only[AS.conv]
  rw[tP ps vs λx hx=>h x (aF _ hx)]
theorem tQ:∀(ps:List (Option Ty)) (vs:List av) (r:List av×List Id),(s.conv ps vs).eval=some r->r.1.flatMap av.ids=mV ps vs/\∀id∈r.2,∃v∈vs,id∈v.ids
 |[],[],r,h=>by
  simp only[AS.conv,al]at h
  subst h
  exact⟨rfl,λ_ h=>by cases h⟩
 |some ty::ps,v::vs,r,h=>by
  simp only[AS.conv]at h
  obtain⟨x,h1,h2⟩:=ak.1 h
  obtain⟨r',h3,h4⟩:=ak.1 h2
  obtain rfl:=al.1 h4
  obtain⟨i1,i2⟩:=tQ ps vs r' h3
  refine⟨by simp[mV,i1,av.ids],λid cP=> ?_⟩
  rcases bf.1 cP with cP | cP
  ·exact⟨v,aG ..,mK v id cP⟩
  ·obtain⟨u,hu,Cs⟩:=i2 id cP
   exact⟨u,aF _ hu,Cs⟩
 |none::ps,v::vs,r,h=>by
  simp only[AS.conv]at h
  obtain⟨r',h3,h4⟩:=ak.1 h
  obtain rfl:=al.1 h4
  obtain⟨i1,i2⟩:=tQ ps vs r' h3
  refine⟨by simp[mV,i1],λid cP=> ?_⟩
  obtain⟨u,hu,Cs⟩:=i2 id cP
  exact⟨u,aF _ hu,Cs⟩
 |[],_::_,_,h=>by simp only[AS.conv,ai]at h
 |some _::_,[],_,h=>by simp only[AS.conv,ai]at h
 |none::_,[],_,h=>by simp only[AS.conv,ai]at h
theorem Dz:∀(c:av),∀v∈c.list,∀id∈v.ids,id∈c.ids
 | .cons a b,v,hv,id,cP=>by
  simp only[av.list,cv]at hv
  simp only[av.ids,bf]
  rcases hv with rfl | hv
  ·exact .inl cP
  ·exact .inr (Dz b v hv id cP)
 | .sb _,_,h,_,_ | .undef,_,h,_,_ | .gone,_,h,_,_ | .db,_,h,_,_ | .lP,_,h,_,_ | .nm,_,h,_,_ | .qe,_,h,_,_ | .d _ _,_,h,_,_ | .ptr ..,_,h,_,_ | .eO ..,_,h,_,_
 | .fn ..,_,h,_,_ | .pr ..,_,h,_,_ | .nil,_,h,_,_ | .vec ..,_,h,_,_ | .bx ..,_,h,_,_ | .lF ..,_,h,_,_ | .mp ..,_,h,_,_ | .lR ..,_,h,_,_ | .yl ..,_,h,_,_ | .nH ..,_,h,_,_ | .cD ..,_,h,_,_=>by simp[av.list]at h
theorem xo{ids:List Id}(h:∀id∈ids,t.bG id=s.bG id):t.nA ids=s.nA ids:=by
 funext id ver
 unfold AS.nA
 cases hi:idxOf id ids with
 |none=>rfl
 |some k=>
  have:t.obj id=s.obj id:=by simp only[AS.obj,h id (cE (lz hi))]
  rw[this]
theorem xr{id:Id}(h:t.bG id=s.bG id):t.pT id=s.pT id:=by simp only[AS.pT,AS.obj,h]
theorem vm{ids:List Id}(h:∀id∈ids,t.bG id=s.bG id)(q:Nat):t.mJ ids q=s.mJ ids q:=by
 funext id ver
 cases id with
 |new i j=>rfl
 |dd k=>
  simp only[AS.mJ]
  cases hk:ids[k]? with
  |none=>rfl
  |some id=>simp only[xr (h id (cE hk))]
theorem uL{ids:List Id}(h:∀id∈ids,t.bG id=s.bG id)(q b:Nat):t.lq ids q b=s.lq ids q b:=by
 funext e
 cases e <;> simp only[AS.lq,vm h]
theorem CZ{ids:List Id}(h:∀id∈ids,t.bG id=s.bG id){id:Id}(cP:id∈ids):t.jz ids id=s.jz ids id:=by
 unfold AS.jz
 rw[h id cP,xo h]
def jN(s:AS)(ids:List Id)(d:Option Tmp)(G:iO):AS:=
 (AS.gB s ids (d.getD 0) (s.made ids (d.getD 0) G.news) ids G.bT).put d (G.val.fS (s.mJ ids (d.getD 0)))
theorem AD{ids:List Id}{d:Option Tmp}{G:iO}{s':AS}:(s.back ids d G).eval=some s'↔(G.bT.length=ids.length/\(G.news=[]\/∃q,d=some q/\s.di q=true))/\s'=jN s ids d G:=by
 unfold AS.back
 cases d with
 |none=>
  rw[aw,al]
  simp only[ag,beq_iff_eq,List.isEmpty_iff,jN,AS.put,Option.getD_none]
  constructor
  ·rintro⟨⟨h1,h2⟩,rfl⟩
   rw[h2];exact⟨⟨h1,.inl rfl⟩,rfl⟩
  ·rintro⟨⟨h1,h2⟩,rfl⟩
   rcases h2 with h2 | ⟨q,hq,_⟩
   ·rw[h2];exact⟨⟨h1,rfl⟩,rfl⟩
   ·cases hq
 |some q=>
  rw[aw,al]
  simp only[ag,beq_iff_eq,fb,List.isEmpty_iff,jN,dR]
  constructor
  ·rintro⟨⟨h1,h2⟩,rfl⟩
   exact⟨⟨h1,h2.imp id λh=>⟨q,rfl,h⟩⟩,rfl⟩
  ·rintro⟨⟨h1,h2⟩,rfl⟩
   refine⟨⟨h1,h2.imp id λ⟨q',hq,h⟩=> ?_⟩,rfl⟩
   obtain rfl:q=q':=by simpa using hq
   exact h
theorem w9(s0:AS)(all:List Id)(q:Nat):∀(ids:List Id) (es:List de) (s:AS),(AS.gB s0 all q s ids es).news.length=s.news.length
 |[],_,_=>by simp[AS.gB]
 |_::_,[],_=>by simp[AS.gB]
 |id::ids,e::es,s=>by rw[AS.gB,w9 s0 all q ids es,ua]
theorem Ji(s:AS)(ids:List Id)(q:Nat)(es:List de):(s.made ids q es).news.length=s.news.length:=by
 cases es <;> simp[AS.made,AS.born]
def sV(ids:List Id)(d:Option Tmp)(G:iO)(id:Id):Prop:=id∈ids\/(G.news≠ []/\∃q j,d=some q/\id= .new q j)
theorem yf{ids:List Id}{d:Option Tmp}{G:iO}(hn:ids.Nodup)(hp:∀id∈ids,s.bG id≠none)(hl:G.bT.length=ids.length)(hv:G.news=[]\/∃q,d=some q/\s.di q=true):
  (∀id,¬sV ids d G id->(jN s ids d G).bG id=s.bG id)/\
  (∀(k:Nat) (id:Id) (e:de),ids[k]? =some id->G.bT[k]? =some e->(jN s ids d G).bG id=some (s.lq ids (d.getD 0) (s.pT id) e))/\
  (∀q j,G.news≠ []->d=some q->(jN s ids d G).bG (.new q j)=(G.news[j]?).map (s.lq ids q 0))/\
  (∀q j,G.news≠ []->d=some q->s.bG (.new q j)=none):=by
 have hv':G.news=[]\/s.di (d.getD 0)=true:=by
  rcases hv with h | ⟨q,rfl,h⟩
  ·exact .inl h
  ·exact .inr h
 obtain⟨m1,m2⟩:=C0 s ids (d.getD 0) G.news hv'
 have LG:∀q j,G.news≠ []->d=some q->s.bG (.new q j)=none:=λq j h1 h2=>by
  rcases hv' with h | h
  ·exact absurd h h1
  ·subst h2;exact(px.1 h).2 j
 have tc:∀id,s.bG id≠none->G.news=[]\/∀j,id≠ .new (d.getD 0) j:=λid cP=>by
  rcases hv with h | ⟨q,rfl,h⟩
  ·exact .inl h
  ·exact .inr λj e=>cP (by rw[e];exact(px.1 h).2 j)
 obtain⟨n1,n2⟩:=rW s ids (d.getD 0) ids G.bT (s.made ids (d.getD 0) G.news) hn hl (λid cP=>by rw[m1 id (tc id (hp id cP))];exact hp id cP)
 refine⟨λid cP=> ?_,λk id e h1 h2=> ?_,λq j h1 h2=> ?_,LG⟩
 ·unfold sV at cP
  simp only[not_or]at cP
  rw[jN,sK,n1 id cP.1]
  refine m1 id ?_
  by_cases ga:G.news=[]
  ·exact .inl ga
  ·right
   intro j e
   rcases hv with h | ⟨q,hq,_⟩
   ·exact ga h
   ·exact cP.2 ⟨ga,q,j,hq,by rw[e,hq];rfl⟩
 ·rw[jN,sK,n2 k id e h1 h2]
 ·subst h2
  have Rb:Id.new q j ∉ ids:=λcP=>hp _ cP (LG q j h1 rfl)
  rw[jN,sK,n1 _ Rb]
  exact m2 h1 j
open Classical in
theorem ES{c:Call}{F:Operand}{f:FuncId}{caps:av}{en:Entry}(cQ:o.op= .call c)(hc:c.callee= .value F)(hF:s.ev F= .fn f caps)(hΓ:Γ f (c.args.toList.map s.ev++caps.list)=some en)(iC:Nat.blt f yB=true){s':AS}
  (he:(s.call en o.dst (c.args.toList.map s.ev++caps.list)).eval=some s'):uE P Γ bo ops o s s':=by
 have pZ:∀z,z=F\/z∈c.args.toList->z∈o.op.operands.toList:=λz hz=>by
  rw[cQ]
  simp only[Op.operands,Call.operands,hc,bC,bf]
  rcases hz with rfl | hz
  ·exact .inl (by simp)
  ·exact .inr hz
 have I4:∀v∈c.args.toList.map s.ev++caps.list,∀id∈v.ids,id∈(fk Γ ops s o).rs:=λv hv id cP=>by
  rcases bf.1 hv with hv | hv
  ·obtain⟨x,hx,rfl⟩:=cX.1 hv
   exact tY (Bd cQ rfl) (pZ x (.inr hx)) cP
  ·refine tY (Bd cQ rfl) (pZ F (.inl rfl)) ?_
   rw[hF]
   exact Dz caps v hv id cP
 generalize uT:c.args.toList.map s.ev++caps.list=vs at he I4 hΓ
 have J4:(fk Γ ops s o).ws=s.reach 64 (mV en.params vs) []:=by
  show writes Γ s o=_
  unfold writes
  rw[cQ]
  simp only[hc,hF,uT,hΓ]
 have AZ:∀t,jc (fk Γ ops s o) s t->kA P Γ bo o t=t.call en o.dst vs:=λt ht=>by
  unfold kA
  rw[cQ]
  have h1:t.ev F= .fn f caps:=by rw[ht.ev (pZ F (.inl rfl)),hF]
  have h2:c.args.toList.map t.ev=c.args.toList.map s.ev:=fB λx hx=>ht.ev (pZ x (.inr hx))
  obtain⟨cal,args,tys⟩:=c
  simp only at hc uT h2
  subst hc
  simp only[h1,h2,uT,hΓ,iC,Out.guard]
 unfold AS.call at he
 obtain⟨r,h1,h2⟩:=ak.1 he
 obtain⟨M6,Fg⟩:=tQ _ _ r h1
 have hlends:∀t:AS,(t.aQ r.2).GB r.1=t.reach 64 (mV en.params vs) []:=λt=>by
  unfold AS.GB
  rw[xG,M6]
 rw[hlends]at h2
 generalize hW:s.reach 64 (mV en.params vs) []=W at h2 J4
 have hWn:W.Nodup:=by rw[<-hW];exact nv s _ _ _ (by simp)
 unfold AS.enter at h2
 obtain⟨qO,h3⟩:=aw.1 h2
 obtain⟨x,hx,h4⟩:=nh.1 h3
 obtain⟨x0,Pq,h4⟩:=ak.1 h4
 have RB:=en.L7 _ _ Pq
 rw[RB]at h4 Pq
 obtain⟨⟨hl,hv⟩,rfl⟩:=AD.1 h4
 generalize hG:en.out (r.1.map (av.fS ((s.aQ r.2).nA W))) (W.map ((s.aQ r.2).jz W)) x=G at hl hv h4 ⊢
 have hp:∀id∈W,(s.aQ r.2).bG id≠none:=λid cP=>by
  have:=(ag _ _▸cM.1 qO id cP).1
  obtain⟨⟨v,fr,c⟩,hr⟩:=bF.1 this
  rw[dw hr];simp
 obtain⟨b1,b2,b3,b4⟩:=yf (s:=s.aQ r.2) (d:=o.dst) hWn hp hl hv
 have hfzent:∀(u:AS) id,u.bG id=none↔(u.aQ r.2).bG id=none:=λu id=>by
  rw[eo];split <;> simp
 let E:NL:=⟨G.val.fS ((s.aQ r.2).mJ W (o.dst.getD 0)),λid=>if sV W o.dst G id then(jN (s.aQ r.2) W o.dst G).bG id else none,r.2⟩
 have hslots:∀u:AS,(jN (u.aQ r.2) W o.dst G).bR=(u.put o.dst (G.val.fS ((u.aQ r.2).mJ W (o.dst.getD 0)))).bR:=λu=>by
  unfold jN
  cases o.dst <;> simp[AS.put,qi,zB,jF]
 have hlen:∀u:AS,(jN (u.aQ r.2) W o.dst G).news.length=u.news.length:=λu=>by
  unfold jN
  cases o.dst <;> simp[AS.put,w9,Ji,kP]
 refine⟨E,⟨hslots s,hlen s,λid=> ?_⟩,⟨λid e xC=> ?_,λid cP=> ?_⟩,λt ht=> ?_⟩
 ·by_cases zV:sV W o.dst G id
  ·have xC:E.up id=(jN (s.aQ r.2) W o.dst G).bG id:=if_pos zV
   rw[xC]
   cases hb:(jN (s.aQ r.2) W o.dst G).bG id with
   |some e=>rfl
   |none=>
    rcases zV with cP | ⟨ga,q,j,hq,rfl⟩
    ·obtain⟨k,hk⟩:=hZ.1 cP
     have iC:k < G.bT.length:=by rw[hl];exact(c6.1 hk).1
     rw[b2 k id _ hk (bS iC)]at hb
     cases hb
    ·have:=(hfzent s _).2 (b4 q j ga hq)
     simp[this]
  ·have xC:E.up id=none:=if_neg zV
   rw[xC,b1 id zV,eo]
 ·by_cases zV:sV W o.dst G id
  ·rcases zV with cP | ⟨_,q,j,hq,rfl⟩
   ·left
    refine⟨by rw[J4];exact cP,λh=>hp id cP ((hfzent s id).1 h)⟩
   ·exact .inr ⟨q,j,hq,rfl⟩
  ·have:E.up id=none:=if_neg zV
   rw[this]at xC;cases xC
 ·obtain⟨v,hv,cP⟩:=Fg id cP
  exact I4 v hv id cP
 ·have OP:t.conv en.params vs=s.conv en.params vs:=tP _ _ λv hv id cP=>ht.rs id (I4 v hv id cP)
  have uC:∀id∈W,t.bG id=s.bG id:=λid cP=>ht.ws id (by rw[J4];exact cP)
  have Di:∀id∈W,(t.aQ r.2).bG id=(s.aQ r.2).bG id:=λid cP=>by
   rw[eo,eo,uC id cP]
  have hWt:t.reach 64 (mV en.params vs) []=W:=by
   rw[<-hW]
   refine nu _ _ _ λid cP=> ?_
   rw[uC id (by rw[<-hW];exact cP)]
  have Pp:G.news=[]\/∃q,o.dst=some q/\(t.aQ r.2).di q=true:=hv.imp id λ⟨q,hq,h⟩=>⟨q,hq,by
   rw[mM]at h ⊢
   rw[ht.di q hq];exact h⟩
  have N1:∀id∈W,(t.aQ r.2).bG id≠none:=λid cP=>by rw[Di id cP];exact hp id cP
  obtain⟨d1,d2,d3,d4⟩:=yf (s:=t.aQ r.2) (d:=o.dst) hWn N1 hl Pp
  refine⟨jN (t.aQ r.2) W o.dst G,?_,⟨?_,hlen t,λid=> ?_⟩⟩
  ·rw[AZ t ht]
   unfold AS.call
   rw[OP]
   refine ak.2 ⟨r,h1,?_⟩
   rw[hlends,hWt]
   unfold AS.enter
   have hA:(t.aQ r.2).nA W=(s.aQ r.2).nA W:=xo Di
   have hO:W.map ((t.aQ r.2).jz W)=W.map ((s.aQ r.2).jz W):=fB λid cP=>CZ Di cP
   refine aw.2 ⟨?_,nh.2 ⟨x,?_,ak.2 ⟨x,Pq,?_⟩⟩⟩
   ·refine cM.2 λid cP=> ?_
    have:=cM.1 qO id cP
    simp only[AS.obj,AS.yW]at this ⊢
    rw[Di id cP]
    exact this
   ·rw[hA,hO,<-hx]
   ·rw[hA,hO,hG]
    exact AD.2 ⟨⟨hl,Pp⟩,rfl⟩
  ·rw[hslots t,vm Di]
  ·by_cases zV:sV W o.dst G id
   ·have xC:E.up id=(jN (s.aQ r.2) W o.dst G).bG id:=if_pos zV
    rw[xC]
    rcases zV with cP | ⟨ga,q,j,hq,rfl⟩
    ·obtain⟨k,hk⟩:=hZ.1 cP
     have iC:k < G.bT.length:=by rw[hl];exact(c6.1 hk).1
     rw[b2 k id _ hk (bS iC),d2 k id _ hk (bS iC),uL Di,xr (Di id cP)]
    ·rw[b3 q j ga hq,d3 q j ga hq,uL Di]
     cases hn:G.news[j]? with
     |some e=>rfl
     |none=>
      have:=(hfzent t _).2 (d4 q j ga hq)
      simp[this]
   ·have xC:E.up id=none:=if_neg zV
    rw[xC,d1 id zV,eo]
end
end Go.Ab
namespace Go.Ab
section
variable {P:Program} {Γ:nG} {bo:List Nat} {ops:Array Oper} {o:Oper} {s t:AS}
theorem Out.bind_assoc{α β γ:Type}(o:Out α)(f:α->Out β)(g:β->Out γ):(o.bind f).bind g=o.bind λa=>(f a).bind g:=by
 induction o with
 |ok a=>rfl
 |fail=>rfl
 |mn c r ih=>simp only[Out.bind,ih]
 |get x h ih=>simp only[Out.bind,ih]
 |br c x y ih1 ih2=>simp only[Out.bind,ih1,ih2]
theorem DU{parts:Array (Nat×Operand)}{x:Nat×Operand}(h:x∈parts.toList):x.2∈(parts.toList.map (·.2)).toArray.toList:=cX.2 ⟨x,h,rfl⟩
theorem G3{T:TypeId}{x:Operand}(cQ:o.op= .box T x){s':AS}(he:(CL P s (isObj bo o.dst) (Fl bo o.dst) o.dst T (s.ev x)).eval=some s'):uE P Γ bo ops o s s':=by
 have AZ:∀t,kA P Γ bo o t=CL P t (isObj bo o.dst) (Fl bo o.dst) o.dst T (t.ev x):=λt=>by unfold kA;rw[cQ]
 have hm:x∈o.op.operands.toList:=by rw[cQ];simp[Op.operands]
 unfold CL at he
 split at he
 ·rename_i q hd
  split at he
  ·rename_i ho
   obtain⟨h1,h2⟩:=aw.1 he
   obtain rfl:=al.1 h2
   simp only[ag]at h1
   refine pb (ids:=[]) hd h1.1 (λ_ h=>by cases h) λt ht hv=> ?_
   rw[AZ,ht.ev hm]
   unfold CL
   simp only[hd]at ho ⊢
   simp only[ho]
   exact aw.2 ⟨by simp[hv,h1.2],al.2 rfl⟩
  ·rename_i ho
   split at he
   ·rename_i ty Pj
    obtain⟨h1,h2⟩:=aw.1 he
    obtain⟨y,h3,h4⟩:=ak.1 h2
    obtain rfl:=al.1 h4
    refine xS (λid cP=>tY (Bd cQ rfl) hm (mK _ _ cP)) λt ht=> ?_
    rw[AZ,ht.ev hm]
    unfold CL
    simp only[hd]at ho ⊢
    simp only[ho,Pj]
    refine aw.2 ⟨h1,ak.2 ⟨y,?_,al.2 rfl⟩⟩
    rw[kb _ _ λid cP=>ht.Cv (Bd cQ rfl) hm cP];exact h3
   ·simp only[ai]at he
 ·simp only[ai]at he
theorem Eo{T:TypeId}{x:Operand}(cQ:o.op= .sliceToArrayPointer T x){s':AS}(he:(uu P s o.dst T (s.ev x)).eval=some s'):uE P Γ bo ops o s s':=by
 have AZ:∀t,kA P Γ bo o t=uu P t o.dst T (t.ev x):=λt=>by unfold kA;rw[cQ]
 have hm:x∈o.op.operands.toList:=by rw[cQ];simp[Op.operands]
 unfold uu at he
 split at he
 ·rename_i n e hT
  split at he
  ·rename_i ty Pj
   obtain⟨h1,h2⟩:=aw.1 he
   obtain⟨l,h3,h4⟩:=ak.1 h2
   obtain⟨h5,h6⟩:=bt.1 h4
   obtain rfl:=al.1 h6
   refine xS (λid cP=>tY (Bd cQ rfl) hm (mK _ _ cP)) λt ht=> ?_
   rw[AZ,ht.ev hm]
   unfold uu
   simp only[hT,Pj]
   refine aw.2 ⟨h1,ak.2 ⟨l,?_,bt.2 ⟨h5,al.2 rfl⟩⟩⟩
   rw[kb _ _ λid cP=>ht.Cv (Bd cQ rfl) hm cP];exact h3
  ·simp only[ai]at he
 ·simp only[ai]at he
theorem CN{T:TypeId}{parts:Array (Nat×Operand)}(cQ:o.op= .build T parts){s':AS}(he:(rR P s o.dst T parts.toList).eval=some s'):uE P Γ bo ops o s s':=by
 have AZ:∀t,kA P Γ bo o t=rR P t o.dst T parts.toList:=λt=>by unfold kA;rw[cQ]
 have hm:∀x∈parts.toList,x.2∈o.op.operands.toList:=λx hx=>by rw[cQ];exact DU hx
 unfold rR at he
 split at he
 ·rename_i fs hT
  split at he
  ·rename_i z hz
   obtain⟨h1,h2⟩:=aw.1 he
   obtain⟨v,h3,h4⟩:=ak.1 h2
   obtain rfl:=al.1 h4
   refine iM λt ht=> ?_
   rw[AZ]
   unfold rR
   simp only[hT,hz]
   refine aw.2 ⟨h1,ak.2 ⟨v,?_,al.2 rfl⟩⟩
   rw[rA _ _ λx hx=>ht.ev (hm x hx)];exact h3
  ·simp only[ai]at he
 ·rename_i n e hT
  split at he
  ·rename_i ty Pj
   obtain⟨h1,h2⟩:=aw.1 he
   obtain⟨r,h3,h4⟩:=ak.1 h2
   obtain rfl:=al.1 h4
   refine xS (λid cP=> ?_) λt ht=> ?_
   ·obtain⟨x,hx,hi⟩:=nQ _ _ _ h3 id cP
    exact tY (Bd cQ rfl) (hm x hx) hi
   ·rw[AZ]
    unfold rR
    simp only[hT,Pj]
    refine aw.2 ⟨h1,ak.2 ⟨r,?_,al.2 rfl⟩⟩
    rw[pj _ _ λx hx=>⟨ht.ev (hm x hx),λid cP=>ht.Cv (Bd cQ rfl) (hm x hx) cP⟩];exact h3
  ·simp only[ai]at he
 ·simp only[ai]at he
theorem vX{T:TypeId}{n:Nat}{parts:Array (Nat×Operand)}(cQ:o.op= .buildSlice T n parts){s':AS}(he:(jg P s (Hu bo o.dst) (isObj bo o.dst) o.dst T n parts.toList).eval=some s'):uE P Γ bo ops o s s':=by
 have AZ:∀t,kA P Γ bo o t=jg P t (Hu bo o.dst) (isObj bo o.dst) o.dst T n parts.toList:=λt=>by unfold kA;rw[cQ]
 have hm:∀x∈parts.toList,x.2∈o.op.operands.toList:=λx hx=>by rw[cQ];exact DU hx
 unfold jg at he
 split at he
 ·rename_i e ty b q s9 hd
  obtain⟨h1,h2⟩:=aw.1 he
  obtain⟨r,h3,h4⟩:=ak.1 h2
  have I1:∀id∈r.2,id∈(fk Γ ops s o).rs:=λid cP=>by
   obtain⟨x,hx,hi⟩:=nQ _ _ _ h3 id cP
   exact tY (Bd cQ rfl) (hm x hx) hi
  have OP:∀t,jc (fk Γ ops s o) s t->∀l,gq ty t parts.toList l=gq ty s parts.toList l:=λt ht l=>pj _ _ λx hx=>⟨ht.ev (hm x hx),λid cP=>ht.Cv (Bd cQ rfl) (hm x hx) cP⟩
  split at h4
  ·rename_i ho
   obtain⟨h5,h6⟩:=aw.1 h4
   obtain rfl:=al.1 h6
   refine pb hd h5 I1 λt ht hv=> ?_
   rw[AZ]
   unfold jg
   simp only[hd]at ho s9 ⊢
   simp only[s9,ho]
   refine aw.2 ⟨h1,ak.2 ⟨r,by rw[OP t ht];exact h3,aw.2 ⟨hv,al.2 rfl⟩⟩⟩
  ·rename_i ho
   obtain rfl:=al.1 h4
   refine xS I1 λt ht=> ?_
   rw[AZ]
   unfold jg
   simp only[hd]at ho s9 ⊢
   simp only[s9,ho]
   exact aw.2 ⟨h1,ak.2 ⟨r,by rw[OP t ht];exact h3,al.2 rfl⟩⟩
 ·simp only[ai]at he
theorem xE{T:TypeId}{x y:Operand}(cQ:o.op= .makeSlice T x y){len cap:Int}(hx:(asInt (s.ev x)).eval=some len)(hy:(asInt (s.ev y)).eval=some cap){s':AS}(he:(lE P s o.dst T len cap).eval=some s'):uE P Γ bo ops o s s':=by
 have AZ:∀t,kA P Γ bo o t=(asInt (t.ev x)).bind λl=>(asInt (t.ev y)).bind λc=>lE P t o.dst T l c:=λt=>by unfold kA;rw[cQ]
 have hm:∀z,z=x\/z=y->z∈o.op.operands.toList:=λz hz=>by rw[cQ];simpa[Op.operands]using hz
 unfold lE at he
 split at he
 ·rename_i e ty b q s9 hd
  obtain⟨h1,h2⟩:=aw.1 he
  obtain⟨h3,h4⟩:=bt.1 h2
  obtain rfl:=al.1 h4
  refine pb (ids:=[]) hd h1 (λ_ h=>by cases h) λt ht hv=> ?_
  rw[AZ,ht.ev (hm x (.inl rfl)),ht.ev (hm y (.inr rfl))]
  refine ak.2 ⟨len,hx,ak.2 ⟨cap,hy,?_⟩⟩
  unfold lE
  simp only[s9,hd]
  exact aw.2 ⟨hv,bt.2 ⟨h3,al.2 rfl⟩⟩
 ·simp only[ai]at he
theorem B6{id:Id}{ver:Nat}{kt vt:Ty}(h:oK (t.bG id) (s.bG id)):t.mc id ver kt vt=s.mc id ver kt vt:=by
 unfold AS.mc
 rcases vE h with⟨h1,h2⟩ | ⟨v,f,f',c,h1,h2⟩
 ·rw[h1,h2]
 ·rw[h1,h2]
  cases c <;> rfl
theorem Ae{T:TypeId}{m k:av}{ok:Bool}(h:∀id∈m.ids,oK (t.bG id) (s.bG id)):qR P t T m k ok=qR P s T m k ok:=by
 unfold qR
 split
 ·rename_i id ver hm
  rw[B6 (h id (by simp[av.ids]))]
 ·rfl
theorem A6{id:Id}{ver:Nat}{kt vt:Ty}{l:List (kt.den×vt.den)}(h:(s.mc id ver kt vt).eval=some l):∃e,s.bG id=some e:=by
 unfold AS.mc at h
 split at h
 ·rename_i v fr k' v' l' iH
  exact⟨_,dw iH⟩
 ·simp only[ai]at h
theorem xe{id:Id}{ver:Nat}{kt vt:Ty}(h:t.bG id=s.bG id):t.mc id ver kt vt=s.mc id ver kt vt:=by
 unfold AS.mc AS.obj
 rw[h]
theorem tD{id:Id}(h:t.bG id=s.bG id):t.ml id=s.ml id:=by
 unfold AS.ml AS.obj
 rw[h]
theorem Ah{T:TypeId}{m k v:av}{s':AS}(h:(qV P s T m k v).eval=some s'):
  ∃id e0 e,m.ids=[id]/\s.bG id=some e0/\s'=s.aH id e/\∀t:AS,t.bG id=s.bG id->(qV P t T m k v).eval=some (t.aH id e):=by
 unfold qV at h
 split at h
 ·rename_i K V kt vt id ver hm
  obtain⟨l,h1,h⟩:=ak.1 h
  obtain⟨kx,h2,h⟩:=ak.1 h
  obtain⟨vx,h3,h⟩:=ak.1 h
  obtain⟨hu,h⟩:=aw.1 h
  obtain rfl:=al.1 h
  obtain⟨e0,Cr⟩:=A6 h1
  refine⟨id,e0,_,rfl,Cr,rfl,λt ht=> ?_⟩
  unfold qV
  simp only[hm]
  exact ak.2 ⟨l,by rw[xe ht];exact h1,ak.2 ⟨kx,h2,ak.2 ⟨vx,h3,aw.2 ⟨by rw[tD ht];exact hu,al.2 rfl⟩⟩⟩⟩
 ·simp only[ai]at h
theorem Ag{T:TypeId}{m k:av}{s':AS}(h:(qU P s T m k).eval=some s'):
  ∃id e0 e,m.ids=[id]/\s.bG id=some e0/\s'=s.aH id e/\∀t:AS,t.bG id=s.bG id->(qU P t T m k).eval=some (t.aH id e):=by
 unfold qU at h
 split at h
 ·rename_i K V kt vt id ver hm
  obtain⟨l,h1,h⟩:=ak.1 h
  obtain⟨kx,h2,h⟩:=ak.1 h
  obtain⟨hu,h⟩:=aw.1 h
  obtain rfl:=al.1 h
  obtain⟨e0,Cr⟩:=A6 h1
  refine⟨id,e0,_,rfl,Cr,rfl,λt ht=> ?_⟩
  unfold qU
  simp only[hm]
  exact ak.2 ⟨l,by rw[xe ht];exact h1,ak.2 ⟨kx,h2,aw.2 ⟨by rw[tD ht];exact hu,al.2 rfl⟩⟩⟩
 ·simp only[ai]at h
theorem AA{s':AS}(he:(kA P Γ bo o s).eval=some s'):uE P Γ bo ops o s s':=by
 have Cr:=he
 have one:∀x,o.op.operands= #[x]->∀t,jc (fk Γ ops s o) s t->t.ev x=s.ev x/\(A9 o.op=false->∀id∈(s.ev x).ids,oK (t.bG id) (s.bG id)):=λx hx t ht=>
  have hm:x∈o.op.operands.toList:=by rw[hx];simp
  ⟨ht.ev hm,λhn _ cP=>ht.Cv hn hm cP⟩
 unfold kA at he
 split at he
 ·rename_i x cQ
  obtain rfl:=al.1 he
  refine iM λt ht=> ?_
  unfold kA
  rw[cQ]
  simp only
  rw[(one x (by rw[cQ];rfl) t ht).1];rfl
 ·rename_i x cQ
  obtain rfl:=al.1 he
  refine iM λt ht=> ?_
  unfold kA
  rw[cQ]
  simp only
  rw[(one x (by rw[cQ];rfl) t ht).1];rfl
 ·rename_i c x y cQ
  refine jU (F:=λt=>GK (t.ev c) (t.ev x) (t.ev y)) (λt=>by unfold kA;rw[cQ]) (λt ht=> ?_) Cr
  rw[ht.ev (by rw[cQ];simp[Op.operands]),ht.ev (by rw[cQ];simp[Op.operands]),ht.ev (by rw[cQ];simp[Op.operands])]
 ·rename_i T cQ
  split at he
  ·rename_i z q hz hq
   obtain⟨h1,h2⟩:=aw.1 he
   obtain rfl:=al.1 h2
   simp only[ag]at h1
   refine pb (ids:=[]) hq h1.1 (λ_ h=>by cases h) λt ht hv=> ?_
   unfold kA
   rw[cQ]
   simp only[hz,hq]
   exact aw.2 ⟨by simp[hv,h1.2],al.2 rfl⟩
  ·exact(ai.1 he).elim
 ·rename_i T x cQ
  exact G3 cQ he
 ·rename_i T parts cQ
  exact CN cQ he
 ·rename_i T n parts cQ
  exact vX cQ he
 ·rename_i T x cQ
  refine jU (F:=λt=>uZ P t T (t.ev x)) (λt=>by unfold kA;rw[cQ]) (λt ht=> ?_) Cr
  obtain⟨h1,h2⟩:=one x (by rw[cQ];rfl) t ht
  rw[h1,DA (h2 (Bd cQ rfl))]
 ·rename_i T x v cQ
  obtain⟨s1,h1,h2⟩:=ak.1 he
  obtain rfl:=al.1 h2
  obtain⟨id,e0,e,cP,hs,rfl,hl⟩:=Ci h1
  refine qQ hs ?_ λt ht Hq=> ?_
  ·show id∈writes Γ s o
   unfold writes
   rw[cQ]
   simp only[cP,bM]
  ·unfold kA
   rw[cQ]
   simp only
   rw[ht.ev (x:=x) (by rw[cQ];simp[Op.operands]),ht.ev (x:=v) (by rw[cQ];simp[Op.operands])]
   exact ak.2 ⟨_,hl t Hq,al.2 rfl⟩
 ·rename_i x cQ
  split at he
  ·rename_i id v p n hx
   obtain rfl:=al.1 he
   refine iM λt ht=> ?_
   unfold kA
   rw[cQ]
   simp only[(one x (by rw[cQ];rfl) t ht).1,hx];rfl
  ·rename_i ty y hx
   obtain rfl:=al.1 he
   refine iM λt ht=> ?_
   unfold kA
   rw[cQ]
   simp only[(one x (by rw[cQ];rfl) t ht).1,hx];rfl
  ·rename_i ty y hx
   obtain⟨z,e,he⟩:=nh.1 he
   obtain rfl:=al.1 he
   refine iM λt ht=> ?_
   unfold kA
   rw[cQ]
   simp only[(one x (by rw[cQ];rfl) t ht).1,hx]
   exact nh.2 ⟨z,e,al.2 rfl⟩
  ·rename_i f c hx
   obtain rfl:=al.1 he
   refine iM λt ht=> ?_
   unfold kA
   rw[cQ]
   simp only[(one x (by rw[cQ];rfl) t ht).1,hx];rfl
  ·exact(ai.1 he).elim
 ·rename_i op T x y U cQ
  have IZ:x∈o.op.operands.toList:=by rw[cQ];simp[Op.operands]
  have NY:y∈o.op.operands.toList:=by rw[cQ];simp[Op.operands]
  split at he
  ·rename_i i v1 j v2 hx hy
   obtain⟨v,h1,h2⟩:=ak.1 he
   obtain rfl:=al.1 h2
   refine iM λt ht=> ?_
   unfold kA
   rw[cQ]
   simp only[ht.ev IZ,ht.ev NY,hx,hy]
   exact ak.2 ⟨v,by rw[Hc (ht.Cv (Bd cQ rfl) IZ (by rw[hx];simp[av.ids]))];exact h1,rfl⟩
  ·rename_i ga
   obtain⟨v,h1,h2⟩:=ak.1 he
   obtain rfl:=al.1 h2
   refine iM λt ht=> ?_
   unfold kA
   rw[cQ]
   simp only[ht.ev IZ,ht.ev NY]
   exact ak.2 ⟨v,h1,rfl⟩
 ·rename_i op T x cQ
  refine jU (F:=λt=>Qc op (t.ev x)) (λt=>by unfold kA;rw[cQ]) (λt ht=> ?_) Cr
  rw[(one x (by rw[cQ];rfl) t ht).1]
 ·rename_i T U x cQ
  split at he
  ·rename_i id ver len hTU hx
   unfold CU at he
   split at he
   ·rename_i v e0 l e iH hD
    split at he
    ·rename_i hE
     obtain⟨h1,h2⟩:=aw.1 he
     obtain⟨h3,h4⟩:=bt.1 h2
     obtain rfl:=al.1 h4
     refine qQ (dw iH) ?_ λt ht Hq=> ?_
     ·show id∈writes Γ s o
      unfold writes
      rw[cQ]
      simp only[hTU,hx]
      simp[av.ids]
     ·have hob':t.obj id=some (v,false,.vec e0 (.int .u8) l):=by simp only[AS.obj,Hq];exact iH
      unfold kA
      rw[cQ]
      simp only[hTU,(one x (by rw[cQ];rfl) t ht).1,hx]
      unfold CU
      simp only[hob',hD,hE]
      exact aw.2 ⟨h1,bt.2 ⟨h3,al.2 rfl⟩⟩
    ·exact(ai.1 he).elim
   ·exact(ai.1 he).elim
  ·rename_i id ver hx
   obtain⟨v,h1,h2⟩:=ak.1 he
   obtain rfl:=al.1 h2
   refine iM λt ht=> ?_
   obtain⟨h3,h4⟩:=one x (by rw[cQ];rfl) t ht
   unfold kA
   rw[cQ]
   simp only[h3,hx]
   exact ak.2 ⟨v,by rw[CV (h4 (Bd cQ rfl) _ (by rw[hx];simp[av.ids]))];exact h1,rfl⟩
  ·rename_i ga
   obtain⟨v,h1,h2⟩:=ak.1 he
   obtain rfl:=al.1 h2
   refine iM λt ht=> ?_
   obtain⟨h3,h4⟩:=one x (by rw[cQ];rfl) t ht
   unfold kA
   rw[cQ]
   simp only[h3]
   exact ak.2 ⟨v,by rw[CT (h4 (Bd cQ rfl))];exact h1,rfl⟩
 ·rename_i T x cQ
  exact Eo cQ he
 ·rename_i f first caps cQ
  obtain⟨h1,h2⟩:=aw.1 he
  obtain rfl:=al.1 h2
  refine iM λt ht=> ?_
  have hc:ln t caps.toList=ln s caps.toList:=uJ _ λx hx=>ht.ev (by rw[cQ];simp only[Op.operands,bC];exact bf.2 (.inr hx))
  unfold kA
  rw[cQ]
  simp only[hc]
  exact aw.2 ⟨h1,al.2 rfl⟩
 ·rename_i T l c cQ
  obtain⟨n,h1,h2⟩:=ak.1 he
  obtain⟨m,h3,h4⟩:=ak.1 h2
  exact xE cQ h1 h3 h4
 ·rename_i T x lo hi cQ
  refine jU (F:=λt=>sA P t T (t.ev x) lo hi) (λt=>by unfold kA;rw[cQ]) (λt ht=> ?_) Cr
  have hm:∀z,(z=x\/lo=some z\/hi=some z)->z∈o.op.operands.toList:=λz hz=>by
   rw[cQ]
   simp only[Op.operands,bC,bf]
   rcases hz with rfl | rfl | rfl
   ·left;left;left;simp
   ·left;left;right;simp
   ·left;right;simp
  have hx:=hm x (.inl rfl)
  rw[ht.ev hx]
  exact vH (λid cP=>ht.Cv (Bd cQ rfl) hx cP) (λy hy=>ht.ev (hm y (.inr (.inl hy)))) (λy hy=>ht.ev (hm y (.inr (.inr hy))))
 ·rename_i T x lo y m cQ
  refine jU (F:=λt=>vG P t T (t.ev x) lo y m) (λt=>by unfold kA;rw[cQ]) (λt ht=> ?_) Cr
  have hm:∀z,(z=x\/lo=some z\/y=z\/m=z)->z∈o.op.operands.toList:=λz hz=>by
   rw[cQ]
   simp only[Op.operands,bC,bf]
   rcases hz with rfl | rfl | rfl | rfl
   ·left;left;left;simp
   ·left;left;right;simp
   ·left;right;simp
   ·right;simp
  have hx:=hm x (.inl rfl)
  rw[ht.ev hx]
  exact Aq (λid cP=>ht.Cv (Bd cQ rfl) hx cP) (λz hz=>ht.ev (hm z (.inr (.inl hz)))) (ht.ev (hm y (.inr (.inr (.inl rfl))))) (ht.ev (hm m (.inr (.inr (.inr rfl)))))
 ·rename_i T x f cQ
  refine jU (F:=λt=>qN P T (t.ev x) f) (λt=>by unfold kA;rw[cQ]) (λt ht=> ?_) Cr
  rw[(one x (by rw[cQ];rfl) t ht).1]
 ·rename_i T x f cQ
  refine jU (F:=λt=>BM P T (t.ev x) f) (λt=>by unfold kA;rw[cQ]) (λt ht=> ?_) Cr
  rw[(one x (by rw[cQ];rfl) t ht).1]
 ·rename_i T x i cQ
  refine jU (F:=λt=>(asInt (t.ev i)).bind λi=>lA P t T (t.ev x) i) (λt=>by unfold kA;rw[cQ,Out.bind_assoc]) (λt ht=> ?_) Cr
  have hx:x∈o.op.operands.toList:=by rw[cQ];simp[Op.operands]
  rw[ht.ev (x:=i) (by rw[cQ];simp[Op.operands]),ht.ev hx]
  congr 1
  funext i
  exact wk λid cP=>ht.Cv (Bd cQ rfl) hx cP
 ·rename_i T x i cQ
  refine jU (F:=λt=>(asInt (t.ev i)).bind λi=>BY P T (t.ev x) i) (λt=>by unfold kA;rw[cQ,Out.bind_assoc]) (λt ht=> ?_) Cr
  rw[ht.ev (x:=i) (by rw[cQ];simp[Op.operands]),ht.ev (x:=x) (by rw[cQ];simp[Op.operands])]
 ·rename_i x i cQ
  refine jU (F:=λt=>Out.opt ((t.ev x).list[i]?)) (λt=>by unfold kA;rw[cQ]) (λt ht=> ?_) Cr
  rw[(one x (by rw[cQ];rfl) t ht).1]
 ·rename_i T cQ
  have uR:=he
  unfold sj at uR
  split at uR
  ·rename_i K V kt vt q hm hd
   obtain⟨h1,h2⟩:=aw.1 uR
   obtain rfl:=al.1 h2
   refine pb (ids:=[]) hd h1 (λ_ h=>by cases h) λt ht hv=> ?_
   unfold kA
   rw[cQ]
   simp only
   unfold sj
   simp only[hm,hd]
   exact aw.2 ⟨hv,al.2 rfl⟩
  ·exact(ai.1 uR).elim
 ·rename_i T x i ok cQ
  refine jU (F:=λt=>qR P t T (t.ev x) (t.ev i) ok) (λt=>by unfold kA;rw[cQ]) (λt ht=> ?_) Cr
  have hx:x∈o.op.operands.toList:=by rw[cQ];simp[Op.operands]
  rw[ht.ev (x:=i) (by rw[cQ];simp[Op.operands]),ht.ev hx]
  exact Ae λid cP=>ht.Cv (Bd cQ rfl) hx cP
 ·rename_i T m k x cQ
  obtain⟨s1,h1,h2⟩:=ak.1 he
  obtain rfl:=al.1 h2
  obtain⟨id,e0,e,cP,hs,rfl,hl⟩:=Ah h1
  refine qQ hs ?_ λt ht Hq=> ?_
  ·show id∈writes Γ s o
   unfold writes
   rw[cQ]
   simp only[cP,bM]
  ·unfold kA
   rw[cQ]
   simp only
   rw[ht.ev (x:=m) (by rw[cQ];simp[Op.operands]),ht.ev (x:=k) (by rw[cQ];simp[Op.operands]),ht.ev (x:=x) (by rw[cQ];simp[Op.operands])]
   exact ak.2 ⟨_,hl t Hq,al.2 rfl⟩
 ·rename_i c cQ
  obtain⟨cal,args,tys⟩:=c
  simp only at he
  split at he
  ·split at he
   ·rename_i m k T T2 ha ht'
    have P2:m∈o.op.operands.toList:=by rw[cQ];simp only[Op.operands,Call.operands,aS,bC,ha];simp
    have Q6:k∈o.op.operands.toList:=by rw[cQ];simp only[Op.operands,Call.operands,aS,bC,ha];simp
    obtain⟨s1,h1,h2⟩:=ak.1 he
    obtain rfl:=al.1 h2
    obtain⟨id,e0,e,cP,hs,rfl,hl⟩:=Ag h1
    refine qQ hs ?_ λt ht Hq=> ?_
    ·show id∈writes Γ s o
     unfold writes
     rw[cQ]
     simp only[ha,cP,bM]
    ·unfold kA
     rw[cQ]
     simp only[ha,ht']
     rw[ht.ev P2,ht.ev Q6]
     exact ak.2 ⟨_,hl t Hq,al.2 rfl⟩
   ·exact(ai.1 he).elim
  ·split at he
   ·rename_i x y T X ha ht'
    exact EY cQ rfl ha ht' he
   ·exact(ai.1 he).elim
  ·split at he
   ·rename_i x T ha ht'
    refine jU (F:=λt=>KG P T (t.ev x)) (λt=>by unfold kA;rw[cQ];simp only[ha,ht']) (λt ht=> ?_) Cr
    rw[ht.ev (by rw[cQ];simp only[Op.operands,Call.operands,aS,bC,ha];simp)]
   ·exact(ai.1 he).elim
  ·split at he
   ·rename_i x y T X ha ht'
    have IZ:x∈o.op.operands.toList:=by rw[cQ];simp only[Op.operands,Call.operands,aS,bC,ha];simp
    have NY:y∈o.op.operands.toList:=by rw[cQ];simp only[Op.operands,Call.operands,aS,bC,ha];simp
    split at he
    ·rename_i k n hx hy
     have uR:=he
     unfold De at uR
     split at uR
     ·rename_i e t0 b q kn s9 hd hX
      obtain⟨h1,h2⟩:=aw.1 uR
      obtain⟨h3,h4⟩:=bt.1 h2
      obtain rfl:=al.1 h4
      refine pb (ids:=[]) hd h1 (λ_ h=>by cases h) λt ht hv=> ?_
      unfold kA
      rw[cQ]
      simp only[ha,ht',ht.ev IZ,ht.ev NY,hx,hy]
      unfold De
      simp only[s9,hd,hX]
      exact aw.2 ⟨hv,bt.2 ⟨h3,al.2 rfl⟩⟩
     ·exact(ai.1 uR).elim
    ·rename_i ga
     exact BD cQ rfl ha ht' ga he
   ·exact(ai.1 he).elim
  ·split at he
   ·rename_i x T ha ht'
    have IZ:x∈o.op.operands.toList:=by rw[cQ];simp only[Op.operands,Call.operands,aS,bC,ha];simp
    split at he
    ·rename_i e hx hT
     obtain rfl:=al.1 he
     refine iM λt ht=> ?_
     unfold kA
     rw[cQ]
     simp only[ha,ht',ht.ev IZ,hx,hT];rfl
    ·exact(ai.1 he).elim
   ·exact(ai.1 he).elim
  ·refine jU (F:=λt=>Hz true (args.toList.map t.ev)) (λt=>by unfold kA;rw[cQ]) (λt ht=> ?_) Cr
   congr 1
   exact fB λx hx=>ht.ev (by rw[cQ];simp only[Op.operands,Call.operands,aS,bC];exact hx)
  ·refine jU (F:=λt=>Hz false (args.toList.map t.ev)) (λt=>by unfold kA;rw[cQ]) (λt ht=> ?_) Cr
   congr 1
   exact fB λx hx=>ht.ev (by rw[cQ];simp only[Op.operands,Call.operands,aS,bC];exact hx)
  ·split at he
   ·rename_i x ha
    have IZ:x∈o.op.operands.toList:=by rw[cQ];simp only[Op.operands,Call.operands,aS,bC,ha];simp
    split at he
    ·rename_i id ver len hx
     obtain⟨h1,h2⟩:=bt.1 he
     obtain rfl:=al.1 h2
     refine iM λt ht=> ?_
     unfold kA
     rw[cQ]
     simp only[ha,ht.ev IZ,hx]
     exact bt.2 ⟨h1,rfl⟩
    ·exact(ai.1 he).elim
   ·exact(ai.1 he).elim
  ·split at he
   ·rename_i x y T U ha ht'
    have IZ:x∈o.op.operands.toList:=by rw[cQ];simp only[Op.operands,Call.operands,aS,bC,ha];simp
    have NY:y∈o.op.operands.toList:=by rw[cQ];simp only[Op.operands,Call.operands,aS,bC,ha];simp
    split at he
    ·rename_i id ver n hx hy
     have uR:=he
     unfold Em at uR
     split at uR
     ·rename_i v e l u iH hT
      obtain⟨h1,h2⟩:=aw.1 uR
      obtain⟨h3,h4⟩:=bt.1 h2
      obtain rfl:=al.1 h4
      refine qQ (dw iH) ?_ λt ht Hq=> ?_
      ·show id∈writes Γ s o
       unfold writes
       rw[cQ]
       simp only[ha,hx]
       simp[av.ids]
      ·have hob':t.obj id=some (v,false,.vec e (.int .u8) l):=by simp only[AS.obj,Hq];exact iH
       unfold kA
       rw[cQ]
       simp only[ha,ht',ht.ev IZ,ht.ev NY,hx,hy]
       unfold Em
       simp only[hob',hT]
       exact aw.2 ⟨h1,bt.2 ⟨h3,al.2 rfl⟩⟩
     ·exact(ai.1 uR).elim
    ·exact(ai.1 he).elim
   ·exact(ai.1 he).elim
  ·rename_i F _
   split at he
   ·rename_i f caps hF
    split at he
    ·rename_i en Ig
     obtain⟨iC,he⟩:=aw.1 he
     exact ES cQ rfl hF Ig iC he
    ·exact(ai.1 he).elim
   ·exact(ai.1 he).elim
  ·exact(ai.1 he).elim
 ·exact(ai.1 he).elim
end
end Go.Ab
namespace Go.Ab
section
variable {P:Program} {Γ:nG} {bo:List Nat} {ops:Array Oper} {o:Oper} {s t:AS}
def Loc(P:Program)(Γ:nG)(bo:List Nat)(ops:Array Oper)(o:Oper)(s s':AS):Prop:=
 ∃E,App o.dst E s s'/\BA (fk Γ ops s o) s E/\∀t,jc (fk Γ ops s o) s t->∃t',sY P Γ bo ops o t=some t'/\App o.dst E t t'
theorem yD{s':AS}(he:sY P Γ bo ops o s=some s'):Loc P Γ bo ops o s s':=by
 unfold sY at he
 split at he
 ·rename_i hg
  obtain⟨E,h1,h2,h3⟩:=AA (ops:=ops) he
  refine⟨E,h1,h2,λt ht=> ?_⟩
  obtain⟨t',h4,h5⟩:=h3 t ht
  exact⟨t',by unfold sY;simp only[hg];exact h4,h5⟩
 ·rename_i j want hg
  split at he
  ·rename_i q hq
   split at he
   ·rename_i b hb
    have Dn:∀t,jc (fk Γ ops s o) s t->t.slot q= .d .bool b:=λt ht=>by
     rw[ht.bR q (bf.2 (.inr (by unfold wg;simp only[hg,hq];simp)))];exact hb
    by_cases e:b=want
    ·rw[if_pos e]at he
     obtain⟨E,h1,h2,h3⟩:=AA (ops:=ops) he
     refine⟨E,h1,h2,λt ht=> ?_⟩
     obtain⟨t',h4,h5⟩:=h3 t ht
     exact⟨t',by unfold sY;simp only[hg,hq,Dn t ht,if_pos e];exact h4,h5⟩
    ·rw[if_neg e]at he
     simp only[ao]at he
     subst he
     exact⟨⟨.nil,λ_=>none,[]⟩,App.sO _ _ _,⟨λ_ _ h=>by simp at h,λ_ h=>by simp at h⟩,λt ht=>⟨_,by unfold sY;simp only[hg,hq,Dn t ht,if_neg e],App.sO _ _ _⟩⟩
   ·rename_i hb
    have Dn:∀t,jc (fk Γ ops s o) s t->t.slot q= .nil:=λt ht=>by
     rw[ht.bR q (bf.2 (.inr (by unfold wg;simp only[hg,hq];simp)))];exact hb
    simp only[ao]at he
    subst he
    exact⟨⟨.nil,λ_=>none,[]⟩,App.sO _ _ _,⟨λ_ _ h=>by simp at h,λ_ h=>by simp at h⟩,λt ht=>⟨_,by unfold sY;simp only[hg,hq,Dn t ht],App.sO _ _ _⟩⟩
   ·cases he
  ·cases he
theorem Co(h:jc (fk Γ ops s o) s t):writes Γ t o=writes Γ s o:=by
 have J4:∀id∈writes Γ s o,t.bG id=s.bG id:=h.ws
 unfold writes at J4 ⊢
 split
 ·rename_i x v cQ
  rw[h.ev (by rw[cQ];simp[Op.operands])]
 ·rename_i m k v cQ
  rw[h.ev (by rw[cQ];simp[Op.operands])]
 ·rename_i T U x cQ
  rw[h.ev (by rw[cQ];simp[Op.operands])]
 ·rename_i c cQ
  obtain⟨cal,args,tys⟩:=c
  simp only[cQ]at J4
  simp only
  split
  ·split
   ·rename_i x l ha
    rw[h.ev (by rw[cQ];simp only[Op.operands,Call.operands,aS,bC,ha];simp)]
   ·rfl
  ·split
   ·rename_i x l ha
    rw[h.ev (by rw[cQ];simp only[Op.operands,Call.operands,aS,bC,ha];simp)]
   ·rfl
  ·split
   ·rename_i x l ha
    rw[h.ev (by rw[cQ];simp only[Op.operands,Call.operands,aS,bC,ha];simp)]
   ·rfl
  ·split
   ·rename_i x l ha
    rw[h.ev (by rw[cQ];simp only[Op.operands,Call.operands,aS,bC,ha];simp)]
   ·rfl
  ·rename_i F
   simp only at J4
   have hm:∀z,z=F\/z∈args.toList->z∈o.op.operands.toList:=λz hz=>by
    rw[cQ]
    simp only[Op.operands,Call.operands,bC,bf]
    rcases hz with rfl | hz
    ·exact .inl (by simp)
    ·exact .inr hz
   have h1:t.ev F=s.ev F:=h.ev (hm F (.inl rfl))
   have h2:args.toList.map t.ev=args.toList.map s.ev:=fB λx hx=>h.ev (hm x (.inr hx))
   rw[h1]
   split
   ·rename_i f caps hF
    simp only[hF]at J4
    rw[h2]
    split
    ·rename_i en Ig
     simp only[Ig]at J4
     exact nu _ _ _ λid cP=>by rw[J4 id cP]
    ·rfl
   ·rfl
  ·rfl
 ·rfl
theorem yy(h:jc (fk Γ ops s o) s t):fk Γ ops t o=fk Γ ops s o:=by
 have h1:=Co h
 have h2:DR t o=DR s o:=by
  unfold DR
  split
  ·rfl
  unfold List.flatMap
  congr 1
  exact fB λi hi=>by rw[h.bR i (bf.2 (.inl hi))]
 unfold fk
 rw[h1,h2]
theorem nk{xs ys:List Id}(h:meets xs ys=false){id:Id}(hx:id∈xs):id ∉ ys:=by
 intro hy
 have:meets xs ys=true:=by
  unfold meets
  exact kc.2 ⟨id,hx,kc.2 ⟨id,hy,by simp⟩⟩
 rw[h]at this;cases this
theorem mi{d:Option Tmp}{ids:List Id}(h:zy d ids=false){q:Nat}(hd:d=some q)(j:Nat):Id.new q j ∉ ids:=by
 intro hy
 have:zy d ids=true:=by
  subst hd
  exact kc.2 ⟨_,hy,by simp⟩
 rw[h]at this;cases this
theorem sM{f g:rK}(h:f.O0 g=false){q:Nat}(hd:f.dst=some q):q ∉ g.bR/\g.dst≠some q:=by
 unfold rK.O0 at h
 rw[hd]at h
 simp only[Bool.or_eq_false_iff,ik,decide_eq_true_eq,decide_eq_false_iff_not]at h
 exact⟨λhx=>h.1 q hx rfl,h.2⟩
theorem Ee(s:AS)(d:Option Tmp)(v:av)(i:Nat)(h:d≠some i):(s.put d v).slot i=s.slot i:=by
 cases d with
 |none=>rfl
 |some q=>rw[zA,if_neg];rintro⟨rfl,_⟩;exact h rfl
theorem App.slot{d:Option Tmp}{E:NL}{s s':AS}(h:App d E s s')(i:Nat)(hi:d≠some i):s'.slot i=s.slot i:=by
 rw[<-Ee s d E.v i hi]
 simp only[AS.slot,h.bR]
theorem CB{f f':rK}{E:NL}{s s1:AS}(ha:App f.dst E s s1)(hw:BA f s E)(Rq:∀id∈f'.ws,id∈f'.rs)(h1:f.O0 f'=false)(h2:meets f.ws f'.rs=false)(h3:meets f'.ws f.rs=false)
  (h4:zy f.dst f'.rs=false):(∀i∈f'.bR,s1.slot i=s.slot i)/\(∀id∈f'.ws,s1.bG id=s.bG id)/\(∀id∈f'.rs,oK (s1.bG id) (s.bG id))/\∀q,f'.dst=some q->s1.di q=s.di q:=by
 have xC:∀id∈f'.rs,E.up id=none:=λid cP=>by
  cases hu:E.up id with
  |none=>rfl
  |some e=>
   rcases hw.up id e hu with⟨h,_⟩ | ⟨q,j,hd,rfl⟩
   ·exact absurd cP (nk h2 h)
   ·exact absurd cP (mi h4 hd j)
 refine⟨λi hi=>ha.slot i λhd=>(sM h1 hd).1 hi,λid cP=> ?_,λid cP=> ?_,λq hq=> ?_⟩
 ·rw[ha.bG,xC id (Rq id cP)]
  have:id ∉ E.fz:=λhz=>nk h3 cP (hw.fz id hz)
  simp only[if_neg this]
 ·rw[ha.bG,xC id cP]
  simp only
  split
  ·exact HX _
  ·exact HY _
 ·have ga:∀j,(s1.bG (.new q j)=none↔s.bG (.new q j)=none):=λj=>by
   rw[ha.bG]
   cases hu:E.up (.new q j) with
   |none=>
    simp only
    split <;> simp
   |some e=>
    rcases hw.up _ e hu with⟨_,h⟩ | ⟨q',j',hd,he⟩
    ·simp[h]
    ·simp only[Id.new.injEq]at he
     obtain⟨rfl,_⟩:=he
     exact absurd hq (sM h1 hd).2
  rw[Bool.eq_iff_iff,px,px,ha.len]
  exact and_congr Iff.rfl (forall_congr' ga)
theorem rY(s:AS)(o:Oper):∀id∈(fk Γ ops s o).ws,id∈(fk Γ ops s o).rs:=λ_ cP=>bf.2 (.inr cP)
theorem swap{o':Oper}{s1 s2:AS}(h1:sY P Γ bo ops o s=some s1)(h2:sY P Γ bo ops o' s1=some s2)(hi:(fk Γ ops s o).indep (fk Γ ops s1 o')=true):
  ∃t1,sY P Γ bo ops o' s=some t1/\sY P Γ bo ops o t1=some s2/\fk Γ ops s o'=fk Γ ops s1 o'/\fk Γ ops t1 o=fk Γ ops s o:=by
 unfold rK.indep at hi
 simp only[ag,bp]at hi
 obtain⟨⟨⟨⟨⟨i1,i2⟩,i3⟩,i4⟩,i5⟩,i6⟩:=hi
 obtain⟨E,a1,w1,l1⟩:=yD h1
 obtain⟨E',a2,w2,l2⟩:=yD h2
 obtain⟨g1,g2,g3,g4⟩:=CB (f:=fk Γ ops s o) (f':=fk Γ ops s1 o') a1 w1 (rY _ _) i1 i3 i4 i5
 have uC:jc (fk Γ ops s1 o') s1 s:=⟨λi hi=>(g1 i hi).symm,λid cP=>(g2 id cP).symm,λid cP=>by
  have:=g3 id cP
  revert this
  cases s1.bG id <;> cases s.bG id <;> simp only[oK] <;> intro h <;> first | trivial | exact h | skip
  rename_i a b
  cases a <;> cases b <;> simp_all [de.Cv],λq hq=>(g4 q hq).symm⟩
 obtain⟨t1,k1,k2⟩:=l2 s uC
 have hf':=yy uC
 have w2':BA (fk Γ ops s1 o') s E':=⟨λid e hu=>by
  rcases w2.up id e hu with⟨h,hn⟩ | h
  ·exact .inl ⟨h,by rw[<-g2 id h];exact hn⟩
  ·exact .inr h,w2.fz⟩
 obtain⟨m1,m2,m3,m4⟩:=CB (f:=fk Γ ops s1 o') (f':=fk Γ ops s o) k2 w2' (rY _ _) i2 i4 i3 i6
 have OF:jc (fk Γ ops s o) s t1:=⟨m1,m2,m3,m4⟩
 obtain⟨t2,k3,k4⟩:=l1 t1 OF
 refine⟨t1,k1,?_,hf',yy OF⟩
 rw[k3]
 congr 1
 have Pk:∀id e,E.up id=some e->E'.up id=none/\id ∉ E'.fz:=λid e hu=>by
  rcases w1.up id e hu with⟨h,hn⟩ | ⟨q,j,hd,rfl⟩
  ·refine⟨?_,λhz=>nk i3 h (w2.fz id hz)⟩
   cases hu':E'.up id with
   |none=>rfl
   |some e'=>
    rcases w2.up id e' hu' with⟨h',_⟩ | ⟨q,j,hd,rfl⟩
    ·exact absurd (rY _ _ id h') (nk i3 h)
    ·exact absurd (rY _ _ _ h) (mi i6 hd j)
  ·refine⟨?_,λhz=>mi i5 hd j (w2.fz _ hz)⟩
   cases hu':E'.up (.new q j) with
   |none=>rfl
   |some e'=>
    rcases w2.up _ e' hu' with⟨h',_⟩ | ⟨q',j',hd',he⟩
    ·exact absurd (rY _ _ _ h') (mi i5 hd j)
    ·simp only[Id.new.injEq]at he
     obtain⟨rfl,_⟩:=he
     exact absurd hd' (sM i1 hd).2
 have Rv:∀id e,E'.up id=some e->E.up id=none/\id ∉ E.fz:=λid e hu=>by
  have hn:E.up id=none:=by
   cases Tr:E.up id with
   |none=>rfl
   |some e1=>rw[(Pk id e1 Tr).1]at hu;cases hu
  refine⟨hn,λhz=> ?_⟩
  rcases w2.up id e hu with⟨h,_⟩ | ⟨q,j,hd,rfl⟩
  ·exact nk i4 h (w1.fz id hz)
  ·exact mi i6 hd j (w1.fz _ hz)
 refine AS.IN ?_ (by rw[k4.len,k2.len,a2.len,a1.len]) λid=> ?_
 ·have e1:∀(u u':AS) (d:Option Tmp) (v:av),u.bR=u'.bR->(u.put d v).bR=(u'.put d v).bR:=λu u' d v h=>by cases d <;> simp[AS.put,h]
  rw[k4.bR,a2.bR,e1 t1 (s.put o'.dst E'.v) _ _ k2.bR,e1 s1 (s.put o.dst E.v) _ _ a1.bR]
  cases hd:o.dst with
  |none=>cases o'.dst <;> rfl
  |some q=>
   cases hd':o'.dst with
   |none=>rfl
   |some q'=>
    have ga:q'≠q:=λe=>(sM (f:=fk Γ ops s o) i1 hd).2 (by show o'.dst=some q;rw[hd',e])
    simp only[AS.put]
    exact List.set_comm _ _ ga
 ·rw[k4.bG,k2.bG,a2.bG,a1.bG]
  cases hu:E.up id with
  |some e=>
   obtain⟨h3,h4⟩:=Pk id e hu
   simp only[h3,if_neg h4]
  |none=>
   simp only
   cases hu':E'.up id with
   |some e=>
    obtain⟨_,h4⟩:=Rv id e hu'
    simp only[if_neg h4]
   |none=>
    simp only
    by_cases z1:id∈E.fz <;> by_cases z2:id∈E'.fz <;> simp only[if_pos,if_neg,z1,z2,not_false_eq_true]
end
end Go.Ab
namespace Go.Ab
section
variable {P:Program} {Γ:nG} {bo:List Nat} {ops:Array Oper}
def Cy(P:Program)(Γ:nG)(bo:List Nat)(ops:Array Oper)(fs:Nat->rK):List Nat->AS->AS->Prop
 |[],s,sn=>s=sn
 |i::l,s,sn=>∃o,ops[i]? =some o/\fk Γ ops s o=fs i/\∃s',sY P Γ bo ops o s=some s'/\Cy P Γ bo ops fs l s' sn
theorem Cy.Ix{fs:Nat->rK}{i:Nat}{l2:List Nat}{sn:AS}:∀(l1:List Nat) {s:AS},Cy P Γ bo ops fs (l1++i::l2) s sn->(∀j∈l1,(fs j).indep (fs i)=true)->Cy P Γ bo ops fs (i::(l1++l2)) s sn
 |[],_,h,_=>h
 |j::l1,s,h,hi=>by
  obtain⟨oj,h1,h2,s1,h3,h4⟩:=h
  obtain⟨oi,h5,h6,s2,h7,h8⟩:=Cy.Ix l1 h4 λj hj=>hi j (aF _ hj)
  have hd:=hi j (aG ..)
  rw[<-h2,<-h6]at hd
  obtain⟨t1,k1,k2,k3,k4⟩:=swap h3 h7 hd
  exact⟨oi,h5,by rw[k3,h6],t1,k1,oj,h1,by rw[k4,h2],s2,k2,h8⟩
theorem AW{R:Type}{anc:List Nat}{k:AS->Option R}{r:R}:∀(l:List Oper) (i:Nat) (acc:List (Nat×rK)) (s:AS) (f0:Nat->rK),(∀n o,l[n]? =some o->ops[i+n]? =some o)->(∀x∈acc,f0 x.1=x.2/\x.1 < i)->
  AV P Γ bo ops anc i l acc s k=some r->∃fs sn,(∀j,j < i->fs j=f0 j)/\Cy P Γ bo ops fs (List.range' i l.length) s sn/\k sn=some r/\
   (∀x∈acc,∀m,i<=m->m < i+l.length->(anc.getD m 0).testBit x.1=true\/x.2.indep (fs m)=true)/\(∀m1 m2,i<=m1->m1 < m2->m2 < i+l.length->(anc.getD m2 0).testBit m1=true\/(fs m1).indep (fs m2)=true)
 |[],i,acc,s,f0,_,_,h=>⟨f0,s,λ_ _=>rfl,rfl,h,λ_ _ m h1 h2=>by simp at h2;omega,λ_ _ h1 h2 h3=>by simp at h3;omega⟩
 |o::l,i,acc,s,f0,ho,hf,h=>by
  unfold AV at h
  split at h
  ·rename_i qO
   simp only[AS.vB]at h
   obtain⟨s',h1,h2⟩:=Dd (k:=λs'=>AV P Γ bo ops anc (i+1) l ((i,fk Γ ops s o)::acc) s' k) h
   have QE:∀x∈(i,fk Γ ops s o)::acc,(if x.1=i then fk Γ ops s o else f0 x.1)=x.2/\x.1 < i+1:=λx hx=>by
    rcases cv.1 hx with rfl | hx
    ·simp
    ·obtain⟨q1,q2⟩:=hf x hx
     rw[if_neg (by omega)]
     exact⟨q1,by omega⟩
   obtain⟨fs,sn,g1,g2,g3,g4,g5⟩:=AW l (i+1) ((i,fk Γ ops s o)::acc) s' (λn=>if n=i then fk Γ ops s o else f0 n)
    (λn o' hn=>by have:=ho (n+1) o' (by simpa using hn);rw[<-this];congr 1;omega) QE h2
   have gi:fs i=fk Γ ops s o:=by rw[g1 i (by omega),if_pos rfl]
   refine⟨fs,sn,λj hj=>by rw[g1 j (by omega),if_neg (by omega)],?_,g3,λx hx m h3 h4=> ?_,λm1 m2 h3 h4 h5=> ?_⟩
   ·rw[aD,List.range'_succ]
    exact⟨o,ho 0 o rfl,gi.symm,s',h1,g2⟩
   ·rcases Nat.eq_or_lt_of_le h3 with rfl | h3
    ·have:=cM.1 qO x hx
     simp only[fb]at this
     rcases this with h | h
     ·exact .inl h
     ·right;rw[gi];exact h
    ·exact g4 x (aF _ hx) m (by omega) (by simp only[aD]at h4;omega)
   ·rcases Nat.eq_or_lt_of_le h3 with rfl | h3
    ·rw[gi]
     exact g4 (i,fk Γ ops s o) (aG ..) m2 (by omega) (by simp only[aD]at h5;omega)
    ·exact g5 m1 m2 (by omega) h4 (by simp only[aD]at h5;omega)
  ·cases h
theorem CF{acc:List Nat}{j:Nat}:∀ {l:List Edge},(l.foldr (λe m=>Nat.lor (Nat.lor (Nat.pow 2 e.on) (acc.getD e.on 0)) m) 0).testBit j=true->∃e∈l,j=e.on\/(acc.getD e.on 0).testBit j=true
 |[],h=>by simp at h
 |e::l,h=>by
  rw[List.foldr_cons,show ∀x y,Nat.lor x y=x ||| y from λ_ _=>rfl,show ∀x y,Nat.lor x y=x ||| y from λ_ _=>rfl,Nat.testBit_or,Nat.testBit_or,show Nat.pow 2 e.on=2^e.on from rfl,Nat.testBit_two_pow]at h
  simp only[fb,decide_eq_true_eq]at h
  rcases h with(h | h) | h
  ·exact⟨e,aG ..,.inl h.symm⟩
  ·exact⟨e,aG ..,.inr h⟩
  ·obtain⟨e',h1,h2⟩:=CF h
   exact⟨e',aF _ h1,h2⟩
theorem Az:∀(l:List Oper) (acc:List Nat),(∀i,i < acc.length->(l.foldl (λacc o=>acc++ [BC acc o]) acc)[i]? =acc[i]?)/\
  ∀i o,l[i]? =some o->(l.foldl (λacc o=>acc++ [BC acc o]) acc)[acc.length+i]? =some (BC ((l.foldl (λacc o=>acc++ [BC acc o]) acc).take (acc.length+i)) o)
 |[],acc=>⟨λ_ _=>rfl,λi o h=>by simp at h⟩
 |x::l,acc=>by
  obtain⟨h1,h2⟩:=Az l (acc++ [BC acc x])
  simp only[cU]
  refine⟨λi hi=> ?_,λi o hi=> ?_⟩
  ·rw[h1 i (by simp;omega),dY hi]
  ·cases i with
   |zero=>
    simp only[eB,ao]at hi
    subst hi
    rw[cq,h1 _ (by simp)]
    have:(l.foldl (λacc o=>acc++ [BC acc o]) (acc++ [BC acc x])).take acc.length=acc:=by
     apply il
     intro j
     rw[cI]
     split
     ·rename_i hj
      rw[h1 j (by simp;omega),dY hj]
     ·rename_i hj
      rw[c7 (by omega)]
    rw[this]
    simp
   |succ i=>
    have:=h2 i o (by simpa using hi)
    simp only[aq,aD,ba,aN]at this
    rw[show acc.length+(i+1)=acc.length+1+i by omega]
    exact this
theorem It{l:List Oper}{i:Nat}{o:Oper}(hi:l[i]? =some o){j:Nat}(hj:((CG l).getD i 0).testBit j=true):∃e∈o.after.toList,Region.binds .any e=true/\(j=e.on\/((CG l).getD e.on 0).testBit j=true):=by
 have h:=(Az l []).2 i o hi
 have e:CG l=l.foldl (λacc o=>acc++ [BC acc o]) []:=rfl
 rw[<-e]at h
 simp only[ba,aN]at h
 rw[ay,h]at hj
 obtain⟨e,h1,h3⟩:=CF hj
 obtain⟨h1,h2⟩:=dE.1 h1
 refine⟨e,h1,h2,h3.imp id λh4=> ?_⟩
 rw[ay,cI]at h4
 split at h4
 ·rw[ay];exact h4
 ·simp at h4
def Bt(n:Nat)(listed:Array Bool):List Nat:=(List.range n).filter λi=> !listed.getD i true
theorem u7{n:Nat}{listed:Array Bool}{i:Nat}:i∈Bt n listed↔i < n/\listed.getD i true=false:=by simp[Bt]
theorem uz(n:Nat)(listed:Array Bool):(Bt n listed).Pairwise (· < ·):=(List.pairwise_lt_range).filter _
theorem yC{listed:Array Bool}{i j:Nat}(d:Bool)(hi:i < listed.size):(listed.setIfInBounds i true).getD j d=if j=i then true else listed.getD j d:=by
 simp only[bY,df]
 by_cases h:i=j
 ·subst h;simp[hi]
 ·simp[h,Ne.symm h]
theorem K9{listed:Array Bool}{i:Nat}(hi:i < listed.size){l1 l2:List Nat}(h:Bt listed.size listed=l1++i::l2):Bt listed.size (listed.setIfInBounds i true)=l1++l2:=by
 have hs:=uz listed.size listed
 rw[h]at hs
 obtain⟨p1,p2,p3⟩:=List.pairwise_append.1 hs
 obtain⟨p4,_⟩:=gR.1 p2
 have e:Bt listed.size (listed.setIfInBounds i true)=(Bt listed.size listed).filter λj=>decide (j≠i):=by
  unfold Bt
  rw[lg]
  refine List.filter_congr λj _=> ?_
  rw[yC true hi]
  by_cases hj:j=i
  ·simp[hj]
  ·simp[hj]
 rw[e,h,List.filter_append,iP]
 have f1:l1.filter (λj=>decide (j≠i))=l1:=gj.2 λj hj=>by
  have:=p3 j hj i (aG ..)
  simp;omega
 have f2:l2.filter (λj=>decide (j≠i))=l2:=gj.2 λj hj=>by
  have:=p4 j hj
  simp;omega
 rw[f1,f2]
 simp
theorem GX{rd:Option Nat}{n:Nat}{C:Ctx}(hΓ:Sound P Γ){fs:Nat->rK}{sn:AS}{Q:Exit->Act->World->Prop}(hE:BH ops.toList=true)
  (QW:∀m1 m2,m1 < m2->m2 < ops.size->((CG ops.toList).getD m2 0).testBit m1=true\/(fs m1).indep (fs m2)=true) (hQ:∀a w,fF C sn a w->Q .normal a w):
  ∀(fuel:Nat) (listed:Array Bool) (s:AS) (a:Act) (w:World),listed.size=ops.size->(Bt ops.size listed).length=fuel->
   (∀i,i < ops.size->listed.getD i true=true->∀j,((CG ops.toList).getD i 0).testBit j=true->listed.getD j false=true)->Cy P Γ bo ops fs (Bt ops.size listed) s sn->fF C s a w->wpAnyIn (Fr rd) n P .any ops Q fuel listed a w:=by
 have Lx:∀i o,ops[i]? =some o->∀e∈o.after.toList,Region.binds .any e=true->e.on < i:=λi o hi e he hb=>by
  have:=cM.1 hE (o,i) (List.mem_zipIdx_iff_getElem?.2 (by simpa using hi))
  have:=cM.1 this e he
  simpa[hb]using this
 have M7:∀(listed:Array Bool),listed.size=ops.size->∀i,i∈Region.ready .any ops listed↔i∈Bt ops.size listed/\∀o,ops[i]? =some o->∀e∈o.after.toList,Region.binds .any e=true->listed.getD e.on false=true:=λlisted _ i=>by
  rw[u7]
  unfold Region.ready
  simp only[dE,List.mem_range,ag,bp]
  constructor
  ·rintro⟨h1,h2,h3⟩
   refine⟨⟨h1,h2⟩,λo ho e he hb=> ?_⟩
   rw[ho]at h3
   simp only[dq,dR,Array.all_eq_true',fb,bp]at h3
   rcases h3 e (by simpa using he) with h | h
   ·rw[hb]at h;cases h
   ·exact h
  ·rintro⟨⟨h1,h2⟩,h3⟩
   refine⟨h1,h2,?_⟩
   obtain⟨o,ho⟩:∃o,ops[i]? =some o:=⟨ops[i],by simp[h1]⟩
   rw[ho]
   simp only[dq,dR,Array.all_eq_true',fb,bp]
   intro e he
   cases hb:Region.binds .any e with
   |false=>exact .inl rfl
   |true=>exact .inr (h3 o ho e (by simpa using he) hb)
 have ku:∀(listed:Array Bool),listed.size=ops.size->Region.ready .any ops listed=[]->Bt ops.size listed=[]:=λlisted hs hr=>by
  cases hu:Bt ops.size listed with
  |nil=>rfl
  |cons i l=>
   exfalso
   have hi:i∈Bt ops.size listed:=by rw[hu];exact aG ..
   have Pg:=uz ops.size listed
   rw[hu]at Pg
   have:i∈Region.ready .any ops listed:=(M7 listed hs i).2 ⟨hi,λo ho e he hb=>by
    have iC:=Lx i o ho e he hb
    have OZ:=(u7.1 hi).1
    cases hl:listed.getD e.on true with
    |false=>
     have hm:e.on∈Bt ops.size listed:=u7.2 ⟨by omega,hl⟩
     rw[hu]at hm
     rcases cv.1 hm with h | h
     ·omega
     ·have:=(gR.1 Pg).1 _ h;omega
    |true=>
     have:e.on < listed.size:=by omega
     simp only[bY,dX this,dR]at hl ⊢
     exact hl⟩
   rw[hr]at this
   cases this
 intro fuel
 induction fuel with
 |zero=>
  intro listed s a w hs hl _ hr lQ
  have hn:Bt ops.size listed=[]:=aL hl
  refine⟨?_,?_⟩
  ·cases Rk:Region.ready .any ops listed with
   |nil=>rfl
   |cons i l=>
    have:i∈Region.ready .any ops listed:=by rw[Rk];exact aG ..
    have:=((M7 listed hs i).1 this).1
    rw[hn]at this;cases this
  ·rw[hn]at hr
   have:s=sn:=hr
   subst this
   exact hQ a w lQ
 |succ fuel ih=>
  intro listed s a w hs hl Fc hr lQ
  refine⟨λRk=> ?_,λi hi=> ?_⟩
  ·have:=ku listed hs Rk
   rw[this]at hl;simp at hl
  ·obtain⟨hu,OR⟩:=(M7 listed hs i).1 hi
   obtain⟨OZ,TW⟩:=u7.1 hu
   obtain⟨o,ho⟩:∃o,ops[i]? =some o:=⟨ops[i],by simp[OZ]⟩
   obtain⟨l1,l2,Ij⟩:=List.append_of_mem hu
   have Pg:=uz ops.size listed
   rw[Ij]at Pg
   have OG:∀j,((CG ops.toList).getD i 0).testBit j=true->listed.getD j false=true:=λj hj=>by
    obtain⟨e,he,hb,h | h⟩:=It (by simpa using ho) hj
    ·rw[h];exact OR o ho e he hb
    ·have h1:=OR o ho e he hb
     have h2:=Lx i o ho e he hb
     refine Fc e.on (by omega) ?_ j h
     have:e.on < listed.size:=by omega
     simp only[bY,dX this,dR]at h1 ⊢
     exact h1
   rw[Ij]at hr
   have hb:=Cy.Ix l1 hr λj hj=>by
    have iC:j < i:=(List.pairwise_append.1 Pg).2.2 j hj i (aG ..)
    rcases QW j i iC OZ with h | h
    ·have h1:=OG j h
     have S4:j∈Bt ops.size listed:=by rw[Ij];exact bf.2 (.inl hj)
     have h2:=(u7.1 S4).2
     have:j < listed.size:=by omega
     simp only[bY,dX this,dR]at h1 h2
     rw[h1]at h2;cases h2
    ·exact h
   obtain⟨o',ho',hf,s',hg,kj⟩:=hb
   obtain rfl:o=o':=by rw[ho]at ho';simpa using ho'
   have BV:Bt ops.size (listed.setIfInBounds i true)=l1++l2:=by
    rw[<-hs]at Ij ⊢
    exact K9 (by omega) Ij
   refine((AU hΓ lQ hg).mono λa' w' hst'=>ih (listed.setIfInBounds i true) s' a' w' (by simpa using hs) ?_ ?_ (by rw[BV];exact kj) hst').wpOpIn ho
   ·rw[BV]
    rw[Ij]at hl
    simp only[aq,aD]at hl ⊢
    omega
   ·intro m hm P1 j hj
    rw[yC false (by omega)]
    split
    ·rfl
    ·rw[yC true (by omega)]at P1
     split at P1
     ·rename_i Td
      subst Td
      exact OG j hj
     ·exact Fc m hm P1 j hj
theorem D4{rd:Option Nat}{n:Nat}{C:Ctx}(hm:P.follows .mixedOrders=true)(hΓ:Sound P Γ){id:Nat}{R:Type}{Q:Exit->Act->World->Prop}{s:AS}{a:Act}{w:World}{k:AS->Option R}{r:R}(h:fF C s a w)(hE:BH ops.toList=true)
  (he:AV P Γ bo ops (CG ops.toList) 0 ops.toList [] s k=some r) (hk:∀s' a' w',fF C s' a' w'->k s'=some r->Q .normal a' w'):(Code.region id ops true).wpIn (Fr rd) n P Q a w:=by
 obtain⟨fs,sn,_,g2,g3,_,g5⟩:=AW ops.toList 0 [] s (λ_=>⟨none,[],[],[]⟩) (λn o hn=>by simpa using hn) (λ_ hx=>by cases hx) he
 refine wpIn_region_any hm ?_
 obtain⟨g,β,h⟩:=h
 have hu:Bt ops.size (Array.replicate ops.size false)=List.range' 0 ops.toList.length:=by
  unfold Bt
  rw[gj.2]
  ·simp[List.range_eq_range']
  ·intro i hi
   have hi:i < ops.size:=by simpa using hi
   simp[bY,hi]
 refine GX (bo:=bo) hΓ hE (fs:=fs) (sn:=sn) (λm1 m2 h1 h2=>g5 m1 m2 (bh _) h1 (by simpa using h2)) (λa' w' hs=>hk sn a' w' hs g3) ops.size _ s a _ (by simp) (by rw[hu];simp) (λi hi hl=> ?_) (by rw[hu];exact g2) ⟨g,β,h.drew⟩
 simp[bY,hi]at hl
end
end Go.Ab
namespace Go.Ab
theorem nB{ρ:Ren}{s:AS}(h:∀id,(s.obj id).isSome=true->∀ver,ρ id ver=some (id,ver)):∀(v:av),v.there s=true->v.fS ρ=v
 | .ptr id ver p n,ht=>by simp only[av.fS];rw[h id ht]
 | .cD id ver p c i len,ht=>by simp only[av.fS];rw[h id ht]
 | .pr a b,ht=>by
  simp only[av.there,ag]at ht
  simp only[av.fS];rw[nB h a ht.1,nB h b ht.2]
 | .cons a b,ht=>by
  simp only[av.there,ag]at ht
  simp only[av.fS];rw[nB h a ht.1,nB h b ht.2]
 | .fn f c,ht=>by simp only[av.fS];rw[nB h c ht]
 | .bx e z c,ht=>by simp only[av.fS];rw[nB h c ht]
 | .lF id ver,ht=>by simp only[av.fS];rw[h id ht]
 | .yl id ver,ht=>by simp only[av.fS];rw[h id ht]
 | .nH k f p,ht=>by simp only[av.fS];rw[nB h f ht]
 | .lR ..,ht=>by cases ht
 | .undef,_ | .gone,_ | .db,_ | .lP,_ | .nm,_ | .qe,_ | .d _ _,_ | .eO _ _,_ | .nil,_ | .vec ..,_ | .mp ..,_ | .sb _,_=>rfl
theorem NM.bI{E E':Env}(hm:lU E E')(hh:∀b:Nat,E'.w.heap[b]? =E.w.heap[b]?){i q:Id}{ver:Nat}{kt vt:Ty}{rest:List (kt.den×vt.den)}{cur:Option (kt.den×vt.den)}(h:NM E i q ver kt vt rest cur)(hβ:E'.β i=E.β i)
  (hg:∀pl,E.β i=some pl->E.g pl.b= .own (.id i) 0->E'.g pl.b= .own (.id i) 0)
  (hq:∀vr,ver=vr+1->(E.rp q vr->E'.rp q vr/\(E'.cur q vr->E.cur q vr/\E'.β q=E.β q))/\(∀k v l,E.s q=some (.obj vr true (.mp k v l))->E'.s q=some (.obj vr true (.mp k v l)))/\
   ∀pl,E.β q=some pl->E.g pl.b= .own (.id q) 0->E'.g pl.b= .own (.id q) 0):NM E' i q ver kt vt rest cur:=by
 obtain⟨pl,mb,since,seen,c0,h1,h2,h3,h4⟩:=h
 refine⟨pl,mb,since,seen,c0,by rw[hβ,h1],by rw[hh,h2],hg pl h1 h3,λvr Fi=> ?_⟩
 obtain⟨h5,h6⟩:=h4 vr Fi
 obtain⟨q1,q2,q3⟩:=hq vr Fi
 obtain⟨b1,b2⟩:=q1 h5
 refine⟨b1,λhc=> ?_⟩
 obtain⟨c1,c2⟩:=b2 hc
 obtain⟨⟨k,v,l,k0⟩,plq,es,clock,k1,k2,k3,k4,k5,k6,k7,k8,k9⟩:=h6 c1
 exact⟨⟨k,v,l,q2 _ _ _ k0⟩,plq,es,clock,by rw[c2,k1],k2,by rw[hh,k3],q3 _ k1 k4,k5,k6,k7,k8.mono hm,λx hx=>
  let⟨e,se,a1,a2,a3,a4⟩:=k9 x hx
  ⟨e,se,a1,a2,a3,a4.mono hm⟩⟩
theorem Jb(c:av):(∃q ver k v l cu,c= .lR q ver k v l cu)\/(∀ρ kp,c.Ns ρ kp=c.fS ρ)/\∀s v fr,de.there s (.obj v fr c)=c.there s:=by
 cases c <;> first | exact .inl ⟨_,_,_,_,_,_,rfl⟩ | exact .inr ⟨λ_ _=>rfl,λ_ _ _=>rfl⟩
section
variable {P:Program} {C:Ctx} {g:Nat->jm} {β:Id->Option Pl} {s:AS} {a:Act} {w:World}
theorem Inv.Bh(h:Inv C g β s a w)(hC:C.ok){s1:AS}{g1:Nat->jm}{β1:Id->Option Pl}(ρ:Ren)(hlen:s1.bR.length=s.bR.length)(ht:Trans w w g g1)(hle:pI ρ (s.env w g β) (s1.env w g1 β1))
  (yL:∀i,VS (s1.env w g1 β1) (s1.slot i) (a.tmps.getD i undef))
  (cj:∀id ver fr c,s1.bG id=some (.obj ver fr c)->nb (s1.env w g1 β1) id fr c\/∃id0 v0 c0,s.bG id0=some (.obj v0 fr c0)/\c0.fS ρ=c/\β1 id=β id0/\∀pl,β id0=some pl->(∀k,g pl.b= .own (.id id0) k->g1 pl.b= .own (.id id) k)/\(g pl.b= .free->g1 pl.b= .free))
  (hold:∀k,(s.bG (.dd k)≠none->s1.bG (.dd k)≠none)/\(∀v fr c,s1.bG (.dd k)=some (.obj v fr c)->∃c0,s.bG (.dd k)=some (.obj v fr c0))/\β1 (.dd k)=β (.dd k)):Inv C g1 β1 s1 a w:=by
 refine⟨h.defers.mono ht,by rw[hlen];exact h.size,yL,λid ver fr c cP=> ?_,h.trans.trans ht,?_⟩
 ·rcases cj id ver fr c cP with ho | ⟨id0,v0,c0,h1,h2,h3,h4⟩
  ·exact ho
  have:=nc hle (h.bo id0 v0 fr c0 h1) (id':=id) h3 λpl hp=>⟨rfl,(h4 pl hp).1,(h4 pl hp).2⟩
  rw[h2]at this
  exact this
 ·have hl:=h.le
  have ho:∀id ver,C.E.rp id ver->∃k,id= .dd k:=λid ver hb=>by
   cases id with
   |dd k=>exact⟨k,rfl⟩
   |new i j=>exact absurd (hC.1 i j) hb.1
  refine⟨hl.mem.trans (Trans.mem (E:=s.env w g β) (E':=s1.env w g1 β1) ht),λid ver hb=> ?_,λid ver hb hc=> ?_⟩
  ·obtain⟨k,rfl⟩:=ho id ver hb
   obtain⟨h1,h2⟩:=hl.rp _ ver hb
   obtain⟨e1,e2,_⟩:=hold k
   exact⟨e1 h1,λv fr c hh=>let⟨c0,xO⟩:=e2 v fr c hh;h2 v fr c0 xO⟩
  ·obtain⟨k,rfl⟩:=ho id ver hb
   obtain⟨fr,c,hc⟩:=hc
   obtain⟨_,e2,e3⟩:=hold k
   obtain⟨c0,xO⟩:=e2 _ _ _ hc
   obtain⟨h1,h2⟩:=hl.cur _ ver hb ⟨fr,c0,xO⟩
   exact⟨h1,e3.trans h2⟩
theorem Inv.renamed(h:Inv C g β s a w)(hC:C.ok){s1:AS}{β1:Id->Option Pl}(ρ:Ren)(hlen:s1.bR.length=s.bR.length)(hle:pI ρ (s.env w g β) (s1.env w g β1))
  (yL:∀i,VS (s1.env w g β1) (s1.slot i) (a.tmps.getD i undef)) (cj:∀id ver fr c,s1.bG id=some (.obj ver fr c)->nb (s1.env w g β1) id fr c\/∃v0,s.bG id=some (.obj v0 fr c)/\c.fS ρ=c/\β1 id=β id)
  (hold:∀k,s1.bG (.dd k)=s.bG (.dd k)/\β1 (.dd k)=β (.dd k)):Inv C g β1 s1 a w:=
 h.Bh hC ρ hlen (Trans.refl w g) hle yL (λid ver fr c cP=>(cj id ver fr c cP).imp (λh=>h) λ⟨v0,h1,h2,h3⟩=>⟨id,v0,c,h1,h2,h3,λ_ _=>⟨λ_ h=>h,λh=>h⟩⟩)
  λk=>⟨λhh=>by rw[(hold k).1];exact hh,λv fr c hh=>⟨c,(hold k).1.symm.trans hh⟩,(hold k).2⟩
theorem Inv.PF(h:Inv C g β s a w)(j:Nat){v:av}(hv:VS (s.env w g β) v (a.tmps.getD j undef)):Inv C g β (s.put (some j) v) a w:=by
 refine⟨h.defers,by simpa[AS.put]using h.size,λi=> ?_,by simpa using h.bo,h.trans,by simpa using h.le⟩
 rw[BJ,zA]
 split
 ·rename_i QV;rw[QV.1];exact hv
 ·exact h.bR i
theorem wK(bI:List Nat):∀(l:List av) (n i:Nat),(dG bI n l).getD i .undef= .undef\/(dG bI n l).getD i .undef=l.getD i .undef
 |[],n,i=>by simp[dG]
 |v::l,n,0=>by
  simp only[dG,iL]
  split
  ·exact .inr rfl
  ·exact .inl rfl
 |v::l,n,i+1=>by
  simp only[dG,List.getD_cons_succ]
  exact wK bI l (n+1) i
theorem qc(bI:List Nat):∀(l:List av) (n:Nat),(dG bI n l).length=l.length
 |[],n=>rfl
 |v::l,n=>by simp[dG,qc bI l]
theorem Bm(bI:List Nat):∀(l:List (List de)) (n i:Nat),(jL bI n l).getD i []=[]\/(jL bI n l).getD i []=l.getD i []
 |[],n,i=>by simp[jL]
 |v::l,n,0=>by
  simp only[jL,iL]
  split
  ·exact .inr rfl
  ·exact .inl rfl
 |v::l,n,i+1=>by
  simp only[jL,List.getD_cons_succ]
  exact Bm bI l (n+1) i
theorem Hy{s:AS}(i:Nat):s.slot i= .undef\/s.slot i∈s.bR:=by
 unfold AS.slot
 rw[ay]
 cases h:s.bR[i]? with
 |none=>exact .inl rfl
 |some v=>exact .inr (cE h)
theorem Km{s:AS}{id:Id}{e:de}(h:s.bG id=some e):e∈s.bT\/∃es∈s.news,e∈es:=by
 cases id with
 |dd k=>exact .inl (cE h)
 |new i j=>
  simp only[AS.bG,ay]at h
  cases hi:s.news[i]? with
  |none=>rw[hi]at h;simp at h
  |some es=>rw[hi]at h;exact .inr ⟨es,cE hi,cE h⟩
theorem Inv.bI(h:Inv C g β s a w)(hC:C.ok){an:jQ}(ht:(uW an s).CD=true):Inv C g β (uW an s) a w:=by
 obtain⟨ks,kt,_,_,_⟩:=an
 obtain⟨s1,xA⟩:∃s1:AS,s1= {bR:=dG ks 0 s.bR,bT:=s.bT,news:=jL kt 0 s.news}:=⟨_,rfl⟩
 have e1:s1.bR=dG ks 0 s.bR:=by rw[xA]
 have e2:s1.bT=s.bT:=by rw[xA]
 have e3:s1.news=jL kt 0 s.news:=by rw[xA]
 have ht:(s1.bR.all (av.there s1) && s1.bT.all (de.there s1) && s1.news.all λes=>es.all (de.there s1))=true:=by rw[xA];exact ht
 show Inv C g β {bR:=dG ks 0 s.bR,bT:=s.bT,news:=jL kt 0 s.news} a w
 rw[<-xA]
 rw[ag,ag]at ht
 obtain⟨⟨t1,t2⟩,t3⟩:=ht
 have cj:∀id,s1.bG id=none\/s1.bG id=s.bG id:=λid=>by
  cases id with
  |dd k=>right;simp only[AS.bG,e2]
  |new i j=>
   simp only[AS.bG,e3]
   rcases Bm kt s.news 0 i with h | h
   ·rw[h];exact .inl rfl
   ·rw[h];exact .inr rfl
 have KA:∀id,(s1.obj id).isSome=true->s1.bG id=s.bG id:=λid hi=>by
  rcases cj id with h | h
  ·simp[AS.obj,h]at hi
  ·exact h
 let ρ:Ren:=λid ver=>if(s1.obj id).isSome=true then some (id,ver) else none
 have hρ:∀v:av,v.there s1=true->v.fS ρ=v:=nB λid cP ver=>if_pos cP
 have hle:pI ρ (s.env w g β) (s1.env w g β):=by
  refine⟨⟨λ_ _ _ h=>h,λ_ _ h h'=>⟨h,h'⟩⟩,λid ver r hr hb=> ?_⟩
  by_cases hi:(s1.obj id).isSome=true
  ·have:ρ id ver=some (id,ver):=if_pos hi
   rw[this,ao]at hr
   subst hr
   have e:=KA id hi
   obtain⟨b1,b2⟩:=hb
   exact⟨⟨by show s1.bG id≠none;rw[e];exact b1,λv fr c hh=>b2 v fr c (e.symm.trans hh)⟩,λ⟨fr,c,hc⟩=>⟨⟨fr,c,e.symm.trans hc⟩,rfl⟩⟩
  ·have:ρ id ver=none:=if_neg hi
   rw[this]at hr;cases hr
 refine h.renamed hC ρ (by rw[e1,qc]) hle (λi=> ?_) (λid ver fr c cP=> ?_) λk=>⟨by simp only[AS.bG,e2],rfl⟩
 ·rcases Hy (s:=s1) i with hi | hi
  ·rw[hi];exact VS.undef
  ·have Rs:=cM.1 t1 _ hi
   rcases wK ks s.bR 0 i with h1 | h1
   ·have:s1.slot i= .undef:=by simp only[AS.slot,e1,h1]
    rw[this];exact VS.undef
   ·have:s1.slot i=s.slot i:=by simp only[AS.slot,e1,h1]
    have hv:=tF hle (h.bR i)
    rw[<-this,hρ _ Rs]at hv
    exact hv
 ·have:s1.bG id=s.bG id:=by
   rcases cj id with h | h
   ·rw[h]at cP;cases cP
   ·exact h
  have hc:de.there s1 (.obj ver fr c)=true:=by
   rcases Km cP with h | ⟨es,h1,h2⟩
   ·exact cM.1 t2 _ h
   ·exact cM.1 (cM.1 t3 _ h1) _ h2
  rcases Jb c with⟨q,vq,k,v,l,cu,rfl⟩ | ⟨_,Rs⟩
  ·have e:=KA q hc
   refine .inl (NM.bI hle.mem (λ_=>rfl) (h.bo id ver fr _ (this.symm.trans cP)) rfl (λ_ _ h=>h) λvr _=>⟨λhb=>hle.ref q vr (q,vr) (if_pos hc) hb,λk v l hk=>e.trans hk,λ_ _ h=>h⟩)
  ·rw[Rs]at hc
   exact .inr ⟨ver,this.symm.trans cP,hρ c hc,rfl⟩
theorem Inv.drop(h:Inv C g β s a w)(ks:List Nat):Inv C g β (s.drop ks) a w:=by
 refine⟨h.defers,by simpa[AS.drop,qc]using h.size,λi=> ?_,h.bo,h.trans,h.le⟩
 rcases wK ks s.bR 0 i with h1 | h1
 ·have:(s.drop ks).slot i= .undef:=h1
  rw[this];exact VS.undef
 ·have:(s.drop ks).slot i=s.slot i:=h1
  rw[this];exact h.bR i
def rb(b q:Nat):jm->jm
 | .own (.id (.new x j)) k=>if x=b then .own (.id (.new q j)) k else .own (.id (.new x j)) k
 |l=>l
theorem Trans.PE(w:World)(g:Nat->jm)(b q:Nat):Trans w w g λx=>rb b q (g x):=by
 refine⟨rfl,rfl,⟨rfl,ax _⟩,ax _,λy _=> ?_⟩
 cases hg:g y with
 |free=>exact⟨by simp[rb],rfl⟩
 |own o k=>cases o with
  |dx=>exact⟨by simp[rb],rfl⟩
  |id x=>
   refine⟨.inr ?_,λ_ _ _ h=>h⟩
   cases x with
   |dd m=>exact⟨_,_,rfl,ax _⟩
   |new x j=>
    simp only[rb]
    split
    ·exact⟨_,_,rfl,ax _⟩
    ·exact⟨_,_,rfl,ax _⟩
theorem Ed(f:av->av)(hf:f .undef= .undef)(l:List av)(i:Nat):(l.map f).getD i .undef=f (l.getD i .undef):=by
 simp only[ay,dU]
 cases l[i]? <;> simp[hf]
theorem Inv.sx(h:Inv C g β s a w)(hC:C.ok){b q:Nat}(NS:b < s.news.length)(Tk:q < s.news.length):
  ∃g1 β1,Inv C g1 β1 (s.sx b q (s.news.getD b [])) a w:=by
 generalize SU:s.news.getD b []=es
 have OU:∀j,s.bG (.new b j)=es[j]? :=λj=>by rw[<-SU];rfl
 let ρ:Ren:=vn es b q
 let s1:=s.sx b q es
 have ji:∀j',s1.bG (.new q j')=(es[j']?).map (de.KW ρ):=λj'=>by
  simp[s1,AS.sx,AS.bG,ay,Tk,ρ]
 have OY:b≠q->∀j',s1.bG (.new b j')=none:=λMM j'=>by
  have hbq':¬q=b:=λe=>MM e.symm
  simp only[s1,AS.sx,AS.bG,ay]
  rw[dJ hbq',List.getElem?_set,if_pos rfl]
  split <;> simp
 have uS:∀i,(∀j',i≠ .new q j')->(∀j',i≠ .new b j')->s1.bG i=(s.bG i).map (de.Ao ρ (sP b q)):=λi hi hi'=>by
  cases i with
  |dd k=>simp[s1,AS.sx,AS.bG,ρ]
  |new x y=>
   have h1:¬q=x:=λe=>hi y (by rw[e])
   have h2:¬b=x:=λe=>hi' y (by rw[e])
   simp only[s1,AS.sx,AS.bG,ay]
   rw[dJ h1,dJ h2,dU]
   cases s.news[x]? <;> simp[ρ]
 let g1:Nat->jm:=λx=>rb b q (g x)
 let β1:Id->Option Pl:=λi=>match i with | .new x j=>if x=q then β (.new b j) else β (.new x j) | .dd k=>β (.dd k)
 have hβ1:∀i,(∀j',i≠ .new q j')->β1 i=β i:=λi hi=>by
  cases i with
  |dd k=>rfl
  |new x y=>exact if_neg λe=>hi y (by rw[e])
 have ht:Trans w w g g1:=Trans.PE w g _ _
 have hρ:∀i ver r,ρ i ver=some r->(∃j fr c,i= .new b j/\es[j]? =some (.obj ver fr c)/\r=(.new q j,0))\/((∀j',i≠ .new q j')/\(∀j',i≠ .new b j')/\r=(i,ver)):=λi ver r hr=>by
  replace hr:vn es b q i ver=some r:=hr
  cases i with
  |dd k=>exact .inr ⟨λ_=>by simp,λ_=>by simp,(aP hr).symm⟩
  |new x j=>
   unfold vn at hr
   simp only at hr
   split at hr
   ·rename_i hx
    have hx:x=b:=by simpa using hx
    subst hx
    split at hr
    ·rename_i v fr c he
     split at hr
     ·rename_i hv
      have hv:ver=v:=by simpa using hv
      subst hv
      exact .inl ⟨j,fr,c,rfl,he,(aP hr).symm⟩
     ·cases hr
    ·cases hr
   ·rename_i hx
    have hx:¬x=b:=by simpa using hx
    split at hr
    ·cases hr
    ·rename_i hx'
     have hx':¬x=q:=by simpa using hx'
     exact .inr ⟨λ_ e=>hx' (by injection e),λ_ e=>hx (by injection e),(aP hr).symm⟩
 have hle:pI ρ (s.env w g β) (s1.env w g1 β1):=by
  refine⟨Trans.mem (E:=s.env w g β) (E':=s1.env w g1 β1) ht,λi ver r hr Hj=> ?_⟩
  rcases hρ i ver r hr with⟨j,fr,c,rfl,he,rfl⟩ | ⟨hi,hi',rfl⟩
  ·refine⟨⟨by show s1.bG (.new q j)≠none;rw[ji,he];simp,λ_ _ _ _=>bh _⟩,λ_=>⟨⟨fr,c,(OU j).trans he⟩,if_pos rfl⟩⟩
  ·obtain⟨k1,k2⟩:=Hj
   have k1:s.bG i≠none:=k1
   have e:s1.bG i=(s.bG i).map (de.Ao ρ (sP b q)):=uS i hi hi'
   have back:∀v' fr' c',s1.bG i=some (.obj v' fr' c')->∃c0,s.bG i=some (.obj v' fr' c0):=λv' fr' c' hh=>by
    rw[e]at hh
    cases hs:s.bG i with
    |none=>exact absurd hs k1
    |some en=>
     rw[hs]at hh
     cases en with
     |dead=>simp[de.Ao]at hh
     |obj v0 fr0 c0=>
      simp only[dq,de.Ao,ao,de.obj.injEq]at hh
      obtain⟨rfl,rfl,_⟩:=hh
      exact⟨c0,rfl⟩
   refine⟨⟨by
    show s1.bG i≠none
    rw[e]
    cases hs:s.bG i with
    |none=>exact absurd hs k1
    |some en=>simp,λv' fr' c' hh=> ?_⟩,λ⟨fr',c',hh⟩=> ?_⟩
   ·obtain⟨c0,xO⟩:=back v' fr' c' hh
    exact k2 v' fr' c0 xO
   ·obtain⟨c0,xO⟩:=back ver fr' c' hh
    exact⟨⟨fr',c0,xO⟩,hβ1 i hi⟩
 have PZ:∀(i:Id),(∀j',i≠ .new b j')->∀(x:Nat) (k:Nat),g x= .own (.id i) k->g1 x= .own (.id i) k:=λi hi x k hk=>by
  show rb b q (g x)=_
  rw[hk]
  cases i with
  |dd m=>rfl
  |new y j=>exact if_neg λe=>hi j (by rw[e])
 refine⟨g1,β1,h.Bh hC ρ (by simp[AS.sx]) ht hle (λi=> ?_) (λid ver fr' c' cP=> ?_) λk=>⟨λhk=> ?_,λv' fr' c' hh=> ?_,rfl⟩⟩
 ·have:(s.sx b q es).slot i=(s.slot i).fS ρ:=Ed _ rfl _ _
  rw[this]
  exact tF hle (h.bR i)
 ·have cP:s1.bG id=some (.obj ver fr' c'):=cP
  by_cases hi:∃j',id= .new q j'
  ·obtain⟨j',rfl⟩:=hi
   rw[ji]at cP
   cases he:es[j']? with
   |none=>rw[he]at cP;cases cP
   |some en=>
    rw[he]at cP
    cases en with
    |dead=>simp[de.KW]at cP
    |obj v0 fr0 c0=>
     simp only[dq,de.KW,ao,de.obj.injEq]at cP
     obtain⟨_,rfl,rfl⟩:=cP
     exact .inr ⟨.new b j',v0,c0,(OU j').trans he,rfl,if_pos rfl,λpl hp=>⟨λk hk=>by
      show rb b q (g pl.b)=_
      rw[hk];exact if_pos rfl,λhk=>by
      show rb b q (g pl.b)=_
      rw[hk];rfl⟩⟩
  ·by_cases hi':∃j',id= .new b j'
   ·obtain⟨j',rfl⟩:=hi'
    have MM:b≠q:=λe=>hi ⟨j',by rw[e]⟩
    rw[OY MM]at cP;cases cP
   ·have P3:∀j',id≠ .new q j':=λj' e=>hi ⟨j',e⟩
    have hni':∀j',id≠ .new b j':=λj' e=>hi' ⟨j',e⟩
    have e:=uS id P3 hni'
    rw[e]at cP
    cases hs:s.bG id with
    |none=>rw[hs]at cP;cases cP
    |some en=>
     rw[hs]at cP
     cases en with
     |dead=>simp[de.Ao]at cP
     |obj v0 fr0 c0=>
      simp only[dq,de.Ao,ao,de.obj.injEq]at cP
      obtain⟨rfl,rfl,rfl⟩:=cP
      rcases Jb c0 with⟨q2,vq,k,v2,l,cu,rfl⟩ | ⟨Rl,_⟩
      ·have h0:=h.bo id v0 fr0 _ hs
       left
       simp only[av.Ns]
       cases Sd:sP b q q2 with
       |true=>
        have Gt:(∀j',q2≠ .new b j')/\(∀j',q2≠ .new q j')/\∀vr,ρ q2 vr=some (q2,vr):=by
         cases q2 with
         |dd k=>exact⟨λ_=>by simp,λ_=>by simp,λ_=>rfl⟩
         |new x y=>
          simp only[sP,ag,bp,decide_eq_false_iff_not]at Sd
          obtain⟨k1,k2⟩:=Sd
          refine⟨λ_ e=>k1 (by injection e),λ_ e=>k2 (by injection e),λvr=> ?_⟩
          show vn es b q (.new x y) vr=_
          unfold vn
          simp only[decide_eq_false k1,decide_eq_false k2]
        obtain⟨Gt,Dl,hρq⟩:=Gt
        refine NM.bI hle.mem (λ_=>rfl) h0 (hβ1 id P3) (λpl _ hk=>PZ id hni' _ _ hk) λvr _=>⟨λhb=>hle.ref q2 vr (q2,vr) (hρq vr) hb,λk v l hk=> ?_,λpl _ hk=>PZ q2 Gt _ _ hk⟩
        have hk:s.bG q2=some (.obj vr true (.mp k v l)):=hk
        show s1.bG q2=_
        rw[uS q2 Dl Gt,hk]
        rfl
       |false=>
        obtain⟨pl,mb,since,seen,c0,h1,h2,h3,h4⟩:=h0
        exact⟨pl,mb,since,seen,c0,(hβ1 id P3).trans h1,h2,PZ id hni' _ _ h3,λvr Fi=>by omega⟩
      rw[Rl]
      exact .inr ⟨id,v0,c0,hs,rfl,hβ1 id P3,λpl hp=>⟨λk hk=>PZ id hni' _ _ hk,λhk=>by
       show rb b q (g pl.b)=_
       rw[hk];rfl⟩⟩
 ·have e:=uS (.dd k) (λ_=>by simp) (λ_=>by simp)
  show s1.bG (.dd k)≠none
  rw[e]
  cases hs:s.bG (.dd k) with
  |none=>exact absurd hs hk
  |some en=>simp
 ·have e:=uS (.dd k) (λ_=>by simp) (λ_=>by simp)
  have hh:s1.bG (.dd k)=some (.obj v' fr' c'):=hh
  rw[e]at hh
  cases hs:s.bG (.dd k) with
  |none=>rw[hs]at hh;cases hh
  |some en=>
   rw[hs]at hh
   cases en with
   |dead=>simp[de.Ao]at hh
   |obj v0 fr0 c0=>
    simp only[dq,de.Ao,ao,de.obj.injEq]at hh
    obtain⟨rfl,rfl,_⟩:=hh
    exact⟨c0,rfl⟩
theorem zP{k t:Ty}{l:List (k.den×t.den)}:∀ {p:List sW} {x c':av},¬(nZ (.mp k t l) p x).eval=some c'
 |[],x,c',h=>by simp only[nZ,ai]at h
 | .arr::p,x,c',h=>by simp only[nZ]at h;exact zP h
 | .idx i::p,x,c',h=>by simp only[nZ,ai]at h
 | .fst::p,x,c',h=>by simp only[nZ,ai]at h
 | .snd::p,x,c',h=>by simp only[nZ,ai]at h
theorem Cl{q:Id}{vq:Nat}{k t:Ty}{l:List (k.den×t.den)}{cu:Option (k.den×t.den)}:∀ {p:List sW} {x c':av},¬(nZ (.lR q vq k t l cu) p x).eval=some c'
 |[],x,c',h=>by simp only[nZ,ai]at h
 | .arr::p,x,c',h=>by simp only[nZ]at h;exact Cl h
 | .idx i::p,x,c',h=>by simp only[nZ,ai]at h
 | .fst::p,x,c',h=>by simp only[nZ,ai]at h
 | .snd::p,x,c',h=>by simp only[nZ,ai]at h
theorem Cm{k:mA}{f:av}{m:Nat}:∀ {p:List sW} {x c':av},¬(nZ (.nH k f m) p x).eval=some c'
 |[],x,c',h=>by simp only[nZ,ai]at h
 | .arr::p,x,c',h=>by simp only[nZ]at h;exact Cm h
 | .idx i::p,x,c',h=>by simp only[nZ,ai]at h
 | .fst::p,x,c',h=>by simp only[nZ,ai]at h
 | .snd::p,x,c',h=>by simp only[nZ,ai]at h
theorem xq{l:List Value}{n:Nat}{vs:List Value}(h:(l.drop n).take vs.length=vs):cT l n vs=l:=by
 unfold cT
 have h2:l.drop n=vs++l.drop (n+vs.length):=by
  conv=>lhs;rw[<-cW vs.length (l.drop n)]
  rw[h,eF]
 have h3:=cW n l
 rw[h2]at h3
 simpa[bg]using h3
theorem Inv.Pz(h:Inv C g β s a w){j:Nat}{p:List sW}(xx:(s.at j p).eval=some .db){q:Nat}(hq:s.di q=true){e:TypeId}{t:Ty}(hz:0 < t.size){s':AS}
  (he:((s.born q [.obj 0 false (.vec e t [])]).putAt j (.cD (.new q 0) 0 [] 0 0 0) p).eval=some s'):fF C s' a w:=by
 obtain⟨β',h1,h2,h3⟩:=h.Ju hq (e:=e) hz
 cases p with
 |nil=>
  simp only[AS.at]at xx
  have hj:=al.1 xx
  simp only[AS.putAt]at he
  obtain rfl:=al.1 he
  refine⟨g,β',h1.PF j ?_⟩
  have:=h.bR j
  rw[hj]at this
  rw[iw this]
  exact h3
 |cons st p=>
  simp only[AS.at]at xx
  simp only[AS.putAt]at he
  have yL:(s.born q [.obj 0 false (.vec e t [])]).slot j=s.slot j:=rfl
  rw[yL]at he
  split at xx
  ·rename_i id ver p0 nn hj
   split at xx
   ·rename_i v fr c iH
    obtain⟨hv,xx⟩:=aw.1 xx
    obtain⟨⟨n,u⟩,hl,xx⟩:=ak.1 xx
    have hu:=al.1 xx
    simp only at hu
    subst hu
    have cj:=dw iH
    have ga:id≠ .new q 0:=λe=>by rw[e,(gZ hq).1 0]at cj;cases cj
    have hne':∀j',id≠ .new q j':=λj' e=>by rw[e,(gZ hq).1 j']at cj;cases cj
    have nU:(s.born q [.obj 0 false (.vec e t [])]).bG id=some (.obj v fr c):=(fU _ hne').trans cj
    have M3:(s.born q [.obj 0 false (.vec e t [])]).obj id=some (v,fr,c):=by simp only[AS.obj,nU]
    simp only[hj,M3]at he
    split at he
    ·simp only[ai]at he
    ·rename_i c1 QL
     obtain⟨c',xC,he⟩:=ak.1 he
     obtain rfl:=al.1 he
     have hn:c.fJ=false:=by
      cases c <;> first | rfl | (exact(QL _ _ _ rfl).elim) | (exact absurd xC zP) | (exact absurd xC Cl) | (exact absurd xC Cm)
     have hO:=h1.bo id v fr c nU
     obtain⟨pl,cur,e0,hp,hh,hg,hk,hV⟩:=hO.box hn
     have ht:=Trans.refl w g
     have hN:=xL hk
     have hle:=b6.aH (s:=s.born q [.obj 0 false (.vec e t [])]) (β:=β') (v':=v) (fr':=fr) (c':=c.wrap c') nU (ax _) ht (λ_ _=>rfl) (λ_=>rfl)
     refine⟨g,β',h1.step (cK _ _ _) ht hle (fT.aH h1.bo (by rw[nU];simp) hle (λ_ _=>rfl) (λ_ _ _ _ _ _ _ _=>⟨rfl,rfl⟩) ?_ (kk nU λk v1 l e=>by subst e;exact absurd xC zP))⟩
     obtain⟨cs,k1,k2⟩:=h3
     have k2:cs=[.slice none 0 0]:=k2
     subst k2
     obtain⟨u1,u2,u3⟩:=kr (p0++st::p) c.strip (cur.toList.take (c.nJ cur.size)) n .db _ c' [.slice none 0 0] (VO.of hV) hl k1 xC
     have u4:=u2.to (u3.mg hV.mg)
     have qt:((cur.toList.take (c.nJ cur.size)).drop n).take 1=[.slice none 0 0]:=by
      rcases lI (p0++st::p) c.strip (cur.toList.take (c.nJ cur.size)) n .db (VO.of hV) hl with⟨M1,xO⟩ | ⟨q1,q2⟩
      ·rw[<-xO]at hV
       simp only[V]at hV
       rw[hV,M1]
       rfl
      ·simpa only[V,av.size]using q1
     rw[xq (vs:=[.slice none 0 0]) qt]at u4
     have l8:c'.size=c.strip.size:=by have e1:=u4.size;have e2:=hV.size;omega
     exact vQ.obj ⟨pl,cur,e0,hp,hh,hg,tI hk u4.pf l8,by rw[ur c u4.pf,vV u4.pf l8];exact V.mono hle u4⟩
   ·simp only[ai]at xx
  ·simp only[ai]at xx
theorem tl:∀(ids:List Id) {s:AS} {i:Id} {v:Nat} {fr:Bool} {c:av},s.bG i=some (.obj v fr c)->∃fr',(s.aQ ids).bG i=some (.obj v fr' c)
 |[],s,i,v,fr,c,h=>⟨fr,h⟩
 |id::ids,s,i,v,fr,c,h=>by
  obtain⟨fr',h'⟩:=yt (id:=id) h
  exact tl ids h'
theorem Inv.Ot(h:Inv C g β s a w){j:Nat}{p:List sW}{u:av}(xx:(s.at j p).eval=some u){t:Ty}{x:t.den}(ht:(s.fZ t u).eval=some x){s':AS}
  (he:((s.aQ u.shared).putAt j (.d t x) p).eval=some s'):fF C s' a w:=by
 cases p with
 |nil=>
  simp only[AS.at]at xx
  have hj:=al.1 xx
  simp only[AS.putAt]at he
  obtain rfl:=al.1 he
  have hs:=h.bR j
  rw[hj]at hs
  obtain⟨g',i1,_,_,cs,hR,hO⟩:=pq h hs ht
  exact⟨g',β,i1.PF j (VS.of (a:= .d t x) (cs:=cs) (by simpa only[V]using hR) hO)⟩
 |cons st p=>
  simp only[AS.at]at xx
  simp only[AS.putAt]at he
  have yL:(s.aQ u.shared).slot j=s.slot j:=by simp only[AS.slot,jF]
  rw[yL]at he
  split at xx
  ·rename_i id ver p0 nn hj
   split at xx
   ·rename_i v fr c iH
    obtain⟨hv,xx⟩:=aw.1 xx
    obtain⟨⟨n,u'⟩,hl,xx⟩:=ak.1 xx
    have hu:=al.1 xx
    simp only at hu
    subst hu
    have cj:=dw iH
    obtain⟨g',h1,h2,h3,h4⟩:=eK u'.shared h
    obtain⟨fr',nU⟩:=tl u'.shared cj
    have M3:(s.aQ u'.shared).obj id=some (v,fr',c):=by simp only[AS.obj,nU]
    simp only[hj,M3]at he
    split at he
    ·simp only[ai]at he
    ·rename_i c1 QL
     obtain⟨c',xC,he⟩:=ak.1 he
     obtain rfl:=al.1 he
     have hn:c.fJ=false:=by
      cases c <;> first | rfl | (exact(QL _ _ _ rfl).elim) | (exact absurd xC zP) | (exact absurd xC Cl) | (exact absurd xC Cm)
     obtain⟨pl0,cur0,e00,M5,MT,MS,LB,hV0⟩:=(h.bo id v fr c cj).box hn
     obtain⟨pl,cur,e0,hp,hh,hg,hk,hV⟩:=(h1.bo id v fr' c nU).box hn
     have xz:pl0=pl:=by
      have M5:β id=some pl0:=M5
      have hp:β id=some pl:=hp
      rw[M5]at hp
      exact aP hp
     subst xz
     have ef:cur0=cur:=by
      have MT:w.heap[pl0.b]? =_:=MT
      have hh:w.heap[pl0.b]? =_:=hh
      rw[MT]at hh
      simpa using(congrArg (λo=>match o with | some (.cells x _ _)=>x | _=>cur0) hh)
     subst ef
     obtain⟨cs,hVu,qt⟩:∃cs,V (s.env w g β) u' cs/\((cur0.toList.take (c.nJ cur0.size)).drop n).take cs.length=cs:=by
      rcases lI (p0++st::p) c.strip (cur0.toList.take (c.nJ cur0.size)) n u' (VO.of hV0) hl with⟨M1,xO⟩ | ⟨q1,q2⟩
      ·refine⟨cur0.toList.take (c.nJ cur0.size),by rw[xO];exact hV0,?_⟩
       rw[M1,aJ,cY]
      ·refine⟨_,q1,?_⟩
       rw[cz,cO]
       congr 1
       omega
     have hR:=nF rfl h.bo h2 u' t x cs hVu ht h4
     have hVx:V ((s.aQ u'.shared).env w g' β) (.d t x) cs:=by simpa only[V]using hR
     have ht':=Trans.refl w g'
     have hle:=b6.aH (s:=s.aQ u'.shared) (β:=β) (v':=v) (fr':=fr') (c':=c.wrap c') nU (ax _) ht' (λ_ _=>rfl) (λ_=>rfl)
     refine⟨g',β,h1.step (cK _ _ _) ht' hle (fT.aH h1.bo (by rw[nU];simp) hle (λ_ _=>rfl) (λ_ _ _ _ _ _ _ _=>⟨rfl,rfl⟩) ?_ (kk nU λk v1 l e=>by subst e;exact absurd xC zP))⟩
     obtain⟨u1,u2,u3⟩:=kr (p0++st::p) c.strip (cur0.toList.take (c.nJ cur0.size)) n u' _ c' cs (VO.of hV) hl hVx xC
     have u4:=u2.to (u3.mg hV.mg)
     rw[xq (vs:=cs) qt]at u4
     have l8:c'.size=c.strip.size:=by have e1:=u4.size;have e2:=hV.size;omega
     exact vQ.obj ⟨pl0,cur0,e0,hp,hh,hg,tI hk u4.pf l8,by rw[ur c u4.pf,vV u4.pf l8];exact V.mono hle u4⟩
   ·simp only[ai]at xx
  ·simp only[ai]at xx
theorem tT{E:Env}:∀(t:Ty) (x:t.den) (u:av),(uM t x).eval=some u->∀cs,cG E t cs x->V E u cs
 | .fD t,x,u,h,cs,hr=>by
  simp only[uM]at h
  obtain⟨h1,h2⟩:=bt.1 h
  obtain rfl:=al.1 h2
  simp only[cG]at hr
  simp only[V]
  exact hr.1 (Option.isNone_iff_eq_none.1 h1)
 | .pair a b,x,u,h,cs,hr=>by
  simp only[uM]at h
  obtain⟨u1,h1,h2⟩:=ak.1 h
  obtain⟨u2,h3,h4⟩:=ak.1 h2
  obtain rfl:=al.1 h4
  simp only[cG]at hr
  obtain⟨ca,cb,rfl,ha,hb⟩:=hr
  exact EI (tT a x.1 u1 h1 ca ha) (tT b x.2 u2 h3 cb hb)
 | .int k,x,u,h,cs,hr=>by simp only[uM]at h;obtain rfl:=al.1 h;simpa only[V]using hr
 | .bool,x,u,h,cs,hr=>by simp only[uM]at h;obtain rfl:=al.1 h;simpa only[V]using hr
 | .str,x,u,h,cs,hr=>by simp only[uM]at h;obtain rfl:=al.1 h;simpa only[V]using hr
 | .slice t,x,u,h,cs,hr=>by simp only[uM]at h;obtain rfl:=al.1 h;simpa only[V]using hr
 | .unit,x,u,h,cs,hr=>by simp only[uM]at h;obtain rfl:=al.1 h;simpa only[V]using hr
 | .arr n t,x,u,h,cs,hr=>by simp only[uM]at h;obtain rfl:=al.1 h;simpa only[V]using hr
 | .l6 t,x,u,h,cs,hr=>by simp only[uM]at h;obtain rfl:=al.1 h;simpa only[V]using hr
theorem G2{e:TypeId}{z:Nat}{c:av}{pl:Pl}{n:Nat}(hz:0 < z)(h1:n=pl.cap*z)(h2:pl.cap<=maxLen)(h3:c.size<=n):(av.bx e z c).rQ pl n e:=by
 cases z with
 |zero=>omega
 |succ z=>exact⟨rfl,h1,h2,h3⟩
theorem CM{e:TypeId}{z:Nat}{c:av}{n:Nat}(hz:0 < z):(av.bx e z c).nJ n=c.size:=by
 cases z with
 |zero=>omega
 |succ z=>rfl
theorem Cc{e e':TypeId}{z:Nat}{c:av}{pl:Pl}{n:Nat}(hz:0 < z)(h:(av.bx e z c).rQ pl n e'):e'=e/\n=pl.cap*z/\pl.cap<=maxLen/\c.size<=n:=by
 cases z with
 |zero=>omega
 |succ z=>exact h
theorem DZ{E:Env}{id:Id}{ver n:Nat}{p p':List sW}{y:Value}(h:VS E (.ptr id ver p n) y):VS E (.ptr id ver p' n) y:=by
 obtain⟨cs,h1,h2⟩:=h
 exact⟨cs,by simpa only[V]using h1,h2⟩
theorem Inv.Oy(h:Inv C g β s a w){j:Nat}{id:Id}{ver n k v:Nat}{p p':List sW}(hj:s.slot j= .ptr id ver p n){e:TypeId}{t:Ty}{r:List t.den}(iH:s.obj id=some (v,false,.vec e t r))
  (hk:k < r.length) {u:av} (hu:(uM t (nth t r k)).eval=some u):
  fF C ((s.aH id (.obj v false (.bx e t.size (.pr (.d (.arr k t) (r.take k)) (.pr u (.d (.arr (r.drop (k+1)).length t) (r.drop (k+1)))))))).put (some j) (.ptr id ver p' n)) a w:=by
 have cj:=dw iH
 obtain⟨hz,hO⟩:nb (s.env w g β) id false (.vec e t r):=h.bo id v false _ cj
 have hO:(match β id with
  |none=>r=[]
  |some pl=>∃cur k,w.heap[pl.b]? =some (.cells cur e (0,0))/\cur.size=pl.cap*t.size/\r.length<=pl.cap/\pl.cap<=maxLen/\g pl.b= .own (.id id) k/\
    k<=r.length*t.size/\(false=false->k=0)/\aO (cG (s.env w g β) t) (cur.toList.take (r.length*t.size)) r):=hO
 have ht:=Trans.refl w g
 have hle:b6 (s.env w g β) ((s.aH id (.obj v false (.bx e t.size (.pr (.d (.arr k t) (r.take k)) (.pr u (.d (.arr (r.drop (k+1)).length t) (r.drop (k+1)))))))).env w g β):=
  b6.aH cj (ax _) ht (λ_ _=>rfl) (λ_=>rfl)
 have hI:=h.step (cK _ _ _) ht hle (fT.aH h.bo (by rw[cj];simp) hle (λ_ _=>rfl) (λ_ _ _ _ _ _ _ _=>⟨rfl,rfl⟩) (M0:=uY cj) (by
  cases hp:β id with
  |none=>rw[hp]at hO;simp only at hO;subst hO;simp at hk
  |some pl=>
   rw[hp]at hO
   obtain⟨cur,k0,q1,q2,q3,q4,q5,q6,q7,q8⟩:=hO
   have LB:=q7 rfl
   subst LB
   have Ez:∀c x,cG (s.env w g β) t c x->c.length=t.size:=λc x hx=>hx.size
   have c1:=aO.take Ez k q8
   have c2:=(q8.get Ez k hk)
   have c3:=aO.drop Ez (k+1) q8
   have Cs:V (s.env w g β) u (((cur.toList.take (r.length*t.size)).drop (k*t.size)).take t.size):=tT t _ u (by rw[zj hk]at hu;exact hu) _ c2
   have Tu:=Cs.size
   have hlen:(cur.toList.take (r.length*t.size)).length=r.length*t.size:=aO.length Ez q8
   have l8:r.length*t.size<=cur.size:=by rw[q2];exact cJ _ q3
   have TV:(k+1)*t.size<=r.length*t.size:=cJ _ hk
   have Gt:(k+1)*t.size=k*t.size+t.size:=Nat.succ_mul k t.size
   have Na:u.size=t.size:=by rw[<-Tu,cz,cO,hlen];omega
   have hm:(r.drop (k+1)).length*t.size=r.length*t.size - (k+1)*t.size:=by rw[cO,Nat.sub_mul]
   have Hl:(av.pr (.d (.arr k t) (r.take k)) (.pr u (.d (.arr (r.drop (k+1)).length t) (r.drop (k+1))))).size=r.length*t.size:=by
    simp only[av.size,Ty.size,Na,hm]
    omega
   refine vQ.obj ⟨pl,cur,e,hp,q1,q5,G2 hz q2 q4 (by rw[Hl];exact l8),?_⟩
   rw[CM hz,Hl]
   refine V.mono hle ?_
   show V _ (.pr (.d (.arr k t) (r.take k)) (.pr u (.d (.arr (r.drop (k+1)).length t) (r.drop (k+1))))) _
   simp only[V]
   generalize cur.toList.take (r.length*t.size)=R at*
   refine⟨R.take (k*t.size),R.drop (k*t.size),(cW _ _).symm,?_,(R.drop (k*t.size)).take t.size,R.drop ((k+1)*t.size),?_,Cs,?_⟩
   ·simp only[cG]
    exact⟨by rw[cz];omega,c1⟩
   ·rw[Gt,<-eF,cW]
   ·simp only[cG]
    exact⟨trivial,c3⟩))
 refine⟨g,β,hI.PF j ?_⟩
 have:=h.bR j
 rw[hj]at this
 exact DZ (VS.mono hle this)
theorem wc:∀(l:List Nat) {s s1:AS},fF C s a w->(Hf s l).eval=some s1->fF C s1 a w
 |[],s,s1,h,he=>by
  simp only[Hf]at he
  obtain rfl:=al.1 he
  exact h
 |j::l,s,s1,h,he=>by
  obtain⟨g,β,h⟩:=h
  simp only[Hf]at he
  split at he
  ·rename_i id ver k p n hj
   split at he
   ·rename_i v e t r iH
    obtain⟨h1,he⟩:=aw.1 he
    obtain⟨h2,he⟩:=bt.1 he
    obtain⟨u,h3,he⟩:=ak.1 he
    exact wc l (h.Oy hj iH (of_decide_eq_true h2) h3) he
   ·simp only[ai]at he
  ·exact wc l ⟨g,β,h⟩ he
  ·simp only[ai]at he
theorem v8{s:AS}{id i:Id}(h:i≠id):(s.freeze id).bG i=s.bG i:=by
 unfold AS.freeze
 split
 ·exact cC s id i _ h
 ·rfl
theorem nT:∀(ids:List Id) {s:AS} {i:Id},i ∉ ids->(s.aQ ids).bG i=s.bG i
 |[],_,_,_=>rfl
 |id::ids,s,i,h=>by
  have h1:i≠id:=λe=>h (by rw[e];exact aG)
  exact(nT ids λhi=>h (aF _ hi)).trans (v8 h1)
theorem Inv.PI(h:Inv C g β s a w){j:Nat}{id:Id}{ver n k m v z:Nat}{p p':List sW}(hj:s.slot j= .ptr id ver p n){e:TypeId}{t:Ty}{l1 l2:List t.den}{u:av}
  (iH:s.obj id=some (v,false,.bx e z (.pr (.d (.arr k t) l1) (.pr u (.d (.arr m t) l2))))) (hz:z=t.size) (Nf:0 < z) (cP:id ∉ u.shared) {x:t.den} (hx:(s.fZ t u).eval=some x):
  fF C (((s.aQ u.shared).aH id (.obj v false (.vec e t (l1++x::l2)))).put (some j) (.ptr id ver p' n)) a w:=by
 have cj:=dw iH
 obtain⟨pl0,cur0,e0,M5,MT,MS,LB,hV0⟩:=(h.bo id v false _ cj).box rfl
 obtain⟨g',h1,h2,h3,h4⟩:=eK u.shared h
 have nU:(s.aQ u.shared).bG id=some (.obj v false (.bx e z (.pr (.d (.arr k t) l1) (.pr u (.d (.arr m t) l2))))):=(nT _ cP).trans cj
 obtain⟨pl,cur,e1,hp,hh,hg,hk,hV⟩:=(h1.bo id v false _ nU).box rfl
 have hp:β id=some pl:=hp
 have xz:pl0=pl:=by
  have M5:β id=some pl0:=M5
  rw[M5]at hp
  exact aP hp
 subst xz
 have ef:cur0=cur:=by
  have MT:w.heap[pl0.b]? =_:=MT
  have hh:w.heap[pl0.b]? =_:=hh
  rw[MT]at hh
  simpa using(congrArg (λo=>match o with | some (.cells x _ _)=>x | _=>cur0) hh)
 subst ef
 obtain⟨rfl,q2,q4,q3⟩:=Cc Nf hk
 rw[CM Nf]at hV0
 have hV0:V (s.env w g β) (.pr (.d (.arr k t) l1) (.pr u (.d (.arr m t) l2))) _:=hV0
 have To:=hV0.size
 simp only[V]at hV0
 obtain⟨ca,cb,hR,hA,cu,cc,MN,hU,hB⟩:=hV0
 subst MN
 simp only[cG]at hA hB
 have hX:=nF rfl h.bo h2 u t x cu hU hx h4
 have Ez:∀c x,cG ((s.aQ u.shared).env w g' β) t c x->c.length=t.size:=λc x hx=>hx.size
 have cA:=hA.2.mono λ_ _ hx=>hx.mono h2.mem
 have cB:=hB.2.mono λ_ _ hx=>hx.mono h2.mem
 have mS:aO (cG ((s.aQ u.shared).env w g' β) t) (ca++(cu++cc)) (l1++x::l2):=aO.append cA ⟨cu,cc,rfl,hX,cB⟩
 have hlen:=aO.length Ez mS
 have Hl:(av.pr (.d (.arr k t) l1) (.pr u (.d (.arr m t) l2))).size=(l1++x::l2).length*t.size:=by rw[<-hlen,<-hR];exact To.symm
 rw[Hl]at hR q3
 rw[hz]at q2
 have Ff:(l1++x::l2).length<=pl0.cap:=by
  rw[q2]at q3
  exact Nat.le_of_mul_le_mul_right q3 (by omega)
 have ht:=Trans.refl w g'
 have hle:b6 ((s.aQ u.shared).env w g' β) (((s.aQ u.shared).aH id (.obj v false (.vec e1 t (l1++x::l2)))).env w g' β):=b6.aH nU (ax _) ht (λ_ _=>rfl) (λ_=>rfl)
 have hI:=h1.step (cK _ _ _) ht hle (fT.aH h1.bo (by rw[nU];simp) hle (λ_ _=>rfl) (λ_ _ _ _ _ _ _ _=>⟨rfl,rfl⟩) (M0:=kk nU λ_ _ _ e=>by cases e) (by
  refine⟨by omega,?_⟩
  show(match β id with
   |none=>l1++x::l2=[]
   |some pl=>_)
  rw[hp]
  exact⟨cur0,0,hh,q2,Ff,q4,hg,bh _,λ_=>rfl,by rw[hR];exact mS.mono λ_ _ hx=>hx.mono hle.mem⟩))
 refine⟨g',β,hI.PF j ?_⟩
 have:=h.bR j
 rw[hj]at this
 exact DZ (VS.mono (h2.trans hle) this)
theorem Br:∀(l:List Nat) {s s1:AS},fF C s a w->(JW s l).eval=some s1->fF C s1 a w
 |[],s,s1,h,he=>by
  simp only[JW]at he
  obtain rfl:=al.1 he
  exact h
 |j::l,s,s1,h,he=>by
  obtain⟨g,β,h⟩:=h
  simp only[JW]at he
  split at he
  ·rename_i id ver p n hj
   split at he
   ·rename_i v e z k t l1 u m t' l2 iH
    obtain⟨h1,he⟩:=aw.1 he
    obtain⟨l2',h2,he⟩:=ak.1 he
    obtain⟨x,h3,he⟩:=ak.1 he
    simp only[ag,beq_iff_eq,bp,beq_eq_false_iff_ne]at h1
    obtain⟨⟨⟨h5,h6⟩,h7⟩,h8⟩:=h1
    obtain⟨et,hl⟩:=gF (gU.1 h2)
    have et':t'=t:=by simpa using et
    subst et'
    simp only at hl
    subst hl
    refine Br l (h.PI hj iH h6 (by omega) (λhi=> ?_) h3) he
    have:(u.shared.any λi=>decide (i=id))=true:=kc.2 ⟨id,hi,by simp⟩
    rw[this]at h8
    cases h8
   ·simp only[ai]at he
  ·simp only[ai]at he
theorem oW:∀(l:List PO) {s s1:AS},fF C s a w->(wW s l).eval=some s1->fF C s1 a w
 |[],s,s1,h,he=>by
  simp only[wW]at he
  obtain rfl:=al.1 he
  exact h
 |o::l,s,s1,h,he=>by
  obtain⟨g,β,h⟩:=h
  unfold wW at he
  split at he
  ·exact oW l ⟨g,β,h⟩ he
  obtain⟨u,hu,he⟩:=ak.1 he
  obtain⟨x,hx,he⟩:=ak.1 he
  obtain⟨s',hs,he⟩:=ak.1 he
  exact oW l (h.Ot hu hx hs) he
theorem jM(hC:C.ok):∀(l:List Ka) {s s1:AS},fF C s a w->(oF P s l).eval=some s1->fF C s1 a w
 |[],s,s1,h,he=>by
  simp only[oF]at he
  obtain rfl:=al.1 he
  exact h
 |o::l,s,s1,h,he=>by
  obtain⟨g,β,h⟩:=h
  unfold oF at he
  split at he
  ·exact jM hC l ⟨g,β,h⟩ he
  obtain⟨u,hu,he⟩:=ak.1 he
  split at he
  ·split at he
   ·rename_i e t b s9 hv
    obtain⟨s',h1,h2⟩:=ak.1 he
    exact jM hC l (h.Pz hu hv (z8 s9) h1) h2
   ·simp only[ai]at he
  ·split at he
   ·rename_i b j ver R9
    split at he
    ·rename_i v fr c iH hm
     split at he
     ·have NS:b < s.news.length:=by
       have:=dw iH
       simp only[AS.bG,ay]at this
       cases hn:s.news[b]? with
       |none=>rw[hn]at this;simp at this
       |some es=>exact(c6.1 hn).1
      obtain⟨g1,β1,h1⟩:=h.sx hC NS (by simpa using hm)
      exact jM hC l ⟨g1,β1,h1⟩ he
     ·simp only[ai]at he
    ·simp only[ai]at he
   ·simp only[ai]at he
theorem uv:∀(l:List Nat) {s s1:AS},fF C s a w->(Bq s l).eval=some s1->fF C s1 a w
 |[],s,s1,h,he=>by
  simp only[Bq]at he
  obtain rfl:=al.1 he
  exact h
 |j::l,s,s1,h,he=>by
  obtain⟨g,β,h⟩:=h
  simp only[Bq]at he
  split at he
  ·rename_i id ver len hj
   split at he
   ·rename_i v e t r iH
    split at he
    ·obtain⟨h1,h2⟩:=bt.1 he
     have h1:len<=r.length:=by simpa using h1
     refine uv l ?_ h2
     have cj:=dw iH
     have hO:nb (s.env w g β) id false (.vec e t r):=h.bo id v false _ cj
     have ht:=Trans.refl w g
     have hle:b6 (s.env w g β) ((s.aH id (.obj v false (.vec e t (r.take len)))).env w g β):=b6.aH cj (ax _) ht (λ_ _=>rfl) (λ_=>rfl)
     refine⟨g,β,h.step (cK _ _ _) ht hle (fT.aH h.bo (by rw[cj];simp) hle (λ_ _=>rfl) (λ_ _ _ _ _ _ _ _=>⟨rfl,rfl⟩) ?_ (uY cj))⟩
     obtain⟨hz,hO⟩:=hO
     refine⟨hz,?_⟩
     have hO:(match β id with
      |none=>r=[]
      |some pl=>∃cur k,w.heap[pl.b]? =some (.cells cur e (0,0))/\cur.size=pl.cap*t.size/\r.length<=pl.cap/\pl.cap<=maxLen/\g pl.b= .own (.id id) k/\
        k<=r.length*t.size/\(false=false->k=0)/\aO (cG (s.env w g β) t) (cur.toList.take (r.length*t.size)) r):=hO
     show(match β id with
      |none=>r.take len=[]
      |some pl=>_)
     cases hp:β id with
     |none=>rw[hp]at hO;simp only at hO;subst hO;simp
     |some pl=>
      rw[hp]at hO
      obtain⟨cur,k,q1,q2,q3,q4,q5,q6,q7,q8⟩:=hO
      have hk:=q7 rfl
      subst hk
      have hlen:(r.take len).length=len:=by simp;omega
      refine⟨cur,0,q1,q2,by omega,q4,q5,bh _,λ_=>rfl,?_⟩
      have:=aO.take (λ_ _ hx=>cG.size hx) len q8
      rw[gS,ei (cJ _ h1)]at this
      rw[hlen]
      exact this.mono λ_ _ hx=>hx.mono hle.mem
    ·simp only[ai]at he
   ·simp only[ai]at he
  ·simp only[ai]at he
theorem uF:∀(l:List (Nat×Ty)) {s s1:AS},fF C s a w->(asData s l).eval=some s1->fF C s1 a w
 |[],s,s1,h,he=>by
  simp only[asData]at he
  obtain rfl:=al.1 he
  exact h
 | (j,t)::l,s,s1,h,he=>by
  obtain⟨g,β,h⟩:=h
  simp only[asData]at he
  obtain⟨x,h1,h2⟩:=ak.1 he
  obtain⟨g',i1,_,_,cs,hR,hO⟩:=pq h (h.bR j) h1
  exact uF l ⟨g',β,i1.PF j (VS.of (a:= .d t x) (cs:=cs) (by simpa only[V]using hR) hO)⟩ h2
theorem Inv.still:∀(l:List Nat) {s:AS},Inv C g β s a w->Inv C g β (s.still l) a w
 |[],s,h=>h
 |q::l,s,h=>by
  simp only[AS.still]
  split
  ·rename_i v fr i ver k t r cu iH
   exact Inv.still l (h.LO (dw iH) (.inr ⟨rfl,rfl,rfl⟩))
  ·exact Inv.still l h
theorem wS{α:Type}(l:List α):(ET l).Perm l:=Quotient.exact (s:=Jz α) (Quotient.exists_rep (Quotient.mk (Jz α) l)).choose_spec
theorem Inv.canon:∀(l:List Id) {s:AS},Inv C g β s a w->Inv C g β (s.canon l) a w
 |[],s,h=>h
 |id::l,s,h=>by
  simp only[AS.canon]
  split
  ·rename_i v fr k t r iH
   have cj:=dw iH
   have ht:=Trans.refl w g
   have hle:b6 (s.env w g β) ((s.aH id (.obj v fr (.mp k t (ET r)))).env w g β):=b6.aH cj (ax _) ht (λ_ _=>rfl) (λ_=>rfl)
   obtain⟨pl,es,clock,h1,h2,h3,⟨⟨l',h4,h5⟩,h6⟩,h7⟩:=h.bo id v fr _ cj
   refine Inv.canon l (h.step (cK _ _ _) ht hle (fT.aH h.bo (by rw[cj];simp) hle (λ_ _=>rfl) (λ_ _ _ _ _ _ _ _=>⟨rfl,rfl⟩)
    ⟨pl,es,clock,h1,h2,h3,⟨⟨l',h4.mono λ_ _ he=>he.mono hle.mem,h5.trans (wS r).symm⟩,(((wS r).map _).nodup_iff).2 h6⟩,h7⟩ ?_))
   intro ver k' v' l2 hl
   rw[cj]at hl
   simp only[ao,de.obj.injEq]at hl
   obtain⟨rfl,rfl,_⟩:=hl
   exact⟨rfl,rfl,⟨_,_,_,rfl⟩,λ_ _=>⟨rfl,rfl⟩⟩
  ·exact Inv.canon l h
theorem CQ(k v n:Nat)(i:Id)(ver:Nat):(i= .dd k/\ver=v/\nf k v n i ver=some (.dd k,n))\/(i= .dd k/\nf k v n i ver=none)\/(i≠ .dd k/\nf k v n i ver=some (i,ver)):=by
 cases i with
 |new x j=>exact .inr (.inr ⟨by simp,rfl⟩)
 |dd j=>
  simp only[nf]
  cases h1:Nat.beq j k with
  |false=>exact .inr (.inr ⟨λe=>by injection e with e;subst e;simp at h1,rfl⟩)
  |true=>
   obtain rfl:=dO h1
   cases h2:Nat.beq ver v with
   |false=>exact .inr (.inl ⟨rfl,rfl⟩)
   |true=>exact .inl ⟨rfl,dO h2,rfl⟩
theorem CO(hC:C.ok){s s1:AS}(h:Inv C g β s a w){k n:Nat}(he:(s.Iy k n).eval=some s1):Inv C g β s1 a w:=by
 unfold AS.Iy at he
 split at he
 rotate_left
 ·exact(ai.1 he).elim
 rename_i v fr c hk
 obtain⟨Sl,he⟩:=aw.1 he
 have Sl:v<=n\/1<=n:=(Bool.or_eq_true_iff.1 Sl).imp eW eW
 have hz:∀ver,C.E.rp (.dd k) ver->ver=0:=λver hb=>by
  obtain⟨h1,h2⟩:=hb
  cases hs:C.E.s (.dd k) with
  |none=>exact absurd hs h1
  |some en=>
   cases en with
   |dead=>
    have:=(h.le.rp (.dd k) (v+1) ⟨h1,λv' fr' c' hh=>by rw[hs]at hh;cases hh⟩).2 _ _ _ hk
    omega
   |obj v0 fr0 c0=>
    have:=hC.2 _ _ _ _ hs
    have:=h2 _ _ _ hs
    omega
 obtain rfl:=al.1 he
 have S7:k < s.bT.length:=by
  rcases kf k s.bT.length with h | h
  ·exact h
  ·simp[AS.bG,c7 h]at hk
 generalize xA:({bR:=s.bR.map (av.fS (nf k v n)),bT:=(s.bT.map (de.FO (nf k v n))).set k (.obj n fr (c.fS (nf k v n))),news:=s.news.map λes=>es.map (de.FO (nf k v n))}:AS)=s1
 have e0:s1.bG (.dd k)=some (.obj n fr (c.fS (nf k v n))):=by
  rw[<-xA]
  simp[AS.bG,S7]
 have e1:∀i,i≠ .dd k->s1.bG i=(s.bG i).map (de.FO (nf k v n)):=λi hi=>by
  rw[<-xA]
  cases i with
  |dd j=>
   have:¬k=j:=λe=>hi (by rw[e])
   simp only[AS.bG]
   rw[dJ this,dU]
  |new x j=>
   simp only[AS.bG,ay,dU]
   cases s.news[x]? <;> simp
 have e2:∀i v' fr' c',i≠ .dd k->s1.bG i=some (.obj v' fr' c')->∃c0,s.bG i=some (.obj v' fr' c0)/\c'=c0.fS (nf k v n):=λi v' fr' c' hi hh=>by
  rw[e1 i hi]at hh
  cases hs:s.bG i with
  |none=>rw[hs]at hh;cases hh
  |some en=>
   rw[hs]at hh
   cases en with
   |dead=>simp[de.FO]at hh
   |obj v0 fr0 c0=>
    simp only[dq,de.FO,ao,de.obj.injEq]at hh
    obtain⟨rfl,rfl,rfl⟩:=hh
    exact⟨c0,rfl,rfl⟩
 have e3:∀i,i≠ .dd k->s.bG i≠none->s1.bG i≠none:=λi hi hh=>by
  rw[e1 i hi]
  cases hs:s.bG i with
  |none=>exact absurd hs hh
  |some en=>simp
 have hle:pI (nf k v n) (s.env w g β) (s1.env w g β):=by
  refine⟨Trans.mem (E:=s.env w g β) (E':=s1.env w g β) (Trans.refl w g),λi ver r hr Hj=> ?_⟩
  rcases CQ k v n i ver with⟨rfl,rfl,e⟩ | ⟨rfl,e⟩ | ⟨hi,e⟩
  ·rw[e]at hr
   obtain rfl:=aP hr
   refine⟨⟨by show s1.bG (.dd k)≠none;rw[e0];simp,λv' fr' c' hh=> ?_⟩,λ_=>⟨⟨fr,c,hk⟩,rfl⟩⟩
   have hh:s1.bG (.dd k)=some (.obj v' fr' c'):=hh
   rw[e0]at hh
   simp only[ao,de.obj.injEq]at hh
   exact Nat.le_of_eq hh.1
  ·rw[e]at hr
   cases hr
  ·rw[e]at hr
   obtain rfl:=aP hr
   obtain⟨k1,k2⟩:=Hj
   have k1:s.bG i≠none:=k1
   have k2:∀v' fr' c',s.bG i=some (.obj v' fr' c')->ver<=v':=k2
   refine⟨⟨e3 i hi k1,λv' fr' c' hh=> ?_⟩,λ⟨fr',c',hh⟩=> ?_⟩
   ·obtain⟨c0,xO,_⟩:=e2 i v' fr' c' hi hh
    exact k2 _ _ _ xO
   ·obtain⟨c0,xO,_⟩:=e2 i ver fr' c' hi hh
    exact⟨⟨fr',c0,xO⟩,rfl⟩
 refine⟨h.defers,by rw[<-xA];simpa using h.size,λi=> ?_,λid ver fr' c' cP=> ?_,h.trans,?_⟩
 ·have:s1.slot i=(s.slot i).fS (nf k v n):=by rw[<-xA];exact Ed _ rfl _ _
  rw[this]
  exact tF hle (h.bR i)
 ·have cP:s1.bG id=some (.obj ver fr' c'):=cP
  by_cases hi:id= .dd k
  ·subst hi
   rw[e0]at cP
   simp only[ao,de.obj.injEq]at cP
   obtain⟨rfl,rfl,rfl⟩:=cP
   exact nc hle (h.bo (.dd k) v fr c hk) (id':= .dd k) rfl λpl _=>⟨rfl,λ_ h=>h,λh=>h⟩
  ·obtain⟨c0,xO,rfl⟩:=e2 id ver fr' c' hi cP
   exact nc hle (h.bo id ver fr' c0 xO) (id':=id) rfl λpl _=>⟨rfl,λ_ h=>h,λh=>h⟩
 ·have hl:=h.le
  refine⟨hl.mem.trans (Trans.mem (E:=s.env w g β) (E':=s1.env w g β) (Trans.refl w g)),λid ver hb=> ?_,λid ver hb hc=> ?_⟩
  ·obtain⟨h1,h2⟩:=hl.rp _ ver hb
   have h1:s.bG id≠none:=h1
   have h2:∀v' fr' c',s.bG id=some (.obj v' fr' c')->ver<=v':=h2
   by_cases hi:id= .dd k
   ·subst hi
    obtain rfl:=hz ver hb
    exact⟨by show s1.bG (.dd k)≠none;rw[e0];simp,λv' fr' c' hh=>bh _⟩
   ·exact⟨e3 id hi h1,λv' fr' c' hh=>let⟨c0,xO,_⟩:=e2 id v' fr' c' hi hh;h2 _ _ _ xO⟩
  ·obtain⟨fr',c',hc⟩:=hc
   have hc:s1.bG id=some (.obj ver fr' c'):=hc
   by_cases hi:id= .dd k
   ·subst hi
    obtain rfl:=hz ver hb
    rw[e0]at hc
    simp only[ao,de.obj.injEq]at hc
    have e4:=hc.1
    obtain rfl:v=0:=by omega
    exact hl.cur _ _ hb ⟨fr,c,hk⟩
   ·obtain⟨c0,xO,_⟩:=e2 id ver fr' c' hi hc
    exact hl.cur _ _ hb ⟨fr',c0,xO⟩
theorem qH(hC:C.ok):∀(l:List (Nat×Nat)) {s s1:AS},Inv C g β s a w->(CP s l).eval=some s1->Inv C g β s1 a w
 |[],s,s1,h,he=>by
  obtain rfl:=al.1 he
  exact h
 |x::l,s,s1,h,he=>by
  obtain⟨s2,h1,h2⟩:=ak.1 he
  exact qH hC l (CO hC h h1) h2
theorem j7(hC:C.ok){an:jQ}{s1:AS}(h:fF C s a w)(he:(norm P an s).eval=some s1):fF C s1 a w:=by
 unfold norm at he
 obtain⟨sb,SE,he⟩:=ak.1 he
 obtain⟨su,SF,he⟩:=ak.1 he
 obtain⟨sd,QA,he⟩:=ak.1 he
 obtain⟨s0,h1,h2⟩:=ak.1 he
 obtain⟨h3,h4⟩:=aw.1 h2
 obtain⟨sf,h5,h6⟩:=ak.1 h4
 obtain⟨g0,β0,h0⟩:=h
 obtain⟨g1,i1,_⟩:=eK an.E8 (qH hC _ h0 SE)
 obtain⟨g,β,h⟩:=uF _ (oW _ (Br _ ⟨g1,β0,(i1.still an.Sq).canon an.Oq⟩ SF) QA) h1
 exact jM hC _ (wc _ ⟨g,β,h.bI hC h3⟩ h5) h6
end
end Go.Ab
end
