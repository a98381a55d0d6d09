/-
  Made short by a program of mine (wip/tools/mini.py).
-/
import Derived.Test.YtlpebgkekjfhaaaGreatS25x1
import Derived.Lib.Builder
import Derived.Lib.UnsafeStr
import Derived.Lib.AppendZeros
import Derived.Maps.RangeRun
set_option linter.unusedVariables false
set_option linter.unusedSimpArgs false
set_option maxRecDepth 100000
set_option synthInstance.maxSize 5000
noncomputable section
namespace Go.Ab
section
variable {P:Program} {C:Ctx} {g:Nat->lG} {β:Id->Option Pl} {s:AS} {a:Act} {w:World} {o:Oper}
theorem td{b:Builtin}{args:Array Operand}{ts:Array TypeId}{f:Sem Value}{x:Value}{w':World}(ho:o.op= .call {callee:= .builtin b,args,argTypes:=ts})
  (hb:∀ty cs xs,xs=args.map a.eval->builtin b ts ty cs xs=(do pure (.value (<-f)))) (hf:f.run P w= .ok x w'):(execOp a.eval o).run P w= .ok (.value x) w':=by
 simp only[execOp,ho,resolve,Sem.run_bind,Sem.run_pure,Result.andThen_ok,invoke]
 rw[hb _ _ _ rfl,Sem.run_bind,hf]
 rfl
theorem Md(h:Inv C g β s a w){c:Call}{x:Operand}{T:TypeId}(ho:o.op= .call c)(hc:c.callee= .builtin .len)(ha:c.args.toList=[x])(ht:c.argTypes.toList=[T]){v:az}(he:(NN P T (s.ev x)).eval=some v):
  fU P o a w (iN C (s.put o.dst v)):=by
 obtain⟨cal,args,tys⟩:=c
 simp only at hc ha ht
 have ha':args= #[x]:=by apply gA;simpa using ha
 have ht':tys= #[T]:=by apply gA;simpa using ht
 subst hc ha' ht'
 have hx:=h.ev x
 have fin:∀z,(Builtin.len_ #[T] 0 #[a.eval x]).run P w= .ok z w->VS (s.env w g β) v z->fU P o a w (iN C (s.put o.dst v)):=by
  intro z h1 h2
  refine h.value h2 (td ho (f:=Builtin.len_ #[T] 0 #[a.eval x]) (λty cs xs Hj=> ?_) h1)
  subst Hj
  have e1:Builtin.len_ #[T] 0 #[a.eval x]=Builtin.len_ #[T] ty #[a.eval x]:=rfl
  rw[e1]
  simp[builtin]
 unfold NN at he
 split at he
 ·rename_i st hT hl
  rw[hl]at hx
  obtain rfl:=aw.1 he
  refine fin (.int .i64 (st.size:Int)) ?_ (ky _ _)
  rw[vB hx]
  simp[Builtin.len_,run_underlying hT,goInt]
 ·rename_i e t l hT hl
  rw[hl]at hx
  obtain rfl:=aw.1 he
  obtain⟨ad,cap,vs,hy,_⟩:=pc hx
  refine fin (.int .i64 (l.length:Int)) ?_ (ky _ _)
  rw[hy]
  simp[Builtin.len_,run_underlying hT,goInt]
 ·rename_i e hT hl
  rw[hl]at hx
  obtain rfl:=aw.1 he
  refine fin (.int .i64 0) ?_ (ky _ _)
  rw[km hx]
  simp[Builtin.len_,run_underlying hT,goInt]
 ·rename_i e id ver p c i len hT hl
  rw[hl]at hx
  obtain rfl:=aw.1 he
  obtain⟨ad,cap,hy,_⟩:=nJ hx
  refine fin (.int .i64 (len:Int)) ?_ (ky _ _)
  rw[hy]
  simp[Builtin.len_,run_underlying hT,goInt]
 ·rename_i n e hT
  obtain rfl:=aw.1 he
  refine fin (.int .i64 (n:Int)) ?_ (ky _ _)
  simp[Builtin.len_,run_underlying hT,goInt]
 ·simp only[ao]at he
def Env.open(E:Env):Env:= {E with g:=λ_=> .free}
theorem NU(E:Env):c7 E E.open:=⟨⟨λ_ _ _ h=>⟨h.1,trivial⟩,λ_ _ _ h=>⟨rfl,h⟩⟩,λ_ _ h=>h,λ_ _ _ h=>⟨h,rfl⟩⟩
theorem Iq(h:Inv C g β s a w){v:az}{y:Value}(hv:VS (s.env w g β) v y){t:Ty}{x:t.den}(ht:(s.Ip t v).eval=some x):
  ∃cs,dn (s.env w g β).open t cs x/\gd t.agg cs y:=by
 obtain⟨cs,hV,hO⟩:=hv.fg (s9 ht)
 exact⟨cs,qJ rfl h.bU (NU _) v t x cs hV ht (λid _ v fr c _ pl _ j x hx _=>⟨hx,trivial⟩),by rw[<-Cw ht];exact hO⟩
theorem qk{E:Env}{k:IntKind}:∀ {vs:List Value} {l:List Int},bA (dn E (.int k)) vs l->vs=l.map (Value.int k)
 |vs,[],h=>h
 |_,x::xs,⟨c,cs',e,hx,hr⟩=>by
  have hx':c=[Value.int k x]:=by simpa only[dn]using hx
  rw[e,hx',qk hr]
  rfl
theorem qp{E:Env}{k:IntKind}:∀(l:List Int),bA (dn E (.int k)) (l.map (Value.int k)) l
 |[]=>rfl
 |x::xs=>⟨[.int k x],xs.map (Value.int k),rfl,by simp[dn],qp xs⟩
theorem foldl_push(l:List Int):∀b:ByteArray,l.foldl (λr n=>r.push (UInt8.ofNat n.toNat)) b=⟨b.data++(l.map λn=>UInt8.ofNat n.toNat).toArray⟩:=by
 induction l with
 |nil=>intro b;simp
 |cons n l ih=>
  intro b
  rw[cZ,ih]
  simp[ByteArray.push]
theorem GL{α:Type}(xs:Array α)(x:α)(f:α->α):(xs.push x).modify xs.size f=xs.push (f x):=by
 apply nK
 intro i
 rw[gH,Array.getElem?_push,Array.getElem?_push]
 by_cases h:i=xs.size
 ·subst h;simp
 ·have h':¬xs.size=i:=λe=>h e.symm
  simp[h,h']
theorem Et(w:World)(c:Array Value)(e:TypeId)(n:Nat):(w.alloc (.cells c e)).freeze ⟨w.heap.size,n,none⟩ 1=w.alloc (.cells c e (n,n+1)):=by
 show({w with heap:=(w.heap.push (.cells c e)).modify w.heap.size _}:World)= {w with heap:=w.heap.push (.cells c e (n,n+1))}
 rw[GL]
 rfl
theorem FW{w:World}{b:Nat}{c:Array Value}{e:TypeId}{n:Nat}(h:w.heap[b]? =some (.cells c e (n,n+1))):w.freeze ⟨b,n,none⟩ 1=w:=by
 unfold World.freeze
 rw[if_neg (by omega)]
 have:∀f:Obj->Obj,f (.cells c e (n,n+1))= .cells c e (n,n+1)->w.heap.modify b f=w.heap:=λf hf=>by
  apply nK
  intro i
  rw[gH]
  split
  ·rename_i hi;subst hi;rw[h];simp[hf]
  ·rfl
 rw[this]
 simp
theorem yr(e:TypeId)(st:ByteArray)(w:World):∃cap:Nat,st.size<=cap/\∃arr:Array Value,(∀(j:Nat) (v:Value),((bC st).map (Value.int .u8))[j]? =some v->arr[j]? =some v)/\
  (Conv.stringToBytes e st).run P w= .ok (.slice (some ⟨w.heap.size,0,none⟩) st.size cap) (w.drew.alloc (.cells arr e (arr.size,arr.size+1))):=by
 refine⟨(Question.appendCap st.size 0 e).cut (w.tape w.drawn (.appendCap st.size 0 e)),by simp[Question.cut],
  (st.data.map λb=>Value.int .u8 b.toNat)++Array.replicate ((Question.appendCap st.size 0 e).cut (w.tape w.drawn (.appendCap st.size 0 e)) - st.size) (.int .u8 0),?_,?_⟩
 ·intro j v hj
  have hl:j < st.data.size:=by
   have:=(dR.1 hj).1
   simpa[bC]using this
  rw[j1,if_pos (by simpa using hl)]
  simpa[bC,hl]using hj
 ·have hs:∀(arr:Array Value),(markStringish ⟨w.heap.size,0,none⟩).run P (w.drew.alloc (.cells arr e))= .ok () (w.drew.alloc (.cells arr e (arr.size,arr.size+1))):=by
   intro arr
   have h1:(w.drew.alloc (.cells arr e)).shape? w.heap.size=some (e,arr.size):=by
    have h2:(w.drew.alloc (.cells arr e)).heap[w.heap.size]? =some (.cells arr e):=oP w.drew _
    simp only[World.shape?,h2]
   have h3:=Et w.drew arr e arr.size
   have h4:w.drew.heap.size=w.heap.size:=rfl
   rw[h4]at h3
   simp only[markStringish,Sem.run_bind,run_shape,h1,Result.andThen_ok,run_freeze,h3]
  simp[Conv.stringToBytes,Question.forced,newRow,hs]
theorem Inv.kill(h:Inv C g β s a w){id:Id}{v:Nat}{fr:Bool}{c:az}(hs:s.cz id=some (.obj v fr c)){b:Nat}(hg:g b= .own (.id id) 0){w':World}(OG:w'.os=w.os)(Ue:w'.tape=w.tape)(Ey:w'.output=w.output/\w.drawn<=w'.drawn)(oG:w'.heap.size=w.heap.size)
  (xM:∀b',b'≠b->w'.heap[b']? =w.heap[b']?):Inv C (lM g b .free) β (s.aX id .dead) a w':=by
 have ht:Trans w w' g (lM g b .free):=by
  refine⟨OG,Ue,Ey,by omega,λb' hb'=> ?_⟩
  by_cases he:b'=b
  ·subst he
   rw[hg,fP]
   exact⟨.inl rfl,λ_ _ hh=>by omega⟩
  ·rw[fE _ _ _ he,xM b' he]
   cases Aq:g b' with
   |free=>exact⟨rfl,rfl⟩
   |own o k=>cases o with
    |eL=>exact⟨rfl,rfl⟩
    |id i=>exact⟨.inr ⟨i,k,rfl,ay _⟩,λoff v _ hv=>by simp only[World.cell?,xM b' he]at hv ⊢;exact hv⟩
 have lr:=eX s id .dead (by rw[hs];simp)
 have hle:c7 (s.env w g β) ((s.aX id .dead).env w' (lM g b .free) β):=by
  refine⟨Trans.mem ht,λi ver hb=> ?_,λi ver hb hc=> ?_⟩
  ·by_cases hi:i=id
   ·subst hi
    exact⟨by show(s.aX i .dead).cz i≠none;rw[lr];simp,λv fr c hh=>by
     have hh:(s.aX i .dead).cz i=some (.obj v fr c):=hh
     rw[lr]at hh;cases hh⟩
   ·have:=dh s id i .dead hi
    obtain⟨h1,h2⟩:=hb
    exact⟨by show(s.aX id .dead).cz i≠none;rw[this];exact h1,λv fr c hh=>h2 v fr c (this.symm.trans hh)⟩
  ·obtain⟨fr,c,hc⟩:=hc
   have hc:(s.aX id .dead).cz i=some (.obj ver fr c):=hc
   by_cases hi:i=id
   ·subst hi;rw[lr]at hc;cases hc
   ·rw[dh s id i .dead hi]at hc
    exact⟨⟨fr,c,hc⟩,rfl⟩
 refine h.step (du _ _ _) ht hle λi ver fr c hi=> ?_
 have hi:(s.aX id .dead).cz i=some (.obj ver fr c):=hi
 by_cases dz:i=id
 ·subst dz;rw[lr]at hi;cases hi
 ·rw[dh s id i .dead dz]at hi
  refine(h.bU i ver fr c hi).mono hle rfl (λpl hp=> ?_) λq2 vq k2 v2 l2 Bq Vu=> ?_
  ·have jb:=h.apart hg dz hi (pl:=pl) hp
   exact⟨xM pl.b jb,fE _ _ _ jb⟩
  ·have Bq:s.cz q2=some (.obj vq true (.mp k2 v2 l2)):=Bq
   have hd:q2≠id:=λe=>by
    obtain⟨fr3,c3,Oq⟩:=Vu
    have Oq:(s.aX id .dead).cz q2=some (.obj vq fr3 c3):=Oq
    rw[e,lr]at Oq
    cases Oq
   refine⟨⟨k2,v2,l2,by show(s.aX id .dead).cz q2=_;rw[dh s id q2 .dead hd];exact Bq⟩,λpl hp=> ?_⟩
   have jb:=h.apart hg hd Bq (pl:=pl) hp
   exact⟨xM pl.b jb,fE _ _ _ jb⟩
theorem HG(h:Inv C g β s a w){src dst:TypeId}{x:Operand}(ho:o.op= .convert src dst x){id:Id}{ver len:Nat}(hx:s.ev x= .cP id ver [] 0 0 len){s':AS}(he:(FK P s o.dst src dst id ver len).eval=some s'):fU P o a w (iN C s'):=by
 unfold FK at he
 split at he
 ·rename_i v e0 l e kG hD
  split at he
  ·rename_i hE
   obtain⟨h1,h2⟩:=aC.1 he
   obtain⟨h3,h4⟩:=bZ.1 h2
   obtain rfl:=aw.1 h4
   simp only[ak,beq_iff_eq]at h1
   obtain⟨rfl,rfl⟩:=h1
   simp only[decide_eq_true_eq]at h3
   obtain⟨h5,h6⟩:=h3
   have db:=eJ kG
   have hv:=h.ev x
   rw[hx]at hv
   obtain⟨ad,cap,hy,xK,_,_,fF⟩:=nJ hv
   have fF:=fF ⟨false,_,db⟩
   have hO:qf (s.env w g β) id false (.vec e0 (.int .u8) l):=h.bU id v false _ db
   obtain⟨hz,hO⟩:=hO
   have hO:(match β id with
    |none=>l=[]
    |some pl=>∃cur k,w.heap[pl.b]? =some (.cells cur e0 (0,0))/\cur.size=pl.cap*(Ty.int .u8).size/\l.length<=pl.cap/\pl.cap<=maxLen/\g pl.b= .own (.id id) k/\
      k<=l.length*(Ty.int .u8).size/\(false=false->k=0)/\bA (dn (s.env w g β) (.int .u8)) (cur.toList.take (l.length*(Ty.int .u8).size)) l):=hO
   have fF:(match β id with
    |some pl=>(0 < len\/0=0->ad=some ⟨pl.b,0,none⟩)/\(([]:List v8)=[]->0=0->cap=pl.cap)
    |none=>ad=none/\len=0/\cap=0):=fF
   cases hp:β id with
   |none=>rw[hp]at hO;simp only at hO;subst hO;simp at h6;omega
   |some pl=>
    rw[hp]at hO fF
    obtain⟨cur,k,q1,q2,q3,q4,q5,q6,q7,q8⟩:=hO
    have hk:=q7 rfl
    subst hk
    have J2:=fF.1 (.inr rfl)
    subst J2
    have hb:pl.b < w.heap.size:=(bT.1 q1).1
    have RK:∃w',w.freeze ⟨pl.b,cur.size,none⟩ 1=w'/\w'.heap[pl.b]? =some (.cells cur e0 (cur.size,cur.size+1))/\w'.os=w.os/\w'.tape=w.tape/\(w'.output=w.output/\w.drawn<=w'.drawn)/\w'.heap.size=w.heap.size/\∀b',b'≠pl.b->w'.heap[b']? =w.heap[b']? :=by
     refine⟨_,rfl,?_⟩
     unfold World.freeze
     rw[if_neg (by omega)]
     refine⟨?_,rfl,rfl,⟨rfl,ay _⟩,by simp,λb' hb'=> ?_⟩
     ·simp only[gH,if_true,q1,eF]
      rfl
     ·simp only[gH]
      rw[if_neg (λe=>hb' e.symm)]
    obtain⟨w',hw',f1,f2,f3,f4,f5,f6⟩:=RK
    have LO:w.shape? pl.b=some (e0,cur.size):=by simp only[World.shape?,q1]
    have hm:(markStringish ⟨pl.b,0,none⟩).run P w= .ok () w':=by
     simp only[markStringish,Sem.run_bind,run_shape,LO,Result.andThen_ok,run_freeze,hw']
    have i1:=h.kill db q5 f2 f3 f4 f5 f6
    refine .inl ⟨.slice (some ⟨pl.b,0,none⟩) len cap,w',ef (f:=convert src src (a.eval x)) (by simp only[execOp,ho]) ?_,_,β,i1.put o.dst ⟨_,?_,rfl⟩⟩
    ·rw[hy]
     simp[convert,run_underlying hD,run_underlying hE,hm]
    ·have wx:=qk q8
     have PW:(Ty.int .u8).size=1:=rfl
     rw[PW,lh]at wx
     simp only[V,dn]
     refine⟨_,cap,l.map (Value.int .u8),by rw[h6],by rw[<-h6];exact xK,λ_=>rfl,λj vv hj=>⟨_,_,rfl,?_,?_⟩,qp (E:=(s.aX id .dead).env w' (lM g pl.b .free) β) _⟩
     ·rw[aO]
      show w'.cell? ⟨pl.b,j,none⟩=some vv
      simp only[World.cell?,f1]
      rw[<-wx,dq]at hj
      split at hj
      ·simpa using hj
      ·cases hj
     ·show pj (lM g pl.b .free) pl.b (0+j)
      unfold pj
      rw[fP]
      trivial
  ·simp only[ao]at he
 ·simp only[ao]at he
theorem Np(h:Inv C g β s a w){src dst:TypeId}{x:Operand}(ho:o.op= .convert src dst x){l:List Int}(hl:s.ev x= .sb l){v:az}(he:(Lv P src dst l).eval=some v):fU P o a w (iN C (s.put o.dst v)):=by
 have hx:=h.ev x
 have fin:∀z,(convert src dst (a.eval x)).run P w= .ok z w->VS (s.env w g β) v z->fU P o a w (iN C (s.put o.dst v)):=by
  intro z h1 h2
  exact h.value h2 (ef (f:=convert src dst (a.eval x)) (by simp only[execOp,ho]) h1)
 unfold Lv at he
 split at he
 ·rename_i e e' hD hS
  rw[hl]at hx
  split at he
  ·rename_i hE
   obtain⟨h1,h2⟩:=aC.1 he
   obtain rfl:=aw.1 h2
   have h1:src=dst:=by simpa using h1
   subst h1
   obtain⟨cs,hv,hO⟩:=hx
   simp only[V]at hv
   obtain⟨b,cap,arr,e2,J6,xK,PK,hb,HV⟩:=hv
   have hO':cs=[a.eval x]:=hO
   rw[J6]at hO'
   have hy:a.eval x= .slice (some ⟨b,0,none⟩) l.length cap:=by simpa using hO'.symm
   rw[hD]at hS
   obtain rfl:e=e':=by simpa using hS
   refine fin (.slice (some ⟨b,0,none⟩) l.length cap) ?_ ⟨_,?_,rfl⟩
   ·rw[hy]
    have hb:w.heap[b]? =some (.cells arr e2 (arr.size,arr.size+1)):=hb
    have RK:=FW hb
    have LO:w.shape? b=some (e2,arr.size):=by simp only[World.shape?,hb]
    have hm:(markStringish ⟨b,0,none⟩).run P w= .ok () w:=by
     simp only[markStringish,Sem.run_bind,run_shape,LO,Result.andThen_ok,run_freeze,RK]
    simp[convert,run_underlying hD,run_underlying hE,hm]
   ·simp only[V,dn]
    refine⟨_,cap,l.map (Value.int .u8),rfl,xK,λ_=>rfl,λj v hj=>⟨_,_,rfl,?_,?_⟩,qp (E:=s.env w g β) _⟩
    ·rw[aO]
     show w.cell? ⟨b,j,none⟩=some v
     have hb:w.heap[b]? =some (.cells arr e2 (arr.size,arr.size+1)):=hb
     simp only[World.cell?,hb]
     simpa using HV j v hj
    ·show pj g b (0+j)
     unfold pj
     have PK:g b= .free:=PK
     rw[PK]
     trivial
  ·simp only[ao]at he
 ·simp only[ao]at he
theorem Ej(h:Inv C g β s a w){obj:Bool}{src dst:TypeId}{x:Operand}(ho:o.op= .convert src dst x){v:az}(he:(Dj P s obj src dst (s.ev x)).eval=some v):fU P o a w (iN C (s.put o.dst v)):=by
 have hx:=h.ev x
 have fin:∀z,(convert src dst (a.eval x)).run P w= .ok z w->VS (s.env w g β) v z->fU P o a w (iN C (s.put o.dst v)):=by
  intro z h1 h2
  exact h.value h2 (ef (f:=convert src dst (a.eval x)) (by simp only[execOp,ho]) h1)
 unfold Dj at he
 split at he
 ·rename_i l hl
  exact Np h ho hl he
 rename_i OA
 unfold Lu at he
 split at he
 ·rename_i k n k' d hl hD hS
  rw[hl]at hx
  obtain rfl:=aw.1 he
  refine fin (.int k' (k'.wrap n)) ?_ (ky _ _)
  rw[pD hx]
  simp[convert,run_underlying hD,run_underlying hS,Conv.intToInt]
 ·rename_i st d hl hD hS
  rw[hl]at hx
  obtain rfl:=aw.1 he
  refine fin (.string st) ?_ (D9 _)
  rw[vB hx]
  simp[convert,run_underlying hD,run_underlying hS]
 ·rename_i st e d hl hD hS
  rw[hl]at hx
  split at he
  ·rename_i hE
   obtain⟨cap,xK,arr,HV,mU⟩:=yr (P:=P) e st w
   have i1:=(h.drew).vG (.cells arr e (arr.size,arr.size+1))
   have hlen:(bC st).length=st.size:=by simp only[bC,cR,c6];rfl
   have h2:=oP w.drew (.cells arr e (arr.size,arr.size+1))
   have hex:(execOp a.eval o).run P w= .ok (.value (.slice (some ⟨w.heap.size,0,none⟩) st.size cap)) (w.drew.alloc (.cells arr e (arr.size,arr.size+1))):=by
    refine ef (f:=convert src dst (a.eval x)) (by simp only[execOp,ho]) ?_
    rw[vB hx]
    simp[convert,run_underlying hD,run_underlying hS,run_underlying hE,mU]
   have I8:lM g w.drew.heap.size .free w.heap.size= .free:=by
    rw[show w.drew.heap.size=w.heap.size from rfl,fP]
   cases obj with
   |false=>
    obtain rfl:=aw.1 he
    refine .inl ⟨_,_,hex,_,β,i1.put o.dst ⟨_,?_,rfl⟩⟩
    simp only[V,dn]
    refine⟨_,cap,(bC st).map (Value.int .u8),by rw[hlen],by omega,λ_=>rfl,λj v hj=>⟨_,_,rfl,?_,?_⟩,qp (E:=s.env (w.drew.alloc (.cells arr e (arr.size,arr.size+1))) (lM g w.drew.heap.size .free) β) _⟩
    ·have:=HV j v hj
     rw[aO]
     show(w.drew.alloc (.cells arr e (arr.size,arr.size+1))).cell? ⟨w.drew.heap.size,j,none⟩=some v
     simp only[World.cell?,h2]
     simpa using this
    ·show pj (lM g w.drew.heap.size .free) w.heap.size (0+j)
     unfold pj
     rw[I8]
     trivial
   |true=>
    obtain rfl:=aw.1 he
    refine .inl ⟨_,_,hex,_,β,i1.put o.dst ⟨_,?_,rfl⟩⟩
    simp only[V]
    exact⟨w.heap.size,cap,arr,e,by rw[hlen],by omega,I8,h2,HV⟩
  ·simp only[ao]at he
 ·rename_i e hD hS jb
  clear jb
  split at he
  ·rename_i hE
   obtain⟨l,h1,h2⟩:=au.1 he
   obtain rfl:=aw.1 h2
   obtain⟨cs,hR,hO⟩:=Iq h hx h1
   simp only[dn]at hR
   obtain⟨ad,cap,vs,rfl,K4,nb,nX,pT⟩:=hR
   have hO': [Value.slice ad (List.length l) cap]=[a.eval x]:=hO
   have hy:a.eval x= .slice ad (List.length l) cap:=by simpa using hO'.symm
   refine fin (.string (fD l)) ?_ (D9 _)
   rw[hy,run_convert_bytes_string w src dst e ad _ _ hS hE hD]
   have wx:=qk (E:=(s.env w g β).open) (k:= .u8) (vs:=vs) (l:=l) pT
   cases ad with
   |none=>
    have OA:l=[]:=by
     cases l with
     |nil=>rfl
     |cons _ _=>simp at nb
    subst OA
    rfl
   |some ad=>
    have LL:(loadCells ad (List.length l)).run P w= .ok (l.map (Value.int .u8)).toArray w:=by
     have:=run_loadCells_list (P:=P) w ad (l.map (Value.int .u8)) (λj v hj=>by
      rw[<-wx]at hj
      obtain⟨bb,off,e1,hh⟩:=nX j v hj
      simp only[ax]at e1
      subst e1
      rw[Addr.add_lit]
      exact hh.1)
     simpa using this
    rw[run_bytesToString w ad _ _ l LL,foldl_push]
    simp[fD]
  ·simp only[ao]at he
 ·simp only[ao]at he
end
end Go.Ab
namespace Go.Ab
section
variable {P:Program} {C:Ctx} {g:Nat->lG} {β:Id->Option Pl} {s:AS} {a:Act} {w:World} {o:Oper}
theorem Ds(off:Nat):∀(vs:List Value) (k:Nat) (cells:Array Value),off+k+vs.length<=cells.size->
  ((vs.zipIdx k).foldl (λcs (c,j)=>cs.setIfInBounds (off+j) c) cells).toList=dJ cells.toList (off+k) vs
 |[],k,cells,_=>by simp[dJ]
 |v::vs,k,cells,h=>by
  simp only[aD]at h
  rw[List.zipIdx_cons,cZ,Ds off vs (k+1) _ (by simpa using(by omega:off+(k+1)+vs.length<=cells.size))]
  rw[Array.toList_setIfInBounds]
  have:=list_seg_step cells.toList (off+k) v vs (by simp;omega)
  unfold dJ
  simpa[ew]using this
theorem Dp{place:Nat->Option (Nat×Nat)}{cells:Array Value}{i off:Nat}{v:Value}{vs:List Value}{rest:List (Nat×Value)}(hp:place i=some (off,vs.length))(hv:v.cells=vs.toArray)(hl:off+vs.length<=cells.size):
  Instr.fill place cells ((i,v)::rest)=Instr.fill place (dJ cells.toList off vs).toArray rest:=by
 have h1:v.cells.size=vs.length:=by rw[hv];simp
 have h2:¬(v.cells.size≠vs.length || off+v.cells.size > cells.size)=true:=by simp[h1];omega
 simp only[Instr.fill,hp]
 rw[if_neg h2]
 congr 1
 apply gA
 have:=Ds off vs 0 cells (by omega)
 simp only[cK]at this
 rw[<-this,hv]
 rw[<-Array.foldl_toList]
 simp
theorem tp{E E':Env}(hs:E.s=s.cz)(ho:jd E)(he:c7 E E'){t:Ty}(J8:∀x,VS E (s.ev x) (a.eval x)):
  ∀(ps:List (Nat×Operand)) (l:List t.den) (r:List t.den×List Id) (cells:Array Value),(jy t s ps l).eval=some r->Q4 E E' r.2->bA (dn E' t) cells.toList l->
   ∃cells',Instr.fill (λi=>some (i*t.size,t.size)) cells (ps.map λ(i,x)=>(i,a.eval x))=some cells'/\bA (dn E' t) cells'.toList r.1
 |[],l,r,cells,h,_,hc=>by
  obtain rfl:=aw.1 h
  exact⟨cells,rfl,hc⟩
 | (i,x)::ps,l,r,cells,h,hf,hc=>by
  simp only[jy]at h
  obtain⟨h1,h2⟩:=aC.1 h
  obtain⟨y,h3,h4⟩:=au.1 h2
  obtain⟨r',h5,h6⟩:=au.1 h4
  obtain rfl:=aw.1 h6
  have hi:i < l.length:=by simpa using h1
  obtain⟨cs,hV,hO⟩:=(J8 x).fg (s9 h3)
  have hR:=qJ hs ho he _ t y cs hV h3 (λid dz=>hf id (by simp[dz]))
  have tE:=hO.cells hV.one
  have hlen:=hc.length (λ_ _ hx=>dn.size hx)
  have oG:=hR.size
  have hle:i*t.size+cs.length<=cells.size:=by
   have:=dr t.size (show i+1<=l.length by omega)
   rw[eM,lj]at this
   simp at hlen
   omega
  have EA:=bA.set (λ_ _ hx=>dn.size hx) hc i hi hR
  obtain⟨cells',q1,q2⟩:=tp hs ho he J8 ps (l.set i y) r' (dJ cells.toList (i*t.size) cs).toArray h5 (λid dz=>hf id (by simp[dz])) EA
  refine⟨cells',?_,q2⟩
  rw[bR,Dp (by rw[oG]) tE hle]
  exact q1
theorem o9{E:Env}{t:Ty}{zc:Array Value}(hz:dn E t zc.toList t.zero):∀n:Nat,bA (dn E t) (madeCells zc (n*t.size)).toList (List.replicate n t.zero):=by
 have oG:zc.size=t.size:=by have:=hz.size;simpa using this
 intro n
 induction n with
 |zero=>simp[madeCells,bA]
 |succ n ih=>
  have e:(madeCells zc ((n+1)*t.size)).toList=(madeCells zc (n*t.size)).toList++zc.toList:=by
   apply kg
   intro j
   rw[eM,lj]
   simp only[madeCells,Array.toList_map,Array.toList_range,fv,List.getElem?_append,cR,List.length_range]
   by_cases hj:j < n*t.size
   ·have hj':j < n*t.size+t.size:=by omega
    simp[hj,hj',oG]
   ·by_cases hj':j < n*t.size+t.size
    ·have jt:j - n*t.size < zc.size:=by omega
     have hm:j%t.size=j - n*t.size:=by
      have:j=(j - n*t.size)+t.size*n:=by rw[Nat.mul_comm t.size n];omega
      rw[this,Nat.add_mul_mod_self_left,Nat.mod_eq_of_lt (by omega)]
      rw[Nat.mul_comm t.size n];omega
     simp[hj,hj',oG,hm]
     rw[getElem?_pos zc _ jt,getElem!_pos zc _ jt]
    ·have h1:¬j - n*t.size < zc.size:=by omega
     simp[hj,hj',h1]
  rw[e,List.replicate_succ']
  exact bA.append ih (bA.one hz)
theorem nA{nl:Bool}{T:TypeId}{e:TypeId}{t:Ty}{b:Nat}(h:tT P nl T=some (e,t,b)):
  P.underlying T=some (.slice e)/\0 < t.size/\∃i zv,P.info? e=some i/\i.size=t.size/\i.bytes=b/\i.zero=some zv/\∀E,dn E t zv.cells.toList t.zero:=by
 unfold tT at h
 split at h
 ·rename_i e' hT
  split at h
  ·rename_i t' ht
   split at h
   ·rename_i hg
    simp only[ax,da]at h
    obtain⟨rfl,rfl,rfl⟩:=h
    simp only[ak,bX,beq_iff_eq,beq_eq_false_iff_ne]at hg
    obtain⟨⟨h1,h2⟩,h3⟩:=hg
    obtain⟨i,zv,hi,hz,_,_⟩:=pP h3 {w:=default,g:=λ_=> .free,β:=λ_=>none,s:=λ_=>none}
    refine⟨hT,by omega,i,zv,hi,by rw[<-lJ hi];exact h1,by simp[Program.bytesOf,hi],hz,λE=> ?_⟩
    obtain⟨i',zv',hi',hz',hV,_⟩:=pP h3 E
    rw[hi]at hi'
    obtain rfl:i=i':=by simpa using hi'
    rw[hz]at hz'
    obtain rfl:zv=zv':=by simpa using hz'
    simpa only[V]using hV
   ·cases h
  ·cases h
 ·cases h
theorem te{T:TypeId}{e:TypeId}{t:Ty}{b:Nat}(h:AD P T=some (e,t,b)):
  P.underlying T=some (.slice e)/\0 < t.size/\∃i zv,P.info? e=some i/\i.size=t.size/\i.bytes=b/\i.zero=some zv/\∀E,dn E t zv.cells.toList t.zero:=nA h
theorem CO{T:TypeId}{e:TypeId}{t:Ty}{b:Nat}(h:Em P T=some (e,t,b)):0 < t.size:=by
 unfold Em at h
 split at h
 ·exact(nA h).2.1
 ·exact(nA h).2.1
theorem Inv.EM(h:Inv C g β s a w){q:Nat}(hq:s.eh q=true){e:TypeId}{t:Ty}{l:List t.den}{cur:Array Value}{cap:Nat}(hz:0 < t.size)(hc:bA (dn (s.env w g β) t) (cur.toList.take (l.length*t.size)) l)
  (hs:cur.size=cap*t.size) (hl:l.length<=cap) (hm:cap<=maxLen):
  ∃g' β',Inv C g' β' (s.born q [.obj 0 false (.vec e t l)]) a (w.alloc (.cells cur e))/\
   VS ((s.born q [.obj 0 false (.vec e t l)]).env (w.alloc (.cells cur e)) g' β') (.cP (.new q 0) 0 [] 0 0 l.length) (.slice (some ⟨w.heap.size,0,none⟩) l.length cap):=by
 have ht:=Trans.alloc w g (.cells cur e) (.own (.id (.new q 0)) 0)
 obtain⟨h1,h2⟩:=h.yP hq (c:= .vec e t l) (p:=some ⟨w.heap.size,cap⟩) ht (λb hb=>⟨nr w _ hb,fE _ _ _ (by omega)⟩) (λhe=>by
  refine⟨hz,?_⟩
  show(match vF β (.new q 0) (some ⟨w.heap.size,cap⟩) (.new q 0) with
   |none=>l=[]
   |some pl=>_)
  rw[jP]
  exact⟨cur,0,oP w _,hs,hl,hm,fP _ _ _,aV _,λ_=>rfl,hc.mono λ_ _ hx=>hx.mono he.mem⟩)
 refine⟨_,_,h1,_,?_,rfl⟩
 simp only[V]
 refine⟨_,_,rfl,hl,λ_=>rfl,mS hq _ _ _ _,λ_=> ?_⟩
 show(match vF β (.new q 0) (some ⟨w.heap.size,cap⟩) (.new q 0) with
   |some pl=>_
   |none=>_)
 rw[jP]
 exact⟨λ_=>rfl,λ_ _=>rfl⟩
theorem Inv.Mq(h:Inv C g β s a w){q:Nat}(hq:s.eh q=true){e:TypeId}{t:Ty}(hz:0 < t.size):
  ∃β',Inv C g β' (s.born q [.obj 0 false (.vec e t [])]) a w/\c7 (s.env w g β) ((s.born q [.obj 0 false (.vec e t [])]).env w g β')/\
   VS ((s.born q [.obj 0 false (.vec e t [])]).env w g β') (.cP (.new q 0) 0 [] 0 0 0) (.slice none 0 0):=by
 have ht:=Trans.refl w g
 obtain⟨h1,h2⟩:=h.yP hq (c:= .vec e t []) (p:=none) ht (λb hb=>⟨rfl,rfl⟩) (λhe=>by
  refine⟨hz,?_⟩
  show(match vF β (.new q 0) none (.new q 0) with
   |none=>([]:List t.den)=[]
   |some pl=>_)
  rw[jP])
 refine⟨_,h1,h2,_,?_,rfl⟩
 simp only[V]
 refine⟨_,_,rfl,ay _,λhh=>by omega,mS hq _ _ _ _,λ_=> ?_⟩
 simp[AS.env]
theorem zg(parts:Array (Nat×Operand)):(parts.map λ(i,x)=>(i,a.eval x)).toList=parts.toList.map λ(i,x)=>(i,a.eval x):=by simp
theorem An(h:Inv C g β s a w){T:TypeId}{n:Nat}{parts:Array (Nat×Operand)}{nl obj:Bool}(ho:o.op= .buildSlice T n parts){s':AS}(he:(ln P s nl obj o.dst T n parts.toList).eval=some s'):fU P o a w (iN C s'):=by
 unfold ln at he
 split at he
 ·rename_i e t b q wc hd
  obtain⟨hT,hz,i,zv,hi,Ka,NC,Hk,Kd⟩:=nA wc
  obtain⟨h1,h2⟩:=aC.1 he
  obtain⟨r,h3,h4⟩:=au.1 h2
  simp only[decide_eq_true_eq]at h1
  obtain⟨g1,i1,e1,t1,f1⟩:=gj r.2 h
  have QT:zv.cells.size=t.size:=by have:=(Kd (s.env w g β)).size;simpa using this
  obtain⟨cells',RI,pT⟩:=tp (a:=a) rfl h.bU e1 h.ev parts.toList _ r (madeCells zv.cells (n*t.size)) h3 f1 (o9 (Kd _) n)
  have RT:r.1.length=n:=by
   have:∀(ps:List (Nat×Operand)) (l:List t.den) (r:List t.den×List Id),(jy t s ps l).eval=some r->r.1.length=l.length:=by
    intro ps
    induction ps with
    |nil=>intro l r hh;obtain rfl:=aw.1 hh;rfl
    |cons p ps ih=>
     intro l r hh
     obtain⟨i,x⟩:=p
     simp only[jy]at hh
     obtain⟨_,h2⟩:=aC.1 hh
     obtain⟨y,h3,h4⟩:=au.1 h2
     obtain⟨r',h5,h6⟩:=au.1 h4
     obtain rfl:=aw.1 h6
     have:=ih _ _ h5
     simpa using this
   rw[this _ _ _ h3]
   simp
  have HX:=pT.length (λ_ _ hx=>dn.size hx)
  have mU:(execOp a.eval o).run P w= .ok (.value (.slice (some ⟨w.heap.size,0,none⟩) n n)) (w.alloc (.cells cells' e)):=by
   refine ef (f:=Instr.buildSlice T n (parts.map λ(i,x)=>(i,a.eval x))) (by simp only[execOp,ho]) ?_
   have Rv:¬n*t.size > 2^24:=by omega
   have hfill':Instr.fill (λi=>some (i*t.size,t.size)) ((Array.range (n*t.size)).map (λx=>(zv.cells)[x%zv.cells.size]!)) (parts.map λ(i,x)=>(i,a.eval x)).toList=some cells':=by
    rw[zg];exact RI
   by_cases hn:n*t.size=0
   ·have PU:n=0:=by
     rcases Nat.mul_eq_zero.1 hn with h' | h'
     ·exact h'
     ·omega
    subst PU
    simp only[mP]at hfill' Rv
    have h0:Array.range 0= #[]:=rfl
    rw[h0,Array.map_empty]at hfill'
    simp at hfill'
    simp[Instr.buildSlice,run_underlying hT,run_sizeOf hi,Ka,newRow,h0,hfill']
   ·simp[Instr.buildSlice,run_underlying hT,run_sizeOf hi,Ka,newRow,hn,Rv,zeroValue,typeInfo,hi,Hk]
    simp at hfill'
    simp[hfill']
  cases obj with
  |true=>
   simp only at h4
   obtain⟨hq,h5⟩:=aC.1 h4
   obtain rfl:=aw.1 h5
   rw[<-pO r.2]at hq
   have RJ:cells'.toList.take (r.1.length*t.size)=cells'.toList:=bz (by omega)
   obtain⟨g2,β2,i2,zP⟩:=i1.EM hq (e:=e) (l:=r.1) (cur:=cells') (cap:=n) hz (by rw[RJ];exact pT) (by simp at HX;rw[HX,RT]) (by omega) (by
    have:n<=n*t.size:=Nat.le_mul_of_pos_right n hz
    unfold maxLen;omega)
   refine .inl ⟨_,_,mU,g2,β2,?_⟩
   rw[hd]
   rw[RT]at zP ⊢
   exact i2.put (some q) zP
  |false=>
   simp only at h4
   obtain rfl:=aw.1 h4
   have i2:=i1.vG (.cells cells' e)
   refine .inl ⟨_,_,mU,lM g1 w.heap.size .free,β,?_⟩
   rw[hd]
   refine i2.put (some q) ⟨[.slice (some ⟨w.heap.size,0,none⟩) n n],?_,rfl⟩
   simp only[V,dn]
   refine⟨_,n,cells'.toList,by rw[RT],by omega,λ_=>rfl,λj v hj=>⟨_,_,rfl,?_,?_⟩,pT.mono λ_ _ hx=>hx.mono (Trans.mem (E:=(s.bD r.2).env w g1 β) (E':=(s.bD r.2).env (w.alloc (.cells cells' e)) (lM g1 w.heap.size .free) β) (Trans.alloc w g1 (.cells cells' e) .free))⟩
   ·show(w.alloc (.cells cells' e)).cell? ⟨w.heap.size,0+j,none⟩=some v
    rw[World.cell?_alloc_new,aO];simpa using hj
   ·show pj (lM g1 w.heap.size .free) w.heap.size (0+j)
    unfold pj;rw[fP];trivial
 ·simp only[ao]at he
theorem BI(h:Inv C g β s a w){T:TypeId}{x y:Operand}(ho:o.op= .makeSlice T x y){len cap:Int}(hx:(asInt (s.ev x)).eval=some len)(hy:(asInt (s.ev y)).eval=some cap){s':AS}
  (he:(og P s o.dst T len cap).eval=some s'):fU P o a w (iN C s'):=by
 obtain⟨k,hx⟩:=rP (h.ev x) hx
 obtain⟨k',hy⟩:=rP (h.ev y) hy
 unfold og at he
 split at he
 ·rename_i e t b q wc hd
  obtain⟨hT,hz,i,zv,hi,Ka,NC,Hk,Kd⟩:=te wc
  obtain⟨hq,h2⟩:=aC.1 he
  obtain⟨h3,h4⟩:=bZ.1 h2
  obtain rfl:=aw.1 h4
  simp only[ak,decide_eq_true_eq,dG]at h3
  obtain⟨⟨h5,h6⟩,h7,h8⟩:=h3
  have hbytes:(i.bytes:Int)*cap<=281474976710656:=by
   rw[NC]
   have:((cap.toNat*b:Nat):Int)<=140737488355328:=by omega
   rw[Int.natCast_mul,show((cap.toNat:Nat):Int)=cap by omega,lC]at this
   omega
  have hr:=run_make (P:=P) w T e i zv hT hi Hk k k' len cap h5 h6 hbytes (by omega)
  rw[Ka]at hr
  have QT:zv.cells.size=t.size:=by have:=(Kd (s.env w g β)).size;simpa using this
  have tW:=o9 (Kd (s.env w g β)) cap.toNat
  have P1:=bA.take (λ_ _ hx=>dn.size hx) len.toNat tW
  rw[List.take_replicate,fp (by omega)]at P1
  obtain⟨g2,β2,i2,zP⟩:=h.EM hq (e:=e) (l:=List.replicate len.toNat t.zero) (cur:=madeCells zv.cells (cap.toNat*t.size)) (cap:=cap.toNat) hz (by rw[cJ];exact P1) (size_madeCells _ _) (by rw[cJ];omega) (by unfold maxLen;omega)
  rw[cJ]at zP
  refine .inl ⟨_,_,ef (f:=Instr.makeSlice T (a.eval x) (a.eval y)) (by simp only[execOp,ho]) (by rw[hx,hy];exact hr),g2,β2,?_⟩
  rw[hd]
  exact i2.put (some q) zP
 ·simp only[ao]at he
end
end Go.Ab
namespace Go.Ab
section
variable {P:Program} {C:Ctx} {g:Nat->lG} {β:Id->Option Pl} {s:AS} {a:Act} {w:World} {o:Oper}
theorem Io:∀(c:az) (f off:Nat) (v:az),partOf c f=some (off,v)->(loc c (l9 f)).eval=some (off,v):=by
 intro c f
 induction f generalizing c with
 |zero=>
  intro off v h
  cases c with
  |d t y=>
   cases t <;> simp only[partOf,reduceCtorEq]at h
   simp only[ax,da]at h
   obtain⟨rfl,rfl⟩:=h
   rfl
  |pr b c=>
   simp only[partOf,ax,da]at h
   obtain⟨rfl,rfl⟩:=h
   simp only[l9,loc]
   cases b <;> rfl
  |_=>simp only[partOf,reduceCtorEq]at h
 |succ f ih=>
  intro off v h
  cases c with
  |d t y=>
   cases t with
   |pair ta tb=>
    simp only[partOf]at h
    cases hp:partOf (.d tb y.2) f with
    |none=>rw[hp]at h;cases h
    |some r=>
     rw[hp]at h
     simp only[ax,da]at h
     obtain⟨rfl,rfl⟩:=h
     simp only[l9,loc,au]
     exact⟨_,ih _ _ _ hp,rfl⟩
   |_=>simp only[partOf,reduceCtorEq]at h
  |pr b c=>
   simp only[partOf]at h
   cases hp:partOf c f with
   |none=>rw[hp]at h;cases h
   |some r=>
    rw[hp]at h
    simp only[ax,da]at h
    obtain⟨rfl,rfl⟩:=h
    simp only[l9,loc,au]
    exact⟨_,ih _ _ _ hp,rfl⟩
  |_=>simp only[partOf,reduceCtorEq]at h
theorem Gt(a b:az):(xW a b).agg=true:=by unfold xW;split <;> rfl
theorem C6{v x v':az}{i:Nat}(h:(ri v (l9 i) x).eval=some v'):v'.agg=true:=by
 have fin:∀ {o:Out az} {f:az->az},(∀a,(f a).agg=true)->(o.bind λa=>Out.ok (f a)).eval=some v'->v'.agg=true:=by
  intro o f hf hh
  obtain⟨_,_,h2⟩:=au.1 hh
  obtain rfl:=aw.1 h2
  exact hf _
 cases i <;> simp only[l9]at h
 all_goals
  cases v with
  |d t y=>cases t <;> first | (simp only[ri,ao]at h;done) | (simp only[ri]at h;exact fin (λ_=>Gt _ _) h)
  |pr b c=>simp only[ri]at h;exact fin (λ_=>Gt _ _) h
  |_=>simp only[ri,ao]at h
theorem vp{E:Env}(J8:∀x,VS E (s.ev x) (a.eval x)){fs:Array Field}{places:Array (Nat×Nat)}(xw:∀(i:Nat) (f:Field),fs[i]? =some f->places[i]? =some (f.offset,P.cellsOf f.type)):
  ∀(ps:List (Nat×Operand)) (v v':az) (cells:Array Value),(mZ P fs s ps v).eval=some v'->V E v cells.toList->v.agg=true->
   ∃cells',Instr.fill (places[·]?) cells (ps.map λ(i,x)=>(i,a.eval x))=some cells'/\V E v' cells'.toList/\v'.agg=true
 |[],v,v',cells,h,hV,xu=>by
  obtain rfl:=aw.1 h
  exact⟨cells,rfl,hV,xu⟩
 | (i,x)::ps,v,v',cells,h,hV,xu=>by
  simp only[mZ]at h
  split at h
  ·rename_i f off dB hf hp
   obtain⟨h1,h2⟩:=aC.1 h
   obtain⟨v1,h3,h4⟩:=au.1 h2
   simp only[ak,beq_iff_eq]at h1
   obtain⟨⟨rfl,SL⟩,UX⟩:=h1
   obtain⟨HW,_⟩:=nU UX
   obtain⟨cs,hVx,hO⟩:=(J8 x).fg HW
   have hcells:=hO.cells hVx.one
   have TN:=Io _ _ _ _ hp
   obtain⟨u1,u2,u3⟩:=na (l9 i) v cells.toList f.offset dB (s.ev x) v1 cs (VO.of hV) TN hVx h3
   have RW:v1.iO=false:=u3.o6 hV.o6
   have oG:P.cellsOf f.type=cs.length:=by rw[(uX UX).2.1];exact hVx.size.symm
   obtain⟨cells',q1,q2,q3⟩:=vp J8 xw ps v1 v' (dJ cells.toList f.offset cs).toArray h4 (by simpa using u2.to RW) (C6 h3)
   refine⟨cells',?_,q2,q3⟩
   rw[bR,Dp (by rw[xw i f hf,oG]) hcells (by simpa using u1)]
   exact q1
  ·simp only[ao]at h
theorem GP{α γ:Type}(f:α->Sem γ)(r:α->γ):∀(l:List α),(∀x∈l,(f x).run P w= .ok (r x) w)->(l.mapM f).run P w= .ok (l.map r) w
 |[],_=>by simp
 |x::xs,h=>by
  rw[List.mapM_cons]
  simp only[Sem.run_bind,h x (by simp),Result.andThen_ok,GP f r xs (λy hy=>h y (by simp[hy])),Sem.run_pure,bR]
theorem HA(h:Inv C g β s a w){T:TypeId}{parts:Array (Nat×Operand)}(ho:o.op= .build T parts){s':AS}(he:(uR P s o.dst T parts.toList).eval=some s'):fU P o a w (iN C s'):=by
 unfold uR at he
 split at he
 ·rename_i fs hT
  split at he
  ·rename_i z WC
   obtain⟨h1,h2⟩:=aC.1 he
   obtain⟨v,h3,h4⟩:=au.1 h2
   obtain rfl:=aw.1 h4
   simp only[ak,dw]at h1
   obtain⟨⟨hz,xu⟩,TK⟩:=h1
   obtain⟨i,zv,hi,Hk,hV,hO⟩:=pP hz (s.env w g β)
   let places:Array (Nat×Nat):=fs.map λf=>(f.offset,P.cellsOf f.type)
   have xw:∀(i:Nat) (f:Field),fs[i]? =some f->places[i]? =some (f.offset,P.cellsOf f.type):=by
    intro i f hf
    simp[places,hf]
   obtain⟨cells',q1,q2,q3⟩:=vp (a:=a) h.ev xw parts.toList z v zv.cells h3 hV xu
   have hm:(fs.mapM λf=>(do pure (f.offset,<-sizeOf f.type):Sem (Nat×Nat))).run P w= .ok places w:=by
    rw[Array.mapM_eq_mapM_toList]
    have:=GP (P:=P) (w:=w) (λf=>(do pure (f.offset,<-sizeOf f.type):Sem (Nat×Nat))) (λf=>(f.offset,P.cellsOf f.type)) fs.toList (by
     intro f hf
     obtain⟨j,hj⟩:=cv.1 (TK f hf)
     rw[Sem.run_bind,run_sizeOf hj,lJ hj]
     rfl)
    rw[Sem.run_map,this]
    show Result.ok _ w=Result.ok _ w
    congr 1
    apply gA
    simp[places]
   refine h.value (x:= .agg cells') (VS.of q2 (by rw[q3];simp[gd])) (ef (f:=Instr.build T (parts.map λ(i,x)=>(i,a.eval x))) (by simp only[execOp,ho]) ?_)
   have q1':Instr.fill (places[·]?) zv.cells (parts.map λ(i,x)=>(i,a.eval x)).toList=some cells':=by rw[zg];exact q1
   simp only[Instr.build,Sem.run_bind,zeroValue,typeInfo,run_program,hi,Result.andThen_ok,Sem.run_pure,Hk,run_underlying hT,hm,q1']
  ·simp only[ao]at he
 ·rename_i n e hT
  split at he
  ·rename_i t ht
   obtain⟨h1,h2⟩:=aC.1 he
   obtain⟨r,h3,h4⟩:=au.1 h2
   obtain rfl:=aw.1 h4
   simp only[ak,beq_iff_eq]at h1
   obtain⟨oG,hz⟩:=h1
   obtain⟨g1,i1,e1,t1,f1⟩:=gj r.2 h
   obtain⟨i,zv,hi,Hk,hV,hO⟩:=pP hz ((s.bD r.2).env w g1 β)
   simp only[V,dn]at hV
   obtain⟨cells',q1,q2⟩:=tp (a:=a) rfl h.bU e1 h.ev parts.toList _ r zv.cells h3 f1 hV.2
   have RT:r.1.length=n:=by
    have:∀(ps:List (Nat×Operand)) (l:List t.den) (r:List t.den×List Id),(jy t s ps l).eval=some r->r.1.length=l.length:=by
     intro ps
     induction ps with
     |nil=>intro l r hh;obtain rfl:=aw.1 hh;rfl
     |cons p ps ih=>
      intro l r hh
      obtain⟨i,x⟩:=p
      simp only[jy]at hh
      obtain⟨_,h2⟩:=aC.1 hh
      obtain⟨y,h3,h4⟩:=au.1 h2
      obtain⟨r',h5,h6⟩:=au.1 h4
      obtain rfl:=aw.1 h6
      have:=ih _ _ h5
      simpa using this
    rw[this _ _ _ h3]
    simp
   refine .inl ⟨.agg cells',w,ef (f:=Instr.build T (parts.map λ(i,x)=>(i,a.eval x))) (by simp only[execOp,ho]) ?_,g1,β,i1.put o.dst ⟨cells'.toList,?_,by simp[gd,az.agg,Ty.agg]⟩⟩
   ·have q1':Instr.fill (λi=>some (i*t.size,t.size)) zv.cells (parts.map λ(i,x)=>(i,a.eval x)).toList=some cells':=by rw[zg];exact q1
    cases TH:P.info? e with
    |none=>
     exfalso
     unfold Hd Cy at ht
     simp only[depth]at ht
     have:P.underlying e=none:=by simp[Program.underlying,TH]
     rw[this]at ht
     cases ht
    |some ie=>
     have Vb:=run_sizeOf TH w
     rw[<-lJ TH,oG]at Vb
     simp only[Instr.build,Sem.run_bind,zeroValue,typeInfo,run_program,hi,Result.andThen_ok,Sem.run_pure,Hk,run_underlying hT,Vb,q1']
   ·simp only[V,dn]
    exact⟨RT,q2⟩
  ·simp only[ao]at he
 ·simp only[ao]at he
theorem zt{T X ty e:TypeId}{i:TypeInfo}(hT:P.underlying T=some (.slice e))(hX:P.underlying X=some .string\/∃e',P.underlying X=some (.slice e'))(hi:P.info? e=some i)
  {b sLen sCap:Nat} {cur:Array Value} (hg:w.heap[b]? =some (.cells cur e (0,0))) {x:Value} {n:Nat} {news:List Value} (h1:∀u∈news,u.oneCell'=true)
  (hlen:(Builtin.lenOf x).run P w= .ok n w) (hf:(Builtin.firstCells i.size n x).run P w= .ok news.toArray w) (wu:sLen+n<=sCap) (Ex:sLen*i.size+news.length<=cur.size):
  (Builtin.append_ #[T,X] ty #[.slice (some ⟨b,0,none⟩) sLen sCap,x]).run P w= .ok (.slice (some ⟨b,0,none⟩) (sLen+n) sCap) (w.setRow b (dJ cur.toList (sLen*i.size) news).toArray):=by
 have oJ:=run_storeCells_at P b (sLen*i.size) e news 0 cur w hg (by simpa using Ex) h1
 simp only[cK]at oJ
 rcases hX with hX | ⟨e',hX⟩ <;> simp[Builtin.append_,run_underlying hT,run_underlying hX,sizeOf,typeInfo,hi,hlen,wu,hf,Addr.add_lit,oJ,dJ]
theorem uA{T X ty e:TypeId}{i:TypeInfo}(hT:P.underlying T=some (.slice e))(hX:P.underlying X=some .string\/∃e',P.underlying X=some (.slice e'))(hi:P.info? e=some i)
  {x:Value} (hlen:(Builtin.lenOf x).run P w= .ok 0 w) (hf:(Builtin.firstCells i.size 0 x).run P w= .ok #[] w):
  (Builtin.append_ #[T,X] ty #[.slice none 0 0,x]).run P w= .ok (.slice none 0 0) w:=by
 rcases hX with hX | ⟨e',hX⟩ <;> simp[Builtin.append_,run_underlying hT,run_underlying hX,sizeOf,typeInfo,hi,hlen,hf]
theorem zs{T X ty e:TypeId}{i:TypeInfo}{zv:Value}(hT:P.underlying T=some (.slice e))(hX:P.underlying X=some .string\/∃e',P.underlying X=some (.slice e'))(hi:P.info? e=some i)(Hk:i.zero=some zv)
  {ad:Option Addr} {sLen sCap:Nat} {cT:List Value} (ho:(Builtin.firstCells i.size sLen (.slice ad sLen sCap)).run P w.drew= .ok cT.toArray w.drew) {x:Value} {n:Nat} {news:List Value}
  (hlen:(Builtin.lenOf x).run P w= .ok n w) (hf:(Builtin.firstCells i.size n x).run P w.drew= .ok news.toArray w.drew) (wu:sCap < sLen+n)
  (US:((sLen+n:Nat):Int)<=9223372036854775807) (Ex:(sLen+n)*i.bytes<=140737488355328):
  (Builtin.append_ #[T,X] ty #[.slice ad sLen sCap,x]).run P w= .ok (.slice (some ⟨w.heap.size,0,none⟩) (sLen+n) (grownCap w (sLen+n) sCap e))
   (w.drew.alloc (.cells (cT.toArray++news.toArray++Builtin.zeroCells zv.cells (grownCap w (sLen+n) sCap e - (sLen+n))) e)):=by
 have hn:¬(sLen+n<=sCap):=by omega
 have h63':¬(9223372036854775807 < ((sLen:Int)+(n:Int))):=by omega
 have hfit':=growslice_fits (bytes:=i.bytes) wu Ex
 have h48':¬(281474976710656 < Builtin.nextslicecap (sLen+n) sCap*i.bytes):=by omega
 rcases hX with hX | ⟨e',hX⟩
 all_goals
  simp[Builtin.append_,run_underlying hT,run_underlying hX,sizeOf,typeInfo,zeroValue,hi,Hk,hlen,hn,h63',h48',Question.forced,hf,ho,newRow,grownCap]
  congr 2
  apply gA
  simp[bk]
end
end Go.Ab
namespace Go.Ab
section
variable {P:Program} {C:Ctx} {g:Nat->lG} {β:Id->Option Pl} {s:AS} {a:Act} {w:World} {o:Oper}
theorem Mu(h:Inv C g β s a w){v:az}{y:Value}(hv:VS (s.env w g β) v y){t:Ty}{m:List t.den}(he:(s.Ip (.slice t) v).eval=some m):
  ∃ad cap vs,y= .slice ad m.length cap/\(0 < m.length->ad.isSome=true)/\(∀j u,vs[j]? =some u->∃bb off,ad=some ⟨bb,off,none⟩/\w.cell? ⟨bb,off+j,none⟩=some u)/\bA (dn (s.env w g β) t) vs m:=by
 have hp:(s.jj (.slice t) v).eval=some m:=he
 cases v <;> first | (simp only[AS.jj,ao]at hp;done) | skip
 case df=>
  simp only[AS.jj,aw]at hp
  subst hp
  exact⟨none,0,[],km hv,by simp,λj u hj=>by simp at hj,rfl⟩
 case d t' x=>
  simp only[AS.jj]at hp
  have hp:=jW.1 hp
  have ha:(az.d t' x).agg=false:=Di hp
  have hV:=hv.single rfl ha
  simp only[V]at hV
  have hv:VS (s.env w g β) (.d (.slice t) m) y:=VS.of (cs:=[y]) (by simp only[V];exact tR hp hV) rfl
  obtain⟨ad,cap,vs,hy,_,hs,hr,hc⟩:=pc hv
  exact⟨ad,cap,vs,hy,hs,λj u hj=>let⟨bb,off,e,hh⟩:=hr j u hj;⟨bb,off,e,hh.1⟩,hc⟩
 case cP id ver p c i len=>
  simp only[AS.jj]at hp
  obtain⟨⟨n,t',l⟩,h1,h2⟩:=au.1 hp
  obtain⟨h3,h4⟩:=bZ.1 h2
  obtain⟨QM,VR⟩:=JS (E:=s.env w g β) (jW.1 h4)
  rw[QM]
  simp only[decide_eq_true_eq]at h3
  obtain⟨hc,hlen⟩:=h3
  suffices hg:∃ad cap vs,y= .slice ad (cut l i len).length cap/\(0 < (cut l i len).length->ad.isSome=true)/\(∀j u,vs[j]? =some u->∃bb off,ad=some ⟨bb,off,none⟩/\w.cell? ⟨bb,off+j,none⟩=some u)/\bA (dn (s.env w g β) t') vs (cut l i len) by
   obtain⟨ad,cap,vs,e1,e2,e3,e4⟩:=hg
   exact⟨ad,cap,vs,e1,e2,e3,VR _ e4⟩
  obtain⟨fr,c0,db,nX⟩:=zr rfl h.bU h1
  obtain⟨ad,cap,hy,hle,nb,hb,fF⟩:=nJ hv
  have fF:=fF ⟨fr,c0,db⟩
  have M5:(cut l i len).length=len:=rV hlen
  rcases nX with⟨hp,hl,_⟩ | ⟨pl,cur,e,hp,hh,oG,pT,hbound⟩
  ·rw[hp]at fF
   simp only at fF
   obtain⟨rfl,rfl,rfl⟩:=fF
   have:cut l i 0=[]:=by simp[cut]
   refine⟨none,0,[],by rw[M5];exact hy,by rw[M5];omega,λ_ _ hh=>by simp at hh,?_⟩
   rw[this];rfl
  ·rw[hp]at fF
   simp only at fF
   have hmul:(i+len)*t'.size<=l.length*t'.size:=dr _ hlen
   rw[eM]at hmul
   refine⟨ad,cap,_,by rw[M5];exact hy,by rw[M5];exact nb,?_,wP pT i len⟩
   rw[B4 _ _ _ _ _ hmul]
   intro j v hj
   rw[dq]at hj
   split at hj
   ·rename_i PQ
    rw[gf,hc]at hj
    have TO:0 < len:=by
     rcases lH len with h0 | h0
     ·subst h0;simp at PQ
     ·exact h0
    refine⟨pl.b,c,fF.1 (.inl TO),?_⟩
    have hh':w.heap[pl.b]? =some (.cells cur e (0,0)):=hh
    rw[cell_of_row w pl.b (c+j) cur e (0,0) hh']
    simpa using hj
   ·cases hj
theorem Ac(h:Inv C g β s a w){t:Ty}{X:TypeId}{x:az}{y:Value}(hx:VS (s.env w g β) x y){m:List t.den}(he:(vf P s t X x).eval=some m):
  (P.underlying X=some .string\/∃e',P.underlying X=some (.slice e'))/\∃news:List Value,bA (dn (s.env w g β) t) news m/\(Builtin.lenOf y).run P w= .ok m.length w/\
   ∀w',w'.heap=w.heap->(Builtin.firstCells t.size m.length y).run P w'= .ok news.toArray w':=by
 have sl:∀(x:az),VS (s.env w g β) x y->(match P.underlying X with
   |some (.slice _)=>s.Ip (.slice t) x
   |_=> .fail).eval=some m->(P.underlying X=some .string\/∃e',P.underlying X=some (.slice e'))/\∃news:List Value,bA (dn (s.env w g β) t) news m/\(Builtin.lenOf y).run P w= .ok m.length w/\
   ∀w',w'.heap=w.heap->(Builtin.firstCells t.size m.length y).run P w'= .ok news.toArray w':=by
  intro x hx he
  split at he
  ·rename_i e' hX
   refine⟨.inr ⟨e',hX⟩,?_⟩
   obtain⟨ad,cap,vs,rfl,nb,nX,pT⟩:=Mu h hx he
   have hlen:=bA.length (λ_ _ hx=>dn.size hx) pT
   refine⟨vs,pT,rfl,λw' hw'=> ?_⟩
   cases ad with
   |none=>
    have QL:m.length=0:=by
     rcases lH m.length with h0 | h0
     ·exact h0
     ·have:=nb h0;simp at this
    have:vs=[]:=bo (by rw[hlen,QL,mP])
    subst this
    rfl
   |some ad=>
    refine run_firstCells_some (P:=P) w' t.size _ ad _ _ vs hlen (λj v hj=> ?_)
    obtain⟨bb,off,e1,hh⟩:=nX j v hj
    simp only[ax]at e1
    subst e1
    rw[Addr.add_lit]
    simpa[World.cell?,hw']using hh
  ·simp only[ao]at he
 unfold vf at he
 split at he
 ·rename_i st
  split at he
  ·rename_i hX
   refine⟨.inl hX,?_⟩
   obtain⟨e,hm⟩:=jI (jW.1 he)
   have e':Ty.int .u8=t:=by simpa using e
   subst e'
   simp only at hm
   subst hm
   have hy:=vB hx
   subst hy
   have hlen:(bC st).length=st.size:=by simp only[bC,cR,c6];rfl
   refine⟨(bC st).map (Value.int .u8),qp _,by rw[hlen];rfl,λw' _=> ?_⟩
   rw[hlen]
   simp only[Builtin.firstCells,Sem.run_pure]
   congr 1
   apply gA
   rw[ByteArray.extract_zero_size]
   simp[bC]
  ·simp only[ao]at he
 ·exact sl _ hx he
theorem sM(z:Array Value)(n:Nat):(Builtin.zeroCells z n).size=n*z.size:=by simp[Builtin.zeroCells]
theorem JT(h:Inv C g β s a w){c:Call}{x y:Operand}{T X:TypeId}(ho:o.op= .call c)(hc:c.callee= .builtin .copy)(ha:c.args.toList=[x,y])(ht:c.argTypes.toList=[T,X]){s':AS}
  (he:(A7 P s o.dst T X (s.ev x) (s.ev y)).eval=some s'):fU P o a w (iN C s'):=by
 obtain⟨cal,args,tys⟩:=c
 simp only at hc ha ht
 have ha':args= #[x,y]:=by apply gA;simpa using ha
 have ht':tys= #[T,X]:=by apply gA;simpa using ht
 subst hc ha' ht'
 have hx:=h.ev x
 have hy:=h.ev y
 have fin:∀z w',(Builtin.copy_ #[T,X] 0 #[a.eval x,a.eval y]).run P w= .ok z w'->(∃g' β',Inv C g' β' s' (a.put o.dst z) w')->fU P o a w (iN C s'):=by
  intro z w' h1 h2
  refine .inl ⟨z,w',td ho (f:=Builtin.copy_ #[T,X] 0 #[a.eval x,a.eval y]) (λty cs xs Hj=> ?_) h1,h2⟩
  subst Hj
  have e1:Builtin.copy_ #[T,X] 0 #[a.eval x,a.eval y]=Builtin.copy_ #[T,X] ty #[a.eval x,a.eval y]:=rfl
  rw[e1]
  simp[builtin]
 unfold A7 at he
 split at he
 ·rename_i e t b id ver len wc Hj
  obtain⟨hT,hz,i,zv,hi,Ka,NC,Hk,Kd⟩:=te wc
  obtain⟨m,hm,he⟩:=au.1 he
  obtain⟨hX,news,pT,hlen,Ox⟩:=Ac h hy hm
  have NG:=pT.length (λ_ _ hx=>dn.size hx)
  have h1news:∀u∈news,u.oneCell'=true:=bA.all (λ_ _ hx=>hx.one) pT
  rw[<-Ka]at Ox
  split at he
  ·rename_i ve n t' l kG
   obtain⟨h1,xL⟩:=aC.1 he
   simp only[ak,beq_iff_eq]at h1
   obtain⟨P4,VP⟩:=h1
   subst P4 VP
   obtain⟨l',hl',CE⟩:=au.1 xL
   obtain⟨et,hl'⟩:=jI (jW.1 hl')
   have et':t'=t:=by simpa using et
   subst et'
   simp only at hl'
   subst hl'
   obtain⟨QM,QI⟩:=bZ.1 CE
   have QM:m.length<=len:=by simpa using QM
   obtain rfl:=aw.1 QI
   have db:=eJ kG
   rw[Hj]at hx
   obtain⟨ad,cap,K7,K4,nb,Bn,fF⟩:=nJ hx
   have fF:=fF ⟨false,_,db⟩
   obtain⟨pl,cur,e0,hp,hh,hg,hk,hV⟩:=(h.bU id ve false _ db).box rfl
   have hp:β id=some pl:=hp
   have hh:w.heap[pl.b]? =some (.cells cur e0 (0,0)):=hh
   have hg:g pl.b= .own (.id id) 0:=hg
   have hcur':(match β id with
    |some pl=>(0 < len\/0=0->ad=some ⟨pl.b,0,none⟩)/\(([.arr]:List v8)=[]->0=0->cap=pl.cap)
    |none=>ad=none/\len=0/\cap=0):=fF
   rw[hp]at hcur'
   simp only at hcur'
   have J2:=hcur'.1 (.inr trivial)
   subst J2
   have hV:V (s.env w g β) (.d (.arr len t') l) (cur.toList.take cur.size):=hV
   rw[<-c6,bY]at hV
   simp only[V,dn]at hV
   obtain⟨OC,hVc⟩:=hV
   have HX:=hVc.length (λ_ _ hx=>dn.size hx)
   have Ex:news.length<=cur.size:=by
    rw[NG]
    have:cur.size=l.length*t'.size:=by simpa using HX
    rw[this,OC]
    exact dr _ QM
   have oJ:=run_storeCells_at P pl.b 0 e0 news 0 cur w hh (by simpa using Ex) h1news
   have mU:(Builtin.copy_ #[T,X] 0 #[a.eval x,a.eval y]).run P w= .ok (goInt m.length) (w.setRow pl.b (dJ cur.toList 0 news).toArray):=by
    have TR:Nat.min m.length len=m.length:=fp QM
    rw[K7]
    simp only[cK,aO]at oJ
    simp[Builtin.copy_,run_underlying hT,hlen,sizeOf,typeInfo,hi,TR,Ox w rfl,oJ,dJ]
   have H3:=Trans.setRow w hg (dJ cur.toList 0 news).toArray
   have hle:c7 (s.env w g β) ((s.aX id (.obj ve false (.d (.arr len t') (m++l.drop m.length)))).env (w.setRow pl.b (dJ cur.toList 0 news).toArray) g β):=c7.aX db (ay _) H3 (λ_ _=>rfl) (λ_=>rfl)
   have i1:=h.step (du _ _ _) H3 hle (jd.aX (PT:=mV db λk v1 l e=>by cases e) h.bU (by rw[db];simp) hle (λ_ _=>rfl) (λi ver fr c pl2 hi Br CF=>⟨setRow_other w pl.b pl2.b _ (h.apart hg hi Br CF),rfl⟩) (yK.obj ⟨pl,_,e0,hp,setRow_heap w pl.b cur _ e0 (0,0) hh,hg,trivial,by
    show V _ (.d (.arr len t') (m++l.drop m.length)) ((dJ cur.toList 0 news).toArray.toList.take (dJ cur.toList 0 news).toArray.size)
    rw[<-c6,bY]
    simp only[V,dn]
    refine⟨by rw[aj,dx];omega,?_⟩
    have e2:dJ cur.toList 0 news=news++cur.toList.drop (m.length*t'.size):=by
     simp[dJ,NG]
    have q:bA (dn (s.env w g β) t') (dJ cur.toList 0 news) (m++l.drop m.length):=by
     rw[e2]
     exact bA.append pT (bA.drop (λ_ _ hx=>dn.size hx) m.length hVc)
    exact q.mono λ_ _ hx=>hx.mono hle.mem⟩))
   exact fin _ _ mU ⟨g,β,i1.put o.dst ⟨[.int .i64 (m.length:Int)],by simp only[V,dn],rfl⟩⟩
  ·exact(ao.1 he).elim
 ·exact(ao.1 he).elim
theorem Fx(h:Inv C g β s a w){c:Call}{x y:Operand}{T X:TypeId}(ho:o.op= .call c)(hc:c.callee= .builtin .append)(ha:c.args.toList=[x,y])(ht:c.argTypes.toList=[T,X]){s':AS}
  {nl dt:Bool} (he:(rk P s nl dt o.dst T X (s.ev x) (s.ev y)).eval=some s'):fU P o a w (iN C s'):=by
 obtain⟨cal,args,tys⟩:=c
 simp only at hc ha ht
 have ha':args= #[x,y]:=by apply gA;simpa using ha
 have ht':tys= #[T,X]:=by apply gA;simpa using ht
 subst hc ha' ht'
 have hx:=h.ev x
 have hy:=h.ev y
 have fin:∀z w',(Builtin.append_ #[T,X] 0 #[a.eval x,a.eval y]).run P w= .ok z w'->(∃g' β',Inv C g' β' s' (a.put o.dst z) w')->fU P o a w (iN C s'):=by
  intro z w' h1 h2
  refine .inl ⟨z,w',td ho (f:=Builtin.append_ #[T,X] 0 #[a.eval x,a.eval y]) (λty cs xs Hj=> ?_) h1,h2⟩
  subst Hj
  have e1:Builtin.append_ #[T,X] 0 #[a.eval x,a.eval y]=Builtin.append_ #[T,X] ty #[a.eval x,a.eval y]:=rfl
  rw[e1]
  simp[builtin]
 unfold rk at he
 split at he
 ·rename_i e t b q wc hd
  obtain⟨hT,hz,i,zv,hi,Ka,NC,Hk,Kd⟩:=nA wc
  obtain⟨m,hm,he⟩:=au.1 he
  obtain⟨hX,news,pT,hlen,Ox⟩:=Ac h hy hm
  have NG:=pT.length (λ_ _ hx=>dn.size hx)
  have h1news:∀u∈news,u.oneCell'=true:=bA.all (λ_ _ hx=>hx.one) pT
  rw[<-Ka]at Ox
  have QT:zv.cells.size=t.size:=by have:=(Kd (s.env w g β)).size;simpa using this
  have Un:∀n,(Builtin.zeroCells zv.cells n).size=n*t.size:=λn=>by rw[sM,QT]
  have grow:∀(ad:Option Addr) (sLen sCap:Nat) (cT:List Value) (l0:List t.den),a.eval x= .slice ad sLen sCap->cT.length=sLen*t.size->l0.length=sLen->bA (dn (s.env w g β) t) cT l0->
    (Builtin.firstCells i.size sLen (.slice ad sLen sCap)).run P w.drew= .ok cT.toArray w.drew->sCap < sLen+m.length->dG (sLen+m.length) b=true->
    ∃(cur:Array Value) (cap:Nat),(Builtin.append_ #[T,X] 0 #[a.eval x,a.eval y]).run P w= .ok (.slice (some ⟨w.heap.size,0,none⟩) (sLen+m.length) cap) (w.drew.alloc (.cells cur e))/\
     cur.size=cap*t.size/\sLen+m.length<=cap/\cap<=maxLen/\cur.toList.take ((sLen+m.length)*t.size)=cT++news:=by
   intro ad sLen sCap cT l0 K7 AG OA RC SL wu Hi
   simp only[dG,decide_eq_true_eq]at Hi
   have hr:=zs (P:=P) (w:=w) (ty:=0) hT hX hi Hk SL hlen (Ox w.drew rfl) wu (by omega) (by rw[NC];exact Hi.1)
   rw[K7]
   refine⟨_,_,hr,?_,grownCap_ge _ _ _ _,grownCap_le_maxLen _ _ _ _ (by unfold maxLen;omega),?_⟩
   ·have Wt:=grownCap_ge w (sLen+m.length) sCap e
    simp only[Array.size_append,ir,Un,AG,NG,<-eM]
    congr 1
    omega
   ·have Jb:(cT++news).length=(sLen+m.length)*t.size:=by rw[aj,AG,NG,eM]
    simp only[cn]
    rw[<-Jb]
    exact List.take_left
  split at he
  ·rename_i Wb
   rw[Wb]at hx
   have K7:=km hx
   cases dt with
   |true=>
    simp only at he
    obtain⟨Hi,he⟩:=bZ.1 he
    obtain rfl:=aw.1 he
    simp only[ak,decide_eq_true_eq]at Hi
    obtain⟨Hi,QL⟩:=Hi
    obtain⟨cur,cap,hr,q1,q2,q3,q4⟩:=grow none 0 0 [] [] K7 (by simp) rfl rfl rfl (by omega) (by simpa using Hi)
    simp only[aO,aS]at hr q2 q4
    have TA:bA (dn (s.env w.drew g β) t) news m:=pT.mono λ_ _ hx=>hx.mono (c7.same (s:=s) (β:=β) (Trans.drew w g)).mem
    refine fin _ _ hr ⟨lM g w.heap.size .free,β,(h.drew.vG (.cells cur e)).put o.dst ⟨[.slice (some ⟨w.heap.size,0,none⟩) m.length cap],?_,rfl⟩⟩
    simp only[V,dn]
    refine⟨λh0=>(by cases h0),λm' hm'=> ?_⟩
    obtain rfl:m=m':=bB hm'
    refine⟨_,cap,cur.toList.take (m.length*t.size),rfl,q2,λ_=>rfl,λj v hj=>⟨_,_,rfl,?_,?_⟩,?_⟩
    ·show(w.drew.alloc (.cells cur e)).cell? ⟨w.drew.heap.size,0+j,none⟩=some v
     rw[World.cell?_alloc_new,aO]
     rw[dq]at hj
     split at hj
     ·simpa using hj
     ·cases hj
    ·show pj (lM g w.heap.size .free) w.heap.size (0+j)
     unfold pj;rw[fP];trivial
    ·rw[q4]
     exact TA.mono λ_ _ hx=>hx.mono (Trans.mem (E:=s.env w.drew g β) (E':=s.env (w.drew.alloc (.cells cur e)) (lM g w.drew.heap.size .free) β) (Trans.alloc w.drew g (.cells cur e) .free))
   |false=>
   simp only at he
   obtain⟨hq,he⟩:=aC.1 he
   obtain⟨Hi,he⟩:=bZ.1 he
   obtain rfl:=aw.1 he
   by_cases QL:m.length=0
   ·have TS:m=[]:=bo QL
    subst TS
    have TV:news=[]:=bo (by rw[NG];simp)
    subst TV
    obtain⟨β',i1,e1,v1⟩:=h.Mq hq (e:=e) hz
    refine fin (.slice none 0 0) w ?_ ⟨g,β',?_⟩
    ·rw[K7]
     exact uA (P:=P) hT hX hi hlen (Ox w rfl)
    ·exact i1.put o.dst v1
   ·obtain⟨cur,cap,hr,q1,q2,q3,q4⟩:=grow none 0 0 [] [] K7 (by simp) rfl rfl rfl (by omega) (by simpa using Hi)
    simp only[aO,aS]at hr q2 q4
    obtain⟨g2,β2,i2,v2⟩:=(h.drew).EM hq (e:=e) (l:=m) (cur:=cur) (cap:=cap) hz (by rw[q4];exact pT.mono λ_ _ hx=>hx.mono (c7.same (s:=s) (β:=β) (Trans.drew w g)).mem) q1 q2 q3
    refine fin _ _ hr ⟨g2,β2,?_⟩
    exact i2.put o.dst v2
  ·rename_i id ver len Hj
   rw[Hj]at hx
   obtain⟨ad,cap,K7,K4,nb,Bn,fF⟩:=nJ hx
   split at he
   ·rename_i v fr e' t' l kG
    obtain⟨h1,xL⟩:=aC.1 he
    clear he
    simp only[ak,beq_iff_eq]at h1
    obtain⟨P4,VA⟩:=h1
    subst P4 VA
    obtain⟨l',hl',CE⟩:=au.1 xL
    obtain⟨et,hl'⟩:=jI (jW.1 hl')
    have et':t'=t:=by simpa using et
    subst et'
    simp only at hl'
    subst hl'
    obtain⟨NF,RG⟩:=bZ.1 CE
    have NF:len<=l.length:=by simpa using NF
    obtain⟨SK,QI⟩:=bZ.1 RG
    obtain⟨Hi,UW⟩:=bZ.1 QI
    obtain rfl:=aw.1 UW
    clear xL CE RG QI UW
    have db:=eJ kG
    have fF:=fF ⟨fr,_,db⟩
    obtain⟨_,hO⟩:=h.bU id v fr _ db
    have hO':(match β id with
     |none=>l=[]
     |some pl=>∃cur k,w.heap[pl.b]? =some (.cells cur e (0,0))/\cur.size=pl.cap*t'.size/\l.length<=pl.cap/\pl.cap<=maxLen/\g pl.b= .own (.id id) k/\
       k<=l.length*t'.size/\(fr=false->k=0)/\bA (dn (s.env w g β) t') (cur.toList.take (l.length*t'.size)) l):=hO
    have hcur':(match β id with
     |some pl=>(0 < len\/0=0->ad=some ⟨pl.b,0,none⟩)/\(([]:List v8)=[]->0=0->cap=pl.cap)
     |none=>ad=none/\len=0/\cap=0):=fF
    have PK:fr=false\/len=l.length:=by
     simp only[gP,bX,decide_eq_true_eq]at SK
     exact SK
    have jb:s.cz id≠none:=by rw[db];simp
    have fresh:∀(cur:Array Value) (cp:Nat) (g0:Nat->lG),Trans w (w.drew.alloc (.cells cur e)) g (lM g0 w.heap.size (.own (.id (id)) 0))->
      (∀i ver fr c pl,i≠id->s.cz i=some (.obj ver fr c)->β i=some pl->g0 pl.b=g pl.b)->cur.size=cp*t'.size->len+m.length<=cp->cp<=maxLen->
      bA (dn (s.env w g β) t') (cur.toList.take ((len+m.length)*t'.size)) (l.take len++m)->len<=l.length->
      ∃g' β',Inv C g' β' ((s.aX id (.obj (v+1) fr (.vec e t' (l.take len++m)))).put o.dst (.cP id (v+1) [] 0 0 (len+m.length))) (a.put o.dst (.slice (some ⟨w.heap.size,0,none⟩) (len+m.length) cp)) (w.drew.alloc (.cells cur e)):=by
     intro cur cp g0 ht PM q1 q2 q3 q4 q5
     have OC:(l.take len++m).length=len+m.length:=by simp;omega
     have hle:c7 (s.env w g β) ((s.aX id (.obj (v+1) fr (.vec e t' (l.take len++m)))).env (w.drew.alloc (.cells cur e)) (lM g0 w.heap.size (.own (.id id) 0)) (vF β id (some ⟨w.heap.size,cp⟩))):=
      c7.aX db (by omega) ht (λi hi=>sG _ _ _ hi) (λhh=>by omega)
     have i1:=h.step (du _ _ _) ht hle (jd.aX (PT:=mV db λk v1 l e=>by cases e) h.bU jb hle (λi hi=>sG _ _ _ hi) (λi ver fr' c' pl hi Br CF=>by
       have jt:pl.b < w.heap.size:=((h.bU i ver fr' c' Br).label (pl:=pl) CF).1
       exact⟨nr w.drew _ jt,by rw[fE _ _ _ (by omega)];exact PM i ver fr' c' pl hi Br CF⟩) (by
      refine⟨hz,?_⟩
      show(match vF β id (some ⟨w.heap.size,cp⟩) id with
       |none=>(l.take len++m)=[]
       |some pl=>_)
      rw[jP]
      refine⟨cur,0,oP w.drew _,q1,by rw[OC];exact q2,q3,fP _ _ _,aV _,λ_=>rfl,?_⟩
      rw[OC]
      exact q4.mono λ_ _ hx=>hx.mono hle.mem))
     refine⟨_,_,i1.put o.dst ⟨_,?_,rfl⟩⟩
     simp only[V]
     have lr:=eX s id (.obj (v+1) fr (.vec e t' (l.take len++m))) jb
     refine⟨_,_,rfl,q2,λ_=>rfl,⟨by show(s.aX id _).cz id≠none;rw[lr];simp,λv' fr' c' hh=> ?_⟩,λ_=> ?_⟩
     ·have hh':(s.aX id (.obj (v+1) fr (.vec e t' (l.take len++m)))).cz id=some (.obj v' fr' c'):=hh
      rw[lr]at hh'
      simp only[ax,ea.obj.injEq]at hh'
      omega
     ·show(match vF β id (some ⟨w.heap.size,cp⟩) id with
       |some pl=>_
       |none=>_)
      rw[jP]
      exact⟨λ_=>rfl,λ_ _=>rfl⟩
    cases hp:β id with
    |none=>
     rw[hp]at hO' hcur'
     simp only at hO' hcur'
     obtain⟨rfl,rfl,rfl⟩:=hcur'
     subst hO'
     by_cases QL:m.length=0
     ·have TS:m=[]:=bo QL
      subst TS
      have TV:news=[]:=bo (by rw[NG];simp)
      subst TV
      have ht:=Trans.refl w g
      have hle:c7 (s.env w g β) ((s.aX id (.obj (v+1) fr (.vec e t' []))).env w g β):=c7.aX db (by omega) ht (λ_ _=>rfl) (λ_=>rfl)
      have i1:=h.step (du _ _ _) ht hle (jd.aX (PT:=mV db λk v1 l e=>by cases e) h.bU jb hle (λ_ _=>rfl) (λ_ _ _ _ _ _ _ _=>⟨rfl,rfl⟩) (by
       refine⟨hz,?_⟩
       show(match β id with
        |none=>([]:List t'.den)=[]
        |some pl=>_)
       rw[hp]))
      refine fin (.slice none 0 0) w ?_ ⟨g,β,i1.put o.dst ⟨_,?_,rfl⟩⟩
      ·rw[K7]
       exact uA (P:=P) hT hX hi hlen (Ox w rfl)
      ·simp only[V]
       have lr:=eX s id (.obj (v+1) fr (.vec e t' [])) jb
       refine⟨_,_,rfl,ay _,λhh=>by simp at hh,⟨by show(s.aX id _).cz id≠none;rw[lr];simp,λv' fr' c' hh=> ?_⟩,λ_=> ?_⟩
       ·have hh':(s.aX id (.obj (v+1) fr (.vec e t' []))).cz id=some (.obj v' fr' c'):=hh
        rw[lr]at hh'
        simp only[ax,ea.obj.injEq]at hh'
        omega
       ·show(match β id with
         |some pl=>_
         |none=>_)
        rw[hp]
        exact⟨rfl,by simp,rfl⟩
     ·obtain⟨cur,cp,hr,q1,q2,q3,q4⟩:=grow none 0 0 [] [] K7 (by simp) rfl rfl rfl (by omega) Hi
      refine fin _ _ hr (fresh cur cp g (Trans.trans (Trans.drew w g) (Trans.alloc w.drew g _ _)) (λ_ _ _ _ _ _ _ _=>rfl) q1 q2 q3 ?_ (by simp))
      rw[q4]
      simpa using pT
    |some pl=>
     rw[hp]at hO' hcur'
     simp only at hO' hcur'
     obtain⟨J2,xK⟩:=hcur'
     have J2:=J2 (.inr trivial)
     have xK:=xK trivial trivial
     subst J2 xK
     obtain⟨cur,k,p1,p2,p3,p4,p5,p6,p7,p8⟩:=hO'
     have hk:k<=len*t'.size:=by
      rcases PK with hf | hf
      ·rw[p7 hf];exact aV _
      ·rw[hf];exact p6
     have hmul:len*t'.size<=l.length*t'.size:=dr _ NF
     have U7:l.length*t'.size<=cur.size:=by rw[p2];exact dr _ p3
     have P1:=bA.take (λ_ _ hx=>dn.size hx) len p8
     rw[jU,fp hmul]at P1
     have AG:(cur.toList.take (len*t'.size)).length=len*t'.size:=by simp;omega
     by_cases wu:len+m.length<=pl.cap
     ·have V1:(len+m.length)*t'.size<=cur.size:=by rw[p2];exact dr _ wu
      have Ex:len*i.size+news.length<=cur.size:=by rw[Ka,NG,<-eM];exact V1
      have hr:=zt (P:=P) (w:=w) (ty:=0) hT hX hi p1 h1news hlen (Ox w rfl) wu Ex
      rw[Ka]at hr Ex
      have ht:Trans w (w.setRow pl.b (dJ cur.toList (len*t'.size) news).toArray) g g:=by
       refine⟨by simp,by simp,by simp,by simp,λb' hb=> ?_⟩
       by_cases Ew:b'=pl.b
       ·subst Ew
        rw[p5]
        refine⟨.inr ⟨id,k,rfl,ay _⟩,λoff u NI hu=> ?_⟩
        rw[cell_of_row w pl.b off cur e (0,0) p1]at hu
        rw[cell_setRow_same w pl.b off cur _ e (0,0) p1]
        simp only[dJ,bk,List.getElem?_toArray]
        rw[fy (by rw[AG];omega),dq,if_pos (by omega)]
        simpa using hu
       ·rw[setRow_other w pl.b b' _ Ew]
        cases Aq:g b' with
        |free=>exact⟨rfl,rfl⟩
        |own o' k=>cases o' with
         |eL=>exact⟨rfl,rfl⟩
         |id i'=>exact⟨.inr ⟨i',k,rfl,ay _⟩,λoff v _ hv=>by rw[cell_setRow_other w pl.b _ _ Ew];exact hv⟩
      have hle:c7 (s.env w g β) ((s.aX id (.obj (v+1) fr (.vec e t' (l.take len++m)))).env (w.setRow pl.b (dJ cur.toList (len*t'.size) news).toArray) g β):=
       c7.aX db (by omega) ht (λ_ _=>rfl) (λ_=>rfl)
      have OC:(l.take len++m).length=len+m.length:=by simp;omega
      have T9:(dJ cur.toList (len*t'.size) news).length=cur.toList.length:=jM (by simpa using Ex)
      have i1:=h.step (du _ _ _) ht hle (jd.aX (PT:=mV db λk v1 l e=>by cases e) h.bU jb hle (λ_ _=>rfl) (λi ver fr c pl2 hi Br CF=>⟨setRow_other w pl.b pl2.b _ (h.apart p5 hi Br CF),rfl⟩) (by
       refine⟨hz,?_⟩
       show(match β id with
        |none=>(l.take len++m)=[]
        |some pl=>_)
       rw[hp]
       refine⟨_,k,setRow_heap w pl.b cur _ e (0,0) p1,by rw[ir,T9];simpa using p2,by rw[OC];exact wu,p4,p5,?_,p7,?_⟩
       ·rw[OC,eM];omega
       ·rw[OC,show(dJ cur.toList (len*t'.size) news).toArray.toList=dJ cur.toList (len*t'.size) news from rfl]
        have e1:(dJ cur.toList (len*t'.size) news).take ((len+m.length)*t'.size)=cur.toList.take (len*t'.size)++news:=by
         unfold dJ
         have Jb:(cur.toList.take (len*t'.size)++news).length=(len+m.length)*t'.size:=by rw[aj,AG,NG,eM]
         rw[<-Jb]
         exact List.take_left
        rw[e1]
        exact(bA.append P1 pT).mono λ_ _ hx=>hx.mono hle.mem))
      rw[<-K7]at hr
      refine fin _ _ hr ⟨g,β,i1.put o.dst ⟨_,?_,rfl⟩⟩
      simp only[V]
      have lr:=eX s id (.obj (v+1) fr (.vec e t' (l.take len++m))) jb
      refine⟨_,_,rfl,wu,λ_=>rfl,⟨by show(s.aX id _).cz id≠none;rw[lr];simp,λv' fr' c' hh=> ?_⟩,λ_=> ?_⟩
      ·have hh':(s.aX id (.obj (v+1) fr (.vec e t' (l.take len++m)))).cz id=some (.obj v' fr' c'):=hh
       rw[lr]at hh'
       simp only[ax,ea.obj.injEq]at hh'
       omega
      ·show(match β id with
        |some pl=>_
        |none=>_)
       rw[hp]
       exact⟨λ_=>rfl,λ_ _=>rfl⟩
     ·have SL:(Builtin.firstCells i.size len (.slice (some ⟨pl.b,0,none⟩) len pl.cap)).run P w.drew= .ok (cur.toList.take (len*t'.size)).toArray w.drew:=by
       refine run_firstCells_some (P:=P) w.drew i.size _ _ _ _ _ (by rw[AG,Ka]) (λj u hj=> ?_)
       rw[Addr.add_lit,aO]
       show w.cell? ⟨pl.b,j,none⟩=some u
       rw[cell_of_row w pl.b j cur e (0,0) p1]
       rw[dq]at hj
       split at hj
       ·simpa using hj
       ·cases hj
      obtain⟨cur2,cp,hr,q1,q2,q3,q4⟩:=grow (some ⟨pl.b,0,none⟩) len pl.cap (cur.toList.take (len*t'.size)) (l.take len) K7 AG (by simp;omega) P1 SL (by omega) Hi
      have jt:pl.b < w.heap.size:=(bT.1 p1).1
      have I8:Trans w w.drew g (lM g pl.b .free):=by
       refine⟨rfl,rfl,⟨rfl,Nat.le_succ _⟩,ay _,λb' hb=> ?_⟩
       by_cases Ew:b'=pl.b
       ·subst Ew
        rw[p5,fP]
        exact⟨.inl rfl,λ_ _ _ hh=>hh⟩
       ·rw[fE _ _ _ Ew]
        exact(Trans.drew w g).yO b' hb
      refine fin _ _ hr (fresh cur2 cp (lM g pl.b .free) (Trans.trans I8 (Trans.alloc w.drew _ _ _)) (λi ver fr c pl2 hi Br CF=>fE _ _ _ (h.apart p5 hi Br CF)) q1 q2 q3 ?_ NF)
      rw[q4]
      exact bA.append P1 pT
   ·simp only[ao]at he
  ·simp only[ao]at he
 ·simp only[ao]at he
end
end Go.Ab
namespace Go.Ab
abbrev Ren:=Id->Nat->Option (Id×Nat)
structure sS(ρ:Ren)(E E':Env):Prop where
 mem:oO E E'
 ref:∀id ver r,ρ id ver=some r->E.uw id ver->E'.uw r.1 r.2/\(E'.cur r.1 r.2->E.cur id ver/\E'.β r.1=E.β id)
theorem Jr(ρ:Ren)(a:az):(a.ja ρ).agg=a.agg:=by
 cases a with
 |ptr id v p n=>simp only[az.ja];cases ρ id v <;> rfl
 |cP id v p c i l=>simp only[az.ja];cases ρ id v <;> rfl
 |oh id v=>simp only[az.ja];cases ρ id v <;> rfl
 |yl id v=>simp only[az.ja];cases ρ id v <;> rfl
 |_=>rfl
mutual
theorem Fk{ρ:Ren}{E E':Env}(h:sS ρ E E'):∀ {a:az} {cs:List Value},V E a cs->V E' (a.ja ρ) cs
 | .undef,_,hv=>by simp only[V]at hv
 | .gone,_,hv=>by simpa only[az.ja,V]using hv
 | .df,_,hv=>by simpa only[az.ja,V]using hv
 | .oI,_,hv=>by simpa only[az.ja,V]using hv
 | .qt,_,hv=>by simpa only[az.ja,V]using hv
 | .tl,_,hv=>by simpa only[az.ja,V]using hv
 | .sb l,_,hv=>by
  simp only[az.ja,V]at hv ⊢
  obtain⟨b,cap,arr,e,h1,h2,h3,h4,h5⟩:=hv
  obtain⟨h6,h7⟩:=h.mem.fz b _ h3 h4
  exact⟨b,cap,arr,e,h1,h2,h6,h7,h5⟩
 | .d t x,_,hv=>by simp only[az.ja,V]at hv ⊢;exact hv.mono h.mem
 | .pr a b,_,hv=>by
  simp only[az.ja,V]at hv ⊢
  obtain⟨ca,cb,e,ha,hb⟩:=hv
  exact⟨ca,cb,e,Fk h ha,Fk h hb⟩
 | .ptr id ver p n,_,hv=>by
  have h1:=hv.one
  simp only[az.ja]
  cases hr:ρ id ver with
  |none=>
   simp only[V]at hv ⊢
   obtain⟨a,e,_⟩:=hv
   exact⟨_,e,h1 _ (by simp[e])⟩
  |some r=>
   simp only[V]at hv ⊢
   obtain⟨a,e,hb,hc⟩:=hv
   obtain⟨b1,b2⟩:=h.ref id ver r hr hb
   refine⟨a,e,b1,λc=> ?_⟩
   obtain⟨c1,e1⟩:=b2 c
   rw[e1];exact hc c1
 | .ed t x,_,hv=>by
  simp only[az.ja,V]at hv ⊢
  obtain⟨b,off,vs,e,hr,hx⟩:=hv
  exact⟨b,off,vs,e,hr.mono h.mem,hx.mono h.mem⟩
 | .cP id ver p c i len,_,hv=>by
  have h1:=hv.one
  simp only[az.ja]
  cases hr:ρ id ver with
  |none=>
   simp only[V]at hv ⊢
   obtain⟨a,cap,e,_⟩:=hv
   exact⟨_,e,h1 _ (by simp[e])⟩
  |some r=>
   simp only[V]at hv ⊢
   obtain⟨a,cap,e,hl,hs,hb,hc⟩:=hv
   obtain⟨b1,b2⟩:=h.ref id ver r hr hb
   refine⟨a,cap,e,hl,hs,b1,λc=> ?_⟩
   obtain⟨c1,e1⟩:=b2 c
   rw[e1];exact hc c1
 | .fn f c,_,hv=>by
  simp only[az.ja,V]at hv ⊢
  obtain⟨vs,e,hc⟩:=hv
  exact⟨vs,e,Ht h hc⟩
 | .cons _ _,_,hv=>by simp only[V]at hv
 | .nil,_,hv=>by simp only[V]at hv
 | .vec ..,_,hv=>by simp only[V]at hv
 | .bx ..,_,hv=>by simp only[V]at hv
 | .yl id ver,_,hv=>by
  have h1:=hv.one
  simp only[az.ja]
  cases hr:ρ id ver with
  |none=>
   simp only[V]at hv ⊢
   obtain⟨b,e,_⟩:=hv
   exact⟨_,e,h1 _ (by simp[e])⟩
  |some r=>
   simp only[V]at hv ⊢
   obtain⟨b,e,hb,hc⟩:=hv
   obtain⟨b1,b2⟩:=h.ref id ver r hr hb
   refine⟨b,e,b1,λc=> ?_⟩
   obtain⟨c1,e1⟩:=b2 c
   rw[e1];exact hc c1
 | .oh id ver,_,hv=>by
  have h1:=hv.one
  simp only[az.ja]
  cases hr:ρ id ver with
  |none=>
   simp only[V]at hv ⊢
   obtain⟨b,e,_⟩:=hv
   exact⟨_,e,h1 _ (by simp[e])⟩
  |some r=>
   simp only[V]at hv ⊢
   obtain⟨b,e,hb,hc⟩:=hv
   obtain⟨b1,b2⟩:=h.ref id ver r hr hb
   refine⟨b,e,b1,λc=> ?_⟩
   obtain⟨c1,e1⟩:=b2 c
   rw[e1];exact hc c1
 | .mp ..,_,hv | .oK ..,_,hv | .qK ..,_,hv=>by simp only[V]at hv
theorem Ht{ρ:Ren}{E E':Env}(h:sS ρ E E'):∀ {a:az} {vs:List Value},VC E a vs->VC E' (a.ja ρ) vs
 | .nil,_,hv=>by simpa only[az.ja,VC]using hv
 | .cons a b,_,hv=>by
  simp only[az.ja,VC]at hv ⊢
  obtain⟨v,vs',cs,e,ha,ho,hb⟩:=hv
  exact⟨v,vs',cs,e,Fk h ha,by rw[Jr];exact ho,Ht h hb⟩
 | .undef,_,hv=>by simp only[VC]at hv
 | .gone,_,hv=>by simp only[VC]at hv
 | .df,_,hv=>by simp only[VC]at hv
 | .oI,_,hv=>by simp only[VC]at hv
 | .qt,_,hv=>by simp only[VC]at hv
 | .yl ..,_,hv | .qK ..,_,hv=>by simp only[VC]at hv
 | .tl,_,hv=>by simp only[VC]at hv
 | .sb _,_,hv=>by simp only[VC]at hv
 | .d t x,_,hv=>by simp only[VC]at hv
 | .pr a b,_,hv=>by simp only[VC]at hv
 | .ptr ..,_,hv=>by simp only[VC]at hv
 | .ed ..,_,hv=>by simp only[VC]at hv
 | .cP ..,_,hv=>by simp only[VC]at hv
 | .fn ..,_,hv=>by simp only[VC]at hv
 | .vec ..,_,hv=>by simp only[VC]at hv
 | .bx ..,_,hv=>by simp only[VC]at hv
 | .oh ..,_,hv=>by simp only[VC]at hv
 | .mp ..,_,hv | .oK ..,_,hv=>by simp only[VC]at hv
end
theorem wJ{ρ:Ren}{E E':Env}(h:sS ρ E E'){a:az}{v:Value}(hv:VS E a v):VS E' (a.ja ρ) v:=by
 by_cases hc:a.fg=true
 ·obtain⟨cs,h1,h2⟩:=hv.fg hc
  exact VS.of (Fk h h1) (by rw[Jr];exact h2)
 ·cases a <;> first | (exact absurd rfl hc) | skip
  ·trivial
  ·obtain⟨vs,e,SY⟩:=hv
   have:=Ht h SY
   simp only[az.ja]at this ⊢
   exact⟨vs,e,this⟩
  ·exact hv
  ·obtain⟨cs,h1,_⟩:=hv
   simp only[V]at h1
  ·obtain⟨cs,h1,_⟩:=hv
   simp only[V]at h1
  ·obtain⟨cs,h1,_⟩:=hv
   simp only[V]at h1
  ·obtain⟨cs,h1,_⟩:=hv
   simp only[V]at h1
  ·obtain⟨cs,h1,_⟩:=hv
   simp only[V]at h1
theorem Ca(ρ:Ren):∀f:az,(f.ja ρ).list=f.list.map (az.ja ρ)
 | .cons a b=>by simp only[az.ja,az.list,bR,Ca ρ b]
 | .undef | .gone | .df | .oI | .qt | .tl | .d _ _ | .ed _ _ | .fn _ _ | .pr _ _ | .nil | .vec .. | .sb _ | .bx .. | .mp .. | .oK .. | .qK .. =>rfl
 | .ptr id ver p n=>by simp only[az.ja];cases ρ id ver <;> rfl
 | .cP id ver p c i len=>by simp only[az.ja];cases ρ id ver <;> rfl
 | .oh id ver=>by simp only[az.ja];cases ρ id ver <;> rfl
 | .yl id ver=>by simp only[az.ja];cases ρ id ver <;> rfl
theorem Hq{ρ:Ren}{E E':Env}(h:sS ρ E E'){f:az}{tmps:Array Value}(hs:tN E f tmps):tN E' (f.ja ρ) tmps:=by
 refine⟨by rw[Ca,cR];exact hs.1,λi=> ?_⟩
 have:=wJ h (hs.2 i)
 rw[Ca,aF,fv]
 rw[aF]at this
 cases hi:f.list[i]? with
 |none=>exact VS.undef
 |some x=>rw[hi]at this;exact this
theorem KC(ρ:Ren)(c:az):(c.ja ρ).strip=c.strip.ja ρ:=by
 cases c <;> first
  |rfl
  | (rename_i id ver p n;simp only[az.strip,az.ja];cases ρ id ver <;> rfl)
  | (rename_i id ver p c i len;simp only[az.strip,az.ja];cases ρ id ver <;> rfl)
  | (rename_i i v;simp only[az.strip,az.ja];cases ρ i v <;> rfl)
theorem yy(ρ:Ren):∀c:az,(c.ja ρ).size=c.size
 | .pr a b=>by simp only[az.ja,az.size,yy ρ a,yy ρ b]
 | .ptr id ver p n=>by simp only[az.ja];cases ρ id ver <;> rfl
 | .cP id ver p c i len=>by simp only[az.ja];cases ρ id ver <;> rfl
 | .oh id ver=>by simp only[az.ja];cases ρ id ver <;> rfl
 | .undef | .gone | .df | .oI | .qt | .tl | .d _ _ | .ed _ _ | .fn _ _ | .cons _ _ | .nil | .vec .. | .sb _ | .bx .. | .mp .. | .oK .. | .qK .. =>rfl
 | .yl id ver=>by simp only[az.ja];cases ρ id ver <;> rfl
theorem Li(ρ:Ren){c:az}(n:Nat):(c.ja ρ).qL n=c.qL n:=by
 cases c with
 |bx e z c=>cases z with
  |zero=>rfl
  |succ z=>exact yy ρ c
 |_=>first | rfl | (simp only[az.ja];split <;> rfl)
theorem JK(ρ:Ren){c:az}{pl:Pl}{n:Nat}{e:TypeId}(h:c.uQ pl n e):(c.ja ρ).uQ pl n e:=by
  cases c <;> first
    | (rename_i e' z c;cases z with
       |zero=>exact h
       |succ z=>exact⟨h.1,h.2.1,h.2.2.1,by rw[yy];exact h.2.2.2⟩)
    |exact h
    |trivial
    | (rename_i id ver p n;simp only[az.ja];cases ρ id ver <;> trivial)
    | (rename_i id ver p c i len;simp only[az.ja];cases ρ id ver <;> trivial)
    | (rename_i i v;simp only[az.ja];cases ρ i v <;> trivial)
theorem qg{ρ:Ren}{E E':Env}(h:sS ρ E E'){id id':Id}{fr:Bool}{c:az}(ho:qf E id fr c)(hβ:E'.β id'=E.β id)
  (hb:∀pl,E.β id=some pl->E'.w.heap[pl.b]? =E.w.heap[pl.b]? /\(∀k,E.g pl.b= .own (.id id) k->E'.g pl.b= .own (.id id') k)/\(E.g pl.b= .free->E'.g pl.b= .free)):qf E' id' fr (c.ja ρ):=by
 by_cases hn:c.iO=false
 ·obtain⟨pl,cur,e,h1,h2,h3,h5,h4⟩:=ho.box hn
  obtain⟨b1,b2,b3⟩:=hb pl h1
  have h6:=Fk h h4
  refine yK.obj ⟨pl,cur,e,by rw[hβ,h1],by rw[b1,h2],?_,JK ρ h5,by rw[KC,Li];exact h6⟩
  cases fr with
  |true=>exact b3 h3
  |false=>exact b2 0 h3
 ·cases c <;> first
   | (exact absurd rfl hn)
   |skip
  rotate_left
  rotate_left
  ·obtain⟨pl,mb,since,seen,c0,h1,h2,h3,_⟩:=ho
   obtain⟨b1,b2,_⟩:=hb pl h1
   exact⟨pl,mb,since,seen,c0,by rw[hβ,h1],by rw[b1,h2],b2 0 h3,λvr H4=>by cases H4⟩
  ·obtain⟨pl,r,h1,h2,h3,h4,h5,h6⟩:=ho
   obtain⟨b1,b2,_⟩:=hb pl h1
   exact⟨pl,r,by rw[hβ,h1],by rw[b1,h2],b2 0 h3,h4,Hq h h5,h6⟩
  rotate_left
  ·obtain⟨pl,es,clock,h1,h2,h3,h4⟩:=ho
   obtain⟨b1,b2,_⟩:=hb pl h1
   exact⟨pl,es,clock,by rw[hβ,h1],by rw[b1,h2],b2 0 h3,⟨h4.1.1.mono h.mem,h4.1.2⟩,h4.2⟩
  rename_i e t l
  obtain⟨hz,ho⟩:=ho
  refine⟨hz,?_⟩
  rw[hβ]
  cases hp:E.β id with
  |none=>rw[hp]at ho;exact ho
  |some pl=>
   rw[hp]at ho
   simp only at ho ⊢
   obtain⟨b1,b2,_⟩:=hb pl hp
   obtain⟨cur,k,h1,h2,h3,h4,h5,h6,h7,h8⟩:=ho
   exact⟨cur,k,by rw[b1,h1],h2,h3,h4,b2 k h5,h6,h7,h8.mono λc x hx=>hx.mono h.mem⟩
def sO(E:Env):List az->List Value->Prop
 |[],[]=>True
 |a::as,v::vs=>VS E a v/\sO E as vs
 |_,_=>False
def kr.st(G:kr):AS:= {cO:=[],cT:=G.cT,news:=[G.news]}
def gw(cT:List ea):AS:= {cO:=[],cT,news:=[]}
def qV(E:Env)(G:kr)(v:Value)(w':World):Prop:=
 ∃g' β',VS (G.st.env w' g' β') G.val v/\jd (G.st.env w' g' β')/\Trans E.w w' E.g g'/\c7 E (G.st.env w' g' β')
def mo(P:Program)(f:FuncId)(en:Entry):Prop:=
 ∀w g β args cT kC x,sO ((gw cT).env w g β) args kC->jd ((gw cT).env w g β)->en.run args cT=some x->
  ((callFunc f kC.toArray).run P w= .ok (.enter f kC.toArray) w/\
   Calls P f kC.toArray w λe w'=>∃v,e= .returned v/\qV ((gw cT).env w g β) (en.out args cT x) v w')\/
  (∃v w',(callFunc f kC.toArray).run P w= .ok (.value v) w'/\qV ((gw cT).env w g β) (en.out args cT x) v w')
def zF(P:Program)(y:Nat)(en:Entry):Prop:=
 ∀w g β args cT kC x,sO ((gw cT).env w g β) args kC->jd ((gw cT).env w g β)->en.run args cT=some x->
  ∀l us ts f rd n,kC= .func (.yield l) #[] #[]::(us++ts)->us.length=(um P y).ps.size->
   RoundIn (Fr rd) n P l f (((um P y).ps.zip us.toArray).foldl (λtmps (t,a)=>tmps.setIfInBounds t a) ts.toArray) (um P y).as (um P y).b w
    λe w'=>∃v,e= .returned v/\qV ((gw cT).env w g β) (en.out args cT x) v w'
def qc(P:Program)(f:Nat)(en:Entry):Prop:=(Nat.blt f yB=true->mo P f en)/\(Nat.ble yB f=true->zF P f en)
theorem qc.of{P:Program}{f:FuncId}{en:Entry}(h:mo P f en)(hf:Nat.blt f yB=true):qc P f en:=
 ⟨λ_=>h,λh2=>by
  exact absurd (nO (gJ hf) (gJ h2)) (jG _)⟩
theorem qc.We{P:Program}{f:FuncId}{en:Entry}(h:zF P f en)(hf:Nat.ble yB f=true):qc P f en:=
 ⟨λh2=>by
  exact absurd (nO (gJ h2) (gJ hf)) (jG _),λ_=>h⟩
def Sound(P:Program)(Γ:qd):Prop:=∀f vs en,Γ f vs=some en->qc P f en
theorem sO.mono{E E':Env}(h:c7 E E'):∀ {as:List az} {vs:List Value},sO E as vs->sO E' as vs
 |[],[],_=>trivial
 |_::_,_::_,⟨h1,h2⟩=>⟨h1.mono h,sO.mono h h2⟩
theorem sO.ja{ρ:Ren}{E E':Env}(h:sS ρ E E'):∀ {as:List az} {vs:List Value},sO E as vs->sO E' (as.map (az.ja ρ)) vs
 |[],[],_=>trivial
 |_::_,_::_,⟨h1,h2⟩=>⟨wJ h h1,sO.ja h h2⟩
theorem sO.append{E:Env}:∀ {as:List az} {vs:List Value} {bs:List az} {us:List Value},sO E as vs->sO E bs us->sO E (as++bs) (vs++us)
 |[],[],_,_,_,h=>h
 |_::_,_::_,_,_,⟨h1,h2⟩,h=>⟨h1,sO.append h2 h⟩
theorem Hs{E:Env}:∀ {c:az} {vs:List Value},VC E c vs->sO E c.list vs
 | .cons a b,vs,h=>by
  simp only[VC]at h
  obtain⟨v,vs',cs,rfl,ha,ho,hb⟩:=h
  exact⟨VS.of ha ho,Hs hb⟩
 | .nil,vs,h=>by
  simp only[VC]at h
  subst h
  trivial
 | .undef,_,hv=>by simp only[VC]at hv
 | .gone,_,hv=>by simp only[VC]at hv
 | .df,_,hv=>by simp only[VC]at hv
 | .oI,_,hv=>by simp only[VC]at hv
 | .qt,_,hv=>by simp only[VC]at hv
 | .yl ..,_,hv | .qK ..,_,hv=>by simp only[VC]at hv
 | .tl,_,hv=>by simp only[VC]at hv
 | .sb _,_,hv=>by simp only[VC]at hv
 | .d t x,_,hv=>by simp only[VC]at hv
 | .pr a b,_,hv=>by simp only[VC]at hv
 | .ptr ..,_,hv=>by simp only[VC]at hv
 | .ed ..,_,hv=>by simp only[VC]at hv
 | .cP ..,_,hv=>by simp only[VC]at hv
 | .fn ..,_,hv=>by simp only[VC]at hv
 | .vec ..,_,hv=>by simp only[VC]at hv
 | .bx ..,_,hv=>by simp only[VC]at hv
 | .oh ..,_,hv=>by simp only[VC]at hv
 | .mp ..,_,hv | .oK ..,_,hv=>by simp only[VC]at hv
theorem Inv.To{C:Ctx}{g:Nat->lG}{β:Id->Option Pl}{s:AS}{a:Act}{w:World}(h:Inv C g β s a w):∀l:List Operand,sO (s.env w g β) (l.map s.ev) (l.map a.eval)
 |[]=>trivial
 |x::l=>⟨h.ev x,h.To l⟩
theorem uV{E E':Env}{s:AS}(hs:E.s=s.cz)(ho:jd E)(he:c7 E E'):∀(ps:List (Option Ty)) (vs:List az) (ys:List Value) (r:List az×List Id),sO E vs ys->(s.conv ps vs).eval=some r->Q4 E E' r.2->sO E' r.1 ys
 |[],[],ys,r,hv,h,_=>by
  simp only[AS.conv,aw]at h
  subst h
  cases ys with
  |nil=>trivial
  |cons _ _=>exact hv.elim
 |some t::ps,v::vs,y::ys,r,⟨hv,wx⟩,h,hf=>by
  simp only[AS.conv]at h
  obtain⟨x,h1,h2⟩:=au.1 h
  obtain⟨r',h3,h4⟩:=au.1 h2
  obtain rfl:=aw.1 h4
  obtain⟨cs,hV,hO⟩:=hv.fg (s9 h1)
  refine⟨VS.of (cs:=cs) ?_ ?_,uV hs ho he ps vs ys r' wx h3 λid dz=>hf id (bP.2 (.inr dz))⟩
  ·simp only[V]
   exact qJ hs ho he v t x cs hV h1 λid dz=>hf id (bP.2 (.inl dz))
  ·show gd t.agg cs y
   rw[<-Cw h1];exact hO
 |none::ps,v::vs,y::ys,r,⟨hv,wx⟩,h,hf=>by
  simp only[AS.conv]at h
  obtain⟨r',h3,h4⟩:=au.1 h
  obtain rfl:=aw.1 h4
  exact⟨hv.mono he,uV hs ho he ps vs ys r' wx h3 hf⟩
 |[],_::_,_,_,_,h,_=>by simp only[AS.conv,ao]at h
 |some _::_,[],_,_,_,h,_=>by simp only[AS.conv,ao]at h
 |none::_,[],_,_,_,h,_=>by simp only[AS.conv,ao]at h
end Go.Ab
namespace Go.Ab
theorem nY{id:Id}:∀ {ids:List Id} {k:Nat},idxOf id ids=some k->ids[k]? =some id
 |[],_,h=>by simp[idxOf]at h
 |x::xs,k,h=>by
  simp only[idxOf]at h
  split at h
  ·rename_i e
   simp only[ax]at h
   subst h e
   rfl
  ·simp only[fB]at h
   obtain⟨j,hj,rfl⟩:=h
   simpa using nY hj
theorem sV{id:Id}:∀ {ids:List Id} {k:Nat},ids.Nodup->ids[k]? =some id->idxOf id ids=some k
 |[],_,_,h=>by simp at h
 |x::xs,0,hn,h=>by
  simp only[fZ,ax]at h
  simp[idxOf,h]
 |x::xs,k+1,hn,h=>by
  simp only[kQ]at h
  obtain⟨h1,h2⟩:=dK.1 hn
  have jb:x≠id:=λe=>h1 (e▸dj h)
  simp[idxOf,jb,sV h2 h]
theorem tq(s0:AS)(all:List Id)(t:Nat):∀(ids:List Id) (es:List ea) (s:AS),(AS.jF s0 all t s ids es).cO=s.cO
 |[],_,_=>by simp[AS.jF]
 |_::_,[],_=>by simp[AS.jF]
 |id::ids,e::es,s=>by rw[AS.jF,tq s0 all t ids es,du]
theorem Cl(s:AS)(ids:List Id)(t:Nat)(es:List ea):(s.made ids t es).cO=s.cO:=by cases es <;> rfl
theorem uW(s0:AS)(all:List Id)(t:Nat):∀(ids:List Id) (es:List ea) (s:AS),ids.Nodup->es.length=ids.length->(∀id∈ids,s.cz id≠none)->
  (∀id,id ∉ ids->(AS.jF s0 all t s ids es).cz id=s.cz id)/\
  ∀(k:Nat) (id:Id) (e:ea),ids[k]? =some id->es[k]? =some e->(AS.jF s0 all t s ids es).cz id=some (s0.nS all t (s0.tc id) e)
 |[],es,s,_,_,_=>⟨λ_ _=>by simp[AS.jF],λk id e h=>by simp at h⟩
 |_::_,[],s,_,hl,_=>by simp at hl
 |i::ids,e::es,s,hn,hl,hp=>by
  obtain⟨h1,h2⟩:=dK.1 hn
  have hp':∀id∈ids,(s.aX i (s0.nS all t (s0.tc i) e)).cz id≠none:=λid dz=>by
   rw[dh s i id _ (λe=>h1 (e▸dz))]
   exact hp id (aL _ dz)
  obtain⟨r1,r2⟩:=uW s0 all t ids es (s.aX i (s0.nS all t (s0.tc i) e)) h2 (by simpa using hl) hp'
  rw[AS.jF]
  refine⟨λid dz=> ?_,λk id e' hk he=> ?_⟩
  ·simp only[dd,not_or]at dz
   rw[r1 id dz.2,dh s i id _ dz.1]
  ·cases k with
   |zero=>
    simp only[fZ,ax]at hk he
    subst hk he
    rw[r1 i h1,eX s i _ (hp i (aN ..))]
   |succ k=>
    simp only[kQ]at hk he
    exact r2 k id e' hk he
theorem FQ(s:AS)(ids:List Id)(t:Nat)(es:List ea)(hv:es=[]\/s.eh t=true):
  (∀id,(es=[]\/∀j,id≠ .new t j)->(s.made ids t es).cz id=s.cz id)/\(es≠ []->∀j,(s.made ids t es).cz (.new t j)=(es[j]?).map (s.nS ids t 0)):=by
 cases es with
 |nil=>exact⟨λ_ _=>rfl,λh=>absurd rfl h⟩
 |cons e es=>
  have hv:s.eh t=true:=by
   rcases hv with h | h
   ·cases h
   ·exact h
  refine⟨λid h=> ?_,λ_ j=> ?_⟩
  ·rcases h with h | h
   ·cases h
   ·exact jf _ h
  ·rw[AS.made,ru (jZ hv).2,fv]
def mj(ids:List Id):lG->lG
 | .free=> .free
 | .own .eL n=> .own .eL n
 | .own (.id i) n=>match idxOf i ids with | some k=> .own (.id (.dB k)) n | none=> .own .eL n
def ug(β:Id->Option Pl)(ids:List Id):Id->Option Pl
 | .dB k=>(ids[k]?).bind β
 | .new _ _=>none
def mf(g:Nat->lG)(size:Nat)(ids:List Id)(t:Nat)(b:Nat):lG->lG
 | .free=> .free
 | .own .eL n=>if b < size then g b else .own .eL n
 | .own (.id i) n=> .own (.id (OK ids t i)) n
def qw(β β':Id->Option Pl)(ids:List Id)(t:Nat)(some?:Bool)(id:Id):Option Pl:=
 match idxOf id ids with
 |some k=>β' (.dB k)
 |none=>match id with
  | .new i j=>if i=t/\some?=true then β' (.new 0 j) else β (.new i j)
  |id=>β id
theorem Mb{ids:List Id}{l:lG}{off:Nat}(h:pj (λ_=>l) 0 off):pj (λ_=>mj ids l) 0 off:=by
 cases l with
 |free=>trivial
 |own o k=>cases o with
  |eL=>exact h
  |id i=>simp only[mj];cases idxOf i ids <;> exact h
section
variable {P:Program} {C:Ctx} {g:Nat->lG} {β:Id->Option Pl} {s:AS} {a:Act} {w:World} {o:Oper}
theorem OL(ids:List Id):
  sS (s.qE ids) (s.env w g β) ((gw (ids.map (s.lR ids))).env w (λb=>mj ids (g b)) (ug β ids)):=by
 refine⟨⟨λb off v ⟨h1,h2⟩=>⟨h1,?_⟩,λb ob h1 h2=>⟨by show mj ids (g b)= .free;have h1:g b= .free:=h1;rw[h1];rfl,h2⟩⟩,λid ver r hr _=> ?_⟩
 ·exact Mb (l:=g b) h2
 ·unfold AS.qE at hr
  split at hr
  ·rename_i k v fr c hk ho
   split at hr
   ·rename_i R9
    simp only[ax]at hr
    subst hr R9
    have dz:=nY hk
    have db:=eJ ho
    refine⟨⟨?_,λ_ _ _ _=>aV _⟩,λ_=>⟨⟨fr,c,db⟩,?_⟩⟩
    ·show(ids.map (s.lR ids))[k]? ≠none
     simp[dz]
    ·show(ids[k]?).bind β=β id
     rw[dz];rfl
   ·cases hr
  ·cases hr
theorem NK(ids:List Id)(hn:ids.Nodup)(h:jd (s.env w g β)):jd ((gw (ids.map (s.lR ids))).env w (λb=>mj ids (g b)) (ug β ids)):=by
 intro id ver fr c dz
 have dz:(gw (ids.map (s.lR ids))).cz id=some (.obj ver fr c):=dz
 cases id with
 |new i j=>simp[gw,AS.cz]at dz
 |dB k=>
  simp only[gw,AS.cz,fv,fB]at dz
  obtain⟨id1,hk,he⟩:=dz
  unfold AS.lR at he
  split at he
  ·rename_i v fr1 c1 db
   simp only[ea.obj.injEq]at he
   obtain⟨rfl,rfl,rfl⟩:=he
   refine qg (OL ids) (h id1 v fr1 c1 db) (by show(ids[k]?).bind β=β id1;rw[hk];rfl) λpl hp=>⟨rfl,λn hg=> ?_,λhg=> ?_⟩
   ·have hg:g pl.b= .own (.id id1) n:=hg
    show mj ids (g pl.b)=_
    rw[hg]
    simp[mj,sV hn hk]
   ·have hg:g pl.b= .free:=hg
    show mj ids (g pl.b)=_
    rw[hg];rfl
  ·cases he
theorem AY(h:Inv C g β s a w){ids:List Id}(hn:ids.Nodup)(hp:∀id∈ids,∃r,s.obj id=some r)(AG:∀id∈ids,s.BC id=true){G:kr}{t:Nat}(hl:G.cT.length=ids.length)(hv:G.news=[]\/s.eh t=true){v:Value}{w':World}
  (ha:qV ((gw (ids.map (s.lR ids))).env w (λb=>mj ids (g b)) (ug β ids)) G v w'):
  ∃g' β',Inv C g' β' (AS.jF s ids t (s.made ids t G.news) ids G.cT) a w'/\VS ((AS.jF s ids t (s.made ids t G.news) ids G.cT).env w' g' β') (G.val.ja (s.pK ids t)) v:=by
 obtain⟨g1,β1,r9,OF,H3,hle⟩:=ha
 have H3:Trans w w' (λb=>mj ids (g b)) g1:=H3
 obtain⟨m1,m2⟩:=FQ s ids t G.news hv
 have TZ:∀id∈ids,s.cz id≠none:=λid dz=>by
  obtain⟨⟨v,fr,c⟩,hr⟩:=hp id dz
  rw[eJ hr];simp
 have we:∀id,s.cz id≠none->G.news=[]\/∀j,id≠ .new t j:=λid dz=>by
  rcases hv with hv | hv
  ·exact .inl hv
  ·exact .inr λj e=>dz (by rw[e];exact(jZ hv).1 j)
 obtain⟨n1,n2⟩:=uW s ids t ids G.cT (s.made ids t G.news) hn hl (λid dz=>by rw[m1 id (we id (TZ id dz))];exact TZ id dz)
 have Sa:∀j,G.news≠ []->Id.new t j ∉ ids:=λj jb dz=>by
  rcases hv with hv | hv
  ·exact jb hv
  ·exact TZ _ dz ((jZ hv).1 j)
 generalize Br:AS.jF s ids t (s.made ids t G.news) ids G.cT=s2 at*
 have hgO:∀(k:Nat) (id:Id),ids[k]? =some id->∃e,G.cT[k]? =some e/\s2.cz id=some (s.nS ids t (s.tc id) e):=λk id hk=>by
  have jt:k < G.cT.length:=by rw[hl];exact(dR.1 hk).1
  exact⟨_,cQ jt,n2 k id _ hk (cQ jt)⟩
 have hgN:G.news≠ []->∀j,s2.cz (.new t j)=(G.news[j]?).map (s.nS ids t 0):=λjb j=>by
  rw[n1 _ (Sa j jb),m2 jb j]
 have hgS:∀id,id ∉ ids->(G.news=[]\/∀j,id≠ .new t j)->s2.cz id=s.cz id:=λid h1 h2=>by
  rw[n1 id h1,m1 id h2]
 have hverOf:∀id∈ids,∃fr c,s.cz id=some (.obj (s.tc id) fr c):=λid dz=>by
  obtain⟨⟨v,fr,c⟩,hr⟩:=hp id dz
  refine⟨fr,c,?_⟩
  rw[eJ hr]
  simp[AS.tc,hr]
 have TD:∀b n,b < w.heap.size->g1 b= .own .eL n->(g b= .own .eL n\/∃i,g b= .own (.id i) n/\idxOf i ids=none):=λb n hb hg=>by
  have h1:=H3.yO b hb
  cases Aq:g b with
  |free=>simp only[Aq,mj]at h1;rw[h1.1]at hg;cases hg
  |own o k=>cases o with
   |eL=>simp only[Aq,mj]at h1;rw[h1.1]at hg;left;exact hg
   |id i=>
    cases hi:idxOf i ids with
    |none=>
     simp only[Aq,mj,hi]at h1
     rw[h1.1]at hg
     simp only[lG.own.injEq,true_and]at hg
     subst hg
     exact .inr ⟨i,rfl,hi⟩
    |some k'=>
     simp only[Aq,mj,hi]at h1
     rcases h1.1 with h2 | ⟨_,_,h2,_⟩ <;> (rw[h2]at hg;cases hg)
 let g2:Nat->lG:=λb=>mf g w.heap.size ids t b (g1 b)
 let β2:Id->Option Pl:=qw β β1 ids t (!G.news.isEmpty)
 have hβO:∀k id,ids[k]? =some id->β2 id=β1 (.dB k):=λk id hk=>by
  show qw _ _ _ _ _ id=_
  simp[qw,sV hn hk]
 have hβN:G.news≠ []->∀j,β2 (.new t j)=β1 (.new 0 j):=λjb j=>by
  show qw _ _ _ _ _ _=_
  have:idxOf (.new t j) ids=none:=by
   cases hi:idxOf (.new t j) ids with
   |none=>rfl
   |some k=>exact absurd (dj (nY hi)) (Sa j jb)
  have hne':G.news.isEmpty=false:=by cases hh:G.news with
   |nil=>exact absurd hh jb
   |cons _ _=>rfl
  simp[qw,this,hne']
 have hβS:∀id,id ∉ ids->(G.news=[]\/∀j,id≠ .new t j)->β2 id=β id:=λid h1 h2=>by
  show qw _ _ _ _ _ _=_
  have:idxOf id ids=none:=by
   cases hi:idxOf id ids with
   |none=>rfl
   |some k=>exact absurd (dj (nY hi)) h1
  cases id with
  |dB k=>simp[qw,this]
  |new i j=>
   have:¬(i=t/\(!G.news.isEmpty)=true):=by
    rintro⟨rfl,h3⟩
    rcases h2 with h2 | h2
    ·rw[h2]at h3;cases h3
    ·exact h2 j rfl
   simp only[qw, *,if_false]
 have R5:Trans w w' g g2:=by
  refine⟨H3.os,H3.tape,H3.output,H3.size,λb hb=> ?_⟩
  have h1:=H3.yO b hb
  show match g b with | .free=>mf g w.heap.size ids t b (g1 b)= .free/\_ | .own .eL k=>mf g w.heap.size ids t b (g1 b)= .own .eL k/\_ | .own (.id _) k=>(mf g w.heap.size ids t b (g1 b)= .free\/∃i k',mf g w.heap.size ids t b (g1 b)= .own (.id i) k'/\k<=k')/\_
  cases Aq:g b with
  |free=>simp only[Aq,mj]at h1 ⊢;rw[h1.1];exact⟨rfl,h1.2⟩
  |own o k=>cases o with
   |eL=>simp only[Aq,mj]at h1 ⊢;rw[h1.1];simp only[mf,hb,if_true,Aq];exact⟨trivial,h1.2⟩
   |id i=>
    cases hi:idxOf i ids with
    |none=>
     simp only[Aq,mj,hi]at h1 ⊢
     rw[h1.1]
     simp only[mf,hb,if_true,Aq]
     exact⟨.inr ⟨i,k,rfl,ay _⟩,λoff v _ hv=>by simpa only[World.cell?,h1.2]using hv⟩
    |some k'=>
     simp only[Aq,mj,hi]at h1 ⊢
     refine⟨?_,h1.2⟩
     rcases h1.1 with h2 | ⟨i',k'',h2,h3⟩
     ·rw[h2];exact .inl rfl
     ·rw[h2];exact .inr ⟨_,k'',rfl,h3⟩
 have tf:oO (G.st.env w' g1 β1) (s2.env w' g2 β2):=by
  refine⟨λb off v ⟨h1,h2⟩=> ?_,λb ob h1 h2=>⟨by show mf g w.heap.size ids t b (g1 b)= .free;have h1:g1 b= .free:=h1;rw[h1];rfl,h2⟩⟩
  refine⟨h1,?_⟩
  have h2:pj g1 b off:=h2
  show pj g2 b off
  unfold pj at h2 ⊢
  show match mf g w.heap.size ids t b (g1 b) with | .free=>True | .own _ k=>off < k
  cases Aq:g1 b with
  |free=>simp[mf]
  |own o k=>
   rw[Aq]at h2
   cases o with
   |eL=>
    simp only[mf]
    by_cases hb:b < w.heap.size
    ·rw[if_pos hb]
     rcases TD b k hb Aq with h3 | ⟨i,h3,_⟩ <;> (rw[h3];exact h2)
    ·rw[if_neg hb];exact h2
   |id i=>exact h2
 have hentOut:∀(base:Nat) (e:ea) (ver:Nat) (fr:Bool) (c:az),s.nS ids t base e= .obj ver fr c->∃v0 c0,e= .obj v0 fr c0/\ver=base+v0/\c=c0.ja (s.pK ids t):=λbase e ver fr c he=>by
  cases e with
  |dead=>cases he
  |obj v0 fr0 c0=>
   simp only[AS.nS,ea.obj.injEq]at he
   obtain⟨rfl,rfl,rfl⟩:=he
   exact⟨v0,c0,rfl,rfl,rfl⟩
 have Ey:sS (s.pK ids t) (G.st.env w' g1 β1) (s2.env w' g2 β2):=by
  refine⟨tf,λid ver r hr hb=> ?_⟩
  cases id with
  |dB k=>
   obtain⟨yI,AE⟩:=hb
   have yI:G.cT[k]? ≠none:=yI
   have hk:k < ids.length:=by
    rcases mO k ids.length with h' | h'
    ·exact h'
    ·exact absurd (dS (by omega)) yI
   have dz:ids[k]? =some ids[k]:=cQ hk
   simp only[AS.pK,dz,ax]at hr
   subst hr
   obtain⟨e,xL,CE⟩:=hgO k _ dz
   refine⟨⟨by show s2.cz _≠none;rw[CE];simp,λv fr c hh=> ?_⟩,λ⟨fr,c,hh⟩=>⟨?_,hβO k _ dz⟩⟩
   ·have hh:s2.cz ids[k]=some (.obj v fr c):=hh
    rw[CE,ax]at hh
    obtain⟨v0,c0,rfl,rfl,_⟩:=hentOut _ _ _ _ _ hh
    have:=AE v0 fr c0 xL
    omega
   ·have hh:s2.cz ids[k]=some (.obj (s.tc ids[k]+ver) fr c):=hh
    rw[CE,ax]at hh
    obtain⟨v0,c0,rfl,QQ,_⟩:=hentOut _ _ _ _ _ hh
    obtain rfl:ver=v0:=by omega
    exact⟨fr,c0,xL⟩
  |new i j=>
   simp only[AS.pK,ax]at hr
   subst hr
   obtain⟨yI,AE⟩:=hb
   have yI:([G.news].getD i [])[j]? ≠none:=yI
   have AE:∀v fr c,([G.news].getD i [])[j]? =some (.obj v fr c)->ver<=v:=AE
   cases i with
   |succ i=>simp at yI
   |zero=>
    simp only[jv]at yI AE
    have jb:G.news≠ []:=λe=>by rw[e]at yI;simp at yI
    obtain⟨e,he⟩:=Option.ne_none_iff_exists'.1 yI
    have CE:=hgN jb j
    rw[he,eF]at CE
    refine⟨⟨by show s2.cz (.new t j)≠none;rw[CE];simp,λv fr c hh=> ?_⟩,λ⟨fr,c,hh⟩=>⟨?_,hβN jb j⟩⟩
    ·have hh:s2.cz (.new t j)=some (.obj v fr c):=hh
     rw[CE,ax]at hh
     obtain⟨v0,c0,rfl,rfl,_⟩:=hentOut _ _ _ _ _ hh
     have:=AE v0 fr c0 he
     simp only
     omega
    ·have hh:s2.cz (.new t j)=some (.obj ver fr c):=hh
     rw[CE,ax]at hh
     obtain⟨v0,c0,rfl,QQ,_⟩:=hentOut _ _ _ _ _ hh
     obtain rfl:ver=v0:=by omega
     exact⟨fr,c0,he⟩
 have RQ:c7 (s.env w g β) (s2.env w' g2 β2):=by
  refine⟨Trans.mem R5,λid ver hb=> ?_,λid ver hb hc=> ?_⟩
  ·obtain⟨yI,AE⟩:=hb
   have yI:s.cz id≠none:=yI
   have AE:∀v fr c,s.cz id=some (.obj v fr c)->ver<=v:=AE
   by_cases dz:id∈ids
   ·obtain⟨k,hk⟩:=j4.1 dz
    obtain⟨e,xL,CE⟩:=hgO k id hk
    obtain⟨fr1,c1,CG⟩:=hverOf id dz
    refine⟨by show s2.cz _≠none;rw[CE];simp,λv fr c hh=> ?_⟩
    have hh:s2.cz id=some (.obj v fr c):=hh
    rw[CE,ax]at hh
    obtain⟨v0,c0,rfl,rfl,_⟩:=hentOut _ _ _ _ _ hh
    have:=AE _ _ _ CG
    omega
   ·have:=hgS id dz (we id yI)
    exact⟨by show s2.cz _≠none;rw[this];exact yI,λv fr c hh=>AE v fr c (this.symm.trans hh)⟩
  ·obtain⟨yI,AE⟩:=hb
   have yI:s.cz id≠none:=yI
   have AE:∀v fr c,s.cz id=some (.obj v fr c)->ver<=v:=AE
   obtain⟨fr,c,hh⟩:=hc
   have hh:s2.cz id=some (.obj ver fr c):=hh
   by_cases dz:id∈ids
   ·obtain⟨k,hk⟩:=j4.1 dz
    obtain⟨e,xL,CE⟩:=hgO k id hk
    obtain⟨fr1,c1,CG⟩:=hverOf id dz
    rw[CE,ax]at hh
    obtain⟨v0,c0,rfl,QQ,_⟩:=hentOut _ _ _ _ _ hh
    have R9:=AE _ _ _ CG
    obtain rfl:v0=0:=by omega
    have hver':ver=s.tc id:=by omega
    refine⟨⟨fr1,c1,by rw[hver'];exact CG⟩,?_⟩
    show β2 id=β id
    rw[hβO k id hk]
    have RM:s.lR ids id= .obj 0 fr1 (c1.ja (s.qE ids)):=by simp[AS.lR,CG]
    have h0:((gw (ids.map (s.lR ids))).env w (λb=>mj ids (g b)) (ug β ids)).uw (.dB k) 0:=by
     refine⟨?_,λ_ _ _ _=>aV _⟩
     show(ids.map (s.lR ids))[k]? ≠none
     simp[hk]
    have:=(hle.cur (.dB k) 0 h0 ⟨fr,c0,xL⟩).2
    have this:β1 (.dB k)=(ids[k]?).bind β:=this
    rw[this,hk];rfl
   ·have:=hgS id dz (we id yI)
    exact⟨⟨fr,c,this.symm.trans hh⟩,hβS id dz (we id yI)⟩
 have RZ:jd (s2.env w' g2 β2):=by
  intro id ver fr c hh
  have hh:s2.cz id=some (.obj ver fr c):=hh
  by_cases dz:id∈ids
  ·obtain⟨k,hk⟩:=j4.1 dz
   obtain⟨e,xL,CE⟩:=hgO k id hk
   rw[CE,ax]at hh
   obtain⟨v0,c0,rfl,_,rfl⟩:=hentOut _ _ _ _ _ hh
   refine qg Ey (OF (.dB k) v0 fr c0 xL) (hβO k id hk) λpl _=>⟨rfl,λn hg=> ?_,λhg=> ?_⟩
   ·have hg:g1 pl.b= .own (.id (.dB k)) n:=hg
    show mf g w.heap.size ids t pl.b (g1 pl.b)=_
    rw[hg]
    simp[mf,OK,aF,hk]
   ·have hg:g1 pl.b= .free:=hg
    show mf g w.heap.size ids t pl.b (g1 pl.b)=_
    rw[hg];rfl
  ·by_cases jb:G.news≠ []/\∃j,id= .new t j
   ·obtain⟨jb,j,rfl⟩:=jb
    rw[hgN jb j,fB]at hh
    obtain⟨e,he,hh⟩:=hh
    obtain⟨v0,c0,rfl,_,rfl⟩:=hentOut _ _ _ _ _ hh
    refine qg Ey (OF (.new 0 j) v0 fr c0 (by show([G.news].getD 0 [])[j]? =_;simpa using he)) (hβN jb j) λpl _=>⟨rfl,λn hg=> ?_,λhg=> ?_⟩
    ·have hg:g1 pl.b= .own (.id (.new 0 j)) n:=hg
     show mf g w.heap.size ids t pl.b (g1 pl.b)=_
     rw[hg]
     rfl
    ·have hg:g1 pl.b= .free:=hg
     show mf g w.heap.size ids t pl.b (g1 pl.b)=_
     rw[hg];rfl
   ·have U9:G.news=[]\/∀j,id≠ .new t j:=by
     by_cases hh:G.news=[]
     ·exact .inl hh
     ·exact .inr λj e=>jb ⟨hh,j,e⟩
    rw[hgS id dz U9]at hh
    have same:∀id,id ∉ ids->∀ver fr c,s.cz id=some (.obj ver fr c)->∀pl,β id=some pl->w'.heap[pl.b]? =w.heap[pl.b]? /\mf g w.heap.size ids t pl.b (g1 pl.b)=g pl.b:=by
     intro id dz ver fr c hh pl xw
     obtain⟨hb,RP⟩:=(h.bU id ver fr c hh).label (pl:=pl) xw
     have hb:pl.b < w.heap.size:=hb
     have h1:=H3.yO pl.b hb
     have TG:idxOf id ids=none:=by
      cases hi:idxOf id ids with
      |none=>rfl
      |some k=>exact absurd (dj (nY hi)) dz
     rcases RP with⟨k,hk⟩ | ⟨_,hk⟩
     ·have hk:g pl.b= .own (.id id) k:=hk
      simp only[hk,mj,TG]at h1
      rw[h1.1]
      simp only[mf,hb,if_true]
      exact⟨h1.2,trivial⟩
     ·have hk:g pl.b= .free:=hk
      simp only[hk,mj]at h1
      rw[h1.1,hk]
      exact⟨h1.2,rfl⟩
    have ho:=h.bU id ver fr c hh
    refine ho.mono RQ (hβS id dz U9) (λpl xw=>same id dz ver fr c hh pl xw) λq2 vq k2 v2 l2 Bq _=> ?_
    have Bq:s.cz q2=some (.obj vq true (.mp k2 v2 l2)):=Bq
    have Jc:q2 ∉ ids:=λhm=>by
     have:=AG q2 hm
     have e:s.obj q2=some (vq,true,.mp k2 v2 l2):=by simp[AS.obj,Bq]
     unfold AS.BC at this
     rw[e]at this
     cases this
    refine⟨⟨k2,v2,l2,?_⟩,λpl xw=>same q2 Jc vq true _ Bq pl xw⟩
    show s2.cz q2=_
    rw[hgS q2 Jc (we q2 (by rw[Bq];simp))]
    exact Bq
 have Jd:s2.cO=s.cO:=by rw[<-Br,tq,Cl]
 exact⟨g2,β2,h.step Jd R5 RQ RZ,wJ Ey r9⟩
end
end Go.Ab
namespace Go.Ab
theorem qC(s:AS):∀(n:Nat) (todo acc:List Id),acc.Nodup->(s.reach n todo acc).Nodup
 | 0,_,acc,h=>by simpa[AS.reach]using h
 |_+1,[],acc,h=>by simpa[AS.reach]using h
 |n+1,id::todo,acc,h=>by
  rw[AS.reach]
  split
  ·exact qC s n todo acc h
  ·rename_i hc
   refine qC s n _ _ ?_
   rw[mh]
   refine⟨h,by simp,λx hx y hy e=> ?_⟩
   simp only[ck]at hy
   subst hy e
   exact hc (by simpa using hx)
theorem va(s:AS)(vs:List az):(s.Jg vs).Nodup:=qC s _ _ _ (by simp)
section
variable {P:Program} {C:Ctx} {g:Nat->lG} {β:Id->Option Pl} {s:AS} {a:Act} {w:World} {o:Oper}
theorem yX(h:Inv C g β s a w){en:Entry}{ids:List Id}(hn:ids.Nodup){vs:List az}{ys:List Value}(hv:sO (s.env w g β) vs ys)
  {s':AS} (he:(s.enter en o.dst ids vs).eval=some s'):∃x,en.run (vs.map (az.ja (s.qE ids))) (ids.map (s.lR ids))=some x/\
   sO ((gw (ids.map (s.lR ids))).env w (λb=>mj ids (g b)) (ug β ids)) (vs.map (az.ja (s.qE ids))) ys/\
   jd ((gw (ids.map (s.lR ids))).env w (λb=>mj ids (g b)) (ug β ids))/\
   ∀v w',qV ((gw (ids.map (s.lR ids))).env w (λb=>mj ids (g b)) (ug β ids)) (en.out (vs.map (az.ja (s.qE ids))) (ids.map (s.lR ids)) x) v w'->iN C s' (a.put o.dst v) w':=by
 unfold AS.enter at he
 obtain⟨tW,he⟩:=aC.1 he
 obtain⟨x,hx,he⟩:=ql.1 he
 obtain⟨x0,Sb,he⟩:=au.1 he
 rw[en.O0 _ _ Sb]at he
 have hp:∀id∈ids,∃r,s.obj id=some r:=λid dz=>by
  have:=dw.1 tW id dz
  rw[ak]at this
  exact cv.1 this.1
 have AG:∀id∈ids,s.BC id=true:=λid dz=>by
  have:=dw.1 tW id dz
  rw[ak]at this
  exact this.2
 refine⟨x,hx,sO.ja (OL ids) hv,NK ids hn h.bU,?_⟩
 intro v w' ha
 unfold AS.back at he
 cases RF:o.dst with
 |some t=>
  rw[RF]at he
  obtain⟨hg,he⟩:=aC.1 he
  obtain rfl:=aw.1 he
  simp only[ak,beq_iff_eq,gP]at hg
  obtain⟨hl,hg⟩:=hg
  have LS:(en.out (vs.map (az.ja (s.qE ids))) (ids.map (s.lR ids)) x).news=[]\/s.eh t=true:=by
   rcases hg with hg | hg
   ·exact .inl (by simpa using hg)
   ·exact .inr hg
  obtain⟨g2,β2,h1,h2⟩:=AY h hn hp AG hl LS ha
  exact⟨g2,β2,h1.put (some t) h2⟩
 |none=>
  rw[RF]at he
  obtain⟨hg,he⟩:=aC.1 he
  obtain rfl:=aw.1 he
  simp only[ak,beq_iff_eq]at hg
  obtain⟨hl,hg⟩:=hg
  have we:(en.out (vs.map (az.ja (s.qE ids))) (ids.map (s.lR ids)) x).news=[]:=by simpa using hg
  obtain⟨g2,β2,h1,_⟩:=AY (t:=0) h hn hp AG hl (.inl we) ha
  rw[we]at h1
  exact⟨g2,β2,h1⟩
theorem HL(h:Inv C g β s a w){f:FuncId}{en:Entry}(hd:mo P f en){ids:List Id}(hn:ids.Nodup){vs:List az}{ys:List Value}(hv:sO (s.env w g β) vs ys)
  (hr:(execOp a.eval o).run P w=(callFunc f ys.toArray).run P w) {s':AS} (he:(s.enter en o.dst ids vs).eval=some s'):fU P o a w (iN C s'):=by
 obtain⟨x,hx,h1,h2,key⟩:=yX h hn hv he
 rcases hd _ _ _ _ _ _ _ h1 h2 hx with⟨KY,hc⟩ | ⟨v,w',SX,ha⟩
 ·exact .inr (.inr (.inl ⟨f,ys.toArray,w,hr.trans KY,hc.mono λe w' ⟨v,he,ha⟩=>⟨v,he,key v w' ha⟩⟩))
 ·exact .inl ⟨v,w',hr.trans SX,key v w' ha⟩
theorem JP(h:Inv C g β s a w){c:Call}{F:Operand}{f:FuncId}{caps:az}{en:Entry}(ho:o.op= .call c)(hc:c.callee= .value F)(hF:s.ev F= .fn f caps)(hd:mo P f en){s':AS}
  (he:(s.call en o.dst (c.args.toList.map s.ev++caps.list)).eval=some s'):fU P o a w (iN C s'):=by
 obtain⟨cal,args,tys⟩:=c
 simp only at hc he
 subst hc
 obtain⟨vs,hy,SY⟩:=Dr (hF▸h.ev F)
 have Bm:=(h.To args.toList).append (Hs SY)
 have hr:(execOp a.eval o).run P w=(callFunc f (args.toList.map a.eval++vs).toArray).run P w:=by
  have e1:execOp a.eval o=(do let d <-resolve a.eval {callee:= .value F,args,argTypes:=tys} o.type;invoke d.target d.args):=by simp only[execOp,ho]
  rw[e1]
  simp only[resolve,hy,Deferred.ofValue,Sem.run_bind,Sem.run_pure,Result.andThen_ok,invoke]
  congr 2
  simp
 unfold AS.call at he
 obtain⟨r,h1,h2⟩:=au.1 he
 obtain⟨g',i1,e1,_,f1⟩:=gj r.2 h
 exact HL i1 hd (va _ _) (uV rfl h.bU e1 _ _ _ r Bm h1 f1) hr h2
theorem tN.Wm{E:Env}{f:az}{tmps:Array Value}(h:tN E f tmps):sO E f.list tmps.toList:=by
 obtain⟨h1,h2⟩:=h
 have gen:∀(l:List az) (ys:List Value),l.length=ys.length->(∀i,VS E (l.getD i .undef) (ys.getD i undef))->sO E l ys:=by
  intro l
  induction l with
  |nil=>intro ys hl _;cases ys with
   |nil=>trivial
   |cons _ _=>simp at hl
  |cons x l ih=>intro ys hl hi;cases ys with
   |nil=>simp at hl
   |cons y ys=>exact⟨by simpa using hi 0,ih ys (by simpa using hl) λi=>by simpa using hi (i+1)⟩
 exact gen _ _ (by simpa using h1) λi=>by simpa[cY,aF]using h2 i
theorem IL(h:Inv C g β s a w){c:Call}{F:Operand}{id:Id}{ver:Nat}{rc:pv}{f:az}{en:Entry}(ho:o.op= .call c)(hc:c.callee= .value F)
  (hF:s.yielded (s.ev F) c.args.size=some (id,ver,rc,f)) (SS:rc=um P rc.y) (hd:qc P rc.y en) {s':AS}
  (he:(s.call en o.dst (.yl id ver::(c.args.toList.map s.ev++f.list))).eval=some s'):fU P o a w (iN C s'):=by
 obtain⟨cal,args,tys⟩:=c
 simp only at hc he hF
 subst hc
 unfold AS.yielded at hF
 split at hF
 rotate_left
 ·cases hF
 rename_i id' ver' J8
 split at hF
 rotate_left
 ·cases hF
 rename_i v c0 f0 kG
 split at hF
 rotate_left
 ·cases hF
 rename_i RB
 simp only[ax,da]at hF
 obtain⟨rfl,rfl,rfl,rfl⟩:=hF
 simp only[ak,beq_iff_eq]at RB
 obtain⟨⟨rfl,oG⟩,hy⟩:=RB
 have db:=eJ kG
 have hv:=h.ev F
 rw[J8]at hv
 obtain⟨cs,hV,hO⟩:=hv
 simp only[V]at hV
 obtain⟨l,rfl,hb,fF⟩:=hV
 have Sd:a.eval F= .func (.yield l) #[] #[]:=by simpa[gd,az.agg]using hO.symm
 obtain⟨pl,hp,rfl⟩:=fF ⟨false,_,db⟩
 obtain⟨pl',r,hp',hh,hg,⟨q1,q2,q3⟩,Jd,oJ⟩:=h.bU id' v false _ db
 have hp':β id'=some pl':=hp'
 have hp:β id'=some pl:=hp
 rw[hp']at hp
 obtain rfl:pl'=pl:=by simpa using hp
 have hh:w.heap[pl'.b]? =some (.loop r):=hh
 have Bm:sO (s.env w g β) (.yl id' v::(args.toList.map s.ev++f0.list)) (.func (.yield pl'.b) #[] #[]::(args.toList.map a.eval++r.tmps.toList)):=
  ⟨by rw[<-Sd,<-J8];exact h.ev F,(h.To args.toList).append Jd.Wm⟩
 have hr:(execOp a.eval o).run P w= .ok (.round pl'.b r.fn ((c0.ps.zip (args.toList.map a.eval).toArray).foldl (λtmps (t,a)=>tmps.setIfInBounds t a) r.tmps.toList.toArray) c0.as c0.b) w:=by
  have e1:execOp a.eval o=(do let d <-resolve a.eval {callee:= .value F,args,argTypes:=tys} o.type;invoke d.target d.args):=by simp only[execOp,ho]
  have e2:=run_yield (P:=P) (args:=args.map a.eval) hh (by simpa[q1]using oG)
  rw[q1,q2,q3]at e2
  rw[e1]
  simp only[resolve,Sd,Deferred.ofValue,Sem.run_bind,Sem.run_pure,Result.andThen_ok,invoke]
  have e3:(args.toList.map a.eval).toArray=args.map a.eval:=by apply gA;simp
  rw[e3]
  simpa using e2
 unfold AS.call at he
 obtain⟨r2,h1,h2⟩:=au.1 he
 obtain⟨g',i1,e1,_,f1⟩:=gj r2.2 h
 obtain⟨x,hx,k1,k2,key⟩:=yX i1 (va _ _) (uV rfl h.bU e1 _ _ _ r2 Bm h1 f1) h2
 refine .inr (.inr (.inr ⟨pl'.b,r.fn,_,c0.as,c0.b,w,hr,λrd n=> ?_⟩))
 have:=hd.2 hy _ _ _ _ _ _ x k1 k2 hx pl'.b (args.toList.map a.eval) r.tmps.toList r.fn rd n rfl (by rw[<-SS];simpa using oG)
 rw[<-SS]at this
 exact this.mono λe w' ⟨v,he,ha⟩=>⟨v,he,key v w' ha⟩
end
end Go.Ab
namespace Go.Ab
section
variable {P:Program} {C:Ctx} {g:Nat->lG} {β:Id->Option Pl} {s:AS} {a:Act} {w:World} {o:Oper}
theorem jB{b:Builtin}{args:Array Operand}{ts:Array TypeId}{F:TypeId->Array Value->Sem Value}{x:Value}{w':World}{s':AS}(ho:o.op= .call {callee:= .builtin b,args,argTypes:=ts})
  (hb:∀ty cs xs,builtin b ts ty cs xs=(do pure (.value (<-F ty xs)))) (hf:∀ty,(F ty (args.map a.eval)).run P w= .ok x w') (h2:∃g' β',Inv C g' β' s' (a.put o.dst x) w'):fU P o a w (iN C s'):=by
 refine .inl ⟨x,w',?_,h2⟩
 simp only[execOp,ho,resolve,Sem.run_bind,Sem.run_pure,Result.andThen_ok,invoke]
 rw[hb,Sem.run_bind,hf]
 rfl
theorem HH(h:Inv C g β s a w){src dst:TypeId}{x:Operand}(ho:o.op= .convert src dst x){id:Id}{ver:Nat}(hx:s.ev x= .ptr id ver [] 0){v:az}(he:(Dk P s src dst id ver).eval=some v):fU P o a w (iN C (s.put o.dst v)):=by
 have hv:=h.ev x
 rw[hx]at hv
 obtain⟨ad,hy,hb,hc⟩:=pJ hv
 have fin:v= .ptr id ver [] 0->(convert src dst (a.eval x)).run P w= .ok (a.eval x) w->fU P o a w (iN C (s.put o.dst v)):=by
  intro h1 h2
  subst h1
  exact h.value hv (ef (f:=convert src dst (a.eval x)) (by simp only[execOp,ho]) h2)
 unfold Dk at he
 split at he
 ·rename_i v0 fr e c kG
  have db:=eJ kG
  obtain⟨pl',cur,e',hp',hh,hg,hk,hV⟩:=(h.bU id v0 fr _ db).box rfl
  have hk:e'=e:=hk
  subst hk
  have hV:V (s.env w g β) c (cur.toList.take cur.size):=hV
  rw[<-c6,bY]at hV
  have hh:w.heap[pl'.b]? =some (.cells cur e' (0,0)):=hh
  have oG:=hV.size
  have oG:cur.toList.length=c.size:=oG
  have LO:w.shape? pl'.b=some (e',c.size):=by simp only[World.shape?,hh];rw[<-oG];simp
  have hp':β id=some pl':=hp'
  split at he
  ·rename_i t hS hD
   obtain⟨h1,h2⟩:=aC.1 he
   have h2:=aw.1 h2
   simp only[ak,beq_iff_eq,bX,beq_eq_false_iff_ne]at h1
   obtain⟨⟨rfl,h3⟩,h4⟩:=h1
   obtain⟨pl,hp,rfl⟩:=hc ⟨fr,_,db⟩
   have hp:β id=some pl:=hp
   rw[hp']at hp
   obtain rfl:pl'=pl:=by simpa using hp
   refine fin h2.symm ?_
   rw[hy]
   cases hi:P.info? t with
   |none=>exact absurd (by simp[Program.cellsOf,hi]) h3
   |some j=>
    have hj:j.size≠0:=by rw[<-lJ hi]at*;exact h3
    exact Go.Lib.run_to_unsafe w _ hS hD hi hj LO (by show 0 < c.size;omega)
  ·rename_i u hS hD
   obtain⟨h1,h2⟩:=aC.1 he
   have h2:=aw.1 h2
   simp only[ak,beq_iff_eq,bX,beq_eq_false_iff_ne]at h1
   obtain⟨⟨rfl,h3⟩,h4⟩:=h1
   obtain⟨pl,hp,rfl⟩:=hc ⟨fr,_,db⟩
   have hp:β id=some pl:=hp
   rw[hp']at hp
   obtain rfl:pl'=pl:=by simpa using hp
   refine fin h2.symm ?_
   rw[hy]
   cases hi:P.info? u with
   |none=>exact absurd (by simp[Program.cellsOf,hi]) h3
   |some j=>exact Go.Lib.run_from_unsafe w _ hS hD hi LO h4
  ·simp only[ao]at he
 ·simp only[ao]at he
theorem LD(h:Inv C g β s a w){T U:TypeId}{op:BinOp}{x y:Operand}(ho:o.op= .binOp op T x y U){i j:Id}{v1 v2:Nat}(hx:s.ev x= .ptr i v1 [] 0)(hy:s.ev y= .ptr j v2 [] 0){v:az}(he:(QF P s T op i v1 j v2).eval=some v):
  fU P o a w (iN C (s.put o.dst v)):=by
 unfold QF at he
 split at he
 ·rename_i v' fr c kG
  obtain⟨h1,h2⟩:=aC.1 he
  simp only[ak,beq_iff_eq,decide_eq_true_eq]at h1
  obtain⟨⟨⟨rfl,rfl⟩,rfl⟩,QP⟩:=h1
  have db:=eJ kG
  have Bu:=h.ev x
  have OJ:=h.ev y
  rw[hx]at Bu
  rw[hy]at OJ
  obtain⟨ad,Rt,_,hc⟩:=pJ Bu
  obtain⟨ad',Ru,_,hc'⟩:=pJ OJ
  obtain⟨pl,hp,rfl⟩:=hc ⟨fr,c,db⟩
  obtain⟨pl',hp',rfl⟩:=hc' ⟨fr,c,db⟩
  rw[hp]at hp'
  obtain rfl:pl=pl':=by simpa using hp'
  have hT:∃t j,P.underlying T=some (.pointer t)/\P.info? t=some j:=by
   unfold Ss at QP
   split at QP
   ·rename_i t ht
    obtain⟨j,hj⟩:=cv.1 QP
    exact⟨t,j,ht,hj⟩
   ·cases QP
  obtain⟨t,j,hT,hj⟩:=hT
  have hq:(Op.equal T (.pointer (some ⟨pl.b,0,none⟩)) (.pointer (some ⟨pl.b,0,none⟩))).run P w= .ok true w:=
   fA λd=>by simp[Op.equalIn,run_underlying hT,sizeOf,typeInfo,hj,run_sameAddr_same]
  have VE:(eqGuard op T x y (a.eval x) (a.eval y)).run P w= .ok () w:=by rw[Rt,Ru];exact l8 (by simp) rfl
  have fin:∀z,(binOp op T (a.eval x) (a.eval y)).run P w= .ok z w->VS (s.env w g β) v z->fU P o a w (iN C (s.put o.dst v)):=by
   intro z h1 h3
   refine h.value h3 ?_
   simp[execOp,ho,h1,VE]
  split at h2
  ·obtain rfl:=aw.1 h2
   refine fin (.bool true) ?_ (pR true)
   rw[Rt,Ru]
   simp[binOp,hq]
  ·obtain rfl:=aw.1 h2
   refine fin (.bool false) ?_ (pR false)
   rw[Rt,Ru]
   simp[binOp,hq]
  ·simp only[ao]at h2
 ·simp only[ao]at he
theorem Oi{c:Call}{b:Builtin}{x:Operand}(hc:c.callee= .builtin b)(ha:c.args.toList=[x]):c= {callee:= .builtin b,args:= #[x],argTypes:=c.argTypes}:=by
 obtain⟨cal,args,tys⟩:=c
 simp only at hc ha
 have ha':args= #[x]:=by apply gA;simpa using ha
 subst hc ha'
 rfl
theorem IT{c:Call}{b:Builtin}{x y:Operand}(hc:c.callee= .builtin b)(ha:c.args.toList=[x,y]):c= {callee:= .builtin b,args:= #[x,y],argTypes:=c.argTypes}:=by
 obtain⟨cal,args,tys⟩:=c
 simp only at hc ha
 have ha':args= #[x,y]:=by apply gA;simpa using ha
 subst hc ha'
 rfl
theorem UH{ts:Array TypeId}{T:TypeId}(h:ts.toList=[T]):ts= #[T]:=by apply gA;simpa using h
theorem Qw{ts:Array TypeId}{T U:TypeId}(h:ts.toList=[T,U]):ts= #[T,U]:=by apply gA;simpa using h
theorem Lq(h:Inv C g β s a w){c:Call}{x:Operand}{T e:TypeId}(ho:o.op= .call c)(hc:c.callee= .builtin .cap)(ha:c.args.toList=[x])(ht:c.argTypes.toList=[T])(hx:s.ev x= .df)(hT:P.underlying T=some (.slice e)):
  fU P o a w (iN C (s.put o.dst (.d (.int .i64) (0:Int)))):=by
 rw[Oi hc ha,UH ht]at ho
 have hv:=h.ev x
 rw[hx]at hv
 have hy:=km hv
 refine jB ho (F:=λty xs=>Builtin.cap_ #[T] ty xs) (λty cs xs=>rfl) (x:= .int .i64 0) (w':=w) (λty=> ?_) ⟨g,β,h.put o.dst (ky _ _)⟩
 simp[Builtin.cap_,run_underlying hT,hy,goInt]
theorem GX(h:Inv C g β s a w){c:Call}{x:Operand}{id:Id}{ver len:Nat}(ho:o.op= .call c)(hc:c.callee= .builtin .unsafeSliceData)(ha:c.args.toList=[x])(hx:s.ev x= .cP id ver [] 0 0 len)(hl:0 < len):
  fU P o a w (iN C (s.put o.dst (.ptr id ver [.idx 0] 0))):=by
 rw[Oi hc ha]at ho
 have hv:=h.ev x
 rw[hx]at hv
 obtain⟨ad,cap,hy,xK,hs,hb,fF⟩:=nJ hv
 obtain⟨ad,rfl⟩:=cv.1 (hs hl)
 refine jB ho (F:=λty xs=>Builtin.unsafeSliceData_ c.argTypes ty xs) (λty cs xs=>rfl) (x:= .pointer (some ad)) (w':=w) (λty=> ?_) ⟨g,β,h.put o.dst ?_⟩
 ·rw[show(#[x].map a.eval)= #[a.eval x] by simp,hy]
  exact Go.Lib.run_unsafeSliceData_row w _ _ _ _ _ (by omega)
 ·refine⟨[.pointer (some ad)],?_,rfl⟩
  simp only[V]
  refine⟨ad,rfl,hb,λhc=> ?_⟩
  have h1:=fF hc
  cases hp:(s.env w g β).β id with
  |none=>rw[hp]at h1;simp only at h1;cases h1.1
  |some pl=>
   rw[hp]at h1
   simp only at h1
   exact⟨pl,rfl,by simpa using h1.1 (.inl hl)⟩
theorem Gr(h:Inv C g β s a w){c:Call}{mx:Bool}(ho:o.op= .call c)(hc:c.callee= .builtin (if mx then .max else .min)){v:az}(he:(Km mx (c.args.toList.map s.ev)).eval=some v):fU P o a w (iN C (s.put o.dst v)):=by
 unfold Km at he
 split at he
 ·rename_i k x k' y zQ
  obtain⟨h1,h2⟩:=aC.1 he
  obtain rfl:=aw.1 h2
  have h1:k=k':=by simpa using h1
  subst h1
  have LI:∃p q,c.args.toList=[p,q]/\s.ev p= .d (.int k) x/\s.ev q= .d (.int k) y:=by
   match hh:c.args.toList,zQ with
   |[p,q],zQ=>simp only[bR,fT,dC]at zQ;exact⟨p,q,rfl,zQ.1,zQ.2.1⟩
   |[],zQ=>simp at zQ
   |[_],zQ=>simp at zQ
   |_::_::_::_,zQ=>simp at zQ
  obtain⟨p,q,ha,hp,hq⟩:=LI
  rw[IT hc ha]at ho
  have P5:=h.ev p
  have OI:=h.ev q
  rw[hp]at P5
  rw[hq]at OI
  have ep:=pD P5
  have eq:=pD OI
  cases mx with
  |true=>
   refine jB ho (F:=λty xs=>Builtin.max_ c.argTypes ty xs) (λty cs xs=>rfl) (x:= .int k (if x < y then y else x)) (w':=w) (λty=> ?_) ⟨g,β,h.put o.dst (ky _ _)⟩
   rw[show(#[p,q].map a.eval)= #[a.eval p,a.eval q] by simp,ep,eq]
   simp[Builtin.max_,Builtin.max2]
  |false=>
   refine jB ho (F:=λty xs=>Builtin.min_ c.argTypes ty xs) (λty cs xs=>rfl) (x:= .int k (if y < x then y else x)) (w':=w) (λty=> ?_) ⟨g,β,h.put o.dst (ky _ _)⟩
   rw[show(#[p,q].map a.eval)= #[a.eval p,a.eval q] by simp,ep,eq]
   simp[Builtin.min_,Builtin.min2]
 ·rename_i k x k' y k2 z zQ
  obtain⟨h1,h2⟩:=aC.1 he
  obtain rfl:=aw.1 h2
  simp only[ak,decide_eq_true_eq]at h1
  obtain⟨rfl,rfl⟩:=h1
  have LI:∃p q r,c.args.toList=[p,q,r]/\s.ev p= .d (.int k) x/\s.ev q= .d (.int k) y/\s.ev r= .d (.int k) z:=by
   match hh:c.args.toList,zQ with
   |[p,q,r],zQ=>simp only[bR,fT,dC]at zQ;exact⟨p,q,r,rfl,zQ.1,zQ.2.1,zQ.2.2.1⟩
   |[],zQ=>simp at zQ
   |[_],zQ=>simp at zQ
   |[_,_],zQ=>simp at zQ
   |_::_::_::_::_,zQ=>simp at zQ
  obtain⟨p,q,r,ha,hp,hq,hr⟩:=LI
  have Oq:c= {callee:= .builtin (if mx then .max else .min),args:= #[p,q,r],argTypes:=c.argTypes}:=by
   obtain⟨cal,args,tys⟩:=c
   simp only at hc ha
   have ha':args= #[p,q,r]:=by apply gA;simpa using ha
   subst hc ha'
   rfl
  rw[Oq]at ho
  have P5:=h.ev p
  have OI:=h.ev q
  have H4:=h.ev r
  rw[hp]at P5
  rw[hq]at OI
  rw[hr]at H4
  have ep:=pD P5
  have eq:=pD OI
  have er:=pD H4
  cases mx with
  |true=>
   refine jB ho (F:=λty xs=>Builtin.max_ c.argTypes ty xs) (λty cs xs=>rfl) (x:= .int k (if(if x < y then y else x) < z then z else(if x < y then y else x))) (w':=w) (λty=> ?_) ⟨g,β,h.put o.dst (ky _ _)⟩
   rw[show(#[p,q,r].map a.eval)= #[a.eval p,a.eval q,a.eval r] by simp,ep,eq,er]
   simp[Builtin.max_,Builtin.max2]
  |false=>
   refine jB ho (F:=λty xs=>Builtin.min_ c.argTypes ty xs) (λty cs xs=>rfl) (x:= .int k (if z < (if y < x then y else x) then z else(if y < x then y else x))) (w':=w) (λty=> ?_) ⟨g,β,h.put o.dst (ky _ _)⟩
   rw[show(#[p,q,r].map a.eval)= #[a.eval p,a.eval q,a.eval r] by simp,ep,eq,er]
   simp[Builtin.min_,Builtin.min2]
 ·simp only[ao]at he
theorem CC(z:Array Value)(n:Nat):Builtin.zeroCells z n=madeCells z (n*z.size):=rfl
theorem J0(h:Inv C g β s a w){c:Call}{x y:Operand}{T X:TypeId}{k:IntKind}{n:Int}(ho:o.op= .call c)(hc:c.callee= .builtin .append)(ha:c.args.toList=[x,y])(ht:c.argTypes.toList=[T,X])(hx:s.ev x= .df)(hy:s.ev y= .d (.int k) n){s':AS}
  (he:(F1 P s o.dst T X n).eval=some s'):fU P o a w (iN C s'):=by
 rw[IT hc ha,Qw ht]at ho
 have Bu:=h.ev x
 have OJ:=h.ev y
 rw[hx]at Bu
 rw[hy]at OJ
 have ex:=km Bu
 have ey:=pD OJ
 unfold F1 at he
 split at he
 ·rename_i e t b q kn wc hd hX
  obtain⟨hT,hz,i,zv,hi,Ka,NC,Hk,Kd⟩:=te wc
  obtain⟨hq,h2⟩:=aC.1 he
  obtain⟨h3,h4⟩:=bZ.1 h2
  obtain rfl:=aw.1 h4
  simp only[ak,decide_eq_true_eq,dG]at h3
  obtain⟨h5,h7,h8⟩:=h3
  obtain⟨m,rfl⟩:=Int.eq_ofNat_of_zero_le (lB h5)
  simp only[aa]at h7 h8 ⊢
  have QT:zv.cells.size=t.size:=by have:=(Kd (s.env w g β)).size;simpa using this
  have hr:=λty=>Go.Lib.run_append_nil_zeros (P:=P) w T X ty e i zv k kn hT hX hi Hk m (by omega) (by rw[Ka];exact hz) (by omega) (by rw[NC];omega)
  obtain⟨cap,xK⟩:∃cap,grownCap w m 0 e=cap:=⟨_,rfl⟩
  have c1:m<=cap:=by rw[<-xK];exact grownCap_ge _ _ _ _
  have c2:cap<=maxLen:=by rw[<-xK];exact grownCap_le_maxLen _ _ _ _ (by unfold maxLen;omega)
  rw[xK]at hr
  obtain⟨cur,fF⟩:∃cur,Builtin.zeroCells zv.cells m++Builtin.zeroCells zv.cells (cap - m)=cur:=⟨_,rfl⟩
  rw[fF]at hr
  have s1:cur.size=cap*t.size:=by
   rw[<-fF,Array.size_append,sM,sM,QT,<-eM]
   congr 1
   omega
  have tW:=o9 (Kd (s.env w.drew g β)) m
  have s2:cur.toList.take (m*t.size)=(madeCells zv.cells (m*t.size)).toList:=by
   rw[<-fF,cn,CC,QT]
   have hl:(madeCells zv.cells (m*t.size)).toList.length=m*t.size:=by simp[size_madeCells]
   rw[gF (by omega),bz (by omega)]
  obtain⟨g2,β2,i2,zP⟩:=(h.drew).EM hq (e:=e) (l:=List.replicate m t.zero) (cur:=cur) (cap:=cap) hz (by rw[cJ,s2];exact tW) s1 (by rw[cJ];exact c1) c2
  rw[cJ]at zP
  refine jB ho (F:=λty xs=>Builtin.append_ #[T,X] ty xs) (λty cs xs=>rfl) (λty=> ?_) ⟨g2,β2,i2.put o.dst zP⟩
  rw[show(#[x,y].map a.eval)= #[a.eval x,a.eval y] by simp,ex,ey]
  exact hr ty
 ·simp only[ao]at he
theorem DU:∀(xs:List Int) (a:Addr) (acc:ByteArray),(∀j x,xs[j]? =some x->w.cell? (a.add j)=some (.int .u8 x))->
  (loadBytes a acc xs.length).run P w= .ok ⟨acc.data++(xs.map λn=>UInt8.ofNat n.toNat).toArray⟩ w
 |[],a,acc,_=>by simp[loadBytes]
 |x::l,a,acc,h=>by
  have h0:w.cell? a=some (.int .u8 x):=by
   have:=h 0 x rfl
   simpa[Addr.add]using this
  have ih:=DU l (a.add 1) (acc.push x.toNat.toUInt8) (λj y hy=>by
   have:=h (j+1) y (by simpa using hy)
   have e:(a.add 1).add j=a.add (j+1):=by
    unfold Addr.add
    by_cases hj:j=0
    ·subst hj;simp
    ·simp[hj];omega
   rw[e];exact this)
  simp only[aD,loadBytes,Sem.run_bind,run_load,h0,Result.andThen]
  rw[ih]
  congr 1
  apply ByteArray.ext
  simp[ByteArray.push]
theorem KQ(h:Inv C g β s a w){c:Call}{x y:Operand}{T U:TypeId}{id:Id}{ver:Nat}{n:Int}(ho:o.op= .call c)(hc:c.callee= .builtin .unsafeString)(ha:c.args.toList=[x,y])(ht:c.argTypes.toList=[T,U])
  (hx:s.ev x= .ptr id ver [.idx 0] 0) (hy:s.ev y= .d (.int .i64) n) {s':AS} (he:(G9 P s o.dst T id ver n).eval=some s'):fU P o a w (iN C s'):=by
 rw[IT hc ha,Qw ht]at ho
 have Bu:=h.ev x
 rw[hx]at Bu
 obtain⟨ad,Rt,_,Vv⟩:=pJ Bu
 have OJ:=h.ev y
 rw[hy]at OJ
 have Ru:=pD OJ
 unfold G9 at he
 split at he
 ·rename_i v e l u kG hT
  obtain⟨h1,h2⟩:=aC.1 he
  obtain⟨h3,h4⟩:=bZ.1 h2
  obtain rfl:=aw.1 h4
  simp only[ak,beq_iff_eq]at h1
  obtain⟨⟨rfl,rfl⟩,SI⟩:=h1
  simp only[decide_eq_true_eq]at h3
  obtain⟨h5,h6⟩:=h3
  obtain⟨n,rfl⟩:=Int.eq_ofNat_of_zero_le (lB h5)
  have h6:n<=(l:List Int).length:=by omega
  have db:=eJ kG
  obtain⟨pl,hp,rfl⟩:=Vv ⟨false,_,db⟩
  have hp:β id=some pl:=hp
  have hO:qf (s.env w g β) id false (.vec u (.int .u8) l):=h.bU id v false _ db
  obtain⟨hz,hO⟩:=hO
  have hO:(match β id with
   |none=>l=[]
   |some pl=>∃cur k,w.heap[pl.b]? =some (.cells cur u (0,0))/\cur.size=pl.cap*(Ty.int .u8).size/\(l:List Int).length<=pl.cap/\pl.cap<=maxLen/\g pl.b= .own (.id id) k/\
     k<=(l:List Int).length*(Ty.int .u8).size/\(false=false->k=0)/\bA (dn (s.env w g β) (.int .u8)) (cur.toList.take ((l:List Int).length*(Ty.int .u8).size)) l):=hO
  rw[hp]at hO
  obtain⟨cur,k,q1,q2,q3,q4,q5,q6,q7,q8⟩:=hO
  have hk:=q7 rfl
  subst hk
  have PW:(Ty.int .u8).size=1:=rfl
  rw[PW,lh]at q2 q8
  have wx:=qk q8
  have LO:w.shape? pl.b=some (u,cur.size):=by simp only[World.shape?,q1]
  have tE:∀j z,((l:List Int).take n)[j]? =some z->w.cell? ((⟨pl.b,0,none⟩:Addr).add j)=some (.int .u8 z):=λj z hj=>by
   rw[dq]at hj
   split at hj
   ·rename_i Wu
    have PQ:j < (l:List Int).length:=by omega
    rw[Addr.add_lit,aO]
    simp only[World.cell?,q1]
    have:(cur.toList.take (l:List Int).length)[j]? =some (.int .u8 z):=by rw[wx,fv,hj];rfl
    rw[dq,if_pos PQ]at this
    simpa using this
   ·cases hj
  have hlen:((l:List Int).take n).length=n:=by rw[cU];omega
  have OB:=DU (P:=P) (w:=w) ((l:List Int).take n) ⟨pl.b,0,none⟩ .empty tE
  rw[hlen]at OB
  have RR:=Go.Lib.liesAt_bytes (P:=P) (e:=u) (by simpa using SI) (cur.size / P.cellsOf u) n (by
   rw[show P.cellsOf u=1 by simpa using SI,Nat.div_one];omega)
  have RK:∃w',w.freeze ⟨pl.b,0,none⟩ n=w'/\w'.os=w.os/\w'.tape=w.tape/\(w'.output=w.output/\w.drawn<=w'.drawn)/\w'.heap.size=w.heap.size/\∀b',b'≠pl.b->w'.heap[b']? =w.heap[b']? :=by
   refine⟨_,rfl,?_⟩
   unfold World.freeze
   rw[if_neg (by omega)]
   refine⟨rfl,rfl,⟨rfl,ay _⟩,by simp,λb' hb'=> ?_⟩
   simp only[gH]
   rw[if_neg (λe=>hb' e.symm)]
  obtain⟨w',hw',f1,f2,f3,f4,f5⟩:=RK
  have i1:=h.kill db q5 f1 f2 f3 f4 f5
  have US:¬(9223372036854775807:Int) < (n:Int):=by unfold maxLen at q4;omega
  have TT:¬(n:Int) < 0:=by omega
  have PU:n≠0:=by omega
  have TQ:IntKind.i64.max=9223372036854775807:=rfl
  refine jB ho (F:=λty xs=>Builtin.unsafeString_ #[T,U] ty xs) (λty cs xs=>rfl) (x:= .string (fD ((l:List Int).take n))) (w':=w') (λty=> ?_) ⟨_,β,i1.put o.dst ⟨[.string (fD ((l:List Int).take n))],by simp only[V,dn];rfl,rfl⟩⟩
  rw[show(#[x,y].map a.eval)= #[a.eval x,a.eval y] by simp,Rt,Ru]
  have PI:Builtin.unsafeString_ #[T,U] ty #[.pointer (some ⟨pl.b,0,none⟩),.int .i64 n]=
    (do
     let n <-Go.asInt (.int .i64 n)
     if n < 0 then runtimePanic (.error "unsafe.String: len out of range")
     if n > IntKind.i64.max then unsupported (.unsafePointer "String: a length above the largest int")
     if n=0 then pure (.string .empty)
     else if <-variablesAt ⟨pl.b,0,none⟩ (<-elemOf T) n.toNat then do
      let s <-loadBytes ⟨pl.b,0,none⟩ .empty n.toNat
      freeze ⟨pl.b,0,none⟩ n.toNat
      pure (.string s)
     else unsupported (.unsafePointer "String: not so many bytes at ptr")):=rfl
  rw[PI]
  simp[Go.asInt,asIntOf,TQ,US,TT,PU,variablesAt,LO,elemOf,run_underlying hT,RR,OB,hw',fD]
 ·simp only[ao]at he
end
end Go.Ab
namespace Go.Ab
section
variable {P:Program} {C:Ctx} {g:Nat->lG} {β:Id->Option Pl} {s:AS} {a:Act} {w:World} {o:Oper}
theorem Gn(h:Inv C g β s a w){c:Call}{T T2:TypeId}{m k:Operand}(dA:o.op= .call c)(hc:c.callee= .builtin .delete)(ha:c.args.toList=[m,k])(ht:c.argTypes.toList=[T,T2]){s':AS}(he:(ub P s T (s.ev m) (s.ev k)).eval=some s'):fU P o a w (iN C (s'.put o.dst .nil)):=by
 have dA:o.op= .call {callee:= .builtin .delete,args:= #[m,k],argTypes:= #[T,T2]}:=by rw[dA,IT hc ha,Qw ht]
 unfold ub at he
 split at he
 ·rename_i K V' kt vt id ver hm hx
  obtain⟨l,h1,he⟩:=au.1 he
  obtain⟨kx,h2,he⟩:=au.1 he
  obtain⟨P2,he⟩:=aC.1 he
  obtain rfl:=aw.1 he
  obtain⟨hT,hK,_⟩:=sX hm
  have Bu:=h.ev m
  rw[hx]at Bu
  obtain⟨fr,pl,es,clock,g1,g2,g3,g4,g5,g6,g7,gn⟩:=rB h h1 Bu
  obtain⟨l0,g6,gp⟩:=g6
  have wq:=rX depth K kt hK
  have hk:=uh (h.ev k) h2
  have Ot:=mB (P:=P) (w:=w) es.isEmpty depth K kt hK 10000 (by decide) _ _ hk
  obtain⟨r,hf,hr⟩:=wX (P:=P) (w:=w) hK hk g6
  have fin:∀(es':Array MapEntry) (clock':Nat),(∀ty,(Builtin.delete_ #[T,T2] ty (#[m,k].map a.eval)).run P w= .ok (.tuple #[]) {w with heap:=w.heap.setIfInBounds pl.b (.map es' clock')})->Alike (tM (s.env w g β) kt vt) es'.toList (mm kt kx l0)->mz es'.toList clock'->
    fU P o a w (iN C ((s.aX id (.obj ver false (.mp kt vt (mm kt kx l)))).put o.dst .nil)):=λes' clock' mU LI Rx=>
   jB (F:=λty xs=>Builtin.delete_ #[T,T2] ty xs) dA (λ_ _ _=>rfl) mU ⟨g,β,(h.MH g1 g2 g4 g5 ⟨_,LI,BK wq gn gp⟩ (vg wq gn) Rx P2).put o.dst rfl⟩
  cases r with
  |none=>
   simp only at hr
   refine fin es clock (λty=> ?_) (by simp only[mm,hr];exact g6) g7
   simp[Builtin.delete_,run_underlying hT,g3,Go.MapKept.run_getObj_map g4,Ot,hf,Go.MapKept.run_setObj_map _ g4]
  |some u=>
   obtain⟨j,u⟩:=u
   obtain⟨e,m1,m2,rfl⟩:=hr
   refine fin (es.eraseIdxIfInBounds j) clock (λty=> ?_) ?_ (by rw[Array.toList_eraseIdxIfInBounds];exact g7.erase j)
   ·simp[Builtin.delete_,run_underlying hT,g3,Go.MapKept.run_getObj_map g4,Ot,hf,Go.MapKept.run_setObj_map _ g4]
   ·simp only[mm,m1,Array.toList_eraseIdxIfInBounds]
    exact g6.erase j
 ·simp only[ao]at he
theorem Fw{Γ:qd}(hΓ:Sound P Γ){bU:List Nat}(h:Inv C g β s a w){s':AS}(he:(ni P Γ bU o s).eval=some s'):fU P o a w (iN C s'):=by
 unfold ni at he
 split at he
 ·rename_i x dA
  obtain rfl:=aw.1 he
  exact DI h (.inl dA)
 ·rename_i x dA
  obtain rfl:=aw.1 he
  exact DI h (.inr dA)
 ·rename_i c x y dA
  obtain⟨v,h1,h2⟩:=au.1 he
  obtain rfl:=aw.1 h2
  exact Ky h dA h1
 ·rename_i T dA
  split at he
  ·rename_i z q hz hq
   obtain⟨h1,h2⟩:=aC.1 he
   obtain rfl:=aw.1 h2
   simp only[ak]at h1
   exact Hv h dA h1.1 h1.2
  ·exact(ao.1 he).elim
 ·rename_i T x dA
  exact Lj h dA he
 ·rename_i T parts dA
  exact HA h dA he
 ·rename_i T n parts dA
  exact An h dA he
 ·rename_i T x dA
  obtain⟨v,h1,h2⟩:=au.1 he
  obtain rfl:=aw.1 h2
  exact Kk h dA h1
 ·rename_i T x v dA
  obtain⟨v,h1,h2⟩:=au.1 he
  obtain rfl:=aw.1 h2
  exact IF h dA h1
 ·rename_i x dA
  exact CY h dA he
 ·rename_i op T x y U dA
  split at he
  ·rename_i i v1 j v2 hx hy
   obtain⟨v,h1,h2⟩:=au.1 he
   obtain rfl:=aw.1 h2
   exact LD h dA hx hy h1
  ·obtain⟨v,h1,h2⟩:=au.1 he
   obtain rfl:=aw.1 h2
   exact Hy h dA h1
 ·rename_i op T x dA
  obtain⟨v,h1,h2⟩:=au.1 he
  obtain rfl:=aw.1 h2
  exact KT h dA h1
 ·rename_i T U x dA
  split at he
  ·rename_i id ver len hTU hx
   exact HG h dA hx he
  ·rename_i id ver hx
   obtain⟨v,h1,h2⟩:=au.1 he
   obtain rfl:=aw.1 h2
   exact HH h dA hx h1
  ·obtain⟨v,h1,h2⟩:=au.1 he
   obtain rfl:=aw.1 h2
   exact Ej h dA h1
 ·rename_i T x dA
  exact II h dA he
 ·rename_i f first caps dA
  obtain⟨h1,h2⟩:=aC.1 he
  obtain rfl:=aw.1 h2
  simp only[ak]at h1
  exact CS h dA h1.1 h1.2
 ·rename_i T l c dA
  obtain⟨n,h1,h2⟩:=au.1 he
  obtain⟨m,h3,h4⟩:=au.1 h2
  exact BI h dA h1 h3 h4
 ·rename_i T x lo hi dA
  obtain⟨v,h1,h2⟩:=au.1 he
  obtain rfl:=aw.1 h2
  exact Cj h dA (.inl rfl) h1
 ·rename_i T x lo y m dA
  obtain⟨v',h0,h8⟩:=au.1 he
  obtain rfl:=aw.1 h8
  obtain⟨hv,h1,h2⟩:=au.1 h0
  obtain⟨mv,h3,h4⟩:=au.1 h2
  obtain⟨h5,h6⟩:=bZ.1 h4
  obtain⟨v,h7,h9⟩:=au.1 h6
  obtain rfl:=aw.1 h9
  simp only[decide_eq_true_eq]at h5
  exact Cj h dA (.inr ⟨m,y,hv,mv,rfl,rfl,h1,h3,h5.1,h5.2.1,h5.2.2⟩) h7
 ·rename_i T x f dA
  obtain⟨v,h1,h2⟩:=au.1 he
  obtain rfl:=aw.1 h2
  exact Bd h dA h1
 ·rename_i T x f dA
  obtain⟨v,h1,h2⟩:=au.1 he
  obtain rfl:=aw.1 h2
  exact HP h dA h1
 ·rename_i T x i dA
  obtain⟨n,h0,he⟩:=au.1 he
  obtain⟨v,h1,h2⟩:=au.1 he
  obtain rfl:=aw.1 h2
  exact Bx h dA h0 h1
 ·rename_i T x i dA
  obtain⟨n,h0,he⟩:=au.1 he
  obtain⟨v,h1,h2⟩:=au.1 he
  obtain rfl:=aw.1 h2
  exact H5 h dA h0 h1
 ·rename_i x i dA
  obtain⟨v,h1,h2⟩:=au.1 he
  obtain rfl:=aw.1 h2
  exact Ep h dA h1
 ·rename_i T dA
  exact EI h dA he
 ·rename_i T x i ok dA
  obtain⟨v,h1,h2⟩:=au.1 he
  obtain rfl:=aw.1 h2
  exact Gl h dA h1
 ·rename_i T m k x dA
  obtain⟨s1,h1,h2⟩:=au.1 he
  obtain rfl:=aw.1 h2
  exact Gq h dA h1
 ·rename_i c dA
  split at he
  ·rename_i hc
   split at he
   ·rename_i m k T T2 ha ht
    obtain⟨s1,h1,h2⟩:=au.1 he
    obtain rfl:=aw.1 h2
    exact Gn h dA hc ha ht h1
   ·exact(ao.1 he).elim
  ·rename_i hc
   split at he
   ·rename_i x y T X ha ht
    exact JT h dA hc ha ht he
   ·exact(ao.1 he).elim
  ·rename_i hc
   split at he
   ·rename_i x T ha ht
    obtain⟨v,h1,h2⟩:=au.1 he
    obtain rfl:=aw.1 h2
    exact Md h dA hc ha ht h1
   ·exact(ao.1 he).elim
  ·rename_i hc
   split at he
   ·rename_i x y T X ha ht
    split at he
    ·rename_i k n hx hy
     exact J0 h dA hc ha ht hx hy he
    ·exact Fx h dA hc ha ht he
   ·exact(ao.1 he).elim
  ·rename_i hc
   split at he
   ·rename_i x T ha ht
    split at he
    ·rename_i e hx hT
     obtain rfl:=aw.1 he
     exact Lq h dA hc ha ht hx hT
    ·exact(ao.1 he).elim
   ·exact(ao.1 he).elim
  ·rename_i hc
   obtain⟨v,h1,h2⟩:=au.1 he
   obtain rfl:=aw.1 h2
   exact Gr (mx:=true) h dA hc h1
  ·rename_i hc
   obtain⟨v,h1,h2⟩:=au.1 he
   obtain rfl:=aw.1 h2
   exact Gr (mx:=false) h dA hc h1
  ·rename_i hc
   split at he
   ·rename_i x ha
    split at he
    ·rename_i id ver len hx
     obtain⟨h1,h2⟩:=bZ.1 he
     obtain rfl:=aw.1 h2
     exact GX h dA hc ha hx (by simpa using h1)
    ·exact(ao.1 he).elim
   ·exact(ao.1 he).elim
  ·rename_i hc
   split at he
   ·rename_i x y T U ha ht
    split at he
    ·rename_i id ver n hx hy
     exact KQ h dA hc ha ht hx hy he
    ·exact(ao.1 he).elim
   ·exact(ao.1 he).elim
  ·rename_i F hc
   split at he
   ·rename_i f caps hF
    split at he
    ·rename_i en KY
     obtain⟨jt,he⟩:=aC.1 he
     exact JP h dA hc hF ((hΓ f _ en KY).1 jt) he
    ·exact(ao.1 he).elim
   ·exact(ao.1 he).elim
  ·exact(ao.1 he).elim
 ·exact(ao.1 he).elim
end
end Go.Ab
namespace Go.Ab
def nq(P:Program)(ops:Array Oper)(o:Oper)(a:Act)(w:World)(K:Act->World->Prop):Prop:=
 if Region.wanted o (yielded ops a.tmps) then fU P o a w K else K (a.put o.dst undef) w
theorem nq.mono{P:Program}{ops:Array Oper}{o:Oper}{a:Act}{w:World}{K K':Act->World->Prop}(h:nq P ops o a w K)(hk:∀a w,K a w->K' a w):nq P ops o a w K':=by
 unfold nq at*
 split
 ·rename_i hw;rw[if_pos hw]at h;exact h.mono hk
 ·rename_i hw;rw[if_neg hw]at h;exact hk _ _ h
theorem fU.some{P:Program}{o:Oper}{a:Act}{w:World}{K:Act->World->Prop}(h:fU P o a w K):∃a' w',K a' w':=by
 rcases h with⟨x,w',_,h⟩ | ⟨w',_,h⟩ | ⟨f,args,w',_,h⟩ | ⟨l,f,tmps,as,b,w',_,h⟩
 ·exact⟨_,_,h⟩
 ·exact⟨_,_,h⟩
 ·obtain⟨e,w'',_,⟨x,_,hx⟩,_⟩:=h []
  exact⟨_,_,hx⟩
 ·obtain⟨e,w'',⟨x,_,hx⟩,_⟩:=(h none 0).2 default [] (room_wide _)
  exact⟨_,_,hx⟩
theorem nq.some{P:Program}{ops:Array Oper}{o:Oper}{a:Act}{w:World}{K:Act->World->Prop}(h:nq P ops o a w K):∃a' w',K a' w':=by
 unfold nq at h
 split at h
 ·exact h.some
 ·exact⟨_,_,h⟩
theorem nq.wpListIn{r:Option Nat}{n:Nat}{P:Program}{ops:Array Oper}{o:Oper}{a:Act}{w:World}{Q:Exit->Act->World->Prop}{l:List Oper}(h:nq P ops o a w (wpListIn (Fr r) n P ops Q l)):Go.wpListIn (Fr r) n P ops Q (o::l) a w:=by
 unfold nq at h
 unfold Go.wpListIn
 split
 ·rename_i hw;rw[if_pos hw]at h;exact h.wpIn
 ·rename_i hw;rw[if_neg hw]at h;exact⟨λ_ _=>trivial,h⟩
theorem nq.wpOpIn{r:Option Nat}{n:Nat}{P:Program}{ops:Array Oper}{o:Oper}{i:Nat}{a:Act}{w:World}{Q:Exit->Act->World->Prop}{K:Act->World->Prop}(ho:ops[i]? =Option.some o)(h:nq P ops o a w K):Go.wpOpIn (Fr r) n P ops Q i K a w:=by
 unfold nq at h
 unfold Go.wpOpIn
 simp only[ho]
 split
 ·rename_i hw;rw[if_pos hw]at h;exact h.wpIn
 ·rename_i hw;rw[if_neg hw]at h;exact⟨λ_ _=>trivial,h⟩
theorem Mz{s:AS}{q:Nat}{v:az}(h:s.slot q=v)(hq:q < s.cO.length):s.put (some q) v=s:=by
 have hv:s.cO[q]=v:=by simpa[AS.slot,aF,hq]using h
 simp only[AS.put]
 rw[<-hv,gI]
theorem Ju{s:AS}{q:Nat}{t:Ty}{x:t.den}(h:s.slot q= .d t x):q < s.cO.length:=by
 rcases mO q s.cO.length with h' | h'
 ·exact h'
 ·simp[AS.slot,aF,dS h']at h
def wb(P:Program)(Γ:qd)(bU:List Nat)(ops:Array Oper)(o:Oper)(s:AS):Option AS:=
 match o.guard with
 |none=>(ni P Γ bU o s).eval
 |some (j,want)=>match(ops[j]?).bind (·.dst) with
  |some q=>match s.slot q with
   | .d .bool b=>if b=want then(ni P Γ bU o s).eval else some (s.put o.dst .nil)
   | .nil=>some (s.put o.dst .nil)
   |_=>none
  |none=>none
theorem F0{R:Type}{P:Program}{Γ:qd}{bU:List Nat}{ops:Array Oper}{o:Oper}{s:AS}{k:AS->Option R}{r:R}(h:Nw P Γ bU ops o s k=some r):∃s',wb P Γ bU ops o s=some s'/\k s'=some r:=by
 unfold Nw at h
 unfold wb
 split at h
 ·rename_i hg
  simp only[hg]
  exact jx.1 h
 ·rename_i j want hg
  simp only[hg]
  split at h
  ·rename_i q hq
   simp only[hq]
   split at h
   ·rename_i b hb
    have e:=Mz hb (Ju hb)
    simp only[hb]
    cases want <;> cases b <;> simp only[aJ]at h <;> rw[e]at h
    ·obtain⟨s',h1,h2⟩:=jx.1 h
     exact⟨s',by simpa using h1,h2⟩
    ·exact⟨_,by simp,h⟩
    ·exact⟨_,by simp,h⟩
    ·obtain⟨s',h1,h2⟩:=jx.1 h
     exact⟨s',by simpa using h1,h2⟩
   ·rename_i hb
    simp only[hb]
    exact⟨_,rfl,h⟩
   ·cases h
  ·cases h
section
variable {P:Program} {C:Ctx} {g:Nat->lG} {β:Id->Option Pl} {s:AS} {a:Act} {w:World} {o:Oper}
theorem IM(h:Inv C g β s a w){ops:Array Oper}{j q:Nat}{b:Bool}(hq:(ops[j]?).bind (·.dst)=some q)(hb:s.slot q= .d .bool b):yielded ops a.tmps j=some b:=by
 have hv:=h.cO q
 rw[hb]at hv
 have hv:=AA hv
 have hl:=Ju hb
 rw[<-h.size]at hl
 unfold yielded
 rw[hq,Option.bind_some]
 have:a.tmps[q]? =some (.bool b):=by
  rw[fx hl]
  simpa[Array.getD,hl]using hv
 rw[this]
theorem Hg(h:Inv C g β s a w){ops:Array Oper}{j q:Nat}(hq:(ops[j]?).bind (·.dst)=some q)(hb:s.slot q= .nil):yielded ops a.tmps j=none:=by
 have hv:=h.cO q
 rw[hb]at hv
 have hv:a.tmps.getD q undef= .tuple #[]:=hv
 unfold yielded
 rw[hq,Option.bind_some]
 split
 ·rename_i b hb
  rw[cY,hb]at hv
  cases hv
 ·rfl
theorem Du{Γ:qd}(hΓ:Sound P Γ){bU:List Nat}{ops:Array Oper}(h:iN C s a w){s':AS}(he:wb P Γ bU ops o s=some s'):nq P ops o a w (iN C s'):=by
 obtain⟨g,β,h⟩:=h
 unfold wb at he
 unfold nq
 split at he
 ·rename_i hg
  have:Region.wanted o (yielded ops a.tmps)=true:=by simp[Region.wanted,hg]
  rw[if_pos this]
  exact Fw hΓ h he
 ·rename_i j want hg
  split at he
  ·rename_i q hq
   split at he
   ·rename_i b hb
    have hy:=IM h hq hb
    have hw:Region.wanted o (yielded ops a.tmps)=(b==want):=by simp[Region.wanted,hg,hy]
    rw[hw]
    by_cases e:b=want
    ·rw[if_pos e]at he
     rw[if_pos (by simp[e])]
     exact Fw hΓ h he
    ·rw[if_neg e]at he
     rw[if_neg (by simp[e])]
     simp only[ax]at he
     subst he
     exact⟨g,β,h.put o.dst rfl⟩
   ·rename_i hb
    have hy:=Hg h hq hb
    have hw:Region.wanted o (yielded ops a.tmps)=false:=by simp[Region.wanted,hg,hy]
    rw[hw,if_neg (by simp)]
    simp only[ax]at he
    subst he
    exact⟨g,β,h.put o.dst rfl⟩
   ·cases he
  ·cases he
theorem KI{R:Type}{c c':pv}{x:Option R}{r:R}(h:same c c' x=some r):c=c'/\x=some r:=by
 unfold same at h
 split at h
 ·exact⟨‹_›,h⟩
 ·cases h
theorem Jm{R:Type}{x y:Option R}{r:R}(h:nd x y=some r):x=some r/\y=some r:=by
 unfold nd at h
 split at h
 ·rename_i e;exact⟨h,e▸h⟩
 ·cases h
theorem Ik(h:Inv C g β s a w){x y:Operand}{n:Nat}(hn:BX s x y=some n){T:TypeId}(hT:sP.isSl P T=true):∃b,(0 < n->b=false)/\(Op.equal T (a.eval x) (a.eval y)).run P w= .ok b w/\
  oc (a.eval x)=false/\a.eval x≠ .nilIface/\∀op,binOp op T (a.eval x) (a.eval y)=(match op with | .eql=>do pure (.bool (<-Op.equal T (a.eval x) (a.eval y))) | .neq=>do pure (.bool (!(<-Op.equal T (a.eval x) (a.eval y)))) | _=>binOp op T (a.eval x) (a.eval y)):=by
 have hx:=h.ev x
 have hy:=h.ev y
 unfold sP.isSl at hT
 split at hT <;> try (cases hT;done)
 rename_i e hU
 unfold BX at hn
 split at hn
 ·rename_i t l h1 h2
  rw[h1]at hx;rw[h2]at hy
  obtain⟨ad,cap,vs,hv,_,hs,_⟩:=pc hx
  have zP:=km hy
  rw[hv,zP]
  refine⟨ad.isNone,λhp=> ?_,?_,rfl,by simp,λop=>by cases op <;> rfl⟩
  ·obtain rfl:=bB hn
   obtain⟨ad',rfl⟩:=cv.1 (hs hp)
   rfl
  ·cases ad with
   |none=>exact fA λd=>by simp[Op.equalIn,run_underlying hU]
   |some ad=>exact fA λd=>by simp[Op.equalIn,run_underlying hU]
 ·rename_i t l h1 h2
  rw[h1]at hx;rw[h2]at hy
  obtain⟨ad,cap,vs,hv,_,hs,_⟩:=pc hy
  have zP:=km hx
  rw[hv,zP]
  refine⟨ad.isNone,λhp=> ?_,?_,rfl,by simp,λop=>by cases op <;> rfl⟩
  ·obtain rfl:=bB hn
   obtain⟨ad',rfl⟩:=cv.1 (hs hp)
   rfl
  ·exact fA λd=>by simp[Op.equalIn,run_underlying hU]
 ·rename_i id ver pp c i len h1 h2
  rw[h1]at hx;rw[h2]at hy
  obtain⟨ad,cap,hv,_,hs,_⟩:=nJ hx
  have zP:=km hy
  rw[hv,zP]
  refine⟨ad.isNone,λhp=> ?_,?_,rfl,by simp,λop=>by cases op <;> rfl⟩
  ·obtain rfl:=bB hn
   obtain⟨ad',rfl⟩:=cv.1 (hs hp)
   rfl
  ·cases ad with
   |none=>exact fA λd=>by simp[Op.equalIn,run_underlying hU]
   |some ad=>exact fA λd=>by simp[Op.equalIn,run_underlying hU]
 ·rename_i id ver pp c i len h1 h2
  rw[h1]at hx;rw[h2]at hy
  obtain⟨ad,cap,hv,_,hs,_⟩:=nJ hy
  have zP:=km hx
  rw[hv,zP]
  refine⟨ad.isNone,λhp=> ?_,?_,rfl,by simp,λop=>by cases op <;> rfl⟩
  ·obtain rfl:=bB hn
   obtain⟨ad',rfl⟩:=cv.1 (hs hp)
   rfl
  ·exact fA λd=>by simp[Op.equalIn,run_underlying hU]
 ·cases hn
theorem yc(h:Inv C g β s a w){x y:Operand}{n:Nat}{T U:TypeId}(hn:BX s x y=some n)(hT:sP.isSl P T=true):
  (o.op= .binOp .eql T x y U->∃b,(0 < n->b=false)/\fU P o a w (iN C (s.put o.dst (.d .bool b))))/\(o.op= .binOp .neq T x y U->∃b,(0 < n->b=true)/\fU P o a w (iN C (s.put o.dst (.d .bool b)))):=by
 obtain⟨b,h1,h2,h3,h4,h5⟩:=Ik (w:=w) h hn hT
 have hg:∀op,(eqGuard op T x y (a.eval x) (a.eval y)).run P w= .ok () w:=λop=>l8 h4 h3
 refine⟨λho=>⟨b,h1,h.value (pR b) ?_⟩,λho=>⟨!b,λhp=>by rw[h1 hp];rfl,h.value (pR (!b)) ?_⟩⟩
 ·have h6:(binOp .eql T (a.eval x) (a.eval y)).run P w= .ok (.bool b) w:=by rw[h5 .eql];simp[h2]
  simp[execOp,ho,hg,h6]
 ·have h6:(binOp .neq T (a.eval x) (a.eval y)).run P w= .ok (.bool (!b)) w:=by rw[h5 .neq];simp[h2]
  simp[execOp,ho,hg,h6]
theorem yu{R:Type}{c:Bool}{x y:Option R}{r:R}(h:aJ c x y=some r):(c=true/\x=some r)\/(c=false/\y=some r):=by
 cases c
 ·exact .inr ⟨rfl,h⟩
 ·exact .inl ⟨rfl,h⟩
theorem Ly{R:Type}{n:Nat}{k:Nat->Option R}{r:R}(h:Tn n k=some r):0 < n/\∀j,j < n->k j=some r:=by
 unfold Tn at h
 split at h
 ·rename_i hx
  obtain rfl:=bB h
  exact hx.choose_spec
 ·cases h
theorem C7{s:AS}{id:Id}{e:ea}{q:Nat}(hq:s.eh q=true)(jb:s.cz id≠none):(s.aX id e).eh q=true:=by
 cases id with
 |dB k=>exact hq
 |new i j=>
  by_cases hi:i=q
  ·subst hi;exact absurd ((jZ hq).1 j) jb
  ·unfold AS.eh AS.aX
   simp only[fc hi]
   exact hq
theorem Alike.len{α β:Type}{R:α->β->Prop}:∀ {xs:List α} {ys:List β},Alike R xs ys->xs.length=ys.length
 |[],[],_=>rfl
 |_::_,_::_,⟨_,h⟩=>by simp[h.len]
 |[],_::_,h=>h.elim
 |_::_,[],h=>h.elim
theorem Ir{α:Type}:∀ {xs ys:List α} {i j:Nat} {x:α},xs.Perm ys->xs[i]? =some x->ys[j]? =some x->(xs.eraseIdx i).Perm (ys.eraseIdx j):=by
 have key:∀ {xs:List α} {i:Nat} {x:α},xs[i]? =some x->xs.Perm (x::xs.eraseIdx i):=by
  intro xs
  induction xs with
  |nil=>intro i x h;simp at h
  |cons y xs ih=>
   intro i x h
   cases i with
   |zero=>simp at h;subst h;exact mA _
   |succ i=>
    have h:xs[i]? =some x:=by simpa using h
    exact((ih h).cons y).trans (List.Perm.swap x y _)
 intro xs ys i j x hp hi hj
 exact((key hi).symm.trans (hp.trans (key hj))).cons_inv
theorem Iv(h:Inv C g β s a w){T:TypeId}{m:Operand}(dA:o.op= .range T m){s':AS}(he:(Iu P s o.dst T (s.ev m)).eval=some s'):fU P o a w (iN C s'):=by
 unfold Iu at he
 split at he
 ·rename_i K V' kt vt id ver q hm hx hd
  obtain⟨l,h1,he⟩:=au.1 he
  obtain⟨hq,he⟩:=aC.1 he
  obtain rfl:=aw.1 he
  rw[ak]at hq
  obtain⟨hT,_,_⟩:=sX hm
  have Bu:=h.ev m
  rw[hx]at Bu
  obtain⟨fr,pl,es,clock,g1,g2,g3,g4,g5,g6,g7,gn⟩:=rB h h1 Bu
  obtain rfl:=vE g1 hq.1
  have jb:s.cz id≠none:=by rw[g1];simp
  have SV:=Trans.refl w g
  have H0:c7 (s.env w g β) ((s.aX id (.obj ver true (.mp kt vt l))).env w g β):=c7.aX g1 (ay _) SV (λ_ _=>rfl) (λ_=>rfl)
  have i0:Inv C g β (s.aX id (.obj ver true (.mp kt vt l))) a w:=
   h.step (du _ _ _) SV H0 (jd.aX h.bU jb H0 (λ_ _=>rfl) (λ_ _ _ _ _ _ _ _=>⟨rfl,rfl⟩) ⟨pl,es,clock,g2,g4,g5,⟨g6.mono H0.mem,gn⟩,g7⟩ (xT g1))
  have db:=eX s id (.obj ver true (.mp kt vt l)) jb
  have hq':=C7 (e:= .obj ver true (.mp kt vt l)) hq.2 jb
  generalize Wz:s.aX id (.obj ver true (.mp kt vt l))=s0 at i0 db hq' H0
  have we:∀j,id≠ .new q j:=λj e=>by rw[e,(jZ hq').1 j]at db;cases db
  have jt:pl.b < w.heap.size:=(bT.1 g4).1
  have ht:=Trans.alloc w g (.mapIter (some pl.b) clock #[] clock) (.own (.id (.new q 0)) 0)
  obtain⟨h3,h4⟩:=i0.yP hq' (c:= .oK id (ver+1) kt vt l none) (p:=some ⟨w.heap.size,0⟩) ht (λb hb=>⟨nr w _ hb,fE _ _ _ (by omega)⟩) (λhE=>
   ⟨⟨w.heap.size,0⟩,pl.b,clock,#[],clock,jP _ _ _,oP w _,fP _ _ _,λvr H4=>by
    obtain rfl:ver=vr:=by omega
    have hb:(s0.env w g β).uw id ver:=⟨by show s0.cz id≠none;rw[db];simp,λv2 fr2 c2 h2=>by
     have h2:s0.cz id=some (.obj v2 fr2 c2):=h2
     rw[db]at h2
     simp only[ax,ea.obj.injEq]at h2
     omega⟩
    refine⟨hE.uw _ _ hb,λ_=>⟨⟨kt,vt,l,?_⟩,pl,es,clock,?_,rfl,?_,?_,λx hx=>g7.2 x hx,⟨ay _,ay _⟩,g7.1,?_,λx hx=>by cases hx⟩⟩
    ·show(s0.born q _).cz id=_
     rw[jf _ we];exact db
    ·show vF β (.new q 0) _ id=_
     rw[sG _ _ _ (we 0)];exact g2
    ·exact(nr w _ jt).trans g4
    ·show lM g w.heap.size _ pl.b=_
     rw[fE _ _ _ (by omega)];exact g5
    ·have:es.toList.filter (λe=> !(#[]:Array Nat).contains e.born)=es.toList:=ju.2 λx _=>by simp
     rw[this]
     exact(g6.mono H0.mem).mono hE.mem⟩)
  refine .inl ⟨.pointer (some ⟨w.heap.size,0,none⟩),w.alloc (.mapIter (some pl.b) clock #[] clock),?_,_,_,h3.put o.dst (v:= .ptr (.new q 0) 0 [] 0) ⟨[.pointer (some ⟨w.heap.size,0,none⟩)],?_,rfl⟩⟩
  ·refine ef (f:=Instr.range T (a.eval m)) (by simp only[execOp,dA]) ?_
   rw[g3]
   exact run_range_map w T K V' pl.b es clock hT g4
  ·simp only[V]
   exact⟨_,rfl,mS hq' _ _ _ _,λ_=>⟨_,jP _ _ _,rfl⟩⟩
 ·simp only[ao]at he
theorem Bz(h:Inv C g β s a w){x:Operand}{t:JC}(ht:s.L7 (s.ev x)=some t):
  s.cz t.i=some (.obj t.v t.fr (.oK t.q (t.vr+1) t.kt t.vt t.rest t.cur))/\(∃k v l,s.cz t.q=some (.obj t.vr true (.mp k v l)))/\
  ∃pl plq since seen c0 es clock,a.eval x= .pointer (some ⟨pl.b,0,none⟩)/\β t.i=some pl/\w.heap[pl.b]? =some (.mapIter (some plq.b) since seen c0)/\g pl.b= .own (.id t.i) 0/\
   β t.q=some plq/\w.heap[plq.b]? =some (.map es clock)/\g plq.b= .own (.id t.q) 0/\(∀x∈es.toList,x.born < since)/\(since<=c0/\since<=clock)/\(es.toList.map (·.born)).Nodup/\
   D8 (s.env w g β) t.kt t.vt (es.toList.filter λe=> !seen.contains e.born) t.rest/\
   ∀x,t.cur=some x->∃(e:MapEntry) (seen':Array Nat),e∈es.toList/\seen=seen'.push e.born/\c0=clock/\tM (s.env w g β) t.kt t.vt e x:=by
 have Bu:=h.ev x
 generalize s.ev x=y at ht Bu
 unfold AS.L7 at ht
 split at ht
 ·rename_i i ver
  split at ht
  ·rename_i v fr q vr kt vt rest cur kG
   split at ht
   ·rename_i hv hl
    obtain rfl:=bB ht
    have hv:v=ver:=by simpa using hv
    subst hv
    have db:=eJ kG
    unfold AS.Gk at hl
    split at hl
    ·rename_i v2 k2 t2 l2 TX
     have hl:v2=vr:=by simpa using hl
     subst hl
     have hq:=eJ TX
     refine⟨db,⟨_,_,_,hq⟩,?_⟩
     obtain⟨pl,mb,since,seen,c0,h1,h2,h3,h4⟩:=h.bU i v fr _ db
     obtain⟨h5,h6⟩:=h4 v2 rfl
     obtain⟨_,plq,es,clock,k1,k2,k3,k4,k5,k6,k7,k8,k9⟩:=h6 ⟨_,_,hq⟩
     subst k2
     obtain⟨ad,m1,m2,m3⟩:=pJ Bu
     obtain⟨pl',m4,rfl⟩:=m3 ⟨_,_,db⟩
     have h1:β i=some pl:=h1
     have m4:β i=some pl':=m4
     rw[h1]at m4
     obtain rfl:pl=pl':=by simpa using m4
     exact⟨pl,plq,since,seen,c0,es,clock,m1,h1,h2,h3,k1,k3,k4,k5,k6,k7,k8,k9⟩
    ·cases hl
   ·cases ht
  ·cases ht
 ·cases ht
theorem tM.Wk{E:Env}{kt vt:Ty}{e:MapEntry}{x:kt.den×vt.den}(h:tM E kt vt e x):VS E (.cons (.d kt x.1) (.cons (.d vt x.2) .nil)) (.tuple #[e.key,e.val]):=by
 obtain⟨⟨c1,a1,b1⟩,c2,a2,b2⟩:=h
 refine⟨[e.key,e.val],rfl,?_⟩
 simp only[VC]
 exact⟨_,_,c1,rfl,by simpa only[V]using a1,b1,_,_,c2,rfl,by simpa only[V]using a2,b2,rfl⟩
theorem tM.Wl{E:Env}{kt vt:Ty}{e:MapEntry}{x:kt.den×vt.den}(h:tM E kt vt e x):VS E (.cons (.d .bool true) (.cons (.d kt x.1) (.cons (.d vt x.2) .nil))) (.tuple #[.bool true,e.key,e.val]):=by
 obtain⟨⟨c1,a1,b1⟩,c2,a2,b2⟩:=h
 refine⟨[.bool true,e.key,e.val],rfl,?_⟩
 simp only[VC]
 exact⟨_,_,[.bool true],rfl,by simp only[V,dn],rfl,_,_,c1,rfl,by simpa only[V]using a1,b1,_,_,c2,rfl,by simpa only[V]using a2,b2,rfl⟩
theorem HN(h:Inv C g β s a w){x:Operand}(dA:o.op= .entry x){v:az}(he:(HM s (s.ev x)).eval=some v):fU P o a w (iN C (s.put o.dst v)):=by
 unfold HM at he
 split at he
 ·rename_i i v0 fr q vr kt vt rest c ht
  obtain rfl:=aw.1 he
  obtain⟨_,_,pl,plq,since,seen,c0,es,clock,m1,m2,m3,_,m5,m6,m7,_,_,m10,_,m12⟩:=Bz h ht
  obtain⟨e,seen',n1,rfl,rfl,n4⟩:=m12 c rfl
  refine h.value n4.Wk (ef (f:=Instr.entry (a.eval x)) (by simp only[execOp,dA]) ?_)
  rw[m1]
  exact run_entry_at w pl.b plq.b since seen' es _ e m3 m6 n1 m10
 ·simp only[ao]at he
theorem heap_drew{w w1:World}(hw:w1=w\/w1=w.drew):w1.heap=w.heap/\w1.os=w.os/\w1.tape=w.tape/\(w1.output=w.output/\w.drawn<=w1.drawn):=by
 rcases hw with rfl | rfl
 ·exact⟨rfl,rfl,rfl,rfl,ay _⟩
 ·exact⟨rfl,rfl,rfl,rfl,Nat.le_succ _⟩
theorem Inv.Sw(h:Inv C g β s a w){i q:Id}{v vr:Nat}{fr:Bool}{kt vt:Ty}{rest:List (kt.den×vt.den)}{cur:Option (kt.den×vt.den)}(db:s.cz i=some (.obj v fr (.oK q (vr+1) kt vt rest cur)))
  {k2 v2:Ty} {l2:List (k2.den×v2.den)} (hq:s.cz q=some (.obj vr true (.mp k2 v2 l2))) {pl plq:Pl} {m0:Option Nat} {since0 c00:Nat} {seen0:Array Nat} (hp:β i=some pl) (hb:w.heap[pl.b]? =some (.mapIter m0 since0 seen0 c00)) (hg:g pl.b= .own (.id i) 0)
  {w1:World} (hw:w1=w\/w1=w.drew) {es:Array MapEntry} {clock since c0:Nat} {seen:Array Nat} (VY:β q=some plq) (PG:w.heap[plq.b]? =some (.map es clock)) (VF:g plq.b= .own (.id q) 0)
  (h1:∀x∈es.toList,x.born < since) (h2:since<=c0/\since<=clock) (h3:(es.toList.map (·.born)).Nodup) {rest':List (kt.den×vt.den)} {cur':Option (kt.den×vt.den)} (h4:D8 (s.env w g β) kt vt (es.toList.filter λe=> !seen.contains e.born) rest')
  (h5:∀x,cur'=some x->∃(e:MapEntry) (seen':Array Nat),e∈es.toList/\seen=seen'.push e.born/\c0=clock/\tM (s.env w g β) kt vt e x):
  Inv C g β (s.aX i (.obj v fr (.oK q (vr+1) kt vt rest' cur'))) a (Go.ChangeMaps.setBlock w1 pl.b (.mapIter (some plq.b) since seen c0))/\
   oO (s.env w g β) ((s.aX i (.obj v fr (.oK q (vr+1) kt vt rest' cur'))).env (Go.ChangeMaps.setBlock w1 pl.b (.mapIter (some plq.b) since seen c0)) g β):=by
 obtain⟨d1,d2,d3,d4⟩:=heap_drew hw
 have jt:pl.b < w.heap.size:=(bT.1 hb).1
 have I9:(Go.ChangeMaps.setBlock w1 pl.b (.mapIter (some plq.b) since seen c0)).heap=w.heap.setIfInBounds pl.b (.mapIter (some plq.b) since seen c0):=by
  show w1.heap.setIfInBounds _ _=_
  rw[d1]
 have OG:(Go.ChangeMaps.setBlock w1 pl.b (.mapIter (some plq.b) since seen c0)).os=w.os/\(Go.ChangeMaps.setBlock w1 pl.b (.mapIter (some plq.b) since seen c0)).tape=w.tape/\((Go.ChangeMaps.setBlock w1 pl.b (.mapIter (some plq.b) since seen c0)).output=w.output/\w.drawn<=(Go.ChangeMaps.setBlock w1 pl.b (.mapIter (some plq.b) since seen c0)).drawn):=⟨d2,d3,d4⟩
 generalize Go.ChangeMaps.setBlock w1 pl.b (.mapIter (some plq.b) since seen c0)=w' at I9 OG
 have hother:∀b',b'≠pl.b->w'.heap[b']? =w.heap[b']? :=λb' jb=>by
  rw[I9,ee,if_neg (λe=>jb e.symm)]
 have lr:w'.heap[pl.b]? =some (.mapIter (some plq.b) since seen c0):=by
  rw[I9,ee,if_pos rfl,if_pos jt]
 have ht:Trans w w' g g:=by
  refine⟨OG.1,OG.2.1,OG.2.2,by rw[I9];simp,λb' _=> ?_⟩
  by_cases he:b'=pl.b
  ·subst he
   rw[hg]
   exact⟨.inr ⟨i,0,rfl,ay _⟩,λ_ _ hh=>by omega⟩
  ·rw[hother b' he]
   cases Aq:g b' with
   |free=>exact⟨rfl,rfl⟩
   |own o' k=>cases o' with
    |eL=>exact⟨rfl,rfl⟩
    |id i'=>exact⟨.inr ⟨i',k,rfl,ay _⟩,λoff v _ hv=>by simpa only[World.cell?,hother b' he]using hv⟩
 have hle:c7 (s.env w g β) ((s.aX i (.obj v fr (.oK q (vr+1) kt vt rest' cur'))).env w' g β):=c7.aX db (ay _) ht (λ_ _=>rfl) (λ_=>rfl)
 have R2:q≠i:=λe=>by rw[e,db]at hq;cases hq
 have VX:plq.b≠pl.b:=λe=>by rw[e,hb]at PG;cases PG
 refine⟨h.step (du _ _ _) ht hle (jd.aX h.bU (by rw[db];simp) hle (λ_ _=>rfl) (λi' ver' fr' c' pl2 hi Br CF=>⟨hother _ (h.apart hg hi Br CF),rfl⟩) ?_ (mV db λ_ _ _ e=>by cases e)),hle.mem⟩
 refine⟨pl,plq.b,since,seen,c0,hp,lr,hg,λvr' H4=> ?_⟩
 obtain rfl:vr=vr':=by omega
 have J4:(s.env w g β).uw q vr:=⟨by show s.cz q≠none;rw[hq];simp,λv3 fr3 c3 h3=>by
  have h3:s.cz q=some (.obj v3 fr3 c3):=h3
  rw[hq]at h3
  simp only[ax,ea.obj.injEq]at h3
  omega⟩
 refine⟨hle.uw _ _ J4,λ_=>⟨⟨k2,v2,l2,?_⟩,plq,es,clock,VY,rfl,(hother _ VX).trans PG,VF,h1,h2,h3,h4.mono hle.mem,λx hx=> ?_⟩⟩
 ·show(s.aX i _).cz q=_
  rw[dh s i q _ R2];exact hq
 ·obtain⟨e,se,a1,a2,a3,a4⟩:=h5 x hx
  exact⟨e,se,a1,a2,a3,a4.mono hle.mem⟩
theorem Inv.OM(h:Inv C g β s a w){i q:Id}{v ver ver':Nat}{fr:Bool}{kt vt:Ty}{rest rest':List (kt.den×vt.den)}{cur cur':Option (kt.den×vt.den)}(db:s.cz i=some (.obj v fr (.oK q ver kt vt rest cur)))
  (hk:ver'=0\/(ver'=ver/\rest'=rest/\cur'=none)):Inv C g β (s.aX i (.obj v fr (.oK q ver' kt vt rest' cur'))) a w:=by
 have ht:=Trans.refl w g
 have hle:c7 (s.env w g β) ((s.aX i (.obj v fr (.oK q ver' kt vt rest' cur'))).env w g β):=c7.aX db (ay _) ht (λ_ _=>rfl) (λ_=>rfl)
 refine h.step (du _ _ _) ht hle (jd.aX h.bU (by rw[db];simp) hle (λ_ _=>rfl) (λ_ _ _ _ _ _ _ _=>⟨rfl,rfl⟩) ?_ (mV db λ_ _ _ e=>by cases e))
 obtain⟨pl,mb,since,seen,c0,h1,h2,h3,h4⟩:=h.bU i v fr _ db
 refine⟨pl,mb,since,seen,c0,h1,h2,h3,λvr H4=> ?_⟩
 rcases hk with hk | ⟨rfl,rfl,rfl⟩
 ·omega
 ·obtain⟨h5,h6⟩:=h4 vr H4
  refine⟨hle.uw _ _ h5,λhc=> ?_⟩
  obtain⟨c1,_⟩:=hle.cur _ _ h5 hc
  obtain⟨⟨k,v1,l,hq⟩,plq,es,clock,k1,k2,k3,k4,k5,k6,k7,k8,_⟩:=h6 c1
  have R2:q≠i:=λe=>by
   have hq:s.cz q=_:=hq
   rw[e,db]at hq;cases hq
  exact⟨⟨k,v1,l,by show(s.aX i _).cz q=_;rw[dh s i q _ R2];exact hq⟩,plq,es,clock,k1,k2,k3,k4,k5,k6,k7,k8.mono hle.mem,λx hx=>by cases hx⟩
theorem Iw{s:AS}{q i:Id}{e:ea}(h:s.B9 q=false)(hi:s.cz i=some e):e.L8 q=false:=by
 unfold AS.B9 at h
 rw[Bool.or_eq_false_iff]at h
 cases i with
 |dB k=>simpa using jl.1 h.1 _ (dj hi)
 |new a b=>
  have hi:(s.news.getD a [])[b]? =some e:=hi
  by_cases ha:a < s.news.length
  ·have h2:(s.news.getD a []).any (ea.L8 q)=false:=by simpa using jl.1 h.2 (s.news.getD a []) (by simp[aF,cQ ha])
   simpa using jl.1 h2 _ (dj hi)
  ·simp[aF,dS (Nat.le_of_not_lt ha)]at hi
theorem Inv.unlock(h:Inv C g β s a w){q:Id}{vr:Nat}{k v:Ty}{l:List (k.den×v.den)}(db:s.cz q=some (.obj vr true (.mp k v l)))(hr:s.B9 q=false):Inv C g β (s.aX q (.obj vr false (.mp k v l))) a w:=by
 have ht:=Trans.refl w g
 have hle:c7 (s.env w g β) ((s.aX q (.obj vr false (.mp k v l))).env w g β):=c7.aX db (ay _) ht (λ_ _=>rfl) (λ_=>rfl)
 refine h.step (du _ _ _) ht hle λi ver fr c hi=> ?_
 have hi:(s.aX q (.obj vr false (.mp k v l))).cz i=some (.obj ver fr c):=hi
 by_cases U1:i=q
 ·subst U1
  rw[eX s i _ (by rw[db];simp)]at hi
  simp only[ax,ea.obj.injEq]at hi
  obtain⟨rfl,rfl,rfl⟩:=hi
  obtain⟨pl,es,clock,h1,h2,h3,h4,h5⟩:=h.bU i vr true _ db
  exact⟨pl,es,clock,h1,h2,h3,⟨h4.1.mono hle.mem,h4.2⟩,h5⟩
 ·rw[dh s q i _ U1]at hi
  refine(h.bU i ver fr c hi).OQ hle rfl (λ_ _=>⟨rfl,rfl⟩) λq2 v2 k2 v3 l2 hc Bq _=>⟨⟨k2,v3,l2,?_⟩,λ_ _=>⟨rfl,rfl⟩⟩
  obtain⟨kt,vt,rest,cu,rfl⟩:=hc
  have hn:=Iw hr hi
  have jb:q2≠q:=λe=>by simp[ea.L8,e]at hn
  show(s.aX q _).cz q2=_
  rw[dh s q q2 _ jb];exact Bq
theorem H9{es:List MapEntry}{seen:Array Nat}(hn:(es.map (·.born)).Nodup){j:Nat}{e:MapEntry}(hj:(es.filter λe=> !seen.contains e.born)[j]? =some e):
  es.filter (λx=> !(seen.push e.born).contains x.born)=(es.filter λe=> !seen.contains e.born).eraseIdx j:=by
 have h1:es.filter (λx=> !(seen.push e.born).contains x.born)=(es.filter λe=> !seen.contains e.born).filter λx=>x.born !=e.born:=by
  rw[nN]
  refine List.filter_congr λx _=> ?_
  rw[contains_push]
  cases seen.contains x.born <;> cases hb:x.born==e.born <;> simp[bne,hb]
 rw[h1]
 have Jc:((es.filter λe=> !seen.contains e.born).map (·.born)).Nodup:=hn.sublist (List.filter_sublist.map _)
 generalize es.filter (λe=> !seen.contains e.born)=L at hj Jc
 induction L generalizing j with
 |nil=>simp at hj
 |cons x L ih=>
  rw[bR,dK]at Jc
  cases j with
  |zero=>
   simp only[fZ,ax]at hj
   subst hj
   have:L.filter (λy=>y.born !=x.born)=L:=ju.2 λy hy=>by
    have:y.born≠x.born:=λe=>Jc.1 (e▸dD.2 ⟨y,hy,rfl⟩)
    simpa using this
   simp[this]
  |succ j=>
   have hj:L[j]? =some e:=by simpa using hj
   have hx:(x.born !=e.born)=true:=by
    have:x.born≠e.born:=λh=>Jc.1 (h▸dD.2 ⟨e,dj hj,rfl⟩)
    simpa using this
   rw[kO,hx,List.eraseIdx_cons_succ]
   simp only[if_true]
   rw[ih hj Jc.2]
theorem Kr(h:Inv C g β s a w){x:Operand}(dA:o.op= .next x false){t:JC}(ht:s.L7 (s.ev x)=some t){R:Type}{k:AS->Option R}{r:R}(he:Mp s o.dst t k=some r):
  fU P o a w λa' w'=>∃s',iN C s' a' w'/\k s'=some r:=by
 obtain⟨hi,⟨k2,v2,l2,hq⟩,pl,plq,since,seen,c0,es,clock,m1,m2,m3,m4,m5,m6,m7,m8,m9,m10,m11,_⟩:=Bz h ht
 have hex:∀ {y:Value} {w':World},(Instr.next (a.eval x) false o.type).run P w= .ok y w'->(execOp a.eval o).run P w= .ok (.value y) w':=λhr=>
  ef (f:=Instr.next (a.eval x) false o.type) (by simp only[execOp,dA]) hr
 have AG:(leftOf es seen).toList=es.toList.filter λe=> !seen.contains e.born:=by unfold leftOf;rw[Array.toList_filter]
 obtain⟨l',m11,F7⟩:=m11
 have hlen:=m11.len
 rw[F7.length_eq]at hlen
 rw[<-AG,c6]at hlen
 unfold Mp at he
 rcases run_next_at (P:=P) w o.type pl.b plq.b since c0 seen es clock m3 m6 m8 m9.1 with⟨h0,mU⟩ | ⟨e,QJ,w1,hw,mU⟩
 ·rcases yu he with⟨hc,_⟩ | ⟨_,he⟩
  ·have:0 < t.rest.length:=by simpa using hc
   omega
  ·unfold AS.NW at he
   have i1:=h.OM (rest':=[]) (cur':=none) hi (.inl rfl)
   have R2:t.q≠t.i:=λe=>by rw[e,hi]at hq;simp at hq
   have T1:(s.aX t.i (.obj t.v t.fr (.oK t.q 0 t.kt t.vt [] none))).cz t.q=some (.obj t.vr true (.mp k2 v2 l2)):=by rw[dh s t.i t.q _ R2];exact hq
   generalize s.aX t.i (.obj t.v t.fr (.oK t.q 0 t.kt t.vt [] none))=s1 at he i1 T1
   cases hr:s1.B9 t.q with
   |true=>rw[hr]at he;cases he
   |false=>
    rw[hr]at he
    simp only at he
    have V8:s1.unlock t.q=s1.aX t.q (.obj t.vr false (.mp k2 v2 l2)):=by simp only[AS.unlock,AS.obj,T1]
    rw[V8]at he
    rw[<-m1]at mU
    refine .inl ⟨_,w,hex mU,_,⟨g,β,(i1.unlock T1 hr).put o.dst (v:= .cons (.d .bool false) .nil) ⟨[.bool false],rfl,?_⟩⟩,he⟩
    simp only[VC]
    exact⟨_,_,[.bool false],rfl,by simp only[V,dn],rfl,rfl⟩
 ·rcases yu he with⟨hc,he⟩ | ⟨hc,_⟩
  ·obtain⟨_,hd⟩:=Ly he
   rw[AG]at QJ
   obtain⟨i,NB⟩:=List.getElem?_of_mem QJ
   obtain⟨y,Sd,QS⟩:=m11.get NB
   obtain⟨j,hj⟩:=List.getElem?_of_mem (F7.mem_iff.1 (dj Sd))
   have PQ:j < t.rest.length:=(dR.1 hj).1
   have hy:EN t.kt t.vt t.rest j=y:=by simp[EN,aF,hj]
   have tW:e∈es.toList:=(eW.1 QJ).1
   have i1:=h.Sw (rest':=t.rest.eraseIdx j) (cur':=some (EN t.kt t.vt t.rest j)) (since:=since) (c0:=clock) (seen:=seen.push e.born) hi hq m2 m3 m4 hw m5 m6 m7 m8 ⟨m9.2,m9.2⟩ m10 ?_ ?_
   rotate_left
   ·rw[H9 m10 NB];exact⟨_,m11.erase i,Ir F7 Sd hj⟩
   ·intro z hz
    obtain rfl:=bB hz
    exact⟨e,seen,tW,rfl,rfl,by rw[hy];exact QS⟩
   rw[<-m1]at mU
   have hVS:=(hy▸QS:tM (s.env w g β) t.kt t.vt e (EN t.kt t.vt t.rest j))
   refine .inl ⟨_,_,hex mU,_,⟨g,β,i1.1.put o.dst (v:= .cons (.d .bool true) (.cons (.d t.kt (EN t.kt t.vt t.rest j).1) (.cons (.d t.vt (EN t.kt t.vt t.rest j).2) .nil))) ?_⟩,hd j PQ⟩
   exact tM.Wl (hVS.mono i1.2)
  ·have hc:¬0 < t.rest.length:=by simpa using hc
   have:0 < (leftOf es seen).toList.length:=List.length_pos_of_mem QJ
   rw[c6]at this
   omega
theorem JZ{Γ:qd}(hΓ:Sound P Γ){bU:List Nat}{ops:Array Oper}{R:Type}{k:AS->Option R}{r:R}(h:iN C s a w)(he:Nx P Γ bU ops o s k=some r):
  nq P ops o a w λa' w'=>∃s',iN C s' a' w'/\k s'=some r:=by
 have plain:Nw P Γ bU ops o s k=some r->nq P ops o a w λa' w'=>∃s',iN C s' a' w'/\k s'=some r:=λhe=>by
  obtain⟨s1,h1,h2⟩:=F0 he
  exact(Du hΓ h h1).mono λa' w' hs=>⟨s1,hs,h2⟩
 have stepK:∀(hg:o.guard=none),(fU P o a w λa' w'=>∃s',iN C s' a' w'/\k s'=some r)->nq P ops o a w λa' w'=>∃s',iN C s' a' w'/\k s'=some r:=λhg hr=>by
  unfold nq
  have:Region.wanted o (yielded ops a.tmps)=true:=by simp[Region.wanted,hg]
  rw[if_pos this]
  exact hr
 have step:∀(hg:o.guard=none) (b:Bool),fU P o a w (iN C (s.put o.dst (.d .bool b)))->k (s.put o.dst (.d .bool b))=some r->nq P ops o a w λa' w'=>∃s',iN C s' a' w'/\k s'=some r:=λhg b hr hk=>by
  unfold nq
  have:Region.wanted o (yielded ops a.tmps)=true:=by simp[Region.wanted,hg]
  rw[if_pos this]
  exact hr.mono λa' w' hs=>⟨_,hs,hk⟩
 unfold Nx at he
 split at he
 ·rename_i T x y U hg ho
  split at he
  ·rename_i n hn hT
   obtain⟨g,β,hi⟩:=h
   obtain⟨b,hb,hr⟩:=(yc (o:=o) (U:=U) hi hn hT).1 ho
   refine step hg b hr ?_
   rcases yu he with⟨hc,hk⟩ | ⟨_,hk⟩
   ·rw[hb (by simpa using hc)];exact hk
   ·obtain⟨k1,k2⟩:=Jm hk
    cases b
    ·exact k2
    ·exact k1
  ·exact plain he
 ·rename_i T x y U hg ho
  split at he
  ·rename_i n hn hT
   obtain⟨g,β,hi⟩:=h
   obtain⟨b,hb,hr⟩:=(yc (o:=o) (U:=U) hi hn hT).2 ho
   refine step hg b hr ?_
   rcases yu he with⟨hc,hk⟩ | ⟨_,hk⟩
   ·rw[hb (by simpa using hc)];exact hk
   ·obtain⟨k1,k2⟩:=Jm hk
    cases b
    ·exact k2
    ·exact k1
  ·exact plain he
 ·rename_i T m hg ho
  obtain⟨s1,h1,h2⟩:=jx.1 he
  obtain⟨g,β,hi⟩:=h
  exact stepK hg ((Iv hi ho h1).mono λ_ _ hs=>⟨_,hs,h2⟩)
 ·rename_i x hg ho
  obtain⟨s1,h1,h2⟩:=jx.1 he
  obtain⟨v,h3,h4⟩:=au.1 h1
  obtain rfl:=aw.1 h4
  obtain⟨g,β,hi⟩:=h
  exact stepK hg ((HN hi ho h3).mono λ_ _ hs=>⟨_,hs,h2⟩)
 ·rename_i x hg ho
  split at he
  ·rename_i t ht
   obtain⟨g,β,hi⟩:=h
   exact stepK hg (Kr hi ho ht he)
  ·cases he
 ·rename_i c hg ho
  split at he
  ·rename_i F hc
   split at he
   ·rename_i id ver rc f hF
    split at he
    ·rename_i en KY
     obtain⟨SS,he⟩:=KI he
     obtain⟨s1,h1,h2⟩:=jx.1 he
     obtain⟨g,β,hi⟩:=h
     exact stepK hg ((IL hi ho hc hF SS (hΓ _ _ en KY) h1).mono λ_ _ hs=>⟨_,hs,h2⟩)
    ·cases he
   ·exact plain he
  ·exact plain he
 ·exact plain he
theorem zO{rd:Option Nat}{n:Nat}{Γ:qd}(hΓ:Sound P Γ){bU:List Nat}{ops:Array Oper}{R:Type}{Q:Exit->Act->World->Prop}:∀(l:List Oper) {s:AS} {a:Act} {w:World} {k:AS->Option R} {r:R},iN C s a w->Ny P Γ bU ops l s k=some r->
  (∀s' a' w',iN C s' a' w'->k s'=some r->Q .normal a' w')->wpListIn (Fr rd) n P ops Q l a w
 |[],s,a,w,k,r,h,he,hk=>hk s a w h he
 |o::l,s,a,w,k,r,h,he,hk=>by
  have he:Nx P Γ bU ops o s (λs'=>s'.seen λs'=>Ny P Γ bU ops l s' k)=some r:=he
  simp only[AS.yt]at he
  exact((JZ hΓ h he).mono λa' w' ⟨s',hs,h2⟩=>zO hΓ l hs h2 hk).wpListIn
end
end Go.Ab
namespace Go.Ab
theorem AS.LF{s t:AS}(h1:s.cO=t.cO)(h2:s.news.length=t.news.length)(h3:∀id,s.cz id=t.cz id):s=t:=by
 obtain⟨a,b,c⟩:=s
 obtain⟨a',b',c'⟩:=t
 simp only at h1 h2
 subst h1
 have hb:b=b':=kg λk=>h3 (.dB k)
 subst hb
 have hc:c=c':=by
  apply List.ext_getElem h2
  intro i h h'
  apply kg
  intro j
  have:=h3 (.new i j)
  simpa[AS.cz,aF,h,h']using this
 rw[hc]
def ea.Fe:ea->ea->Prop
 | .obj v _ c,.obj v' _ c'=>v=v'/\c=c'
 | .dead,.dead=>True
 |_,_=>False
def rG:Option ea->Option ea->Prop
 |some a,some b=>a.Fe b
 |none,none=>True
 |_,_=>False
def ea.HT:ea->ea
 | .obj v _ c=> .obj v true c
 | .dead=> .dead
theorem ea.MM(a:ea):a.Fe a:=by cases a <;> simp[ea.Fe]
theorem KK(a:Option ea):rG a a:=by cases a <;> simp[rG,ea.MM]
theorem KJ(a:Option ea):rG (a.map ea.HT) a:=by
 cases a with
 |none=>trivial
 |some x=>cases x <;> simp[rG,ea.Fe,ea.HT]
theorem ea.Nu(a:ea):a.HT.HT=a.HT:=by cases a <;> rfl
structure lg(f:uJ)(s t:AS):Prop where
 cO:∀i∈f.cO,t.slot i=s.slot i
 ws:∀id∈f.ws,t.cz id=s.cz id
 rs:∀id∈f.rs,rG (t.cz id) (s.cz id)
 eh:∀q,f.dst=some q->t.eh q=s.eh q
structure QA where
 v:az
 up:Id->Option ea
 fz:List Id
structure App(d:Option Tmp)(E:QA)(s s':AS):Prop where
 cO:s'.cO=(s.put d E.v).cO
 len:s'.news.length=s.news.length
 cz:∀id,s'.cz id=match E.up id with | some e=>some e | none=>if id∈E.fz then(s.cz id).map ea.HT else s.cz id
theorem App.Pj{d:Option Tmp}{E:QA}{s s1 s2:AS}(h1:App d E s s1)(h2:App d E s s2):s1=s2:=
 AS.LF (by rw[h1.cO,h2.cO]) (by rw[h1.len,h2.len]) λid=>by rw[h1.cz,h2.cz]
structure Ea(f:uJ)(s:AS)(E:QA):Prop where
 up:∀id e,E.up id=some e->(id∈f.ws/\s.cz id≠none)\/∃q j,f.dst=some q/\id= .new q j
 fz:∀id∈E.fz,id∈f.rs
theorem xc(s:AS)(id:Id)(e:ea):(s.aX id e).news.length=s.news.length:=by cases id <;> simp[AS.aX]
theorem CP(s:AS)(id i:Id):(s.freeze id).cz i=if i=id then(s.cz i).map ea.HT else s.cz i:=by
 unfold AS.freeze
 cases hs:s.cz id with
 |none=>
  by_cases hi:i=id
  ·subst hi;simp[hs]
  ·simp[hi]
 |some e=>
  cases e with
  |dead=>
   by_cases hi:i=id
   ·subst hi;simp[hs,ea.HT]
   ·simp[hi]
  |obj v fr c=>
   simp only
   by_cases hi:i=id
   ·subst hi
    rw[eX s i _ (by rw[hs];simp)]
    simp[hs,ea.HT]
   ·rw[dh s id i _ hi];simp[hi]
theorem fN(i:Id):∀(ids:List Id) (s:AS),(s.bD ids).cz i=if i∈ids then(s.cz i).map ea.HT else s.cz i
 |[],s=>by simp[AS.bD]
 |id::ids,s=>by
  rw[AS.bD,fN i ids,CP]
  by_cases h1:i=id
  ·subst h1
   by_cases h2:i∈ids
   ·simp[h2,Option.map_map,Function.comp_def,ea.Nu]
   ·simp[h2]
  ·simp[h1]
theorem Ia(s:AS)(id:Id):(s.freeze id).news.length=s.news.length:=by
 unfold AS.freeze
 split
 ·exact xc _ _ _
 ·rfl
theorem nB:∀(ids:List Id) (s:AS),(s.bD ids).news.length=s.news.length
 |[],_=>rfl
 |id::ids,s=>by rw[AS.bD,nB ids,Ia]
theorem sH{s:AS}{q:Nat}:s.eh q=true↔q < s.news.length/\∀j,s.cz (.new q j)=none:=by
 refine⟨λh=>⟨(jZ h).2,(jZ h).1⟩,λ⟨h1,h2⟩=> ?_⟩
 unfold AS.eh
 rw[cQ h1]
 have h0:=h2 0
 simp only[AS.cz,aF,cQ h1,fq]at h0
 cases hh:s.news[q]with
 |nil=>rfl
 |cons x xs=>rw[hh]at h0;simp at h0
theorem App.y3(d:Option Tmp)(v:az)(ids:List Id)(s:AS):App d ⟨v,λ_=>none,ids⟩ s ((s.bD ids).put d v):=by
 refine⟨?_,?_,λid=> ?_⟩
 ·cases d <;> simp[AS.put,l5]
 ·cases d <;> simp[AS.put,nB]
 ·rw[vJ,fN]
theorem App.vQ(d:Option Tmp)(v:az)(s:AS):App d ⟨v,λ_=>none,[]⟩ s (s.put d v):=App.y3 d v [] s
def yQ(q:Nat)(es:List ea):Id->Option ea
 | .new i j=>if i=q then es[j]? else none
 | .dB _=>none
theorem LB(s:AS){q:Nat}(hq:q < s.news.length)(es:List ea)(id:Id):(s.born q es).cz id=match id with | .new i j=>if i=q then es[j]? else s.cz (.new i j) | .dB k=>s.cz (.dB k):=by
 cases id with
 |dB k=>rfl
 |new i j=>
  simp only
  by_cases h:i=q
  ·subst h;rw[if_pos rfl];exact ru hq _ j
  ·rw[if_neg h];exact jf _ λj' e=>by simp only[Id.new.injEq]at e;exact h e.1
theorem App.IX{s:AS}{q:Nat}(hv:s.eh q=true)(v:az)(ids:List Id)(es:List ea):App (some q) ⟨v,yQ q es,ids⟩ s (((s.bD ids).born q es).put (some q) v):=by
 obtain⟨h1,h2⟩:=sH.1 hv
 refine⟨?_,?_,λid=> ?_⟩
 ·simp[AS.put,l5]
 ·simp[AS.put,AS.born,nB]
 ·rw[vJ,LB _ (by rw[nB];exact h1)]
  cases id with
  |dB k=>simp only[yQ];exact fN _ _ _
  |new i j=>
   simp only[yQ]
   by_cases h:i=q
   ·subst h
    rw[if_pos rfl]
    cases he:es[j]? with
    |none=>simp[h2]
    |some e=>simp
   ·rw[if_neg h]
    simp only[if_neg h]
    exact fN _ _ _
theorem App.MI{s:AS}{id:Id}{e0:ea}(hs:s.cz id=some e0)(d:Option Tmp)(v:az)(e:ea):App d ⟨v,λi=>if i=id then some e else none,[]⟩ s ((s.aX id e).put d v):=by
 refine⟨?_,?_,λi=> ?_⟩
 ·cases d <;> simp[AS.put]
 ·cases d <;> simp[AS.put,xc]
 ·rw[vJ]
  by_cases hi:i=id
  ·subst hi
   rw[eX s i _ (by rw[hs];simp)]
   simp
  ·rw[dh s id i _ hi];simp[hi]
section
variable {P:Program} {Γ:qd} {bU:List Nat} {ops:Array Oper} {o:Oper} {s t:AS}
def xx(P:Program)(Γ:qd)(bU:List Nat)(ops:Array Oper)(o:Oper)(s s':AS):Prop:=
 ∃E,App o.dst E s s'/\Ea (hJ Γ ops s o) s E/\∀t,lg (hJ Γ ops s o) s t->∃t',(ni P Γ bU o t).eval=some t'/\App o.dst E t t'
theorem zZ{xs:Array Operand}{i:Nat}(h:Operand.tmp i∈xs.toList):i∈AR xs:=by
 unfold AR
 exact List.mem_filterMap.2 ⟨_,h,rfl⟩
theorem lg.ev(h:lg (hJ Γ ops s o) s t){x:Operand}(hx:x∈o.op.operands.toList):t.ev x=s.ev x:=by
 cases x with
 |tmp i=>exact h.cO i (bP.2 (.inl (zZ hx)))
 |_=>rfl
theorem GC(v:Value):(ofConst v).ids=[]:=by unfold ofConst;split <;> rfl
theorem DL{o:Oper}{x:Op}(h:o.op=x)(hx:DH x=false):DH o.op=false:=by rw[h];exact hx
theorem w7(hn:DH o.op=false){x:Operand}(hx:x∈o.op.operands.toList){id:Id}(dz:id∈(s.ev x).ids):id∈(hJ Γ ops s o).rs:=by
 refine bP.2 (.inl ?_)
 unfold GF
 rw[hn]
 cases x with
 |tmp i=>exact List.mem_flatMap.2 ⟨i,zZ hx,dz⟩
 |const v=>simp[AS.ev,GC]at dz
 |global _=>simp[AS.ev,az.ids]at dz
 |func f=>simp[AS.ev,az.ids]at dz
theorem lg.Fe(h:lg (hJ Γ ops s o) s t)(hn:DH o.op=false){x:Operand}(hx:x∈o.op.operands.toList){id:Id}(dz:id∈(s.ev x).ids):rG (t.cz id) (s.cz id):=
 h.rs id (w7 hn hx dz)
theorem yx{id:Id}(h:rG (t.cz id) (s.cz id)):(t.obj id=none/\s.obj id=none)\/∃v f f' c,t.obj id=some (v,f,c)/\s.obj id=some (v,f',c):=by
 unfold AS.obj
 revert h
 cases t.cz id with
 |none=>cases s.cz id with
  |none=>intro _;simp
  |some b=>intro h;exact h.elim
 |some a=>cases s.cz id with
  |none=>intro h;exact h.elim
  |some b=>cases a <;> cases b <;> intro h <;> first
    |exact h.elim
    | (left;exact⟨rfl,rfl⟩)
    | (obtain⟨rfl,rfl⟩:=h;right;exact⟨_,_,_,_,rfl,rfl⟩)
theorem zq{id:Id}(h:rG (t.cz id) (s.cz id))(ver:Nat)(p:List v8):t.row id ver p=s.row id ver p:=by
 unfold AS.row
 rcases yx h with⟨h1,h2⟩ | ⟨v,f,f',c,h1,h2⟩ <;> rw[h1,h2]
theorem mL:∀(v:az) (ty:Ty),(∀id∈v.ids,rG (t.cz id) (s.cz id))->t.jj ty v=s.jj ty v
 | .cP id ver p c i len,ty,h=>by
  cases ty <;> first
   |rfl
   | (simp only[AS.jj];rw[zq (h id (by simp[az.ids]))])
 | .pr a b,ty,h=>by
  cases ty <;> first
   |rfl
   | (simp only[AS.jj];rw[mL a _ λid dz=>h id (by simp[az.ids,dz]),mL b _ λid dz=>h id (by simp[az.ids,dz])])
 | .undef,ty,_ | .gone,ty,_ | .df,ty,_ | .oI,ty,_ | .qt,ty,_ | .tl,ty,_ | .d _ _,ty,_ | .ptr ..,ty,_ | .ed ..,ty,_ | .fn ..,ty,_ | .cons ..,ty,_ | .nil,ty,_ | .vec ..,ty,_ | .bx ..,ty,_ | .oh ..,ty,_ | .mp ..,ty,_ | .oK ..,ty,_ | .yl ..,ty,_ | .qK ..,ty,_ | .sb _,ty,_=>by
  cases ty <;> simp only[AS.jj]
theorem pM:∀(v:az),∀id∈v.shared,id∈v.ids
 | .cP ..,id,h=>by simpa[az.shared,az.ids]using h
 | .pr a b,id,h=>by
  simp only[az.shared,bP,az.ids]at h ⊢
  rcases h with h | h
  ·exact .inl (pM a id h)
  ·exact .inr (pM b id h)
 | .undef,_,h | .gone,_,h | .df,_,h | .oI,_,h | .qt,_,h | .tl,_,h | .d _ _,_,h | .ptr ..,_,h | .ed ..,_,h | .fn ..,_,h | .cons ..,_,h | .nil,_,h | .vec ..,_,h | .bx ..,_,h | .oh ..,_,h | .mp ..,_,h | .oK ..,_,h | .yl ..,_,h | .qK ..,_,h | .sb _,_,h=>by
  simp[az.shared]at h
theorem Gj{T:TypeId}{x:az}(h:∀id∈x.ids,rG (t.cz id) (s.cz id)):xU P t T x=xU P s T x:=by
 unfold xU
 split
 ·rename_i id ver p n
  rcases yx (h id (by simp[az.ids])) with⟨h1,h2⟩ | ⟨v,f,f',c,h1,h2⟩ <;> rw[h1,h2]
 ·rfl
 ·rfl
 ·rfl
theorem Eh{n:Nat}{lo hi:Option Operand}(hl:∀x,lo=some x->t.ev x=s.ev x)(hh:∀x,hi=some x->t.ev x=s.ev x):bounds t n lo hi=bounds s n lo hi:=by
 unfold bounds
 cases lo <;> cases hi <;> simp only[] <;> first
  |rfl
  | (rw[hl _ rfl,hh _ rfl])
  |rw[hl _ rfl]
  |rw[hh _ rfl]
theorem yA{T:TypeId}{x:az}{lo hi:Option Operand}(h:∀id∈x.ids,rG (t.cz id) (s.cz id))(hl:∀x,lo=some x->t.ev x=s.ev x)(hh:∀x,hi=some x->t.ev x=s.ev x):
  vz P t T x lo hi=vz P s T x lo hi:=by
 have hb:∀n,bounds t n lo hi=bounds s n lo hi:=λn=>Eh hl hh
 unfold vz
 split <;> first
  |rfl
  | (rw[zq (h _ (by simp[az.ids]))];simp only[hb];done)
  | (simp only[hb];done)
theorem C3{T:TypeId}{x:az}{lo:Option Operand}{y m:Operand}(h:∀id∈x.ids,rG (t.cz id) (s.cz id))(hl:∀x,lo=some x->t.ev x=s.ev x)(hh:t.ev y=s.ev y)(hm:t.ev m=s.ev m):
  yz P t T x lo y m=yz P s T x lo y m:=by
 unfold yz
 rw[hh,hm,yA h hl λz hz=>by obtain rfl:=bB hz;exact hh]
theorem zb{T:TypeId}{x:az}{i:Int}(h:∀id∈x.ids,rG (t.cz id) (s.cz id)):nZ P t T x i=nZ P s T x i:=by
 unfold nZ
 split <;> first
  |rfl
  |rw[zq (h _ (by simp[az.ids]))]
theorem FJ{obj:Bool}{src dst:TypeId}{x:az}(h:∀id∈x.ids,rG (t.cz id) (s.cz id)):Dj P t obj src dst x=Dj P s obj src dst x:=by
 unfold Dj
 split
 ·rfl
 ·unfold Lu
  split <;> first
   |rfl
   | (simp only[AS.Ip,mL _ _ h])
theorem JV{T:TypeId}{op:BinOp}{i:Id}{v:Nat}{j:Id}{w:Nat}(h:rG (t.cz i) (s.cz i)):QF P t T op i v j w=QF P s T op i v j w:=by
 unfold QF
 rcases yx h with⟨h1,h2⟩ | ⟨v,f,f',c,h1,h2⟩ <;> rw[h1,h2]
theorem FL{src dst:TypeId}{id:Id}{ver:Nat}(h:rG (t.cz id) (s.cz id)):Dk P t src dst id ver=Dk P s src dst id ver:=by
 unfold Dk
 rcases yx h with⟨h1,h2⟩ | ⟨v,f,f',c,h1,h2⟩
 ·rw[h1,h2]
 ·rw[h1,h2]
  cases c <;> first
   |rfl
   | (rename_i e z c;cases z <;> rfl)
theorem sC{ty:Ty}:∀(ps:List (Nat×Operand)) (l:List ty.den),(∀x∈ps,t.ev x.2=s.ev x.2/\∀id∈(s.ev x.2).ids,rG (t.cz id) (s.cz id))->jy ty t ps l=jy ty s ps l
 |[],_,_=>rfl
 | (i,x)::ps,l,h=>by
  obtain⟨h1,h2⟩:=h (i,x) (aN ..)
  simp only[jy]
  simp only at h1 h2
  rw[h1,mL _ _ h2]
  congr 2
  funext y
  rw[sC ps _ λz hz=>h z (aL _ hz)]
theorem qT{ty:Ty}:∀(ps:List (Nat×Operand)) (l:List ty.den) (r:List ty.den×List Id),(jy ty s ps l).eval=some r->∀id∈r.2,∃x∈ps,id∈(s.ev x.2).ids
 |[],l,r,h,id,dz=>by
  obtain rfl:=aw.1 h
  cases dz
 | (i,x)::ps,l,r,h,id,dz=>by
  simp only[jy]at h
  obtain⟨h1,h2⟩:=aC.1 h
  obtain⟨y,h3,h4⟩:=au.1 h2
  obtain⟨r',h5,h6⟩:=au.1 h4
  obtain rfl:=aw.1 h6
  rcases bP.1 dz with dz | dz
  ·exact⟨(i,x),aN ..,pM _ _ dz⟩
  ·obtain⟨z,hz,y8⟩:=qT ps _ r' h5 id dz
   exact⟨z,aL _ hz,y8⟩
theorem uC{fs:Array Field}:∀(ps:List (Nat×Operand)) (v:az),(∀x∈ps,t.ev x.2=s.ev x.2)->mZ P fs t ps v=mZ P fs s ps v
 |[],_,_=>rfl
 | (i,x)::ps,v,h=>by
  have h1:=h (i,x) (aN ..)
  simp only at h1
  simp only[mZ,h1]
  have ih:∀v,mZ P fs t ps v=mZ P fs s ps v:=λv=>uC ps v λz hz=>h z (aL _ hz)
  simp only[ih]
theorem xD:∀(l:List Operand),(∀x∈l,t.ev x=s.ev x)->nR t l=nR s l
 |[],_=>rfl
 |x::l,h=>by
  simp only[nR]
  rw[h x (aN ..),xD l λy hy=>h y (aL _ hy)]
theorem Aa{ty:Ty}{X:TypeId}{x:az}(h:∀id∈x.ids,rG (t.cz id) (s.cz id)):vf P t ty X x=vf P s ty X x:=by
 unfold vf
 split
 ·rfl
 ·simp only[AS.Ip,mL _ _ h]
theorem kM{v:az}(h:∀t,lg (hJ Γ ops s o) s t->(ni P Γ bU o t).eval=some (t.put o.dst v)):xx P Γ bU ops o s (s.put o.dst v):=
 ⟨⟨v,λ_=>none,[]⟩,App.vQ _ _ _,⟨λ_ _ h=>by simp at h,λ_ h=>by simp at h⟩,λt ht=>⟨_,h t ht,App.vQ _ _ _⟩⟩
theorem ml{F:AS->Out az}(ho:∀t,ni P Γ bU o t=(F t).bind λv=> .ok (t.put o.dst v))(hF:∀t,lg (hJ Γ ops s o) s t->F t=F s){s':AS}(he:(ni P Γ bU o s).eval=some s'):xx P Γ bU ops o s s':=by
 rw[ho]at he
 obtain⟨v,h1,h2⟩:=au.1 he
 obtain rfl:=aw.1 h2
 refine kM λt ht=> ?_
 rw[ho,hF t ht,au]
 exact⟨v,h1,rfl⟩
theorem AM{v:az}{ids:List Id}(hi:∀id∈ids,id∈(hJ Γ ops s o).rs)(h:∀t,lg (hJ Γ ops s o) s t->(ni P Γ bU o t).eval=some ((t.bD ids).put o.dst v)):xx P Γ bU ops o s ((s.bD ids).put o.dst v):=
 ⟨⟨v,λ_=>none,ids⟩,App.y3 _ _ _ _,⟨λ_ _ h=>by simp at h,hi⟩,λt ht=>⟨_,h t ht,App.y3 _ _ _ _⟩⟩
theorem si{v:az}{ids:List Id}{q:Nat}{es:List ea}(hd:o.dst=some q)(hv:s.eh q=true)(hi:∀id∈ids,id∈(hJ Γ ops s o).rs)
  (h:∀t,lg (hJ Γ ops s o) s t->t.eh q=true->(ni P Γ bU o t).eval=some (((t.bD ids).born q es).put o.dst v)):xx P Γ bU ops o s (((s.bD ids).born q es).put o.dst v):=by
 refine⟨⟨v,yQ q es,ids⟩,by rw[hd];exact App.IX hv _ _ _,⟨λid e h=> .inr ?_,hi⟩,λt ht=> ?_⟩
 ·cases id with
  |dB _=>simp[yQ]at h
  |new i j=>
   simp only[yQ]at h
   split at h
   ·rename_i hq;exact⟨q,j,hd,by rw[hq]⟩
   ·cases h
 ·have hv':t.eh q=true:=by rw[ht.eh q hd];exact hv
  exact⟨_,h t ht hv',by rw[hd];exact App.IX hv' _ _ _⟩
theorem tX{v:az}{id:Id}{e0 e:ea}(hs:s.cz id=some e0)(hw:id∈(hJ Γ ops s o).ws)(h:∀t,lg (hJ Γ ops s o) s t->t.cz id=s.cz id->(ni P Γ bU o t).eval=some ((t.aX id e).put o.dst v)):
  xx P Γ bU ops o s ((s.aX id e).put o.dst v):=by
 refine⟨⟨v,λi=>if i=id then some e else none,[]⟩,App.MI hs _ _ _,⟨λi e' h=> .inl ?_,λ_ h=>by simp at h⟩,λt ht=> ?_⟩
 ·simp only at h
  split at h
  ·rename_i hi;subst hi;exact⟨hw,by rw[hs];simp⟩
  ·cases h
 ·have:=ht.ws id hw
  exact⟨_,h t ht this,App.MI (this.trans hs) _ _ _⟩
end
end Go.Ab
namespace Go.Ab
section
variable {P:Program} {Γ:qd} {bU:List Nat} {ops:Array Oper} {o:Oper} {s t:AS}
theorem EY{T:TypeId}{x v:az}{s':AS}(h:(vA P s T x v).eval=some s'):
  ∃id e0 e,x.ids=[id]/\s.cz id=some e0/\s'=s.aX id e/\∀t:AS,t.cz id=s.cz id->(vA P t T x v).eval=some (t.aX id e):=by
 unfold vA at h
 split at h
 ·rename_i id ver p n
  cases kG:s.obj id with
  |none=>rw[kG]at h;simp only[ao]at h
  |some r=>
   obtain⟨ve,fr,c⟩:=r
   rw[kG]at h
   obtain⟨h1,h2⟩:=aC.1 h
   obtain⟨r,h3,h4⟩:=au.1 h2
   obtain⟨h5,h6⟩:=aC.1 h4
   obtain⟨h7,h8⟩:=bZ.1 h6
   obtain⟨c',h9,Rp⟩:=au.1 h8
   obtain rfl:=aw.1 Rp
   refine⟨id,_,_,rfl,eJ kG,rfl,λt ht=> ?_⟩
   have hob':t.obj id=some (ve,fr,c):=by simp only[AS.obj,ht];exact kG
   unfold vA
   simp only[hob']
   exact aC.2 ⟨h1,au.2 ⟨r,h3,aC.2 ⟨h5,bZ.2 ⟨h7,au.2 ⟨c',h9,aw.2 rfl⟩⟩⟩⟩⟩
 ·simp only[ao]at h
theorem HI{c:Call}{x y:Operand}{T X:TypeId}(dA:o.op= .call c)(hc:c.callee= .builtin .copy)(ha:c.args.toList=[x,y])(ht:c.argTypes.toList=[T,X]){s':AS}
  (he:(A7 P s o.dst T X (s.ev x) (s.ev y)).eval=some s'):xx P Γ bU ops o s s':=by
 have Dz:∀t:AS,ni P Γ bU o t=A7 P t o.dst T X (t.ev x) (t.ev y):=λt=>by
  unfold ni
  rw[dA]
  simp only[hc,ha,ht]
 have tf:∀z,z=x\/z=y->z∈o.op.operands.toList:=λz hz=>by
  rw[dA]
  simp only[Op.operands,Call.operands,hc,aS,cn,ha]
  simpa using hz
 have hx:∀t,lg (hJ Γ ops s o) s t->t.ev x=s.ev x:=λt h=>h.ev (tf x (.inl rfl))
 have hy:∀t,lg (hJ Γ ops s o) s t->t.ev y=s.ev y:=λt h=>h.ev (tf y (.inr rfl))
 have hm:∀t,lg (hJ Γ ops s o) s t->∀ty,vf P t ty X (s.ev y)=vf P s ty X (s.ev y):=λt h ty=>Aa λid dz=>h.Fe (DL dA rfl) (tf y (.inr rfl)) dz
 unfold A7 at he
 split at he
 ·rename_i e t b id ver len wc Hj
  obtain⟨m,h1,he⟩:=au.1 he
  split at he
  ·rename_i ve n t' l kG
   obtain⟨h2,xL⟩:=aC.1 he
   obtain⟨l',h3,CE⟩:=au.1 xL
   obtain⟨h4,QI⟩:=bZ.1 CE
   obtain rfl:=aw.1 QI
   have hw:id∈(hJ Γ ops s o).ws:=by
    show id∈writes Γ s o
    unfold writes
    rw[dA]
    simp only[hc,ha,Hj]
    simp[az.ids]
   refine tX (eJ kG) hw λt ht Kc=> ?_
   rw[Dz t,hx t ht,hy t ht]
   have hob':t.obj id=some (ve,false,.d (.arr n t') l):=by simp only[AS.obj,Kc];exact kG
   unfold A7
   simp only[wc,Hj]
   refine au.2 ⟨m,by rw[hm t ht];exact h1,?_⟩
   simp only[hob']
   exact aC.2 ⟨h2,au.2 ⟨l',h3,bZ.2 ⟨h4,aw.2 rfl⟩⟩⟩
  ·exact(ao.1 he).elim
 ·exact(ao.1 he).elim
theorem Ef{c:Call}{x y:Operand}{T X:TypeId}(dA:o.op= .call c)(hc:c.callee= .builtin .append)(ha:c.args.toList=[x,y])(ht:c.argTypes.toList=[T,X])(jb:∀k n,s.ev x= .df->s.ev y= .d (.int k) n->False){s':AS}
  (he:(rk P s (Kg bU o.dst) (H6 bU o.dst) o.dst T X (s.ev x) (s.ev y)).eval=some s'):xx P Γ bU ops o s s':=by
 have Dz:∀t:AS,t.ev x=s.ev x->t.ev y=s.ev y->ni P Γ bU o t=rk P t (Kg bU o.dst) (H6 bU o.dst) o.dst T X (t.ev x) (t.ev y):=λt e1 e2=>by
  unfold ni
  rw[dA]
  simp only[hc,ha,ht]
  split
  ·rename_i k n hx hy
   rw[e1]at hx
   rw[e2]at hy
   exact(jb k n hx hy).elim
  ·rfl
 have tf:∀z,z=x\/z=y->z∈o.op.operands.toList:=λz hz=>by
  rw[dA]
  simp only[Op.operands,Call.operands,hc,aS,cn,ha]
  simpa using hz
 have hx:∀t,lg (hJ Γ ops s o) s t->t.ev x=s.ev x:=λt h=>h.ev (tf x (.inl rfl))
 have hy:∀t,lg (hJ Γ ops s o) s t->t.ev y=s.ev y:=λt h=>h.ev (tf y (.inr rfl))
 have hm:∀t,lg (hJ Γ ops s o) s t->∀ty,vf P t ty X (s.ev y)=vf P s ty X (s.ev y):=λt h ty=>Aa λid dz=>h.Fe (DL dA rfl) (tf y (.inr rfl)) dz
 unfold rk at he
 split at he
 ·rename_i e ty b q wc hd
  obtain⟨m,h1,h2⟩:=au.1 he
  split at h2
  ·rename_i RX
   cases QH:H6 bU o.dst with
   |true=>
    rw[QH]at h2
    simp only at h2
    obtain⟨h5,h6⟩:=bZ.1 h2
    obtain rfl:=aw.1 h6
    refine kM λt ht=> ?_
    rw[Dz t (hx t ht) (hy t ht),hx t ht,hy t ht]
    unfold rk
    simp only[hd]at QH wc ⊢
    simp only[wc,RX,QH]
    refine au.2 ⟨m,by rw[hm t ht];exact h1,?_⟩
    exact bZ.2 ⟨h5,aw.2 rfl⟩
   |false=>
   rw[QH]at h2
   simp only at h2
   obtain⟨h3,h4⟩:=aC.1 h2
   obtain⟨h5,h6⟩:=bZ.1 h4
   obtain rfl:=aw.1 h6
   refine si (ids:=[]) hd h3 (λ_ h=>by cases h) λt ht hv=> ?_
   rw[Dz t (hx t ht) (hy t ht),hx t ht,hy t ht]
   unfold rk
   simp only[hd]at QH wc ⊢
   simp only[wc,RX,QH]
   refine au.2 ⟨m,by rw[hm t ht];exact h1,?_⟩
   exact aC.2 ⟨hv,bZ.2 ⟨h5,aw.2 rfl⟩⟩
  ·rename_i id ver len RX
   split at h2
   ·rename_i v fr e' t' l kG
    obtain⟨h3,h4⟩:=aC.1 h2
    obtain⟨l',h5,h6⟩:=au.1 h4
    obtain⟨h7,h8⟩:=bZ.1 h6
    obtain⟨h9,Rp⟩:=bZ.1 h8
    obtain⟨Vp,J1⟩:=bZ.1 Rp
    obtain rfl:=aw.1 J1
    have hw:id∈(hJ Γ ops s o).ws:=by
     show id∈writes Γ s o
     unfold writes
     rw[dA]
     simp only[hc,ha,RX]
     simp[az.ids]
    refine tX (eJ kG) hw λt ht Kc=> ?_
    rw[Dz t (hx t ht) (hy t ht),hx t ht,hy t ht]
    have hob':t.obj id=some (v,fr,.vec e' t' l):=by simp only[AS.obj,Kc];exact kG
    unfold rk
    simp only[hd]at wc ⊢
    simp only[wc,RX]
    refine au.2 ⟨m,by rw[hm t ht];exact h1,?_⟩
    simp only[hob']
    exact aC.2 ⟨h3,au.2 ⟨l',h5,bZ.2 ⟨h7,bZ.2 ⟨h9,bZ.2 ⟨Vp,aw.2 rfl⟩⟩⟩⟩⟩
   ·simp only[ao]at h2
  ·simp only[ao]at h2
 ·simp only[ao]at he
theorem zn:∀(n:Nat) (todo acc:List Id),∀id∈acc,id∈s.reach n todo acc
 | 0,_,_,id,h=>h
 |_+1,[],_,id,h=>h
 |n+1,x::todo,acc,id,h=>by
  rw[AS.reach]
  split
  ·exact zn n todo acc id h
  ·exact zn n _ _ id (bP.2 (.inl h))
theorem qz:∀(n:Nat) (todo acc:List Id),(∀id∈s.reach n todo acc,((t.cz id).getD .dead).ids=((s.cz id).getD .dead).ids)->t.reach n todo acc=s.reach n todo acc
 | 0,_,_,_=>rfl
 |_+1,[],_,_=>rfl
 |n+1,x::todo,acc,h=>by
  rw[AS.reach]at h
  rw[AS.reach,AS.reach]
  split
  ·rename_i hc
   rw[if_pos hc]at h
   exact qz n todo acc h
  ·rename_i hc
   rw[if_neg hc]at h
   have hx:=h x (zn n _ _ x (bP.2 (.inr (ck.2 rfl))))
   rw[hx]
   exact qz n _ _ h
theorem NJ(e:Option ea):((e.map ea.HT).getD .dead).ids=(e.getD .dead).ids:=by
 cases e with
 |none=>rfl
 |some x=>cases x <;> rfl
theorem Aw(ids:List Id)(n:Nat)(todo acc:List Id):(s.bD ids).reach n todo acc=s.reach n todo acc:=by
 refine qz n todo acc λid _=> ?_
 rw[fN]
 split
 ·exact NJ _
 ·rfl
theorem wR:∀(ps:List (Option Ty)) (vs:List az),(∀v∈vs,∀id∈v.ids,rG (t.cz id) (s.cz id))->t.conv ps vs=s.conv ps vs
 |[],[],_=>rfl
 |[],_::_,_=>rfl
 |some _::_,[],_=>rfl
 |none::_,[],_=>rfl
 |some ty::ps,v::vs,h=>by
  simp only[AS.conv]
  rw[mL v ty (h v (aN ..)),wR ps vs λx hx=>h x (aL _ hx)]
 |none::ps,v::vs,h=>by
  simp only[AS.conv]
  rw[wR ps vs λx hx=>h x (aL _ hx)]
theorem wS:∀(ps:List (Option Ty)) (vs:List az) (r:List az×List Id),(s.conv ps vs).eval=some r->r.1.flatMap az.ids=pU ps vs/\∀id∈r.2,∃v∈vs,id∈v.ids
 |[],[],r,h=>by
  simp only[AS.conv,aw]at h
  subst h
  exact⟨rfl,λ_ h=>by cases h⟩
 |some ty::ps,v::vs,r,h=>by
  simp only[AS.conv]at h
  obtain⟨x,h1,h2⟩:=au.1 h
  obtain⟨r',h3,h4⟩:=au.1 h2
  obtain rfl:=aw.1 h4
  obtain⟨i1,i2⟩:=wS ps vs r' h3
  refine⟨by simp[pU,i1,az.ids],λid dz=> ?_⟩
  rcases bP.1 dz with dz | dz
  ·exact⟨v,aN ..,pM v id dz⟩
  ·obtain⟨u,hu,Fb⟩:=i2 id dz
   exact⟨u,aL _ hu,Fb⟩
 |none::ps,v::vs,r,h=>by
  simp only[AS.conv]at h
  obtain⟨r',h3,h4⟩:=au.1 h
  obtain rfl:=aw.1 h4
  obtain⟨i1,i2⟩:=wS ps vs r' h3
  refine⟨by simp[pU,i1],λid dz=> ?_⟩
  obtain⟨u,hu,Fb⟩:=i2 id dz
  exact⟨u,aL _ hu,Fb⟩
 |[],_::_,_,h=>by simp only[AS.conv,ao]at h
 |some _::_,[],_,h=>by simp only[AS.conv,ao]at h
 |none::_,[],_,h=>by simp only[AS.conv,ao]at h
theorem Gi:∀(c:az),∀v∈c.list,∀id∈v.ids,id∈c.ids
 | .cons a b,v,hv,id,dz=>by
  simp only[az.list,dd]at hv
  simp only[az.ids,bP]
  rcases hv with rfl | hv
  ·exact .inl dz
  ·exact .inr (Gi b v hv id dz)
 | .sb _,_,h,_,_ | .undef,_,h,_,_ | .gone,_,h,_,_ | .df,_,h,_,_ | .oI,_,h,_,_ | .qt,_,h,_,_ | .tl,_,h,_,_ | .d _ _,_,h,_,_ | .ptr ..,_,h,_,_ | .ed ..,_,h,_,_
 | .fn ..,_,h,_,_ | .pr ..,_,h,_,_ | .nil,_,h,_,_ | .vec ..,_,h,_,_ | .bx ..,_,h,_,_ | .oh ..,_,h,_,_ | .mp ..,_,h,_,_ | .oK ..,_,h,_,_ | .yl ..,_,h,_,_ | .qK ..,_,h,_,_ | .cP ..,_,h,_,_=>by simp[az.list]at h
theorem Ah{ids:List Id}(h:∀id∈ids,t.cz id=s.cz id):t.qE ids=s.qE ids:=by
 funext id ver
 unfold AS.qE
 cases hi:idxOf id ids with
 |none=>rfl
 |some k=>
  have:t.obj id=s.obj id:=by simp only[AS.obj,h id (dj (nY hi))]
  rw[this]
theorem Al{id:Id}(h:t.cz id=s.cz id):t.tc id=s.tc id:=by simp only[AS.tc,AS.obj,h]
theorem yk{ids:List Id}(h:∀id∈ids,t.cz id=s.cz id)(q:Nat):t.pK ids q=s.pK ids q:=by
 funext id ver
 cases id with
 |new i j=>rfl
 |dB k=>
  simp only[AS.pK]
  cases hk:ids[k]? with
  |none=>rfl
  |some id=>simp only[Al (h id (dj hk))]
theorem xF{ids:List Id}(h:∀id∈ids,t.cz id=s.cz id)(q b:Nat):t.nS ids q b=s.nS ids q b:=by
 funext e
 cases e <;> simp only[AS.nS,yk h]
theorem FP{ids:List Id}(h:∀id∈ids,t.cz id=s.cz id){id:Id}(dz:id∈ids):t.lR ids id=s.lR ids id:=by
 unfold AS.lR
 rw[h id dz,Ah h]
def me(s:AS)(ids:List Id)(d:Option Tmp)(G:kr):AS:=
 (AS.jF s ids (d.getD 0) (s.made ids (d.getD 0) G.news) ids G.cT).put d (G.val.ja (s.pK ids (d.getD 0)))
theorem Df{ids:List Id}{d:Option Tmp}{G:kr}{s':AS}:(s.back ids d G).eval=some s'↔(G.cT.length=ids.length/\(G.news=[]\/∃q,d=some q/\s.eh q=true))/\s'=me s ids d G:=by
 unfold AS.back
 cases d with
 |none=>
  rw[aC,aw]
  simp only[ak,beq_iff_eq,List.isEmpty_iff,me,AS.put,Option.getD_none]
  constructor
  ·rintro⟨⟨h1,h2⟩,rfl⟩
   rw[h2];exact⟨⟨h1,.inl rfl⟩,rfl⟩
  ·rintro⟨⟨h1,h2⟩,rfl⟩
   rcases h2 with h2 | ⟨q,hq,_⟩
   ·rw[h2];exact⟨⟨h1,rfl⟩,rfl⟩
   ·cases hq
 |some q=>
  rw[aC,aw]
  simp only[ak,beq_iff_eq,gP,List.isEmpty_iff,me,fq]
  constructor
  ·rintro⟨⟨h1,h2⟩,rfl⟩
   exact⟨⟨h1,h2.imp id λh=>⟨q,rfl,h⟩⟩,rfl⟩
  ·rintro⟨⟨h1,h2⟩,rfl⟩
   refine⟨⟨h1,h2.imp id λ⟨q',hq,h⟩=> ?_⟩,rfl⟩
   obtain rfl:q=q':=by simpa using hq
   exact h
theorem zU(s0:AS)(all:List Id)(q:Nat):∀(ids:List Id) (es:List ea) (s:AS),(AS.jF s0 all q s ids es).news.length=s.news.length
 |[],_,_=>by simp[AS.jF]
 |_::_,[],_=>by simp[AS.jF]
 |id::ids,e::es,s=>by rw[AS.jF,zU s0 all q ids es,xc]
theorem Mc(s:AS)(ids:List Id)(q:Nat)(es:List ea):(s.made ids q es).news.length=s.news.length:=by
 cases es <;> simp[AS.made,AS.born]
def vZ(ids:List Id)(d:Option Tmp)(G:kr)(id:Id):Prop:=id∈ids\/(G.news≠ []/\∃q j,d=some q/\id= .new q j)
theorem AX{ids:List Id}{d:Option Tmp}{G:kr}(hn:ids.Nodup)(hp:∀id∈ids,s.cz id≠none)(hl:G.cT.length=ids.length)(hv:G.news=[]\/∃q,d=some q/\s.eh q=true):
  (∀id,¬vZ ids d G id->(me s ids d G).cz id=s.cz id)/\
  (∀(k:Nat) (id:Id) (e:ea),ids[k]? =some id->G.cT[k]? =some e->(me s ids d G).cz id=some (s.nS ids (d.getD 0) (s.tc id) e))/\
  (∀q j,G.news≠ []->d=some q->(me s ids d G).cz (.new q j)=(G.news[j]?).map (s.nS ids q 0))/\
  (∀q j,G.news≠ []->d=some q->s.cz (.new q j)=none):=by
 have hv':G.news=[]\/s.eh (d.getD 0)=true:=by
  rcases hv with h | ⟨q,rfl,h⟩
  ·exact .inl h
  ·exact .inr h
 obtain⟨m1,m2⟩:=FQ s ids (d.getD 0) G.news hv'
 have OE:∀q j,G.news≠ []->d=some q->s.cz (.new q j)=none:=λq j h1 h2=>by
  rcases hv' with h | h
  ·exact absurd h h1
  ·subst h2;exact(sH.1 h).2 j
 have we:∀id,s.cz id≠none->G.news=[]\/∀j,id≠ .new (d.getD 0) j:=λid dz=>by
  rcases hv with h | ⟨q,rfl,h⟩
  ·exact .inl h
  ·exact .inr λj e=>dz (by rw[e];exact(sH.1 h).2 j)
 obtain⟨n1,n2⟩:=uW s ids (d.getD 0) ids G.cT (s.made ids (d.getD 0) G.news) hn hl (λid dz=>by rw[m1 id (we id (hp id dz))];exact hp id dz)
 refine⟨λid dz=> ?_,λk id e h1 h2=> ?_,λq j h1 h2=> ?_,OE⟩
 ·unfold vZ at dz
  simp only[not_or]at dz
  rw[me,vJ,n1 id dz.1]
  refine m1 id ?_
  by_cases jb:G.news=[]
  ·exact .inl jb
  ·right
   intro j e
   rcases hv with h | ⟨q,hq,_⟩
   ·exact jb h
   ·exact dz.2 ⟨jb,q,j,hq,by rw[e,hq];rfl⟩
 ·rw[me,vJ,n2 k id e h1 h2]
 ·subst h2
  have TW:Id.new q j ∉ ids:=λdz=>hp _ dz (OE q j h1 rfl)
  rw[me,vJ,n1 _ TW]
  exact m2 h1 j
open Classical in
theorem HC{c:Call}{F:Operand}{f:FuncId}{caps:az}{en:Entry}(dA:o.op= .call c)(hc:c.callee= .value F)(hF:s.ev F= .fn f caps)(hΓ:Γ f (c.args.toList.map s.ev++caps.list)=some en)(jt:Nat.blt f yB=true){s':AS}
  (he:(s.call en o.dst (c.args.toList.map s.ev++caps.list)).eval=some s'):xx P Γ bU ops o s s':=by
 have tf:∀z,z=F\/z∈c.args.toList->z∈o.op.operands.toList:=λz hz=>by
  rw[dA]
  simp only[Op.operands,Call.operands,hc,cn,bP]
  rcases hz with rfl | hz
  ·exact .inl (by simp)
  ·exact .inr hz
 have LR:∀v∈c.args.toList.map s.ev++caps.list,∀id∈v.ids,id∈(hJ Γ ops s o).rs:=λv hv id dz=>by
  rcases bP.1 hv with hv | hv
  ·obtain⟨x,hx,rfl⟩:=dD.1 hv
   exact w7 (DL dA rfl) (tf x (.inr hx)) dz
  ·refine w7 (DL dA rfl) (tf F (.inl rfl)) ?_
   rw[hF]
   exact Gi caps v hv id dz
 generalize wx:c.args.toList.map s.ev++caps.list=vs at he LR hΓ
 have M4:(hJ Γ ops s o).ws=s.reach 64 (pU en.params vs) []:=by
  show writes Γ s o=_
  unfold writes
  rw[dA]
  simp only[hc,hF,wx,hΓ]
 have Dz:∀t,lg (hJ Γ ops s o) s t->ni P Γ bU o t=t.call en o.dst vs:=λt ht=>by
  unfold ni
  rw[dA]
  have h1:t.ev F= .fn f caps:=by rw[ht.ev (tf F (.inl rfl)),hF]
  have h2:c.args.toList.map t.ev=c.args.toList.map s.ev:=iB λx hx=>ht.ev (tf x (.inr hx))
  obtain⟨cal,args,tys⟩:=c
  simp only at hc wx h2
  subst hc
  simp only[h1,h2,wx,hΓ,jt,Out.guard]
 unfold AS.call at he
 obtain⟨r,h1,h2⟩:=au.1 he
 obtain⟨PY,H2⟩:=wS _ _ r h1
 have hlends:∀t:AS,(t.bD r.2).Jg r.1=t.reach 64 (pU en.params vs) []:=λt=>by
  unfold AS.Jg
  rw[Aw,PY]
 rw[hlends]at h2
 generalize hW:s.reach 64 (pU en.params vs) []=W at h2 M4
 have hWn:W.Nodup:=by rw[<-hW];exact qC s _ _ _ (by simp)
 unfold AS.enter at h2
 obtain⟨tW,h3⟩:=aC.1 h2
 obtain⟨x,hx,h4⟩:=ql.1 h3
 obtain⟨x0,Sb,h4⟩:=au.1 h4
 have Um:=en.O0 _ _ Sb
 rw[Um]at h4 Sb
 obtain⟨⟨hl,hv⟩,rfl⟩:=Df.1 h4
 generalize hG:en.out (r.1.map (az.ja ((s.bD r.2).qE W))) (W.map ((s.bD r.2).lR W)) x=G at hl hv h4 ⊢
 have hp:∀id∈W,(s.bD r.2).cz id≠none:=λid dz=>by
  have:=(ak _ _▸dw.1 tW id dz).1
  obtain⟨⟨v,fr,c⟩,hr⟩:=cv.1 this
  rw[eJ hr];simp
 obtain⟨b1,b2,b3,b4⟩:=AX (s:=s.bD r.2) (d:=o.dst) hWn hp hl hv
 have hfzent:∀(u:AS) id,u.cz id=none↔(u.bD r.2).cz id=none:=λu id=>by
  rw[fN];split <;> simp
 let E:QA:=⟨G.val.ja ((s.bD r.2).pK W (o.dst.getD 0)),λid=>if vZ W o.dst G id then(me (s.bD r.2) W o.dst G).cz id else none,r.2⟩
 have hslots:∀u:AS,(me (u.bD r.2) W o.dst G).cO=(u.put o.dst (G.val.ja ((u.bD r.2).pK W (o.dst.getD 0)))).cO:=λu=>by
  unfold me
  cases o.dst <;> simp[AS.put,tq,Cl,l5]
 have hlen:∀u:AS,(me (u.bD r.2) W o.dst G).news.length=u.news.length:=λu=>by
  unfold me
  cases o.dst <;> simp[AS.put,zU,Mc,nB]
 refine⟨E,⟨hslots s,hlen s,λid=> ?_⟩,⟨λid e Ar=> ?_,λid dz=> ?_⟩,λt ht=> ?_⟩
 ·by_cases uF:vZ W o.dst G id
  ·have Ar:E.up id=(me (s.bD r.2) W o.dst G).cz id:=if_pos uF
   rw[Ar]
   cases hb:(me (s.bD r.2) W o.dst G).cz id with
   |some e=>rfl
   |none=>
    rcases uF with dz | ⟨jb,q,j,hq,rfl⟩
    ·obtain⟨k,hk⟩:=j4.1 dz
     have jt:k < G.cT.length:=by rw[hl];exact(dR.1 hk).1
     rw[b2 k id _ hk (cQ jt)]at hb
     cases hb
    ·have:=(hfzent s _).2 (b4 q j jb hq)
     simp[this]
  ·have Ar:E.up id=none:=if_neg uF
   rw[Ar,b1 id uF,fN]
 ·by_cases uF:vZ W o.dst G id
  ·rcases uF with dz | ⟨_,q,j,hq,rfl⟩
   ·left
    refine⟨by rw[M4];exact dz,λh=>hp id dz ((hfzent s id).1 h)⟩
   ·exact .inr ⟨q,j,hq,rfl⟩
  ·have:E.up id=none:=if_neg uF
   rw[this]at Ar;cases Ar
 ·obtain⟨v,hv,dz⟩:=H2 id dz
  exact LR v hv id dz
 ·have RC:t.conv en.params vs=s.conv en.params vs:=wR _ _ λv hv id dz=>ht.rs id (LR v hv id dz)
  have xu:∀id∈W,t.cz id=s.cz id:=λid dz=>ht.ws id (by rw[M4];exact dz)
  have F5:∀id∈W,(t.bD r.2).cz id=(s.bD r.2).cz id:=λid dz=>by
   rw[fN,fN,xu id dz]
  have hWt:t.reach 64 (pU en.params vs) []=W:=by
   rw[<-hW]
   refine qz _ _ _ λid dz=> ?_
   rw[xu id (by rw[<-hW];exact dz)]
  have Sa:G.news=[]\/∃q,o.dst=some q/\(t.bD r.2).eh q=true:=hv.imp id λ⟨q,hq,h⟩=>⟨q,hq,by
   rw[pO]at h ⊢
   rw[ht.eh q hq];exact h⟩
  have QP:∀id∈W,(t.bD r.2).cz id≠none:=λid dz=>by rw[F5 id dz];exact hp id dz
  obtain⟨d1,d2,d3,d4⟩:=AX (s:=t.bD r.2) (d:=o.dst) hWn QP hl Sa
  refine⟨me (t.bD r.2) W o.dst G,?_,⟨?_,hlen t,λid=> ?_⟩⟩
  ·rw[Dz t ht]
   unfold AS.call
   rw[RC]
   refine au.2 ⟨r,h1,?_⟩
   rw[hlends,hWt]
   unfold AS.enter
   have hA:(t.bD r.2).qE W=(s.bD r.2).qE W:=Ah F5
   have hO:W.map ((t.bD r.2).lR W)=W.map ((s.bD r.2).lR W):=iB λid dz=>FP F5 dz
   refine aC.2 ⟨?_,ql.2 ⟨x,?_,au.2 ⟨x,Sb,?_⟩⟩⟩
   ·refine dw.2 λid dz=> ?_
    have:=dw.1 tW id dz
    simp only[AS.obj,AS.BC]at this ⊢
    rw[F5 id dz]
    exact this
   ·rw[hA,hO,<-hx]
   ·rw[hA,hO,hG]
    exact Df.2 ⟨⟨hl,Sa⟩,rfl⟩
  ·rw[hslots t,yk F5]
  ·by_cases uF:vZ W o.dst G id
   ·have Ar:E.up id=(me (s.bD r.2) W o.dst G).cz id:=if_pos uF
    rw[Ar]
    rcases uF with dz | ⟨jb,q,j,hq,rfl⟩
    ·obtain⟨k,hk⟩:=j4.1 dz
     have jt:k < G.cT.length:=by rw[hl];exact(dR.1 hk).1
     rw[b2 k id _ hk (cQ jt),d2 k id _ hk (cQ jt),xF F5,Al (F5 id dz)]
    ·rw[b3 q j jb hq,d3 q j jb hq,xF F5]
     cases hn:G.news[j]? with
     |some e=>rfl
     |none=>
      have:=(hfzent t _).2 (d4 q j jb hq)
      simp[this]
   ·have Ar:E.up id=none:=if_neg uF
    rw[Ar,d1 id uF,fN]
end
end Go.Ab
namespace Go.Ab
section
variable {P:Program} {Γ:qd} {bU:List Nat} {ops:Array Oper} {o:Oper} {s t:AS}
theorem Out.bind_assoc{α β γ:Type}(o:Out α)(f:α->Out β)(g:β->Out γ):(o.bind f).bind g=o.bind λa=>(f a).bind g:=by
 induction o with
 |ok a=>rfl
 |fail=>rfl
 |pf c r ih=>simp only[Out.bind,ih]
 |get x h ih=>simp only[Out.bind,ih]
 |br c x y ih1 ih2=>simp only[Out.bind,ih1,ih2]
theorem GH{parts:Array (Nat×Operand)}{x:Nat×Operand}(h:x∈parts.toList):x.2∈(parts.toList.map (·.2)).toArray.toList:=dD.2 ⟨x,h,rfl⟩
theorem JM{T:TypeId}{x:Operand}(dA:o.op= .box T x){s':AS}(he:(FA P s (isObj bU o.dst) (H6 bU o.dst) o.dst T (s.ev x)).eval=some s'):xx P Γ bU ops o s s':=by
 have Dz:∀t,ni P Γ bU o t=FA P t (isObj bU o.dst) (H6 bU o.dst) o.dst T (t.ev x):=λt=>by unfold ni;rw[dA]
 have hm:x∈o.op.operands.toList:=by rw[dA];simp[Op.operands]
 unfold FA at he
 split at he
 ·rename_i q hd
  split at he
  ·rename_i ho
   obtain⟨h1,h2⟩:=aC.1 he
   obtain rfl:=aw.1 h2
   simp only[ak]at h1
   refine si (ids:=[]) hd h1.1 (λ_ h=>by cases h) λt ht hv=> ?_
   rw[Dz,ht.ev hm]
   unfold FA
   simp only[hd]at ho ⊢
   simp only[ho]
   exact aC.2 ⟨by simp[hv,h1.2],aw.2 rfl⟩
  ·rename_i ho
   split at he
   ·rename_i ty R6
    obtain⟨h1,h2⟩:=aC.1 he
    obtain⟨y,h3,h4⟩:=au.1 h2
    obtain rfl:=aw.1 h4
    refine AM (λid dz=>w7 (DL dA rfl) hm (pM _ _ dz)) λt ht=> ?_
    rw[Dz,ht.ev hm]
    unfold FA
    simp only[hd]at ho ⊢
    simp only[ho,R6]
    refine aC.2 ⟨h1,au.2 ⟨y,?_,aw.2 rfl⟩⟩
    rw[mL _ _ λid dz=>ht.Fe (DL dA rfl) hm dz];exact h3
   ·simp only[ao]at he
 ·simp only[ao]at he
theorem Hb{T:TypeId}{x:Operand}(dA:o.op= .sliceToArrayPointer T x){s':AS}(he:(xp P s o.dst T (s.ev x)).eval=some s'):xx P Γ bU ops o s s':=by
 have Dz:∀t,ni P Γ bU o t=xp P t o.dst T (t.ev x):=λt=>by unfold ni;rw[dA]
 have hm:x∈o.op.operands.toList:=by rw[dA];simp[Op.operands]
 unfold xp at he
 split at he
 ·rename_i n e hT
  split at he
  ·rename_i ty R6
   obtain⟨h1,h2⟩:=aC.1 he
   obtain⟨l,h3,h4⟩:=au.1 h2
   obtain⟨h5,h6⟩:=bZ.1 h4
   obtain rfl:=aw.1 h6
   refine AM (λid dz=>w7 (DL dA rfl) hm (pM _ _ dz)) λt ht=> ?_
   rw[Dz,ht.ev hm]
   unfold xp
   simp only[hT,R6]
   refine aC.2 ⟨h1,au.2 ⟨l,?_,bZ.2 ⟨h5,aw.2 rfl⟩⟩⟩
   rw[mL _ _ λid dz=>ht.Fe (DL dA rfl) hm dz];exact h3
  ·simp only[ao]at he
 ·simp only[ao]at he
theorem FC{T:TypeId}{parts:Array (Nat×Operand)}(dA:o.op= .build T parts){s':AS}(he:(uR P s o.dst T parts.toList).eval=some s'):xx P Γ bU ops o s s':=by
 have Dz:∀t,ni P Γ bU o t=uR P t o.dst T parts.toList:=λt=>by unfold ni;rw[dA]
 have hm:∀x∈parts.toList,x.2∈o.op.operands.toList:=λx hx=>by rw[dA];exact GH hx
 unfold uR at he
 split at he
 ·rename_i fs hT
  split at he
  ·rename_i z hz
   obtain⟨h1,h2⟩:=aC.1 he
   obtain⟨v,h3,h4⟩:=au.1 h2
   obtain rfl:=aw.1 h4
   refine kM λt ht=> ?_
   rw[Dz]
   unfold uR
   simp only[hT,hz]
   refine aC.2 ⟨h1,au.2 ⟨v,?_,aw.2 rfl⟩⟩
   rw[uC _ _ λx hx=>ht.ev (hm x hx)];exact h3
  ·simp only[ao]at he
 ·rename_i n e hT
  split at he
  ·rename_i ty R6
   obtain⟨h1,h2⟩:=aC.1 he
   obtain⟨r,h3,h4⟩:=au.1 h2
   obtain rfl:=aw.1 h4
   refine AM (λid dz=> ?_) λt ht=> ?_
   ·obtain⟨x,hx,hi⟩:=qT _ _ _ h3 id dz
    exact w7 (DL dA rfl) (hm x hx) hi
   ·rw[Dz]
    unfold uR
    simp only[hT,R6]
    refine aC.2 ⟨h1,au.2 ⟨r,?_,aw.2 rfl⟩⟩
    rw[sC _ _ λx hx=>⟨ht.ev (hm x hx),λid dz=>ht.Fe (DL dA rfl) (hm x hx) dz⟩];exact h3
  ·simp only[ao]at he
 ·simp only[ao]at he
theorem yT{T:TypeId}{n:Nat}{parts:Array (Nat×Operand)}(dA:o.op= .buildSlice T n parts){s':AS}(he:(ln P s (Kg bU o.dst) (isObj bU o.dst) o.dst T n parts.toList).eval=some s'):xx P Γ bU ops o s s':=by
 have Dz:∀t,ni P Γ bU o t=ln P t (Kg bU o.dst) (isObj bU o.dst) o.dst T n parts.toList:=λt=>by unfold ni;rw[dA]
 have hm:∀x∈parts.toList,x.2∈o.op.operands.toList:=λx hx=>by rw[dA];exact GH hx
 unfold ln at he
 split at he
 ·rename_i e ty b q wc hd
  obtain⟨h1,h2⟩:=aC.1 he
  obtain⟨r,h3,h4⟩:=au.1 h2
  have LO:∀id∈r.2,id∈(hJ Γ ops s o).rs:=λid dz=>by
   obtain⟨x,hx,hi⟩:=qT _ _ _ h3 id dz
   exact w7 (DL dA rfl) (hm x hx) hi
  have RC:∀t,lg (hJ Γ ops s o) s t->∀l,jy ty t parts.toList l=jy ty s parts.toList l:=λt ht l=>sC _ _ λx hx=>⟨ht.ev (hm x hx),λid dz=>ht.Fe (DL dA rfl) (hm x hx) dz⟩
  split at h4
  ·rename_i ho
   obtain⟨h5,h6⟩:=aC.1 h4
   obtain rfl:=aw.1 h6
   refine si hd h5 LO λt ht hv=> ?_
   rw[Dz]
   unfold ln
   simp only[hd]at ho wc ⊢
   simp only[wc,ho]
   refine aC.2 ⟨h1,au.2 ⟨r,by rw[RC t ht];exact h3,aC.2 ⟨hv,aw.2 rfl⟩⟩⟩
  ·rename_i ho
   obtain rfl:=aw.1 h4
   refine AM LO λt ht=> ?_
   rw[Dz]
   unfold ln
   simp only[hd]at ho wc ⊢
   simp only[wc,ho]
   exact aC.2 ⟨h1,au.2 ⟨r,by rw[RC t ht];exact h3,aw.2 rfl⟩⟩
 ·simp only[ao]at he
theorem Au{T:TypeId}{x y:Operand}(dA:o.op= .makeSlice T x y){len cap:Int}(hx:(asInt (s.ev x)).eval=some len)(hy:(asInt (s.ev y)).eval=some cap){s':AS}(he:(og P s o.dst T len cap).eval=some s'):xx P Γ bU ops o s s':=by
 have Dz:∀t,ni P Γ bU o t=(asInt (t.ev x)).bind λl=>(asInt (t.ev y)).bind λc=>og P t o.dst T l c:=λt=>by unfold ni;rw[dA]
 have hm:∀z,z=x\/z=y->z∈o.op.operands.toList:=λz hz=>by rw[dA];simpa[Op.operands]using hz
 unfold og at he
 split at he
 ·rename_i e ty b q wc hd
  obtain⟨h1,h2⟩:=aC.1 he
  obtain⟨h3,h4⟩:=bZ.1 h2
  obtain rfl:=aw.1 h4
  refine si (ids:=[]) hd h1 (λ_ h=>by cases h) λt ht hv=> ?_
  rw[Dz,ht.ev (hm x (.inl rfl)),ht.ev (hm y (.inr rfl))]
  refine au.2 ⟨len,hx,au.2 ⟨cap,hy,?_⟩⟩
  unfold og
  simp only[wc,hd]
  exact aC.2 ⟨hv,bZ.2 ⟨h3,aw.2 rfl⟩⟩
 ·simp only[ao]at he
theorem EJ{id:Id}{ver:Nat}{kt vt:Ty}(h:rG (t.cz id) (s.cz id)):t.oZ id ver kt vt=s.oZ id ver kt vt:=by
 unfold AS.oZ
 rcases yx h with⟨h1,h2⟩ | ⟨v,f,f',c,h1,h2⟩
 ·rw[h1,h2]
 ·rw[h1,h2]
  cases c <;> rfl
theorem CR{T:TypeId}{m k:az}{ok:Bool}(h:∀id∈m.ids,rG (t.cz id) (s.cz id)):tY P t T m k ok=tY P s T m k ok:=by
 unfold tY
 split
 ·rename_i id ver hm
  rw[EJ (h id (by simp[az.ids]))]
 ·rfl
theorem DE{id:Id}{ver:Nat}{kt vt:Ty}{l:List (kt.den×vt.den)}(h:(s.oZ id ver kt vt).eval=some l):∃e,s.cz id=some e:=by
 unfold AS.oZ at h
 split at h
 ·rename_i v fr k' v' l' kG
  exact⟨_,eJ kG⟩
 ·simp only[ao]at h
theorem zX{id:Id}{ver:Nat}{kt vt:Ty}(h:t.cz id=s.cz id):t.oZ id ver kt vt=s.oZ id ver kt vt:=by
 unfold AS.oZ AS.obj
 rw[h]
theorem wH{id:Id}(h:t.cz id=s.cz id):t.pd id=s.pd id:=by
 unfold AS.pd AS.obj
 rw[h]
theorem CU{T:TypeId}{m k v:az}{s':AS}(h:(uc P s T m k v).eval=some s'):
  ∃id e0 e,m.ids=[id]/\s.cz id=some e0/\s'=s.aX id e/\∀t:AS,t.cz id=s.cz id->(uc P t T m k v).eval=some (t.aX id e):=by
 unfold uc at h
 split at h
 ·rename_i K V kt vt id ver hm
  obtain⟨l,h1,h⟩:=au.1 h
  obtain⟨kx,h2,h⟩:=au.1 h
  obtain⟨vx,h3,h⟩:=au.1 h
  obtain⟨hu,h⟩:=aC.1 h
  obtain rfl:=aw.1 h
  obtain⟨e0,Fa⟩:=DE h1
  refine⟨id,e0,_,rfl,Fa,rfl,λt ht=> ?_⟩
  unfold uc
  simp only[hm]
  exact au.2 ⟨l,by rw[zX ht];exact h1,au.2 ⟨kx,h2,au.2 ⟨vx,h3,aC.2 ⟨by rw[wH ht];exact hu,aw.2 rfl⟩⟩⟩⟩
 ·simp only[ao]at h
theorem CT{T:TypeId}{m k:az}{s':AS}(h:(ub P s T m k).eval=some s'):
  ∃id e0 e,m.ids=[id]/\s.cz id=some e0/\s'=s.aX id e/\∀t:AS,t.cz id=s.cz id->(ub P t T m k).eval=some (t.aX id e):=by
 unfold ub at h
 split at h
 ·rename_i K V kt vt id ver hm
  obtain⟨l,h1,h⟩:=au.1 h
  obtain⟨kx,h2,h⟩:=au.1 h
  obtain⟨hu,h⟩:=aC.1 h
  obtain rfl:=aw.1 h
  obtain⟨e0,Fa⟩:=DE h1
  refine⟨id,e0,_,rfl,Fa,rfl,λt ht=> ?_⟩
  unfold ub
  simp only[hm]
  exact au.2 ⟨l,by rw[zX ht];exact h1,au.2 ⟨kx,h2,aC.2 ⟨by rw[wH ht];exact hu,aw.2 rfl⟩⟩⟩
 ·simp only[ao]at h
theorem Dd{s':AS}(he:(ni P Γ bU o s).eval=some s'):xx P Γ bU ops o s s':=by
 have Fa:=he
 have one:∀x,o.op.operands= #[x]->∀t,lg (hJ Γ ops s o) s t->t.ev x=s.ev x/\(DH o.op=false->∀id∈(s.ev x).ids,rG (t.cz id) (s.cz id)):=λx hx t ht=>
  have hm:x∈o.op.operands.toList:=by rw[hx];simp
  ⟨ht.ev hm,λhn _ dz=>ht.Fe hn hm dz⟩
 unfold ni at he
 split at he
 ·rename_i x dA
  obtain rfl:=aw.1 he
  refine kM λt ht=> ?_
  unfold ni
  rw[dA]
  simp only
  rw[(one x (by rw[dA];rfl) t ht).1];rfl
 ·rename_i x dA
  obtain rfl:=aw.1 he
  refine kM λt ht=> ?_
  unfold ni
  rw[dA]
  simp only
  rw[(one x (by rw[dA];rfl) t ht).1];rfl
 ·rename_i c x y dA
  refine ml (F:=λt=>Jq (t.ev c) (t.ev x) (t.ev y)) (λt=>by unfold ni;rw[dA]) (λt ht=> ?_) Fa
  rw[ht.ev (by rw[dA];simp[Op.operands]),ht.ev (by rw[dA];simp[Op.operands]),ht.ev (by rw[dA];simp[Op.operands])]
 ·rename_i T dA
  split at he
  ·rename_i z q hz hq
   obtain⟨h1,h2⟩:=aC.1 he
   obtain rfl:=aw.1 h2
   simp only[ak]at h1
   refine si (ids:=[]) hq h1.1 (λ_ h=>by cases h) λt ht hv=> ?_
   unfold ni
   rw[dA]
   simp only[hz,hq]
   exact aC.2 ⟨by simp[hv,h1.2],aw.2 rfl⟩
  ·exact(ao.1 he).elim
 ·rename_i T x dA
  exact JM dA he
 ·rename_i T parts dA
  exact FC dA he
 ·rename_i T n parts dA
  exact yT dA he
 ·rename_i T x dA
  refine ml (F:=λt=>xU P t T (t.ev x)) (λt=>by unfold ni;rw[dA]) (λt ht=> ?_) Fa
  obtain⟨h1,h2⟩:=one x (by rw[dA];rfl) t ht
  rw[h1,Gj (h2 (DL dA rfl))]
 ·rename_i T x v dA
  obtain⟨s1,h1,h2⟩:=au.1 he
  obtain rfl:=aw.1 h2
  obtain⟨id,e0,e,dz,hs,rfl,hl⟩:=EY h1
  refine tX hs ?_ λt ht Kc=> ?_
  ·show id∈writes Γ s o
   unfold writes
   rw[dA]
   simp only[dz,ck]
  ·unfold ni
   rw[dA]
   simp only
   rw[ht.ev (x:=x) (by rw[dA];simp[Op.operands]),ht.ev (x:=v) (by rw[dA];simp[Op.operands])]
   exact au.2 ⟨_,hl t Kc,aw.2 rfl⟩
 ·rename_i x dA
  split at he
  ·rename_i id v p n hx
   obtain rfl:=aw.1 he
   refine kM λt ht=> ?_
   unfold ni
   rw[dA]
   simp only[(one x (by rw[dA];rfl) t ht).1,hx];rfl
  ·rename_i ty y hx
   obtain rfl:=aw.1 he
   refine kM λt ht=> ?_
   unfold ni
   rw[dA]
   simp only[(one x (by rw[dA];rfl) t ht).1,hx];rfl
  ·rename_i ty y hx
   obtain⟨z,e,he⟩:=ql.1 he
   obtain rfl:=aw.1 he
   refine kM λt ht=> ?_
   unfold ni
   rw[dA]
   simp only[(one x (by rw[dA];rfl) t ht).1,hx]
   exact ql.2 ⟨z,e,aw.2 rfl⟩
  ·rename_i f c hx
   obtain rfl:=aw.1 he
   refine kM λt ht=> ?_
   unfold ni
   rw[dA]
   simp only[(one x (by rw[dA];rfl) t ht).1,hx];rfl
  ·exact(ao.1 he).elim
 ·rename_i op T x y U dA
  have LM:x∈o.op.operands.toList:=by rw[dA];simp[Op.operands]
  have QN:y∈o.op.operands.toList:=by rw[dA];simp[Op.operands]
  split at he
  ·rename_i i v1 j v2 hx hy
   obtain⟨v,h1,h2⟩:=au.1 he
   obtain rfl:=aw.1 h2
   refine kM λt ht=> ?_
   unfold ni
   rw[dA]
   simp only[ht.ev LM,ht.ev QN,hx,hy]
   exact au.2 ⟨v,by rw[JV (ht.Fe (DL dA rfl) LM (by rw[hx];simp[az.ids]))];exact h1,rfl⟩
  ·rename_i jb
   obtain⟨v,h1,h2⟩:=au.1 he
   obtain rfl:=aw.1 h2
   refine kM λt ht=> ?_
   unfold ni
   rw[dA]
   simp only[ht.ev LM,ht.ev QN]
   exact au.2 ⟨v,h1,rfl⟩
 ·rename_i op T x dA
  refine ml (F:=λt=>S5 op (t.ev x)) (λt=>by unfold ni;rw[dA]) (λt ht=> ?_) Fa
  rw[(one x (by rw[dA];rfl) t ht).1]
 ·rename_i T U x dA
  split at he
  ·rename_i id ver len hTU hx
   unfold FK at he
   split at he
   ·rename_i v e0 l e kG hD
    split at he
    ·rename_i hE
     obtain⟨h1,h2⟩:=aC.1 he
     obtain⟨h3,h4⟩:=bZ.1 h2
     obtain rfl:=aw.1 h4
     refine tX (eJ kG) ?_ λt ht Kc=> ?_
     ·show id∈writes Γ s o
      unfold writes
      rw[dA]
      simp only[hTU,hx]
      simp[az.ids]
     ·have hob':t.obj id=some (v,false,.vec e0 (.int .u8) l):=by simp only[AS.obj,Kc];exact kG
      unfold ni
      rw[dA]
      simp only[hTU,(one x (by rw[dA];rfl) t ht).1,hx]
      unfold FK
      simp only[hob',hD,hE]
      exact aC.2 ⟨h1,bZ.2 ⟨h3,aw.2 rfl⟩⟩
    ·exact(ao.1 he).elim
   ·exact(ao.1 he).elim
  ·rename_i id ver hx
   obtain⟨v,h1,h2⟩:=au.1 he
   obtain rfl:=aw.1 h2
   refine kM λt ht=> ?_
   obtain⟨h3,h4⟩:=one x (by rw[dA];rfl) t ht
   unfold ni
   rw[dA]
   simp only[h3,hx]
   exact au.2 ⟨v,by rw[FL (h4 (DL dA rfl) _ (by rw[hx];simp[az.ids]))];exact h1,rfl⟩
  ·rename_i jb
   obtain⟨v,h1,h2⟩:=au.1 he
   obtain rfl:=aw.1 h2
   refine kM λt ht=> ?_
   obtain⟨h3,h4⟩:=one x (by rw[dA];rfl) t ht
   unfold ni
   rw[dA]
   simp only[h3]
   exact au.2 ⟨v,by rw[FJ (h4 (DL dA rfl))];exact h1,rfl⟩
 ·rename_i T x dA
  exact Hb dA he
 ·rename_i f first caps dA
  obtain⟨h1,h2⟩:=aC.1 he
  obtain rfl:=aw.1 h2
  refine kM λt ht=> ?_
  have hc:nR t caps.toList=nR s caps.toList:=xD _ λx hx=>ht.ev (by rw[dA];simp only[Op.operands,cn];exact bP.2 (.inr hx))
  unfold ni
  rw[dA]
  simp only[hc]
  exact aC.2 ⟨h1,aw.2 rfl⟩
 ·rename_i T l c dA
  obtain⟨n,h1,h2⟩:=au.1 he
  obtain⟨m,h3,h4⟩:=au.1 h2
  exact Au dA h1 h3 h4
 ·rename_i T x lo hi dA
  refine ml (F:=λt=>vz P t T (t.ev x) lo hi) (λt=>by unfold ni;rw[dA]) (λt ht=> ?_) Fa
  have hm:∀z,(z=x\/lo=some z\/hi=some z)->z∈o.op.operands.toList:=λz hz=>by
   rw[dA]
   simp only[Op.operands,cn,bP]
   rcases hz with rfl | rfl | rfl
   ·left;left;left;simp
   ·left;left;right;simp
   ·left;right;simp
  have hx:=hm x (.inl rfl)
  rw[ht.ev hx]
  exact yA (λid dz=>ht.Fe (DL dA rfl) hx dz) (λy hy=>ht.ev (hm y (.inr (.inl hy)))) (λy hy=>ht.ev (hm y (.inr (.inr hy))))
 ·rename_i T x lo y m dA
  refine ml (F:=λt=>yz P t T (t.ev x) lo y m) (λt=>by unfold ni;rw[dA]) (λt ht=> ?_) Fa
  have hm:∀z,(z=x\/lo=some z\/y=z\/m=z)->z∈o.op.operands.toList:=λz hz=>by
   rw[dA]
   simp only[Op.operands,cn,bP]
   rcases hz with rfl | rfl | rfl | rfl
   ·left;left;left;simp
   ·left;left;right;simp
   ·left;right;simp
   ·right;simp
  have hx:=hm x (.inl rfl)
  rw[ht.ev hx]
  exact C3 (λid dz=>ht.Fe (DL dA rfl) hx dz) (λz hz=>ht.ev (hm z (.inr (.inl hz)))) (ht.ev (hm y (.inr (.inr (.inl rfl))))) (ht.ev (hm m (.inr (.inr (.inr rfl)))))
 ·rename_i T x f dA
  refine ml (F:=λt=>tV P T (t.ev x) f) (λt=>by unfold ni;rw[dA]) (λt ht=> ?_) Fa
  rw[(one x (by rw[dA];rfl) t ht).1]
 ·rename_i T x f dA
  refine ml (F:=λt=>Er P T (t.ev x) f) (λt=>by unfold ni;rw[dA]) (λt ht=> ?_) Fa
  rw[(one x (by rw[dA];rfl) t ht).1]
 ·rename_i T x i dA
  refine ml (F:=λt=>(asInt (t.ev i)).bind λi=>nZ P t T (t.ev x) i) (λt=>by unfold ni;rw[dA,Out.bind_assoc]) (λt ht=> ?_) Fa
  have hx:x∈o.op.operands.toList:=by rw[dA];simp[Op.operands]
  rw[ht.ev (x:=i) (by rw[dA];simp[Op.operands]),ht.ev hx]
  congr 1
  funext i
  exact zb λid dz=>ht.Fe (DL dA rfl) hx dz
 ·rename_i T x i dA
  refine ml (F:=λt=>(asInt (t.ev i)).bind λi=>EC P T (t.ev x) i) (λt=>by unfold ni;rw[dA,Out.bind_assoc]) (λt ht=> ?_) Fa
  rw[ht.ev (x:=i) (by rw[dA];simp[Op.operands]),ht.ev (x:=x) (by rw[dA];simp[Op.operands])]
 ·rename_i x i dA
  refine ml (F:=λt=>Out.opt ((t.ev x).list[i]?)) (λt=>by unfold ni;rw[dA]) (λt ht=> ?_) Fa
  rw[(one x (by rw[dA];rfl) t ht).1]
 ·rename_i T dA
  have xL:=he
  unfold vd at xL
  split at xL
  ·rename_i K V kt vt q hm hd
   obtain⟨h1,h2⟩:=aC.1 xL
   obtain rfl:=aw.1 h2
   refine si (ids:=[]) hd h1 (λ_ h=>by cases h) λt ht hv=> ?_
   unfold ni
   rw[dA]
   simp only
   unfold vd
   simp only[hm,hd]
   exact aC.2 ⟨hv,aw.2 rfl⟩
  ·exact(ao.1 xL).elim
 ·rename_i T x i ok dA
  refine ml (F:=λt=>tY P t T (t.ev x) (t.ev i) ok) (λt=>by unfold ni;rw[dA]) (λt ht=> ?_) Fa
  have hx:x∈o.op.operands.toList:=by rw[dA];simp[Op.operands]
  rw[ht.ev (x:=i) (by rw[dA];simp[Op.operands]),ht.ev hx]
  exact CR λid dz=>ht.Fe (DL dA rfl) hx dz
 ·rename_i T m k x dA
  obtain⟨s1,h1,h2⟩:=au.1 he
  obtain rfl:=aw.1 h2
  obtain⟨id,e0,e,dz,hs,rfl,hl⟩:=CU h1
  refine tX hs ?_ λt ht Kc=> ?_
  ·show id∈writes Γ s o
   unfold writes
   rw[dA]
   simp only[dz,ck]
  ·unfold ni
   rw[dA]
   simp only
   rw[ht.ev (x:=m) (by rw[dA];simp[Op.operands]),ht.ev (x:=k) (by rw[dA];simp[Op.operands]),ht.ev (x:=x) (by rw[dA];simp[Op.operands])]
   exact au.2 ⟨_,hl t Kc,aw.2 rfl⟩
 ·rename_i c dA
  obtain⟨cal,args,tys⟩:=c
  simp only at he
  split at he
  ·split at he
   ·rename_i m k T T2 ha ht'
    have SQ:m∈o.op.operands.toList:=by rw[dA];simp only[Op.operands,Call.operands,aS,cn,ha];simp
    have RU:k∈o.op.operands.toList:=by rw[dA];simp only[Op.operands,Call.operands,aS,cn,ha];simp
    obtain⟨s1,h1,h2⟩:=au.1 he
    obtain rfl:=aw.1 h2
    obtain⟨id,e0,e,dz,hs,rfl,hl⟩:=CT h1
    refine tX hs ?_ λt ht Kc=> ?_
    ·show id∈writes Γ s o
     unfold writes
     rw[dA]
     simp only[ha,dz,ck]
    ·unfold ni
     rw[dA]
     simp only[ha,ht']
     rw[ht.ev SQ,ht.ev RU]
     exact au.2 ⟨_,hl t Kc,aw.2 rfl⟩
   ·exact(ao.1 he).elim
  ·split at he
   ·rename_i x y T X ha ht'
    exact HI dA rfl ha ht' he
   ·exact(ao.1 he).elim
  ·split at he
   ·rename_i x T ha ht'
    refine ml (F:=λt=>NN P T (t.ev x)) (λt=>by unfold ni;rw[dA];simp only[ha,ht']) (λt ht=> ?_) Fa
    rw[ht.ev (by rw[dA];simp only[Op.operands,Call.operands,aS,cn,ha];simp)]
   ·exact(ao.1 he).elim
  ·split at he
   ·rename_i x y T X ha ht'
    have LM:x∈o.op.operands.toList:=by rw[dA];simp only[Op.operands,Call.operands,aS,cn,ha];simp
    have QN:y∈o.op.operands.toList:=by rw[dA];simp only[Op.operands,Call.operands,aS,cn,ha];simp
    split at he
    ·rename_i k n hx hy
     have xL:=he
     unfold F1 at xL
     split at xL
     ·rename_i e t0 b q kn wc hd hX
      obtain⟨h1,h2⟩:=aC.1 xL
      obtain⟨h3,h4⟩:=bZ.1 h2
      obtain rfl:=aw.1 h4
      refine si (ids:=[]) hd h1 (λ_ h=>by cases h) λt ht hv=> ?_
      unfold ni
      rw[dA]
      simp only[ha,ht',ht.ev LM,ht.ev QN,hx,hy]
      unfold F1
      simp only[wc,hd,hX]
      exact aC.2 ⟨hv,bZ.2 ⟨h3,aw.2 rfl⟩⟩
     ·exact(ao.1 xL).elim
    ·rename_i jb
     exact Ef dA rfl ha ht' jb he
   ·exact(ao.1 he).elim
  ·split at he
   ·rename_i x T ha ht'
    have LM:x∈o.op.operands.toList:=by rw[dA];simp only[Op.operands,Call.operands,aS,cn,ha];simp
    split at he
    ·rename_i e hx hT
     obtain rfl:=aw.1 he
     refine kM λt ht=> ?_
     unfold ni
     rw[dA]
     simp only[ha,ht',ht.ev LM,hx,hT];rfl
    ·exact(ao.1 he).elim
   ·exact(ao.1 he).elim
  ·refine ml (F:=λt=>Km true (args.toList.map t.ev)) (λt=>by unfold ni;rw[dA]) (λt ht=> ?_) Fa
   congr 1
   exact iB λx hx=>ht.ev (by rw[dA];simp only[Op.operands,Call.operands,aS,cn];exact hx)
  ·refine ml (F:=λt=>Km false (args.toList.map t.ev)) (λt=>by unfold ni;rw[dA]) (λt ht=> ?_) Fa
   congr 1
   exact iB λx hx=>ht.ev (by rw[dA];simp only[Op.operands,Call.operands,aS,cn];exact hx)
  ·split at he
   ·rename_i x ha
    have LM:x∈o.op.operands.toList:=by rw[dA];simp only[Op.operands,Call.operands,aS,cn,ha];simp
    split at he
    ·rename_i id ver len hx
     obtain⟨h1,h2⟩:=bZ.1 he
     obtain rfl:=aw.1 h2
     refine kM λt ht=> ?_
     unfold ni
     rw[dA]
     simp only[ha,ht.ev LM,hx]
     exact bZ.2 ⟨h1,rfl⟩
    ·exact(ao.1 he).elim
   ·exact(ao.1 he).elim
  ·split at he
   ·rename_i x y T U ha ht'
    have LM:x∈o.op.operands.toList:=by rw[dA];simp only[Op.operands,Call.operands,aS,cn,ha];simp
    have QN:y∈o.op.operands.toList:=by rw[dA];simp only[Op.operands,Call.operands,aS,cn,ha];simp
    split at he
    ·rename_i id ver n hx hy
     have xL:=he
     unfold G9 at xL
     split at xL
     ·rename_i v e l u kG hT
      obtain⟨h1,h2⟩:=aC.1 xL
      obtain⟨h3,h4⟩:=bZ.1 h2
      obtain rfl:=aw.1 h4
      refine tX (eJ kG) ?_ λt ht Kc=> ?_
      ·show id∈writes Γ s o
       unfold writes
       rw[dA]
       simp only[ha,hx]
       simp[az.ids]
      ·have hob':t.obj id=some (v,false,.vec e (.int .u8) l):=by simp only[AS.obj,Kc];exact kG
       unfold ni
       rw[dA]
       simp only[ha,ht',ht.ev LM,ht.ev QN,hx,hy]
       unfold G9
       simp only[hob',hT]
       exact aC.2 ⟨h1,bZ.2 ⟨h3,aw.2 rfl⟩⟩
     ·exact(ao.1 xL).elim
    ·exact(ao.1 he).elim
   ·exact(ao.1 he).elim
  ·rename_i F _
   split at he
   ·rename_i f caps hF
    split at he
    ·rename_i en KY
     obtain⟨jt,he⟩:=aC.1 he
     exact HC dA rfl hF KY jt he
    ·exact(ao.1 he).elim
   ·exact(ao.1 he).elim
  ·exact(ao.1 he).elim
 ·exact(ao.1 he).elim
end
end Go.Ab
namespace Go.Ab
section
variable {P:Program} {Γ:qd} {bU:List Nat} {ops:Array Oper} {o:Oper} {s t:AS}
def Loc(P:Program)(Γ:qd)(bU:List Nat)(ops:Array Oper)(o:Oper)(s s':AS):Prop:=
 ∃E,App o.dst E s s'/\Ea (hJ Γ ops s o) s E/\∀t,lg (hJ Γ ops s o) s t->∃t',wb P Γ bU ops o t=some t'/\App o.dst E t t'
theorem Bk{s':AS}(he:wb P Γ bU ops o s=some s'):Loc P Γ bU ops o s s':=by
 unfold wb at he
 split at he
 ·rename_i hg
  obtain⟨E,h1,h2,h3⟩:=Dd (ops:=ops) he
  refine⟨E,h1,h2,λt ht=> ?_⟩
  obtain⟨t',h4,h5⟩:=h3 t ht
  exact⟨t',by unfold wb;simp only[hg];exact h4,h5⟩
 ·rename_i j want hg
  split at he
  ·rename_i q hq
   split at he
   ·rename_i b hb
    have Jd:∀t,lg (hJ Γ ops s o) s t->t.slot q= .d .bool b:=λt ht=>by
     rw[ht.cO q (bP.2 (.inr (by unfold y6;simp only[hg,hq];simp)))];exact hb
    by_cases e:b=want
    ·rw[if_pos e]at he
     obtain⟨E,h1,h2,h3⟩:=Dd (ops:=ops) he
     refine⟨E,h1,h2,λt ht=> ?_⟩
     obtain⟨t',h4,h5⟩:=h3 t ht
     exact⟨t',by unfold wb;simp only[hg,hq,Jd t ht,if_pos e];exact h4,h5⟩
    ·rw[if_neg e]at he
     simp only[ax]at he
     subst he
     exact⟨⟨.nil,λ_=>none,[]⟩,App.vQ _ _ _,⟨λ_ _ h=>by simp at h,λ_ h=>by simp at h⟩,λt ht=>⟨_,by unfold wb;simp only[hg,hq,Jd t ht,if_neg e],App.vQ _ _ _⟩⟩
   ·rename_i hb
    have Jd:∀t,lg (hJ Γ ops s o) s t->t.slot q= .nil:=λt ht=>by
     rw[ht.cO q (bP.2 (.inr (by unfold y6;simp only[hg,hq];simp)))];exact hb
    simp only[ax]at he
    subst he
    exact⟨⟨.nil,λ_=>none,[]⟩,App.vQ _ _ _,⟨λ_ _ h=>by simp at h,λ_ h=>by simp at h⟩,λt ht=>⟨_,by unfold wb;simp only[hg,hq,Jd t ht],App.vQ _ _ _⟩⟩
   ·cases he
  ·cases he
theorem E7(h:lg (hJ Γ ops s o) s t):writes Γ t o=writes Γ s o:=by
 have M4:∀id∈writes Γ s o,t.cz id=s.cz id:=h.ws
 unfold writes at M4 ⊢
 split
 ·rename_i x v dA
  rw[h.ev (by rw[dA];simp[Op.operands])]
 ·rename_i m k v dA
  rw[h.ev (by rw[dA];simp[Op.operands])]
 ·rename_i T U x dA
  rw[h.ev (by rw[dA];simp[Op.operands])]
 ·rename_i c dA
  obtain⟨cal,args,tys⟩:=c
  simp only[dA]at M4
  simp only
  split
  ·split
   ·rename_i x l ha
    rw[h.ev (by rw[dA];simp only[Op.operands,Call.operands,aS,cn,ha];simp)]
   ·rfl
  ·split
   ·rename_i x l ha
    rw[h.ev (by rw[dA];simp only[Op.operands,Call.operands,aS,cn,ha];simp)]
   ·rfl
  ·split
   ·rename_i x l ha
    rw[h.ev (by rw[dA];simp only[Op.operands,Call.operands,aS,cn,ha];simp)]
   ·rfl
  ·split
   ·rename_i x l ha
    rw[h.ev (by rw[dA];simp only[Op.operands,Call.operands,aS,cn,ha];simp)]
   ·rfl
  ·rename_i F
   simp only at M4
   have hm:∀z,z=F\/z∈args.toList->z∈o.op.operands.toList:=λz hz=>by
    rw[dA]
    simp only[Op.operands,Call.operands,cn,bP]
    rcases hz with rfl | hz
    ·exact .inl (by simp)
    ·exact .inr hz
   have h1:t.ev F=s.ev F:=h.ev (hm F (.inl rfl))
   have h2:args.toList.map t.ev=args.toList.map s.ev:=iB λx hx=>h.ev (hm x (.inr hx))
   rw[h1]
   split
   ·rename_i f caps hF
    simp only[hF]at M4
    rw[h2]
    split
    ·rename_i en KY
     simp only[KY]at M4
     exact qz _ _ _ λid dz=>by rw[M4 id dz]
    ·rfl
   ·rfl
  ·rfl
 ·rfl
theorem Be(h:lg (hJ Γ ops s o) s t):hJ Γ ops t o=hJ Γ ops s o:=by
 have h1:=E7 h
 have h2:GF t o=GF s o:=by
  unfold GF
  split
  ·rfl
  unfold List.flatMap
  congr 1
  exact iB λi hi=>by rw[h.cO i (bP.2 (.inl hi))]
 unfold hJ
 rw[h1,h2]
theorem qq{xs ys:List Id}(h:meets xs ys=false){id:Id}(hx:id∈xs):id ∉ ys:=by
 intro hy
 have:meets xs ys=true:=by
  unfold meets
  exact List.any_eq_true.2 ⟨id,hx,List.any_eq_true.2 ⟨id,hy,by simp⟩⟩
 rw[h]at this;cases this
theorem pb{d:Option Tmp}{ids:List Id}(h:Ci d ids=false){q:Nat}(hd:d=some q)(j:Nat):Id.new q j ∉ ids:=by
 intro hy
 have:Ci d ids=true:=by
  subst hd
  exact List.any_eq_true.2 ⟨_,hy,by simp⟩
 rw[h]at this;cases this
theorem vP{f g:uJ}(h:f.RN g=false){q:Nat}(hd:f.dst=some q):q ∉ g.cO/\g.dst≠some q:=by
 unfold uJ.RN at h
 rw[hd]at h
 simp only[Bool.or_eq_false_iff,jl,decide_eq_true_eq,decide_eq_false_iff_not]at h
 exact⟨λhx=>h.1 q hx rfl,h.2⟩
theorem GZ(s:AS)(d:Option Tmp)(v:az)(i:Nat)(h:d≠some i):(s.put d v).slot i=s.slot i:=by
 cases d with
 |none=>rfl
 |some q=>rw[Ck,if_neg];rintro⟨rfl,_⟩;exact h rfl
theorem App.slot{d:Option Tmp}{E:QA}{s s':AS}(h:App d E s s')(i:Nat)(hi:d≠some i):s'.slot i=s.slot i:=by
 rw[<-GZ s d E.v i hi]
 simp only[AS.slot,h.cO]
theorem Fm{f f':uJ}{E:QA}{s s1:AS}(ha:App f.dst E s s1)(hw:Ea f s E)(Ub:∀id∈f'.ws,id∈f'.rs)(h1:f.RN f'=false)(h2:meets f.ws f'.rs=false)(h3:meets f'.ws f.rs=false)
  (h4:Ci f.dst f'.rs=false):(∀i∈f'.cO,s1.slot i=s.slot i)/\(∀id∈f'.ws,s1.cz id=s.cz id)/\(∀id∈f'.rs,rG (s1.cz id) (s.cz id))/\∀q,f'.dst=some q->s1.eh q=s.eh q:=by
 have Ar:∀id∈f'.rs,E.up id=none:=λid dz=>by
  cases hu:E.up id with
  |none=>rfl
  |some e=>
   rcases hw.up id e hu with⟨h,_⟩ | ⟨q,j,hd,rfl⟩
   ·exact absurd dz (qq h2 h)
   ·exact absurd dz (pb h4 hd j)
 refine⟨λi hi=>ha.slot i λhd=>(vP h1 hd).1 hi,λid dz=> ?_,λid dz=> ?_,λq hq=> ?_⟩
 ·rw[ha.cz,Ar id (Ub id dz)]
  have:id ∉ E.fz:=λhz=>qq h3 dz (hw.fz id hz)
  simp only[if_neg this]
 ·rw[ha.cz,Ar id dz]
  simp only
  split
  ·exact KJ _
  ·exact KK _
 ·have jb:∀j,(s1.cz (.new q j)=none↔s.cz (.new q j)=none):=λj=>by
   rw[ha.cz]
   cases hu:E.up (.new q j) with
   |none=>
    simp only
    split <;> simp
   |some e=>
    rcases hw.up _ e hu with⟨_,h⟩ | ⟨q',j',hd,he⟩
    ·simp[h]
    ·simp only[Id.new.injEq]at he
     obtain⟨rfl,_⟩:=he
     exact absurd hq (vP h1 hd).2
  rw[Bool.eq_iff_iff,sH,sH,ha.len]
  exact and_congr Iff.rfl (forall_congr' jb)
theorem uY(s:AS)(o:Oper):∀id∈(hJ Γ ops s o).ws,id∈(hJ Γ ops s o).rs:=λ_ dz=>bP.2 (.inr dz)
theorem swap{o':Oper}{s1 s2:AS}(h1:wb P Γ bU ops o s=some s1)(h2:wb P Γ bU ops o' s1=some s2)(hi:(hJ Γ ops s o).indep (hJ Γ ops s1 o')=true):
  ∃t1,wb P Γ bU ops o' s=some t1/\wb P Γ bU ops o t1=some s2/\hJ Γ ops s o'=hJ Γ ops s1 o'/\hJ Γ ops t1 o=hJ Γ ops s o:=by
 unfold uJ.indep at hi
 simp only[ak,bX]at hi
 obtain⟨⟨⟨⟨⟨i1,i2⟩,i3⟩,i4⟩,i5⟩,i6⟩:=hi
 obtain⟨E,a1,w1,l1⟩:=Bk h1
 obtain⟨E',a2,w2,l2⟩:=Bk h2
 obtain⟨g1,g2,g3,g4⟩:=Fm (f:=hJ Γ ops s o) (f':=hJ Γ ops s1 o') a1 w1 (uY _ _) i1 i3 i4 i5
 have xu:lg (hJ Γ ops s1 o') s1 s:=⟨λi hi=>(g1 i hi).symm,λid dz=>(g2 id dz).symm,λid dz=>by
  have:=g3 id dz
  revert this
  cases s1.cz id <;> cases s.cz id <;> simp only[rG] <;> intro h <;> first | trivial | exact h | skip
  rename_i a b
  cases a <;> cases b <;> simp_all [ea.Fe],λq hq=>(g4 q hq).symm⟩
 obtain⟨t1,k1,k2⟩:=l2 s xu
 have hf':=Be xu
 have w2':Ea (hJ Γ ops s1 o') s E':=⟨λid e hu=>by
  rcases w2.up id e hu with⟨h,hn⟩ | h
  ·exact .inl ⟨h,by rw[<-g2 id h];exact hn⟩
  ·exact .inr h,w2.fz⟩
 obtain⟨m1,m2,m3,m4⟩:=Fm (f:=hJ Γ ops s1 o') (f':=hJ Γ ops s o) k2 w2' (uY _ _) i2 i4 i3 i6
 have Rr:lg (hJ Γ ops s o) s t1:=⟨m1,m2,m3,m4⟩
 obtain⟨t2,k3,k4⟩:=l1 t1 Rr
 refine⟨t1,k1,?_,hf',Be Rr⟩
 rw[k3]
 congr 1
 have R7:∀id e,E.up id=some e->E'.up id=none/\id ∉ E'.fz:=λid e hu=>by
  rcases w1.up id e hu with⟨h,hn⟩ | ⟨q,j,hd,rfl⟩
  ·refine⟨?_,λhz=>qq i3 h (w2.fz id hz)⟩
   cases hu':E'.up id with
   |none=>rfl
   |some e'=>
    rcases w2.up id e' hu' with⟨h',_⟩ | ⟨q,j,hd,rfl⟩
    ·exact absurd (uY _ _ id h') (qq i3 h)
    ·exact absurd (uY _ _ _ h) (pb i6 hd j)
  ·refine⟨?_,λhz=>pb i5 hd j (w2.fz _ hz)⟩
   cases hu':E'.up (.new q j) with
   |none=>rfl
   |some e'=>
    rcases w2.up _ e' hu' with⟨h',_⟩ | ⟨q',j',hd',he⟩
    ·exact absurd (uY _ _ _ h') (pb i5 hd j)
    ·simp only[Id.new.injEq]at he
     obtain⟨rfl,_⟩:=he
     exact absurd hd' (vP i1 hd).2
 have Ug:∀id e,E'.up id=some e->E.up id=none/\id ∉ E.fz:=λid e hu=>by
  have hn:E.up id=none:=by
   cases V7:E.up id with
   |none=>rfl
   |some e1=>rw[(R7 id e1 V7).1]at hu;cases hu
  refine⟨hn,λhz=> ?_⟩
  rcases w2.up id e hu with⟨h,_⟩ | ⟨q,j,hd,rfl⟩
  ·exact qq i4 h (w1.fz id hz)
  ·exact pb i6 hd j (w1.fz _ hz)
 refine AS.LF ?_ (by rw[k4.len,k2.len,a2.len,a1.len]) λid=> ?_
 ·have e1:∀(u u':AS) (d:Option Tmp) (v:az),u.cO=u'.cO->(u.put d v).cO=(u'.put d v).cO:=λu u' d v h=>by cases d <;> simp[AS.put,h]
  rw[k4.cO,a2.cO,e1 t1 (s.put o'.dst E'.v) _ _ k2.cO,e1 s1 (s.put o.dst E.v) _ _ a1.cO]
  cases hd:o.dst with
  |none=>cases o'.dst <;> rfl
  |some q=>
   cases hd':o'.dst with
   |none=>rfl
   |some q'=>
    have jb:q'≠q:=λe=>(vP (f:=hJ Γ ops s o) i1 hd).2 (by show o'.dst=some q;rw[hd',e])
    simp only[AS.put]
    exact List.set_comm _ _ jb
 ·rw[k4.cz,k2.cz,a2.cz,a1.cz]
  cases hu:E.up id with
  |some e=>
   obtain⟨h3,h4⟩:=R7 id e hu
   simp only[h3,if_neg h4]
  |none=>
   simp only
   cases hu':E'.up id with
   |some e=>
    obtain⟨_,h4⟩:=Ug id e hu'
    simp only[if_neg h4]
   |none=>
    simp only
    by_cases z1:id∈E.fz <;> by_cases z2:id∈E'.fz <;> simp only[if_pos,if_neg,z1,z2,not_false_eq_true]
end
end Go.Ab
namespace Go.Ab
section
variable {P:Program} {Γ:qd} {bU:List Nat} {ops:Array Oper}
def Fj(P:Program)(Γ:qd)(bU:List Nat)(ops:Array Oper)(fs:Nat->uJ):List Nat->AS->AS->Prop
 |[],s,sn=>s=sn
 |i::l,s,sn=>∃o,ops[i]? =some o/\hJ Γ ops s o=fs i/\∃s',wb P Γ bU ops o s=some s'/\Fj P Γ bU ops fs l s' sn
theorem Fj.Lm{fs:Nat->uJ}{i:Nat}{l2:List Nat}{sn:AS}:∀(l1:List Nat) {s:AS},Fj P Γ bU ops fs (l1++i::l2) s sn->(∀j∈l1,(fs j).indep (fs i)=true)->Fj P Γ bU ops fs (i::(l1++l2)) s sn
 |[],_,h,_=>h
 |j::l1,s,h,hi=>by
  obtain⟨oj,h1,h2,s1,h3,h4⟩:=h
  obtain⟨oi,h5,h6,s2,h7,h8⟩:=Fj.Lm l1 h4 λj hj=>hi j (aL _ hj)
  have hd:=hi j (aN ..)
  rw[<-h2,<-h6]at hd
  obtain⟨t1,k1,k2,k3,k4⟩:=swap h3 h7 hd
  exact⟨oi,h5,by rw[k3,h6],t1,k1,oj,h1,by rw[k4,h2],s2,k2,h8⟩
theorem Dw{R:Type}{anc:List Nat}{k:AS->Option R}{r:R}:∀(l:List Oper) (i:Nat) (acc:List (Nat×uJ)) (s:AS) (f0:Nat->uJ),(∀n o,l[n]? =some o->ops[i+n]? =some o)->(∀x∈acc,f0 x.1=x.2/\x.1 < i)->
  Dv P Γ bU ops anc i l acc s k=some r->∃fs sn,(∀j,j < i->fs j=f0 j)/\Fj P Γ bU ops fs (List.range' i l.length) s sn/\k sn=some r/\
   (∀x∈acc,∀m,i<=m->m < i+l.length->(anc.getD m 0).testBit x.1=true\/x.2.indep (fs m)=true)/\(∀m1 m2,i<=m1->m1 < m2->m2 < i+l.length->(anc.getD m2 0).testBit m1=true\/(fs m1).indep (fs m2)=true)
 |[],i,acc,s,f0,_,_,h=>⟨f0,s,λ_ _=>rfl,rfl,h,λ_ _ m h1 h2=>by simp at h2;omega,λ_ _ h1 h2 h3=>by simp at h3;omega⟩
 |o::l,i,acc,s,f0,ho,hf,h=>by
  unfold Dv at h
  split at h
  ·rename_i tW
   simp only[AS.yt]at h
   obtain⟨s',h1,h2⟩:=F0 (k:=λs'=>Dv P Γ bU ops anc (i+1) l ((i,hJ Γ ops s o)::acc) s' k) h
   have Tt:∀x∈(i,hJ Γ ops s o)::acc,(if x.1=i then hJ Γ ops s o else f0 x.1)=x.2/\x.1 < i+1:=λx hx=>by
    rcases dd.1 hx with rfl | hx
    ·simp
    ·obtain⟨q1,q2⟩:=hf x hx
     rw[if_neg (by omega)]
     exact⟨q1,by omega⟩
   obtain⟨fs,sn,g1,g2,g3,g4,g5⟩:=Dw l (i+1) ((i,hJ Γ ops s o)::acc) s' (λn=>if n=i then hJ Γ ops s o else f0 n)
    (λn o' hn=>by have:=ho (n+1) o' (by simpa using hn);rw[<-this];congr 1;omega) Tt h2
   have gi:fs i=hJ Γ ops s o:=by rw[g1 i (by omega),if_pos rfl]
   refine⟨fs,sn,λj hj=>by rw[g1 j (by omega),if_neg (by omega)],?_,g3,λx hx m h3 h4=> ?_,λm1 m2 h3 h4 h5=> ?_⟩
   ·rw[aD,List.range'_succ]
    exact⟨o,ho 0 o rfl,gi.symm,s',h1,g2⟩
   ·rcases Nat.eq_or_lt_of_le h3 with rfl | h3
    ·have:=dw.1 tW x hx
     simp only[gP]at this
     rcases this with h | h
     ·exact .inl h
     ·right;rw[gi];exact h
    ·exact g4 x (aL _ hx) m (by omega) (by simp only[aD]at h4;omega)
   ·rcases Nat.eq_or_lt_of_le h3 with rfl | h3
    ·rw[gi]
     exact g4 (i,hJ Γ ops s o) (aN ..) m2 (by omega) (by simp only[aD]at h5;omega)
    ·exact g5 m1 m2 (by omega) h4 (by simp only[aD]at h5;omega)
  ·cases h
theorem Ft{acc:List Nat}{j:Nat}:∀ {l:List Edge},(l.foldr (λe m=>Nat.lor (Nat.lor (Nat.pow 2 e.on) (acc.getD e.on 0)) m) 0).testBit j=true->∃e∈l,j=e.on\/(acc.getD e.on 0).testBit j=true
 |[],h=>by simp at h
 |e::l,h=>by
  rw[List.foldr_cons,show ∀x y,Nat.lor x y=x ||| y from λ_ _=>rfl,show ∀x y,Nat.lor x y=x ||| y from λ_ _=>rfl,Nat.testBit_or,Nat.testBit_or,show Nat.pow 2 e.on=2^e.on from rfl,Nat.testBit_two_pow]at h
  simp only[gP,decide_eq_true_eq]at h
  rcases h with(h | h) | h
  ·exact⟨e,aN ..,.inl h.symm⟩
  ·exact⟨e,aN ..,.inr h⟩
  ·obtain⟨e',h1,h2⟩:=Ft h
   exact⟨e',aL _ h1,h2⟩
theorem Dc:∀(l:List Oper) (acc:List Nat),(∀i,i < acc.length->(l.foldl (λacc o=>acc++ [Ed acc o]) acc)[i]? =acc[i]?)/\
  ∀i o,l[i]? =some o->(l.foldl (λacc o=>acc++ [Ed acc o]) acc)[acc.length+i]? =some (Ed ((l.foldl (λacc o=>acc++ [Ed acc o]) acc).take (acc.length+i)) o)
 |[],acc=>⟨λ_ _=>rfl,λi o h=>by simp at h⟩
 |x::l,acc=>by
  obtain⟨h1,h2⟩:=Dc l (acc++ [Ed acc x])
  simp only[cZ]
  refine⟨λi hi=> ?_,λi o hi=> ?_⟩
  ·rw[h1 i (by simp;omega),fy hi]
  ·cases i with
   |zero=>
    simp only[fZ,ax]at hi
    subst hi
    rw[cK,h1 _ (by simp)]
    have:(l.foldl (λacc o=>acc++ [Ed acc o]) (acc++ [Ed acc x])).take acc.length=acc:=by
     apply kg
     intro j
     rw[dq]
     split
     ·rename_i hj
      rw[h1 j (by simp;omega),fy hj]
     ·rename_i hj
      rw[dS (by omega)]
    rw[this]
    simp
   |succ i=>
    have:=h2 i o (by simpa using hi)
    simp only[aj,aD,aZ,aO]at this
    rw[show acc.length+(i+1)=acc.length+1+i by omega]
    exact this
theorem Le{l:List Oper}{i:Nat}{o:Oper}(hi:l[i]? =some o){j:Nat}(hj:((Fu l).getD i 0).testBit j=true):∃e∈o.after.toList,Region.binds .any e=true/\(j=e.on\/((Fu l).getD e.on 0).testBit j=true):=by
 have h:=(Dc l []).2 i o hi
 have e:Fu l=l.foldl (λacc o=>acc++ [Ed acc o]) []:=rfl
 rw[<-e]at h
 simp only[aZ,aO]at h
 rw[aF,h]at hj
 obtain⟨e,h1,h3⟩:=Ft hj
 obtain⟨h1,h2⟩:=eW.1 h1
 refine⟨e,h1,h2,h3.imp id λh4=> ?_⟩
 rw[aF,dq]at h4
 split at h4
 ·rw[aF];exact h4
 ·simp at h4
def D5(n:Nat)(listed:Array Bool):List Nat:=(List.range n).filter λi=> !listed.getD i true
theorem xV{n:Nat}{listed:Array Bool}{i:Nat}:i∈D5 n listed↔i < n/\listed.getD i true=false:=by simp[D5]
theorem xt(n:Nat)(listed:Array Bool):(D5 n listed).Pairwise (· < ·):=(List.pairwise_lt_range).filter _
theorem Bj{listed:Array Bool}{i j:Nat}(d:Bool)(hi:i < listed.size):(listed.setIfInBounds i true).getD j d=if j=i then true else listed.getD j d:=by
 simp only[cY,ee]
 by_cases h:i=j
 ·subst h;simp[hi]
 ·simp[h,Ne.symm h]
theorem N9{listed:Array Bool}{i:Nat}(hi:i < listed.size){l1 l2:List Nat}(h:D5 listed.size listed=l1++i::l2):D5 listed.size (listed.setIfInBounds i true)=l1++l2:=by
 have hs:=xt listed.size listed
 rw[h]at hs
 obtain⟨p1,p2,p3⟩:=List.pairwise_append.1 hs
 obtain⟨p4,_⟩:=jT.1 p2
 have e:D5 listed.size (listed.setIfInBounds i true)=(D5 listed.size listed).filter λj=>decide (j≠i):=by
  unfold D5
  rw[nN]
  refine List.filter_congr λj _=> ?_
  rw[Bj true hi]
  by_cases hj:j=i
  ·simp[hj]
  ·simp[hj]
 rw[e,h,List.filter_append,kO]
 have f1:l1.filter (λj=>decide (j≠i))=l1:=ju.2 λj hj=>by
  have:=p3 j hj i (aN ..)
  simp;omega
 have f2:l2.filter (λj=>decide (j≠i))=l2:=ju.2 λj hj=>by
  have:=p4 j hj
  simp;omega
 rw[f1,f2]
 simp
theorem JG{rd:Option Nat}{n:Nat}{C:Ctx}(hΓ:Sound P Γ){fs:Nat->uJ}{sn:AS}{Q:Exit->Act->World->Prop}(hE:El ops.toList=true)
  (TJ:∀m1 m2,m1 < m2->m2 < ops.size->((Fu ops.toList).getD m2 0).testBit m1=true\/(fs m1).indep (fs m2)=true) (hQ:∀a w,iN C sn a w->Q .normal a w):
  ∀(fuel:Nat) (listed:Array Bool) (s:AS) (a:Act) (w:World),listed.size=ops.size->(D5 ops.size listed).length=fuel->
   (∀i,i < ops.size->listed.getD i true=true->∀j,((Fu ops.toList).getD i 0).testBit j=true->listed.getD j false=true)->Fj P Γ bU ops fs (D5 ops.size listed) s sn->iN C s a w->wpAnyIn (Fr rd) n P .any ops Q fuel listed a w:=by
 have Ou:∀i o,ops[i]? =some o->∀e∈o.after.toList,Region.binds .any e=true->e.on < i:=λi o hi e he hb=>by
  have:=dw.1 hE (o,i) (List.mem_zipIdx_iff_getElem?.2 (by simpa using hi))
  have:=dw.1 this e he
  simpa[hb]using this
 have PZ:∀(listed:Array Bool),listed.size=ops.size->∀i,i∈Region.ready .any ops listed↔i∈D5 ops.size listed/\∀o,ops[i]? =some o->∀e∈o.after.toList,Region.binds .any e=true->listed.getD e.on false=true:=λlisted _ i=>by
  rw[xV]
  unfold Region.ready
  simp only[eW,List.mem_range,ak,bX]
  constructor
  ·rintro⟨h1,h2,h3⟩
   refine⟨⟨h1,h2⟩,λo ho e he hb=> ?_⟩
   rw[ho]at h3
   simp only[eF,fq,Array.all_eq_true',gP,bX]at h3
   rcases h3 e (by simpa using he) with h | h
   ·rw[hb]at h;cases h
   ·exact h
  ·rintro⟨⟨h1,h2⟩,h3⟩
   refine⟨h1,h2,?_⟩
   obtain⟨o,ho⟩:∃o,ops[i]? =some o:=⟨ops[i],by simp[h1]⟩
   rw[ho]
   simp only[eF,fq,Array.all_eq_true',gP,bX]
   intro e he
   cases hb:Region.binds .any e with
   |false=>exact .inl rfl
   |true=>exact .inr (h3 o ho e (by simpa using he) hb)
 have nb:∀(listed:Array Bool),listed.size=ops.size->Region.ready .any ops listed=[]->D5 ops.size listed=[]:=λlisted hs hr=>by
  cases hu:D5 ops.size listed with
  |nil=>rfl
  |cons i l=>
   exfalso
   have hi:i∈D5 ops.size listed:=by rw[hu];exact aN ..
   have R4:=xt ops.size listed
   rw[hu]at R4
   have:i∈Region.ready .any ops listed:=(PZ listed hs i).2 ⟨hi,λo ho e he hb=>by
    have jt:=Ou i o ho e he hb
    have RM:=(xV.1 hi).1
    cases hl:listed.getD e.on true with
    |false=>
     have hm:e.on∈D5 ops.size listed:=xV.2 ⟨by omega,hl⟩
     rw[hu]at hm
     rcases dd.1 hm with h | h
     ·omega
     ·have:=(jT.1 R4).1 _ h;omega
    |true=>
     have:e.on < listed.size:=by omega
     simp only[cY,fx this,fq]at hl ⊢
     exact hl⟩
   rw[hr]at this
   cases this
 intro fuel
 induction fuel with
 |zero=>
  intro listed s a w hs hl _ hr oJ
  have hn:D5 ops.size listed=[]:=bo hl
  refine⟨?_,?_⟩
  ·cases T6:Region.ready .any ops listed with
   |nil=>rfl
   |cons i l=>
    have:i∈Region.ready .any ops listed:=by rw[T6];exact aN ..
    have:=((PZ listed hs i).1 this).1
    rw[hn]at this;cases this
  ·rw[hn]at hr
   have:s=sn:=hr
   subst this
   exact hQ a w oJ
 |succ fuel ih=>
  intro listed s a w hs hl HX hr oJ
  refine⟨λT6=> ?_,λi hi=> ?_⟩
  ·have:=nb listed hs T6
   rw[this]at hl;simp at hl
  ·obtain⟨hu,RE⟩:=(PZ listed hs i).1 hi
   obtain⟨RM,Ww⟩:=xV.1 hu
   obtain⟨o,ho⟩:∃o,ops[i]? =some o:=⟨ops[i],by simp[RM]⟩
   obtain⟨l1,l2,K5⟩:=List.append_of_mem hu
   have R4:=xt ops.size listed
   rw[K5]at R4
   have Rs:∀j,((Fu ops.toList).getD i 0).testBit j=true->listed.getD j false=true:=λj hj=>by
    obtain⟨e,he,hb,h | h⟩:=Le (by simpa using ho) hj
    ·rw[h];exact RE o ho e he hb
    ·have h1:=RE o ho e he hb
     have h2:=Ou i o ho e he hb
     refine HX e.on (by omega) ?_ j h
     have:e.on < listed.size:=by omega
     simp only[cY,fx this,fq]at h1 ⊢
     exact h1
   rw[K5]at hr
   have hb:=Fj.Lm l1 hr λj hj=>by
    have jt:j < i:=(List.pairwise_append.1 R4).2.2 j hj i (aN ..)
    rcases TJ j i jt RM with h | h
    ·have h1:=Rs j h
     have VK:j∈D5 ops.size listed:=by rw[K5];exact bP.2 (.inl hj)
     have h2:=(xV.1 VK).2
     have:j < listed.size:=by omega
     simp only[cY,fx this,fq]at h1 h2
     rw[h1]at h2;cases h2
    ·exact h
   obtain⟨o',ho',hf,s',hg,mU⟩:=hb
   obtain rfl:o=o':=by rw[ho]at ho';simpa using ho'
   have EA:D5 ops.size (listed.setIfInBounds i true)=l1++l2:=by
    rw[<-hs]at K5 ⊢
    exact N9 (by omega) K5
   refine((Du hΓ oJ hg).mono λa' w' hst'=>ih (listed.setIfInBounds i true) s' a' w' (by simpa using hs) ?_ ?_ (by rw[EA];exact mU) hst').wpOpIn ho
   ·rw[EA]
    rw[K5]at hl
    simp only[aj,aD]at hl ⊢
    omega
   ·intro m hm SP j hj
    rw[Bj false (by omega)]
    split
    ·rfl
    ·rw[Bj true (by omega)]at SP
     split at SP
     ·rename_i VT
      subst VT
      exact Rs j hj
     ·exact HX m hm SP j hj
theorem GN{rd:Option Nat}{n:Nat}{C:Ctx}(hm:P.follows .mixedOrders=true)(hΓ:Sound P Γ){id:Nat}{R:Type}{Q:Exit->Act->World->Prop}{s:AS}{a:Act}{w:World}{k:AS->Option R}{r:R}(h:iN C s a w)(hE:El ops.toList=true)
  (he:Dv P Γ bU ops (Fu ops.toList) 0 ops.toList [] s k=some r) (hk:∀s' a' w',iN C s' a' w'->k s'=some r->Q .normal a' w'):(Code.region id ops true).wpIn (Fr rd) n P Q a w:=by
 obtain⟨fs,sn,_,g2,g3,_,g5⟩:=Dw ops.toList 0 [] s (λ_=>⟨none,[],[],[]⟩) (λn o hn=>by simpa using hn) (λ_ hx=>by cases hx) he
 refine wpIn_region_any hm ?_
 obtain⟨g,β,h⟩:=h
 have hu:D5 ops.size (Array.replicate ops.size false)=List.range' 0 ops.toList.length:=by
  unfold D5
  rw[ju.2]
  ·simp[List.range_eq_range']
  ·intro i hi
   have hi:i < ops.size:=by simpa using hi
   simp[cY,hi]
 refine JG (bU:=bU) hΓ hE (fs:=fs) (sn:=sn) (λm1 m2 h1 h2=>g5 m1 m2 (aV _) h1 (by simpa using h2)) (λa' w' hs=>hk sn a' w' hs g3) ops.size _ s a _ (by simp) (by rw[hu];simp) (λi hi hl=> ?_) (by rw[hu];exact g2) ⟨g,β,h.drew⟩
 simp[cY,hi]at hl
end
end Go.Ab
namespace Go.Ab
theorem qF{ρ:Ren}{s:AS}(h:∀id,(s.obj id).isSome=true->∀ver,ρ id ver=some (id,ver)):∀(v:az),v.there s=true->v.ja ρ=v
 | .ptr id ver p n,ht=>by simp only[az.ja];rw[h id ht]
 | .cP id ver p c i len,ht=>by simp only[az.ja];rw[h id ht]
 | .pr a b,ht=>by
  simp only[az.there,ak]at ht
  simp only[az.ja];rw[qF h a ht.1,qF h b ht.2]
 | .cons a b,ht=>by
  simp only[az.there,ak]at ht
  simp only[az.ja];rw[qF h a ht.1,qF h b ht.2]
 | .fn f c,ht=>by simp only[az.ja];rw[qF h c ht]
 | .bx e z c,ht=>by simp only[az.ja];rw[qF h c ht]
 | .oh id ver,ht=>by simp only[az.ja];rw[h id ht]
 | .yl id ver,ht=>by simp only[az.ja];rw[h id ht]
 | .qK k f p,ht=>by simp only[az.ja];rw[qF h f ht]
 | .oK ..,ht=>by cases ht
 | .undef,_ | .gone,_ | .df,_ | .oI,_ | .qt,_ | .tl,_ | .d _ _,_ | .ed _ _,_ | .nil,_ | .vec ..,_ | .mp ..,_ | .sb _,_=>rfl
theorem QB.bm{E E':Env}(hm:oO E E')(hh:∀b:Nat,E'.w.heap[b]? =E.w.heap[b]?){i q:Id}{ver:Nat}{kt vt:Ty}{rest:List (kt.den×vt.den)}{cur:Option (kt.den×vt.den)}(h:QB E i q ver kt vt rest cur)(hβ:E'.β i=E.β i)
  (hg:∀pl,E.β i=some pl->E.g pl.b= .own (.id i) 0->E'.g pl.b= .own (.id i) 0)
  (hq:∀vr,ver=vr+1->(E.uw q vr->E'.uw q vr/\(E'.cur q vr->E.cur q vr/\E'.β q=E.β q))/\(∀k v l,E.s q=some (.obj vr true (.mp k v l))->E'.s q=some (.obj vr true (.mp k v l)))/\
   ∀pl,E.β q=some pl->E.g pl.b= .own (.id q) 0->E'.g pl.b= .own (.id q) 0):QB E' i q ver kt vt rest cur:=by
 obtain⟨pl,mb,since,seen,c0,h1,h2,h3,h4⟩:=h
 refine⟨pl,mb,since,seen,c0,by rw[hβ,h1],by rw[hh,h2],hg pl h1 h3,λvr H4=> ?_⟩
 obtain⟨h5,h6⟩:=h4 vr H4
 obtain⟨q1,q2,q3⟩:=hq vr H4
 obtain⟨b1,b2⟩:=q1 h5
 refine⟨b1,λhc=> ?_⟩
 obtain⟨c1,c2⟩:=b2 hc
 obtain⟨⟨k,v,l,k0⟩,plq,es,clock,k1,k2,k3,k4,k5,k6,k7,k8,k9⟩:=h6 c1
 exact⟨⟨k,v,l,q2 _ _ _ k0⟩,plq,es,clock,by rw[c2,k1],k2,by rw[hh,k3],q3 _ k1 k4,k5,k6,k7,k8.mono hm,λx hx=>
  let⟨e,se,a1,a2,a3,a4⟩:=k9 x hx
  ⟨e,se,a1,a2,a3,a4.mono hm⟩⟩
theorem L9(c:az):(∃q ver k v l cu,c= .oK q ver k v l cu)\/(∀ρ kp,c.Qk ρ kp=c.ja ρ)/\∀s v fr,ea.there s (.obj v fr c)=c.there s:=by
 cases c <;> first | exact .inl ⟨_,_,_,_,_,_,rfl⟩ | exact .inr ⟨λ_ _=>rfl,λ_ _ _=>rfl⟩
section
variable {P:Program} {C:Ctx} {g:Nat->lG} {β:Id->Option Pl} {s:AS} {a:Act} {w:World}
theorem Inv.DQ(h:Inv C g β s a w)(hC:C.ok){s1:AS}{g1:Nat->lG}{β1:Id->Option Pl}(ρ:Ren)(hlen:s1.cO.length=s.cO.length)(ht:Trans w w g g1)(hle:sS ρ (s.env w g β) (s1.env w g1 β1))
  (Bt:∀i,VS (s1.env w g1 β1) (s1.slot i) (a.tmps.getD i undef))
  (db:∀id ver fr c,s1.cz id=some (.obj ver fr c)->qf (s1.env w g1 β1) id fr c\/∃id0 v0 c0,s.cz id0=some (.obj v0 fr c0)/\c0.ja ρ=c/\β1 id=β id0/\∀pl,β id0=some pl->(∀k,g pl.b= .own (.id id0) k->g1 pl.b= .own (.id id) k)/\(g pl.b= .free->g1 pl.b= .free))
  (hold:∀k,(s.cz (.dB k)≠none->s1.cz (.dB k)≠none)/\(∀v fr c,s1.cz (.dB k)=some (.obj v fr c)->∃c0,s.cz (.dB k)=some (.obj v fr c0))/\β1 (.dB k)=β (.dB k)):Inv C g1 β1 s1 a w:=by
 refine⟨h.defers.mono ht,by rw[hlen];exact h.size,Bt,λid ver fr c dz=> ?_,h.trans.trans ht,?_⟩
 ·rcases db id ver fr c dz with ho | ⟨id0,v0,c0,h1,h2,h3,h4⟩
  ·exact ho
  have:=qg hle (h.bU id0 v0 fr c0 h1) (id':=id) h3 λpl hp=>⟨rfl,(h4 pl hp).1,(h4 pl hp).2⟩
  rw[h2]at this
  exact this
 ·have hl:=h.le
  have ho:∀id ver,C.E.uw id ver->∃k,id= .dB k:=λid ver hb=>by
   cases id with
   |dB k=>exact⟨k,rfl⟩
   |new i j=>exact absurd (hC.1 i j) hb.1
  refine⟨hl.mem.trans (Trans.mem (E:=s.env w g β) (E':=s1.env w g1 β1) ht),λid ver hb=> ?_,λid ver hb hc=> ?_⟩
  ·obtain⟨k,rfl⟩:=ho id ver hb
   obtain⟨h1,h2⟩:=hl.uw _ ver hb
   obtain⟨e1,e2,_⟩:=hold k
   exact⟨e1 h1,λv fr c hh=>let⟨c0,AF⟩:=e2 v fr c hh;h2 v fr c0 AF⟩
  ·obtain⟨k,rfl⟩:=ho id ver hb
   obtain⟨fr,c,hc⟩:=hc
   obtain⟨_,e2,e3⟩:=hold k
   obtain⟨c0,AF⟩:=e2 _ _ _ hc
   obtain⟨h1,h2⟩:=hl.cur _ ver hb ⟨fr,c0,AF⟩
   exact⟨h1,e3.trans h2⟩
theorem Inv.renamed(h:Inv C g β s a w)(hC:C.ok){s1:AS}{β1:Id->Option Pl}(ρ:Ren)(hlen:s1.cO.length=s.cO.length)(hle:sS ρ (s.env w g β) (s1.env w g β1))
  (Bt:∀i,VS (s1.env w g β1) (s1.slot i) (a.tmps.getD i undef)) (db:∀id ver fr c,s1.cz id=some (.obj ver fr c)->qf (s1.env w g β1) id fr c\/∃v0,s.cz id=some (.obj v0 fr c)/\c.ja ρ=c/\β1 id=β id)
  (hold:∀k,s1.cz (.dB k)=s.cz (.dB k)/\β1 (.dB k)=β (.dB k)):Inv C g β1 s1 a w:=
 h.DQ hC ρ hlen (Trans.refl w g) hle Bt (λid ver fr c dz=>(db id ver fr c dz).imp (λh=>h) λ⟨v0,h1,h2,h3⟩=>⟨id,v0,c,h1,h2,h3,λ_ _=>⟨λ_ h=>h,λh=>h⟩⟩)
  λk=>⟨λhh=>by rw[(hold k).1];exact hh,λv fr c hh=>⟨c,(hold k).1.symm.trans hh⟩,(hold k).2⟩
theorem Inv.Sv(h:Inv C g β s a w)(j:Nat){v:az}(hv:VS (s.env w g β) v (a.tmps.getD j undef)):Inv C g β (s.put (some j) v) a w:=by
 refine⟨h.defers,by simpa[AS.put]using h.size,λi=> ?_,by simpa using h.bU,h.trans,by simpa using h.le⟩
 rw[En,Ck]
 split
 ·rename_i TI;rw[TI.1];exact hv
 ·exact h.cO i
theorem zu(bm:List Nat):∀(l:List az) (n i:Nat),(eZ bm n l).getD i .undef= .undef\/(eZ bm n l).getD i .undef=l.getD i .undef
 |[],n,i=>by simp[eZ]
 |v::l,n,0=>by
  simp only[eZ,jv]
  split
  ·exact .inr rfl
  ·exact .inl rfl
 |v::l,n,i+1=>by
  simp only[eZ,nf]
  exact zu bm l (n+1) i
theorem th(bm:List Nat):∀(l:List az) (n:Nat),(eZ bm n l).length=l.length
 |[],n=>rfl
 |v::l,n=>by simp[eZ,th bm l]
theorem DX(bm:List Nat):∀(l:List (List ea)) (n i:Nat),(ma bm n l).getD i []=[]\/(ma bm n l).getD i []=l.getD i []
 |[],n,i=>by simp[ma]
 |v::l,n,0=>by
  simp only[ma,jv]
  split
  ·exact .inr rfl
  ·exact .inl rfl
 |v::l,n,i+1=>by
  simp only[ma,nf]
  exact DX bm l (n+1) i
theorem Kl{s:AS}(i:Nat):s.slot i= .undef\/s.slot i∈s.cO:=by
 unfold AS.slot
 rw[aF]
 cases h:s.cO[i]? with
 |none=>exact .inl rfl
 |some v=>exact .inr (dj h)
theorem Ns{s:AS}{id:Id}{e:ea}(h:s.cz id=some e):e∈s.cT\/∃es∈s.news,e∈es:=by
 cases id with
 |dB k=>exact .inl (dj h)
 |new i j=>
  simp only[AS.cz,aF]at h
  cases hi:s.news[i]? with
  |none=>rw[hi]at h;simp at h
  |some es=>rw[hi]at h;exact .inr ⟨es,dj hi,dj h⟩
theorem Inv.bm(h:Inv C g β s a w)(hC:C.ok){an:mN}(ht:(xQ an s).Fp=true):Inv C g β (xQ an s) a w:=by
 obtain⟨ks,kt,_,_,_⟩:=an
 obtain⟨s1,CG⟩:∃s1:AS,s1= {cO:=eZ ks 0 s.cO,cT:=s.cT,news:=ma kt 0 s.news}:=⟨_,rfl⟩
 have e1:s1.cO=eZ ks 0 s.cO:=by rw[CG]
 have e2:s1.cT=s.cT:=by rw[CG]
 have e3:s1.news=ma kt 0 s.news:=by rw[CG]
 have ht:(s1.cO.all (az.there s1) && s1.cT.all (ea.there s1) && s1.news.all λes=>es.all (ea.there s1))=true:=by rw[CG];exact ht
 show Inv C g β {cO:=eZ ks 0 s.cO,cT:=s.cT,news:=ma kt 0 s.news} a w
 rw[<-CG]
 rw[ak,ak]at ht
 obtain⟨⟨t1,t2⟩,t3⟩:=ht
 have db:∀id,s1.cz id=none\/s1.cz id=s.cz id:=λid=>by
  cases id with
  |dB k=>right;simp only[AS.cz,e2]
  |new i j=>
   simp only[AS.cz,e3]
   rcases DX kt s.news 0 i with h | h
   ·rw[h];exact .inl rfl
   ·rw[h];exact .inr rfl
 have NH:∀id,(s1.obj id).isSome=true->s1.cz id=s.cz id:=λid hi=>by
  rcases db id with h | h
  ·simp[AS.obj,h]at hi
  ·exact h
 let ρ:Ren:=λid ver=>if(s1.obj id).isSome=true then some (id,ver) else none
 have hρ:∀v:az,v.there s1=true->v.ja ρ=v:=qF λid dz ver=>if_pos dz
 have hle:sS ρ (s.env w g β) (s1.env w g β):=by
  refine⟨⟨λ_ _ _ h=>h,λ_ _ h h'=>⟨h,h'⟩⟩,λid ver r hr hb=> ?_⟩
  by_cases hi:(s1.obj id).isSome=true
  ·have:ρ id ver=some (id,ver):=if_pos hi
   rw[this,ax]at hr
   subst hr
   have e:=NH id hi
   obtain⟨b1,b2⟩:=hb
   exact⟨⟨by show s1.cz id≠none;rw[e];exact b1,λv fr c hh=>b2 v fr c (e.symm.trans hh)⟩,λ⟨fr,c,hc⟩=>⟨⟨fr,c,e.symm.trans hc⟩,rfl⟩⟩
  ·have:ρ id ver=none:=if_neg hi
   rw[this]at hr;cases hr
 refine h.renamed hC ρ (by rw[e1,th]) hle (λi=> ?_) (λid ver fr c dz=> ?_) λk=>⟨by simp only[AS.cz,e2],rfl⟩
 ·rcases Kl (s:=s1) i with hi | hi
  ·rw[hi];exact VS.undef
  ·have Ud:=dw.1 t1 _ hi
   rcases zu ks s.cO 0 i with h1 | h1
   ·have:s1.slot i= .undef:=by simp only[AS.slot,e1,h1]
    rw[this];exact VS.undef
   ·have:s1.slot i=s.slot i:=by simp only[AS.slot,e1,h1]
    have hv:=wJ hle (h.cO i)
    rw[<-this,hρ _ Ud]at hv
    exact hv
 ·have:s1.cz id=s.cz id:=by
   rcases db id with h | h
   ·rw[h]at dz;cases dz
   ·exact h
  have hc:ea.there s1 (.obj ver fr c)=true:=by
   rcases Ns dz with h | ⟨es,h1,h2⟩
   ·exact dw.1 t2 _ h
   ·exact dw.1 (dw.1 t3 _ h1) _ h2
  rcases L9 c with⟨q,vq,k,v,l,cu,rfl⟩ | ⟨_,Ud⟩
  ·have e:=NH q hc
   refine .inl (QB.bm hle.mem (λ_=>rfl) (h.bU id ver fr _ (this.symm.trans dz)) rfl (λ_ _ h=>h) λvr _=>⟨λhb=>hle.ref q vr (q,vr) (if_pos hc) hb,λk v l hk=>e.trans hk,λ_ _ h=>h⟩)
  ·rw[Ud]at hc
   exact .inr ⟨ver,this.symm.trans dz,hρ c hc,rfl⟩
theorem Inv.drop(h:Inv C g β s a w)(ks:List Nat):Inv C g β (s.drop ks) a w:=by
 refine⟨h.defers,by simpa[AS.drop,th]using h.size,λi=> ?_,h.bU,h.trans,h.le⟩
 rcases zu ks s.cO 0 i with h1 | h1
 ·have:(s.drop ks).slot i= .undef:=h1
  rw[this];exact VS.undef
 ·have:(s.drop ks).slot i=s.slot i:=h1
  rw[this];exact h.cO i
def uj(b q:Nat):lG->lG
 | .own (.id (.new x j)) k=>if x=b then .own (.id (.new q j)) k else .own (.id (.new x j)) k
 |l=>l
theorem Trans.Su(w:World)(g:Nat->lG)(b q:Nat):Trans w w g λx=>uj b q (g x):=by
 refine⟨rfl,rfl,⟨rfl,ay _⟩,ay _,λy _=> ?_⟩
 cases hg:g y with
 |free=>exact⟨by simp[uj],rfl⟩
 |own o k=>cases o with
  |eL=>exact⟨by simp[uj],rfl⟩
  |id x=>
   refine⟨.inr ?_,λ_ _ _ h=>h⟩
   cases x with
   |dB m=>exact⟨_,_,rfl,ay _⟩
   |new x j=>
    simp only[uj]
    split
    ·exact⟨_,_,rfl,ay _⟩
    ·exact⟨_,_,rfl,ay _⟩
theorem GY(f:az->az)(hf:f .undef= .undef)(l:List az)(i:Nat):(l.map f).getD i .undef=f (l.getD i .undef):=by
 simp only[aF,fv]
 cases l[i]? <;> simp[hf]
theorem Inv.vn(h:Inv C g β s a w)(hC:C.ok){b q:Nat}(QG:b < s.news.length)(VZ:q < s.news.length):
  ∃g1 β1,Inv C g1 β1 (s.vn b q (s.news.getD b [])) a w:=by
 generalize VB:s.news.getD b []=es
 have RH:∀j,s.cz (.new b j)=es[j]? :=λj=>by rw[<-VB];rfl
 let ρ:Ren:=ym es b q
 let s1:=s.vn b q es
 have lr:∀j',s1.cz (.new q j')=(es[j']?).map (ea.N1 ρ):=λj'=>by
  simp[s1,AS.vn,AS.cz,aF,VZ,ρ]
 have RL:b≠q->∀j',s1.cz (.new b j')=none:=λPG j'=>by
  have hbq':¬q=b:=λe=>PG e.symm
  simp only[s1,AS.vn,AS.cz,aF]
  rw[fc hbq',List.getElem?_set,if_pos rfl]
  split <;> simp
 have xM:∀i,(∀j',i≠ .new q j')->(∀j',i≠ .new b j')->s1.cz i=(s.cz i).map (ea.C1 ρ (vR b q)):=λi hi hi'=>by
  cases i with
  |dB k=>simp[s1,AS.vn,AS.cz,ρ]
  |new x y=>
   have h1:¬q=x:=λe=>hi y (by rw[e])
   have h2:¬b=x:=λe=>hi' y (by rw[e])
   simp only[s1,AS.vn,AS.cz,aF]
   rw[fc h1,fc h2,fv]
   cases s.news[x]? <;> simp[ρ]
 let g1:Nat->lG:=λx=>uj b q (g x)
 let β1:Id->Option Pl:=λi=>match i with | .new x j=>if x=q then β (.new b j) else β (.new x j) | .dB k=>β (.dB k)
 have hβ1:∀i,(∀j',i≠ .new q j')->β1 i=β i:=λi hi=>by
  cases i with
  |dB k=>rfl
  |new x y=>exact if_neg λe=>hi y (by rw[e])
 have ht:Trans w w g g1:=Trans.Su w g _ _
 have hρ:∀i ver r,ρ i ver=some r->(∃j fr c,i= .new b j/\es[j]? =some (.obj ver fr c)/\r=(.new q j,0))\/((∀j',i≠ .new q j')/\(∀j',i≠ .new b j')/\r=(i,ver)):=λi ver r hr=>by
  replace hr:ym es b q i ver=some r:=hr
  cases i with
  |dB k=>exact .inr ⟨λ_=>by simp,λ_=>by simp,(bB hr).symm⟩
  |new x j=>
   unfold ym at hr
   simp only at hr
   split at hr
   ·rename_i hx
    have hx:x=b:=by simpa using hx
    subst hx
    split at hr
    ·rename_i v fr c he
     split at hr
     ·rename_i hv
      have hv:ver=v:=by simpa using hv
      subst hv
      exact .inl ⟨j,fr,c,rfl,he,(bB hr).symm⟩
     ·cases hr
    ·cases hr
   ·rename_i hx
    have hx:¬x=b:=by simpa using hx
    split at hr
    ·cases hr
    ·rename_i hx'
     have hx':¬x=q:=by simpa using hx'
     exact .inr ⟨λ_ e=>hx' (by injection e),λ_ e=>hx (by injection e),(bB hr).symm⟩
 have hle:sS ρ (s.env w g β) (s1.env w g1 β1):=by
  refine⟨Trans.mem (E:=s.env w g β) (E':=s1.env w g1 β1) ht,λi ver r hr J4=> ?_⟩
  rcases hρ i ver r hr with⟨j,fr,c,rfl,he,rfl⟩ | ⟨hi,hi',rfl⟩
  ·refine⟨⟨by show s1.cz (.new q j)≠none;rw[lr,he];simp,λ_ _ _ _=>aV _⟩,λ_=>⟨⟨fr,c,(RH j).trans he⟩,if_pos rfl⟩⟩
  ·obtain⟨k1,k2⟩:=J4
   have k1:s.cz i≠none:=k1
   have e:s1.cz i=(s.cz i).map (ea.C1 ρ (vR b q)):=xM i hi hi'
   have back:∀v' fr' c',s1.cz i=some (.obj v' fr' c')->∃c0,s.cz i=some (.obj v' fr' c0):=λv' fr' c' hh=>by
    rw[e]at hh
    cases hs:s.cz i with
    |none=>exact absurd hs k1
    |some en=>
     rw[hs]at hh
     cases en with
     |dead=>simp[ea.C1]at hh
     |obj v0 fr0 c0=>
      simp only[eF,ea.C1,ax,ea.obj.injEq]at hh
      obtain⟨rfl,rfl,_⟩:=hh
      exact⟨c0,rfl⟩
   refine⟨⟨by
    show s1.cz i≠none
    rw[e]
    cases hs:s.cz i with
    |none=>exact absurd hs k1
    |some en=>simp,λv' fr' c' hh=> ?_⟩,λ⟨fr',c',hh⟩=> ?_⟩
   ·obtain⟨c0,AF⟩:=back v' fr' c' hh
    exact k2 v' fr' c0 AF
   ·obtain⟨c0,AF⟩:=back ver fr' c' hh
    exact⟨⟨fr',c0,AF⟩,hβ1 i hi⟩
 have SM:∀(i:Id),(∀j',i≠ .new b j')->∀(x:Nat) (k:Nat),g x= .own (.id i) k->g1 x= .own (.id i) k:=λi hi x k hk=>by
  show uj b q (g x)=_
  rw[hk]
  cases i with
  |dB m=>rfl
  |new y j=>exact if_neg λe=>hi j (by rw[e])
 refine⟨g1,β1,h.DQ hC ρ (by simp[AS.vn]) ht hle (λi=> ?_) (λid ver fr' c' dz=> ?_) λk=>⟨λhk=> ?_,λv' fr' c' hh=> ?_,rfl⟩⟩
 ·have:(s.vn b q es).slot i=(s.slot i).ja ρ:=GY _ rfl _ _
  rw[this]
  exact wJ hle (h.cO i)
 ·have dz:s1.cz id=some (.obj ver fr' c'):=dz
  by_cases hi:∃j',id= .new q j'
  ·obtain⟨j',rfl⟩:=hi
   rw[lr]at dz
   cases he:es[j']? with
   |none=>rw[he]at dz;cases dz
   |some en=>
    rw[he]at dz
    cases en with
    |dead=>simp[ea.N1]at dz
    |obj v0 fr0 c0=>
     simp only[eF,ea.N1,ax,ea.obj.injEq]at dz
     obtain⟨_,rfl,rfl⟩:=dz
     exact .inr ⟨.new b j',v0,c0,(RH j').trans he,rfl,if_pos rfl,λpl hp=>⟨λk hk=>by
      show uj b q (g pl.b)=_
      rw[hk];exact if_pos rfl,λhk=>by
      show uj b q (g pl.b)=_
      rw[hk];rfl⟩⟩
  ·by_cases hi':∃j',id= .new b j'
   ·obtain⟨j',rfl⟩:=hi'
    have PG:b≠q:=λe=>hi ⟨j',by rw[e]⟩
    rw[RL PG]at dz;cases dz
   ·have SR:∀j',id≠ .new q j':=λj' e=>hi ⟨j',e⟩
    have hni':∀j',id≠ .new b j':=λj' e=>hi' ⟨j',e⟩
    have e:=xM id SR hni'
    rw[e]at dz
    cases hs:s.cz id with
    |none=>rw[hs]at dz;cases dz
    |some en=>
     rw[hs]at dz
     cases en with
     |dead=>simp[ea.C1]at dz
     |obj v0 fr0 c0=>
      simp only[eF,ea.C1,ax,ea.obj.injEq]at dz
      obtain⟨rfl,rfl,rfl⟩:=dz
      rcases L9 c0 with⟨q2,vq,k,v2,l,cu,rfl⟩ | ⟨T7,_⟩
      ·have h0:=h.bU id v0 fr0 _ hs
       left
       simp only[az.Qk]
       cases U3:vR b q q2 with
       |true=>
        have Ja:(∀j',q2≠ .new b j')/\(∀j',q2≠ .new q j')/\∀vr,ρ q2 vr=some (q2,vr):=by
         cases q2 with
         |dB k=>exact⟨λ_=>by simp,λ_=>by simp,λ_=>rfl⟩
         |new x y=>
          simp only[vR,ak,bX,decide_eq_false_iff_not]at U3
          obtain⟨k1,k2⟩:=U3
          refine⟨λ_ e=>k1 (by injection e),λ_ e=>k2 (by injection e),λvr=> ?_⟩
          show ym es b q (.new x y) vr=_
          unfold ym
          simp only[decide_eq_false k1,decide_eq_false k2]
        obtain⟨Ja,xv,hρq⟩:=Ja
        refine QB.bm hle.mem (λ_=>rfl) h0 (hβ1 id SR) (λpl _ hk=>SM id hni' _ _ hk) λvr _=>⟨λhb=>hle.ref q2 vr (q2,vr) (hρq vr) hb,λk v l hk=> ?_,λpl _ hk=>SM q2 Ja _ _ hk⟩
        have hk:s.cz q2=some (.obj vr true (.mp k v l)):=hk
        show s1.cz q2=_
        rw[xM q2 xv Ja,hk]
        rfl
       |false=>
        obtain⟨pl,mb,since,seen,c0,h1,h2,h3,h4⟩:=h0
        exact⟨pl,mb,since,seen,c0,(hβ1 id SR).trans h1,h2,SM id hni' _ _ h3,λvr H4=>by omega⟩
      rw[T7]
      exact .inr ⟨id,v0,c0,hs,rfl,hβ1 id SR,λpl hp=>⟨λk hk=>SM id hni' _ _ hk,λhk=>by
       show uj b q (g pl.b)=_
       rw[hk];rfl⟩⟩
 ·have e:=xM (.dB k) (λ_=>by simp) (λ_=>by simp)
  show s1.cz (.dB k)≠none
  rw[e]
  cases hs:s.cz (.dB k) with
  |none=>exact absurd hs hk
  |some en=>simp
 ·have e:=xM (.dB k) (λ_=>by simp) (λ_=>by simp)
  have hh:s1.cz (.dB k)=some (.obj v' fr' c'):=hh
  rw[e]at hh
  cases hs:s.cz (.dB k) with
  |none=>rw[hs]at hh;cases hh
  |some en=>
   rw[hs]at hh
   cases en with
   |dead=>simp[ea.C1]at hh
   |obj v0 fr0 c0=>
    simp only[eF,ea.C1,ax,ea.obj.injEq]at hh
    obtain⟨rfl,rfl,_⟩:=hh
    exact⟨c0,rfl⟩
theorem CA{k t:Ty}{l:List (k.den×t.den)}:∀ {p:List v8} {x c':az},¬(ri (.mp k t l) p x).eval=some c'
 |[],x,c',h=>by simp only[ri,ao]at h
 | .arr::p,x,c',h=>by simp only[ri]at h;exact CA h
 | .idx i::p,x,c',h=>by simp only[ri,ao]at h
 | .fst::p,x,c',h=>by simp only[ri,ao]at h
 | .snd::p,x,c',h=>by simp only[ri,ao]at h
theorem E3{q:Id}{vq:Nat}{k t:Ty}{l:List (k.den×t.den)}{cu:Option (k.den×t.den)}:∀ {p:List v8} {x c':az},¬(ri (.oK q vq k t l cu) p x).eval=some c'
 |[],x,c',h=>by simp only[ri,ao]at h
 | .arr::p,x,c',h=>by simp only[ri]at h;exact E3 h
 | .idx i::p,x,c',h=>by simp only[ri,ao]at h
 | .fst::p,x,c',h=>by simp only[ri,ao]at h
 | .snd::p,x,c',h=>by simp only[ri,ao]at h
theorem E4{k:pv}{f:az}{m:Nat}:∀ {p:List v8} {x c':az},¬(ri (.qK k f m) p x).eval=some c'
 |[],x,c',h=>by simp only[ri,ao]at h
 | .arr::p,x,c',h=>by simp only[ri]at h;exact E4 h
 | .idx i::p,x,c',h=>by simp only[ri,ao]at h
 | .fst::p,x,c',h=>by simp only[ri,ao]at h
 | .snd::p,x,c',h=>by simp only[ri,ao]at h
theorem Aj{l:List Value}{n:Nat}{vs:List Value}(h:(l.drop n).take vs.length=vs):dJ l n vs=l:=by
 unfold dJ
 have h2:l.drop n=vs++l.drop (n+vs.length):=by
  conv=>lhs;rw[<-dL vs.length (l.drop n)]
  rw[h,fI]
 have h3:=dL n l
 rw[h2]at h3
 simpa[bk]using h3
theorem Inv.Sp(h:Inv C g β s a w){j:Nat}{p:List v8}(Ap:(s.at j p).eval=some .df){q:Nat}(hq:s.eh q=true){e:TypeId}{t:Ty}(hz:0 < t.size){s':AS}
  (he:((s.born q [.obj 0 false (.vec e t [])]).putAt j (.cP (.new q 0) 0 [] 0 0 0) p).eval=some s'):iN C s' a w:=by
 obtain⟨β',h1,h2,h3⟩:=h.Mq hq (e:=e) hz
 cases p with
 |nil=>
  simp only[AS.at]at Ap
  have hj:=aw.1 Ap
  simp only[AS.putAt]at he
  obtain rfl:=aw.1 he
  refine⟨g,β',h1.Sv j ?_⟩
  have:=h.cO j
  rw[hj]at this
  rw[km this]
  exact h3
 |cons st p=>
  simp only[AS.at]at Ap
  simp only[AS.putAt]at he
  have Bt:(s.born q [.obj 0 false (.vec e t [])]).slot j=s.slot j:=rfl
  rw[Bt]at he
  split at Ap
  ·rename_i id ver p0 nn hj
   split at Ap
   ·rename_i v fr c kG
    obtain⟨hv,Ap⟩:=aC.1 Ap
    obtain⟨⟨n,u⟩,hl,Ap⟩:=au.1 Ap
    have hu:=aw.1 Ap
    simp only at hu
    subst hu
    have db:=eJ kG
    have jb:id≠ .new q 0:=λe=>by rw[e,(jZ hq).1 0]at db;cases db
    have hne':∀j',id≠ .new q j':=λj' e=>by rw[e,(jZ hq).1 j']at db;cases db
    have qZ:(s.born q [.obj 0 false (.vec e t [])]).cz id=some (.obj v fr c):=(jf _ hne').trans db
    have PV:(s.born q [.obj 0 false (.vec e t [])]).obj id=some (v,fr,c):=by simp only[AS.obj,qZ]
    simp only[hj,PV]at he
    split at he
    ·simp only[ao]at he
    ·rename_i c1 Tz
     obtain⟨c',Ar,he⟩:=au.1 he
     obtain rfl:=aw.1 he
     have hn:c.iO=false:=by
      cases c <;> first | rfl | (exact(Tz _ _ _ rfl).elim) | (exact absurd Ar CA) | (exact absurd Ar E3) | (exact absurd Ar E4)
     have hO:=h1.bU id v fr c qZ
     obtain⟨pl,cur,e0,hp,hh,hg,hk,hV⟩:=hO.box hn
     have ht:=Trans.refl w g
     have hN:=AB hk
     have hle:=c7.aX (s:=s.born q [.obj 0 false (.vec e t [])]) (β:=β') (v':=v) (fr':=fr) (c':=c.wrap c') qZ (ay _) ht (λ_ _=>rfl) (λ_=>rfl)
     refine⟨g,β',h1.step (du _ _ _) ht hle (jd.aX h1.bU (by rw[qZ];simp) hle (λ_ _=>rfl) (λ_ _ _ _ _ _ _ _=>⟨rfl,rfl⟩) ?_ (mV qZ λk v1 l e=>by subst e;exact absurd Ar CA))⟩
     obtain⟨cs,k1,k2⟩:=h3
     have k2:cs=[.slice none 0 0]:=k2
     subst k2
     obtain⟨u1,u2,u3⟩:=na (p0++st::p) c.strip (cur.toList.take (c.qL cur.size)) n .df _ c' [.slice none 0 0] (VO.of hV) hl k1 Ar
     have u4:=u2.to (u3.o6 hV.o6)
     have tE:((cur.toList.take (c.qL cur.size)).drop n).take 1=[.slice none 0 0]:=by
      rcases ow (p0++st::p) c.strip (cur.toList.take (c.qL cur.size)) n .df (VO.of hV) hl with⟨PU,AF⟩ | ⟨q1,q2⟩
      ·rw[<-AF]at hV
       simp only[V]at hV
       rw[hV,PU]
       rfl
      ·simpa only[V,az.size]using q1
     rw[Aj (vs:=[.slice none 0 0]) tE]at u4
     have oG:c'.size=c.strip.size:=by have e1:=u4.size;have e2:=hV.size;omega
     exact yK.obj ⟨pl,cur,e0,hp,hh,hg,wM hk u4.so oG,by rw[xo c u4.so,yR u4.so oG];exact V.mono hle u4⟩
   ·simp only[ao]at Ap
  ·simp only[ao]at Ap
theorem wo:∀(ids:List Id) {s:AS} {i:Id} {v:Nat} {fr:Bool} {c:az},s.cz i=some (.obj v fr c)->∃fr',(s.bD ids).cz i=some (.obj v fr' c)
 |[],s,i,v,fr,c,h=>⟨fr,h⟩
 |id::ids,s,i,v,fr,c,h=>by
  obtain⟨fr',h'⟩:=Bb (id:=id) h
  exact wo ids h'
theorem Inv.Rh(h:Inv C g β s a w){j:Nat}{p:List v8}{u:az}(Ap:(s.at j p).eval=some u){t:Ty}{x:t.den}(ht:(s.jj t u).eval=some x){s':AS}
  (he:((s.bD u.shared).putAt j (.d t x) p).eval=some s'):iN C s' a w:=by
 cases p with
 |nil=>
  simp only[AS.at]at Ap
  have hj:=aw.1 Ap
  simp only[AS.putAt]at he
  obtain rfl:=aw.1 he
  have hs:=h.cO j
  rw[hj]at hs
  obtain⟨g',i1,_,_,cs,hR,hO⟩:=sE h hs ht
  exact⟨g',β,i1.Sv j (VS.of (a:= .d t x) (cs:=cs) (by simpa only[V]using hR) hO)⟩
 |cons st p=>
  simp only[AS.at]at Ap
  simp only[AS.putAt]at he
  have Bt:(s.bD u.shared).slot j=s.slot j:=by simp only[AS.slot,l5]
  rw[Bt]at he
  split at Ap
  ·rename_i id ver p0 nn hj
   split at Ap
   ·rename_i v fr c kG
    obtain⟨hv,Ap⟩:=aC.1 Ap
    obtain⟨⟨n,u'⟩,hl,Ap⟩:=au.1 Ap
    have hu:=aw.1 Ap
    simp only at hu
    subst hu
    have db:=eJ kG
    obtain⟨g',h1,h2,h3,h4⟩:=gj u'.shared h
    obtain⟨fr',qZ⟩:=wo u'.shared db
    have PV:(s.bD u'.shared).obj id=some (v,fr',c):=by simp only[AS.obj,qZ]
    simp only[hj,PV]at he
    split at he
    ·simp only[ao]at he
    ·rename_i c1 Tz
     obtain⟨c',Ar,he⟩:=au.1 he
     obtain rfl:=aw.1 he
     have hn:c.iO=false:=by
      cases c <;> first | rfl | (exact(Tz _ _ _ rfl).elim) | (exact absurd Ar CA) | (exact absurd Ar E3) | (exact absurd Ar E4)
     obtain⟨pl0,cur0,e00,PX,PN,PM,Oz,hV0⟩:=(h.bU id v fr c db).box hn
     obtain⟨pl,cur,e0,hp,hh,hg,hk,hV⟩:=(h1.bU id v fr' c qZ).box hn
     have xw:pl0=pl:=by
      have PX:β id=some pl0:=PX
      have hp:β id=some pl:=hp
      rw[PX]at hp
      exact bB hp
     subst xw
     have fF:cur0=cur:=by
      have PN:w.heap[pl0.b]? =_:=PN
      have hh:w.heap[pl0.b]? =_:=hh
      rw[PN]at hh
      simpa using(congrArg (λo=>match o with | some (.cells x _ _)=>x | _=>cur0) hh)
     subst fF
     obtain⟨cs,hVu,tE⟩:∃cs,V (s.env w g β) u' cs/\((cur0.toList.take (c.qL cur0.size)).drop n).take cs.length=cs:=by
      rcases ow (p0++st::p) c.strip (cur0.toList.take (c.qL cur0.size)) n u' (VO.of hV0) hl with⟨PU,AF⟩ | ⟨q1,q2⟩
      ·refine⟨cur0.toList.take (c.qL cur0.size),by rw[AF];exact hV0,?_⟩
       rw[PU,aI,bY]
      ·refine⟨_,q1,?_⟩
       rw[cU,dx]
       congr 1
       omega
     have hR:=qJ rfl h.bU h2 u' t x cs hVu ht h4
     have hVx:V ((s.bD u'.shared).env w g' β) (.d t x) cs:=by simpa only[V]using hR
     have ht':=Trans.refl w g'
     have hle:=c7.aX (s:=s.bD u'.shared) (β:=β) (v':=v) (fr':=fr') (c':=c.wrap c') qZ (ay _) ht' (λ_ _=>rfl) (λ_=>rfl)
     refine⟨g',β,h1.step (du _ _ _) ht' hle (jd.aX h1.bU (by rw[qZ];simp) hle (λ_ _=>rfl) (λ_ _ _ _ _ _ _ _=>⟨rfl,rfl⟩) ?_ (mV qZ λk v1 l e=>by subst e;exact absurd Ar CA))⟩
     obtain⟨u1,u2,u3⟩:=na (p0++st::p) c.strip (cur0.toList.take (c.qL cur0.size)) n u' _ c' cs (VO.of hV) hl hVx Ar
     have u4:=u2.to (u3.o6 hV.o6)
     rw[Aj (vs:=cs) tE]at u4
     have oG:c'.size=c.strip.size:=by have e1:=u4.size;have e2:=hV.size;omega
     exact yK.obj ⟨pl0,cur0,e0,hp,hh,hg,wM hk u4.so oG,by rw[xo c u4.so,yR u4.so oG];exact V.mono hle u4⟩
   ·simp only[ao]at Ap
  ·simp only[ao]at Ap
theorem wV{E:Env}:∀(t:Ty) (x:t.den) (u:az),(xG t x).eval=some u->∀cs,dn E t cs x->V E u cs
 | .iv t,x,u,h,cs,hr=>by
  simp only[xG]at h
  obtain⟨h1,h2⟩:=bZ.1 h
  obtain rfl:=aw.1 h2
  simp only[dn]at hr
  simp only[V]
  exact hr.1 (Option.isNone_iff_eq_none.1 h1)
 | .pair a b,x,u,h,cs,hr=>by
  simp only[xG]at h
  obtain⟨u1,h1,h2⟩:=au.1 h
  obtain⟨u2,h3,h4⟩:=au.1 h2
  obtain rfl:=aw.1 h4
  simp only[dn]at hr
  obtain⟨ca,cb,rfl,ha,hb⟩:=hr
  exact Hu (wV a x.1 u1 h1 ca ha) (wV b x.2 u2 h3 cb hb)
 | .int k,x,u,h,cs,hr=>by simp only[xG]at h;obtain rfl:=aw.1 h;simpa only[V]using hr
 | .bool,x,u,h,cs,hr=>by simp only[xG]at h;obtain rfl:=aw.1 h;simpa only[V]using hr
 | .str,x,u,h,cs,hr=>by simp only[xG]at h;obtain rfl:=aw.1 h;simpa only[V]using hr
 | .slice t,x,u,h,cs,hr=>by simp only[xG]at h;obtain rfl:=aw.1 h;simpa only[V]using hr
 | .unit,x,u,h,cs,hr=>by simp only[xG]at h;obtain rfl:=aw.1 h;simpa only[V]using hr
 | .arr n t,x,u,h,cs,hr=>by simp only[xG]at h;obtain rfl:=aw.1 h;simpa only[V]using hr
 | .oV t,x,u,h,cs,hr=>by simp only[xG]at h;obtain rfl:=aw.1 h;simpa only[V]using hr
theorem JL{e:TypeId}{z:Nat}{c:az}{pl:Pl}{n:Nat}(hz:0 < z)(h1:n=pl.cap*z)(h2:pl.cap<=maxLen)(h3:c.size<=n):(az.bx e z c).uQ pl n e:=by
 cases z with
 |zero=>omega
 |succ z=>exact⟨rfl,h1,h2,h3⟩
theorem FB{e:TypeId}{z:Nat}{c:az}{n:Nat}(hz:0 < z):(az.bx e z c).qL n=c.size:=by
 cases z with
 |zero=>omega
 |succ z=>rfl
theorem EP{e e':TypeId}{z:Nat}{c:az}{pl:Pl}{n:Nat}(hz:0 < z)(h:(az.bx e z c).uQ pl n e'):e'=e/\n=pl.cap*z/\pl.cap<=maxLen/\c.size<=n:=by
 cases z with
 |zero=>omega
 |succ z=>exact h
theorem GK{E:Env}{id:Id}{ver n:Nat}{p p':List v8}{y:Value}(h:VS E (.ptr id ver p n) y):VS E (.ptr id ver p' n) y:=by
 obtain⟨cs,h1,h2⟩:=h
 exact⟨cs,by simpa only[V]using h1,h2⟩
theorem Inv.Rl(h:Inv C g β s a w){j:Nat}{id:Id}{ver n k v:Nat}{p p':List v8}(hj:s.slot j= .ptr id ver p n){e:TypeId}{t:Ty}{r:List t.den}(kG:s.obj id=some (v,false,.vec e t r))
  (hk:k < r.length) {u:az} (hu:(xG t (nth t r k)).eval=some u):
  iN C ((s.aX id (.obj v false (.bx e t.size (.pr (.d (.arr k t) (r.take k)) (.pr u (.d (.arr (r.drop (k+1)).length t) (r.drop (k+1)))))))).put (some j) (.ptr id ver p' n)) a w:=by
 have db:=eJ kG
 obtain⟨hz,hO⟩:qf (s.env w g β) id false (.vec e t r):=h.bU id v false _ db
 have hO:(match β id with
  |none=>r=[]
  |some pl=>∃cur k,w.heap[pl.b]? =some (.cells cur e (0,0))/\cur.size=pl.cap*t.size/\r.length<=pl.cap/\pl.cap<=maxLen/\g pl.b= .own (.id id) k/\
    k<=r.length*t.size/\(false=false->k=0)/\bA (dn (s.env w g β) t) (cur.toList.take (r.length*t.size)) r):=hO
 have ht:=Trans.refl w g
 have hle:c7 (s.env w g β) ((s.aX id (.obj v false (.bx e t.size (.pr (.d (.arr k t) (r.take k)) (.pr u (.d (.arr (r.drop (k+1)).length t) (r.drop (k+1)))))))).env w g β):=
  c7.aX db (ay _) ht (λ_ _=>rfl) (λ_=>rfl)
 have hI:=h.step (du _ _ _) ht hle (jd.aX h.bU (by rw[db];simp) hle (λ_ _=>rfl) (λ_ _ _ _ _ _ _ _=>⟨rfl,rfl⟩) (PT:=xT db) (by
  cases hp:β id with
  |none=>rw[hp]at hO;simp only at hO;subst hO;simp at hk
  |some pl=>
   rw[hp]at hO
   obtain⟨cur,k0,q1,q2,q3,q4,q5,q6,q7,q8⟩:=hO
   have Oz:=q7 rfl
   subst Oz
   have Hl:∀c x,dn (s.env w g β) t c x->c.length=t.size:=λc x hx=>hx.size
   have c1:=bA.take Hl k q8
   have c2:=(q8.get Hl k hk)
   have c3:=bA.drop Hl (k+1) q8
   have Fb:V (s.env w g β) u (((cur.toList.take (r.length*t.size)).drop (k*t.size)).take t.size):=wV t _ u (by rw[BY hk]at hu;exact hu) _ c2
   have V9:=Fb.size
   have hlen:(cur.toList.take (r.length*t.size)).length=r.length*t.size:=bA.length Hl q8
   have oG:r.length*t.size<=cur.size:=by rw[q2];exact dr _ q3
   have Wv:(k+1)*t.size<=r.length*t.size:=dr _ hk
   have Ja:(k+1)*t.size=k*t.size+t.size:=Nat.succ_mul k t.size
   have P2:u.size=t.size:=by rw[<-V9,cU,dx,hlen];omega
   have hm:(r.drop (k+1)).length*t.size=r.length*t.size - (k+1)*t.size:=by rw[dx,Nat.sub_mul]
   have J6:(az.pr (.d (.arr k t) (r.take k)) (.pr u (.d (.arr (r.drop (k+1)).length t) (r.drop (k+1))))).size=r.length*t.size:=by
    simp only[az.size,Ty.size,P2,hm]
    omega
   refine yK.obj ⟨pl,cur,e,hp,q1,q5,JL hz q2 q4 (by rw[J6];exact oG),?_⟩
   rw[FB hz,J6]
   refine V.mono hle ?_
   show V _ (.pr (.d (.arr k t) (r.take k)) (.pr u (.d (.arr (r.drop (k+1)).length t) (r.drop (k+1))))) _
   simp only[V]
   generalize cur.toList.take (r.length*t.size)=R at*
   refine⟨R.take (k*t.size),R.drop (k*t.size),(dL _ _).symm,?_,(R.drop (k*t.size)).take t.size,R.drop ((k+1)*t.size),?_,Fb,?_⟩
   ·simp only[dn]
    exact⟨by rw[cU];omega,c1⟩
   ·rw[Ja,<-fI,dL]
   ·simp only[dn]
    exact⟨trivial,c3⟩))
 refine⟨g,β,hI.Sv j ?_⟩
 have:=h.cO j
 rw[hj]at this
 exact GK (VS.mono hle this)
theorem yZ:∀(l:List Nat) {s s1:AS},iN C s a w->(JY s l).eval=some s1->iN C s1 a w
 |[],s,s1,h,he=>by
  simp only[JY]at he
  obtain rfl:=aw.1 he
  exact h
 |j::l,s,s1,h,he=>by
  obtain⟨g,β,h⟩:=h
  simp only[JY]at he
  split at he
  ·rename_i id ver k p n hj
   split at he
   ·rename_i v e t r kG
    obtain⟨h1,he⟩:=aC.1 he
    obtain⟨h2,he⟩:=bZ.1 he
    obtain⟨u,h3,he⟩:=au.1 he
    exact yZ l (h.Rl hj kG (of_decide_eq_true h2) h3) he
   ·simp only[ao]at he
  ·exact yZ l ⟨g,β,h⟩ he
  ·simp only[ao]at he
theorem yW{s:AS}{id i:Id}(h:i≠id):(s.freeze id).cz i=s.cz i:=by
 unfold AS.freeze
 split
 ·exact dh s id i _ h
 ·rfl
theorem qW:∀(ids:List Id) {s:AS} {i:Id},i ∉ ids->(s.bD ids).cz i=s.cz i
 |[],_,_,_=>rfl
 |id::ids,s,i,h=>by
  have h1:i≠id:=λe=>h (by rw[e];exact aN)
  exact(qW ids λhi=>h (aL _ hi)).trans (yW h1)
theorem Inv.Sx(h:Inv C g β s a w){j:Nat}{id:Id}{ver n k m v z:Nat}{p p':List v8}(hj:s.slot j= .ptr id ver p n){e:TypeId}{t:Ty}{l1 l2:List t.den}{u:az}
  (kG:s.obj id=some (v,false,.bx e z (.pr (.d (.arr k t) l1) (.pr u (.d (.arr m t) l2))))) (hz:z=t.size) (P6:0 < z) (dz:id ∉ u.shared) {x:t.den} (hx:(s.jj t u).eval=some x):
  iN C (((s.bD u.shared).aX id (.obj v false (.vec e t (l1++x::l2)))).put (some j) (.ptr id ver p' n)) a w:=by
 have db:=eJ kG
 obtain⟨pl0,cur0,e0,PX,PN,PM,Oz,hV0⟩:=(h.bU id v false _ db).box rfl
 obtain⟨g',h1,h2,h3,h4⟩:=gj u.shared h
 have qZ:(s.bD u.shared).cz id=some (.obj v false (.bx e z (.pr (.d (.arr k t) l1) (.pr u (.d (.arr m t) l2))))):=(qW _ dz).trans db
 obtain⟨pl,cur,e1,hp,hh,hg,hk,hV⟩:=(h1.bU id v false _ qZ).box rfl
 have hp:β id=some pl:=hp
 have xw:pl0=pl:=by
  have PX:β id=some pl0:=PX
  rw[PX]at hp
  exact bB hp
 subst xw
 have fF:cur0=cur:=by
  have PN:w.heap[pl0.b]? =_:=PN
  have hh:w.heap[pl0.b]? =_:=hh
  rw[PN]at hh
  simpa using(congrArg (λo=>match o with | some (.cells x _ _)=>x | _=>cur0) hh)
 subst fF
 obtain⟨rfl,q2,q4,q3⟩:=EP P6 hk
 rw[FB P6]at hV0
 have hV0:V (s.env w g β) (.pr (.d (.arr k t) l1) (.pr u (.d (.arr m t) l2))) _:=hV0
 have V4:=hV0.size
 simp only[V]at hV0
 obtain⟨ca,cb,hR,hA,cu,cc,PH,hU,hB⟩:=hV0
 subst PH
 simp only[dn]at hA hB
 have hX:=qJ rfl h.bU h2 u t x cu hU hx h4
 have Hl:∀c x,dn ((s.bD u.shared).env w g' β) t c x->c.length=t.size:=λc x hx=>hx.size
 have cA:=hA.2.mono λ_ _ hx=>hx.mono h2.mem
 have cB:=hB.2.mono λ_ _ hx=>hx.mono h2.mem
 have pT:bA (dn ((s.bD u.shared).env w g' β) t) (ca++(cu++cc)) (l1++x::l2):=bA.append cA ⟨cu,cc,rfl,hX,cB⟩
 have hlen:=bA.length Hl pT
 have J6:(az.pr (.d (.arr k t) l1) (.pr u (.d (.arr m t) l2))).size=(l1++x::l2).length*t.size:=by rw[<-hlen,<-hR];exact V4.symm
 rw[J6]at hR q3
 rw[hz]at q2
 have H0:(l1++x::l2).length<=pl0.cap:=by
  rw[q2]at q3
  exact Nat.le_of_mul_le_mul_right q3 (by omega)
 have ht:=Trans.refl w g'
 have hle:c7 ((s.bD u.shared).env w g' β) (((s.bD u.shared).aX id (.obj v false (.vec e1 t (l1++x::l2)))).env w g' β):=c7.aX qZ (ay _) ht (λ_ _=>rfl) (λ_=>rfl)
 have hI:=h1.step (du _ _ _) ht hle (jd.aX h1.bU (by rw[qZ];simp) hle (λ_ _=>rfl) (λ_ _ _ _ _ _ _ _=>⟨rfl,rfl⟩) (PT:=mV qZ λ_ _ _ e=>by cases e) (by
  refine⟨by omega,?_⟩
  show(match β id with
   |none=>l1++x::l2=[]
   |some pl=>_)
  rw[hp]
  exact⟨cur0,0,hh,q2,H0,q4,hg,aV _,λ_=>rfl,by rw[hR];exact pT.mono λ_ _ hx=>hx.mono hle.mem⟩))
 refine⟨g',β,hI.Sv j ?_⟩
 have:=h.cO j
 rw[hj]at this
 exact GK (VS.mono (h2.trans hle) this)
theorem D4:∀(l:List Nat) {s s1:AS},iN C s a w->(MS s l).eval=some s1->iN C s1 a w
 |[],s,s1,h,he=>by
  simp only[MS]at he
  obtain rfl:=aw.1 he
  exact h
 |j::l,s,s1,h,he=>by
  obtain⟨g,β,h⟩:=h
  simp only[MS]at he
  split at he
  ·rename_i id ver p n hj
   split at he
   ·rename_i v e z k t l1 u m t' l2 kG
    obtain⟨h1,he⟩:=aC.1 he
    obtain⟨l2',h2,he⟩:=au.1 he
    obtain⟨x,h3,he⟩:=au.1 he
    simp only[ak,beq_iff_eq,bX,beq_eq_false_iff_ne]at h1
    obtain⟨⟨⟨h5,h6⟩,h7⟩,h8⟩:=h1
    obtain⟨et,hl⟩:=jI (jW.1 h2)
    have et':t'=t:=by simpa using et
    subst et'
    simp only at hl
    subst hl
    refine D4 l (h.Sx hj kG h6 (by omega) (λhi=> ?_) h3) he
    have:(u.shared.any λi=>decide (i=id))=true:=List.any_eq_true.2 ⟨id,hi,by simp⟩
    rw[this]at h8
    cases h8
   ·simp only[ao]at he
  ·simp only[ao]at he
theorem rW:∀(l:List SC) {s s1:AS},iN C s a w->(zK s l).eval=some s1->iN C s1 a w
 |[],s,s1,h,he=>by
  simp only[zK]at he
  obtain rfl:=aw.1 he
  exact h
 |o::l,s,s1,h,he=>by
  obtain⟨g,β,h⟩:=h
  unfold zK at he
  split at he
  ·exact rW l ⟨g,β,h⟩ he
  obtain⟨u,hu,he⟩:=au.1 he
  obtain⟨x,hx,he⟩:=au.1 he
  obtain⟨s',hs,he⟩:=au.1 he
  exact rW l (h.Rh hu hx hs) he
theorem mc(hC:C.ok):∀(l:List Nd) {s s1:AS},iN C s a w->(rD P s l).eval=some s1->iN C s1 a w
 |[],s,s1,h,he=>by
  simp only[rD]at he
  obtain rfl:=aw.1 he
  exact h
 |o::l,s,s1,h,he=>by
  obtain⟨g,β,h⟩:=h
  unfold rD at he
  split at he
  ·exact mc hC l ⟨g,β,h⟩ he
  obtain⟨u,hu,he⟩:=au.1 he
  split at he
  ·split at he
   ·rename_i e t b wc hv
    obtain⟨s',h1,h2⟩:=au.1 he
    exact mc hC l (h.Sp hu hv (CO wc) h1) h2
   ·simp only[ao]at he
  ·split at he
   ·rename_i b j ver UZ
    split at he
    ·rename_i v fr c kG hm
     split at he
     ·have QG:b < s.news.length:=by
       have:=eJ kG
       simp only[AS.cz,aF]at this
       cases hn:s.news[b]? with
       |none=>rw[hn]at this;simp at this
       |some es=>exact(dR.1 hn).1
      obtain⟨g1,β1,h1⟩:=h.vn hC QG (by simpa using hm)
      exact mc hC l ⟨g1,β1,h1⟩ he
     ·simp only[ao]at he
    ·simp only[ao]at he
   ·simp only[ao]at he
theorem xq:∀(l:List Nat) {s s1:AS},iN C s a w->(D3 s l).eval=some s1->iN C s1 a w
 |[],s,s1,h,he=>by
  simp only[D3]at he
  obtain rfl:=aw.1 he
  exact h
 |j::l,s,s1,h,he=>by
  obtain⟨g,β,h⟩:=h
  simp only[D3]at he
  split at he
  ·rename_i id ver len hj
   split at he
   ·rename_i v e t r kG
    split at he
    ·obtain⟨h1,h2⟩:=bZ.1 he
     have h1:len<=r.length:=by simpa using h1
     refine xq l ?_ h2
     have db:=eJ kG
     have hO:qf (s.env w g β) id false (.vec e t r):=h.bU id v false _ db
     have ht:=Trans.refl w g
     have hle:c7 (s.env w g β) ((s.aX id (.obj v false (.vec e t (r.take len)))).env w g β):=c7.aX db (ay _) ht (λ_ _=>rfl) (λ_=>rfl)
     refine⟨g,β,h.step (du _ _ _) ht hle (jd.aX h.bU (by rw[db];simp) hle (λ_ _=>rfl) (λ_ _ _ _ _ _ _ _=>⟨rfl,rfl⟩) ?_ (xT db))⟩
     obtain⟨hz,hO⟩:=hO
     refine⟨hz,?_⟩
     have hO:(match β id with
      |none=>r=[]
      |some pl=>∃cur k,w.heap[pl.b]? =some (.cells cur e (0,0))/\cur.size=pl.cap*t.size/\r.length<=pl.cap/\pl.cap<=maxLen/\g pl.b= .own (.id id) k/\
        k<=r.length*t.size/\(false=false->k=0)/\bA (dn (s.env w g β) t) (cur.toList.take (r.length*t.size)) r):=hO
     show(match β id with
      |none=>r.take len=[]
      |some pl=>_)
     cases hp:β id with
     |none=>rw[hp]at hO;simp only at hO;subst hO;simp
     |some pl=>
      rw[hp]at hO
      obtain⟨cur,k,q1,q2,q3,q4,q5,q6,q7,q8⟩:=hO
      have hk:=q7 rfl
      subst hk
      have hlen:(r.take len).length=len:=by simp;omega
      refine⟨cur,0,q1,q2,by omega,q4,q5,aV _,λ_=>rfl,?_⟩
      have:=bA.take (λ_ _ hx=>dn.size hx) len q8
      rw[jU,fp (dr _ h1)]at this
      rw[hlen]
      exact this.mono λ_ _ hx=>hx.mono hle.mem
    ·simp only[ao]at he
   ·simp only[ao]at he
  ·simp only[ao]at he
theorem xy:∀(l:List (Nat×Ty)) {s s1:AS},iN C s a w->(asData s l).eval=some s1->iN C s1 a w
 |[],s,s1,h,he=>by
  simp only[asData]at he
  obtain rfl:=aw.1 he
  exact h
 | (j,t)::l,s,s1,h,he=>by
  obtain⟨g,β,h⟩:=h
  simp only[asData]at he
  obtain⟨x,h1,h2⟩:=au.1 he
  obtain⟨g',i1,_,_,cs,hR,hO⟩:=sE h (h.cO j) h1
  exact xy l ⟨g',β,i1.Sv j (VS.of (a:= .d t x) (cs:=cs) (by simpa only[V]using hR) hO)⟩ h2
theorem Inv.still:∀(l:List Nat) {s:AS},Inv C g β s a w->Inv C g β (s.still l) a w
 |[],s,h=>h
 |q::l,s,h=>by
  simp only[AS.still]
  split
  ·rename_i v fr i ver k t r cu kG
   exact Inv.still l (h.OM (eJ kG) (.inr ⟨rfl,rfl,rfl⟩))
  ·exact Inv.still l h
theorem zH{α:Type}(l:List α):(HD l).Perm l:=Quotient.exact (s:=Mv α) (Quotient.exists_rep (Quotient.mk (Mv α) l)).choose_spec
theorem Inv.canon:∀(l:List Id) {s:AS},Inv C g β s a w->Inv C g β (s.canon l) a w
 |[],s,h=>h
 |id::l,s,h=>by
  simp only[AS.canon]
  split
  ·rename_i v fr k t r kG
   have db:=eJ kG
   have ht:=Trans.refl w g
   have hle:c7 (s.env w g β) ((s.aX id (.obj v fr (.mp k t (HD r)))).env w g β):=c7.aX db (ay _) ht (λ_ _=>rfl) (λ_=>rfl)
   obtain⟨pl,es,clock,h1,h2,h3,⟨⟨l',h4,h5⟩,h6⟩,h7⟩:=h.bU id v fr _ db
   refine Inv.canon l (h.step (du _ _ _) ht hle (jd.aX h.bU (by rw[db];simp) hle (λ_ _=>rfl) (λ_ _ _ _ _ _ _ _=>⟨rfl,rfl⟩)
    ⟨pl,es,clock,h1,h2,h3,⟨⟨l',h4.mono λ_ _ he=>he.mono hle.mem,h5.trans (zH r).symm⟩,(((zH r).map _).nodup_iff).2 h6⟩,h7⟩ ?_))
   intro ver k' v' l2 hl
   rw[db]at hl
   simp only[ax,ea.obj.injEq]at hl
   obtain⟨rfl,rfl,_⟩:=hl
   exact⟨rfl,rfl,⟨_,_,_,rfl⟩,λ_ _=>⟨rfl,rfl⟩⟩
  ·exact Inv.canon l h
theorem FF(k v n:Nat)(i:Id)(ver:Nat):(i= .dB k/\ver=v/\qj k v n i ver=some (.dB k,n))\/(i= .dB k/\qj k v n i ver=none)\/(i≠ .dB k/\qj k v n i ver=some (i,ver)):=by
 cases i with
 |new x j=>exact .inr (.inr ⟨by simp,rfl⟩)
 |dB j=>
  simp only[qj]
  cases h1:Nat.beq j k with
  |false=>exact .inr (.inr ⟨λe=>by injection e with e;subst e;simp at h1,rfl⟩)
  |true=>
   obtain rfl:=fk h1
   cases h2:Nat.beq ver v with
   |false=>exact .inr (.inl ⟨rfl,rfl⟩)
   |true=>exact .inl ⟨rfl,fk h2,rfl⟩
theorem FD(hC:C.ok){s s1:AS}(h:Inv C g β s a w){k n:Nat}(he:(s.Ln k n).eval=some s1):Inv C g β s1 a w:=by
 unfold AS.Ln at he
 split at he
 rotate_left
 ·exact(ao.1 he).elim
 rename_i v fr c hk
 obtain⟨Vc,he⟩:=aC.1 he
 have Vc:v<=n\/1<=n:=(Bool.or_eq_true_iff.1 Vc).imp gJ gJ
 have hz:∀ver,C.E.uw (.dB k) ver->ver=0:=λver hb=>by
  obtain⟨h1,h2⟩:=hb
  cases hs:C.E.s (.dB k) with
  |none=>exact absurd hs h1
  |some en=>
   cases en with
   |dead=>
    have:=(h.le.uw (.dB k) (v+1) ⟨h1,λv' fr' c' hh=>by rw[hs]at hh;cases hh⟩).2 _ _ _ hk
    omega
   |obj v0 fr0 c0=>
    have:=hC.2 _ _ _ _ hs
    have:=h2 _ _ _ hs
    omega
 obtain rfl:=aw.1 he
 have SO:k < s.cT.length:=by
  rcases mO k s.cT.length with h | h
  ·exact h
  ·simp[AS.cz,dS h]at hk
 generalize CG:({cO:=s.cO.map (az.ja (qj k v n)),cT:=(s.cT.map (ea.Ix (qj k v n))).set k (.obj n fr (c.ja (qj k v n))),news:=s.news.map λes=>es.map (ea.Ix (qj k v n))}:AS)=s1
 have e0:s1.cz (.dB k)=some (.obj n fr (c.ja (qj k v n))):=by
  rw[<-CG]
  simp[AS.cz,SO]
 have e1:∀i,i≠ .dB k->s1.cz i=(s.cz i).map (ea.Ix (qj k v n)):=λi hi=>by
  rw[<-CG]
  cases i with
  |dB j=>
   have:¬k=j:=λe=>hi (by rw[e])
   simp only[AS.cz]
   rw[fc this,fv]
  |new x j=>
   simp only[AS.cz,aF,fv]
   cases s.news[x]? <;> simp
 have e2:∀i v' fr' c',i≠ .dB k->s1.cz i=some (.obj v' fr' c')->∃c0,s.cz i=some (.obj v' fr' c0)/\c'=c0.ja (qj k v n):=λi v' fr' c' hi hh=>by
  rw[e1 i hi]at hh
  cases hs:s.cz i with
  |none=>rw[hs]at hh;cases hh
  |some en=>
   rw[hs]at hh
   cases en with
   |dead=>simp[ea.Ix]at hh
   |obj v0 fr0 c0=>
    simp only[eF,ea.Ix,ax,ea.obj.injEq]at hh
    obtain⟨rfl,rfl,rfl⟩:=hh
    exact⟨c0,rfl,rfl⟩
 have e3:∀i,i≠ .dB k->s.cz i≠none->s1.cz i≠none:=λi hi hh=>by
  rw[e1 i hi]
  cases hs:s.cz i with
  |none=>exact absurd hs hh
  |some en=>simp
 have hle:sS (qj k v n) (s.env w g β) (s1.env w g β):=by
  refine⟨Trans.mem (E:=s.env w g β) (E':=s1.env w g β) (Trans.refl w g),λi ver r hr J4=> ?_⟩
  rcases FF k v n i ver with⟨rfl,rfl,e⟩ | ⟨rfl,e⟩ | ⟨hi,e⟩
  ·rw[e]at hr
   obtain rfl:=bB hr
   refine⟨⟨by show s1.cz (.dB k)≠none;rw[e0];simp,λv' fr' c' hh=> ?_⟩,λ_=>⟨⟨fr,c,hk⟩,rfl⟩⟩
   have hh:s1.cz (.dB k)=some (.obj v' fr' c'):=hh
   rw[e0]at hh
   simp only[ax,ea.obj.injEq]at hh
   exact Nat.le_of_eq hh.1
  ·rw[e]at hr
   cases hr
  ·rw[e]at hr
   obtain rfl:=bB hr
   obtain⟨k1,k2⟩:=J4
   have k1:s.cz i≠none:=k1
   have k2:∀v' fr' c',s.cz i=some (.obj v' fr' c')->ver<=v':=k2
   refine⟨⟨e3 i hi k1,λv' fr' c' hh=> ?_⟩,λ⟨fr',c',hh⟩=> ?_⟩
   ·obtain⟨c0,AF,_⟩:=e2 i v' fr' c' hi hh
    exact k2 _ _ _ AF
   ·obtain⟨c0,AF,_⟩:=e2 i ver fr' c' hi hh
    exact⟨⟨fr',c0,AF⟩,rfl⟩
 refine⟨h.defers,by rw[<-CG];simpa using h.size,λi=> ?_,λid ver fr' c' dz=> ?_,h.trans,?_⟩
 ·have:s1.slot i=(s.slot i).ja (qj k v n):=by rw[<-CG];exact GY _ rfl _ _
  rw[this]
  exact wJ hle (h.cO i)
 ·have dz:s1.cz id=some (.obj ver fr' c'):=dz
  by_cases hi:id= .dB k
  ·subst hi
   rw[e0]at dz
   simp only[ax,ea.obj.injEq]at dz
   obtain⟨rfl,rfl,rfl⟩:=dz
   exact qg hle (h.bU (.dB k) v fr c hk) (id':= .dB k) rfl λpl _=>⟨rfl,λ_ h=>h,λh=>h⟩
  ·obtain⟨c0,AF,rfl⟩:=e2 id ver fr' c' hi dz
   exact qg hle (h.bU id ver fr' c0 AF) (id':=id) rfl λpl _=>⟨rfl,λ_ h=>h,λh=>h⟩
 ·have hl:=h.le
  refine⟨hl.mem.trans (Trans.mem (E:=s.env w g β) (E':=s1.env w g β) (Trans.refl w g)),λid ver hb=> ?_,λid ver hb hc=> ?_⟩
  ·obtain⟨h1,h2⟩:=hl.uw _ ver hb
   have h1:s.cz id≠none:=h1
   have h2:∀v' fr' c',s.cz id=some (.obj v' fr' c')->ver<=v':=h2
   by_cases hi:id= .dB k
   ·subst hi
    obtain rfl:=hz ver hb
    exact⟨by show s1.cz (.dB k)≠none;rw[e0];simp,λv' fr' c' hh=>aV _⟩
   ·exact⟨e3 id hi h1,λv' fr' c' hh=>let⟨c0,AF,_⟩:=e2 id v' fr' c' hi hh;h2 _ _ _ AF⟩
  ·obtain⟨fr',c',hc⟩:=hc
   have hc:s1.cz id=some (.obj ver fr' c'):=hc
   by_cases hi:id= .dB k
   ·subst hi
    obtain rfl:=hz ver hb
    rw[e0]at hc
    simp only[ax,ea.obj.injEq]at hc
    have e4:=hc.1
    obtain rfl:v=0:=by omega
    exact hl.cur _ _ hb ⟨fr,c,hk⟩
   ·obtain⟨c0,AF,_⟩:=e2 id ver fr' c' hi hc
    exact hl.cur _ _ hb ⟨fr',c0,AF⟩
theorem tP(hC:C.ok):∀(l:List (Nat×Nat)) {s s1:AS},Inv C g β s a w->(FE s l).eval=some s1->Inv C g β s1 a w
 |[],s,s1,h,he=>by
  obtain rfl:=aw.1 he
  exact h
 |x::l,s,s1,h,he=>by
  obtain⟨s2,h1,h2⟩:=au.1 he
  exact tP hC l (FD hC h h1) h2
theorem mF(hC:C.ok){an:mN}{s1:AS}(h:iN C s a w)(he:(norm P an s).eval=some s1):iN C s1 a w:=by
 unfold norm at he
 obtain⟨sb,Vn,he⟩:=au.1 he
 obtain⟨su,Vo,he⟩:=au.1 he
 obtain⟨sd,Tp,he⟩:=au.1 he
 obtain⟨s0,h1,h2⟩:=au.1 he
 obtain⟨h3,h4⟩:=aC.1 h2
 obtain⟨sf,h5,h6⟩:=au.1 h4
 obtain⟨g0,β0,h0⟩:=h
 obtain⟨g1,i1,_⟩:=gj an.HT (tP hC _ h0 Vn)
 obtain⟨g,β,h⟩:=xy _ (rW _ (D4 _ ⟨g1,β0,(i1.still an.Vf).canon an.Re⟩ Vo) Tp) h1
 exact mc hC _ (yZ _ ⟨g,β,h.bm hC h3⟩ h5) h6
end
end Go.Ab
end
