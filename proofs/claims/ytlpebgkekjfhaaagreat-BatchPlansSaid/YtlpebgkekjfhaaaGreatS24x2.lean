/-
  Made short by a program of mine (wip/tools/mini.py).
-/
import Derived.Test.YtlpebgkekjfhaaaGreatS24x1
import Derived.Lib.Builder
import Derived.Lib.UnsafeStr
import Derived.Lib.AppendZeros
import Derived.Maps.RangeRun
set_option linter.unusedVariables false
set_option linter.unusedSimpArgs false
set_option maxRecDepth 100000
set_option synthInstance.maxSize 5000
noncomputable section
namespace Go.Ab
section
variable {P:Program} {C:Ctx} {g:Nat->jW} {β:Id->Option Pl} {s:AS} {a:Act} {w:World} {o:Oper}
theorem qG{b:Builtin}{args:Array Operand}{ts:Array TypeId}{f:Sem Value}{x:Value}{w':World}(ho:o.op= .call {callee:= .builtin b,args,argTypes:=ts})
  (hb:∀ty cs xs,xs=args.map a.eval->builtin b ts ty cs xs=(do pure (.value (<-f)))) (hf:f.run P w= .ok x w'):(execOp a.eval o).run P w= .ok (.value x) w':=by
 simp only[execOp,ho,resolve,Sem.run_bind,Sem.run_pure,Result.andThen_ok,invoke]
 rw[hb _ _ _ rfl,Sem.run_bind,hf]
 rfl
theorem J1(h:Inv C g β s a w){c:Call}{x:Operand}{T:TypeId}(ho:o.op= .call c)(hc:c.callee= .builtin .len)(ha:c.args.toList=[x])(ht:c.argTypes.toList=[T]){v:aw}(he:(LD P T (s.ev x)).eval=some v):
  eT P o a w (gm C (s.put o.dst v)):=by
 obtain⟨cal,args,tys⟩:=c
 simp only at hc ha ht
 have ha':args= #[x]:=by apply fo;simpa using ha
 have ht':tys= #[T]:=by apply fo;simpa using ht
 subst hc ha' ht'
 have hx:=h.ev x
 have fin:∀z,(Builtin.len_ #[T] 0 #[a.eval x]).run P w= .ok z w->VS (s.env w g β) v z->eT P o a w (gm C (s.put o.dst v)):=by
  intro z h1 h2
  refine h.value h2 (qG ho (f:=Builtin.len_ #[T] 0 #[a.eval x]) (λty cs xs E4=> ?_) h1)
  subst E4
  have e1:Builtin.len_ #[T] 0 #[a.eval x]=Builtin.len_ #[T] ty #[a.eval x]:=rfl
  rw[e1]
  simp[builtin]
 unfold LD at he
 split at he
 ·rename_i st hT hl
  rw[hl]at hx
  obtain rfl:=aq.1 he
  refine fin (.int .i64 (st.size:Int)) ?_ (jn _ _)
  rw[te hx]
  simp[Builtin.len_,run_underlying hT,goInt]
 ·rename_i e t l hT hl
  rw[hl]at hx
  obtain rfl:=aq.1 he
  obtain⟨ad,cap,vs,hy,_⟩:=mO hx
  refine fin (.int .i64 (l.length:Int)) ?_ (jn _ _)
  rw[hy]
  simp[Builtin.len_,run_underlying hT,goInt]
 ·rename_i e hT hl
  rw[hl]at hx
  obtain rfl:=aq.1 he
  refine fin (.int .i64 0) ?_ (jn _ _)
  rw[ji hx]
  simp[Builtin.len_,run_underlying hT,goInt]
 ·rename_i e id ver p c i len hT hl
  rw[hl]at hx
  obtain rfl:=aq.1 he
  obtain⟨ad,cap,hy,_⟩:=lK hx
  refine fin (.int .i64 (len:Int)) ?_ (jn _ _)
  rw[hy]
  simp[Builtin.len_,run_underlying hT,goInt]
 ·rename_i n e hT
  obtain rfl:=aq.1 he
  refine fin (.int .i64 (n:Int)) ?_ (jn _ _)
  simp[Builtin.len_,run_underlying hT,goInt]
 ·simp only[aj]at he
def Env.open(E:Env):Env:= {E with g:=λ_=> .free}
theorem LM(E:Env):cD E E.open:=⟨⟨λ_ _ _ h=>⟨h.1,trivial⟩,λ_ _ _ h=>⟨rfl,h⟩⟩,λ_ _ h=>h,λ_ _ _ h=>⟨h,rfl⟩⟩
theorem Gf(h:Inv C g β s a w){v:aw}{y:Value}(hv:VS (s.env w g β) v y){t:Ty}{x:t.den}(ht:(s.Ge t v).eval=some x):
  ∃cs,cT (s.env w g β).open t cs x/\eW t.agg cs y:=by
 obtain⟨cs,hV,hO⟩:=hv.dZ (qC ht)
 exact⟨cs,ou rfl h.bE (LM _) v t x cs hV ht (λid _ v fr c _ pl _ j x hx _=>⟨hx,trivial⟩),by rw[<-Aw ht];exact hO⟩
theorem nR{E:Env}{k:IntKind}:∀ {vs:List Value} {l:List Int},aV (cT E (.int k)) vs l->vs=l.map (Value.int k)
 |vs,[],h=>h
 |_,x::xs,⟨c,cs',e,hx,hr⟩=>by
  have hx':c=[Value.int k x]:=by simpa only[cT]using hx
  rw[e,hx',nR hr]
  rfl
theorem nU{E:Env}{k:IntKind}:∀(l:List Int),aV (cT E (.int k)) (l.map (Value.int k)) l
 |[]=>rfl
 |x::xs=>⟨[.int k x],xs.map (Value.int k),rfl,by simp[cT],nU xs⟩
theorem foldl_push(l:List Int):∀b:ByteArray,l.foldl (λr n=>r.push (UInt8.ofNat n.toNat)) b=⟨b.data++(l.map λn=>UInt8.ofNat n.toNat).toArray⟩:=by
 induction l with
 |nil=>intro b;simp
 |cons n l ih=>
  intro b
  rw[cG,ih]
  simp[ByteArray.push]
theorem Ex{α:Type}(xs:Array α)(x:α)(f:α->α):(xs.push x).modify xs.size f=xs.push (f x):=by
 apply lM
 intro i
 rw[fu,Array.getElem?_push,Array.getElem?_push]
 by_cases h:i=xs.size
 ·subst h;simp
 ·have h':¬xs.size=i:=λe=>h e.symm
  simp[h,h']
theorem Ct(w:World)(c:Array Value)(e:TypeId)(n:Nat):(w.alloc (.cells c e)).freeze ⟨w.heap.size,n,none⟩ 1=w.alloc (.cells c e (n,n+1)):=by
 show({w with heap:=(w.heap.push (.cells c e)).modify w.heap.size _}:World)= {w with heap:=w.heap.push (.cells c e (n,n+1))}
 rw[Ex]
 rfl
theorem DH{w:World}{b:Nat}{c:Array Value}{e:TypeId}{n:Nat}(h:w.heap[b]? =some (.cells c e (n,n+1))):w.freeze ⟨b,n,none⟩ 1=w:=by
 unfold World.freeze
 rw[if_neg (by omega)]
 have:∀f:Obj->Obj,f (.cells c e (n,n+1))= .cells c e (n,n+1)->w.heap.modify b f=w.heap:=λf hf=>by
  apply lM
  intro i
  rw[fu]
  split
  ·rename_i hi;subst hi;rw[h];simp[hf]
  ·rfl
 rw[this]
 simp
theorem wo(e:TypeId)(st:ByteArray)(w:World):∃cap:Nat,st.size<=cap/\∃arr:Array Value,(∀(j:Nat) (v:Value),((cr st).map (Value.int .u8))[j]? =some v->arr[j]? =some v)/\
  (Conv.stringToBytes e st).run P w= .ok (.slice (some ⟨w.heap.size,0,none⟩) st.size cap) (w.drew.alloc (.cells arr e (arr.size,arr.size+1))):=by
 refine⟨(Question.appendCap st.size 0 e).cut (w.tape w.drawn (.appendCap st.size 0 e)),by simp[Question.cut],
  (st.data.map λb=>Value.int .u8 b.toNat)++Array.replicate ((Question.appendCap st.size 0 e).cut (w.tape w.drawn (.appendCap st.size 0 e)) - st.size) (.int .u8 0),?_,?_⟩
 ·intro j v hj
  have hl:j < st.data.size:=by
   have:=(dj.1 hj).1
   simpa[cr]using this
  rw[iT,if_pos (by simpa using hl)]
  simpa[cr,hl]using hj
 ·have hs:∀(arr:Array Value),(markStringish ⟨w.heap.size,0,none⟩).run P (w.drew.alloc (.cells arr e))= .ok () (w.drew.alloc (.cells arr e (arr.size,arr.size+1))):=by
   intro arr
   have h1:(w.drew.alloc (.cells arr e)).shape? w.heap.size=some (e,arr.size):=by
    have h2:(w.drew.alloc (.cells arr e)).heap[w.heap.size]? =some (.cells arr e):=mw w.drew _
    simp only[World.shape?,h2]
   have h3:=Ct w.drew arr e arr.size
   have h4:w.drew.heap.size=w.heap.size:=rfl
   rw[h4]at h3
   simp only[markStringish,Sem.run_bind,run_shape,h1,Result.andThen_ok,run_freeze,h3]
  simp[Conv.stringToBytes,Question.forced,newRow,hs]
theorem Inv.kill(h:Inv C g β s a w){id:Id}{v:Nat}{fr:Bool}{c:aw}(hs:s.bT id=some (.obj v fr c)){b:Nat}(hg:g b= .own (.id id) 0){w':World}(MG:w'.os=w.os)(Si:w'.tape=w.tape)(Cy:w'.output=w.output/\w.drawn<=w'.drawn)(mE:w'.heap.size=w.heap.size)
  (vG:∀b',b'≠b->w'.heap[b']? =w.heap[b']?):Inv C (j2 g b .free) β (s.aL id .dead) a w':=by
 have ht:Trans w w' g (j2 g b .free):=by
  refine⟨MG,Si,Cy,by omega,λb' hb'=> ?_⟩
  by_cases he:b'=b
  ·subst he
   rw[hg,eQ]
   exact⟨.inl rfl,λ_ _ hh=>by omega⟩
  ·rw[eJ _ _ _ he,vG b' he]
   cases yu:g b' with
   |free=>exact⟨rfl,rfl⟩
   |own o k=>cases o with
    |dH=>exact⟨rfl,rfl⟩
    |id i=>exact⟨.inr ⟨i,k,rfl,az _⟩,λoff v _ hv=>by simp only[World.cell?,vG b' he]at hv ⊢;exact hv⟩
 have jT:=dR s id .dead (by rw[hs];simp)
 have hle:cD (s.env w g β) ((s.aL id .dead).env w' (j2 g b .free) β):=by
  refine⟨Trans.mem ht,λi ver hb=> ?_,λi ver hb hc=> ?_⟩
  ·by_cases hi:i=id
   ·subst hi
    exact⟨by show(s.aL i .dead).bT i≠none;rw[jT];simp,λv fr c hh=>by
     have hh:(s.aL i .dead).bT i=some (.obj v fr c):=hh
     rw[jT]at hh;cases hh⟩
   ·have:=cP s id i .dead hi
    obtain⟨h1,h2⟩:=hb
    exact⟨by show(s.aL id .dead).bT i≠none;rw[this];exact h1,λv fr c hh=>h2 v fr c (this.symm.trans hh)⟩
  ·obtain⟨fr,c,hc⟩:=hc
   have hc:(s.aL id .dead).bT i=some (.obj ver fr c):=hc
   by_cases hi:i=id
   ·subst hi;rw[jT]at hc;cases hc
   ·rw[cP s id i .dead hi]at hc
    exact⟨⟨fr,c,hc⟩,rfl⟩
 refine h.step (cX _ _ _) ht hle λi ver fr c hi=> ?_
 have hi:(s.aL id .dead).bT i=some (.obj ver fr c):=hi
 by_cases cZ:i=id
 ·subst cZ;rw[jT]at hi;cases hi
 ·rw[cP s id i .dead cZ]at hi
  refine(h.bE i ver fr c hi).mono hle rfl (λpl hp=> ?_) λq2 vq k2 v2 l2 yx TA=> ?_
  ·have gS:=h.apart hg cZ hi (pl:=pl) hp
   exact⟨vG pl.b gS,eJ _ _ _ gS⟩
  ·have yx:s.bT q2=some (.obj vq true (.mp k2 v2 l2)):=yx
   have hd:q2≠id:=λe=>by
    obtain⟨fr3,c3,Mu⟩:=TA
    have Mu:(s.aL id .dead).bT q2=some (.obj vq fr3 c3):=Mu
    rw[e,jT]at Mu
    cases Mu
   refine⟨⟨k2,v2,l2,by show(s.aL id .dead).bT q2=_;rw[cP s id q2 .dead hd];exact yx⟩,λpl hp=> ?_⟩
   have gS:=h.apart hg hd yx (pl:=pl) hp
   exact⟨vG pl.b gS,eJ _ _ _ gS⟩
theorem Fv(h:Inv C g β s a w){src dst:TypeId}{x:Operand}(ho:o.op= .convert src dst x){id:Id}{ver len:Nat}(hx:s.ev x= .cO id ver [] 0 0 len){s':AS}(he:(Dv P s o.dst src dst id ver len).eval=some s'):eT P o a w (gm C s'):=by
 unfold Dv at he
 split at he
 ·rename_i v e0 l e ju hD
  split at he
  ·rename_i hE
   obtain⟨h1,h2⟩:=aA.1 he
   obtain⟨h3,h4⟩:=bF.1 h2
   obtain rfl:=aq.1 h4
   simp only[ah,beq_iff_eq]at h1
   obtain⟨rfl,rfl⟩:=h1
   simp only[decide_eq_true_eq]at h3
   obtain⟨h5,h6⟩:=h3
   have cI:=dG ju
   have hv:=h.ev x
   rw[hx]at hv
   obtain⟨ad,cap,hy,vE,_,_,eK⟩:=lK hv
   have eK:=eK ⟨false,_,cI⟩
   have hO:nO (s.env w g β) id false (.vec e0 (.int .u8) l):=h.bE id v false _ cI
   obtain⟨hz,hO⟩:=hO
   have hO:(match β id with
    |none=>l=[]
    |some pl=>∃cur k,w.heap[pl.b]? =some (.cells cur e0 (0,0))/\cur.size=pl.cap*(Ty.int .u8).size/\l.length<=pl.cap/\pl.cap<=maxLen/\g pl.b= .own (.id id) k/\
      k<=l.length*(Ty.int .u8).size/\(false=false->k=0)/\aV (cT (s.env w g β) (.int .u8)) (cur.toList.take (l.length*(Ty.int .u8).size)) l):=hO
   have eK:(match β id with
    |some pl=>(0 < len\/0=0->ad=some ⟨pl.b,0,none⟩)/\(([]:List tJ)=[]->0=0->cap=pl.cap)
    |none=>ad=none/\len=0/\cap=0):=eK
   cases hp:β id with
   |none=>rw[hp]at hO;simp only at hO;subst hO;simp at h6;omega
   |some pl=>
    rw[hp]at hO eK
    obtain⟨cur,k,q1,q2,q3,q4,q5,q6,q7,q8⟩:=hO
    have hk:=q7 rfl
    subst hk
    have HP:=eK.1 (.inr rfl)
    subst HP
    have hb:pl.b < w.heap.size:=(bB.1 q1).1
    have PN:∃w',w.freeze ⟨pl.b,cur.size,none⟩ 1=w'/\w'.heap[pl.b]? =some (.cells cur e0 (cur.size,cur.size+1))/\w'.os=w.os/\w'.tape=w.tape/\(w'.output=w.output/\w.drawn<=w'.drawn)/\w'.heap.size=w.heap.size/\∀b',b'≠pl.b->w'.heap[b']? =w.heap[b']? :=by
     refine⟨_,rfl,?_⟩
     unfold World.freeze
     rw[if_neg (by omega)]
     refine⟨?_,rfl,rfl,⟨rfl,az _⟩,by simp,λb' hb'=> ?_⟩
     ·simp only[fu,if_true,q1,dE]
      rfl
     ·simp only[fu]
      rw[if_neg (λe=>hb' e.symm)]
    obtain⟨w',hw',f1,f2,f3,f4,f5,f6⟩:=PN
    have JK:w.shape? pl.b=some (e0,cur.size):=by simp only[World.shape?,q1]
    have hm:(markStringish ⟨pl.b,0,none⟩).run P w= .ok () w':=by
     simp only[markStringish,Sem.run_bind,run_shape,JK,Result.andThen_ok,run_freeze,hw']
    have i1:=h.kill cI q5 f2 f3 f4 f5 f6
    refine .inl ⟨.slice (some ⟨pl.b,0,none⟩) len cap,w',dz (f:=convert src src (a.eval x)) (by simp only[execOp,ho]) ?_,_,β,i1.put o.dst ⟨_,?_,rfl⟩⟩
    ·rw[hy]
     simp[convert,run_underlying hD,run_underlying hE,hm]
    ·have vH:=nR q8
     have NV:(Ty.int .u8).size=1:=rfl
     rw[NV,nN]at vH
     simp only[V,cT]
     refine⟨_,cap,l.map (Value.int .u8),by rw[h6],by rw[<-h6];exact vE,λ_=>rfl,λj vv hj=>⟨_,_,rfl,?_,?_⟩,nU (E:=(s.aL id .dead).env w' (j2 g pl.b .free) β) _⟩
     ·rw[aR]
      show w'.cell? ⟨pl.b,j,none⟩=some vv
      simp only[World.cell?,f1]
      rw[<-vH,cV]at hj
      split at hj
      ·simpa using hj
      ·cases hj
     ·show mY (j2 g pl.b .free) pl.b (0+j)
      unfold mY
      rw[eQ]
      trivial
  ·simp only[aj]at he
 ·simp only[aj]at he
theorem Le(h:Inv C g β s a w){src dst:TypeId}{x:Operand}(ho:o.op= .convert src dst x){l:List Int}(hl:s.ev x= .sb l){v:aw}(he:(Jp P src dst l).eval=some v):eT P o a w (gm C (s.put o.dst v)):=by
 have hx:=h.ev x
 have fin:∀z,(convert src dst (a.eval x)).run P w= .ok z w->VS (s.env w g β) v z->eT P o a w (gm C (s.put o.dst v)):=by
  intro z h1 h2
  exact h.value h2 (dz (f:=convert src dst (a.eval x)) (by simp only[execOp,ho]) h1)
 unfold Jp at he
 split at he
 ·rename_i e e' hD hS
  rw[hl]at hx
  split at he
  ·rename_i hE
   obtain⟨h1,h2⟩:=aA.1 he
   obtain rfl:=aq.1 h2
   have h1:src=dst:=by simpa using h1
   subst h1
   obtain⟨cs,hv,hO⟩:=hx
   simp only[V]at hv
   obtain⟨b,cap,arr,e2,HT,vE,NK,hb,FL⟩:=hv
   have hO':cs=[a.eval x]:=hO
   rw[HT]at hO'
   have hy:a.eval x= .slice (some ⟨b,0,none⟩) l.length cap:=by simpa using hO'.symm
   rw[hD]at hS
   obtain rfl:e=e':=by simpa using hS
   refine fin (.slice (some ⟨b,0,none⟩) l.length cap) ?_ ⟨_,?_,rfl⟩
   ·rw[hy]
    have hb:w.heap[b]? =some (.cells arr e2 (arr.size,arr.size+1)):=hb
    have PN:=DH hb
    have JK:w.shape? b=some (e2,arr.size):=by simp only[World.shape?,hb]
    have hm:(markStringish ⟨b,0,none⟩).run P w= .ok () w:=by
     simp only[markStringish,Sem.run_bind,run_shape,JK,Result.andThen_ok,run_freeze,PN]
    simp[convert,run_underlying hD,run_underlying hE,hm]
   ·simp only[V,cT]
    refine⟨_,cap,l.map (Value.int .u8),rfl,vE,λ_=>rfl,λj v hj=>⟨_,_,rfl,?_,?_⟩,nU (E:=s.env w g β) _⟩
    ·rw[aR]
     show w.cell? ⟨b,j,none⟩=some v
     have hb:w.heap[b]? =some (.cells arr e2 (arr.size,arr.size+1)):=hb
     simp only[World.cell?,hb]
     simpa using FL j v hj
    ·show mY g b (0+j)
     unfold mY
     have NK:g b= .free:=NK
     rw[NK]
     trivial
  ·simp only[aj]at he
 ·simp only[aj]at he
theorem Cl(h:Inv C g β s a w){obj:Bool}{src dst:TypeId}{x:Operand}(ho:o.op= .convert src dst x){v:aw}(he:(Bo P s obj src dst (s.ev x)).eval=some v):eT P o a w (gm C (s.put o.dst v)):=by
 have hx:=h.ev x
 have fin:∀z,(convert src dst (a.eval x)).run P w= .ok z w->VS (s.env w g β) v z->eT P o a w (gm C (s.put o.dst v)):=by
  intro z h1 h2
  exact h.value h2 (dz (f:=convert src dst (a.eval x)) (by simp only[execOp,ho]) h1)
 unfold Bo at he
 split at he
 ·rename_i l hl
  exact Le h ho hl he
 rename_i MC
 unfold Jo at he
 split at he
 ·rename_i k n k' d hl hD hS
  rw[hl]at hx
  obtain rfl:=aq.1 he
  refine fin (.int k' (k'.wrap n)) ?_ (jn _ _)
  rw[np hx]
  simp[convert,run_underlying hD,run_underlying hS,Conv.intToInt]
 ·rename_i st d hl hD hS
  rw[hl]at hx
  obtain rfl:=aq.1 he
  refine fin (.string st) ?_ (Cd _)
  rw[te hx]
  simp[convert,run_underlying hD,run_underlying hS]
 ·rename_i st e d hl hD hS
  rw[hl]at hx
  split at he
  ·rename_i hE
   obtain⟨cap,vE,arr,FL,kU⟩:=wo (P:=P) e st w
   have i1:=(h.drew).tn (.cells arr e (arr.size,arr.size+1))
   have hlen:(cr st).length=st.size:=by simp only[cr,cg,cz];rfl
   have h2:=mw w.drew (.cells arr e (arr.size,arr.size+1))
   have hex:(execOp a.eval o).run P w= .ok (.value (.slice (some ⟨w.heap.size,0,none⟩) st.size cap)) (w.drew.alloc (.cells arr e (arr.size,arr.size+1))):=by
    refine dz (f:=convert src dst (a.eval x)) (by simp only[execOp,ho]) ?_
    rw[te hx]
    simp[convert,run_underlying hD,run_underlying hS,run_underlying hE,kU]
   have G0:j2 g w.drew.heap.size .free w.heap.size= .free:=by
    rw[show w.drew.heap.size=w.heap.size from rfl,eQ]
   cases obj with
   |false=>
    obtain rfl:=aq.1 he
    refine .inl ⟨_,_,hex,_,β,i1.put o.dst ⟨_,?_,rfl⟩⟩
    simp only[V,cT]
    refine⟨_,cap,(cr st).map (Value.int .u8),by rw[hlen],by omega,λ_=>rfl,λj v hj=>⟨_,_,rfl,?_,?_⟩,nU (E:=s.env (w.drew.alloc (.cells arr e (arr.size,arr.size+1))) (j2 g w.drew.heap.size .free) β) _⟩
    ·have:=FL j v hj
     rw[aR]
     show(w.drew.alloc (.cells arr e (arr.size,arr.size+1))).cell? ⟨w.drew.heap.size,j,none⟩=some v
     simp only[World.cell?,h2]
     simpa using this
    ·show mY (j2 g w.drew.heap.size .free) w.heap.size (0+j)
     unfold mY
     rw[G0]
     trivial
   |true=>
    obtain rfl:=aq.1 he
    refine .inl ⟨_,_,hex,_,β,i1.put o.dst ⟨_,?_,rfl⟩⟩
    simp only[V]
    exact⟨w.heap.size,cap,arr,e,by rw[hlen],by omega,G0,h2,FL⟩
  ·simp only[aj]at he
 ·rename_i e hD hS gS
  clear gS
  split at he
  ·rename_i hE
   obtain⟨l,h1,h2⟩:=ak.1 he
   obtain rfl:=aq.1 h2
   obtain⟨cs,hR,hO⟩:=Gf h hx h1
   simp only[cT]at hR
   obtain⟨ad,cap,vs,rfl,I1,la,oE,nH⟩:=hR
   have hO': [Value.slice ad (List.length l) cap]=[a.eval x]:=hO
   have hy:a.eval x= .slice ad (List.length l) cap:=by simpa using hO'.symm
   refine fin (.string (eI l)) ?_ (Cd _)
   rw[hy,run_convert_bytes_string w src dst e ad _ _ hS hE hD]
   have vH:=nR (E:=(s.env w g β).open) (k:= .u8) (vs:=vs) (l:=l) nH
   cases ad with
   |none=>
    have MC:l=[]:=by
     cases l with
     |nil=>rfl
     |cons _ _=>simp at la
    subst MC
    rfl
   |some ad=>
    have JG:(loadCells ad (List.length l)).run P w= .ok (l.map (Value.int .u8)).toArray w:=by
     have:=run_loadCells_list (P:=P) w ad (l.map (Value.int .u8)) (λj v hj=>by
      rw[<-vH]at hj
      obtain⟨bb,off,e1,hh⟩:=oE j v hj
      simp only[au]at e1
      subst e1
      rw[Addr.add_lit]
      exact hh.1)
     simpa using this
    rw[run_bytesToString w ad _ _ l JG,foldl_push]
    simp[eI]
  ·simp only[aj]at he
 ·simp only[aj]at he
end
end Go.Ab
namespace Go.Ab
section
variable {P:Program} {C:Ctx} {g:Nat->jW} {β:Id->Option Pl} {s:AS} {a:Act} {w:World} {o:Oper}
theorem By(off:Nat):∀(vs:List Value) (k:Nat) (cells:Array Value),off+k+vs.length<=cells.size->
  ((vs.zipIdx k).foldl (λcs (c,j)=>cs.setIfInBounds (off+j) c) cells).toList=df cells.toList (off+k) vs
 |[],k,cells,_=>by simp[df]
 |v::vs,k,cells,h=>by
  simp only[aG]at h
  rw[List.zipIdx_cons,cG,By off vs (k+1) _ (by simpa using(by omega:off+(k+1)+vs.length<=cells.size))]
  rw[Array.toList_setIfInBounds]
  have:=list_seg_step cells.toList (off+k) v vs (by simp;omega)
  unfold df
  simpa[dJ]using this
theorem Bv{place:Nat->Option (Nat×Nat)}{cells:Array Value}{i off:Nat}{v:Value}{vs:List Value}{rest:List (Nat×Value)}(hp:place i=some (off,vs.length))(hv:v.cells=vs.toArray)(hl:off+vs.length<=cells.size):
  Instr.fill place cells ((i,v)::rest)=Instr.fill place (df cells.toList off vs).toArray rest:=by
 have h1:v.cells.size=vs.length:=by rw[hv];simp
 have h2:¬(v.cells.size≠vs.length || off+v.cells.size > cells.size)=true:=by simp[h1];omega
 simp only[Instr.fill,hp]
 rw[if_neg h2]
 congr 1
 apply fo
 have:=By off vs 0 cells (by omega)
 simp only[cn]at this
 rw[<-this,hv]
 rw[<-Array.foldl_toList]
 simp
theorem qP{E E':Env}(hs:E.s=s.bT)(ho:gK E)(he:cD E E'){t:Ty}(HU:∀x,VS E (s.ev x) (a.eval x)):
  ∀(ps:List (Nat×Operand)) (l:List t.den) (r:List t.den×List Id) (cells:Array Value),(im t s ps l).eval=some r->O9 E E' r.2->aV (cT E' t) cells.toList l->
   ∃cells',Instr.fill (λi=>some (i*t.size,t.size)) cells (ps.map λ(i,x)=>(i,a.eval x))=some cells'/\aV (cT E' t) cells'.toList r.1
 |[],l,r,cells,h,_,hc=>by
  obtain rfl:=aq.1 h
  exact⟨cells,rfl,hc⟩
 | (i,x)::ps,l,r,cells,h,hf,hc=>by
  simp only[im]at h
  obtain⟨h1,h2⟩:=aA.1 h
  obtain⟨y,h3,h4⟩:=ak.1 h2
  obtain⟨r',h5,h6⟩:=ak.1 h4
  obtain rfl:=aq.1 h6
  have hi:i < l.length:=by simpa using h1
  obtain⟨cs,hV,hO⟩:=(HU x).dZ (qC h3)
  have hR:=ou hs ho he _ t y cs hV h3 (λid cZ=>hf id (by simp[cZ]))
  have qY:=hO.cells hV.one
  have hlen:=hc.length (λ_ _ hx=>cT.size hx)
  have mE:=hR.size
  have hle:i*t.size+cs.length<=cells.size:=by
   have:=cW t.size (show i+1<=l.length by omega)
   rw[dI,jP]at this
   simp at hlen
   omega
  have CA:=aV.set (λ_ _ hx=>cT.size hx) hc i hi hR
  obtain⟨cells',q1,q2⟩:=qP hs ho he HU ps (l.set i y) r' (df cells.toList (i*t.size) cs).toArray h5 (λid cZ=>hf id (by simp[cZ])) CA
  refine⟨cells',?_,q2⟩
  rw[bJ,Bv (by rw[mE]) qY hle]
  exact q1
theorem mM{E:Env}{t:Ty}{zc:Array Value}(hz:cT E t zc.toList t.zero):∀n:Nat,aV (cT E t) (madeCells zc (n*t.size)).toList (List.replicate n t.zero):=by
 have mE:zc.size=t.size:=by have:=hz.size;simpa using this
 intro n
 induction n with
 |zero=>simp[madeCells,aV]
 |succ n ih=>
  have e:(madeCells zc ((n+1)*t.size)).toList=(madeCells zc (n*t.size)).toList++zc.toList:=by
   apply jd
   intro j
   rw[dI,jP]
   simp only[madeCells,Array.toList_map,Array.toList_range,ez,List.getElem?_append,cg,List.length_range]
   by_cases hj:j < n*t.size
   ·have hj':j < n*t.size+t.size:=by omega
    simp[hj,hj',mE]
   ·by_cases hj':j < n*t.size+t.size
    ·have gV:j - n*t.size < zc.size:=by omega
     have hm:j%t.size=j - n*t.size:=by
      have:j=(j - n*t.size)+t.size*n:=by rw[Nat.mul_comm t.size n];omega
      rw[this,Nat.add_mul_mod_self_left,Nat.mod_eq_of_lt (by omega)]
      rw[Nat.mul_comm t.size n];omega
     simp[hj,hj',mE,hm]
     rw[getElem?_pos zc _ gV,getElem!_pos zc _ gV]
    ·have h1:¬j - n*t.size < zc.size:=by omega
     simp[hj,hj',h1]
  rw[e,List.replicate_succ']
  exact aV.append ih (aV.one hz)
theorem lA{nl:Bool}{T:TypeId}{e:TypeId}{t:Ty}{b:Nat}(h:rz P nl T=some (e,t,b)):
  P.underlying T=some (.slice e)/\0 < t.size/\∃i zv,P.info? e=some i/\i.size=t.size/\i.bytes=b/\i.zero=some zv/\∀E,cT E t zv.cells.toList t.zero:=by
 unfold rz at h
 split at h
 ·rename_i e' hT
  split at h
  ·rename_i t' ht
   split at h
   ·rename_i hg
    simp only[au,cE]at h
    obtain⟨rfl,rfl,rfl⟩:=h
    simp only[ah,bC,beq_iff_eq,beq_eq_false_iff_ne]at hg
    obtain⟨⟨h1,h2⟩,h3⟩:=hg
    obtain⟨i,zv,hi,hz,_,_⟩:=nD h3 {w:=default,g:=λ_=> .free,β:=λ_=>none,s:=λ_=>none}
    refine⟨hT,by omega,i,zv,hi,by rw[<-jY hi];exact h1,by simp[Program.bytesOf,hi],hz,λE=> ?_⟩
    obtain⟨i',zv',hi',hz',hV,_⟩:=nD h3 E
    rw[hi]at hi'
    obtain rfl:i=i':=by simpa using hi'
    rw[hz]at hz'
    obtain rfl:zv=zv':=by simpa using hz'
    simpa only[V]using hV
   ·cases h
  ·cases h
 ·cases h
theorem qI{T:TypeId}{e:TypeId}{t:Ty}{b:Nat}(h:yJ P T=some (e,t,b)):
  P.underlying T=some (.slice e)/\0 < t.size/\∃i zv,P.info? e=some i/\i.size=t.size/\i.bytes=b/\i.zero=some zv/\∀E,cT E t zv.cells.toList t.zero:=lA h
theorem AP{T:TypeId}{e:TypeId}{t:Ty}{b:Nat}(h:Cn P T=some (e,t,b)):0 < t.size:=by
 unfold Cn at h
 split at h
 ·exact(lA h).2.1
 ·exact(lA h).2.1
theorem Inv.CL(h:Inv C g β s a w){q:Nat}(hq:s.dB q=true){e:TypeId}{t:Ty}{l:List t.den}{cur:Array Value}{cap:Nat}(hz:0 < t.size)(hc:aV (cT (s.env w g β) t) (cur.toList.take (l.length*t.size)) l)
  (hs:cur.size=cap*t.size) (hl:l.length<=cap) (hm:cap<=maxLen):
  ∃g' β',Inv C g' β' (s.born q [.obj 0 false (.vec e t l)]) a (w.alloc (.cells cur e))/\
   VS ((s.born q [.obj 0 false (.vec e t l)]).env (w.alloc (.cells cur e)) g' β') (.cO (.new q 0) 0 [] 0 0 l.length) (.slice (some ⟨w.heap.size,0,none⟩) l.length cap):=by
 have ht:=Trans.alloc w g (.cells cur e) (.own (.id (.new q 0)) 0)
 obtain⟨h1,h2⟩:=h.wO hq (c:= .vec e t l) (p:=some ⟨w.heap.size,cap⟩) ht (λb hb=>⟨lr w _ hb,eJ _ _ _ (by omega)⟩) (λhe=>by
  refine⟨hz,?_⟩
  show(match tj β (.new q 0) (some ⟨w.heap.size,cap⟩) (.new q 0) with
   |none=>l=[]
   |some pl=>_)
  rw[iI]
  exact⟨cur,0,mw w _,hs,hl,hm,eQ _ _ _,aP _,λ_=>rfl,hc.mono λ_ _ hx=>hx.mono he.mem⟩)
 refine⟨_,_,h1,_,?_,rfl⟩
 simp only[V]
 refine⟨_,_,rfl,hl,λ_=>rfl,kT hq _ _ _ _,λ_=> ?_⟩
 show(match tj β (.new q 0) (some ⟨w.heap.size,cap⟩) (.new q 0) with
   |some pl=>_
   |none=>_)
 rw[iI]
 exact⟨λ_=>rfl,λ_ _=>rfl⟩
theorem Inv.Ke(h:Inv C g β s a w){q:Nat}(hq:s.dB q=true){e:TypeId}{t:Ty}(hz:0 < t.size):
  ∃β',Inv C g β' (s.born q [.obj 0 false (.vec e t [])]) a w/\cD (s.env w g β) ((s.born q [.obj 0 false (.vec e t [])]).env w g β')/\
   VS ((s.born q [.obj 0 false (.vec e t [])]).env w g β') (.cO (.new q 0) 0 [] 0 0 0) (.slice none 0 0):=by
 have ht:=Trans.refl w g
 obtain⟨h1,h2⟩:=h.wO hq (c:= .vec e t []) (p:=none) ht (λb hb=>⟨rfl,rfl⟩) (λhe=>by
  refine⟨hz,?_⟩
  show(match tj β (.new q 0) none (.new q 0) with
   |none=>([]:List t.den)=[]
   |some pl=>_)
  rw[iI])
 refine⟨_,h1,h2,_,?_,rfl⟩
 simp only[V]
 refine⟨_,_,rfl,az _,λhh=>by omega,kT hq _ _ _ _,λ_=> ?_⟩
 simp[AS.env]
theorem xi(parts:Array (Nat×Operand)):(parts.map λ(i,x)=>(i,a.eval x)).toList=parts.toList.map λ(i,x)=>(i,a.eval x):=by simp
theorem yo(h:Inv C g β s a w){T:TypeId}{n:Nat}{parts:Array (Nat×Operand)}{nl obj:Bool}(ho:o.op= .buildSlice T n parts){s':AS}(he:(jR P s nl obj o.dst T n parts.toList).eval=some s'):eT P o a w (gm C s'):=by
 unfold jR at he
 split at he
 ·rename_i e t b q tO hd
  obtain⟨hT,hz,i,zv,hi,HW,NN,E5,HZ⟩:=lA tO
  obtain⟨h1,h2⟩:=aA.1 he
  obtain⟨r,h3,h4⟩:=ak.1 h2
  simp only[decide_eq_true_eq]at h1
  obtain⟨g1,i1,e1,t1,f1⟩:=fb r.2 h
  have OX:zv.cells.size=t.size:=by have:=(HZ (s.env w g β)).size;simpa using this
  obtain⟨cells',PL,nH⟩:=qP (a:=a) rfl h.bE e1 h.ev parts.toList _ r (madeCells zv.cells (n*t.size)) h3 f1 (mM (HZ _) n)
  have PY:r.1.length=n:=by
   have:∀(ps:List (Nat×Operand)) (l:List t.den) (r:List t.den×List Id),(im t s ps l).eval=some r->r.1.length=l.length:=by
    intro ps
    induction ps with
    |nil=>intro l r hh;obtain rfl:=aq.1 hh;rfl
    |cons p ps ih=>
     intro l r hh
     obtain⟨i,x⟩:=p
     simp only[im]at hh
     obtain⟨_,h2⟩:=aA.1 hh
     obtain⟨y,h3,h4⟩:=ak.1 h2
     obtain⟨r',h5,h6⟩:=ak.1 h4
     obtain rfl:=aq.1 h6
     have:=ih _ _ h5
     simpa using this
   rw[this _ _ _ h3]
   simp
  have FN:=nH.length (λ_ _ hx=>cT.size hx)
  have kU:(execOp a.eval o).run P w= .ok (.value (.slice (some ⟨w.heap.size,0,none⟩) n n)) (w.alloc (.cells cells' e)):=by
   refine dz (f:=Instr.buildSlice T n (parts.map λ(i,x)=>(i,a.eval x))) (by simp only[execOp,ho]) ?_
   have Pz:¬n*t.size > 2^24:=by omega
   have hfill':Instr.fill (λi=>some (i*t.size,t.size)) ((Array.range (n*t.size)).map (λx=>(zv.cells)[x%zv.cells.size]!)) (parts.map λ(i,x)=>(i,a.eval x)).toList=some cells':=by
    rw[xi];exact PL
   by_cases hn:n*t.size=0
   ·have NT:n=0:=by
     rcases Nat.mul_eq_zero.1 hn with h' | h'
     ·exact h'
     ·omega
    subst NT
    simp only[kS]at hfill' Pz
    have h0:Array.range 0= #[]:=rfl
    rw[h0,Array.map_empty]at hfill'
    simp at hfill'
    simp[Instr.buildSlice,run_underlying hT,run_sizeOf hi,HW,newRow,h0,hfill']
   ·simp[Instr.buildSlice,run_underlying hT,run_sizeOf hi,HW,newRow,hn,Pz,zeroValue,typeInfo,hi,E5]
    simp at hfill'
    simp[hfill']
  cases obj with
  |true=>
   simp only at h4
   obtain⟨hq,h5⟩:=aA.1 h4
   obtain rfl:=aq.1 h5
   rw[<-nC r.2]at hq
   have PM:cells'.toList.take (r.1.length*t.size)=cells'.toList:=bg (by omega)
   obtain⟨g2,β2,i2,xO⟩:=i1.CL hq (e:=e) (l:=r.1) (cur:=cells') (cap:=n) hz (by rw[PM];exact nH) (by simp at FN;rw[FN,PY]) (by omega) (by
    have:n<=n*t.size:=Nat.le_mul_of_pos_right n hz
    unfold maxLen;omega)
   refine .inl ⟨_,_,kU,g2,β2,?_⟩
   rw[hd]
   rw[PY]at xO ⊢
   exact i2.put (some q) xO
  |false=>
   simp only at h4
   obtain rfl:=aq.1 h4
   have i2:=i1.tn (.cells cells' e)
   refine .inl ⟨_,_,kU,j2 g1 w.heap.size .free,β,?_⟩
   rw[hd]
   refine i2.put (some q) ⟨[.slice (some ⟨w.heap.size,0,none⟩) n n],?_,rfl⟩
   simp only[V,cT]
   refine⟨_,n,cells'.toList,by rw[PY],by omega,λ_=>rfl,λj v hj=>⟨_,_,rfl,?_,?_⟩,nH.mono λ_ _ hx=>hx.mono (Trans.mem (E:=(s.bj r.2).env w g1 β) (E':=(s.bj r.2).env (w.alloc (.cells cells' e)) (j2 g1 w.heap.size .free) β) (Trans.alloc w g1 (.cells cells' e) .free))⟩
   ·show(w.alloc (.cells cells' e)).cell? ⟨w.heap.size,0+j,none⟩=some v
    rw[World.cell?_alloc_new,aR];simpa using hj
   ·show mY (j2 g1 w.heap.size .free) w.heap.size (0+j)
    unfold mY;rw[eQ];trivial
 ·simp only[aj]at he
theorem zJ(h:Inv C g β s a w){T:TypeId}{x y:Operand}(ho:o.op= .makeSlice T x y){len cap:Int}(hx:(asInt (s.ev x)).eval=some len)(hy:(asInt (s.ev y)).eval=some cap){s':AS}
  (he:(l8 P s o.dst T len cap).eval=some s'):eT P o a w (gm C s'):=by
 obtain⟨k,hx⟩:=pz (h.ev x) hx
 obtain⟨k',hy⟩:=pz (h.ev y) hy
 unfold l8 at he
 split at he
 ·rename_i e t b q tO hd
  obtain⟨hT,hz,i,zv,hi,HW,NN,E5,HZ⟩:=qI tO
  obtain⟨hq,h2⟩:=aA.1 he
  obtain⟨h3,h4⟩:=bF.1 h2
  obtain rfl:=aq.1 h4
  simp only[ah,decide_eq_true_eq,dX]at h3
  obtain⟨⟨h5,h6⟩,h7,h8⟩:=h3
  have hbytes:(i.bytes:Int)*cap<=281474976710656:=by
   rw[NN]
   have:((cap.toNat*b:Nat):Int)<=140737488355328:=by omega
   rw[Int.natCast_mul,show((cap.toNat:Nat):Int)=cap by omega,Int.mul_comm]at this
   omega
  have hr:=run_make (P:=P) w T e i zv hT hi E5 k k' len cap h5 h6 hbytes (by omega)
  rw[HW]at hr
  have OX:zv.cells.size=t.size:=by have:=(HZ (s.env w g β)).size;simpa using this
  have rC:=mM (HZ (s.env w g β)) cap.toNat
  have N0:=aV.take (λ_ _ hx=>cT.size hx) len.toNat rC
  rw[List.take_replicate,dQ (by omega)]at N0
  obtain⟨g2,β2,i2,xO⟩:=h.CL hq (e:=e) (l:=List.replicate len.toNat t.zero) (cur:=madeCells zv.cells (cap.toNat*t.size)) (cap:=cap.toNat) hz (by rw[cJ];exact N0) (size_madeCells _ _) (by rw[cJ];omega) (by unfold maxLen;omega)
  rw[cJ]at xO
  refine .inl ⟨_,_,dz (f:=Instr.makeSlice T (a.eval x) (a.eval y)) (by simp only[execOp,ho]) (by rw[hx,hy];exact hr),g2,β2,?_⟩
  rw[hd]
  exact i2.put (some q) xO
 ·simp only[aj]at he
end
end Go.Ab
namespace Go.Ab
section
variable {P:Program} {C:Ctx} {g:Nat->jW} {β:Id->Option Pl} {s:AS} {a:Act} {w:World} {o:Oper}
theorem Gd:∀(c:aw) (f off:Nat) (v:aw),partOf c f=some (off,v)->(loc c (kg f)).eval=some (off,v):=by
 intro c f
 induction f generalizing c with
 |zero=>
  intro off v h
  cases c with
  |d t y=>
   cases t <;> simp only[partOf,reduceCtorEq]at h
   simp only[au,cE]at h
   obtain⟨rfl,rfl⟩:=h
   rfl
  |pr b c=>
   simp only[partOf,au,cE]at h
   obtain⟨rfl,rfl⟩:=h
   simp only[kg,loc]
   cases b <;> rfl
  |_=>simp only[partOf,reduceCtorEq]at h
 |succ f ih=>
  intro off v h
  cases c with
  |d t y=>
   cases t with
   |pair ta tb=>
    simp only[partOf]at h
    cases hp:partOf (.d tb y.2) f with
    |none=>rw[hp]at h;cases h
    |some r=>
     rw[hp]at h
     simp only[au,cE]at h
     obtain⟨rfl,rfl⟩:=h
     simp only[kg,loc,ak]
     exact⟨_,ih _ _ _ hp,rfl⟩
   |_=>simp only[partOf,reduceCtorEq]at h
  |pr b c=>
   simp only[partOf]at h
   cases hp:partOf c f with
   |none=>rw[hp]at h;cases h
   |some r=>
    rw[hp]at h
    simp only[au,cE]at h
    obtain⟨rfl,rfl⟩:=h
    simp only[kg,loc,ak]
    exact⟨_,ih _ _ _ hp,rfl⟩
  |_=>simp only[partOf,reduceCtorEq]at h
theorem Ei(a b:aw):(vS a b).agg=true:=by unfold vS;split <;> rfl
theorem Bc{v x v':aw}{i:Nat}(h:(oQ v (kg i) x).eval=some v'):v'.agg=true:=by
 have fin:∀ {o:Out aw} {f:aw->aw},(∀a,(f a).agg=true)->(o.bind λa=>Out.ok (f a)).eval=some v'->v'.agg=true:=by
  intro o f hf hh
  obtain⟨_,_,h2⟩:=ak.1 hh
  obtain rfl:=aq.1 h2
  exact hf _
 cases i <;> simp only[kg]at h
 all_goals
  cases v with
  |d t y=>cases t <;> first | (simp only[oQ,aj]at h;done) | (simp only[oQ]at h;exact fin (λ_=>Ei _ _) h)
  |pr b c=>simp only[oQ]at h;exact fin (λ_=>Ei _ _) h
  |_=>simp only[oQ,aj]at h
theorem sZ{E:Env}(HU:∀x,VS E (s.ev x) (a.eval x)){fs:Array Field}{places:Array (Nat×Nat)}(yw:∀(i:Nat) (f:Field),fs[i]? =some f->places[i]? =some (f.offset,P.cellsOf f.type)):
  ∀(ps:List (Nat×Operand)) (v v':aw) (cells:Array Value),(kY P fs s ps v).eval=some v'->V E v cells.toList->v.agg=true->
   ∃cells',Instr.fill (places[·]?) cells (ps.map λ(i,x)=>(i,a.eval x))=some cells'/\V E v' cells'.toList/\v'.agg=true
 |[],v,v',cells,h,hV,vh=>by
  obtain rfl:=aq.1 h
  exact⟨cells,rfl,hV,vh⟩
 | (i,x)::ps,v,v',cells,h,hV,vh=>by
  simp only[kY]at h
  split at h
  ·rename_i f off dw hf hp
   obtain⟨h1,h2⟩:=aA.1 h
   obtain⟨v1,h3,h4⟩:=ak.1 h2
   simp only[ah,beq_iff_eq]at h1
   obtain⟨⟨rfl,QN⟩,S0⟩:=h1
   obtain⟨FM,_⟩:=lV S0
   obtain⟨cs,hVx,hO⟩:=(HU x).dZ FM
   have hcells:=hO.cells hVx.one
   have RQ:=Gd _ _ _ _ hp
   obtain⟨u1,u2,u3⟩:=kZ (kg i) v cells.toList f.offset dw (s.ev x) v1 cs (VO.of hV) RQ hVx h3
   have P0:v1.gr=false:=u3.mK hV.mK
   have mE:P.cellsOf f.type=cs.length:=by rw[(sK S0).2.1];exact hVx.size.symm
   obtain⟨cells',q1,q2,q3⟩:=sZ HU yw ps v1 v' (df cells.toList f.offset cs).toArray h4 (by simpa using u2.to P0) (Bc h3)
   refine⟨cells',?_,q2,q3⟩
   rw[bJ,Bv (by rw[yw i f hf,mE]) hcells (by simpa using u1)]
   exact q1
  ·simp only[aj]at h
theorem ED{α γ:Type}(f:α->Sem γ)(r:α->γ):∀(l:List α),(∀x∈l,(f x).run P w= .ok (r x) w)->(l.mapM f).run P w= .ok (l.map r) w
 |[],_=>by simp
 |x::xs,h=>by
  rw[List.mapM_cons]
  simp only[Sem.run_bind,h x (by simp),Result.andThen_ok,ED f r xs (λy hy=>h y (by simp[hy])),Sem.run_pure,bJ]
theorem Fm(h:Inv C g β s a w){T:TypeId}{parts:Array (Nat×Operand)}(ho:o.op= .build T parts){s':AS}(he:(sF P s o.dst T parts.toList).eval=some s'):eT P o a w (gm C s'):=by
 unfold sF at he
 split at he
 ·rename_i fs hT
  split at he
  ·rename_i z UF
   obtain⟨h1,h2⟩:=aA.1 he
   obtain⟨v,h3,h4⟩:=ak.1 h2
   obtain rfl:=aq.1 h4
   simp only[ah,cY]at h1
   obtain⟨⟨hz,vh⟩,RM⟩:=h1
   obtain⟨i,zv,hi,E5,hV,hO⟩:=nD hz (s.env w g β)
   let places:Array (Nat×Nat):=fs.map λf=>(f.offset,P.cellsOf f.type)
   have yw:∀(i:Nat) (f:Field),fs[i]? =some f->places[i]? =some (f.offset,P.cellsOf f.type):=by
    intro i f hf
    simp[places,hf]
   obtain⟨cells',q1,q2,q3⟩:=sZ (a:=a) h.ev yw parts.toList z v zv.cells h3 hV vh
   have hm:(fs.mapM λf=>(do pure (f.offset,<-sizeOf f.type):Sem (Nat×Nat))).run P w= .ok places w:=by
    rw[Array.mapM_eq_mapM_toList]
    have:=ED (P:=P) (w:=w) (λf=>(do pure (f.offset,<-sizeOf f.type):Sem (Nat×Nat))) (λf=>(f.offset,P.cellsOf f.type)) fs.toList (by
     intro f hf
     obtain⟨j,hj⟩:=bS.1 (RM f hf)
     rw[Sem.run_bind,run_sizeOf hj,jY hj]
     rfl)
    rw[Sem.run_map,this]
    show Result.ok _ w=Result.ok _ w
    congr 1
    apply fo
    simp[places]
   refine h.value (x:= .agg cells') (VS.of q2 (by rw[q3];simp[eW])) (dz (f:=Instr.build T (parts.map λ(i,x)=>(i,a.eval x))) (by simp only[execOp,ho]) ?_)
   have q1':Instr.fill (places[·]?) zv.cells (parts.map λ(i,x)=>(i,a.eval x)).toList=some cells':=by rw[xi];exact q1
   simp only[Instr.build,Sem.run_bind,zeroValue,typeInfo,run_program,hi,Result.andThen_ok,Sem.run_pure,E5,run_underlying hT,hm,q1']
  ·simp only[aj]at he
 ·rename_i n e hT
  split at he
  ·rename_i t ht
   obtain⟨h1,h2⟩:=aA.1 he
   obtain⟨r,h3,h4⟩:=ak.1 h2
   obtain rfl:=aq.1 h4
   simp only[ah,beq_iff_eq]at h1
   obtain⟨mE,hz⟩:=h1
   obtain⟨g1,i1,e1,t1,f1⟩:=fb r.2 h
   obtain⟨i,zv,hi,E5,hV,hO⟩:=nD hz ((s.bj r.2).env w g1 β)
   simp only[V,cT]at hV
   obtain⟨cells',q1,q2⟩:=qP (a:=a) rfl h.bE e1 h.ev parts.toList _ r zv.cells h3 f1 hV.2
   have PY:r.1.length=n:=by
    have:∀(ps:List (Nat×Operand)) (l:List t.den) (r:List t.den×List Id),(im t s ps l).eval=some r->r.1.length=l.length:=by
     intro ps
     induction ps with
     |nil=>intro l r hh;obtain rfl:=aq.1 hh;rfl
     |cons p ps ih=>
      intro l r hh
      obtain⟨i,x⟩:=p
      simp only[im]at hh
      obtain⟨_,h2⟩:=aA.1 hh
      obtain⟨y,h3,h4⟩:=ak.1 h2
      obtain⟨r',h5,h6⟩:=ak.1 h4
      obtain rfl:=aq.1 h6
      have:=ih _ _ h5
      simpa using this
    rw[this _ _ _ h3]
    simp
   refine .inl ⟨.agg cells',w,dz (f:=Instr.build T (parts.map λ(i,x)=>(i,a.eval x))) (by simp only[execOp,ho]) ?_,g1,β,i1.put o.dst ⟨cells'.toList,?_,by simp[eW,aw.agg,Ty.agg]⟩⟩
   ·have q1':Instr.fill (λi=>some (i*t.size,t.size)) zv.cells (parts.map λ(i,x)=>(i,a.eval x)).toList=some cells':=by rw[xi];exact q1
    cases RJ:P.info? e with
    |none=>
     exfalso
     unfold EZ Az at ht
     simp only[depth]at ht
     have:P.underlying e=none:=by simp[Program.underlying,RJ]
     rw[this]at ht
     cases ht
    |some ie=>
     have Td:=run_sizeOf RJ w
     rw[<-jY RJ,mE]at Td
     simp only[Instr.build,Sem.run_bind,zeroValue,typeInfo,run_program,hi,Result.andThen_ok,Sem.run_pure,E5,run_underlying hT,Td,q1']
   ·simp only[V,cT]
    exact⟨PY,q2⟩
  ·simp only[aj]at he
 ·simp only[aj]at he
theorem xv{T X ty e:TypeId}{i:TypeInfo}(hT:P.underlying T=some (.slice e))(hX:P.underlying X=some .string\/∃e',P.underlying X=some (.slice e'))(hi:P.info? e=some i)
  {b sLen sCap:Nat} {cur:Array Value} (hg:w.heap[b]? =some (.cells cur e (0,0))) {x:Value} {n:Nat} {news:List Value} (h1:∀u∈news,u.oneCell'=true)
  (hlen:(Builtin.lenOf x).run P w= .ok n w) (hf:(Builtin.firstCells i.size n x).run P w= .ok news.toArray w) (tZ:sLen+n<=sCap) (Cw:sLen*i.size+news.length<=cur.size):
  (Builtin.append_ #[T,X] ty #[.slice (some ⟨b,0,none⟩) sLen sCap,x]).run P w= .ok (.slice (some ⟨b,0,none⟩) (sLen+n) sCap) (w.setRow b (df cur.toList (sLen*i.size) news).toArray):=by
 have mj:=run_storeCells_at P b (sLen*i.size) e news 0 cur w hg (by simpa using Cw) h1
 simp only[cn]at mj
 rcases hX with hX | ⟨e',hX⟩ <;> simp[Builtin.append_,run_underlying hT,run_underlying hX,sizeOf,typeInfo,hi,hlen,tZ,hf,Addr.add_lit,mj,df]
theorem si{T X ty e:TypeId}{i:TypeInfo}(hT:P.underlying T=some (.slice e))(hX:P.underlying X=some .string\/∃e',P.underlying X=some (.slice e'))(hi:P.info? e=some i)
  {x:Value} (hlen:(Builtin.lenOf x).run P w= .ok 0 w) (hf:(Builtin.firstCells i.size 0 x).run P w= .ok #[] w):
  (Builtin.append_ #[T,X] ty #[.slice none 0 0,x]).run P w= .ok (.slice none 0 0) w:=by
 rcases hX with hX | ⟨e',hX⟩ <;> simp[Builtin.append_,run_underlying hT,run_underlying hX,sizeOf,typeInfo,hi,hlen,hf]
theorem xu{T X ty e:TypeId}{i:TypeInfo}{zv:Value}(hT:P.underlying T=some (.slice e))(hX:P.underlying X=some .string\/∃e',P.underlying X=some (.slice e'))(hi:P.info? e=some i)(E5:i.zero=some zv)
  {ad:Option Addr} {sLen sCap:Nat} {cj:List Value} (ho:(Builtin.firstCells i.size sLen (.slice ad sLen sCap)).run P w.drew= .ok cj.toArray w.drew) {x:Value} {n:Nat} {news:List Value}
  (hlen:(Builtin.lenOf x).run P w= .ok n w) (hf:(Builtin.firstCells i.size n x).run P w.drew= .ok news.toArray w.drew) (tZ:sCap < sLen+n)
  (SV:((sLen+n:Nat):Int)<=9223372036854775807) (Cw:(sLen+n)*i.bytes<=140737488355328):
  (Builtin.append_ #[T,X] ty #[.slice ad sLen sCap,x]).run P w= .ok (.slice (some ⟨w.heap.size,0,none⟩) (sLen+n) (grownCap w (sLen+n) sCap e))
   (w.drew.alloc (.cells (cj.toArray++news.toArray++Builtin.zeroCells zv.cells (grownCap w (sLen+n) sCap e - (sLen+n))) e)):=by
 have hn:¬(sLen+n<=sCap):=by omega
 have h63':¬(9223372036854775807 < ((sLen:Int)+(n:Int))):=by omega
 have hfit':=growslice_fits (bytes:=i.bytes) tZ Cw
 have h48':¬(281474976710656 < Builtin.nextslicecap (sLen+n) sCap*i.bytes):=by omega
 rcases hX with hX | ⟨e',hX⟩
 all_goals
  simp[Builtin.append_,run_underlying hT,run_underlying hX,sizeOf,typeInfo,zeroValue,hi,E5,hlen,hn,h63',h48',Question.forced,hf,ho,newRow,grownCap]
  congr 2
  apply fo
  simp[bw]
end
end Go.Ab
namespace Go.Ab
section
variable {P:Program} {C:Ctx} {g:Nat->jW} {β:Id->Option Pl} {s:AS} {a:Act} {w:World} {o:Oper}
theorem Kj(h:Inv C g β s a w){v:aw}{y:Value}(hv:VS (s.env w g β) v y){t:Ty}{m:List t.den}(he:(s.Ge (.slice t) v).eval=some m):
  ∃ad cap vs,y= .slice ad m.length cap/\(0 < m.length->ad.isSome=true)/\(∀j u,vs[j]? =some u->∃bb off,ad=some ⟨bb,off,none⟩/\w.cell? ⟨bb,off+j,none⟩=some u)/\aV (cT (s.env w g β) t) vs m:=by
 have hp:(s.gR (.slice t) v).eval=some m:=he
 cases v <;> first | (simp only[AS.gR,aj]at hp;done) | skip
 case dp=>
  simp only[AS.gR,aq]at hp
  subst hp
  exact⟨none,0,[],ji hv,by simp,λj u hj=>by simp at hj,rfl⟩
 case d t' x=>
  simp only[AS.gR]at hp
  have hp:=iP.1 hp
  have ha:(aw.d t' x).agg=false:=Bn hp
  have hV:=hv.single rfl ha
  simp only[V]at hV
  have hv:VS (s.env w g β) (.d (.slice t) m) y:=VS.of (cs:=[y]) (by simp only[V];exact ru hp hV) rfl
  obtain⟨ad,cap,vs,hy,_,hs,hr,hc⟩:=mO hv
  exact⟨ad,cap,vs,hy,hs,λj u hj=>let⟨bb,off,e,hh⟩:=hr j u hj;⟨bb,off,e,hh.1⟩,hc⟩
 case cO id ver p c i len=>
  simp only[AS.gR]at hp
  obtain⟨⟨n,t',l⟩,h1,h2⟩:=ak.1 hp
  obtain⟨h3,h4⟩:=bF.1 h2
  obtain⟨OP,TS⟩:=HF (E:=s.env w g β) (iP.1 h4)
  rw[OP]
  simp only[decide_eq_true_eq]at h3
  obtain⟨hc,hlen⟩:=h3
  suffices hg:∃ad cap vs,y= .slice ad (cut l i len).length cap/\(0 < (cut l i len).length->ad.isSome=true)/\(∀j u,vs[j]? =some u->∃bb off,ad=some ⟨bb,off,none⟩/\w.cell? ⟨bb,off+j,none⟩=some u)/\aV (cT (s.env w g β) t') vs (cut l i len) by
   obtain⟨ad,cap,vs,e1,e2,e3,e4⟩:=hg
   exact⟨ad,cap,vs,e1,e2,e3,TS _ e4⟩
  obtain⟨fr,c0,cI,oE⟩:=xt rfl h.bE h1
  obtain⟨ad,cap,hy,hle,la,hb,eK⟩:=lK hv
  have eK:=eK ⟨fr,c0,cI⟩
  have KV:(cut l i len).length=len:=pG hlen
  rcases oE with⟨hp,hl,_⟩ | ⟨pl,cur,e,hp,hh,mE,nH,hbound⟩
  ·rw[hp]at eK
   simp only at eK
   obtain⟨rfl,rfl,rfl⟩:=eK
   have:cut l i 0=[]:=by simp[cut]
   refine⟨none,0,[],by rw[KV];exact hy,by rw[KV];omega,λ_ _ hh=>by simp at hh,?_⟩
   rw[this];rfl
  ·rw[hp]at eK
   simp only at eK
   have hmul:(i+len)*t'.size<=l.length*t'.size:=cW _ hlen
   rw[dI]at hmul
   refine⟨ad,cap,_,by rw[KV];exact hy,by rw[KV];exact la,?_,uw nH i len⟩
   rw[z6 _ _ _ _ _ hmul]
   intro j v hj
   rw[cV]at hj
   split at hj
   ·rename_i NP
    rw[eZ,hc]at hj
    have RR:0 < len:=by
     rcases jX len with h0 | h0
     ·subst h0;simp at NP
     ·exact h0
    refine⟨pl.b,c,eK.1 (.inl RR),?_⟩
    have hh':w.heap[pl.b]? =some (.cells cur e (0,0)):=hh
    rw[cell_of_row w pl.b (c+j) cur e (0,0) hh']
    simpa using hj
   ·cases hj
theorem yd(h:Inv C g β s a w){t:Ty}{X:TypeId}{x:aw}{y:Value}(hx:VS (s.env w g β) x y){m:List t.den}(he:(sR P s t X x).eval=some m):
  (P.underlying X=some .string\/∃e',P.underlying X=some (.slice e'))/\∃news:List Value,aV (cT (s.env w g β) t) news m/\(Builtin.lenOf y).run P w= .ok m.length w/\
   ∀w',w'.heap=w.heap->(Builtin.firstCells t.size m.length y).run P w'= .ok news.toArray w':=by
 have sl:∀(x:aw),VS (s.env w g β) x y->(match P.underlying X with
   |some (.slice _)=>s.Ge (.slice t) x
   |_=> .fail).eval=some m->(P.underlying X=some .string\/∃e',P.underlying X=some (.slice e'))/\∃news:List Value,aV (cT (s.env w g β) t) news m/\(Builtin.lenOf y).run P w= .ok m.length w/\
   ∀w',w'.heap=w.heap->(Builtin.firstCells t.size m.length y).run P w'= .ok news.toArray w':=by
  intro x hx he
  split at he
  ·rename_i e' hX
   refine⟨.inr ⟨e',hX⟩,?_⟩
   obtain⟨ad,cap,vs,rfl,la,oE,nH⟩:=Kj h hx he
   have hlen:=aV.length (λ_ _ hx=>cT.size hx) nH
   refine⟨vs,nH,rfl,λw' hw'=> ?_⟩
   cases ad with
   |none=>
    have OO:m.length=0:=by
     rcases jX m.length with h0 | h0
     ·exact h0
     ·have:=la h0;simp at this
    have:vs=[]:=aQ (by rw[hlen,OO,kS])
    subst this
    rfl
   |some ad=>
    refine run_firstCells_some (P:=P) w' t.size _ ad _ _ vs hlen (λj v hj=> ?_)
    obtain⟨bb,off,e1,hh⟩:=oE j v hj
    simp only[au]at e1
    subst e1
    rw[Addr.add_lit]
    simpa[World.cell?,hw']using hh
  ·simp only[aj]at he
 unfold sR at he
 split at he
 ·rename_i st
  split at he
  ·rename_i hX
   refine⟨.inl hX,?_⟩
   obtain⟨e,hm⟩:=iB (iP.1 he)
   have e':Ty.int .u8=t:=by simpa using e
   subst e'
   simp only at hm
   subst hm
   have hy:=te hx
   subst hy
   have hlen:(cr st).length=st.size:=by simp only[cr,cg,cz];rfl
   refine⟨(cr st).map (Value.int .u8),nU _,by rw[hlen];rfl,λw' _=> ?_⟩
   rw[hlen]
   simp only[Builtin.firstCells,Sem.run_pure]
   congr 1
   apply fo
   rw[ByteArray.extract_zero_size]
   simp[cr]
  ·simp only[aj]at he
 ·exact sl _ hx he
theorem qg(z:Array Value)(n:Nat):(Builtin.zeroCells z n).size=n*z.size:=by simp[Builtin.zeroCells]
theorem HG(h:Inv C g β s a w){c:Call}{x y:Operand}{T X:TypeId}(ho:o.op= .call c)(hc:c.callee= .builtin .copy)(ha:c.args.toList=[x,y])(ht:c.argTypes.toList=[T,X]){s':AS}
  (he:(y9 P s o.dst T X (s.ev x) (s.ev y)).eval=some s'):eT P o a w (gm C s'):=by
 obtain⟨cal,args,tys⟩:=c
 simp only at hc ha ht
 have ha':args= #[x,y]:=by apply fo;simpa using ha
 have ht':tys= #[T,X]:=by apply fo;simpa using ht
 subst hc ha' ht'
 have hx:=h.ev x
 have hy:=h.ev y
 have fin:∀z w',(Builtin.copy_ #[T,X] 0 #[a.eval x,a.eval y]).run P w= .ok z w'->(∃g' β',Inv C g' β' s' (a.put o.dst z) w')->eT P o a w (gm C s'):=by
  intro z w' h1 h2
  refine .inl ⟨z,w',qG ho (f:=Builtin.copy_ #[T,X] 0 #[a.eval x,a.eval y]) (λty cs xs E4=> ?_) h1,h2⟩
  subst E4
  have e1:Builtin.copy_ #[T,X] 0 #[a.eval x,a.eval y]=Builtin.copy_ #[T,X] ty #[a.eval x,a.eval y]:=rfl
  rw[e1]
  simp[builtin]
 unfold y9 at he
 split at he
 ·rename_i e t b id ver len tO E4
  obtain⟨hT,hz,i,zv,hi,HW,NN,E5,HZ⟩:=qI tO
  obtain⟨m,hm,he⟩:=ak.1 he
  obtain⟨hX,news,nH,hlen,My⟩:=yd h hy hm
  have Lw:=nH.length (λ_ _ hx=>cT.size hx)
  have h1news:∀u∈news,u.oneCell'=true:=aV.all (λ_ _ hx=>hx.one) nH
  rw[<-HW]at My
  split at he
  ·rename_i ve n t' l ju
   obtain⟨h1,vF⟩:=aA.1 he
   simp only[ah,beq_iff_eq]at h1
   obtain⟨N3,TQ⟩:=h1
   subst N3 TQ
   obtain⟨l',hl',AG⟩:=ak.1 vF
   obtain⟨et,hl'⟩:=iB (iP.1 hl')
   have et':t'=t:=by simpa using et
   subst et'
   simp only at hl'
   subst hl'
   obtain⟨OP,OM⟩:=bF.1 AG
   have OP:m.length<=len:=by simpa using OP
   obtain rfl:=aq.1 OM
   have cI:=dG ju
   rw[E4]at hx
   obtain⟨ad,cap,I4,I1,la,zm,eK⟩:=lK hx
   have eK:=eK ⟨false,_,cI⟩
   obtain⟨pl,cur,e0,hp,hh,hg,hk,hV⟩:=(h.bE id ve false _ cI).box rfl
   have hp:β id=some pl:=hp
   have hh:w.heap[pl.b]? =some (.cells cur e0 (0,0)):=hh
   have hg:g pl.b= .own (.id id) 0:=hg
   have hcur':(match β id with
    |some pl=>(0 < len\/0=0->ad=some ⟨pl.b,0,none⟩)/\(([.arr]:List tJ)=[]->0=0->cap=pl.cap)
    |none=>ad=none/\len=0/\cap=0):=eK
   rw[hp]at hcur'
   simp only at hcur'
   have HP:=hcur'.1 (.inr trivial)
   subst HP
   have hV:V (s.env w g β) (.d (.arr len t') l) (cur.toList.take cur.size):=hV
   rw[<-cz,c9]at hV
   simp only[V,cT]at hV
   obtain⟨MD,hVc⟩:=hV
   have FN:=hVc.length (λ_ _ hx=>cT.size hx)
   have Cw:news.length<=cur.size:=by
    rw[Lw]
    have:cur.size=l.length*t'.size:=by simpa using FN
    rw[this,MD]
    exact cW _ OP
   have mj:=run_storeCells_at P pl.b 0 e0 news 0 cur w hh (by simpa using Cw) h1news
   have kU:(Builtin.copy_ #[T,X] 0 #[a.eval x,a.eval y]).run P w= .ok (goInt m.length) (w.setRow pl.b (df cur.toList 0 news).toArray):=by
    have RV:Nat.min m.length len=m.length:=dQ OP
    rw[I4]
    simp only[cn,aR]at mj
    simp[Builtin.copy_,run_underlying hT,hlen,sizeOf,typeInfo,hi,RV,My w rfl,mj,df]
   have FU:=Trans.setRow w hg (df cur.toList 0 news).toArray
   have hle:cD (s.env w g β) ((s.aL id (.obj ve false (.d (.arr len t') (m++l.drop m.length)))).env (w.setRow pl.b (df cur.toList 0 news).toArray) g β):=cD.aL cI (az _) FU (λ_ _=>rfl) (λ_=>rfl)
   have i1:=h.step (cX _ _ _) FU hle (gK.aL (NS:=kV cI λk v1 l e=>by cases e) h.bE (by rw[cI];simp) hle (λ_ _=>rfl) (λi ver fr c pl2 hi zp BH=>⟨setRow_other w pl.b pl2.b _ (h.apart hg hi zp BH),rfl⟩) (wK.obj ⟨pl,_,e0,hp,setRow_heap w pl.b cur _ e0 (0,0) hh,hg,trivial,by
    show V _ (.d (.arr len t') (m++l.drop m.length)) ((df cur.toList 0 news).toArray.toList.take (df cur.toList 0 news).toArray.size)
    rw[<-cz,c9]
    simp only[V,cT]
    refine⟨by rw[av,cq];omega,?_⟩
    have e2:df cur.toList 0 news=news++cur.toList.drop (m.length*t'.size):=by
     simp[df,Lw]
    have q:aV (cT (s.env w g β) t') (df cur.toList 0 news) (m++l.drop m.length):=by
     rw[e2]
     exact aV.append nH (aV.drop (λ_ _ hx=>cT.size hx) m.length hVc)
    exact q.mono λ_ _ hx=>hx.mono hle.mem⟩))
   exact fin _ _ kU ⟨g,β,i1.put o.dst ⟨[.int .i64 (m.length:Int)],by simp only[V,cT],rfl⟩⟩
  ·exact(aj.1 he).elim
 ·exact(aj.1 he).elim
theorem Dh(h:Inv C g β s a w){c:Call}{x y:Operand}{T X:TypeId}(ho:o.op= .call c)(hc:c.callee= .builtin .append)(ha:c.args.toList=[x,y])(ht:c.argTypes.toList=[T,X]){s':AS}
  {nl dt:Bool} (he:(oT P s nl dt o.dst T X (s.ev x) (s.ev y)).eval=some s'):eT P o a w (gm C s'):=by
 obtain⟨cal,args,tys⟩:=c
 simp only at hc ha ht
 have ha':args= #[x,y]:=by apply fo;simpa using ha
 have ht':tys= #[T,X]:=by apply fo;simpa using ht
 subst hc ha' ht'
 have hx:=h.ev x
 have hy:=h.ev y
 have fin:∀z w',(Builtin.append_ #[T,X] 0 #[a.eval x,a.eval y]).run P w= .ok z w'->(∃g' β',Inv C g' β' s' (a.put o.dst z) w')->eT P o a w (gm C s'):=by
  intro z w' h1 h2
  refine .inl ⟨z,w',qG ho (f:=Builtin.append_ #[T,X] 0 #[a.eval x,a.eval y]) (λty cs xs E4=> ?_) h1,h2⟩
  subst E4
  have e1:Builtin.append_ #[T,X] 0 #[a.eval x,a.eval y]=Builtin.append_ #[T,X] ty #[a.eval x,a.eval y]:=rfl
  rw[e1]
  simp[builtin]
 unfold oT at he
 split at he
 ·rename_i e t b q tO hd
  obtain⟨hT,hz,i,zv,hi,HW,NN,E5,HZ⟩:=lA tO
  obtain⟨m,hm,he⟩:=ak.1 he
  obtain⟨hX,news,nH,hlen,My⟩:=yd h hy hm
  have Lw:=nH.length (λ_ _ hx=>cT.size hx)
  have h1news:∀u∈news,u.oneCell'=true:=aV.all (λ_ _ hx=>hx.one) nH
  rw[<-HW]at My
  have OX:zv.cells.size=t.size:=by have:=(HZ (s.env w g β)).size;simpa using this
  have Sr:∀n,(Builtin.zeroCells zv.cells n).size=n*t.size:=λn=>by rw[qg,OX]
  have grow:∀(ad:Option Addr) (sLen sCap:Nat) (cj:List Value) (l0:List t.den),a.eval x= .slice ad sLen sCap->cj.length=sLen*t.size->l0.length=sLen->aV (cT (s.env w g β) t) cj l0->
    (Builtin.firstCells i.size sLen (.slice ad sLen sCap)).run P w.drew= .ok cj.toArray w.drew->sCap < sLen+m.length->dX (sLen+m.length) b=true->
    ∃(cur:Array Value) (cap:Nat),(Builtin.append_ #[T,X] 0 #[a.eval x,a.eval y]).run P w= .ok (.slice (some ⟨w.heap.size,0,none⟩) (sLen+m.length) cap) (w.drew.alloc (.cells cur e))/\
     cur.size=cap*t.size/\sLen+m.length<=cap/\cap<=maxLen/\cur.toList.take ((sLen+m.length)*t.size)=cj++news:=by
   intro ad sLen sCap cj l0 I4 yM MC PF QN tZ E3
   simp only[dX,decide_eq_true_eq]at E3
   have hr:=xu (P:=P) (w:=w) (ty:=0) hT hX hi E5 QN hlen (My w.drew rfl) tZ (by omega) (by rw[NN];exact E3.1)
   rw[I4]
   refine⟨_,_,hr,?_,grownCap_ge _ _ _ _,grownCap_le_maxLen _ _ _ _ (by unfold maxLen;omega),?_⟩
   ·have Uw:=grownCap_ge w (sLen+m.length) sCap e
    simp only[Array.size_append,fX,Sr,yM,Lw,<-dI]
    congr 1
    omega
   ·have FQ:(cj++news).length=(sLen+m.length)*t.size:=by rw[av,yM,Lw,dI]
    simp only[bK]
    rw[<-FQ]
    exact List.take_left
  split at he
  ·rename_i Uc
   rw[Uc]at hx
   have I4:=ji hx
   cases dt with
   |true=>
    simp only at he
    obtain⟨E3,he⟩:=bF.1 he
    obtain rfl:=aq.1 he
    simp only[ah,decide_eq_true_eq]at E3
    obtain⟨E3,OO⟩:=E3
    obtain⟨cur,cap,hr,q1,q2,q3,q4⟩:=grow none 0 0 [] [] I4 (by simp) rfl rfl rfl (by omega) (by simpa using E3)
    simp only[aR,bh]at hr q2 q4
    have RA:aV (cT (s.env w.drew g β) t) news m:=nH.mono λ_ _ hx=>hx.mono (cD.same (s:=s) (β:=β) (Trans.drew w g)).mem
    refine fin _ _ hr ⟨j2 g w.heap.size .free,β,(h.drew.tn (.cells cur e)).put o.dst ⟨[.slice (some ⟨w.heap.size,0,none⟩) m.length cap],?_,rfl⟩⟩
    simp only[V,cT]
    refine⟨λh0=>(by cases h0),λm' hm'=> ?_⟩
    obtain rfl:m=m':=ba hm'
    refine⟨_,cap,cur.toList.take (m.length*t.size),rfl,q2,λ_=>rfl,λj v hj=>⟨_,_,rfl,?_,?_⟩,?_⟩
    ·show(w.drew.alloc (.cells cur e)).cell? ⟨w.drew.heap.size,0+j,none⟩=some v
     rw[World.cell?_alloc_new,aR]
     rw[cV]at hj
     split at hj
     ·simpa using hj
     ·cases hj
    ·show mY (j2 g w.heap.size .free) w.heap.size (0+j)
     unfold mY;rw[eQ];trivial
    ·rw[q4]
     exact RA.mono λ_ _ hx=>hx.mono (Trans.mem (E:=s.env w.drew g β) (E':=s.env (w.drew.alloc (.cells cur e)) (j2 g w.drew.heap.size .free) β) (Trans.alloc w.drew g (.cells cur e) .free))
   |false=>
   simp only at he
   obtain⟨hq,he⟩:=aA.1 he
   obtain⟨E3,he⟩:=bF.1 he
   obtain rfl:=aq.1 he
   by_cases OO:m.length=0
   ·have RX:m=[]:=aQ OO
    subst RX
    have R0:news=[]:=aQ (by rw[Lw];simp)
    subst R0
    obtain⟨β',i1,e1,v1⟩:=h.Ke hq (e:=e) hz
    refine fin (.slice none 0 0) w ?_ ⟨g,β',?_⟩
    ·rw[I4]
     exact si (P:=P) hT hX hi hlen (My w rfl)
    ·exact i1.put o.dst v1
   ·obtain⟨cur,cap,hr,q1,q2,q3,q4⟩:=grow none 0 0 [] [] I4 (by simp) rfl rfl rfl (by omega) (by simpa using E3)
    simp only[aR,bh]at hr q2 q4
    obtain⟨g2,β2,i2,v2⟩:=(h.drew).CL hq (e:=e) (l:=m) (cur:=cur) (cap:=cap) hz (by rw[q4];exact nH.mono λ_ _ hx=>hx.mono (cD.same (s:=s) (β:=β) (Trans.drew w g)).mem) q1 q2 q3
    refine fin _ _ hr ⟨g2,β2,?_⟩
    exact i2.put o.dst v2
  ·rename_i id ver len E4
   rw[E4]at hx
   obtain⟨ad,cap,I4,I1,la,zm,eK⟩:=lK hx
   split at he
   ·rename_i v fr e' t' l ju
    obtain⟨h1,vF⟩:=aA.1 he
    clear he
    simp only[ah,beq_iff_eq]at h1
    obtain⟨N3,TF⟩:=h1
    subst N3 TF
    obtain⟨l',hl',AG⟩:=ak.1 vF
    obtain⟨et,hl'⟩:=iB (iP.1 hl')
    have et':t'=t:=by simpa using et
    subst et'
    simp only at hl'
    subst hl'
    obtain⟨Lv,PJ⟩:=bF.1 AG
    have Lv:len<=l.length:=by simpa using Lv
    obtain⟨Mz,OM⟩:=bF.1 PJ
    obtain⟨E3,SZ⟩:=bF.1 OM
    obtain rfl:=aq.1 SZ
    clear vF AG PJ OM SZ
    have cI:=dG ju
    have eK:=eK ⟨fr,_,cI⟩
    obtain⟨_,hO⟩:=h.bE id v fr _ cI
    have hO':(match β id with
     |none=>l=[]
     |some pl=>∃cur k,w.heap[pl.b]? =some (.cells cur e (0,0))/\cur.size=pl.cap*t'.size/\l.length<=pl.cap/\pl.cap<=maxLen/\g pl.b= .own (.id id) k/\
       k<=l.length*t'.size/\(fr=false->k=0)/\aV (cT (s.env w g β) t') (cur.toList.take (l.length*t'.size)) l):=hO
    have hcur':(match β id with
     |some pl=>(0 < len\/0=0->ad=some ⟨pl.b,0,none⟩)/\(([]:List tJ)=[]->0=0->cap=pl.cap)
     |none=>ad=none/\len=0/\cap=0):=eK
    have NK:fr=false\/len=l.length:=by
     simp only[fD,bC,decide_eq_true_eq]at Mz
     exact Mz
    have gS:s.bT id≠none:=by rw[cI];simp
    have fresh:∀(cur:Array Value) (cp:Nat) (g0:Nat->jW),Trans w (w.drew.alloc (.cells cur e)) g (j2 g0 w.heap.size (.own (.id (id)) 0))->
      (∀i ver fr c pl,i≠id->s.bT i=some (.obj ver fr c)->β i=some pl->g0 pl.b=g pl.b)->cur.size=cp*t'.size->len+m.length<=cp->cp<=maxLen->
      aV (cT (s.env w g β) t') (cur.toList.take ((len+m.length)*t'.size)) (l.take len++m)->len<=l.length->
      ∃g' β',Inv C g' β' ((s.aL id (.obj (v+1) fr (.vec e t' (l.take len++m)))).put o.dst (.cO id (v+1) [] 0 0 (len+m.length))) (a.put o.dst (.slice (some ⟨w.heap.size,0,none⟩) (len+m.length) cp)) (w.drew.alloc (.cells cur e)):=by
     intro cur cp g0 ht JF q1 q2 q3 q4 q5
     have MD:(l.take len++m).length=len+m.length:=by simp;omega
     have hle:cD (s.env w g β) ((s.aL id (.obj (v+1) fr (.vec e t' (l.take len++m)))).env (w.drew.alloc (.cells cur e)) (j2 g0 w.heap.size (.own (.id id) 0)) (tj β id (some ⟨w.heap.size,cp⟩))):=
      cD.aL cI (by omega) ht (λi hi=>qe _ _ _ hi) (λhh=>by omega)
     have i1:=h.step (cX _ _ _) ht hle (gK.aL (NS:=kV cI λk v1 l e=>by cases e) h.bE gS hle (λi hi=>qe _ _ _ hi) (λi ver fr' c' pl hi zp BH=>by
       have gV:pl.b < w.heap.size:=((h.bE i ver fr' c' zp).label (pl:=pl) BH).1
       exact⟨lr w.drew _ gV,by rw[eJ _ _ _ (by omega)];exact JF i ver fr' c' pl hi zp BH⟩) (by
      refine⟨hz,?_⟩
      show(match tj β id (some ⟨w.heap.size,cp⟩) id with
       |none=>(l.take len++m)=[]
       |some pl=>_)
      rw[iI]
      refine⟨cur,0,mw w.drew _,q1,by rw[MD];exact q2,q3,eQ _ _ _,aP _,λ_=>rfl,?_⟩
      rw[MD]
      exact q4.mono λ_ _ hx=>hx.mono hle.mem))
     refine⟨_,_,i1.put o.dst ⟨_,?_,rfl⟩⟩
     simp only[V]
     have jT:=dR s id (.obj (v+1) fr (.vec e t' (l.take len++m))) gS
     refine⟨_,_,rfl,q2,λ_=>rfl,⟨by show(s.aL id _).bT id≠none;rw[jT];simp,λv' fr' c' hh=> ?_⟩,λ_=> ?_⟩
     ·have hh':(s.aL id (.obj (v+1) fr (.vec e t' (l.take len++m)))).bT id=some (.obj v' fr' c'):=hh
      rw[jT]at hh'
      simp only[au,dv.obj.injEq]at hh'
      omega
     ·show(match tj β id (some ⟨w.heap.size,cp⟩) id with
       |some pl=>_
       |none=>_)
      rw[iI]
      exact⟨λ_=>rfl,λ_ _=>rfl⟩
    cases hp:β id with
    |none=>
     rw[hp]at hO' hcur'
     simp only at hO' hcur'
     obtain⟨rfl,rfl,rfl⟩:=hcur'
     subst hO'
     by_cases OO:m.length=0
     ·have RX:m=[]:=aQ OO
      subst RX
      have R0:news=[]:=aQ (by rw[Lw];simp)
      subst R0
      have ht:=Trans.refl w g
      have hle:cD (s.env w g β) ((s.aL id (.obj (v+1) fr (.vec e t' []))).env w g β):=cD.aL cI (by omega) ht (λ_ _=>rfl) (λ_=>rfl)
      have i1:=h.step (cX _ _ _) ht hle (gK.aL (NS:=kV cI λk v1 l e=>by cases e) h.bE gS hle (λ_ _=>rfl) (λ_ _ _ _ _ _ _ _=>⟨rfl,rfl⟩) (by
       refine⟨hz,?_⟩
       show(match β id with
        |none=>([]:List t'.den)=[]
        |some pl=>_)
       rw[hp]))
      refine fin (.slice none 0 0) w ?_ ⟨g,β,i1.put o.dst ⟨_,?_,rfl⟩⟩
      ·rw[I4]
       exact si (P:=P) hT hX hi hlen (My w rfl)
      ·simp only[V]
       have jT:=dR s id (.obj (v+1) fr (.vec e t' [])) gS
       refine⟨_,_,rfl,az _,λhh=>by simp at hh,⟨by show(s.aL id _).bT id≠none;rw[jT];simp,λv' fr' c' hh=> ?_⟩,λ_=> ?_⟩
       ·have hh':(s.aL id (.obj (v+1) fr (.vec e t' []))).bT id=some (.obj v' fr' c'):=hh
        rw[jT]at hh'
        simp only[au,dv.obj.injEq]at hh'
        omega
       ·show(match β id with
         |some pl=>_
         |none=>_)
        rw[hp]
        exact⟨rfl,by simp,rfl⟩
     ·obtain⟨cur,cp,hr,q1,q2,q3,q4⟩:=grow none 0 0 [] [] I4 (by simp) rfl rfl rfl (by omega) E3
      refine fin _ _ hr (fresh cur cp g (Trans.trans (Trans.drew w g) (Trans.alloc w.drew g _ _)) (λ_ _ _ _ _ _ _ _=>rfl) q1 q2 q3 ?_ (by simp))
      rw[q4]
      simpa using nH
    |some pl=>
     rw[hp]at hO' hcur'
     simp only at hO' hcur'
     obtain⟨HP,vE⟩:=hcur'
     have HP:=HP (.inr trivial)
     have vE:=vE trivial trivial
     subst HP vE
     obtain⟨cur,k,p1,p2,p3,p4,p5,p6,p7,p8⟩:=hO'
     have hk:k<=len*t'.size:=by
      rcases NK with hf | hf
      ·rw[p7 hf];exact aP _
      ·rw[hf];exact p6
     have hmul:len*t'.size<=l.length*t'.size:=cW _ Lv
     have Ta:l.length*t'.size<=cur.size:=by rw[p2];exact cW _ p3
     have N0:=aV.take (λ_ _ hx=>cT.size hx) len p8
     rw[iM,dQ hmul]at N0
     have yM:(cur.toList.take (len*t'.size)).length=len*t'.size:=by simp;omega
     by_cases tZ:len+m.length<=pl.cap
     ·have T1:(len+m.length)*t'.size<=cur.size:=by rw[p2];exact cW _ tZ
      have Cw:len*i.size+news.length<=cur.size:=by rw[HW,Lw,<-dI];exact T1
      have hr:=xv (P:=P) (w:=w) (ty:=0) hT hX hi p1 h1news hlen (My w rfl) tZ Cw
      rw[HW]at hr Cw
      have ht:Trans w (w.setRow pl.b (df cur.toList (len*t'.size) news).toArray) g g:=by
       refine⟨by simp,by simp,by simp,by simp,λb' hb=> ?_⟩
       by_cases Cv:b'=pl.b
       ·subst Cv
        rw[p5]
        refine⟨.inr ⟨id,k,rfl,az _⟩,λoff u Ly hu=> ?_⟩
        rw[cell_of_row w pl.b off cur e (0,0) p1]at hu
        rw[cell_setRow_same w pl.b off cur _ e (0,0) p1]
        simp only[df,bw,List.getElem?_toArray]
        rw[eE (by rw[yM];omega),cV,if_pos (by omega)]
        simpa using hu
       ·rw[setRow_other w pl.b b' _ Cv]
        cases yu:g b' with
        |free=>exact⟨rfl,rfl⟩
        |own o' k=>cases o' with
         |dH=>exact⟨rfl,rfl⟩
         |id i'=>exact⟨.inr ⟨i',k,rfl,az _⟩,λoff v _ hv=>by rw[cell_setRow_other w pl.b _ _ Cv];exact hv⟩
      have hle:cD (s.env w g β) ((s.aL id (.obj (v+1) fr (.vec e t' (l.take len++m)))).env (w.setRow pl.b (df cur.toList (len*t'.size) news).toArray) g β):=
       cD.aL cI (by omega) ht (λ_ _=>rfl) (λ_=>rfl)
      have MD:(l.take len++m).length=len+m.length:=by simp;omega
      have Sc:(df cur.toList (len*t'.size) news).length=cur.toList.length:=iE (by simpa using Cw)
      have i1:=h.step (cX _ _ _) ht hle (gK.aL (NS:=kV cI λk v1 l e=>by cases e) h.bE gS hle (λ_ _=>rfl) (λi ver fr c pl2 hi zp BH=>⟨setRow_other w pl.b pl2.b _ (h.apart p5 hi zp BH),rfl⟩) (by
       refine⟨hz,?_⟩
       show(match β id with
        |none=>(l.take len++m)=[]
        |some pl=>_)
       rw[hp]
       refine⟨_,k,setRow_heap w pl.b cur _ e (0,0) p1,by rw[fX,Sc];simpa using p2,by rw[MD];exact tZ,p4,p5,?_,p7,?_⟩
       ·rw[MD,dI];omega
       ·rw[MD,show(df cur.toList (len*t'.size) news).toArray.toList=df cur.toList (len*t'.size) news from rfl]
        have e1:(df cur.toList (len*t'.size) news).take ((len+m.length)*t'.size)=cur.toList.take (len*t'.size)++news:=by
         unfold df
         have FQ:(cur.toList.take (len*t'.size)++news).length=(len+m.length)*t'.size:=by rw[av,yM,Lw,dI]
         rw[<-FQ]
         exact List.take_left
        rw[e1]
        exact(aV.append N0 nH).mono λ_ _ hx=>hx.mono hle.mem))
      rw[<-I4]at hr
      refine fin _ _ hr ⟨g,β,i1.put o.dst ⟨_,?_,rfl⟩⟩
      simp only[V]
      have jT:=dR s id (.obj (v+1) fr (.vec e t' (l.take len++m))) gS
      refine⟨_,_,rfl,tZ,λ_=>rfl,⟨by show(s.aL id _).bT id≠none;rw[jT];simp,λv' fr' c' hh=> ?_⟩,λ_=> ?_⟩
      ·have hh':(s.aL id (.obj (v+1) fr (.vec e t' (l.take len++m)))).bT id=some (.obj v' fr' c'):=hh
       rw[jT]at hh'
       simp only[au,dv.obj.injEq]at hh'
       omega
      ·show(match β id with
        |some pl=>_
        |none=>_)
       rw[hp]
       exact⟨λ_=>rfl,λ_ _=>rfl⟩
     ·have QN:(Builtin.firstCells i.size len (.slice (some ⟨pl.b,0,none⟩) len pl.cap)).run P w.drew= .ok (cur.toList.take (len*t'.size)).toArray w.drew:=by
       refine run_firstCells_some (P:=P) w.drew i.size _ _ _ _ _ (by rw[yM,HW]) (λj u hj=> ?_)
       rw[Addr.add_lit,aR]
       show w.cell? ⟨pl.b,j,none⟩=some u
       rw[cell_of_row w pl.b j cur e (0,0) p1]
       rw[cV]at hj
       split at hj
       ·simpa using hj
       ·cases hj
      obtain⟨cur2,cp,hr,q1,q2,q3,q4⟩:=grow (some ⟨pl.b,0,none⟩) len pl.cap (cur.toList.take (len*t'.size)) (l.take len) I4 yM (by simp;omega) N0 QN (by omega) E3
      have gV:pl.b < w.heap.size:=(bB.1 p1).1
      have G0:Trans w w.drew g (j2 g pl.b .free):=by
       refine⟨rfl,rfl,⟨rfl,Nat.le_succ _⟩,az _,λb' hb=> ?_⟩
       by_cases Cv:b'=pl.b
       ·subst Cv
        rw[p5,eQ]
        exact⟨.inl rfl,λ_ _ _ hh=>hh⟩
       ·rw[eJ _ _ _ Cv]
        exact(Trans.drew w g).wN b' hb
      refine fin _ _ hr (fresh cur2 cp (j2 g pl.b .free) (Trans.trans G0 (Trans.alloc w.drew _ _ _)) (λi ver fr c pl2 hi zp BH=>eJ _ _ _ (h.apart p5 hi zp BH)) q1 q2 q3 ?_ Lv)
      rw[q4]
      exact aV.append N0 nH
   ·simp only[aj]at he
  ·simp only[aj]at he
 ·simp only[aj]at he
end
end Go.Ab
namespace Go.Ab
abbrev Ren:=Id->Nat->Option (Id×Nat)
structure qm(ρ:Ren)(E E':Env):Prop where
 mem:mr E E'
 ref:∀id ver r,ρ id ver=some r->E.r9 id ver->E'.r9 r.1 r.2/\(E'.cur r.1 r.2->E.cur id ver/\E'.β r.1=E.β id)
theorem Hh(ρ:Ren)(a:aw):(a.gJ ρ).agg=a.agg:=by
 cases a with
 |ptr id v p n=>simp only[aw.gJ];cases ρ id v <;> rfl
 |cO id v p c i l=>simp only[aw.gJ];cases ρ id v <;> rfl
 |l9 id v=>simp only[aw.gJ];cases ρ id v <;> rfl
 |yl id v=>simp only[aw.gJ];cases ρ id v <;> rfl
 |_=>rfl
mutual
theorem C8{ρ:Ren}{E E':Env}(h:qm ρ E E'):∀ {a:aw} {cs:List Value},V E a cs->V E' (a.gJ ρ) cs
 | .undef,_,hv=>by simp only[V]at hv
 | .gone,_,hv=>by simpa only[aw.gJ,V]using hv
 | .dp,_,hv=>by simpa only[aw.gJ,V]using hv
 | .mi,_,hv=>by simpa only[aw.gJ,V]using hv
 | .nX,_,hv=>by simpa only[aw.gJ,V]using hv
 | .qN,_,hv=>by simpa only[aw.gJ,V]using hv
 | .sb l,_,hv=>by
  simp only[aw.gJ,V]at hv ⊢
  obtain⟨b,cap,arr,e,h1,h2,h3,h4,h5⟩:=hv
  obtain⟨h6,h7⟩:=h.mem.fz b _ h3 h4
  exact⟨b,cap,arr,e,h1,h2,h6,h7,h5⟩
 | .d t x,_,hv=>by simp only[aw.gJ,V]at hv ⊢;exact hv.mono h.mem
 | .pr a b,_,hv=>by
  simp only[aw.gJ,V]at hv ⊢
  obtain⟨ca,cb,e,ha,hb⟩:=hv
  exact⟨ca,cb,e,C8 h ha,C8 h hb⟩
 | .ptr id ver p n,_,hv=>by
  have h1:=hv.one
  simp only[aw.gJ]
  cases hr:ρ id ver with
  |none=>
   simp only[V]at hv ⊢
   obtain⟨a,e,_⟩:=hv
   exact⟨_,e,h1 _ (by simp[e])⟩
  |some r=>
   simp only[V]at hv ⊢
   obtain⟨a,e,hb,hc⟩:=hv
   obtain⟨b1,b2⟩:=h.ref id ver r hr hb
   refine⟨a,e,b1,λc=> ?_⟩
   obtain⟨c1,e1⟩:=b2 c
   rw[e1];exact hc c1
 | .eS t x,_,hv=>by
  simp only[aw.gJ,V]at hv ⊢
  obtain⟨b,off,vs,e,hr,hx⟩:=hv
  exact⟨b,off,vs,e,hr.mono h.mem,hx.mono h.mem⟩
 | .cO id ver p c i len,_,hv=>by
  have h1:=hv.one
  simp only[aw.gJ]
  cases hr:ρ id ver with
  |none=>
   simp only[V]at hv ⊢
   obtain⟨a,cap,e,_⟩:=hv
   exact⟨_,e,h1 _ (by simp[e])⟩
  |some r=>
   simp only[V]at hv ⊢
   obtain⟨a,cap,e,hl,hs,hb,hc⟩:=hv
   obtain⟨b1,b2⟩:=h.ref id ver r hr hb
   refine⟨a,cap,e,hl,hs,b1,λc=> ?_⟩
   obtain⟨c1,e1⟩:=b2 c
   rw[e1];exact hc c1
 | .fn f c,_,hv=>by
  simp only[aw.gJ,V]at hv ⊢
  obtain⟨vs,e,hc⟩:=hv
  exact⟨vs,e,Fe h hc⟩
 | .cons _ _,_,hv=>by simp only[V]at hv
 | .nil,_,hv=>by simp only[V]at hv
 | .vec ..,_,hv=>by simp only[V]at hv
 | .bx ..,_,hv=>by simp only[V]at hv
 | .yl id ver,_,hv=>by
  have h1:=hv.one
  simp only[aw.gJ]
  cases hr:ρ id ver with
  |none=>
   simp only[V]at hv ⊢
   obtain⟨b,e,_⟩:=hv
   exact⟨_,e,h1 _ (by simp[e])⟩
  |some r=>
   simp only[V]at hv ⊢
   obtain⟨b,e,hb,hc⟩:=hv
   obtain⟨b1,b2⟩:=h.ref id ver r hr hb
   refine⟨b,e,b1,λc=> ?_⟩
   obtain⟨c1,e1⟩:=b2 c
   rw[e1];exact hc c1
 | .l9 id ver,_,hv=>by
  have h1:=hv.one
  simp only[aw.gJ]
  cases hr:ρ id ver with
  |none=>
   simp only[V]at hv ⊢
   obtain⟨b,e,_⟩:=hv
   exact⟨_,e,h1 _ (by simp[e])⟩
  |some r=>
   simp only[V]at hv ⊢
   obtain⟨b,e,hb,hc⟩:=hv
   obtain⟨b1,b2⟩:=h.ref id ver r hr hb
   refine⟨b,e,b1,λc=> ?_⟩
   obtain⟨c1,e1⟩:=b2 c
   rw[e1];exact hc c1
 | .mp ..,_,hv | .ml ..,_,hv | .ow ..,_,hv=>by simp only[V]at hv
theorem Fe{ρ:Ren}{E E':Env}(h:qm ρ E E'):∀ {a:aw} {vs:List Value},VC E a vs->VC E' (a.gJ ρ) vs
 | .nil,_,hv=>by simpa only[aw.gJ,VC]using hv
 | .cons a b,_,hv=>by
  simp only[aw.gJ,VC]at hv ⊢
  obtain⟨v,vs',cs,e,ha,ho,hb⟩:=hv
  exact⟨v,vs',cs,e,C8 h ha,by rw[Hh];exact ho,Fe h hb⟩
 | .undef,_,hv=>by simp only[VC]at hv
 | .gone,_,hv=>by simp only[VC]at hv
 | .dp,_,hv=>by simp only[VC]at hv
 | .mi,_,hv=>by simp only[VC]at hv
 | .nX,_,hv=>by simp only[VC]at hv
 | .yl ..,_,hv | .ow ..,_,hv=>by simp only[VC]at hv
 | .qN,_,hv=>by simp only[VC]at hv
 | .sb _,_,hv=>by simp only[VC]at hv
 | .d t x,_,hv=>by simp only[VC]at hv
 | .pr a b,_,hv=>by simp only[VC]at hv
 | .ptr ..,_,hv=>by simp only[VC]at hv
 | .eS ..,_,hv=>by simp only[VC]at hv
 | .cO ..,_,hv=>by simp only[VC]at hv
 | .fn ..,_,hv=>by simp only[VC]at hv
 | .vec ..,_,hv=>by simp only[VC]at hv
 | .bx ..,_,hv=>by simp only[VC]at hv
 | .l9 ..,_,hv=>by simp only[VC]at hv
 | .mp ..,_,hv | .ml ..,_,hv=>by simp only[VC]at hv
end
theorem uk{ρ:Ren}{E E':Env}(h:qm ρ E E'){a:aw}{v:Value}(hv:VS E a v):VS E' (a.gJ ρ) v:=by
 by_cases hc:a.dZ=true
 ·obtain⟨cs,h1,h2⟩:=hv.dZ hc
  exact VS.of (C8 h h1) (by rw[Hh];exact h2)
 ·cases a <;> first | (exact absurd rfl hc) | skip
  ·trivial
  ·obtain⟨vs,e,QX⟩:=hv
   have:=Fe h QX
   simp only[aw.gJ]at this ⊢
   exact⟨vs,e,this⟩
  ·exact hv
  ·obtain⟨cs,h1,_⟩:=hv
   simp only[V]at h1
  ·obtain⟨cs,h1,_⟩:=hv
   simp only[V]at h1
  ·obtain⟨cs,h1,_⟩:=hv
   simp only[V]at h1
  ·obtain⟨cs,h1,_⟩:=hv
   simp only[V]at h1
  ·obtain⟨cs,h1,_⟩:=hv
   simp only[V]at h1
theorem Aa(ρ:Ren):∀f:aw,(f.gJ ρ).list=f.list.map (aw.gJ ρ)
 | .cons a b=>by simp only[aw.gJ,aw.list,bJ,Aa ρ b]
 | .undef | .gone | .dp | .mi | .nX | .qN | .d _ _ | .eS _ _ | .fn _ _ | .pr _ _ | .nil | .vec .. | .sb _ | .bx .. | .mp .. | .ml .. | .ow .. =>rfl
 | .ptr id ver p n=>by simp only[aw.gJ];cases ρ id ver <;> rfl
 | .cO id ver p c i len=>by simp only[aw.gJ];cases ρ id ver <;> rfl
 | .l9 id ver=>by simp only[aw.gJ];cases ρ id ver <;> rfl
 | .yl id ver=>by simp only[aw.gJ];cases ρ id ver <;> rfl
theorem Fa{ρ:Ren}{E E':Env}(h:qm ρ E E'){f:aw}{tmps:Array Value}(hs:rn E f tmps):rn E' (f.gJ ρ) tmps:=by
 refine⟨by rw[Aa,cg];exact hs.1,λi=> ?_⟩
 have:=uk h (hs.2 i)
 rw[Aa,aC,ez]
 rw[aC]at this
 cases hi:f.list[i]? with
 |none=>exact VS.undef
 |some x=>rw[hi]at this;exact this
theorem Iw(ρ:Ren)(c:aw):(c.gJ ρ).strip=c.strip.gJ ρ:=by
 cases c <;> first
  |rfl
  | (rename_i id ver p n;simp only[aw.strip,aw.gJ];cases ρ id ver <;> rfl)
  | (rename_i id ver p c i len;simp only[aw.strip,aw.gJ];cases ρ id ver <;> rfl)
  | (rename_i i v;simp only[aw.strip,aw.gJ];cases ρ i v <;> rfl)
theorem wz(ρ:Ren):∀c:aw,(c.gJ ρ).size=c.size
 | .pr a b=>by simp only[aw.gJ,aw.size,wz ρ a,wz ρ b]
 | .ptr id ver p n=>by simp only[aw.gJ];cases ρ id ver <;> rfl
 | .cO id ver p c i len=>by simp only[aw.gJ];cases ρ id ver <;> rfl
 | .l9 id ver=>by simp only[aw.gJ];cases ρ id ver <;> rfl
 | .undef | .gone | .dp | .mi | .nX | .qN | .d _ _ | .eS _ _ | .fn _ _ | .cons _ _ | .nil | .vec .. | .sb _ | .bx .. | .mp .. | .ml .. | .ow .. =>rfl
 | .yl id ver=>by simp only[aw.gJ];cases ρ id ver <;> rfl
theorem Jd(ρ:Ren){c:aw}(n:Nat):(c.gJ ρ).oz n=c.oz n:=by
 cases c with
 |bx e z c=>cases z with
  |zero=>rfl
  |succ z=>exact wz ρ c
 |_=>first | rfl | (simp only[aw.gJ];split <;> rfl)
theorem Hx(ρ:Ren){c:aw}{pl:Pl}{n:Nat}{e:TypeId}(h:c.sD pl n e):(c.gJ ρ).sD pl n e:=by
  cases c <;> first
    | (rename_i e' z c;cases z with
       |zero=>exact h
       |succ z=>exact⟨h.1,h.2.1,h.2.2.1,by rw[wz];exact h.2.2.2⟩)
    |exact h
    |trivial
    | (rename_i id ver p n;simp only[aw.gJ];cases ρ id ver <;> trivial)
    | (rename_i id ver p c i len;simp only[aw.gJ];cases ρ id ver <;> trivial)
    | (rename_i i v;simp only[aw.gJ];cases ρ i v <;> trivial)
theorem nP{ρ:Ren}{E E':Env}(h:qm ρ E E'){id id':Id}{fr:Bool}{c:aw}(ho:nO E id fr c)(hβ:E'.β id'=E.β id)
  (hb:∀pl,E.β id=some pl->E'.w.heap[pl.b]? =E.w.heap[pl.b]? /\(∀k,E.g pl.b= .own (.id id) k->E'.g pl.b= .own (.id id') k)/\(E.g pl.b= .free->E'.g pl.b= .free)):nO E' id' fr (c.gJ ρ):=by
 by_cases hn:c.gr=false
 ·obtain⟨pl,cur,e,h1,h2,h3,h5,h4⟩:=ho.box hn
  obtain⟨b1,b2,b3⟩:=hb pl h1
  have h6:=C8 h h4
  refine wK.obj ⟨pl,cur,e,by rw[hβ,h1],by rw[b1,h2],?_,Hx ρ h5,by rw[Iw,Jd];exact h6⟩
  cases fr with
  |true=>exact b3 h3
  |false=>exact b2 0 h3
 ·cases c <;> first
   | (exact absurd rfl hn)
   |skip
  rotate_left
  rotate_left
  ·obtain⟨pl,mb,since,seen,c0,h1,h2,h3,_⟩:=ho
   obtain⟨b1,b2,_⟩:=hb pl h1
   exact⟨pl,mb,since,seen,c0,by rw[hβ,h1],by rw[b1,h2],b2 0 h3,λvr FV=>by cases FV⟩
  ·obtain⟨pl,r,h1,h2,h3,h4,h5,h6⟩:=ho
   obtain⟨b1,b2,_⟩:=hb pl h1
   exact⟨pl,r,by rw[hβ,h1],by rw[b1,h2],b2 0 h3,h4,Fa h h5,h6⟩
  rotate_left
  ·obtain⟨pl,es,clock,h1,h2,h3,h4⟩:=ho
   obtain⟨b1,b2,_⟩:=hb pl h1
   exact⟨pl,es,clock,by rw[hβ,h1],by rw[b1,h2],b2 0 h3,⟨h4.1.1.mono h.mem,h4.1.2⟩,h4.2⟩
  rename_i e t l
  obtain⟨hz,ho⟩:=ho
  refine⟨hz,?_⟩
  rw[hβ]
  cases hp:E.β id with
  |none=>rw[hp]at ho;exact ho
  |some pl=>
   rw[hp]at ho
   simp only at ho ⊢
   obtain⟨b1,b2,_⟩:=hb pl hp
   obtain⟨cur,k,h1,h2,h3,h4,h5,h6,h7,h8⟩:=ho
   exact⟨cur,k,by rw[b1,h1],h2,h3,h4,b2 k h5,h6,h7,h8.mono λc x hx=>hx.mono h.mem⟩
def qi(E:Env):List aw->List Value->Prop
 |[],[]=>True
 |a::as,v::vs=>VS E a v/\qi E as vs
 |_,_=>False
def jA.st(G:jA):AS:= {b8:=[],cj:=G.cj,news:=[G.news]}
def fm(cj:List dv):AS:= {b8:=[],cj,news:=[]}
def oI(E:Env)(G:jA)(v:Value)(w':World):Prop:=
 ∃g' β',VS (G.st.env w' g' β') G.val v/\gK (G.st.env w' g' β')/\Trans E.w w' E.g g'/\cD E (G.st.env w' g' β')
def lb(P:Program)(f:FuncId)(en:Entry):Prop:=
 ∀w g β args cj jr x,qi ((fm cj).env w g β) args jr->gK ((fm cj).env w g β)->en.run args cj=some x->
  ((callFunc f jr.toArray).run P w= .ok (.enter f jr.toArray) w/\
   Calls P f jr.toArray w λe w'=>∃v,e= .returned v/\oI ((fm cj).env w g β) (en.out args cj x) v w')\/
  (∃v w',(callFunc f jr.toArray).run P w= .ok (.value v) w'/\oI ((fm cj).env w g β) (en.out args cj x) v w')
def xC(P:Program)(y:Nat)(en:Entry):Prop:=
 ∀w g β args cj jr x,qi ((fm cj).env w g β) args jr->gK ((fm cj).env w g β)->en.run args cj=some x->
  ∀l us ts f rd n,jr= .func (.yield l) #[] #[]::(us++ts)->us.length=(rV P y).ps.size->
   RoundIn (Fr rd) n P l f (((rV P y).ps.zip us.toArray).foldl (λtmps (t,a)=>tmps.setIfInBounds t a) ts.toArray) (rV P y).as (rV P y).b w
    λe w'=>∃v,e= .returned v/\oI ((fm cj).env w g β) (en.out args cj x) v w'
def oJ(P:Program)(f:Nat)(en:Entry):Prop:=(Nat.blt f yB=true->lb P f en)/\(Nat.ble yB f=true->xC P f en)
theorem oJ.of{P:Program}{f:FuncId}{en:Entry}(h:lb P f en)(hf:Nat.blt f yB=true):oJ P f en:=
 ⟨λ_=>h,λh2=>by
  exact absurd (lR (fx hf) (fx h2)) (iA _)⟩
theorem oJ.Uf{P:Program}{f:FuncId}{en:Entry}(h:xC P f en)(hf:Nat.ble yB f=true):oJ P f en:=
 ⟨λh2=>by
  exact absurd (lR (fx h2) (fx hf)) (iA _),λ_=>h⟩
def Sound(P:Program)(Γ:ov):Prop:=∀f vs en,Γ f vs=some en->oJ P f en
theorem qi.mono{E E':Env}(h:cD E E'):∀ {as:List aw} {vs:List Value},qi E as vs->qi E' as vs
 |[],[],_=>trivial
 |_::_,_::_,⟨h1,h2⟩=>⟨h1.mono h,qi.mono h h2⟩
theorem qi.gJ{ρ:Ren}{E E':Env}(h:qm ρ E E'):∀ {as:List aw} {vs:List Value},qi E as vs->qi E' (as.map (aw.gJ ρ)) vs
 |[],[],_=>trivial
 |_::_,_::_,⟨h1,h2⟩=>⟨uk h h1,qi.gJ h h2⟩
theorem qi.append{E:Env}:∀ {as:List aw} {vs:List Value} {bs:List aw} {us:List Value},qi E as vs->qi E bs us->qi E (as++bs) (vs++us)
 |[],[],_,_,_,h=>h
 |_::_,_::_,_,_,⟨h1,h2⟩,h=>⟨h1,qi.append h2 h⟩
theorem Fc{E:Env}:∀ {c:aw} {vs:List Value},VC E c vs->qi E c.list vs
 | .cons a b,vs,h=>by
  simp only[VC]at h
  obtain⟨v,vs',cs,rfl,ha,ho,hb⟩:=h
  exact⟨VS.of ha ho,Fc hb⟩
 | .nil,vs,h=>by
  simp only[VC]at h
  subst h
  trivial
 | .undef,_,hv=>by simp only[VC]at hv
 | .gone,_,hv=>by simp only[VC]at hv
 | .dp,_,hv=>by simp only[VC]at hv
 | .mi,_,hv=>by simp only[VC]at hv
 | .nX,_,hv=>by simp only[VC]at hv
 | .yl ..,_,hv | .ow ..,_,hv=>by simp only[VC]at hv
 | .qN,_,hv=>by simp only[VC]at hv
 | .sb _,_,hv=>by simp only[VC]at hv
 | .d t x,_,hv=>by simp only[VC]at hv
 | .pr a b,_,hv=>by simp only[VC]at hv
 | .ptr ..,_,hv=>by simp only[VC]at hv
 | .eS ..,_,hv=>by simp only[VC]at hv
 | .cO ..,_,hv=>by simp only[VC]at hv
 | .fn ..,_,hv=>by simp only[VC]at hv
 | .vec ..,_,hv=>by simp only[VC]at hv
 | .bx ..,_,hv=>by simp only[VC]at hv
 | .l9 ..,_,hv=>by simp only[VC]at hv
 | .mp ..,_,hv | .ml ..,_,hv=>by simp only[VC]at hv
theorem Inv.Ro{C:Ctx}{g:Nat->jW}{β:Id->Option Pl}{s:AS}{a:Act}{w:World}(h:Inv C g β s a w):∀l:List Operand,qi (s.env w g β) (l.map s.ev) (l.map a.eval)
 |[]=>trivial
 |x::l=>⟨h.ev x,h.Ro l⟩
theorem sI{E E':Env}{s:AS}(hs:E.s=s.bT)(ho:gK E)(he:cD E E'):∀(ps:List (Option Ty)) (vs:List aw) (ys:List Value) (r:List aw×List Id),qi E vs ys->(s.conv ps vs).eval=some r->O9 E E' r.2->qi E' r.1 ys
 |[],[],ys,r,hv,h,_=>by
  simp only[AS.conv,aq]at h
  subst h
  cases ys with
  |nil=>trivial
  |cons _ _=>exact hv.elim
 |some t::ps,v::vs,y::ys,r,⟨hv,vH⟩,h,hf=>by
  simp only[AS.conv]at h
  obtain⟨x,h1,h2⟩:=ak.1 h
  obtain⟨r',h3,h4⟩:=ak.1 h2
  obtain rfl:=aq.1 h4
  obtain⟨cs,hV,hO⟩:=hv.dZ (qC h1)
  refine⟨VS.of (cs:=cs) ?_ ?_,sI hs ho he ps vs ys r' vH h3 λid cZ=>hf id (bp.2 (.inr cZ))⟩
  ·simp only[V]
   exact ou hs ho he v t x cs hV h1 λid cZ=>hf id (bp.2 (.inl cZ))
  ·show eW t.agg cs y
   rw[<-Aw h1];exact hO
 |none::ps,v::vs,y::ys,r,⟨hv,vH⟩,h,hf=>by
  simp only[AS.conv]at h
  obtain⟨r',h3,h4⟩:=ak.1 h
  obtain rfl:=aq.1 h4
  exact⟨hv.mono he,sI hs ho he ps vs ys r' vH h3 hf⟩
 |[],_::_,_,_,_,h,_=>by simp only[AS.conv,aj]at h
 |some _::_,[],_,_,_,h,_=>by simp only[AS.conv,aj]at h
 |none::_,[],_,_,_,h,_=>by simp only[AS.conv,aj]at h
end Go.Ab
namespace Go.Ab
theorem lY{id:Id}:∀ {ids:List Id} {k:Nat},idxOf id ids=some k->ids[k]? =some id
 |[],_,h=>by simp[idxOf]at h
 |x::xs,k,h=>by
  simp only[idxOf]at h
  split at h
  ·rename_i e
   simp only[au]at h
   subst h e
   rfl
  ·simp only[eG]at h
   obtain⟨j,hj,rfl⟩:=h
   simpa using lY hj
theorem qs{id:Id}:∀ {ids:List Id} {k:Nat},ids.Nodup->ids[k]? =some id->idxOf id ids=some k
 |[],_,_,h=>by simp at h
 |x::xs,0,hn,h=>by
  simp only[eV,au]at h
  simp[idxOf,h]
 |x::xs,k+1,hn,h=>by
  simp only[jF]at h
  obtain⟨h1,h2⟩:=c8.1 hn
  have gS:x≠id:=λe=>h1 (e▸cR h)
  simp[idxOf,gS,qs h2 h]
theorem qQ(s0:AS)(all:List Id)(t:Nat):∀(ids:List Id) (es:List dv) (s:AS),(AS.iy s0 all t s ids es).b8=s.b8
 |[],_,_=>by simp[AS.iy]
 |_::_,[],_=>by simp[AS.iy]
 |id::ids,e::es,s=>by rw[AS.iy,qQ s0 all t ids es,cX]
theorem Am(s:AS)(ids:List Id)(t:Nat)(es:List dv):(s.made ids t es).b8=s.b8:=by cases es <;> rfl
theorem sJ(s0:AS)(all:List Id)(t:Nat):∀(ids:List Id) (es:List dv) (s:AS),ids.Nodup->es.length=ids.length->(∀id∈ids,s.bT id≠none)->
  (∀id,id ∉ ids->(AS.iy s0 all t s ids es).bT id=s.bT id)/\
  ∀(k:Nat) (id:Id) (e:dv),ids[k]? =some id->es[k]? =some e->(AS.iy s0 all t s ids es).bT id=some (s0.lU all t (s0.qD id) e)
 |[],es,s,_,_,_=>⟨λ_ _=>by simp[AS.iy],λk id e h=>by simp at h⟩
 |_::_,[],s,_,hl,_=>by simp at hl
 |i::ids,e::es,s,hn,hl,hp=>by
  obtain⟨h1,h2⟩:=c8.1 hn
  have hp':∀id∈ids,(s.aL i (s0.lU all t (s0.qD i) e)).bT id≠none:=λid cZ=>by
   rw[cP s i id _ (λe=>h1 (e▸cZ))]
   exact hp id (aH _ cZ)
  obtain⟨r1,r2⟩:=sJ s0 all t ids es (s.aL i (s0.lU all t (s0.qD i) e)) h2 (by simpa using hl) hp'
  rw[AS.iy]
  refine⟨λid cZ=> ?_,λk id e' hk he=> ?_⟩
  ·simp only[bY,not_or]at cZ
   rw[r1 id cZ.2,cP s i id _ cZ.1]
  ·cases k with
   |zero=>
    simp only[eV,au]at hk he
    subst hk he
    rw[r1 i h1,dR s i _ (hp i (aK ..))]
   |succ k=>
    simp only[jF]at hk he
    exact r2 k id e' hk he
theorem DC(s:AS)(ids:List Id)(t:Nat)(es:List dv)(hv:es=[]\/s.dB t=true):
  (∀id,(es=[]\/∀j,id≠ .new t j)->(s.made ids t es).bT id=s.bT id)/\(es≠ []->∀j,(s.made ids t es).bT (.new t j)=(es[j]?).map (s.lU ids t 0)):=by
 cases es with
 |nil=>exact⟨λ_ _=>rfl,λh=>absurd rfl h⟩
 |cons e es=>
  have hv:s.dB t=true:=by
   rcases hv with h | h
   ·cases h
   ·exact h
  refine⟨λid h=> ?_,λ_ j=> ?_⟩
  ·rcases h with h | h
   ·cases h
   ·exact gL _ h
  ·rw[AS.made,oY (iS hv).2,ez]
def kr(ids:List Id):jW->jW
 | .free=> .free
 | .own .dH n=> .own .dH n
 | .own (.id i) n=>match idxOf i ids with | some k=> .own (.id (.dw k)) n | none=> .own .dH n
def rP(β:Id->Option Pl)(ids:List Id):Id->Option Pl
 | .dw k=>(ids[k]?).bind β
 | .new _ _=>none
def kk(g:Nat->jW)(size:Nat)(ids:List Id)(t:Nat)(b:Nat):jW->jW
 | .free=> .free
 | .own .dH n=>if b < size then g b else .own .dH n
 | .own (.id i) n=> .own (.id (ML ids t i)) n
def oc(β β':Id->Option Pl)(ids:List Id)(t:Nat)(some?:Bool)(id:Id):Option Pl:=
 match idxOf id ids with
 |some k=>β' (.dw k)
 |none=>match id with
  | .new i j=>if i=t/\some?=true then β' (.new 0 j) else β (.new i j)
  |id=>β id
theorem JZ{ids:List Id}{l:jW}{off:Nat}(h:mY (λ_=>l) 0 off):mY (λ_=>kr ids l) 0 off:=by
 cases l with
 |free=>trivial
 |own o k=>cases o with
  |dH=>exact h
  |id i=>simp only[kr];cases idxOf i ids <;> exact h
section
variable {P:Program} {C:Ctx} {g:Nat->jW} {β:Id->Option Pl} {s:AS} {a:Act} {w:World} {o:Oper}
theorem MM(ids:List Id):
  qm (s.oh ids) (s.env w g β) ((fm (ids.map (s.j5 ids))).env w (λb=>kr ids (g b)) (rP β ids)):=by
 refine⟨⟨λb off v ⟨h1,h2⟩=>⟨h1,?_⟩,λb ob h1 h2=>⟨by show kr ids (g b)= .free;have h1:g b= .free:=h1;rw[h1];rfl,h2⟩⟩,λid ver r hr _=> ?_⟩
 ·exact JZ (l:=g b) h2
 ·unfold AS.oh at hr
  split at hr
  ·rename_i k v fr c hk ho
   split at hr
   ·rename_i Qd
    simp only[au]at hr
    subst hr Qd
    have cZ:=lY hk
    have cI:=dG ho
    refine⟨⟨?_,λ_ _ _ _=>aP _⟩,λ_=>⟨⟨fr,c,cI⟩,?_⟩⟩
    ·show(ids.map (s.j5 ids))[k]? ≠none
     simp[cZ]
    ·show(ids[k]?).bind β=β id
     rw[cZ];rfl
   ·cases hr
  ·cases hr
theorem LC(ids:List Id)(hn:ids.Nodup)(h:gK (s.env w g β)):gK ((fm (ids.map (s.j5 ids))).env w (λb=>kr ids (g b)) (rP β ids)):=by
 intro id ver fr c cZ
 have cZ:(fm (ids.map (s.j5 ids))).bT id=some (.obj ver fr c):=cZ
 cases id with
 |new i j=>simp[fm,AS.bT]at cZ
 |dw k=>
  simp only[fm,AS.bT,ez,eG]at cZ
  obtain⟨id1,hk,he⟩:=cZ
  unfold AS.j5 at he
  split at he
  ·rename_i v fr1 c1 cI
   simp only[dv.obj.injEq]at he
   obtain⟨rfl,rfl,rfl⟩:=he
   refine nP (MM ids) (h id1 v fr1 c1 cI) (by show(ids[k]?).bind β=β id1;rw[hk];rfl) λpl hp=>⟨rfl,λn hg=> ?_,λhg=> ?_⟩
   ·have hg:g pl.b= .own (.id id1) n:=hg
    show kr ids (g pl.b)=_
    rw[hg]
    simp[kr,qs hn hk]
   ·have hg:g pl.b= .free:=hg
    show kr ids (g pl.b)=_
    rw[hg];rfl
  ·cases he
theorem y4(h:Inv C g β s a w){ids:List Id}(hn:ids.Nodup)(hp:∀id∈ids,∃r,s.obj id=some r)(yM:∀id∈ids,s.zC id=true){G:jA}{t:Nat}(hl:G.cj.length=ids.length)(hv:G.news=[]\/s.dB t=true){v:Value}{w':World}
  (ha:oI ((fm (ids.map (s.j5 ids))).env w (λb=>kr ids (g b)) (rP β ids)) G v w'):
  ∃g' β',Inv C g' β' (AS.iy s ids t (s.made ids t G.news) ids G.cj) a w'/\VS ((AS.iy s ids t (s.made ids t G.news) ids G.cj).env w' g' β') (G.val.gJ (s.nv ids t)) v:=by
 obtain⟨g1,β1,pN,MF,FU,hle⟩:=ha
 have FU:Trans w w' (λb=>kr ids (g b)) g1:=FU
 obtain⟨m1,m2⟩:=DC s ids t G.news hv
 have R3:∀id∈ids,s.bT id≠none:=λid cZ=>by
  obtain⟨⟨v,fr,c⟩,hr⟩:=hp id cZ
  rw[dG hr];simp
 have tP:∀id,s.bT id≠none->G.news=[]\/∀j,id≠ .new t j:=λid cZ=>by
  rcases hv with hv | hv
  ·exact .inl hv
  ·exact .inr λj e=>cZ (by rw[e];exact(iS hv).1 j)
 obtain⟨n1,n2⟩:=sJ s ids t ids G.cj (s.made ids t G.news) hn hl (λid cZ=>by rw[m1 id (tP id (R3 id cZ))];exact R3 id cZ)
 have Qe:∀j,G.news≠ []->Id.new t j ∉ ids:=λj gS cZ=>by
  rcases hv with hv | hv
  ·exact gS hv
  ·exact R3 _ cZ ((iS hv).1 j)
 generalize zp:AS.iy s ids t (s.made ids t G.news) ids G.cj=s2 at*
 have hgO:∀(k:Nat) (id:Id),ids[k]? =some id->∃e,G.cj[k]? =some e/\s2.bT id=some (s.lU ids t (s.qD id) e):=λk id hk=>by
  have gV:k < G.cj.length:=by rw[hl];exact(dj.1 hk).1
  exact⟨_,cd gV,n2 k id _ hk (cd gV)⟩
 have hgN:G.news≠ []->∀j,s2.bT (.new t j)=(G.news[j]?).map (s.lU ids t 0):=λgS j=>by
  rw[n1 _ (Qe j gS),m2 gS j]
 have hgS:∀id,id ∉ ids->(G.news=[]\/∀j,id≠ .new t j)->s2.bT id=s.bT id:=λid h1 h2=>by
  rw[n1 id h1,m1 id h2]
 have hverOf:∀id∈ids,∃fr c,s.bT id=some (.obj (s.qD id) fr c):=λid cZ=>by
  obtain⟨⟨v,fr,c⟩,hr⟩:=hp id cZ
  refine⟨fr,c,?_⟩
  rw[dG hr]
  simp[AS.qD,hr]
 have RF:∀b n,b < w.heap.size->g1 b= .own .dH n->(g b= .own .dH n\/∃i,g b= .own (.id i) n/\idxOf i ids=none):=λb n hb hg=>by
  have h1:=FU.wN b hb
  cases yu:g b with
  |free=>simp only[yu,kr]at h1;rw[h1.1]at hg;cases hg
  |own o k=>cases o with
   |dH=>simp only[yu,kr]at h1;rw[h1.1]at hg;left;exact hg
   |id i=>
    cases hi:idxOf i ids with
    |none=>
     simp only[yu,kr,hi]at h1
     rw[h1.1]at hg
     simp only[jW.own.injEq,true_and]at hg
     subst hg
     exact .inr ⟨i,rfl,hi⟩
    |some k'=>
     simp only[yu,kr,hi]at h1
     rcases h1.1 with h2 | ⟨_,_,h2,_⟩ <;> (rw[h2]at hg;cases hg)
 let g2:Nat->jW:=λb=>kk g w.heap.size ids t b (g1 b)
 let β2:Id->Option Pl:=oc β β1 ids t (!G.news.isEmpty)
 have hβO:∀k id,ids[k]? =some id->β2 id=β1 (.dw k):=λk id hk=>by
  show oc _ _ _ _ _ id=_
  simp[oc,qs hn hk]
 have hβN:G.news≠ []->∀j,β2 (.new t j)=β1 (.new 0 j):=λgS j=>by
  show oc _ _ _ _ _ _=_
  have:idxOf (.new t j) ids=none:=by
   cases hi:idxOf (.new t j) ids with
   |none=>rfl
   |some k=>exact absurd (cR (lY hi)) (Qe j gS)
  have hne':G.news.isEmpty=false:=by cases hh:G.news with
   |nil=>exact absurd hh gS
   |cons _ _=>rfl
  simp[oc,this,hne']
 have hβS:∀id,id ∉ ids->(G.news=[]\/∀j,id≠ .new t j)->β2 id=β id:=λid h1 h2=>by
  show oc _ _ _ _ _ _=_
  have:idxOf id ids=none:=by
   cases hi:idxOf id ids with
   |none=>rfl
   |some k=>exact absurd (cR (lY hi)) h1
  cases id with
  |dw k=>simp[oc,this]
  |new i j=>
   have:¬(i=t/\(!G.news.isEmpty)=true):=by
    rintro⟨rfl,h3⟩
    rcases h2 with h2 | h2
    ·rw[h2]at h3;cases h3
    ·exact h2 j rfl
   simp only[oc, *,if_false]
 have P9:Trans w w' g g2:=by
  refine⟨FU.os,FU.tape,FU.output,FU.size,λb hb=> ?_⟩
  have h1:=FU.wN b hb
  show match g b with | .free=>kk g w.heap.size ids t b (g1 b)= .free/\_ | .own .dH k=>kk g w.heap.size ids t b (g1 b)= .own .dH k/\_ | .own (.id _) k=>(kk g w.heap.size ids t b (g1 b)= .free\/∃i k',kk g w.heap.size ids t b (g1 b)= .own (.id i) k'/\k<=k')/\_
  cases yu:g b with
  |free=>simp only[yu,kr]at h1 ⊢;rw[h1.1];exact⟨rfl,h1.2⟩
  |own o k=>cases o with
   |dH=>simp only[yu,kr]at h1 ⊢;rw[h1.1];simp only[kk,hb,if_true,yu];exact⟨trivial,h1.2⟩
   |id i=>
    cases hi:idxOf i ids with
    |none=>
     simp only[yu,kr,hi]at h1 ⊢
     rw[h1.1]
     simp only[kk,hb,if_true,yu]
     exact⟨.inr ⟨i,k,rfl,az _⟩,λoff v _ hv=>by simpa only[World.cell?,h1.2]using hv⟩
    |some k'=>
     simp only[yu,kr,hi]at h1 ⊢
     refine⟨?_,h1.2⟩
     rcases h1.1 with h2 | ⟨i',k'',h2,h3⟩
     ·rw[h2];exact .inl rfl
     ·rw[h2];exact .inr ⟨_,k'',rfl,h3⟩
 have qJ:mr (G.st.env w' g1 β1) (s2.env w' g2 β2):=by
  refine⟨λb off v ⟨h1,h2⟩=> ?_,λb ob h1 h2=>⟨by show kk g w.heap.size ids t b (g1 b)= .free;have h1:g1 b= .free:=h1;rw[h1];rfl,h2⟩⟩
  refine⟨h1,?_⟩
  have h2:mY g1 b off:=h2
  show mY g2 b off
  unfold mY at h2 ⊢
  show match kk g w.heap.size ids t b (g1 b) with | .free=>True | .own _ k=>off < k
  cases yu:g1 b with
  |free=>simp[kk]
  |own o k=>
   rw[yu]at h2
   cases o with
   |dH=>
    simp only[kk]
    by_cases hb:b < w.heap.size
    ·rw[if_pos hb]
     rcases RF b k hb yu with h3 | ⟨i,h3,_⟩ <;> (rw[h3];exact h2)
    ·rw[if_neg hb];exact h2
   |id i=>exact h2
 have hentOut:∀(base:Nat) (e:dv) (ver:Nat) (fr:Bool) (c:aw),s.lU ids t base e= .obj ver fr c->∃v0 c0,e= .obj v0 fr c0/\ver=base+v0/\c=c0.gJ (s.nv ids t):=λbase e ver fr c he=>by
  cases e with
  |dead=>cases he
  |obj v0 fr0 c0=>
   simp only[AS.lU,dv.obj.injEq]at he
   obtain⟨rfl,rfl,rfl⟩:=he
   exact⟨v0,c0,rfl,rfl,rfl⟩
 have Cy:qm (s.nv ids t) (G.st.env w' g1 β1) (s2.env w' g2 β2):=by
  refine⟨qJ,λid ver r hr hb=> ?_⟩
  cases id with
  |dw k=>
   obtain⟨wH,yK⟩:=hb
   have wH:G.cj[k]? ≠none:=wH
   have hk:k < ids.length:=by
    rcases kQ k ids.length with h' | h'
    ·exact h'
    ·exact absurd (dn (by omega)) wH
   have cZ:ids[k]? =some ids[k]:=cd hk
   simp only[AS.nv,cZ,au]at hr
   subst hr
   obtain⟨e,vF,AG⟩:=hgO k _ cZ
   refine⟨⟨by show s2.bT _≠none;rw[AG];simp,λv fr c hh=> ?_⟩,λ⟨fr,c,hh⟩=>⟨?_,hβO k _ cZ⟩⟩
   ·have hh:s2.bT ids[k]=some (.obj v fr c):=hh
    rw[AG,au]at hh
    obtain⟨v0,c0,rfl,rfl,_⟩:=hentOut _ _ _ _ _ hh
    have:=yK v0 fr c0 vF
    omega
   ·have hh:s2.bT ids[k]=some (.obj (s.qD ids[k]+ver) fr c):=hh
    rw[AG,au]at hh
    obtain⟨v0,c0,rfl,OU,_⟩:=hentOut _ _ _ _ _ hh
    obtain rfl:ver=v0:=by omega
    exact⟨fr,c0,vF⟩
  |new i j=>
   simp only[AS.nv,au]at hr
   subst hr
   obtain⟨wH,yK⟩:=hb
   have wH:([G.news].getD i [])[j]? ≠none:=wH
   have yK:∀v fr c,([G.news].getD i [])[j]? =some (.obj v fr c)->ver<=v:=yK
   cases i with
   |succ i=>simp at wH
   |zero=>
    simp only[jx]at wH yK
    have gS:G.news≠ []:=λe=>by rw[e]at wH;simp at wH
    obtain⟨e,he⟩:=Option.ne_none_iff_exists'.1 wH
    have AG:=hgN gS j
    rw[he,dE]at AG
    refine⟨⟨by show s2.bT (.new t j)≠none;rw[AG];simp,λv fr c hh=> ?_⟩,λ⟨fr,c,hh⟩=>⟨?_,hβN gS j⟩⟩
    ·have hh:s2.bT (.new t j)=some (.obj v fr c):=hh
     rw[AG,au]at hh
     obtain⟨v0,c0,rfl,rfl,_⟩:=hentOut _ _ _ _ _ hh
     have:=yK v0 fr c0 he
     simp only
     omega
    ·have hh:s2.bT (.new t j)=some (.obj ver fr c):=hh
     rw[AG,au]at hh
     obtain⟨v0,c0,rfl,OU,_⟩:=hentOut _ _ _ _ _ hh
     obtain rfl:ver=v0:=by omega
     exact⟨fr,c0,he⟩
 have PW:cD (s.env w g β) (s2.env w' g2 β2):=by
  refine⟨Trans.mem P9,λid ver hb=> ?_,λid ver hb hc=> ?_⟩
  ·obtain⟨wH,yK⟩:=hb
   have wH:s.bT id≠none:=wH
   have yK:∀v fr c,s.bT id=some (.obj v fr c)->ver<=v:=yK
   by_cases cZ:id∈ids
   ·obtain⟨k,hk⟩:=iU.1 cZ
    obtain⟨e,vF,AG⟩:=hgO k id hk
    obtain⟨fr1,c1,AH⟩:=hverOf id cZ
    refine⟨by show s2.bT _≠none;rw[AG];simp,λv fr c hh=> ?_⟩
    have hh:s2.bT id=some (.obj v fr c):=hh
    rw[AG,au]at hh
    obtain⟨v0,c0,rfl,rfl,_⟩:=hentOut _ _ _ _ _ hh
    have:=yK _ _ _ AH
    omega
   ·have:=hgS id cZ (tP id wH)
    exact⟨by show s2.bT _≠none;rw[this];exact wH,λv fr c hh=>yK v fr c (this.symm.trans hh)⟩
  ·obtain⟨wH,yK⟩:=hb
   have wH:s.bT id≠none:=wH
   have yK:∀v fr c,s.bT id=some (.obj v fr c)->ver<=v:=yK
   obtain⟨fr,c,hh⟩:=hc
   have hh:s2.bT id=some (.obj ver fr c):=hh
   by_cases cZ:id∈ids
   ·obtain⟨k,hk⟩:=iU.1 cZ
    obtain⟨e,vF,AG⟩:=hgO k id hk
    obtain⟨fr1,c1,AH⟩:=hverOf id cZ
    rw[AG,au]at hh
    obtain⟨v0,c0,rfl,OU,_⟩:=hentOut _ _ _ _ _ hh
    have Qd:=yK _ _ _ AH
    obtain rfl:v0=0:=by omega
    have hver':ver=s.qD id:=by omega
    refine⟨⟨fr1,c1,by rw[hver'];exact AH⟩,?_⟩
    show β2 id=β id
    rw[hβO k id hk]
    have PR:s.j5 ids id= .obj 0 fr1 (c1.gJ (s.oh ids)):=by simp[AS.j5,AH]
    have h0:((fm (ids.map (s.j5 ids))).env w (λb=>kr ids (g b)) (rP β ids)).r9 (.dw k) 0:=by
     refine⟨?_,λ_ _ _ _=>aP _⟩
     show(ids.map (s.j5 ids))[k]? ≠none
     simp[hk]
    have:=(hle.cur (.dw k) 0 h0 ⟨fr,c0,vF⟩).2
    have this:β1 (.dw k)=(ids[k]?).bind β:=this
    rw[this,hk];rfl
   ·have:=hgS id cZ (tP id wH)
    exact⟨⟨fr,c,this.symm.trans hh⟩,hβS id cZ (tP id wH)⟩
 have P3:gK (s2.env w' g2 β2):=by
  intro id ver fr c hh
  have hh:s2.bT id=some (.obj ver fr c):=hh
  by_cases cZ:id∈ids
  ·obtain⟨k,hk⟩:=iU.1 cZ
   obtain⟨e,vF,AG⟩:=hgO k id hk
   rw[AG,au]at hh
   obtain⟨v0,c0,rfl,_,rfl⟩:=hentOut _ _ _ _ _ hh
   refine nP Cy (MF (.dw k) v0 fr c0 vF) (hβO k id hk) λpl _=>⟨rfl,λn hg=> ?_,λhg=> ?_⟩
   ·have hg:g1 pl.b= .own (.id (.dw k)) n:=hg
    show kk g w.heap.size ids t pl.b (g1 pl.b)=_
    rw[hg]
    simp[kk,ML,aC,hk]
   ·have hg:g1 pl.b= .free:=hg
    show kk g w.heap.size ids t pl.b (g1 pl.b)=_
    rw[hg];rfl
  ·by_cases gS:G.news≠ []/\∃j,id= .new t j
   ·obtain⟨gS,j,rfl⟩:=gS
    rw[hgN gS j,eG]at hh
    obtain⟨e,he,hh⟩:=hh
    obtain⟨v0,c0,rfl,_,rfl⟩:=hentOut _ _ _ _ _ hh
    refine nP Cy (MF (.new 0 j) v0 fr c0 (by show([G.news].getD 0 [])[j]? =_;simpa using he)) (hβN gS j) λpl _=>⟨rfl,λn hg=> ?_,λhg=> ?_⟩
    ·have hg:g1 pl.b= .own (.id (.new 0 j)) n:=hg
     show kk g w.heap.size ids t pl.b (g1 pl.b)=_
     rw[hg]
     rfl
    ·have hg:g1 pl.b= .free:=hg
     show kk g w.heap.size ids t pl.b (g1 pl.b)=_
     rw[hg];rfl
   ·have Tc:G.news=[]\/∀j,id≠ .new t j:=by
     by_cases hh:G.news=[]
     ·exact .inl hh
     ·exact .inr λj e=>gS ⟨hh,j,e⟩
    rw[hgS id cZ Tc]at hh
    have same:∀id,id ∉ ids->∀ver fr c,s.bT id=some (.obj ver fr c)->∀pl,β id=some pl->w'.heap[pl.b]? =w.heap[pl.b]? /\kk g w.heap.size ids t pl.b (g1 pl.b)=g pl.b:=by
     intro id cZ ver fr c hh pl yw
     obtain⟨hb,PU⟩:=(h.bE id ver fr c hh).label (pl:=pl) yw
     have hb:pl.b < w.heap.size:=hb
     have h1:=FU.wN pl.b hb
     have RI:idxOf id ids=none:=by
      cases hi:idxOf id ids with
      |none=>rfl
      |some k=>exact absurd (cR (lY hi)) cZ
     rcases PU with⟨k,hk⟩ | ⟨_,hk⟩
     ·have hk:g pl.b= .own (.id id) k:=hk
      simp only[hk,kr,RI]at h1
      rw[h1.1]
      simp only[kk,hb,if_true]
      exact⟨h1.2,trivial⟩
     ·have hk:g pl.b= .free:=hk
      simp only[hk,kr]at h1
      rw[h1.1,hk]
      exact⟨h1.2,rfl⟩
    have ho:=h.bE id ver fr c hh
    refine ho.mono PW (hβS id cZ Tc) (λpl yw=>same id cZ ver fr c hh pl yw) λq2 vq k2 v2 l2 yx _=> ?_
    have yx:s.bT q2=some (.obj vq true (.mp k2 v2 l2)):=yx
    have G3:q2 ∉ ids:=λhm=>by
     have:=yM q2 hm
     have e:s.obj q2=some (vq,true,.mp k2 v2 l2):=by simp[AS.obj,yx]
     unfold AS.zC at this
     rw[e]at this
     cases this
    refine⟨⟨k2,v2,l2,?_⟩,λpl yw=>same q2 G3 vq true _ yx pl yw⟩
    show s2.bT q2=_
    rw[hgS q2 G3 (tP q2 (by rw[yx];simp))]
    exact yx
 have I2:s2.b8=s.b8:=by rw[<-zp,qQ,Am]
 exact⟨g2,β2,h.step I2 P9 PW P3,uk Cy pN⟩
end
end Go.Ab
namespace Go.Ab
theorem oe(s:AS):∀(n:Nat) (todo acc:List Id),acc.Nodup->(s.reach n todo acc).Nodup
 | 0,_,acc,h=>by simpa[AS.reach]using h
 |_+1,[],acc,h=>by simpa[AS.reach]using h
 |n+1,id::todo,acc,h=>by
  rw[AS.reach]
  split
  ·exact oe s n todo acc h
  ·rename_i hc
   refine oe s n _ _ ?_
   rw[List.nodup_append]
   refine⟨h,by simp,λx hx y hy e=> ?_⟩
   simp only[bO]at hy
   subst hy e
   exact hc (by simpa using hx)
theorem sO(s:AS)(vs:List aw):(s.G9 vs).Nodup:=oe s _ _ _ (by simp)
section
variable {P:Program} {C:Ctx} {g:Nat->jW} {β:Id->Option Pl} {s:AS} {a:Act} {w:World} {o:Oper}
theorem wV(h:Inv C g β s a w){en:Entry}{ids:List Id}(hn:ids.Nodup){vs:List aw}{ys:List Value}(hv:qi (s.env w g β) vs ys)
  {s':AS} (he:(s.enter en o.dst ids vs).eval=some s'):∃x,en.run (vs.map (aw.gJ (s.oh ids))) (ids.map (s.j5 ids))=some x/\
   qi ((fm (ids.map (s.j5 ids))).env w (λb=>kr ids (g b)) (rP β ids)) (vs.map (aw.gJ (s.oh ids))) ys/\
   gK ((fm (ids.map (s.j5 ids))).env w (λb=>kr ids (g b)) (rP β ids))/\
   ∀v w',oI ((fm (ids.map (s.j5 ids))).env w (λb=>kr ids (g b)) (rP β ids)) (en.out (vs.map (aw.gJ (s.oh ids))) (ids.map (s.j5 ids)) x) v w'->gm C s' (a.put o.dst v) w':=by
 unfold AS.enter at he
 obtain⟨rC,he⟩:=aA.1 he
 obtain⟨x,hx,he⟩:=nS.1 he
 obtain⟨x0,Qf,he⟩:=ak.1 he
 rw[en.MY _ _ Qf]at he
 have hp:∀id∈ids,∃r,s.obj id=some r:=λid cZ=>by
  have:=cY.1 rC id cZ
  rw[ah]at this
  exact bS.1 this.1
 have yM:∀id∈ids,s.zC id=true:=λid cZ=>by
  have:=cY.1 rC id cZ
  rw[ah]at this
  exact this.2
 refine⟨x,hx,qi.gJ (MM ids) hv,LC ids hn h.bE,?_⟩
 intro v w' ha
 unfold AS.back at he
 cases PI:o.dst with
 |some t=>
  rw[PI]at he
  obtain⟨hg,he⟩:=aA.1 he
  obtain rfl:=aq.1 he
  simp only[ah,beq_iff_eq,fD]at hg
  obtain⟨hl,hg⟩:=hg
  have JP:(en.out (vs.map (aw.gJ (s.oh ids))) (ids.map (s.j5 ids)) x).news=[]\/s.dB t=true:=by
   rcases hg with hg | hg
   ·exact .inl (by simpa using hg)
   ·exact .inr hg
  obtain⟨g2,β2,h1,h2⟩:=y4 h hn hp yM hl JP ha
  exact⟨g2,β2,h1.put (some t) h2⟩
 |none=>
  rw[PI]at he
  obtain⟨hg,he⟩:=aA.1 he
  obtain rfl:=aq.1 he
  simp only[ah,beq_iff_eq]at hg
  obtain⟨hl,hg⟩:=hg
  have tP:(en.out (vs.map (aw.gJ (s.oh ids))) (ids.map (s.j5 ids)) x).news=[]:=by simpa using hg
  obtain⟨g2,β2,h1,_⟩:=y4 (t:=0) h hn hp yM hl (.inl tP) ha
  rw[tP]at h1
  exact⟨g2,β2,h1⟩
theorem FB(h:Inv C g β s a w){f:FuncId}{en:Entry}(hd:lb P f en){ids:List Id}(hn:ids.Nodup){vs:List aw}{ys:List Value}(hv:qi (s.env w g β) vs ys)
  (hr:(execOp a.eval o).run P w=(callFunc f ys.toArray).run P w) {s':AS} (he:(s.enter en o.dst ids vs).eval=some s'):eT P o a w (gm C s'):=by
 obtain⟨x,hx,h1,h2,key⟩:=wV h hn hv he
 rcases hd _ _ _ _ _ _ _ h1 h2 hx with⟨IZ,hc⟩ | ⟨v,w',QW,ha⟩
 ·exact .inr (.inr (.inl ⟨f,ys.toArray,w,hr.trans IZ,hc.mono λe w' ⟨v,he,ha⟩=>⟨v,he,key v w' ha⟩⟩))
 ·exact .inl ⟨v,w',hr.trans QW,key v w' ha⟩
theorem HB(h:Inv C g β s a w){c:Call}{F:Operand}{f:FuncId}{caps:aw}{en:Entry}(ho:o.op= .call c)(hc:c.callee= .value F)(hF:s.ev F= .fn f caps)(hd:lb P f en){s':AS}
  (he:(s.call en o.dst (c.args.toList.map s.ev++caps.list)).eval=some s'):eT P o a w (gm C s'):=by
 obtain⟨cal,args,tys⟩:=c
 simp only at hc he
 subst hc
 obtain⟨vs,hy,QX⟩:=Bx (hF▸h.ev F)
 have zl:=(h.Ro args.toList).append (Fc QX)
 have hr:(execOp a.eval o).run P w=(callFunc f (args.toList.map a.eval++vs).toArray).run P w:=by
  have e1:execOp a.eval o=(do let d <-resolve a.eval {callee:= .value F,args,argTypes:=tys} o.type;invoke d.target d.args):=by simp only[execOp,ho]
  rw[e1]
  simp only[resolve,hy,Deferred.ofValue,Sem.run_bind,Sem.run_pure,Result.andThen_ok,invoke]
  congr 2
  simp
 unfold AS.call at he
 obtain⟨r,h1,h2⟩:=ak.1 he
 obtain⟨g',i1,e1,_,f1⟩:=fb r.2 h
 exact FB i1 hd (sO _ _) (sI rfl h.bE e1 _ _ _ r zl h1 f1) hr h2
theorem rn.Un{E:Env}{f:aw}{tmps:Array Value}(h:rn E f tmps):qi E f.list tmps.toList:=by
 obtain⟨h1,h2⟩:=h
 have gen:∀(l:List aw) (ys:List Value),l.length=ys.length->(∀i,VS E (l.getD i .undef) (ys.getD i undef))->qi E l ys:=by
  intro l
  induction l with
  |nil=>intro ys hl _;cases ys with
   |nil=>trivial
   |cons _ _=>simp at hl
  |cons x l ih=>intro ys hl hi;cases ys with
   |nil=>simp at hl
   |cons y ys=>exact⟨by simpa using hi 0,ih ys (by simpa using hl) λi=>by simpa using hi (i+1)⟩
 exact gen _ _ (by simpa using h1) λi=>by simpa[cv,aC]using h2 i
theorem GD(h:Inv C g β s a w){c:Call}{F:Operand}{id:Id}{ver:Nat}{rc:nf}{f:aw}{en:Entry}(ho:o.op= .call c)(hc:c.callee= .value F)
  (hF:s.yielded (s.ev F) c.args.size=some (id,ver,rc,f)) (QT:rc=rV P rc.y) (hd:oJ P rc.y en) {s':AS}
  (he:(s.call en o.dst (.yl id ver::(c.args.toList.map s.ev++f.list))).eval=some s'):eT P o a w (gm C s'):=by
 obtain⟨cal,args,tys⟩:=c
 simp only at hc he hF
 subst hc
 unfold AS.yielded at hF
 split at hF
 rotate_left
 ·cases hF
 rename_i id' ver' HU
 split at hF
 rotate_left
 ·cases hF
 rename_i v c0 f0 ju
 split at hF
 rotate_left
 ·cases hF
 rename_i PE
 simp only[au,cE]at hF
 obtain⟨rfl,rfl,rfl,rfl⟩:=hF
 simp only[ah,beq_iff_eq]at PE
 obtain⟨⟨rfl,mE⟩,hy⟩:=PE
 have cI:=dG ju
 have hv:=h.ev F
 rw[HU]at hv
 obtain⟨cs,hV,hO⟩:=hv
 simp only[V]at hV
 obtain⟨l,rfl,hb,eK⟩:=hV
 have Qi:a.eval F= .func (.yield l) #[] #[]:=by simpa[eW,aw.agg]using hO.symm
 obtain⟨pl,hp,rfl⟩:=eK ⟨false,_,cI⟩
 obtain⟨pl',r,hp',hh,hg,⟨q1,q2,q3⟩,I2,mj⟩:=h.bE id' v false _ cI
 have hp':β id'=some pl':=hp'
 have hp:β id'=some pl:=hp
 rw[hp']at hp
 obtain rfl:pl'=pl:=by simpa using hp
 have hh:w.heap[pl'.b]? =some (.loop r):=hh
 have zl:qi (s.env w g β) (.yl id' v::(args.toList.map s.ev++f0.list)) (.func (.yield pl'.b) #[] #[]::(args.toList.map a.eval++r.tmps.toList)):=
  ⟨by rw[<-Qi,<-HU];exact h.ev F,(h.Ro args.toList).append I2.Un⟩
 have hr:(execOp a.eval o).run P w= .ok (.round pl'.b r.fn ((c0.ps.zip (args.toList.map a.eval).toArray).foldl (λtmps (t,a)=>tmps.setIfInBounds t a) r.tmps.toList.toArray) c0.as c0.b) w:=by
  have e1:execOp a.eval o=(do let d <-resolve a.eval {callee:= .value F,args,argTypes:=tys} o.type;invoke d.target d.args):=by simp only[execOp,ho]
  have e2:=run_yield (P:=P) (args:=args.map a.eval) hh (by simpa[q1]using mE)
  rw[q1,q2,q3]at e2
  rw[e1]
  simp only[resolve,Qi,Deferred.ofValue,Sem.run_bind,Sem.run_pure,Result.andThen_ok,invoke]
  have e3:(args.toList.map a.eval).toArray=args.map a.eval:=by apply fo;simp
  rw[e3]
  simpa using e2
 unfold AS.call at he
 obtain⟨r2,h1,h2⟩:=ak.1 he
 obtain⟨g',i1,e1,_,f1⟩:=fb r2.2 h
 obtain⟨x,hx,k1,k2,key⟩:=wV i1 (sO _ _) (sI rfl h.bE e1 _ _ _ r2 zl h1 f1) h2
 refine .inr (.inr (.inr ⟨pl'.b,r.fn,_,c0.as,c0.b,w,hr,λrd n=> ?_⟩))
 have:=hd.2 hy _ _ _ _ _ _ x k1 k2 hx pl'.b (args.toList.map a.eval) r.tmps.toList r.fn rd n rfl (by rw[<-QT];simpa using mE)
 rw[<-QT]at this
 exact this.mono λe w' ⟨v,he,ha⟩=>⟨v,he,key v w' ha⟩
end
end Go.Ab
namespace Go.Ab
section
variable {P:Program} {C:Ctx} {g:Nat->jW} {β:Id->Option Pl} {s:AS} {a:Act} {w:World} {o:Oper}
theorem ir{b:Builtin}{args:Array Operand}{ts:Array TypeId}{F:TypeId->Array Value->Sem Value}{x:Value}{w':World}{s':AS}(ho:o.op= .call {callee:= .builtin b,args,argTypes:=ts})
  (hb:∀ty cs xs,builtin b ts ty cs xs=(do pure (.value (<-F ty xs)))) (hf:∀ty,(F ty (args.map a.eval)).run P w= .ok x w') (h2:∃g' β',Inv C g' β' s' (a.put o.dst x) w'):eT P o a w (gm C s'):=by
 refine .inl ⟨x,w',?_,h2⟩
 simp only[execOp,ho,resolve,Sem.run_bind,Sem.run_pure,Result.andThen_ok,invoke]
 rw[hb,Sem.run_bind,hf]
 rfl
theorem Fw(h:Inv C g β s a w){src dst:TypeId}{x:Operand}(ho:o.op= .convert src dst x){id:Id}{ver:Nat}(hx:s.ev x= .ptr id ver [] 0){v:aw}(he:(Bp P s src dst id ver).eval=some v):eT P o a w (gm C (s.put o.dst v)):=by
 have hv:=h.ev x
 rw[hx]at hv
 obtain⟨ad,hy,hb,hc⟩:=nu hv
 have fin:v= .ptr id ver [] 0->(convert src dst (a.eval x)).run P w= .ok (a.eval x) w->eT P o a w (gm C (s.put o.dst v)):=by
  intro h1 h2
  subst h1
  exact h.value hv (dz (f:=convert src dst (a.eval x)) (by simp only[execOp,ho]) h2)
 unfold Bp at he
 split at he
 ·rename_i v0 fr e c ju
  have cI:=dG ju
  obtain⟨pl',cur,e',hp',hh,hg,hk,hV⟩:=(h.bE id v0 fr _ cI).box rfl
  have hk:e'=e:=hk
  subst hk
  have hV:V (s.env w g β) c (cur.toList.take cur.size):=hV
  rw[<-cz,c9]at hV
  have hh:w.heap[pl'.b]? =some (.cells cur e' (0,0)):=hh
  have mE:=hV.size
  have mE:cur.toList.length=c.size:=mE
  have JK:w.shape? pl'.b=some (e',c.size):=by simp only[World.shape?,hh];rw[<-mE];simp
  have hp':β id=some pl':=hp'
  split at he
  ·rename_i t hS hD
   obtain⟨h1,h2⟩:=aA.1 he
   have h2:=aq.1 h2
   simp only[ah,beq_iff_eq,bC,beq_eq_false_iff_ne]at h1
   obtain⟨⟨rfl,h3⟩,h4⟩:=h1
   obtain⟨pl,hp,rfl⟩:=hc ⟨fr,_,cI⟩
   have hp:β id=some pl:=hp
   rw[hp']at hp
   obtain rfl:pl'=pl:=by simpa using hp
   refine fin h2.symm ?_
   rw[hy]
   cases hi:P.info? t with
   |none=>exact absurd (by simp[Program.cellsOf,hi]) h3
   |some j=>
    have hj:j.size≠0:=by rw[<-jY hi]at*;exact h3
    exact Go.Lib.run_to_unsafe w _ hS hD hi hj JK (by show 0 < c.size;omega)
  ·rename_i u hS hD
   obtain⟨h1,h2⟩:=aA.1 he
   have h2:=aq.1 h2
   simp only[ah,beq_iff_eq,bC,beq_eq_false_iff_ne]at h1
   obtain⟨⟨rfl,h3⟩,h4⟩:=h1
   obtain⟨pl,hp,rfl⟩:=hc ⟨fr,_,cI⟩
   have hp:β id=some pl:=hp
   rw[hp']at hp
   obtain rfl:pl'=pl:=by simpa using hp
   refine fin h2.symm ?_
   rw[hy]
   cases hi:P.info? u with
   |none=>exact absurd (by simp[Program.cellsOf,hi]) h3
   |some j=>exact Go.Lib.run_from_unsafe w _ hS hD hi JK h4
  ·simp only[aj]at he
 ·simp only[aj]at he
theorem Jv(h:Inv C g β s a w){T U:TypeId}{op:BinOp}{x y:Operand}(ho:o.op= .binOp op T x y U){i j:Id}{v1 v2:Nat}(hx:s.ev x= .ptr i v1 [] 0)(hy:s.ev y= .ptr j v2 [] 0){v:aw}(he:(OI P s T op i v1 j v2).eval=some v):
  eT P o a w (gm C (s.put o.dst v)):=by
 unfold OI at he
 split at he
 ·rename_i v' fr c ju
  obtain⟨h1,h2⟩:=aA.1 he
  simp only[ah,beq_iff_eq,decide_eq_true_eq]at h1
  obtain⟨⟨⟨rfl,rfl⟩,rfl⟩,OT⟩:=h1
  have cI:=dG ju
  have zr:=h.ev x
  have MJ:=h.ev y
  rw[hx]at zr
  rw[hy]at MJ
  obtain⟨ad,Px,_,hc⟩:=nu zr
  obtain⟨ad',Py,_,hc'⟩:=nu MJ
  obtain⟨pl,hp,rfl⟩:=hc ⟨fr,c,cI⟩
  obtain⟨pl',hp',rfl⟩:=hc' ⟨fr,c,cI⟩
  rw[hp]at hp'
  obtain rfl:pl=pl':=by simpa using hp'
  have hT:∃t j,P.underlying T=some (.pointer t)/\P.info? t=some j:=by
   unfold Qt at OT
   split at OT
   ·rename_i t ht
    obtain⟨j,hj⟩:=bS.1 OT
    exact⟨t,j,ht,hj⟩
   ·cases OT
  obtain⟨t,j,hT,hj⟩:=hT
  have hq:(Op.equal T (.pointer (some ⟨pl.b,0,none⟩)) (.pointer (some ⟨pl.b,0,none⟩))).run P w= .ok true w:=
   eF λd=>by simp[Op.equalIn,run_underlying hT,sizeOf,typeInfo,hj,run_sameAddr_same]
  have TI:(eqGuard op T x y (a.eval x) (a.eval y)).run P w= .ok () w:=by rw[Px,Py];exact kf (by simp) rfl
  have fin:∀z,(binOp op T (a.eval x) (a.eval y)).run P w= .ok z w->VS (s.env w g β) v z->eT P o a w (gm C (s.put o.dst v)):=by
   intro z h1 h3
   refine h.value h3 ?_
   simp[execOp,ho,h1,TI]
  split at h2
  ·obtain rfl:=aq.1 h2
   refine fin (.bool true) ?_ (nE true)
   rw[Px,Py]
   simp[binOp,hq]
  ·obtain rfl:=aq.1 h2
   refine fin (.bool false) ?_ (nE false)
   rw[Px,Py]
   simp[binOp,hq]
  ·simp only[aj]at h2
 ·simp only[aj]at he
theorem Mn{c:Call}{b:Builtin}{x:Operand}(hc:c.callee= .builtin b)(ha:c.args.toList=[x]):c= {callee:= .builtin b,args:= #[x],argTypes:=c.argTypes}:=by
 obtain⟨cal,args,tys⟩:=c
 simp only at hc ha
 have ha':args= #[x]:=by apply fo;simpa using ha
 subst hc ha'
 rfl
theorem GL{c:Call}{b:Builtin}{x y:Operand}(hc:c.callee= .builtin b)(ha:c.args.toList=[x,y]):c= {callee:= .builtin b,args:= #[x,y],argTypes:=c.argTypes}:=by
 obtain⟨cal,args,tys⟩:=c
 simp only at hc ha
 have ha':args= #[x,y]:=by apply fo;simpa using ha
 subst hc ha'
 rfl
theorem SM{ts:Array TypeId}{T:TypeId}(h:ts.toList=[T]):ts= #[T]:=by apply fo;simpa using h
theorem Oy{ts:Array TypeId}{T U:TypeId}(h:ts.toList=[T,U]):ts= #[T,U]:=by apply fo;simpa using h
theorem Jj(h:Inv C g β s a w){c:Call}{x:Operand}{T e:TypeId}(ho:o.op= .call c)(hc:c.callee= .builtin .cap)(ha:c.args.toList=[x])(ht:c.argTypes.toList=[T])(hx:s.ev x= .dp)(hT:P.underlying T=some (.slice e)):
  eT P o a w (gm C (s.put o.dst (.d (.int .i64) (0:Int)))):=by
 rw[Mn hc ha,SM ht]at ho
 have hv:=h.ev x
 rw[hx]at hv
 have hy:=ji hv
 refine ir ho (F:=λty xs=>Builtin.cap_ #[T] ty xs) (λty cs xs=>rfl) (x:= .int .i64 0) (w':=w) (λty=> ?_) ⟨g,β,h.put o.dst (jn _ _)⟩
 simp[Builtin.cap_,run_underlying hT,hy,goInt]
theorem EJ(h:Inv C g β s a w){c:Call}{x:Operand}{id:Id}{ver len:Nat}(ho:o.op= .call c)(hc:c.callee= .builtin .unsafeSliceData)(ha:c.args.toList=[x])(hx:s.ev x= .cO id ver [] 0 0 len)(hl:0 < len):
  eT P o a w (gm C (s.put o.dst (.ptr id ver [.idx 0] 0))):=by
 rw[Mn hc ha]at ho
 have hv:=h.ev x
 rw[hx]at hv
 obtain⟨ad,cap,hy,vE,hs,hb,eK⟩:=lK hv
 obtain⟨ad,rfl⟩:=bS.1 (hs hl)
 refine ir ho (F:=λty xs=>Builtin.unsafeSliceData_ c.argTypes ty xs) (λty cs xs=>rfl) (x:= .pointer (some ad)) (w':=w) (λty=> ?_) ⟨g,β,h.put o.dst ?_⟩
 ·rw[show(#[x].map a.eval)= #[a.eval x] by simp,hy]
  exact Go.Lib.run_unsafeSliceData_row w _ _ _ _ _ (by omega)
 ·refine⟨[.pointer (some ad)],?_,rfl⟩
  simp only[V]
  refine⟨ad,rfl,hb,λhc=> ?_⟩
  have h1:=eK hc
  cases hp:(s.env w g β).β id with
  |none=>rw[hp]at h1;simp only at h1;cases h1.1
  |some pl=>
   rw[hp]at h1
   simp only at h1
   exact⟨pl,rfl,by simpa using h1.1 (.inl hl)⟩
theorem Eh(h:Inv C g β s a w){c:Call}{mx:Bool}(ho:o.op= .call c)(hc:c.callee= .builtin (if mx then .max else .min)){v:aw}(he:(Ib mx (c.args.toList.map s.ev)).eval=some v):eT P o a w (gm C (s.put o.dst v)):=by
 unfold Ib at he
 split at he
 ·rename_i k x k' y xP
  obtain⟨h1,h2⟩:=aA.1 he
  obtain rfl:=aq.1 h2
  have h1:k=k':=by simpa using h1
  subst h1
  have HQ:∃p q,c.args.toList=[p,q]/\s.ev p= .d (.int k) x/\s.ev q= .d (.int k) y:=by
   match hh:c.args.toList,xP with
   |[p,q],xP=>simp only[bJ,fE,du]at xP;exact⟨p,q,rfl,xP.1,xP.2.1⟩
   |[],xP=>simp at xP
   |[_],xP=>simp at xP
   |_::_::_::_,xP=>simp at xP
  obtain⟨p,q,ha,hp,hq⟩:=HQ
  rw[GL hc ha]at ho
  have N4:=h.ev p
  have MI:=h.ev q
  rw[hp]at N4
  rw[hq]at MI
  have ep:=np N4
  have eq:=np MI
  cases mx with
  |true=>
   refine ir ho (F:=λty xs=>Builtin.max_ c.argTypes ty xs) (λty cs xs=>rfl) (x:= .int k (if x < y then y else x)) (w':=w) (λty=> ?_) ⟨g,β,h.put o.dst (jn _ _)⟩
   rw[show(#[p,q].map a.eval)= #[a.eval p,a.eval q] by simp,ep,eq]
   simp[Builtin.max_,Builtin.max2]
  |false=>
   refine ir ho (F:=λty xs=>Builtin.min_ c.argTypes ty xs) (λty cs xs=>rfl) (x:= .int k (if y < x then y else x)) (w':=w) (λty=> ?_) ⟨g,β,h.put o.dst (jn _ _)⟩
   rw[show(#[p,q].map a.eval)= #[a.eval p,a.eval q] by simp,ep,eq]
   simp[Builtin.min_,Builtin.min2]
 ·rename_i k x k' y k2 z xP
  obtain⟨h1,h2⟩:=aA.1 he
  obtain rfl:=aq.1 h2
  simp only[ah,decide_eq_true_eq]at h1
  obtain⟨rfl,rfl⟩:=h1
  have HQ:∃p q r,c.args.toList=[p,q,r]/\s.ev p= .d (.int k) x/\s.ev q= .d (.int k) y/\s.ev r= .d (.int k) z:=by
   match hh:c.args.toList,xP with
   |[p,q,r],xP=>simp only[bJ,fE,du]at xP;exact⟨p,q,r,rfl,xP.1,xP.2.1,xP.2.2.1⟩
   |[],xP=>simp at xP
   |[_],xP=>simp at xP
   |[_,_],xP=>simp at xP
   |_::_::_::_::_,xP=>simp at xP
  obtain⟨p,q,r,ha,hp,hq,hr⟩:=HQ
  have Mu:c= {callee:= .builtin (if mx then .max else .min),args:= #[p,q,r],argTypes:=c.argTypes}:=by
   obtain⟨cal,args,tys⟩:=c
   simp only at hc ha
   have ha':args= #[p,q,r]:=by apply fo;simpa using ha
   subst hc ha'
   rfl
  rw[Mu]at ho
  have N4:=h.ev p
  have MI:=h.ev q
  have FV:=h.ev r
  rw[hp]at N4
  rw[hq]at MI
  rw[hr]at FV
  have ep:=np N4
  have eq:=np MI
  have er:=np FV
  cases mx with
  |true=>
   refine ir ho (F:=λty xs=>Builtin.max_ c.argTypes ty xs) (λty cs xs=>rfl) (x:= .int k (if(if x < y then y else x) < z then z else(if x < y then y else x))) (w':=w) (λty=> ?_) ⟨g,β,h.put o.dst (jn _ _)⟩
   rw[show(#[p,q,r].map a.eval)= #[a.eval p,a.eval q,a.eval r] by simp,ep,eq,er]
   simp[Builtin.max_,Builtin.max2]
  |false=>
   refine ir ho (F:=λty xs=>Builtin.min_ c.argTypes ty xs) (λty cs xs=>rfl) (x:= .int k (if z < (if y < x then y else x) then z else(if y < x then y else x))) (w':=w) (λty=> ?_) ⟨g,β,h.put o.dst (jn _ _)⟩
   rw[show(#[p,q,r].map a.eval)= #[a.eval p,a.eval q,a.eval r] by simp,ep,eq,er]
   simp[Builtin.min_,Builtin.min2]
 ·simp only[aj]at he
theorem AD(z:Array Value)(n:Nat):Builtin.zeroCells z n=madeCells z (n*z.size):=rfl
theorem HN(h:Inv C g β s a w){c:Call}{x y:Operand}{T X:TypeId}{k:IntKind}{n:Int}(ho:o.op= .call c)(hc:c.callee= .builtin .append)(ha:c.args.toList=[x,y])(ht:c.argTypes.toList=[T,X])(hx:s.ev x= .dp)(hy:s.ev y= .d (.int k) n){s':AS}
  (he:(DQ P s o.dst T X n).eval=some s'):eT P o a w (gm C s'):=by
 rw[GL hc ha,Oy ht]at ho
 have zr:=h.ev x
 have MJ:=h.ev y
 rw[hx]at zr
 rw[hy]at MJ
 have ex:=ji zr
 have ey:=np MJ
 unfold DQ at he
 split at he
 ·rename_i e t b q kn tO hd hX
  obtain⟨hT,hz,i,zv,hi,HW,NN,E5,HZ⟩:=qI tO
  obtain⟨hq,h2⟩:=aA.1 he
  obtain⟨h3,h4⟩:=bF.1 h2
  obtain rfl:=aq.1 h4
  simp only[ah,decide_eq_true_eq,dX]at h3
  obtain⟨h5,h7,h8⟩:=h3
  obtain⟨m,rfl⟩:=Int.eq_ofNat_of_zero_le (Int.le_of_lt h5)
  simp only[aa]at h7 h8 ⊢
  have OX:zv.cells.size=t.size:=by have:=(HZ (s.env w g β)).size;simpa using this
  have hr:=λty=>Go.Lib.run_append_nil_zeros (P:=P) w T X ty e i zv k kn hT hX hi E5 m (by omega) (by rw[HW];exact hz) (by omega) (by rw[NN];omega)
  obtain⟨cap,vE⟩:∃cap,grownCap w m 0 e=cap:=⟨_,rfl⟩
  have c1:m<=cap:=by rw[<-vE];exact grownCap_ge _ _ _ _
  have c2:cap<=maxLen:=by rw[<-vE];exact grownCap_le_maxLen _ _ _ _ (by unfold maxLen;omega)
  rw[vE]at hr
  obtain⟨cur,eK⟩:∃cur,Builtin.zeroCells zv.cells m++Builtin.zeroCells zv.cells (cap - m)=cur:=⟨_,rfl⟩
  rw[eK]at hr
  have s1:cur.size=cap*t.size:=by
   rw[<-eK,Array.size_append,qg,qg,OX,<-dI]
   congr 1
   omega
  have rC:=mM (HZ (s.env w.drew g β)) m
  have s2:cur.toList.take (m*t.size)=(madeCells zv.cells (m*t.size)).toList:=by
   rw[<-eK,bK,AD,OX]
   have hl:(madeCells zv.cells (m*t.size)).toList.length=m*t.size:=by simp[size_madeCells]
   rw[eB (by omega),bg (by omega)]
  obtain⟨g2,β2,i2,xO⟩:=(h.drew).CL hq (e:=e) (l:=List.replicate m t.zero) (cur:=cur) (cap:=cap) hz (by rw[cJ,s2];exact rC) s1 (by rw[cJ];exact c1) c2
  rw[cJ]at xO
  refine ir ho (F:=λty xs=>Builtin.append_ #[T,X] ty xs) (λty cs xs=>rfl) (λty=> ?_) ⟨g2,β2,i2.put o.dst xO⟩
  rw[show(#[x,y].map a.eval)= #[a.eval x,a.eval y] by simp,ex,ey]
  exact hr ty
 ·simp only[aj]at he
theorem BZ:∀(xs:List Int) (a:Addr) (acc:ByteArray),(∀j x,xs[j]? =some x->w.cell? (a.add j)=some (.int .u8 x))->
  (loadBytes a acc xs.length).run P w= .ok ⟨acc.data++(xs.map λn=>UInt8.ofNat n.toNat).toArray⟩ w
 |[],a,acc,_=>by simp[loadBytes]
 |x::l,a,acc,h=>by
  have h0:w.cell? a=some (.int .u8 x):=by
   have:=h 0 x rfl
   simpa[Addr.add]using this
  have ih:=BZ l (a.add 1) (acc.push x.toNat.toUInt8) (λj y hy=>by
   have:=h (j+1) y (by simpa using hy)
   have e:(a.add 1).add j=a.add (j+1):=by
    unfold Addr.add
    by_cases hj:j=0
    ·subst hj;simp
    ·simp[hj];omega
   rw[e];exact this)
  simp only[aG,loadBytes,Sem.run_bind,run_load,h0,Result.andThen]
  rw[ih]
  congr 1
  apply ByteArray.ext
  simp[ByteArray.push]
theorem IM(h:Inv C g β s a w){c:Call}{x y:Operand}{T U:TypeId}{id:Id}{ver:Nat}{n:Int}(ho:o.op= .call c)(hc:c.callee= .builtin .unsafeString)(ha:c.args.toList=[x,y])(ht:c.argTypes.toList=[T,U])
  (hx:s.ev x= .ptr id ver [.idx 0] 0) (hy:s.ev y= .d (.int .i64) n) {s':AS} (he:(EU P s o.dst T id ver n).eval=some s'):eT P o a w (gm C s'):=by
 rw[GL hc ha,Oy ht]at ho
 have zr:=h.ev x
 rw[hx]at zr
 obtain⟨ad,Px,_,TB⟩:=nu zr
 have MJ:=h.ev y
 rw[hy]at MJ
 have Py:=np MJ
 unfold EU at he
 split at he
 ·rename_i v e l u ju hT
  obtain⟨h1,h2⟩:=aA.1 he
  obtain⟨h3,h4⟩:=bF.1 h2
  obtain rfl:=aq.1 h4
  simp only[ah,beq_iff_eq]at h1
  obtain⟨⟨rfl,rfl⟩,QK⟩:=h1
  simp only[decide_eq_true_eq]at h3
  obtain⟨h5,h6⟩:=h3
  obtain⟨n,rfl⟩:=Int.eq_ofNat_of_zero_le (Int.le_of_lt h5)
  have h6:n<=(l:List Int).length:=by omega
  have cI:=dG ju
  obtain⟨pl,hp,rfl⟩:=TB ⟨false,_,cI⟩
  have hp:β id=some pl:=hp
  have hO:nO (s.env w g β) id false (.vec u (.int .u8) l):=h.bE id v false _ cI
  obtain⟨hz,hO⟩:=hO
  have hO:(match β id with
   |none=>l=[]
   |some pl=>∃cur k,w.heap[pl.b]? =some (.cells cur u (0,0))/\cur.size=pl.cap*(Ty.int .u8).size/\(l:List Int).length<=pl.cap/\pl.cap<=maxLen/\g pl.b= .own (.id id) k/\
     k<=(l:List Int).length*(Ty.int .u8).size/\(false=false->k=0)/\aV (cT (s.env w g β) (.int .u8)) (cur.toList.take ((l:List Int).length*(Ty.int .u8).size)) l):=hO
  rw[hp]at hO
  obtain⟨cur,k,q1,q2,q3,q4,q5,q6,q7,q8⟩:=hO
  have hk:=q7 rfl
  subst hk
  have NV:(Ty.int .u8).size=1:=rfl
  rw[NV,nN]at q2 q8
  have vH:=nR q8
  have JK:w.shape? pl.b=some (u,cur.size):=by simp only[World.shape?,q1]
  have qY:∀j z,((l:List Int).take n)[j]? =some z->w.cell? ((⟨pl.b,0,none⟩:Addr).add j)=some (.int .u8 z):=λj z hj=>by
   rw[cV]at hj
   split at hj
   ·rename_i Ux
    have NP:j < (l:List Int).length:=by omega
    rw[Addr.add_lit,aR]
    simp only[World.cell?,q1]
    have:(cur.toList.take (l:List Int).length)[j]? =some (.int .u8 z):=by rw[vH,ez,hj];rfl
    rw[cV,if_pos NP]at this
    simpa using this
   ·cases hj
  have hlen:((l:List Int).take n).length=n:=by rw[bI];omega
  have PV:=BZ (P:=P) (w:=w) ((l:List Int).take n) ⟨pl.b,0,none⟩ .empty qY
  rw[hlen]at PV
  have PX:=Go.Lib.liesAt_bytes (P:=P) (e:=u) (by simpa using QK) (cur.size / P.cellsOf u) n (by
   rw[show P.cellsOf u=1 by simpa using QK,Nat.div_one];omega)
  have PN:∃w',w.freeze ⟨pl.b,0,none⟩ n=w'/\w'.os=w.os/\w'.tape=w.tape/\(w'.output=w.output/\w.drawn<=w'.drawn)/\w'.heap.size=w.heap.size/\∀b',b'≠pl.b->w'.heap[b']? =w.heap[b']? :=by
   refine⟨_,rfl,?_⟩
   unfold World.freeze
   rw[if_neg (by omega)]
   refine⟨rfl,rfl,⟨rfl,az _⟩,by simp,λb' hb'=> ?_⟩
   simp only[fu]
   rw[if_neg (λe=>hb' e.symm)]
  obtain⟨w',hw',f1,f2,f3,f4,f5⟩:=PN
  have i1:=h.kill cI q5 f1 f2 f3 f4 f5
  have SV:¬(9223372036854775807:Int) < (n:Int):=by unfold maxLen at q4;omega
  have RY:¬(n:Int) < 0:=by omega
  have NT:n≠0:=by omega
  have RU:IntKind.i64.max=9223372036854775807:=rfl
  refine ir ho (F:=λty xs=>Builtin.unsafeString_ #[T,U] ty xs) (λty cs xs=>rfl) (x:= .string (eI ((l:List Int).take n))) (w':=w') (λty=> ?_) ⟨_,β,i1.put o.dst ⟨[.string (eI ((l:List Int).take n))],by simp only[V,cT];rfl,rfl⟩⟩
  rw[show(#[x,y].map a.eval)= #[a.eval x,a.eval y] by simp,Px,Py]
  have NI:Builtin.unsafeString_ #[T,U] ty #[.pointer (some ⟨pl.b,0,none⟩),.int .i64 n]=
    (do
     let n <-Go.asInt (.int .i64 n)
     if n < 0 then runtimePanic (.error "unsafe.String: len out of range")
     if n > IntKind.i64.max then unsupported (.unsafePointer "String: a length above the largest int")
     if n=0 then pure (.string .empty)
     else if <-variablesAt ⟨pl.b,0,none⟩ (<-elemOf T) n.toNat then do
      let s <-loadBytes ⟨pl.b,0,none⟩ .empty n.toNat
      freeze ⟨pl.b,0,none⟩ n.toNat
      pure (.string s)
     else unsupported (.unsafePointer "String: not so many bytes at ptr")):=rfl
  rw[NI]
  simp[Go.asInt,asIntOf,RU,SV,RY,NT,variablesAt,JK,elemOf,run_underlying hT,PX,PV,hw',eI]
 ·simp only[aj]at he
end
end Go.Ab
namespace Go.Ab
section
variable {P:Program} {C:Ctx} {g:Nat->jW} {β:Id->Option Pl} {s:AS} {a:Act} {w:World} {o:Oper}
theorem Ee(h:Inv C g β s a w){c:Call}{T T2:TypeId}{m k:Operand}(c6:o.op= .call c)(hc:c.callee= .builtin .delete)(ha:c.args.toList=[m,k])(ht:c.argTypes.toList=[T,T2]){s':AS}(he:(rI P s T (s.ev m) (s.ev k)).eval=some s'):eT P o a w (gm C (s'.put o.dst .nil)):=by
 have c6:o.op= .call {callee:= .builtin .delete,args:= #[m,k],argTypes:= #[T,T2]}:=by rw[c6,GL hc ha,Oy ht]
 unfold rI at he
 split at he
 ·rename_i K V' kt vt id ver hm hx
  obtain⟨l,h1,he⟩:=ak.1 he
  obtain⟨kx,h2,he⟩:=ak.1 he
  obtain⟨N1,he⟩:=aA.1 he
  obtain rfl:=aq.1 he
  obtain⟨hT,hK,_⟩:=qv hm
  have zr:=h.ev m
  rw[hx]at zr
  obtain⟨fr,pl,es,clock,g1,g2,g3,g4,g5,g6,g7,gn⟩:=pc h h1 zr
  obtain⟨l0,g6,gp⟩:=g6
  have tY:=pI depth K kt hK
  have hk:=rQ (h.ev k) h2
  have Mv:=kG (P:=P) (w:=w) es.isEmpty depth K kt hK 10000 (by decide) _ _ hk
  obtain⟨r,hf,hr⟩:=uJ (P:=P) (w:=w) hK hk g6
  have fin:∀(es':Array MapEntry) (clock':Nat),(∀ty,(Builtin.delete_ #[T,T2] ty (#[m,k].map a.eval)).run P w= .ok (.tuple #[]) {w with heap:=w.heap.setIfInBounds pl.b (.map es' clock')})->Alike (rj (s.env w g β) kt vt) es'.toList (ky kt kx l0)->kA es'.toList clock'->
    eT P o a w (gm C ((s.aL id (.obj ver false (.mp kt vt (ky kt kx l)))).put o.dst .nil)):=λes' clock' kU HQ PA=>
   ir (F:=λty xs=>Builtin.delete_ #[T,T2] ty xs) c6 (λ_ _ _=>rfl) kU ⟨g,β,(h.Ku g1 g2 g4 g5 ⟨_,HQ,zK tY gn gp⟩ (sS tY gn) PA N1).put o.dst rfl⟩
  cases r with
  |none=>
   simp only at hr
   refine fin es clock (λty=> ?_) (by simp only[ky,hr];exact g6) g7
   simp[Builtin.delete_,run_underlying hT,g3,Go.MapKept.run_getObj_map g4,Mv,hf,Go.MapKept.run_setObj_map _ g4]
  |some u=>
   obtain⟨j,u⟩:=u
   obtain⟨e,m1,m2,rfl⟩:=hr
   refine fin (es.eraseIdxIfInBounds j) clock (λty=> ?_) ?_ (by rw[Array.toList_eraseIdxIfInBounds];exact g7.erase j)
   ·simp[Builtin.delete_,run_underlying hT,g3,Go.MapKept.run_getObj_map g4,Mv,hf,Go.MapKept.run_setObj_map _ g4]
   ·simp only[ky,m1,Array.toList_eraseIdxIfInBounds]
    exact g6.erase j
 ·simp only[aj]at he
theorem Dg{Γ:ov}(hΓ:Sound P Γ){bE:List Nat}(h:Inv C g β s a w){s':AS}(he:(lh P Γ bE o s).eval=some s'):eT P o a w (gm C s'):=by
 unfold lh at he
 split at he
 ·rename_i x c6
  obtain rfl:=aq.1 he
  exact BP h (.inl c6)
 ·rename_i x c6
  obtain rfl:=aq.1 he
  exact BP h (.inr c6)
 ·rename_i c x y c6
  obtain⟨v,h1,h2⟩:=ak.1 he
  obtain rfl:=aq.1 h2
  exact Ir h c6 h1
 ·rename_i T c6
  split at he
  ·rename_i z q hz hq
   obtain⟨h1,h2⟩:=aA.1 he
   obtain rfl:=aq.1 h2
   simp only[ah]at h1
   exact Fh h c6 h1.1 h1.2
  ·exact(aj.1 he).elim
 ·rename_i T x c6
  exact Je h c6 he
 ·rename_i T parts c6
  exact Fm h c6 he
 ·rename_i T n parts c6
  exact yo h c6 he
 ·rename_i T x c6
  obtain⟨v,h1,h2⟩:=ak.1 he
  obtain rfl:=aq.1 h2
  exact H9 h c6 h1
 ·rename_i T x v c6
  obtain⟨v,h1,h2⟩:=ak.1 he
  obtain rfl:=aq.1 h2
  exact Gy h c6 h1
 ·rename_i x c6
  exact A0 h c6 he
 ·rename_i op T x y U c6
  split at he
  ·rename_i i v1 j v2 hx hy
   obtain⟨v,h1,h2⟩:=ak.1 he
   obtain rfl:=aq.1 h2
   exact Jv h c6 hx hy h1
  ·obtain⟨v,h1,h2⟩:=ak.1 he
   obtain rfl:=aq.1 h2
   exact Fk h c6 h1
 ·rename_i op T x c6
  obtain⟨v,h1,h2⟩:=ak.1 he
  obtain rfl:=aq.1 h2
  exact IS h c6 h1
 ·rename_i T U x c6
  split at he
  ·rename_i id ver len hTU hx
   exact Fv h c6 hx he
  ·rename_i id ver hx
   obtain⟨v,h1,h2⟩:=ak.1 he
   obtain rfl:=aq.1 h2
   exact Fw h c6 hx h1
  ·obtain⟨v,h1,h2⟩:=ak.1 he
   obtain rfl:=aq.1 h2
   exact Cl h c6 h1
 ·rename_i T x c6
  exact GB h c6 he
 ·rename_i f first caps c6
  obtain⟨h1,h2⟩:=aA.1 he
  obtain rfl:=aq.1 h2
  simp only[ah]at h1
  exact AV h c6 h1.1 h1.2
 ·rename_i T l c c6
  obtain⟨n,h1,h2⟩:=ak.1 he
  obtain⟨m,h3,h4⟩:=ak.1 h2
  exact zJ h c6 h1 h3 h4
 ·rename_i T x lo hi c6
  obtain⟨v,h1,h2⟩:=ak.1 he
  obtain rfl:=aq.1 h2
  exact Ak h c6 (.inl rfl) h1
 ·rename_i T x lo y m c6
  obtain⟨v',h0,h8⟩:=ak.1 he
  obtain rfl:=aq.1 h8
  obtain⟨hv,h1,h2⟩:=ak.1 h0
  obtain⟨mv,h3,h4⟩:=ak.1 h2
  obtain⟨h5,h6⟩:=bF.1 h4
  obtain⟨v,h7,h9⟩:=ak.1 h6
  obtain rfl:=aq.1 h9
  simp only[decide_eq_true_eq]at h5
  exact Ak h c6 (.inr ⟨m,y,hv,mv,rfl,rfl,h1,h3,h5.1,h5.2.1,h5.2.2⟩) h7
 ·rename_i T x f c6
  obtain⟨v,h1,h2⟩:=ak.1 he
  obtain rfl:=aq.1 h2
  exact zf h c6 h1
 ·rename_i T x f c6
  obtain⟨v,h1,h2⟩:=ak.1 he
  obtain rfl:=aq.1 h2
  exact FF h c6 h1
 ·rename_i T x i c6
  obtain⟨n,h0,he⟩:=ak.1 he
  obtain⟨v,h1,h2⟩:=ak.1 he
  obtain rfl:=aq.1 h2
  exact zx h c6 h0 h1
 ·rename_i T x i c6
  obtain⟨n,h0,he⟩:=ak.1 he
  obtain⟨v,h1,h2⟩:=ak.1 he
  obtain rfl:=aq.1 h2
  exact FW h c6 h0 h1
 ·rename_i x i c6
  obtain⟨v,h1,h2⟩:=ak.1 he
  obtain rfl:=aq.1 h2
  exact Cq h c6 h1
 ·rename_i T c6
  exact CI h c6 he
 ·rename_i T x i ok c6
  obtain⟨v,h1,h2⟩:=ak.1 he
  obtain rfl:=aq.1 h2
  exact Ec h c6 h1
 ·rename_i T m k x c6
  obtain⟨s1,h1,h2⟩:=ak.1 he
  obtain rfl:=aq.1 h2
  exact Eg h c6 h1
 ·rename_i c c6
  split at he
  ·rename_i hc
   split at he
   ·rename_i m k T T2 ha ht
    obtain⟨s1,h1,h2⟩:=ak.1 he
    obtain rfl:=aq.1 h2
    exact Ee h c6 hc ha ht h1
   ·exact(aj.1 he).elim
  ·rename_i hc
   split at he
   ·rename_i x y T X ha ht
    exact HG h c6 hc ha ht he
   ·exact(aj.1 he).elim
  ·rename_i hc
   split at he
   ·rename_i x T ha ht
    obtain⟨v,h1,h2⟩:=ak.1 he
    obtain rfl:=aq.1 h2
    exact J1 h c6 hc ha ht h1
   ·exact(aj.1 he).elim
  ·rename_i hc
   split at he
   ·rename_i x y T X ha ht
    split at he
    ·rename_i k n hx hy
     exact HN h c6 hc ha ht hx hy he
    ·exact Dh h c6 hc ha ht he
   ·exact(aj.1 he).elim
  ·rename_i hc
   split at he
   ·rename_i x T ha ht
    split at he
    ·rename_i e hx hT
     obtain rfl:=aq.1 he
     exact Jj h c6 hc ha ht hx hT
    ·exact(aj.1 he).elim
   ·exact(aj.1 he).elim
  ·rename_i hc
   obtain⟨v,h1,h2⟩:=ak.1 he
   obtain rfl:=aq.1 h2
   exact Eh (mx:=true) h c6 hc h1
  ·rename_i hc
   obtain⟨v,h1,h2⟩:=ak.1 he
   obtain rfl:=aq.1 h2
   exact Eh (mx:=false) h c6 hc h1
  ·rename_i hc
   split at he
   ·rename_i x ha
    split at he
    ·rename_i id ver len hx
     obtain⟨h1,h2⟩:=bF.1 he
     obtain rfl:=aq.1 h2
     exact EJ h c6 hc ha hx (by simpa using h1)
    ·exact(aj.1 he).elim
   ·exact(aj.1 he).elim
  ·rename_i hc
   split at he
   ·rename_i x y T U ha ht
    split at he
    ·rename_i id ver n hx hy
     exact IM h c6 hc ha ht hx hy he
    ·exact(aj.1 he).elim
   ·exact(aj.1 he).elim
  ·rename_i F hc
   split at he
   ·rename_i f caps hF
    split at he
    ·rename_i en IZ
     obtain⟨gV,he⟩:=aA.1 he
     exact HB h c6 hc hF ((hΓ f _ en IZ).1 gV) he
    ·exact(aj.1 he).elim
   ·exact(aj.1 he).elim
  ·exact(aj.1 he).elim
 ·exact(aj.1 he).elim
end
end Go.Ab
namespace Go.Ab
def lq(P:Program)(ops:Array Oper)(o:Oper)(a:Act)(w:World)(K:Act->World->Prop):Prop:=
 if Region.wanted o (yielded ops a.tmps) then eT P o a w K else K (a.put o.dst undef) w
theorem lq.mono{P:Program}{ops:Array Oper}{o:Oper}{a:Act}{w:World}{K K':Act->World->Prop}(h:lq P ops o a w K)(hk:∀a w,K a w->K' a w):lq P ops o a w K':=by
 unfold lq at*
 split
 ·rename_i hw;rw[if_pos hw]at h;exact h.mono hk
 ·rename_i hw;rw[if_neg hw]at h;exact hk _ _ h
theorem eT.some{P:Program}{o:Oper}{a:Act}{w:World}{K:Act->World->Prop}(h:eT P o a w K):∃a' w',K a' w':=by
 rcases h with⟨x,w',_,h⟩ | ⟨w',_,h⟩ | ⟨f,args,w',_,h⟩ | ⟨l,f,tmps,as,b,w',_,h⟩
 ·exact⟨_,_,h⟩
 ·exact⟨_,_,h⟩
 ·obtain⟨e,w'',_,⟨x,_,hx⟩,_⟩:=h []
  exact⟨_,_,hx⟩
 ·obtain⟨e,w'',⟨x,_,hx⟩,_⟩:=(h none 0).2 default [] (room_wide _)
  exact⟨_,_,hx⟩
theorem lq.some{P:Program}{ops:Array Oper}{o:Oper}{a:Act}{w:World}{K:Act->World->Prop}(h:lq P ops o a w K):∃a' w',K a' w':=by
 unfold lq at h
 split at h
 ·exact h.some
 ·exact⟨_,_,h⟩
theorem lq.wpListIn{r:Option Nat}{n:Nat}{P:Program}{ops:Array Oper}{o:Oper}{a:Act}{w:World}{Q:Exit->Act->World->Prop}{l:List Oper}(h:lq P ops o a w (wpListIn (Fr r) n P ops Q l)):Go.wpListIn (Fr r) n P ops Q (o::l) a w:=by
 unfold lq at h
 unfold Go.wpListIn
 split
 ·rename_i hw;rw[if_pos hw]at h;exact h.wpIn
 ·rename_i hw;rw[if_neg hw]at h;exact⟨λ_ _=>trivial,h⟩
theorem lq.wpOpIn{r:Option Nat}{n:Nat}{P:Program}{ops:Array Oper}{o:Oper}{i:Nat}{a:Act}{w:World}{Q:Exit->Act->World->Prop}{K:Act->World->Prop}(ho:ops[i]? =Option.some o)(h:lq P ops o a w K):Go.wpOpIn (Fr r) n P ops Q i K a w:=by
 unfold lq at h
 unfold Go.wpOpIn
 simp only[ho]
 split
 ·rename_i hw;rw[if_pos hw]at h;exact h.wpIn
 ·rename_i hw;rw[if_neg hw]at h;exact⟨λ_ _=>trivial,h⟩
theorem Kn{s:AS}{q:Nat}{v:aw}(h:s.slot q=v)(hq:q < s.b8.length):s.put (some q) v=s:=by
 have hv:s.b8[q]=v:=by simpa[AS.slot,aC,hq]using h
 simp only[AS.put]
 rw[<-hv,fw]
theorem Hj{s:AS}{q:Nat}{t:Ty}{x:t.den}(h:s.slot q= .d t x):q < s.b8.length:=by
 rcases kQ q s.b8.length with h' | h'
 ·exact h'
 ·simp[AS.slot,aC,dn h']at h
def tN(P:Program)(Γ:ov)(bE:List Nat)(ops:Array Oper)(o:Oper)(s:AS):Option AS:=
 match o.guard with
 |none=>(lh P Γ bE o s).eval
 |some (j,want)=>match(ops[j]?).bind (·.dst) with
  |some q=>match s.slot q with
   | .d .bool b=>if b=want then(lh P Γ bE o s).eval else some (s.put o.dst .nil)
   | .nil=>some (s.put o.dst .nil)
   |_=>none
  |none=>none
theorem DP{R:Type}{P:Program}{Γ:ov}{bE:List Nat}{ops:Array Oper}{o:Oper}{s:AS}{k:AS->Option R}{r:R}(h:Ln P Γ bE ops o s k=some r):∃s',tN P Γ bE ops o s=some s'/\k s'=some r:=by
 unfold Ln at h
 unfold tN
 split at h
 ·rename_i hg
  simp only[hg]
  exact il.1 h
 ·rename_i j want hg
  simp only[hg]
  split at h
  ·rename_i q hq
   simp only[hq]
   split at h
   ·rename_i b hb
    have e:=Kn hb (Hj hb)
    simp only[hb]
    cases want <;> cases b <;> simp only[aN]at h <;> rw[e]at h
    ·obtain⟨s',h1,h2⟩:=il.1 h
     exact⟨s',by simpa using h1,h2⟩
    ·exact⟨_,by simp,h⟩
    ·exact⟨_,by simp,h⟩
    ·obtain⟨s',h1,h2⟩:=il.1 h
     exact⟨s',by simpa using h1,h2⟩
   ·rename_i hb
    simp only[hb]
    exact⟨_,rfl,h⟩
   ·cases h
  ·cases h
section
variable {P:Program} {C:Ctx} {g:Nat->jW} {β:Id->Option Pl} {s:AS} {a:Act} {w:World} {o:Oper}
theorem GF(h:Inv C g β s a w){ops:Array Oper}{j q:Nat}{b:Bool}(hq:(ops[j]?).bind (·.dst)=some q)(hb:s.slot q= .d .bool b):yielded ops a.tmps j=some b:=by
 have hv:=h.b8 q
 rw[hb]at hv
 have hv:=yH hv
 have hl:=Hj hb
 rw[<-h.size]at hl
 unfold yielded
 rw[hq,Option.bind_some]
 have:a.tmps[q]? =some (.bool b):=by
  rw[eC hl]
  simpa[Array.getD,hl]using hv
 rw[this]
theorem E1(h:Inv C g β s a w){ops:Array Oper}{j q:Nat}(hq:(ops[j]?).bind (·.dst)=some q)(hb:s.slot q= .nil):yielded ops a.tmps j=none:=by
 have hv:=h.b8 q
 rw[hb]at hv
 have hv:a.tmps.getD q undef= .tuple #[]:=hv
 unfold yielded
 rw[hq,Option.bind_some]
 split
 ·rename_i b hb
  rw[cv,hb]at hv
  cases hv
 ·rfl
theorem BC{Γ:ov}(hΓ:Sound P Γ){bE:List Nat}{ops:Array Oper}(h:gm C s a w){s':AS}(he:tN P Γ bE ops o s=some s'):lq P ops o a w (gm C s'):=by
 obtain⟨g,β,h⟩:=h
 unfold tN at he
 unfold lq
 split at he
 ·rename_i hg
  have:Region.wanted o (yielded ops a.tmps)=true:=by simp[Region.wanted,hg]
  rw[if_pos this]
  exact Dg hΓ h he
 ·rename_i j want hg
  split at he
  ·rename_i q hq
   split at he
   ·rename_i b hb
    have hy:=GF h hq hb
    have hw:Region.wanted o (yielded ops a.tmps)=(b==want):=by simp[Region.wanted,hg,hy]
    rw[hw]
    by_cases e:b=want
    ·rw[if_pos e]at he
     rw[if_pos (by simp[e])]
     exact Dg hΓ h he
    ·rw[if_neg e]at he
     rw[if_neg (by simp[e])]
     simp only[au]at he
     subst he
     exact⟨g,β,h.put o.dst rfl⟩
   ·rename_i hb
    have hy:=E1 h hq hb
    have hw:Region.wanted o (yielded ops a.tmps)=false:=by simp[Region.wanted,hg,hy]
    rw[hw,if_neg (by simp)]
    simp only[au]at he
    subst he
    exact⟨g,β,h.put o.dst rfl⟩
   ·cases he
  ·cases he
theorem IC{R:Type}{c c':nf}{x:Option R}{r:R}(h:same c c' x=some r):c=c'/\x=some r:=by
 unfold same at h
 split at h
 ·exact⟨‹_›,h⟩
 ·cases h
theorem Hd{R:Type}{x y:Option R}{r:R}(h:nd x y=some r):x=some r/\y=some r:=by
 unfold nd at h
 split at h
 ·rename_i e;exact⟨h,e▸h⟩
 ·cases h
theorem Gb(h:Inv C g β s a w){x y:Operand}{n:Nat}(hn:zW s x y=some n){T:TypeId}(hT:qj.isSl P T=true):∃b,(0 < n->b=false)/\(Op.equal T (a.eval x) (a.eval y)).run P w= .ok b w/\
  l5 (a.eval x)=false/\a.eval x≠ .nilIface/\∀op,binOp op T (a.eval x) (a.eval y)=(match op with | .eql=>do pure (.bool (<-Op.equal T (a.eval x) (a.eval y))) | .neq=>do pure (.bool (!(<-Op.equal T (a.eval x) (a.eval y)))) | _=>binOp op T (a.eval x) (a.eval y)):=by
 have hx:=h.ev x
 have hy:=h.ev y
 unfold qj.isSl at hT
 split at hT <;> try (cases hT;done)
 rename_i e hU
 unfold zW at hn
 split at hn
 ·rename_i t l h1 h2
  rw[h1]at hx;rw[h2]at hy
  obtain⟨ad,cap,vs,hv,_,hs,_⟩:=mO hx
  have xO:=ji hy
  rw[hv,xO]
  refine⟨ad.isNone,λhp=> ?_,?_,rfl,by simp,λop=>by cases op <;> rfl⟩
  ·obtain rfl:=ba hn
   obtain⟨ad',rfl⟩:=bS.1 (hs hp)
   rfl
  ·cases ad with
   |none=>exact eF λd=>by simp[Op.equalIn,run_underlying hU]
   |some ad=>exact eF λd=>by simp[Op.equalIn,run_underlying hU]
 ·rename_i t l h1 h2
  rw[h1]at hx;rw[h2]at hy
  obtain⟨ad,cap,vs,hv,_,hs,_⟩:=mO hy
  have xO:=ji hx
  rw[hv,xO]
  refine⟨ad.isNone,λhp=> ?_,?_,rfl,by simp,λop=>by cases op <;> rfl⟩
  ·obtain rfl:=ba hn
   obtain⟨ad',rfl⟩:=bS.1 (hs hp)
   rfl
  ·exact eF λd=>by simp[Op.equalIn,run_underlying hU]
 ·rename_i id ver pp c i len h1 h2
  rw[h1]at hx;rw[h2]at hy
  obtain⟨ad,cap,hv,_,hs,_⟩:=lK hx
  have xO:=ji hy
  rw[hv,xO]
  refine⟨ad.isNone,λhp=> ?_,?_,rfl,by simp,λop=>by cases op <;> rfl⟩
  ·obtain rfl:=ba hn
   obtain⟨ad',rfl⟩:=bS.1 (hs hp)
   rfl
  ·cases ad with
   |none=>exact eF λd=>by simp[Op.equalIn,run_underlying hU]
   |some ad=>exact eF λd=>by simp[Op.equalIn,run_underlying hU]
 ·rename_i id ver pp c i len h1 h2
  rw[h1]at hx;rw[h2]at hy
  obtain⟨ad,cap,hv,_,hs,_⟩:=lK hy
  have xO:=ji hx
  rw[hv,xO]
  refine⟨ad.isNone,λhp=> ?_,?_,rfl,by simp,λop=>by cases op <;> rfl⟩
  ·obtain rfl:=ba hn
   obtain⟨ad',rfl⟩:=bS.1 (hs hp)
   rfl
  ·exact eF λd=>by simp[Op.equalIn,run_underlying hU]
 ·cases hn
theorem vY(h:Inv C g β s a w){x y:Operand}{n:Nat}{T U:TypeId}(hn:zW s x y=some n)(hT:qj.isSl P T=true):
  (o.op= .binOp .eql T x y U->∃b,(0 < n->b=false)/\eT P o a w (gm C (s.put o.dst (.d .bool b))))/\(o.op= .binOp .neq T x y U->∃b,(0 < n->b=true)/\eT P o a w (gm C (s.put o.dst (.d .bool b)))):=by
 obtain⟨b,h1,h2,h3,h4,h5⟩:=Gb (w:=w) h hn hT
 have hg:∀op,(eqGuard op T x y (a.eval x) (a.eval y)).run P w= .ok () w:=λop=>kf h4 h3
 refine⟨λho=>⟨b,h1,h.value (nE b) ?_⟩,λho=>⟨!b,λhp=>by rw[h1 hp];rfl,h.value (nE (!b)) ?_⟩⟩
 ·have h6:(binOp .eql T (a.eval x) (a.eval y)).run P w= .ok (.bool b) w:=by rw[h5 .eql];simp[h2]
  simp[execOp,ho,hg,h6]
 ·have h6:(binOp .neq T (a.eval x) (a.eval y)).run P w= .ok (.bool (!b)) w:=by rw[h5 .neq];simp[h2]
  simp[execOp,ho,hg,h6]
theorem wu{R:Type}{c:Bool}{x y:Option R}{r:R}(h:aN c x y=some r):(c=true/\x=some r)\/(c=false/\y=some r):=by
 cases c
 ·exact .inr ⟨rfl,h⟩
 ·exact .inl ⟨rfl,h⟩
theorem Jq{R:Type}{n:Nat}{k:Nat->Option R}{r:R}(h:Rn n k=some r):0 < n/\∀j,j < n->k j=some r:=by
 unfold Rn at h
 split at h
 ·rename_i hx
  obtain rfl:=ba h
  exact hx.choose_spec
 ·cases h
theorem Bd{s:AS}{id:Id}{e:dv}{q:Nat}(hq:s.dB q=true)(gS:s.bT id≠none):(s.aL id e).dB q=true:=by
 cases id with
 |dw k=>exact hq
 |new i j=>
  by_cases hi:i=q
  ·subst hi;exact absurd ((iS hq).1 j) gS
  ·unfold AS.dB AS.aL
   simp only[dV hi]
   exact hq
theorem Alike.len{α β:Type}{R:α->β->Prop}:∀ {xs:List α} {ys:List β},Alike R xs ys->xs.length=ys.length
 |[],[],_=>rfl
 |_::_,_::_,⟨_,h⟩=>by simp[h.len]
 |[],_::_,h=>h.elim
 |_::_,[],h=>h.elim
theorem Gg{α:Type}:∀ {xs ys:List α} {i j:Nat} {x:α},xs.Perm ys->xs[i]? =some x->ys[j]? =some x->(xs.eraseIdx i).Perm (ys.eraseIdx j):=by
 have key:∀ {xs:List α} {i:Nat} {x:α},xs[i]? =some x->xs.Perm (x::xs.eraseIdx i):=by
  intro xs
  induction xs with
  |nil=>intro i x h;simp at h
  |cons y xs ih=>
   intro i x h
   cases i with
   |zero=>simp at h;subst h;exact jB _
   |succ i=>
    have h:xs[i]? =some x:=by simpa using h
    exact((ih h).cons y).trans (List.Perm.swap x y _)
 intro xs ys i j x hp hi hj
 exact((key hi).symm.trans (hp.trans (key hj))).cons_inv
theorem Gm(h:Inv C g β s a w){T:TypeId}{m:Operand}(c6:o.op= .range T m){s':AS}(he:(Gl P s o.dst T (s.ev m)).eval=some s'):eT P o a w (gm C s'):=by
 unfold Gl at he
 split at he
 ·rename_i K V' kt vt id ver q hm hx hd
  obtain⟨l,h1,he⟩:=ak.1 he
  obtain⟨hq,he⟩:=aA.1 he
  obtain rfl:=aq.1 he
  rw[ah]at hq
  obtain⟨hT,_,_⟩:=qv hm
  have zr:=h.ev m
  rw[hx]at zr
  obtain⟨fr,pl,es,clock,g1,g2,g3,g4,g5,g6,g7,gn⟩:=pc h h1 zr
  obtain rfl:=th g1 hq.1
  have gS:s.bT id≠none:=by rw[g1];simp
  have QV:=Trans.refl w g
  have FR:cD (s.env w g β) ((s.aL id (.obj ver true (.mp kt vt l))).env w g β):=cD.aL g1 (az _) QV (λ_ _=>rfl) (λ_=>rfl)
  have i0:Inv C g β (s.aL id (.obj ver true (.mp kt vt l))) a w:=
   h.step (cX _ _ _) QV FR (gK.aL h.bE gS FR (λ_ _=>rfl) (λ_ _ _ _ _ _ _ _=>⟨rfl,rfl⟩) ⟨pl,es,clock,g2,g4,g5,⟨g6.mono FR.mem,gn⟩,g7⟩ (vM g1))
  have cI:=dR s id (.obj ver true (.mp kt vt l)) gS
  have hq':=Bd (e:= .obj ver true (.mp kt vt l)) hq.2 gS
  generalize UD:s.aL id (.obj ver true (.mp kt vt l))=s0 at i0 cI hq' FR
  have tP:∀j,id≠ .new q j:=λj e=>by rw[e,(iS hq').1 j]at cI;cases cI
  have gV:pl.b < w.heap.size:=(bB.1 g4).1
  have ht:=Trans.alloc w g (.mapIter (some pl.b) clock #[] clock) (.own (.id (.new q 0)) 0)
  obtain⟨h3,h4⟩:=i0.wO hq' (c:= .ml id (ver+1) kt vt l none) (p:=some ⟨w.heap.size,0⟩) ht (λb hb=>⟨lr w _ hb,eJ _ _ _ (by omega)⟩) (λhE=>
   ⟨⟨w.heap.size,0⟩,pl.b,clock,#[],clock,iI _ _ _,mw w _,eQ _ _ _,λvr FV=>by
    obtain rfl:ver=vr:=by omega
    have hb:(s0.env w g β).r9 id ver:=⟨by show s0.bT id≠none;rw[cI];simp,λv2 fr2 c2 h2=>by
     have h2:s0.bT id=some (.obj v2 fr2 c2):=h2
     rw[cI]at h2
     simp only[au,dv.obj.injEq]at h2
     omega⟩
    refine⟨hE.r9 _ _ hb,λ_=>⟨⟨kt,vt,l,?_⟩,pl,es,clock,?_,rfl,?_,?_,λx hx=>g7.2 x hx,⟨az _,az _⟩,g7.1,?_,λx hx=>by cases hx⟩⟩
    ·show(s0.born q _).bT id=_
     rw[gL _ tP];exact cI
    ·show tj β (.new q 0) _ id=_
     rw[qe _ _ _ (tP 0)];exact g2
    ·exact(lr w _ gV).trans g4
    ·show j2 g w.heap.size _ pl.b=_
     rw[eJ _ _ _ (by omega)];exact g5
    ·have:es.toList.filter (λe=> !(#[]:Array Nat).contains e.born)=es.toList:=gY.2 λx _=>by simp
     rw[this]
     exact(g6.mono FR.mem).mono hE.mem⟩)
  refine .inl ⟨.pointer (some ⟨w.heap.size,0,none⟩),w.alloc (.mapIter (some pl.b) clock #[] clock),?_,_,_,h3.put o.dst (v:= .ptr (.new q 0) 0 [] 0) ⟨[.pointer (some ⟨w.heap.size,0,none⟩)],?_,rfl⟩⟩
  ·refine dz (f:=Instr.range T (a.eval m)) (by simp only[execOp,c6]) ?_
   rw[g3]
   exact run_range_map w T K V' pl.b es clock hT g4
  ·simp only[V]
   exact⟨_,rfl,kT hq' _ _ _ _,λ_=>⟨_,iI _ _ _,rfl⟩⟩
 ·simp only[aj]at he
theorem zB(h:Inv C g β s a w){x:Operand}{t:Hp}(ht:s.JT (s.ev x)=some t):
  s.bT t.i=some (.obj t.v t.fr (.ml t.q (t.vr+1) t.kt t.vt t.rest t.cur))/\(∃k v l,s.bT t.q=some (.obj t.vr true (.mp k v l)))/\
  ∃pl plq since seen c0 es clock,a.eval x= .pointer (some ⟨pl.b,0,none⟩)/\β t.i=some pl/\w.heap[pl.b]? =some (.mapIter (some plq.b) since seen c0)/\g pl.b= .own (.id t.i) 0/\
   β t.q=some plq/\w.heap[plq.b]? =some (.map es clock)/\g plq.b= .own (.id t.q) 0/\(∀x∈es.toList,x.born < since)/\(since<=c0/\since<=clock)/\(es.toList.map (·.born)).Nodup/\
   Cb (s.env w g β) t.kt t.vt (es.toList.filter λe=> !seen.contains e.born) t.rest/\
   ∀x,t.cur=some x->∃(e:MapEntry) (seen':Array Nat),e∈es.toList/\seen=seen'.push e.born/\c0=clock/\rj (s.env w g β) t.kt t.vt e x:=by
 have zr:=h.ev x
 generalize s.ev x=y at ht zr
 unfold AS.JT at ht
 split at ht
 ·rename_i i ver
  split at ht
  ·rename_i v fr q vr kt vt rest cur ju
   split at ht
   ·rename_i hv hl
    obtain rfl:=ba ht
    have hv:v=ver:=by simpa using hv
    subst hv
    have cI:=dG ju
    unfold AS.Eb at hl
    split at hl
    ·rename_i v2 k2 t2 l2 R2
     have hl:v2=vr:=by simpa using hl
     subst hl
     have hq:=dG R2
     refine⟨cI,⟨_,_,_,hq⟩,?_⟩
     obtain⟨pl,mb,since,seen,c0,h1,h2,h3,h4⟩:=h.bE i v fr _ cI
     obtain⟨h5,h6⟩:=h4 v2 rfl
     obtain⟨_,plq,es,clock,k1,k2,k3,k4,k5,k6,k7,k8,k9⟩:=h6 ⟨_,_,hq⟩
     subst k2
     obtain⟨ad,m1,m2,m3⟩:=nu zr
     obtain⟨pl',m4,rfl⟩:=m3 ⟨_,_,cI⟩
     have h1:β i=some pl:=h1
     have m4:β i=some pl':=m4
     rw[h1]at m4
     obtain rfl:pl=pl':=by simpa using m4
     exact⟨pl,plq,since,seen,c0,es,clock,m1,h1,h2,h3,k1,k3,k4,k5,k6,k7,k8,k9⟩
    ·cases hl
   ·cases ht
  ·cases ht
 ·cases ht
theorem rj.Ul{E:Env}{kt vt:Ty}{e:MapEntry}{x:kt.den×vt.den}(h:rj E kt vt e x):VS E (.cons (.d kt x.1) (.cons (.d vt x.2) .nil)) (.tuple #[e.key,e.val]):=by
 obtain⟨⟨c1,a1,b1⟩,c2,a2,b2⟩:=h
 refine⟨[e.key,e.val],rfl,?_⟩
 simp only[VC]
 exact⟨_,_,c1,rfl,by simpa only[V]using a1,b1,_,_,c2,rfl,by simpa only[V]using a2,b2,rfl⟩
theorem rj.Um{E:Env}{kt vt:Ty}{e:MapEntry}{x:kt.den×vt.den}(h:rj E kt vt e x):VS E (.cons (.d .bool true) (.cons (.d kt x.1) (.cons (.d vt x.2) .nil))) (.tuple #[.bool true,e.key,e.val]):=by
 obtain⟨⟨c1,a1,b1⟩,c2,a2,b2⟩:=h
 refine⟨[.bool true,e.key,e.val],rfl,?_⟩
 simp only[VC]
 exact⟨_,_,[.bool true],rfl,by simp only[V,cT],rfl,_,_,c1,rfl,by simpa only[V]using a1,b1,_,_,c2,rfl,by simpa only[V]using a2,b2,rfl⟩
theorem FD(h:Inv C g β s a w){x:Operand}(c6:o.op= .entry x){v:aw}(he:(FC s (s.ev x)).eval=some v):eT P o a w (gm C (s.put o.dst v)):=by
 unfold FC at he
 split at he
 ·rename_i i v0 fr q vr kt vt rest c ht
  obtain rfl:=aq.1 he
  obtain⟨_,_,pl,plq,since,seen,c0,es,clock,m1,m2,m3,_,m5,m6,m7,_,_,m10,_,m12⟩:=zB h ht
  obtain⟨e,seen',n1,rfl,rfl,n4⟩:=m12 c rfl
  refine h.value n4.Ul (dz (f:=Instr.entry (a.eval x)) (by simp only[execOp,c6]) ?_)
  rw[m1]
  exact run_entry_at w pl.b plq.b since seen' es _ e m3 m6 n1 m10
 ·simp only[aj]at he
theorem heap_drew{w w1:World}(hw:w1=w\/w1=w.drew):w1.heap=w.heap/\w1.os=w.os/\w1.tape=w.tape/\(w1.output=w.output/\w.drawn<=w1.drawn):=by
 rcases hw with rfl | rfl
 ·exact⟨rfl,rfl,rfl,rfl,az _⟩
 ·exact⟨rfl,rfl,rfl,rfl,Nat.le_succ _⟩
theorem Inv.Qx(h:Inv C g β s a w){i q:Id}{v vr:Nat}{fr:Bool}{kt vt:Ty}{rest:List (kt.den×vt.den)}{cur:Option (kt.den×vt.den)}(cI:s.bT i=some (.obj v fr (.ml q (vr+1) kt vt rest cur)))
  {k2 v2:Ty} {l2:List (k2.den×v2.den)} (hq:s.bT q=some (.obj vr true (.mp k2 v2 l2))) {pl plq:Pl} {m0:Option Nat} {since0 c00:Nat} {seen0:Array Nat} (hp:β i=some pl) (hb:w.heap[pl.b]? =some (.mapIter m0 since0 seen0 c00)) (hg:g pl.b= .own (.id i) 0)
  {w1:World} (hw:w1=w\/w1=w.drew) {es:Array MapEntry} {clock since c0:Nat} {seen:Array Nat} (TZ:β q=some plq) (NG:w.heap[plq.b]? =some (.map es clock)) (TJ:g plq.b= .own (.id q) 0)
  (h1:∀x∈es.toList,x.born < since) (h2:since<=c0/\since<=clock) (h3:(es.toList.map (·.born)).Nodup) {rest':List (kt.den×vt.den)} {cur':Option (kt.den×vt.den)} (h4:Cb (s.env w g β) kt vt (es.toList.filter λe=> !seen.contains e.born) rest')
  (h5:∀x,cur'=some x->∃(e:MapEntry) (seen':Array Nat),e∈es.toList/\seen=seen'.push e.born/\c0=clock/\rj (s.env w g β) kt vt e x):
  Inv C g β (s.aL i (.obj v fr (.ml q (vr+1) kt vt rest' cur'))) a (Go.ChangeMaps.setBlock w1 pl.b (.mapIter (some plq.b) since seen c0))/\
   mr (s.env w g β) ((s.aL i (.obj v fr (.ml q (vr+1) kt vt rest' cur'))).env (Go.ChangeMaps.setBlock w1 pl.b (.mapIter (some plq.b) since seen c0)) g β):=by
 obtain⟨d1,d2,d3,d4⟩:=heap_drew hw
 have gV:pl.b < w.heap.size:=(bB.1 hb).1
 have G1:(Go.ChangeMaps.setBlock w1 pl.b (.mapIter (some plq.b) since seen c0)).heap=w.heap.setIfInBounds pl.b (.mapIter (some plq.b) since seen c0):=by
  show w1.heap.setIfInBounds _ _=_
  rw[d1]
 have MG:(Go.ChangeMaps.setBlock w1 pl.b (.mapIter (some plq.b) since seen c0)).os=w.os/\(Go.ChangeMaps.setBlock w1 pl.b (.mapIter (some plq.b) since seen c0)).tape=w.tape/\((Go.ChangeMaps.setBlock w1 pl.b (.mapIter (some plq.b) since seen c0)).output=w.output/\w.drawn<=(Go.ChangeMaps.setBlock w1 pl.b (.mapIter (some plq.b) since seen c0)).drawn):=⟨d2,d3,d4⟩
 generalize Go.ChangeMaps.setBlock w1 pl.b (.mapIter (some plq.b) since seen c0)=w' at G1 MG
 have hother:∀b',b'≠pl.b->w'.heap[b']? =w.heap[b']? :=λb' gS=>by
  rw[G1,dy,if_neg (λe=>gS e.symm)]
 have jT:w'.heap[pl.b]? =some (.mapIter (some plq.b) since seen c0):=by
  rw[G1,dy,if_pos rfl,if_pos gV]
 have ht:Trans w w' g g:=by
  refine⟨MG.1,MG.2.1,MG.2.2,by rw[G1];simp,λb' _=> ?_⟩
  by_cases he:b'=pl.b
  ·subst he
   rw[hg]
   exact⟨.inr ⟨i,0,rfl,az _⟩,λ_ _ hh=>by omega⟩
  ·rw[hother b' he]
   cases yu:g b' with
   |free=>exact⟨rfl,rfl⟩
   |own o' k=>cases o' with
    |dH=>exact⟨rfl,rfl⟩
    |id i'=>exact⟨.inr ⟨i',k,rfl,az _⟩,λoff v _ hv=>by simpa only[World.cell?,hother b' he]using hv⟩
 have hle:cD (s.env w g β) ((s.aL i (.obj v fr (.ml q (vr+1) kt vt rest' cur'))).env w' g β):=cD.aL cI (az _) ht (λ_ _=>rfl) (λ_=>rfl)
 have P6:q≠i:=λe=>by rw[e,cI]at hq;cases hq
 have TY:plq.b≠pl.b:=λe=>by rw[e,hb]at NG;cases NG
 refine⟨h.step (cX _ _ _) ht hle (gK.aL h.bE (by rw[cI];simp) hle (λ_ _=>rfl) (λi' ver' fr' c' pl2 hi zp BH=>⟨hother _ (h.apart hg hi zp BH),rfl⟩) ?_ (kV cI λ_ _ _ e=>by cases e)),hle.mem⟩
 refine⟨pl,plq.b,since,seen,c0,hp,jT,hg,λvr' FV=> ?_⟩
 obtain rfl:vr=vr':=by omega
 have HR:(s.env w g β).r9 q vr:=⟨by show s.bT q≠none;rw[hq];simp,λv3 fr3 c3 h3=>by
  have h3:s.bT q=some (.obj v3 fr3 c3):=h3
  rw[hq]at h3
  simp only[au,dv.obj.injEq]at h3
  omega⟩
 refine⟨hle.r9 _ _ HR,λ_=>⟨⟨k2,v2,l2,?_⟩,plq,es,clock,TZ,rfl,(hother _ TY).trans NG,TJ,h1,h2,h3,h4.mono hle.mem,λx hx=> ?_⟩⟩
 ·show(s.aL i _).bT q=_
  rw[cP s i q _ P6];exact hq
 ·obtain⟨e,se,a1,a2,a3,a4⟩:=h5 x hx
  exact⟨e,se,a1,a2,a3,a4.mono hle.mem⟩
theorem Inv.MN(h:Inv C g β s a w){i q:Id}{v ver ver':Nat}{fr:Bool}{kt vt:Ty}{rest rest':List (kt.den×vt.den)}{cur cur':Option (kt.den×vt.den)}(cI:s.bT i=some (.obj v fr (.ml q ver kt vt rest cur)))
  (hk:ver'=0\/(ver'=ver/\rest'=rest/\cur'=none)):Inv C g β (s.aL i (.obj v fr (.ml q ver' kt vt rest' cur'))) a w:=by
 have ht:=Trans.refl w g
 have hle:cD (s.env w g β) ((s.aL i (.obj v fr (.ml q ver' kt vt rest' cur'))).env w g β):=cD.aL cI (az _) ht (λ_ _=>rfl) (λ_=>rfl)
 refine h.step (cX _ _ _) ht hle (gK.aL h.bE (by rw[cI];simp) hle (λ_ _=>rfl) (λ_ _ _ _ _ _ _ _=>⟨rfl,rfl⟩) ?_ (kV cI λ_ _ _ e=>by cases e))
 obtain⟨pl,mb,since,seen,c0,h1,h2,h3,h4⟩:=h.bE i v fr _ cI
 refine⟨pl,mb,since,seen,c0,h1,h2,h3,λvr FV=> ?_⟩
 rcases hk with hk | ⟨rfl,rfl,rfl⟩
 ·omega
 ·obtain⟨h5,h6⟩:=h4 vr FV
  refine⟨hle.r9 _ _ h5,λhc=> ?_⟩
  obtain⟨c1,_⟩:=hle.cur _ _ h5 hc
  obtain⟨⟨k,v1,l,hq⟩,plq,es,clock,k1,k2,k3,k4,k5,k6,k7,k8,_⟩:=h6 c1
  have P6:q≠i:=λe=>by
   have hq:s.bT q=_:=hq
   rw[e,cI]at hq;cases hq
  exact⟨⟨k,v1,l,by show(s.aL i _).bT q=_;rw[cP s i q _ P6];exact hq⟩,plq,es,clock,k1,k2,k3,k4,k5,k6,k7,k8.mono hle.mem,λx hx=>by cases hx⟩
theorem Gn{s:AS}{q i:Id}{e:dv}(h:s.z8 q=false)(hi:s.bT i=some e):e.JU q=false:=by
 unfold AS.z8 at h
 rw[Bool.or_eq_false_iff]at h
 cases i with
 |dw k=>simpa using jc.1 h.1 _ (cR hi)
 |new a b=>
  have hi:(s.news.getD a [])[b]? =some e:=hi
  by_cases ha:a < s.news.length
  ·have h2:(s.news.getD a []).any (dv.JU q)=false:=by simpa using jc.1 h.2 (s.news.getD a []) (by simp[aC,cd ha])
   simpa using jc.1 h2 _ (cR hi)
  ·simp[aC,dn (Nat.le_of_not_lt ha)]at hi
theorem Inv.unlock(h:Inv C g β s a w){q:Id}{vr:Nat}{k v:Ty}{l:List (k.den×v.den)}(cI:s.bT q=some (.obj vr true (.mp k v l)))(hr:s.z8 q=false):Inv C g β (s.aL q (.obj vr false (.mp k v l))) a w:=by
 have ht:=Trans.refl w g
 have hle:cD (s.env w g β) ((s.aL q (.obj vr false (.mp k v l))).env w g β):=cD.aL cI (az _) ht (λ_ _=>rfl) (λ_=>rfl)
 refine h.step (cX _ _ _) ht hle λi ver fr c hi=> ?_
 have hi:(s.aL q (.obj vr false (.mp k v l))).bT i=some (.obj ver fr c):=hi
 by_cases S5:i=q
 ·subst S5
  rw[dR s i _ (by rw[cI];simp)]at hi
  simp only[au,dv.obj.injEq]at hi
  obtain⟨rfl,rfl,rfl⟩:=hi
  obtain⟨pl,es,clock,h1,h2,h3,h4,h5⟩:=h.bE i vr true _ cI
  exact⟨pl,es,clock,h1,h2,h3,⟨h4.1.mono hle.mem,h4.2⟩,h5⟩
 ·rw[cP s q i _ S5]at hi
  refine(h.bE i ver fr c hi).MR hle rfl (λ_ _=>⟨rfl,rfl⟩) λq2 v2 k2 v3 l2 hc yx _=>⟨⟨k2,v3,l2,?_⟩,λ_ _=>⟨rfl,rfl⟩⟩
  obtain⟨kt,vt,rest,cu,rfl⟩:=hc
  have hn:=Gn hr hi
  have gS:q2≠q:=λe=>by simp[dv.JU,e]at hn
  show(s.aL q _).bT q2=_
  rw[cP s q q2 _ gS];exact yx
theorem F4{es:List MapEntry}{seen:Array Nat}(hn:(es.map (·.born)).Nodup){j:Nat}{e:MapEntry}(hj:(es.filter λe=> !seen.contains e.born)[j]? =some e):
  es.filter (λx=> !(seen.push e.born).contains x.born)=(es.filter λe=> !seen.contains e.born).eraseIdx j:=by
 have h1:es.filter (λx=> !(seen.push e.born).contains x.born)=(es.filter λe=> !seen.contains e.born).filter λx=>x.born !=e.born:=by
  rw[lQ]
  refine List.filter_congr λx _=> ?_
  rw[contains_push]
  cases seen.contains x.born <;> cases hb:x.born==e.born <;> simp[bne,hb]
 rw[h1]
 have G3:((es.filter λe=> !seen.contains e.born).map (·.born)).Nodup:=hn.sublist (List.filter_sublist.map _)
 generalize es.filter (λe=> !seen.contains e.born)=L at hj G3
 induction L generalizing j with
 |nil=>simp at hj
 |cons x L ih=>
  rw[bJ,c8]at G3
  cases j with
  |zero=>
   simp only[eV,au]at hj
   subst hj
   have:L.filter (λy=>y.born !=x.born)=L:=gY.2 λy hy=>by
    have:y.born≠x.born:=λe=>G3.1 (e▸c7.2 ⟨y,hy,rfl⟩)
    simpa using this
   simp[this]
  |succ j=>
   have hj:L[j]? =some e:=by simpa using hj
   have hx:(x.born !=e.born)=true:=by
    have:x.born≠e.born:=λh=>G3.1 (h▸c7.2 ⟨e,cR hj,rfl⟩)
    simpa using this
   rw[jC,hx,List.eraseIdx_cons_succ]
   simp only[if_true]
   rw[ih hj G3.2]
theorem Ij(h:Inv C g β s a w){x:Operand}(c6:o.op= .next x false){t:Hp}(ht:s.JT (s.ev x)=some t){R:Type}{k:AS->Option R}{r:R}(he:Kd s o.dst t k=some r):
  eT P o a w λa' w'=>∃s',gm C s' a' w'/\k s'=some r:=by
 obtain⟨hi,⟨k2,v2,l2,hq⟩,pl,plq,since,seen,c0,es,clock,m1,m2,m3,m4,m5,m6,m7,m8,m9,m10,m11,_⟩:=zB h ht
 have hex:∀ {y:Value} {w':World},(Instr.next (a.eval x) false o.type).run P w= .ok y w'->(execOp a.eval o).run P w= .ok (.value y) w':=λhr=>
  dz (f:=Instr.next (a.eval x) false o.type) (by simp only[execOp,c6]) hr
 have yM:(leftOf es seen).toList=es.toList.filter λe=> !seen.contains e.born:=by unfold leftOf;rw[Array.toList_filter]
 obtain⟨l',m11,DY⟩:=m11
 have hlen:=m11.len
 rw[DY.length_eq]at hlen
 rw[<-yM,cz]at hlen
 unfold Kd at he
 rcases run_next_at (P:=P) w o.type pl.b plq.b since c0 seen es clock m3 m6 m8 m9.1 with⟨h0,kU⟩ | ⟨e,ON,w1,hw,kU⟩
 ·rcases wu he with⟨hc,_⟩ | ⟨_,he⟩
  ·have:0 < t.rest.length:=by simpa using hc
   omega
  ·unfold AS.LQ at he
   have i1:=h.MN (rest':=[]) (cur':=none) hi (.inl rfl)
   have P6:t.q≠t.i:=λe=>by rw[e,hi]at hq;simp at hq
   have R5:(s.aL t.i (.obj t.v t.fr (.ml t.q 0 t.kt t.vt [] none))).bT t.q=some (.obj t.vr true (.mp k2 v2 l2)):=by rw[cP s t.i t.q _ P6];exact hq
   generalize s.aL t.i (.obj t.v t.fr (.ml t.q 0 t.kt t.vt [] none))=s1 at he i1 R5
   cases hr:s1.z8 t.q with
   |true=>rw[hr]at he;cases he
   |false=>
    rw[hr]at he
    simp only at he
    have T9:s1.unlock t.q=s1.aL t.q (.obj t.vr false (.mp k2 v2 l2)):=by simp only[AS.unlock,AS.obj,R5]
    rw[T9]at he
    rw[<-m1]at kU
    refine .inl ⟨_,w,hex kU,_,⟨g,β,(i1.unlock R5 hr).put o.dst (v:= .cons (.d .bool false) .nil) ⟨[.bool false],rfl,?_⟩⟩,he⟩
    simp only[VC]
    exact⟨_,_,[.bool false],rfl,by simp only[V,cT],rfl,rfl⟩
 ·rcases wu he with⟨hc,he⟩ | ⟨hc,_⟩
  ·obtain⟨_,hd⟩:=Jq he
   rw[yM]at ON
   obtain⟨i,Lt⟩:=List.getElem?_of_mem ON
   obtain⟨y,Qi,OW⟩:=m11.get Lt
   obtain⟨j,hj⟩:=List.getElem?_of_mem (DY.mem_iff.1 (cR Qi))
   have NP:j < t.rest.length:=(dj.1 hj).1
   have hy:CM t.kt t.vt t.rest j=y:=by simp[CM,aC,hj]
   have rC:e∈es.toList:=(dP.1 ON).1
   have i1:=h.Qx (rest':=t.rest.eraseIdx j) (cur':=some (CM t.kt t.vt t.rest j)) (since:=since) (c0:=clock) (seen:=seen.push e.born) hi hq m2 m3 m4 hw m5 m6 m7 m8 ⟨m9.2,m9.2⟩ m10 ?_ ?_
   rotate_left
   ·rw[F4 m10 Lt];exact⟨_,m11.erase i,Gg DY Qi hj⟩
   ·intro z hz
    obtain rfl:=ba hz
    exact⟨e,seen,rC,rfl,rfl,by rw[hy];exact OW⟩
   rw[<-m1]at kU
   have hVS:=(hy▸OW:rj (s.env w g β) t.kt t.vt e (CM t.kt t.vt t.rest j))
   refine .inl ⟨_,_,hex kU,_,⟨g,β,i1.1.put o.dst (v:= .cons (.d .bool true) (.cons (.d t.kt (CM t.kt t.vt t.rest j).1) (.cons (.d t.vt (CM t.kt t.vt t.rest j).2) .nil))) ?_⟩,hd j NP⟩
   exact rj.Um (hVS.mono i1.2)
  ·have hc:¬0 < t.rest.length:=by simpa using hc
   have:0 < (leftOf es seen).toList.length:=List.length_pos_of_mem ON
   rw[cz]at this
   omega
theorem HM{Γ:ov}(hΓ:Sound P Γ){bE:List Nat}{ops:Array Oper}{R:Type}{k:AS->Option R}{r:R}(h:gm C s a w)(he:Lo P Γ bE ops o s k=some r):
  lq P ops o a w λa' w'=>∃s',gm C s' a' w'/\k s'=some r:=by
 have plain:Ln P Γ bE ops o s k=some r->lq P ops o a w λa' w'=>∃s',gm C s' a' w'/\k s'=some r:=λhe=>by
  obtain⟨s1,h1,h2⟩:=DP he
  exact(BC hΓ h h1).mono λa' w' hs=>⟨s1,hs,h2⟩
 have stepK:∀(hg:o.guard=none),(eT P o a w λa' w'=>∃s',gm C s' a' w'/\k s'=some r)->lq P ops o a w λa' w'=>∃s',gm C s' a' w'/\k s'=some r:=λhg hr=>by
  unfold lq
  have:Region.wanted o (yielded ops a.tmps)=true:=by simp[Region.wanted,hg]
  rw[if_pos this]
  exact hr
 have step:∀(hg:o.guard=none) (b:Bool),eT P o a w (gm C (s.put o.dst (.d .bool b)))->k (s.put o.dst (.d .bool b))=some r->lq P ops o a w λa' w'=>∃s',gm C s' a' w'/\k s'=some r:=λhg b hr hk=>by
  unfold lq
  have:Region.wanted o (yielded ops a.tmps)=true:=by simp[Region.wanted,hg]
  rw[if_pos this]
  exact hr.mono λa' w' hs=>⟨_,hs,hk⟩
 unfold Lo at he
 split at he
 ·rename_i T x y U hg ho
  split at he
  ·rename_i n hn hT
   obtain⟨g,β,hi⟩:=h
   obtain⟨b,hb,hr⟩:=(vY (o:=o) (U:=U) hi hn hT).1 ho
   refine step hg b hr ?_
   rcases wu he with⟨hc,hk⟩ | ⟨_,hk⟩
   ·rw[hb (by simpa using hc)];exact hk
   ·obtain⟨k1,k2⟩:=Hd hk
    cases b
    ·exact k2
    ·exact k1
  ·exact plain he
 ·rename_i T x y U hg ho
  split at he
  ·rename_i n hn hT
   obtain⟨g,β,hi⟩:=h
   obtain⟨b,hb,hr⟩:=(vY (o:=o) (U:=U) hi hn hT).2 ho
   refine step hg b hr ?_
   rcases wu he with⟨hc,hk⟩ | ⟨_,hk⟩
   ·rw[hb (by simpa using hc)];exact hk
   ·obtain⟨k1,k2⟩:=Hd hk
    cases b
    ·exact k2
    ·exact k1
  ·exact plain he
 ·rename_i T m hg ho
  obtain⟨s1,h1,h2⟩:=il.1 he
  obtain⟨g,β,hi⟩:=h
  exact stepK hg ((Gm hi ho h1).mono λ_ _ hs=>⟨_,hs,h2⟩)
 ·rename_i x hg ho
  obtain⟨s1,h1,h2⟩:=il.1 he
  obtain⟨v,h3,h4⟩:=ak.1 h1
  obtain rfl:=aq.1 h4
  obtain⟨g,β,hi⟩:=h
  exact stepK hg ((FD hi ho h3).mono λ_ _ hs=>⟨_,hs,h2⟩)
 ·rename_i x hg ho
  split at he
  ·rename_i t ht
   obtain⟨g,β,hi⟩:=h
   exact stepK hg (Ij hi ho ht he)
  ·cases he
 ·rename_i c hg ho
  split at he
  ·rename_i F hc
   split at he
   ·rename_i id ver rc f hF
    split at he
    ·rename_i en IZ
     obtain⟨QT,he⟩:=IC he
     obtain⟨s1,h1,h2⟩:=il.1 he
     obtain⟨g,β,hi⟩:=h
     exact stepK hg ((GD hi ho hc hF QT (hΓ _ _ en IZ) h1).mono λ_ _ hs=>⟨_,hs,h2⟩)
    ·cases he
   ·exact plain he
  ·exact plain he
 ·exact plain he
theorem xM{rd:Option Nat}{n:Nat}{Γ:ov}(hΓ:Sound P Γ){bE:List Nat}{ops:Array Oper}{R:Type}{Q:Exit->Act->World->Prop}:∀(l:List Oper) {s:AS} {a:Act} {w:World} {k:AS->Option R} {r:R},gm C s a w->Lp P Γ bE ops l s k=some r->
  (∀s' a' w',gm C s' a' w'->k s'=some r->Q .normal a' w')->wpListIn (Fr rd) n P ops Q l a w
 |[],s,a,w,k,r,h,he,hk=>hk s a w h he
 |o::l,s,a,w,k,r,h,he,hk=>by
  have he:Lo P Γ bE ops o s (λs'=>s'.seen λs'=>Lp P Γ bE ops l s' k)=some r:=he
  simp only[AS.wq]at he
  exact((HM hΓ h he).mono λa' w' ⟨s',hs,h2⟩=>xM hΓ l hs h2 hk).wpListIn
end
end Go.Ab
namespace Go.Ab
theorem AS.Jw{s t:AS}(h1:s.b8=t.b8)(h2:s.news.length=t.news.length)(h3:∀id,s.bT id=t.bT id):s=t:=by
 obtain⟨a,b,c⟩:=s
 obtain⟨a',b',c'⟩:=t
 simp only at h1 h2
 subst h1
 have hb:b=b':=jd λk=>h3 (.dw k)
 subst hb
 have hc:c=c':=by
  apply List.ext_getElem h2
  intro i h h'
  apply jd
  intro j
  have:=h3 (.new i j)
  simpa[AS.bT,aC,h,h']using this
 rw[hc]
def dv.C6:dv->dv->Prop
 | .obj v _ c,.obj v' _ c'=>v=v'/\c=c'
 | .dead,.dead=>True
 |_,_=>False
def pk:Option dv->Option dv->Prop
 |some a,some b=>a.C6 b
 |none,none=>True
 |_,_=>False
def dv.FI:dv->dv
 | .obj v _ c=> .obj v true c
 | .dead=> .dead
theorem dv.Kz(a:dv):a.C6 a:=by cases a <;> simp[dv.C6]
theorem IE(a:Option dv):pk a a:=by cases a <;> simp[pk,dv.Kz]
theorem ID(a:Option dv):pk (a.map dv.FI) a:=by
 cases a with
 |none=>trivial
 |some x=>cases x <;> simp[pk,dv.C6,dv.FI]
theorem dv.Ll(a:dv):a.FI.FI=a.FI:=by cases a <;> rfl
structure jN(f:sA)(s t:AS):Prop where
 b8:∀i∈f.b8,t.slot i=s.slot i
 ws:∀id∈f.ws,t.bT id=s.bT id
 rs:∀id∈f.rs,pk (t.bT id) (s.bT id)
 dB:∀q,f.dst=some q->t.dB q=s.dB q
structure OD where
 v:aw
 up:Id->Option dv
 fz:List Id
structure App(d:Option Tmp)(E:OD)(s s':AS):Prop where
 b8:s'.b8=(s.put d E.v).b8
 len:s'.news.length=s.news.length
 bT:∀id,s'.bT id=match E.up id with | some e=>some e | none=>if id∈E.fz then(s.bT id).map dv.FI else s.bT id
theorem App.Nl{d:Option Tmp}{E:OD}{s s1 s2:AS}(h1:App d E s s1)(h2:App d E s s2):s1=s2:=
 AS.Jw (by rw[h1.b8,h2.b8]) (by rw[h1.len,h2.len]) λid=>by rw[h1.bT,h2.bT]
structure Ce(f:sA)(s:AS)(E:OD):Prop where
 up:∀id e,E.up id=some e->(id∈f.ws/\s.bT id≠none)\/∃q j,f.dst=some q/\id= .new q j
 fz:∀id∈E.fz,id∈f.rs
theorem uP(s:AS)(id:Id)(e:dv):(s.aL id e).news.length=s.news.length:=by cases id <;> simp[AS.aL]
theorem AQ(s:AS)(id i:Id):(s.freeze id).bT i=if i=id then(s.bT i).map dv.FI else s.bT i:=by
 unfold AS.freeze
 cases hs:s.bT id with
 |none=>
  by_cases hi:i=id
  ·subst hi;simp[hs]
  ·simp[hi]
 |some e=>
  cases e with
  |dead=>
   by_cases hi:i=id
   ·subst hi;simp[hs,dv.FI]
   ·simp[hi]
  |obj v fr c=>
   simp only
   by_cases hi:i=id
   ·subst hi
    rw[dR s i _ (by rw[hs];simp)]
    simp[hs,dv.FI]
   ·rw[cP s id i _ hi];simp[hi]
theorem eP(i:Id):∀(ids:List Id) (s:AS),(s.bj ids).bT i=if i∈ids then(s.bT i).map dv.FI else s.bT i
 |[],s=>by simp[AS.bj]
 |id::ids,s=>by
  rw[AS.bj,eP i ids,AQ]
  by_cases h1:i=id
  ·subst h1
   by_cases h2:i∈ids
   ·simp[h2,Option.map_map,Function.comp_def,dv.Ll]
   ·simp[h2]
  ·simp[h1]
theorem F5(s:AS)(id:Id):(s.freeze id).news.length=s.news.length:=by
 unfold AS.freeze
 split
 ·exact uP _ _ _
 ·rfl
theorem lB:∀(ids:List Id) (s:AS),(s.bj ids).news.length=s.news.length
 |[],_=>rfl
 |id::ids,s=>by rw[AS.bj,lB ids,F5]
theorem qf{s:AS}{q:Nat}:s.dB q=true↔q < s.news.length/\∀j,s.bT (.new q j)=none:=by
 refine⟨λh=>⟨(iS h).2,(iS h).1⟩,λ⟨h1,h2⟩=> ?_⟩
 unfold AS.dB
 rw[cd h1]
 have h0:=h2 0
 simp only[AS.bT,aC,cd h1,eu]at h0
 cases hh:s.news[q]with
 |nil=>rfl
 |cons x xs=>rw[hh]at h0;simp at h0
theorem App.wY(d:Option Tmp)(v:aw)(ids:List Id)(s:AS):App d ⟨v,λ_=>none,ids⟩ s ((s.bj ids).put d v):=by
 refine⟨?_,?_,λid=> ?_⟩
 ·cases d <;> simp[AS.put,ka]
 ·cases d <;> simp[AS.put,lB]
 ·rw[tr,eP]
theorem App.tz(d:Option Tmp)(v:aw)(s:AS):App d ⟨v,λ_=>none,[]⟩ s (s.put d v):=App.wY d v [] s
def wP(q:Nat)(es:List dv):Id->Option dv
 | .new i j=>if i=q then es[j]? else none
 | .dw _=>none
theorem Jt(s:AS){q:Nat}(hq:q < s.news.length)(es:List dv)(id:Id):(s.born q es).bT id=match id with | .new i j=>if i=q then es[j]? else s.bT (.new i j) | .dw k=>s.bT (.dw k):=by
 cases id with
 |dw k=>rfl
 |new i j=>
  simp only
  by_cases h:i=q
  ·subst h;rw[if_pos rfl];exact oY hq _ j
  ·rw[if_neg h];exact gL _ λj' e=>by simp only[Id.new.injEq]at e;exact h e.1
theorem App.GP{s:AS}{q:Nat}(hv:s.dB q=true)(v:aw)(ids:List Id)(es:List dv):App (some q) ⟨v,wP q es,ids⟩ s (((s.bj ids).born q es).put (some q) v):=by
 obtain⟨h1,h2⟩:=qf.1 hv
 refine⟨?_,?_,λid=> ?_⟩
 ·simp[AS.put,ka]
 ·simp[AS.put,AS.born,lB]
 ·rw[tr,Jt _ (by rw[lB];exact h1)]
  cases id with
  |dw k=>simp only[wP];exact eP _ _ _
  |new i j=>
   simp only[wP]
   by_cases h:i=q
   ·subst h
    rw[if_pos rfl]
    cases he:es[j]? with
    |none=>simp[h2]
    |some e=>simp
   ·rw[if_neg h]
    simp only[if_neg h]
    exact eP _ _ _
theorem App.Kv{s:AS}{id:Id}{e0:dv}(hs:s.bT id=some e0)(d:Option Tmp)(v:aw)(e:dv):App d ⟨v,λi=>if i=id then some e else none,[]⟩ s ((s.aL id e).put d v):=by
 refine⟨?_,?_,λi=> ?_⟩
 ·cases d <;> simp[AS.put]
 ·cases d <;> simp[AS.put,uP]
 ·rw[tr]
  by_cases hi:i=id
  ·subst hi
   rw[dR s i _ (by rw[hs];simp)]
   simp
  ·rw[cP s id i _ hi];simp[hi]
section
variable {P:Program} {Γ:ov} {bE:List Nat} {ops:Array Oper} {o:Oper} {s t:AS}
def vj(P:Program)(Γ:ov)(bE:List Nat)(ops:Array Oper)(o:Oper)(s s':AS):Prop:=
 ∃E,App o.dst E s s'/\Ce (fL Γ ops s o) s E/\∀t,jN (fL Γ ops s o) s t->∃t',(lh P Γ bE o t).eval=some t'/\App o.dst E t t'
theorem xY{xs:Array Operand}{i:Nat}(h:Operand.tmp i∈xs.toList):i∈yU xs:=by
 unfold yU
 exact List.mem_filterMap.2 ⟨_,h,rfl⟩
theorem jN.ev(h:jN (fL Γ ops s o) s t){x:Operand}(hx:x∈o.op.operands.toList):t.ev x=s.ev x:=by
 cases x with
 |tmp i=>exact h.b8 i (bp.2 (.inl (xY hx)))
 |_=>rfl
theorem En(v:Value):(ofConst v).ids=[]:=by unfold ofConst;split <;> rfl
theorem BS{o:Oper}{x:Op}(h:o.op=x)(hx:BO x=false):BO o.op=false:=by rw[h];exact hx
theorem uN(hn:BO o.op=false){x:Operand}(hx:x∈o.op.operands.toList){id:Id}(cZ:id∈(s.ev x).ids):id∈(fL Γ ops s o).rs:=by
 refine bp.2 (.inl ?_)
 unfold Ep
 rw[hn]
 cases x with
 |tmp i=>exact List.mem_flatMap.2 ⟨i,xY hx,cZ⟩
 |const v=>simp[AS.ev,En]at cZ
 |global _=>simp[AS.ev,aw.ids]at cZ
 |func f=>simp[AS.ev,aw.ids]at cZ
theorem jN.C6(h:jN (fL Γ ops s o) s t)(hn:BO o.op=false){x:Operand}(hx:x∈o.op.operands.toList){id:Id}(cZ:id∈(s.ev x).ids):pk (t.bT id) (s.bT id):=
 h.rs id (uN hn hx cZ)
theorem wy{id:Id}(h:pk (t.bT id) (s.bT id)):(t.obj id=none/\s.obj id=none)\/∃v f f' c,t.obj id=some (v,f,c)/\s.obj id=some (v,f',c):=by
 unfold AS.obj
 revert h
 cases t.bT id with
 |none=>cases s.bT id with
  |none=>intro _;simp
  |some b=>intro h;exact h.elim
 |some a=>cases s.bT id with
  |none=>intro h;exact h.elim
  |some b=>cases a <;> cases b <;> intro h <;> first
    |exact h.elim
    | (left;exact⟨rfl,rfl⟩)
    | (obtain⟨rfl,rfl⟩:=h;right;exact⟨_,_,_,_,rfl,rfl⟩)
theorem xr{id:Id}(h:pk (t.bT id) (s.bT id))(ver:Nat)(p:List tJ):t.row id ver p=s.row id ver p:=by
 unfold AS.row
 rcases wy h with⟨h1,h2⟩ | ⟨v,f,f',c,h1,h2⟩ <;> rw[h1,h2]
theorem kM:∀(v:aw) (ty:Ty),(∀id∈v.ids,pk (t.bT id) (s.bT id))->t.gR ty v=s.gR ty v
 | .cO id ver p c i len,ty,h=>by
  cases ty <;> first
   |rfl
   | (simp only[AS.gR];rw[xr (h id (by simp[aw.ids]))])
 | .pr a b,ty,h=>by
  cases ty <;> first
   |rfl
   | (simp only[AS.gR];rw[kM a _ λid cZ=>h id (by simp[aw.ids,cZ]),kM b _ λid cZ=>h id (by simp[aw.ids,cZ])])
 | .undef,ty,_ | .gone,ty,_ | .dp,ty,_ | .mi,ty,_ | .nX,ty,_ | .qN,ty,_ | .d _ _,ty,_ | .ptr ..,ty,_ | .eS ..,ty,_ | .fn ..,ty,_ | .cons ..,ty,_ | .nil,ty,_ | .vec ..,ty,_ | .bx ..,ty,_ | .l9 ..,ty,_ | .mp ..,ty,_ | .ml ..,ty,_ | .yl ..,ty,_ | .ow ..,ty,_ | .sb _,ty,_=>by
  cases ty <;> simp only[AS.gR]
theorem nA:∀(v:aw),∀id∈v.shared,id∈v.ids
 | .cO ..,id,h=>by simpa[aw.shared,aw.ids]using h
 | .pr a b,id,h=>by
  simp only[aw.shared,bp,aw.ids]at h ⊢
  rcases h with h | h
  ·exact .inl (nA a id h)
  ·exact .inr (nA b id h)
 | .undef,_,h | .gone,_,h | .dp,_,h | .mi,_,h | .nX,_,h | .qN,_,h | .d _ _,_,h | .ptr ..,_,h | .eS ..,_,h | .fn ..,_,h | .cons ..,_,h | .nil,_,h | .vec ..,_,h | .bx ..,_,h | .l9 ..,_,h | .mp ..,_,h | .ml ..,_,h | .yl ..,_,h | .ow ..,_,h | .sb _,_,h=>by
  simp[aw.shared]at h
theorem Ea{T:TypeId}{x:aw}(h:∀id∈x.ids,pk (t.bT id) (s.bT id)):vN P t T x=vN P s T x:=by
 unfold vN
 split
 ·rename_i id ver p n
  rcases wy (h id (by simp[aw.ids])) with⟨h1,h2⟩ | ⟨v,f,f',c,h1,h2⟩ <;> rw[h1,h2]
 ·rfl
 ·rfl
 ·rfl
theorem Ck{n:Nat}{lo hi:Option Operand}(hl:∀x,lo=some x->t.ev x=s.ev x)(hh:∀x,hi=some x->t.ev x=s.ev x):bounds t n lo hi=bounds s n lo hi:=by
 unfold bounds
 cases lo <;> cases hi <;> simp only[] <;> first
  |rfl
  | (rw[hl _ rfl,hh _ rfl])
  |rw[hl _ rfl]
  |rw[hh _ rfl]
theorem wB{T:TypeId}{x:aw}{lo hi:Option Operand}(h:∀id∈x.ids,pk (t.bT id) (s.bT id))(hl:∀x,lo=some x->t.ev x=s.ev x)(hh:∀x,hi=some x->t.ev x=s.ev x):
  tc P t T x lo hi=tc P s T x lo hi:=by
 have hb:∀n,bounds t n lo hi=bounds s n lo hi:=λn=>Ck hl hh
 unfold tc
 split <;> first
  |rfl
  | (rw[xr (h _ (by simp[aw.ids]))];simp only[hb];done)
  | (simp only[hb];done)
theorem A9{T:TypeId}{x:aw}{lo:Option Operand}{y m:Operand}(h:∀id∈x.ids,pk (t.bT id) (s.bT id))(hl:∀x,lo=some x->t.ev x=s.ev x)(hh:t.ev y=s.ev y)(hm:t.ev m=s.ev m):
  wA P t T x lo y m=wA P s T x lo y m:=by
 unfold wA
 rw[hh,hm,wB h hl λz hz=>by obtain rfl:=ba hz;exact hh]
theorem xd{T:TypeId}{x:aw}{i:Int}(h:∀id∈x.ids,pk (t.bT id) (s.bT id)):lZ P t T x i=lZ P s T x i:=by
 unfold lZ
 split <;> first
  |rfl
  |rw[xr (h _ (by simp[aw.ids]))]
theorem Du{obj:Bool}{src dst:TypeId}{x:aw}(h:∀id∈x.ids,pk (t.bT id) (s.bT id)):Bo P t obj src dst x=Bo P s obj src dst x:=by
 unfold Bo
 split
 ·rfl
 ·unfold Jo
  split <;> first
   |rfl
   | (simp only[AS.Ge,kM _ _ h])
theorem HI{T:TypeId}{op:BinOp}{i:Id}{v:Nat}{j:Id}{w:Nat}(h:pk (t.bT i) (s.bT i)):OI P t T op i v j w=OI P s T op i v j w:=by
 unfold OI
 rcases wy h with⟨h1,h2⟩ | ⟨v,f,f',c,h1,h2⟩ <;> rw[h1,h2]
theorem Dw{src dst:TypeId}{id:Id}{ver:Nat}(h:pk (t.bT id) (s.bT id)):Bp P t src dst id ver=Bp P s src dst id ver:=by
 unfold Bp
 rcases wy h with⟨h1,h2⟩ | ⟨v,f,f',c,h1,h2⟩
 ·rw[h1,h2]
 ·rw[h1,h2]
  cases c <;> first
   |rfl
   | (rename_i e z c;cases z <;> rfl)
theorem pY{ty:Ty}:∀(ps:List (Nat×Operand)) (l:List ty.den),(∀x∈ps,t.ev x.2=s.ev x.2/\∀id∈(s.ev x.2).ids,pk (t.bT id) (s.bT id))->im ty t ps l=im ty s ps l
 |[],_,_=>rfl
 | (i,x)::ps,l,h=>by
  obtain⟨h1,h2⟩:=h (i,x) (aK ..)
  simp only[im]
  simp only at h1 h2
  rw[h1,kM _ _ h2]
  congr 2
  funext y
  rw[pY ps _ λz hz=>h z (aH _ hz)]
theorem oH{ty:Ty}:∀(ps:List (Nat×Operand)) (l:List ty.den) (r:List ty.den×List Id),(im ty s ps l).eval=some r->∀id∈r.2,∃x∈ps,id∈(s.ev x.2).ids
 |[],l,r,h,id,cZ=>by
  obtain rfl:=aq.1 h
  cases cZ
 | (i,x)::ps,l,r,h,id,cZ=>by
  simp only[im]at h
  obtain⟨h1,h2⟩:=aA.1 h
  obtain⟨y,h3,h4⟩:=ak.1 h2
  obtain⟨r',h5,h6⟩:=ak.1 h4
  obtain rfl:=aq.1 h6
  rcases bp.1 cZ with cZ | cZ
  ·exact⟨(i,x),aK ..,nA _ _ cZ⟩
  ·obtain⟨z,hz,w8⟩:=oH ps _ r' h5 id cZ
   exact⟨z,aH _ hz,w8⟩
theorem sk{fs:Array Field}:∀(ps:List (Nat×Operand)) (v:aw),(∀x∈ps,t.ev x.2=s.ev x.2)->kY P fs t ps v=kY P fs s ps v
 |[],_,_=>rfl
 | (i,x)::ps,v,h=>by
  have h1:=h (i,x) (aK ..)
  simp only at h1
  simp only[kY,h1]
  have ih:∀v,kY P fs t ps v=kY P fs s ps v:=λv=>sk ps v λz hz=>h z (aH _ hz)
  simp only[ih]
theorem vp:∀(l:List Operand),(∀x∈l,t.ev x=s.ev x)->lT t l=lT s l
 |[],_=>rfl
 |x::l,h=>by
  simp only[lT]
  rw[h x (aK ..),vp l λy hy=>h y (aH _ hy)]
theorem yc{ty:Ty}{X:TypeId}{x:aw}(h:∀id∈x.ids,pk (t.bT id) (s.bT id)):sR P t ty X x=sR P s ty X x:=by
 unfold sR
 split
 ·rfl
 ·simp only[AS.Ge,kM _ _ h]
theorem jy{v:aw}(h:∀t,jN (fL Γ ops s o) s t->(lh P Γ bE o t).eval=some (t.put o.dst v)):vj P Γ bE ops o s (s.put o.dst v):=
 ⟨⟨v,λ_=>none,[]⟩,App.tz _ _ _,⟨λ_ _ h=>by simp at h,λ_ h=>by simp at h⟩,λt ht=>⟨_,h t ht,App.tz _ _ _⟩⟩
theorem ku{F:AS->Out aw}(ho:∀t,lh P Γ bE o t=(F t).bind λv=> .ok (t.put o.dst v))(hF:∀t,jN (fL Γ ops s o) s t->F t=F s){s':AS}(he:(lh P Γ bE o s).eval=some s'):vj P Γ bE ops o s s':=by
 rw[ho]at he
 obtain⟨v,h1,h2⟩:=ak.1 he
 obtain rfl:=aq.1 h2
 refine jy λt ht=> ?_
 rw[ho,hF t ht,ak]
 exact⟨v,h1,rfl⟩
theorem yP{v:aw}{ids:List Id}(hi:∀id∈ids,id∈(fL Γ ops s o).rs)(h:∀t,jN (fL Γ ops s o) s t->(lh P Γ bE o t).eval=some ((t.bj ids).put o.dst v)):vj P Γ bE ops o s ((s.bj ids).put o.dst v):=
 ⟨⟨v,λ_=>none,ids⟩,App.wY _ _ _ _,⟨λ_ _ h=>by simp at h,hi⟩,λt ht=>⟨_,h t ht,App.wY _ _ _ _⟩⟩
theorem pR{v:aw}{ids:List Id}{q:Nat}{es:List dv}(hd:o.dst=some q)(hv:s.dB q=true)(hi:∀id∈ids,id∈(fL Γ ops s o).rs)
  (h:∀t,jN (fL Γ ops s o) s t->t.dB q=true->(lh P Γ bE o t).eval=some (((t.bj ids).born q es).put o.dst v)):vj P Γ bE ops o s (((s.bj ids).born q es).put o.dst v):=by
 refine⟨⟨v,wP q es,ids⟩,by rw[hd];exact App.GP hv _ _ _,⟨λid e h=> .inr ?_,hi⟩,λt ht=> ?_⟩
 ·cases id with
  |dw _=>simp[wP]at h
  |new i j=>
   simp only[wP]at h
   split at h
   ·rename_i hq;exact⟨q,j,hd,by rw[hq]⟩
   ·cases h
 ·have hv':t.dB q=true:=by rw[ht.dB q hd];exact hv
  exact⟨_,h t ht hv',by rw[hd];exact App.GP hv' _ _ _⟩
theorem rD{v:aw}{id:Id}{e0 e:dv}(hs:s.bT id=some e0)(hw:id∈(fL Γ ops s o).ws)(h:∀t,jN (fL Γ ops s o) s t->t.bT id=s.bT id->(lh P Γ bE o t).eval=some ((t.aL id e).put o.dst v)):
  vj P Γ bE ops o s ((s.aL id e).put o.dst v):=by
 refine⟨⟨v,λi=>if i=id then some e else none,[]⟩,App.Kv hs _ _ _,⟨λi e' h=> .inl ?_,λ_ h=>by simp at h⟩,λt ht=> ?_⟩
 ·simp only at h
  split at h
  ·rename_i hi;subst hi;exact⟨hw,by rw[hs];simp⟩
  ·cases h
 ·have:=ht.ws id hw
  exact⟨_,h t ht this,App.Kv (this.trans hs) _ _ _⟩
end
end Go.Ab
namespace Go.Ab
section
variable {P:Program} {Γ:ov} {bE:List Nat} {ops:Array Oper} {o:Oper} {s t:AS}
theorem CU{T:TypeId}{x v:aw}{s':AS}(h:(td P s T x v).eval=some s'):
  ∃id e0 e,x.ids=[id]/\s.bT id=some e0/\s'=s.aL id e/\∀t:AS,t.bT id=s.bT id->(td P t T x v).eval=some (t.aL id e):=by
 unfold td at h
 split at h
 ·rename_i id ver p n
  cases ju:s.obj id with
  |none=>rw[ju]at h;simp only[aj]at h
  |some r=>
   obtain⟨ve,fr,c⟩:=r
   rw[ju]at h
   obtain⟨h1,h2⟩:=aA.1 h
   obtain⟨r,h3,h4⟩:=ak.1 h2
   obtain⟨h5,h6⟩:=aA.1 h4
   obtain⟨h7,h8⟩:=bF.1 h6
   obtain⟨c',h9,Ps⟩:=ak.1 h8
   obtain rfl:=aq.1 Ps
   refine⟨id,_,_,rfl,dG ju,rfl,λt ht=> ?_⟩
   have hob':t.obj id=some (ve,fr,c):=by simp only[AS.obj,ht];exact ju
   unfold td
   simp only[hob']
   exact aA.2 ⟨h1,ak.2 ⟨r,h3,aA.2 ⟨h5,bF.2 ⟨h7,ak.2 ⟨c',h9,aq.2 rfl⟩⟩⟩⟩⟩
 ·simp only[aj]at h
theorem Fx{c:Call}{x y:Operand}{T X:TypeId}(c6:o.op= .call c)(hc:c.callee= .builtin .copy)(ha:c.args.toList=[x,y])(ht:c.argTypes.toList=[T,X]){s':AS}
  (he:(y9 P s o.dst T X (s.ev x) (s.ev y)).eval=some s'):vj P Γ bE ops o s s':=by
 have BG:∀t:AS,lh P Γ bE o t=y9 P t o.dst T X (t.ev x) (t.ev y):=λt=>by
  unfold lh
  rw[c6]
  simp only[hc,ha,ht]
 have qJ:∀z,z=x\/z=y->z∈o.op.operands.toList:=λz hz=>by
  rw[c6]
  simp only[Op.operands,Call.operands,hc,bh,bK,ha]
  simpa using hz
 have hx:∀t,jN (fL Γ ops s o) s t->t.ev x=s.ev x:=λt h=>h.ev (qJ x (.inl rfl))
 have hy:∀t,jN (fL Γ ops s o) s t->t.ev y=s.ev y:=λt h=>h.ev (qJ y (.inr rfl))
 have hm:∀t,jN (fL Γ ops s o) s t->∀ty,sR P t ty X (s.ev y)=sR P s ty X (s.ev y):=λt h ty=>yc λid cZ=>h.C6 (BS c6 rfl) (qJ y (.inr rfl)) cZ
 unfold y9 at he
 split at he
 ·rename_i e t b id ver len tO E4
  obtain⟨m,h1,he⟩:=ak.1 he
  split at he
  ·rename_i ve n t' l ju
   obtain⟨h2,vF⟩:=aA.1 he
   obtain⟨l',h3,AG⟩:=ak.1 vF
   obtain⟨h4,OM⟩:=bF.1 AG
   obtain rfl:=aq.1 OM
   have hw:id∈(fL Γ ops s o).ws:=by
    show id∈writes Γ s o
    unfold writes
    rw[c6]
    simp only[hc,ha,E4]
    simp[aw.ids]
   refine rD (dG ju) hw λt ht HY=> ?_
   rw[BG t,hx t ht,hy t ht]
   have hob':t.obj id=some (ve,false,.d (.arr n t') l):=by simp only[AS.obj,HY];exact ju
   unfold y9
   simp only[tO,E4]
   refine ak.2 ⟨m,by rw[hm t ht];exact h1,?_⟩
   simp only[hob']
   exact aA.2 ⟨h2,ak.2 ⟨l',h3,bF.2 ⟨h4,aq.2 rfl⟩⟩⟩
  ·exact(aj.1 he).elim
 ·exact(aj.1 he).elim
theorem Ch{c:Call}{x y:Operand}{T X:TypeId}(c6:o.op= .call c)(hc:c.callee= .builtin .append)(ha:c.args.toList=[x,y])(ht:c.argTypes.toList=[T,X])(gS:∀k n,s.ev x= .dp->s.ev y= .d (.int k) n->False){s':AS}
  (he:(oT P s (H5 bE o.dst) (FZ bE o.dst) o.dst T X (s.ev x) (s.ev y)).eval=some s'):vj P Γ bE ops o s s':=by
 have BG:∀t:AS,t.ev x=s.ev x->t.ev y=s.ev y->lh P Γ bE o t=oT P t (H5 bE o.dst) (FZ bE o.dst) o.dst T X (t.ev x) (t.ev y):=λt e1 e2=>by
  unfold lh
  rw[c6]
  simp only[hc,ha,ht]
  split
  ·rename_i k n hx hy
   rw[e1]at hx
   rw[e2]at hy
   exact(gS k n hx hy).elim
  ·rfl
 have qJ:∀z,z=x\/z=y->z∈o.op.operands.toList:=λz hz=>by
  rw[c6]
  simp only[Op.operands,Call.operands,hc,bh,bK,ha]
  simpa using hz
 have hx:∀t,jN (fL Γ ops s o) s t->t.ev x=s.ev x:=λt h=>h.ev (qJ x (.inl rfl))
 have hy:∀t,jN (fL Γ ops s o) s t->t.ev y=s.ev y:=λt h=>h.ev (qJ y (.inr rfl))
 have hm:∀t,jN (fL Γ ops s o) s t->∀ty,sR P t ty X (s.ev y)=sR P s ty X (s.ev y):=λt h ty=>yc λid cZ=>h.C6 (BS c6 rfl) (qJ y (.inr rfl)) cZ
 unfold oT at he
 split at he
 ·rename_i e ty b q tO hd
  obtain⟨m,h1,h2⟩:=ak.1 he
  split at h2
  ·rename_i P1
   cases OL:FZ bE o.dst with
   |true=>
    rw[OL]at h2
    simp only at h2
    obtain⟨h5,h6⟩:=bF.1 h2
    obtain rfl:=aq.1 h6
    refine jy λt ht=> ?_
    rw[BG t (hx t ht) (hy t ht),hx t ht,hy t ht]
    unfold oT
    simp only[hd]at OL tO ⊢
    simp only[tO,P1,OL]
    refine ak.2 ⟨m,by rw[hm t ht];exact h1,?_⟩
    exact bF.2 ⟨h5,aq.2 rfl⟩
   |false=>
   rw[OL]at h2
   simp only at h2
   obtain⟨h3,h4⟩:=aA.1 h2
   obtain⟨h5,h6⟩:=bF.1 h4
   obtain rfl:=aq.1 h6
   refine pR (ids:=[]) hd h3 (λ_ h=>by cases h) λt ht hv=> ?_
   rw[BG t (hx t ht) (hy t ht),hx t ht,hy t ht]
   unfold oT
   simp only[hd]at OL tO ⊢
   simp only[tO,P1,OL]
   refine ak.2 ⟨m,by rw[hm t ht];exact h1,?_⟩
   exact aA.2 ⟨hv,bF.2 ⟨h5,aq.2 rfl⟩⟩
  ·rename_i id ver len P1
   split at h2
   ·rename_i v fr e' t' l ju
    obtain⟨h3,h4⟩:=aA.1 h2
    obtain⟨l',h5,h6⟩:=ak.1 h4
    obtain⟨h7,h8⟩:=bF.1 h6
    obtain⟨h9,Ps⟩:=bF.1 h8
    obtain⟨Tu,Pt⟩:=bF.1 Ps
    obtain rfl:=aq.1 Pt
    have hw:id∈(fL Γ ops s o).ws:=by
     show id∈writes Γ s o
     unfold writes
     rw[c6]
     simp only[hc,ha,P1]
     simp[aw.ids]
    refine rD (dG ju) hw λt ht HY=> ?_
    rw[BG t (hx t ht) (hy t ht),hx t ht,hy t ht]
    have hob':t.obj id=some (v,fr,.vec e' t' l):=by simp only[AS.obj,HY];exact ju
    unfold oT
    simp only[hd]at tO ⊢
    simp only[tO,P1]
    refine ak.2 ⟨m,by rw[hm t ht];exact h1,?_⟩
    simp only[hob']
    exact aA.2 ⟨h3,ak.2 ⟨l',h5,bF.2 ⟨h7,bF.2 ⟨h9,bF.2 ⟨Tu,aq.2 rfl⟩⟩⟩⟩⟩
   ·simp only[aj]at h2
  ·simp only[aj]at h2
 ·simp only[aj]at he
theorem xp:∀(n:Nat) (todo acc:List Id),∀id∈acc,id∈s.reach n todo acc
 | 0,_,_,id,h=>h
 |_+1,[],_,id,h=>h
 |n+1,x::todo,acc,id,h=>by
  rw[AS.reach]
  split
  ·exact xp n todo acc id h
  ·exact xp n _ _ id (bp.2 (.inl h))
theorem od:∀(n:Nat) (todo acc:List Id),(∀id∈s.reach n todo acc,((t.bT id).getD .dead).ids=((s.bT id).getD .dead).ids)->t.reach n todo acc=s.reach n todo acc
 | 0,_,_,_=>rfl
 |_+1,[],_,_=>rfl
 |n+1,x::todo,acc,h=>by
  rw[AS.reach]at h
  rw[AS.reach,AS.reach]
  split
  ·rename_i hc
   rw[if_pos hc]at h
   exact od n todo acc h
  ·rename_i hc
   rw[if_neg hc]at h
   have hx:=h x (xp n _ _ x (bp.2 (.inr (bO.2 rfl))))
   rw[hx]
   exact od n _ _ h
theorem LB(e:Option dv):((e.map dv.FI).getD .dead).ids=(e.getD .dead).ids:=by
 cases e with
 |none=>rfl
 |some x=>cases x <;> rfl
theorem yE(ids:List Id)(n:Nat)(todo acc:List Id):(s.bj ids).reach n todo acc=s.reach n todo acc:=by
 refine od n todo acc λid _=> ?_
 rw[eP]
 split
 ·exact LB _
 ·rfl
theorem uC:∀(ps:List (Option Ty)) (vs:List aw),(∀v∈vs,∀id∈v.ids,pk (t.bT id) (s.bT id))->t.conv ps vs=s.conv ps vs
 |[],[],_=>rfl
 |[],_::_,_=>rfl
 |some _::_,[],_=>rfl
 |none::_,[],_=>rfl
 |some ty::ps,v::vs,h=>by
  simp only[AS.conv]
  rw[kM v ty (h v (aK ..)),uC ps vs λx hx=>h x (aH _ hx)]
 |none::ps,v::vs,h=>by
  simp only[AS.conv]
  rw[uC ps vs λx hx=>h x (aH _ hx)]
theorem uD:∀(ps:List (Option Ty)) (vs:List aw) (r:List aw×List Id),(s.conv ps vs).eval=some r->r.1.flatMap aw.ids=nI ps vs/\∀id∈r.2,∃v∈vs,id∈v.ids
 |[],[],r,h=>by
  simp only[AS.conv,aq]at h
  subst h
  exact⟨rfl,λ_ h=>by cases h⟩
 |some ty::ps,v::vs,r,h=>by
  simp only[AS.conv]at h
  obtain⟨x,h1,h2⟩:=ak.1 h
  obtain⟨r',h3,h4⟩:=ak.1 h2
  obtain rfl:=aq.1 h4
  obtain⟨i1,i2⟩:=uD ps vs r' h3
  refine⟨by simp[nI,i1,aw.ids],λid cZ=> ?_⟩
  rcases bp.1 cZ with cZ | cZ
  ·exact⟨v,aK ..,nA v id cZ⟩
  ·obtain⟨u,hu,C4⟩:=i2 id cZ
   exact⟨u,aH _ hu,C4⟩
 |none::ps,v::vs,r,h=>by
  simp only[AS.conv]at h
  obtain⟨r',h3,h4⟩:=ak.1 h
  obtain rfl:=aq.1 h4
  obtain⟨i1,i2⟩:=uD ps vs r' h3
  refine⟨by simp[nI,i1],λid cZ=> ?_⟩
  obtain⟨u,hu,C4⟩:=i2 id cZ
  exact⟨u,aH _ hu,C4⟩
 |[],_::_,_,h=>by simp only[AS.conv,aj]at h
 |some _::_,[],_,h=>by simp only[AS.conv,aj]at h
 |none::_,[],_,h=>by simp only[AS.conv,aj]at h
theorem D9:∀(c:aw),∀v∈c.list,∀id∈v.ids,id∈c.ids
 | .cons a b,v,hv,id,cZ=>by
  simp only[aw.list,bY]at hv
  simp only[aw.ids,bp]
  rcases hv with rfl | hv
  ·exact .inl cZ
  ·exact .inr (D9 b v hv id cZ)
 | .sb _,_,h,_,_ | .undef,_,h,_,_ | .gone,_,h,_,_ | .dp,_,h,_,_ | .mi,_,h,_,_ | .nX,_,h,_,_ | .qN,_,h,_,_ | .d _ _,_,h,_,_ | .ptr ..,_,h,_,_ | .eS ..,_,h,_,_
 | .fn ..,_,h,_,_ | .pr ..,_,h,_,_ | .nil,_,h,_,_ | .vec ..,_,h,_,_ | .bx ..,_,h,_,_ | .l9 ..,_,h,_,_ | .mp ..,_,h,_,_ | .ml ..,_,h,_,_ | .yl ..,_,h,_,_ | .ow ..,_,h,_,_ | .cO ..,_,h,_,_=>by simp[aw.list]at h
theorem yj{ids:List Id}(h:∀id∈ids,t.bT id=s.bT id):t.oh ids=s.oh ids:=by
 funext id ver
 unfold AS.oh
 cases hi:idxOf id ids with
 |none=>rfl
 |some k=>
  have:t.obj id=s.obj id:=by simp only[AS.obj,h id (cR (lY hi))]
  rw[this]
theorem yn{id:Id}(h:t.bT id=s.bT id):t.qD id=s.qD id:=by simp only[AS.qD,AS.obj,h]
theorem we{ids:List Id}(h:∀id∈ids,t.bT id=s.bT id)(q:Nat):t.nv ids q=s.nv ids q:=by
 funext id ver
 cases id with
 |new i j=>rfl
 |dw k=>
  simp only[AS.nv]
  cases hk:ids[k]? with
  |none=>rfl
  |some id=>simp only[yn (h id (cR hk))]
theorem vz{ids:List Id}(h:∀id∈ids,t.bT id=s.bT id)(q b:Nat):t.lU ids q b=s.lU ids q b:=by
 funext e
 cases e <;> simp only[AS.lU,we h]
theorem DB{ids:List Id}(h:∀id∈ids,t.bT id=s.bT id){id:Id}(cZ:id∈ids):t.j5 ids id=s.j5 ids id:=by
 unfold AS.j5
 rw[h id cZ,yj h]
def kj(s:AS)(ids:List Id)(d:Option Tmp)(G:jA):AS:=
 (AS.iy s ids (d.getD 0) (s.made ids (d.getD 0) G.news) ids G.cj).put d (G.val.gJ (s.nv ids (d.getD 0)))
theorem Bk{ids:List Id}{d:Option Tmp}{G:jA}{s':AS}:(s.back ids d G).eval=some s'↔(G.cj.length=ids.length/\(G.news=[]\/∃q,d=some q/\s.dB q=true))/\s'=kj s ids d G:=by
 unfold AS.back
 cases d with
 |none=>
  rw[aA,aq]
  simp only[ah,beq_iff_eq,List.isEmpty_iff,kj,AS.put,Option.getD_none]
  constructor
  ·rintro⟨⟨h1,h2⟩,rfl⟩
   rw[h2];exact⟨⟨h1,.inl rfl⟩,rfl⟩
  ·rintro⟨⟨h1,h2⟩,rfl⟩
   rcases h2 with h2 | ⟨q,hq,_⟩
   ·rw[h2];exact⟨⟨h1,rfl⟩,rfl⟩
   ·cases hq
 |some q=>
  rw[aA,aq]
  simp only[ah,beq_iff_eq,fD,List.isEmpty_iff,kj,eu]
  constructor
  ·rintro⟨⟨h1,h2⟩,rfl⟩
   exact⟨⟨h1,h2.imp id λh=>⟨q,rfl,h⟩⟩,rfl⟩
  ·rintro⟨⟨h1,h2⟩,rfl⟩
   refine⟨⟨h1,h2.imp id λ⟨q',hq,h⟩=> ?_⟩,rfl⟩
   obtain rfl:q=q':=by simpa using hq
   exact h
theorem xT(s0:AS)(all:List Id)(q:Nat):∀(ids:List Id) (es:List dv) (s:AS),(AS.iy s0 all q s ids es).news.length=s.news.length
 |[],_,_=>by simp[AS.iy]
 |_::_,[],_=>by simp[AS.iy]
 |id::ids,e::es,s=>by rw[AS.iy,xT s0 all q ids es,uP]
theorem J0(s:AS)(ids:List Id)(q:Nat)(es:List dv):(s.made ids q es).news.length=s.news.length:=by
 cases es <;> simp[AS.made,AS.born]
def tI(ids:List Id)(d:Option Tmp)(G:jA)(id:Id):Prop:=id∈ids\/(G.news≠ []/\∃q j,d=some q/\id= .new q j)
theorem y3{ids:List Id}{d:Option Tmp}{G:jA}(hn:ids.Nodup)(hp:∀id∈ids,s.bT id≠none)(hl:G.cj.length=ids.length)(hv:G.news=[]\/∃q,d=some q/\s.dB q=true):
  (∀id,¬tI ids d G id->(kj s ids d G).bT id=s.bT id)/\
  (∀(k:Nat) (id:Id) (e:dv),ids[k]? =some id->G.cj[k]? =some e->(kj s ids d G).bT id=some (s.lU ids (d.getD 0) (s.qD id) e))/\
  (∀q j,G.news≠ []->d=some q->(kj s ids d G).bT (.new q j)=(G.news[j]?).map (s.lU ids q 0))/\
  (∀q j,G.news≠ []->d=some q->s.bT (.new q j)=none):=by
 have hv':G.news=[]\/s.dB (d.getD 0)=true:=by
  rcases hv with h | ⟨q,rfl,h⟩
  ·exact .inl h
  ·exact .inr h
 obtain⟨m1,m2⟩:=DC s ids (d.getD 0) G.news hv'
 have ME:∀q j,G.news≠ []->d=some q->s.bT (.new q j)=none:=λq j h1 h2=>by
  rcases hv' with h | h
  ·exact absurd h h1
  ·subst h2;exact(qf.1 h).2 j
 have tP:∀id,s.bT id≠none->G.news=[]\/∀j,id≠ .new (d.getD 0) j:=λid cZ=>by
  rcases hv with h | ⟨q,rfl,h⟩
  ·exact .inl h
  ·exact .inr λj e=>cZ (by rw[e];exact(qf.1 h).2 j)
 obtain⟨n1,n2⟩:=sJ s ids (d.getD 0) ids G.cj (s.made ids (d.getD 0) G.news) hn hl (λid cZ=>by rw[m1 id (tP id (hp id cZ))];exact hp id cZ)
 refine⟨λid cZ=> ?_,λk id e h1 h2=> ?_,λq j h1 h2=> ?_,ME⟩
 ·unfold tI at cZ
  simp only[not_or]at cZ
  rw[kj,tr,n1 id cZ.1]
  refine m1 id ?_
  by_cases gS:G.news=[]
  ·exact .inl gS
  ·right
   intro j e
   rcases hv with h | ⟨q,hq,_⟩
   ·exact gS h
   ·exact cZ.2 ⟨gS,q,j,hq,by rw[e,hq];rfl⟩
 ·rw[kj,tr,n2 k id e h1 h2]
 ·subst h2
  have R1:Id.new q j ∉ ids:=λcZ=>hp _ cZ (ME q j h1 rfl)
  rw[kj,tr,n1 _ R1]
  exact m2 h1 j
open Classical in
theorem Fp{c:Call}{F:Operand}{f:FuncId}{caps:aw}{en:Entry}(c6:o.op= .call c)(hc:c.callee= .value F)(hF:s.ev F= .fn f caps)(hΓ:Γ f (c.args.toList.map s.ev++caps.list)=some en)(gV:Nat.blt f yB=true){s':AS}
  (he:(s.call en o.dst (c.args.toList.map s.ev++caps.list)).eval=some s'):vj P Γ bE ops o s s':=by
 have qJ:∀z,z=F\/z∈c.args.toList->z∈o.op.operands.toList:=λz hz=>by
  rw[c6]
  simp only[Op.operands,Call.operands,hc,bK,bp]
  rcases hz with rfl | hz
  ·exact .inl (by simp)
  ·exact .inr hz
 have JO:∀v∈c.args.toList.map s.ev++caps.list,∀id∈v.ids,id∈(fL Γ ops s o).rs:=λv hv id cZ=>by
  rcases bp.1 hv with hv | hv
  ·obtain⟨x,hx,rfl⟩:=c7.1 hv
   exact uN (BS c6 rfl) (qJ x (.inr hx)) cZ
  ·refine uN (BS c6 rfl) (qJ F (.inl rfl)) ?_
   rw[hF]
   exact D9 caps v hv id cZ
 generalize vH:c.args.toList.map s.ev++caps.list=vs at he JO hΓ
 have KU:(fL Γ ops s o).ws=s.reach 64 (nI en.params vs) []:=by
  show writes Γ s o=_
  unfold writes
  rw[c6]
  simp only[hc,hF,vH,hΓ]
 have BG:∀t,jN (fL Γ ops s o) s t->lh P Γ bE o t=t.call en o.dst vs:=λt ht=>by
  unfold lh
  rw[c6]
  have h1:t.ev F= .fn f caps:=by rw[ht.ev (qJ F (.inl rfl)),hF]
  have h2:c.args.toList.map t.ev=c.args.toList.map s.ev:=ga λx hx=>ht.ev (qJ x (.inr hx))
  obtain⟨cal,args,tys⟩:=c
  simp only at hc vH h2
  subst hc
  simp only[h1,h2,vH,hΓ,gV,Out.guard]
 unfold AS.call at he
 obtain⟨r,h1,h2⟩:=ak.1 he
 obtain⟨NX,FT⟩:=uD _ _ r h1
 have hlends:∀t:AS,(t.bj r.2).G9 r.1=t.reach 64 (nI en.params vs) []:=λt=>by
  unfold AS.G9
  rw[yE,NX]
 rw[hlends]at h2
 generalize hW:s.reach 64 (nI en.params vs) []=W at h2 KU
 have hWn:W.Nodup:=by rw[<-hW];exact oe s _ _ _ (by simp)
 unfold AS.enter at h2
 obtain⟨rC,h3⟩:=aA.1 h2
 obtain⟨x,hx,h4⟩:=nS.1 h3
 obtain⟨x0,Qf,h4⟩:=ak.1 h4
 have Sq:=en.MY _ _ Qf
 rw[Sq]at h4 Qf
 obtain⟨⟨hl,hv⟩,rfl⟩:=Bk.1 h4
 generalize hG:en.out (r.1.map (aw.gJ ((s.bj r.2).oh W))) (W.map ((s.bj r.2).j5 W)) x=G at hl hv h4 ⊢
 have hp:∀id∈W,(s.bj r.2).bT id≠none:=λid cZ=>by
  have:=(ah _ _▸cY.1 rC id cZ).1
  obtain⟨⟨v,fr,c⟩,hr⟩:=bS.1 this
  rw[dG hr];simp
 obtain⟨b1,b2,b3,b4⟩:=y3 (s:=s.bj r.2) (d:=o.dst) hWn hp hl hv
 have hfzent:∀(u:AS) id,u.bT id=none↔(u.bj r.2).bT id=none:=λu id=>by
  rw[eP];split <;> simp
 let E:OD:=⟨G.val.gJ ((s.bj r.2).nv W (o.dst.getD 0)),λid=>if tI W o.dst G id then(kj (s.bj r.2) W o.dst G).bT id else none,r.2⟩
 have hslots:∀u:AS,(kj (u.bj r.2) W o.dst G).b8=(u.put o.dst (G.val.gJ ((u.bj r.2).nv W (o.dst.getD 0)))).b8:=λu=>by
  unfold kj
  cases o.dst <;> simp[AS.put,qQ,Am,ka]
 have hlen:∀u:AS,(kj (u.bj r.2) W o.dst G).news.length=u.news.length:=λu=>by
  unfold kj
  cases o.dst <;> simp[AS.put,xT,J0,lB]
 refine⟨E,⟨hslots s,hlen s,λid=> ?_⟩,⟨λid e yz=> ?_,λid cZ=> ?_⟩,λt ht=> ?_⟩
 ·by_cases AI:tI W o.dst G id
  ·have yz:E.up id=(kj (s.bj r.2) W o.dst G).bT id:=if_pos AI
   rw[yz]
   cases hb:(kj (s.bj r.2) W o.dst G).bT id with
   |some e=>rfl
   |none=>
    rcases AI with cZ | ⟨gS,q,j,hq,rfl⟩
    ·obtain⟨k,hk⟩:=iU.1 cZ
     have gV:k < G.cj.length:=by rw[hl];exact(dj.1 hk).1
     rw[b2 k id _ hk (cd gV)]at hb
     cases hb
    ·have:=(hfzent s _).2 (b4 q j gS hq)
     simp[this]
  ·have yz:E.up id=none:=if_neg AI
   rw[yz,b1 id AI,eP]
 ·by_cases AI:tI W o.dst G id
  ·rcases AI with cZ | ⟨_,q,j,hq,rfl⟩
   ·left
    refine⟨by rw[KU];exact cZ,λh=>hp id cZ ((hfzent s id).1 h)⟩
   ·exact .inr ⟨q,j,hq,rfl⟩
  ·have:E.up id=none:=if_neg AI
   rw[this]at yz;cases yz
 ·obtain⟨v,hv,cZ⟩:=FT id cZ
  exact JO v hv id cZ
 ·have PF:t.conv en.params vs=s.conv en.params vs:=uC _ _ λv hv id cZ=>ht.rs id (JO v hv id cZ)
  have vh:∀id∈W,t.bT id=s.bT id:=λid cZ=>ht.ws id (by rw[KU];exact cZ)
  have DU:∀id∈W,(t.bj r.2).bT id=(s.bj r.2).bT id:=λid cZ=>by
   rw[eP,eP,vh id cZ]
  have hWt:t.reach 64 (nI en.params vs) []=W:=by
   rw[<-hW]
   refine od _ _ _ λid cZ=> ?_
   rw[vh id (by rw[<-hW];exact cZ)]
  have Qe:G.news=[]\/∃q,o.dst=some q/\(t.bj r.2).dB q=true:=hv.imp id λ⟨q,hq,h⟩=>⟨q,hq,by
   rw[nC]at h ⊢
   rw[ht.dB q hq];exact h⟩
  have OT:∀id∈W,(t.bj r.2).bT id≠none:=λid cZ=>by rw[DU id cZ];exact hp id cZ
  obtain⟨d1,d2,d3,d4⟩:=y3 (s:=t.bj r.2) (d:=o.dst) hWn OT hl Qe
  refine⟨kj (t.bj r.2) W o.dst G,?_,⟨?_,hlen t,λid=> ?_⟩⟩
  ·rw[BG t ht]
   unfold AS.call
   rw[PF]
   refine ak.2 ⟨r,h1,?_⟩
   rw[hlends,hWt]
   unfold AS.enter
   have hA:(t.bj r.2).oh W=(s.bj r.2).oh W:=yj DU
   have hO:W.map ((t.bj r.2).j5 W)=W.map ((s.bj r.2).j5 W):=ga λid cZ=>DB DU cZ
   refine aA.2 ⟨?_,nS.2 ⟨x,?_,ak.2 ⟨x,Qf,?_⟩⟩⟩
   ·refine cY.2 λid cZ=> ?_
    have:=cY.1 rC id cZ
    simp only[AS.obj,AS.zC]at this ⊢
    rw[DU id cZ]
    exact this
   ·rw[hA,hO,<-hx]
   ·rw[hA,hO,hG]
    exact Bk.2 ⟨⟨hl,Qe⟩,rfl⟩
  ·rw[hslots t,we DU]
  ·by_cases AI:tI W o.dst G id
   ·have yz:E.up id=(kj (s.bj r.2) W o.dst G).bT id:=if_pos AI
    rw[yz]
    rcases AI with cZ | ⟨gS,q,j,hq,rfl⟩
    ·obtain⟨k,hk⟩:=iU.1 cZ
     have gV:k < G.cj.length:=by rw[hl];exact(dj.1 hk).1
     rw[b2 k id _ hk (cd gV),d2 k id _ hk (cd gV),vz DU,yn (DU id cZ)]
    ·rw[b3 q j gS hq,d3 q j gS hq,vz DU]
     cases hn:G.news[j]? with
     |some e=>rfl
     |none=>
      have:=(hfzent t _).2 (d4 q j gS hq)
      simp[this]
   ·have yz:E.up id=none:=if_neg AI
    rw[yz,d1 id AI,eP]
end
end Go.Ab
namespace Go.Ab
section
variable {P:Program} {Γ:ov} {bE:List Nat} {ops:Array Oper} {o:Oper} {s t:AS}
theorem Out.bind_assoc{α β γ:Type}(o:Out α)(f:α->Out β)(g:β->Out γ):(o.bind f).bind g=o.bind λa=>(f a).bind g:=by
 induction o with
 |ok a=>rfl
 |fail=>rfl
 |mV c r ih=>simp only[Out.bind,ih]
 |get x h ih=>simp only[Out.bind,ih]
 |br c x y ih1 ih2=>simp only[Out.bind,ih1,ih2]
theorem Et{parts:Array (Nat×Operand)}{x:Nat×Operand}(h:x∈parts.toList):x.2∈(parts.toList.map (·.2)).toArray.toList:=c7.2 ⟨x,h,rfl⟩
theorem Hz{T:TypeId}{x:Operand}(c6:o.op= .box T x){s':AS}(he:(Dj P s (isObj bE o.dst) (FZ bE o.dst) o.dst T (s.ev x)).eval=some s'):vj P Γ bE ops o s s':=by
 have BG:∀t,lh P Γ bE o t=Dj P t (isObj bE o.dst) (FZ bE o.dst) o.dst T (t.ev x):=λt=>by unfold lh;rw[c6]
 have hm:x∈o.op.operands.toList:=by rw[c6];simp[Op.operands]
 unfold Dj at he
 split at he
 ·rename_i q hd
  split at he
  ·rename_i ho
   obtain⟨h1,h2⟩:=aA.1 he
   obtain rfl:=aq.1 h2
   simp only[ah]at h1
   refine pR (ids:=[]) hd h1.1 (λ_ h=>by cases h) λt ht hv=> ?_
   rw[BG,ht.ev hm]
   unfold Dj
   simp only[hd]at ho ⊢
   simp only[ho]
   exact aA.2 ⟨by simp[hv,h1.2],aq.2 rfl⟩
  ·rename_i ho
   split at he
   ·rename_i ty Qa
    obtain⟨h1,h2⟩:=aA.1 he
    obtain⟨y,h3,h4⟩:=ak.1 h2
    obtain rfl:=aq.1 h4
    refine yP (λid cZ=>uN (BS c6 rfl) hm (nA _ _ cZ)) λt ht=> ?_
    rw[BG,ht.ev hm]
    unfold Dj
    simp only[hd]at ho ⊢
    simp only[ho,Qa]
    refine aA.2 ⟨h1,ak.2 ⟨y,?_,aq.2 rfl⟩⟩
    rw[kM _ _ λid cZ=>ht.C6 (BS c6 rfl) hm cZ];exact h3
   ·simp only[aj]at he
 ·simp only[aj]at he
theorem EW{T:TypeId}{x:Operand}(c6:o.op= .sliceToArrayPointer T x){s':AS}(he:(vb P s o.dst T (s.ev x)).eval=some s'):vj P Γ bE ops o s s':=by
 have BG:∀t,lh P Γ bE o t=vb P t o.dst T (t.ev x):=λt=>by unfold lh;rw[c6]
 have hm:x∈o.op.operands.toList:=by rw[c6];simp[Op.operands]
 unfold vb at he
 split at he
 ·rename_i n e hT
  split at he
  ·rename_i ty Qa
   obtain⟨h1,h2⟩:=aA.1 he
   obtain⟨l,h3,h4⟩:=ak.1 h2
   obtain⟨h5,h6⟩:=bF.1 h4
   obtain rfl:=aq.1 h6
   refine yP (λid cZ=>uN (BS c6 rfl) hm (nA _ _ cZ)) λt ht=> ?_
   rw[BG,ht.ev hm]
   unfold vb
   simp only[hT,Qa]
   refine aA.2 ⟨h1,ak.2 ⟨l,?_,bF.2 ⟨h5,aq.2 rfl⟩⟩⟩
   rw[kM _ _ λid cZ=>ht.C6 (BS c6 rfl) hm cZ];exact h3
  ·simp only[aj]at he
 ·simp only[aj]at he
theorem Dl{T:TypeId}{parts:Array (Nat×Operand)}(c6:o.op= .build T parts){s':AS}(he:(sF P s o.dst T parts.toList).eval=some s'):vj P Γ bE ops o s s':=by
 have BG:∀t,lh P Γ bE o t=sF P t o.dst T parts.toList:=λt=>by unfold lh;rw[c6]
 have hm:∀x∈parts.toList,x.2∈o.op.operands.toList:=λx hx=>by rw[c6];exact Et hx
 unfold sF at he
 split at he
 ·rename_i fs hT
  split at he
  ·rename_i z hz
   obtain⟨h1,h2⟩:=aA.1 he
   obtain⟨v,h3,h4⟩:=ak.1 h2
   obtain rfl:=aq.1 h4
   refine jy λt ht=> ?_
   rw[BG]
   unfold sF
   simp only[hT,hz]
   refine aA.2 ⟨h1,ak.2 ⟨v,?_,aq.2 rfl⟩⟩
   rw[sk _ _ λx hx=>ht.ev (hm x hx)];exact h3
  ·simp only[aj]at he
 ·rename_i n e hT
  split at he
  ·rename_i ty Qa
   obtain⟨h1,h2⟩:=aA.1 he
   obtain⟨r,h3,h4⟩:=ak.1 h2
   obtain rfl:=aq.1 h4
   refine yP (λid cZ=> ?_) λt ht=> ?_
   ·obtain⟨x,hx,hi⟩:=oH _ _ _ h3 id cZ
    exact uN (BS c6 rfl) (hm x hx) hi
   ·rw[BG]
    unfold sF
    simp only[hT,Qa]
    refine aA.2 ⟨h1,ak.2 ⟨r,?_,aq.2 rfl⟩⟩
    rw[pY _ _ λx hx=>⟨ht.ev (hm x hx),λid cZ=>ht.C6 (BS c6 rfl) (hm x hx) cZ⟩];exact h3
  ·simp only[aj]at he
 ·simp only[aj]at he
theorem wS{T:TypeId}{n:Nat}{parts:Array (Nat×Operand)}(c6:o.op= .buildSlice T n parts){s':AS}(he:(jR P s (H5 bE o.dst) (isObj bE o.dst) o.dst T n parts.toList).eval=some s'):vj P Γ bE ops o s s':=by
 have BG:∀t,lh P Γ bE o t=jR P t (H5 bE o.dst) (isObj bE o.dst) o.dst T n parts.toList:=λt=>by unfold lh;rw[c6]
 have hm:∀x∈parts.toList,x.2∈o.op.operands.toList:=λx hx=>by rw[c6];exact Et hx
 unfold jR at he
 split at he
 ·rename_i e ty b q tO hd
  obtain⟨h1,h2⟩:=aA.1 he
  obtain⟨r,h3,h4⟩:=ak.1 h2
  have JK:∀id∈r.2,id∈(fL Γ ops s o).rs:=λid cZ=>by
   obtain⟨x,hx,hi⟩:=oH _ _ _ h3 id cZ
   exact uN (BS c6 rfl) (hm x hx) hi
  have PF:∀t,jN (fL Γ ops s o) s t->∀l,im ty t parts.toList l=im ty s parts.toList l:=λt ht l=>pY _ _ λx hx=>⟨ht.ev (hm x hx),λid cZ=>ht.C6 (BS c6 rfl) (hm x hx) cZ⟩
  split at h4
  ·rename_i ho
   obtain⟨h5,h6⟩:=aA.1 h4
   obtain rfl:=aq.1 h6
   refine pR hd h5 JK λt ht hv=> ?_
   rw[BG]
   unfold jR
   simp only[hd]at ho tO ⊢
   simp only[tO,ho]
   refine aA.2 ⟨h1,ak.2 ⟨r,by rw[PF t ht];exact h3,aA.2 ⟨hv,aq.2 rfl⟩⟩⟩
  ·rename_i ho
   obtain rfl:=aq.1 h4
   refine yP JK λt ht=> ?_
   rw[BG]
   unfold jR
   simp only[hd]at ho tO ⊢
   simp only[tO,ho]
   exact aA.2 ⟨h1,ak.2 ⟨r,by rw[PF t ht];exact h3,aq.2 rfl⟩⟩
 ·simp only[aj]at he
theorem yC{T:TypeId}{x y:Operand}(c6:o.op= .makeSlice T x y){len cap:Int}(hx:(asInt (s.ev x)).eval=some len)(hy:(asInt (s.ev y)).eval=some cap){s':AS}(he:(l8 P s o.dst T len cap).eval=some s'):vj P Γ bE ops o s s':=by
 have BG:∀t,lh P Γ bE o t=(asInt (t.ev x)).bind λl=>(asInt (t.ev y)).bind λc=>l8 P t o.dst T l c:=λt=>by unfold lh;rw[c6]
 have hm:∀z,z=x\/z=y->z∈o.op.operands.toList:=λz hz=>by rw[c6];simpa[Op.operands]using hz
 unfold l8 at he
 split at he
 ·rename_i e ty b q tO hd
  obtain⟨h1,h2⟩:=aA.1 he
  obtain⟨h3,h4⟩:=bF.1 h2
  obtain rfl:=aq.1 h4
  refine pR (ids:=[]) hd h1 (λ_ h=>by cases h) λt ht hv=> ?_
  rw[BG,ht.ev (hm x (.inl rfl)),ht.ev (hm y (.inr rfl))]
  refine ak.2 ⟨len,hx,ak.2 ⟨cap,hy,?_⟩⟩
  unfold l8
  simp only[tO,hd]
  exact aA.2 ⟨hv,bF.2 ⟨h3,aq.2 rfl⟩⟩
 ·simp only[aj]at he
theorem CJ{id:Id}{ver:Nat}{kt vt:Ty}(h:pk (t.bT id) (s.bT id)):t.mH id ver kt vt=s.mH id ver kt vt:=by
 unfold AS.mH
 rcases wy h with⟨h1,h2⟩ | ⟨v,f,f',c,h1,h2⟩
 ·rw[h1,h2]
 ·rw[h1,h2]
  cases c <;> rfl
theorem AU{T:TypeId}{m k:aw}{ok:Bool}(h:∀id∈m.ids,pk (t.bT id) (s.bT id)):rF P t T m k ok=rF P s T m k ok:=by
 unfold rF
 split
 ·rename_i id ver hm
  rw[CJ (h id (by simp[aw.ids]))]
 ·rfl
theorem BL{id:Id}{ver:Nat}{kt vt:Ty}{l:List (kt.den×vt.den)}(h:(s.mH id ver kt vt).eval=some l):∃e,s.bT id=some e:=by
 unfold AS.mH at h
 split at h
 ·rename_i v fr k' v' l' ju
  exact⟨_,dG ju⟩
 ·simp only[aj]at h
theorem xW{id:Id}{ver:Nat}{kt vt:Ty}(h:t.bT id=s.bT id):t.mH id ver kt vt=s.mH id ver kt vt:=by
 unfold AS.mH AS.obj
 rw[h]
theorem ui{id:Id}(h:t.bT id=s.bT id):t.mP id=s.mP id:=by
 unfold AS.mP AS.obj
 rw[h]
theorem AX{T:TypeId}{m k v:aw}{s':AS}(h:(rJ P s T m k v).eval=some s'):
  ∃id e0 e,m.ids=[id]/\s.bT id=some e0/\s'=s.aL id e/\∀t:AS,t.bT id=s.bT id->(rJ P t T m k v).eval=some (t.aL id e):=by
 unfold rJ at h
 split at h
 ·rename_i K V kt vt id ver hm
  obtain⟨l,h1,h⟩:=ak.1 h
  obtain⟨kx,h2,h⟩:=ak.1 h
  obtain⟨vx,h3,h⟩:=ak.1 h
  obtain⟨hu,h⟩:=aA.1 h
  obtain rfl:=aq.1 h
  obtain⟨e0,C3⟩:=BL h1
  refine⟨id,e0,_,rfl,C3,rfl,λt ht=> ?_⟩
  unfold rJ
  simp only[hm]
  exact ak.2 ⟨l,by rw[xW ht];exact h1,ak.2 ⟨kx,h2,ak.2 ⟨vx,h3,aA.2 ⟨by rw[ui ht];exact hu,aq.2 rfl⟩⟩⟩⟩
 ·simp only[aj]at h
theorem AW{T:TypeId}{m k:aw}{s':AS}(h:(rI P s T m k).eval=some s'):
  ∃id e0 e,m.ids=[id]/\s.bT id=some e0/\s'=s.aL id e/\∀t:AS,t.bT id=s.bT id->(rI P t T m k).eval=some (t.aL id e):=by
 unfold rI at h
 split at h
 ·rename_i K V kt vt id ver hm
  obtain⟨l,h1,h⟩:=ak.1 h
  obtain⟨kx,h2,h⟩:=ak.1 h
  obtain⟨hu,h⟩:=aA.1 h
  obtain rfl:=aq.1 h
  obtain⟨e0,C3⟩:=BL h1
  refine⟨id,e0,_,rfl,C3,rfl,λt ht=> ?_⟩
  unfold rI
  simp only[hm]
  exact ak.2 ⟨l,by rw[xW ht];exact h1,ak.2 ⟨kx,h2,aA.2 ⟨by rw[ui ht];exact hu,aq.2 rfl⟩⟩⟩
 ·simp only[aj]at h
theorem Bi{s':AS}(he:(lh P Γ bE o s).eval=some s'):vj P Γ bE ops o s s':=by
 have C3:=he
 have one:∀x,o.op.operands= #[x]->∀t,jN (fL Γ ops s o) s t->t.ev x=s.ev x/\(BO o.op=false->∀id∈(s.ev x).ids,pk (t.bT id) (s.bT id)):=λx hx t ht=>
  have hm:x∈o.op.operands.toList:=by rw[hx];simp
  ⟨ht.ev hm,λhn _ cZ=>ht.C6 hn hm cZ⟩
 unfold lh at he
 split at he
 ·rename_i x c6
  obtain rfl:=aq.1 he
  refine jy λt ht=> ?_
  unfold lh
  rw[c6]
  simp only
  rw[(one x (by rw[c6];rfl) t ht).1];rfl
 ·rename_i x c6
  obtain rfl:=aq.1 he
  refine jy λt ht=> ?_
  unfold lh
  rw[c6]
  simp only
  rw[(one x (by rw[c6];rfl) t ht).1];rfl
 ·rename_i c x y c6
  refine ku (F:=λt=>Hg (t.ev c) (t.ev x) (t.ev y)) (λt=>by unfold lh;rw[c6]) (λt ht=> ?_) C3
  rw[ht.ev (by rw[c6];simp[Op.operands]),ht.ev (by rw[c6];simp[Op.operands]),ht.ev (by rw[c6];simp[Op.operands])]
 ·rename_i T c6
  split at he
  ·rename_i z q hz hq
   obtain⟨h1,h2⟩:=aA.1 he
   obtain rfl:=aq.1 h2
   simp only[ah]at h1
   refine pR (ids:=[]) hq h1.1 (λ_ h=>by cases h) λt ht hv=> ?_
   unfold lh
   rw[c6]
   simp only[hz,hq]
   exact aA.2 ⟨by simp[hv,h1.2],aq.2 rfl⟩
  ·exact(aj.1 he).elim
 ·rename_i T x c6
  exact Hz c6 he
 ·rename_i T parts c6
  exact Dl c6 he
 ·rename_i T n parts c6
  exact wS c6 he
 ·rename_i T x c6
  refine ku (F:=λt=>vN P t T (t.ev x)) (λt=>by unfold lh;rw[c6]) (λt ht=> ?_) C3
  obtain⟨h1,h2⟩:=one x (by rw[c6];rfl) t ht
  rw[h1,Ea (h2 (BS c6 rfl))]
 ·rename_i T x v c6
  obtain⟨s1,h1,h2⟩:=ak.1 he
  obtain rfl:=aq.1 h2
  obtain⟨id,e0,e,cZ,hs,rfl,hl⟩:=CU h1
  refine rD hs ?_ λt ht HY=> ?_
  ·show id∈writes Γ s o
   unfold writes
   rw[c6]
   simp only[cZ,bO]
  ·unfold lh
   rw[c6]
   simp only
   rw[ht.ev (x:=x) (by rw[c6];simp[Op.operands]),ht.ev (x:=v) (by rw[c6];simp[Op.operands])]
   exact ak.2 ⟨_,hl t HY,aq.2 rfl⟩
 ·rename_i x c6
  split at he
  ·rename_i id v p n hx
   obtain rfl:=aq.1 he
   refine jy λt ht=> ?_
   unfold lh
   rw[c6]
   simp only[(one x (by rw[c6];rfl) t ht).1,hx];rfl
  ·rename_i ty y hx
   obtain rfl:=aq.1 he
   refine jy λt ht=> ?_
   unfold lh
   rw[c6]
   simp only[(one x (by rw[c6];rfl) t ht).1,hx];rfl
  ·rename_i ty y hx
   obtain⟨z,e,he⟩:=nS.1 he
   obtain rfl:=aq.1 he
   refine jy λt ht=> ?_
   unfold lh
   rw[c6]
   simp only[(one x (by rw[c6];rfl) t ht).1,hx]
   exact nS.2 ⟨z,e,aq.2 rfl⟩
  ·rename_i f c hx
   obtain rfl:=aq.1 he
   refine jy λt ht=> ?_
   unfold lh
   rw[c6]
   simp only[(one x (by rw[c6];rfl) t ht).1,hx];rfl
  ·exact(aj.1 he).elim
 ·rename_i op T x y U c6
  have JI:x∈o.op.operands.toList:=by rw[c6];simp[Op.operands]
  have OR:y∈o.op.operands.toList:=by rw[c6];simp[Op.operands]
  split at he
  ·rename_i i v1 j v2 hx hy
   obtain⟨v,h1,h2⟩:=ak.1 he
   obtain rfl:=aq.1 h2
   refine jy λt ht=> ?_
   unfold lh
   rw[c6]
   simp only[ht.ev JI,ht.ev OR,hx,hy]
   exact ak.2 ⟨v,by rw[HI (ht.C6 (BS c6 rfl) JI (by rw[hx];simp[aw.ids]))];exact h1,rfl⟩
  ·rename_i gS
   obtain⟨v,h1,h2⟩:=ak.1 he
   obtain rfl:=aq.1 h2
   refine jy λt ht=> ?_
   unfold lh
   rw[c6]
   simp only[ht.ev JI,ht.ev OR]
   exact ak.2 ⟨v,h1,rfl⟩
 ·rename_i op T x c6
  refine ku (F:=λt=>Q0 op (t.ev x)) (λt=>by unfold lh;rw[c6]) (λt ht=> ?_) C3
  rw[(one x (by rw[c6];rfl) t ht).1]
 ·rename_i T U x c6
  split at he
  ·rename_i id ver len hTU hx
   unfold Dv at he
   split at he
   ·rename_i v e0 l e ju hD
    split at he
    ·rename_i hE
     obtain⟨h1,h2⟩:=aA.1 he
     obtain⟨h3,h4⟩:=bF.1 h2
     obtain rfl:=aq.1 h4
     refine rD (dG ju) ?_ λt ht HY=> ?_
     ·show id∈writes Γ s o
      unfold writes
      rw[c6]
      simp only[hTU,hx]
      simp[aw.ids]
     ·have hob':t.obj id=some (v,false,.vec e0 (.int .u8) l):=by simp only[AS.obj,HY];exact ju
      unfold lh
      rw[c6]
      simp only[hTU,(one x (by rw[c6];rfl) t ht).1,hx]
      unfold Dv
      simp only[hob',hD,hE]
      exact aA.2 ⟨h1,bF.2 ⟨h3,aq.2 rfl⟩⟩
    ·exact(aj.1 he).elim
   ·exact(aj.1 he).elim
  ·rename_i id ver hx
   obtain⟨v,h1,h2⟩:=ak.1 he
   obtain rfl:=aq.1 h2
   refine jy λt ht=> ?_
   obtain⟨h3,h4⟩:=one x (by rw[c6];rfl) t ht
   unfold lh
   rw[c6]
   simp only[h3,hx]
   exact ak.2 ⟨v,by rw[Dw (h4 (BS c6 rfl) _ (by rw[hx];simp[aw.ids]))];exact h1,rfl⟩
  ·rename_i gS
   obtain⟨v,h1,h2⟩:=ak.1 he
   obtain rfl:=aq.1 h2
   refine jy λt ht=> ?_
   obtain⟨h3,h4⟩:=one x (by rw[c6];rfl) t ht
   unfold lh
   rw[c6]
   simp only[h3]
   exact ak.2 ⟨v,by rw[Du (h4 (BS c6 rfl))];exact h1,rfl⟩
 ·rename_i T x c6
  exact EW c6 he
 ·rename_i f first caps c6
  obtain⟨h1,h2⟩:=aA.1 he
  obtain rfl:=aq.1 h2
  refine jy λt ht=> ?_
  have hc:lT t caps.toList=lT s caps.toList:=vp _ λx hx=>ht.ev (by rw[c6];simp only[Op.operands,bK];exact bp.2 (.inr hx))
  unfold lh
  rw[c6]
  simp only[hc]
  exact aA.2 ⟨h1,aq.2 rfl⟩
 ·rename_i T l c c6
  obtain⟨n,h1,h2⟩:=ak.1 he
  obtain⟨m,h3,h4⟩:=ak.1 h2
  exact yC c6 h1 h3 h4
 ·rename_i T x lo hi c6
  refine ku (F:=λt=>tc P t T (t.ev x) lo hi) (λt=>by unfold lh;rw[c6]) (λt ht=> ?_) C3
  have hm:∀z,(z=x\/lo=some z\/hi=some z)->z∈o.op.operands.toList:=λz hz=>by
   rw[c6]
   simp only[Op.operands,bK,bp]
   rcases hz with rfl | rfl | rfl
   ·left;left;left;simp
   ·left;left;right;simp
   ·left;right;simp
  have hx:=hm x (.inl rfl)
  rw[ht.ev hx]
  exact wB (λid cZ=>ht.C6 (BS c6 rfl) hx cZ) (λy hy=>ht.ev (hm y (.inr (.inl hy)))) (λy hy=>ht.ev (hm y (.inr (.inr hy))))
 ·rename_i T x lo y m c6
  refine ku (F:=λt=>wA P t T (t.ev x) lo y m) (λt=>by unfold lh;rw[c6]) (λt ht=> ?_) C3
  have hm:∀z,(z=x\/lo=some z\/y=z\/m=z)->z∈o.op.operands.toList:=λz hz=>by
   rw[c6]
   simp only[Op.operands,bK,bp]
   rcases hz with rfl | rfl | rfl | rfl
   ·left;left;left;simp
   ·left;left;right;simp
   ·left;right;simp
   ·right;simp
  have hx:=hm x (.inl rfl)
  rw[ht.ev hx]
  exact A9 (λid cZ=>ht.C6 (BS c6 rfl) hx cZ) (λz hz=>ht.ev (hm z (.inr (.inl hz)))) (ht.ev (hm y (.inr (.inr (.inl rfl))))) (ht.ev (hm m (.inr (.inr (.inr rfl)))))
 ·rename_i T x f c6
  refine ku (F:=λt=>rA P T (t.ev x) f) (λt=>by unfold lh;rw[c6]) (λt ht=> ?_) C3
  rw[(one x (by rw[c6];rfl) t ht).1]
 ·rename_i T x f c6
  refine ku (F:=λt=>Cr P T (t.ev x) f) (λt=>by unfold lh;rw[c6]) (λt ht=> ?_) C3
  rw[(one x (by rw[c6];rfl) t ht).1]
 ·rename_i T x i c6
  refine ku (F:=λt=>(asInt (t.ev i)).bind λi=>lZ P t T (t.ev x) i) (λt=>by unfold lh;rw[c6,Out.bind_assoc]) (λt ht=> ?_) C3
  have hx:x∈o.op.operands.toList:=by rw[c6];simp[Op.operands]
  rw[ht.ev (x:=i) (by rw[c6];simp[Op.operands]),ht.ev hx]
  congr 1
  funext i
  exact xd λid cZ=>ht.C6 (BS c6 rfl) hx cZ
 ·rename_i T x i c6
  refine ku (F:=λt=>(asInt (t.ev i)).bind λi=>CC P T (t.ev x) i) (λt=>by unfold lh;rw[c6,Out.bind_assoc]) (λt ht=> ?_) C3
  rw[ht.ev (x:=i) (by rw[c6];simp[Op.operands]),ht.ev (x:=x) (by rw[c6];simp[Op.operands])]
 ·rename_i x i c6
  refine ku (F:=λt=>Out.opt ((t.ev x).list[i]?)) (λt=>by unfold lh;rw[c6]) (λt ht=> ?_) C3
  rw[(one x (by rw[c6];rfl) t ht).1]
 ·rename_i T c6
  have vF:=he
  unfold sQ at vF
  split at vF
  ·rename_i K V kt vt q hm hd
   obtain⟨h1,h2⟩:=aA.1 vF
   obtain rfl:=aq.1 h2
   refine pR (ids:=[]) hd h1 (λ_ h=>by cases h) λt ht hv=> ?_
   unfold lh
   rw[c6]
   simp only
   unfold sQ
   simp only[hm,hd]
   exact aA.2 ⟨hv,aq.2 rfl⟩
  ·exact(aj.1 vF).elim
 ·rename_i T x i ok c6
  refine ku (F:=λt=>rF P t T (t.ev x) (t.ev i) ok) (λt=>by unfold lh;rw[c6]) (λt ht=> ?_) C3
  have hx:x∈o.op.operands.toList:=by rw[c6];simp[Op.operands]
  rw[ht.ev (x:=i) (by rw[c6];simp[Op.operands]),ht.ev hx]
  exact AU λid cZ=>ht.C6 (BS c6 rfl) hx cZ
 ·rename_i T m k x c6
  obtain⟨s1,h1,h2⟩:=ak.1 he
  obtain rfl:=aq.1 h2
  obtain⟨id,e0,e,cZ,hs,rfl,hl⟩:=AX h1
  refine rD hs ?_ λt ht HY=> ?_
  ·show id∈writes Γ s o
   unfold writes
   rw[c6]
   simp only[cZ,bO]
  ·unfold lh
   rw[c6]
   simp only
   rw[ht.ev (x:=m) (by rw[c6];simp[Op.operands]),ht.ev (x:=k) (by rw[c6];simp[Op.operands]),ht.ev (x:=x) (by rw[c6];simp[Op.operands])]
   exact ak.2 ⟨_,hl t HY,aq.2 rfl⟩
 ·rename_i c c6
  obtain⟨cal,args,tys⟩:=c
  simp only at he
  split at he
  ·split at he
   ·rename_i m k T T2 ha ht'
    have OQ:m∈o.op.operands.toList:=by rw[c6];simp only[Op.operands,Call.operands,bh,bK,ha];simp
    have RW:k∈o.op.operands.toList:=by rw[c6];simp only[Op.operands,Call.operands,bh,bK,ha];simp
    obtain⟨s1,h1,h2⟩:=ak.1 he
    obtain rfl:=aq.1 h2
    obtain⟨id,e0,e,cZ,hs,rfl,hl⟩:=AW h1
    refine rD hs ?_ λt ht HY=> ?_
    ·show id∈writes Γ s o
     unfold writes
     rw[c6]
     simp only[ha,cZ,bO]
    ·unfold lh
     rw[c6]
     simp only[ha,ht']
     rw[ht.ev OQ,ht.ev RW]
     exact ak.2 ⟨_,hl t HY,aq.2 rfl⟩
   ·exact(aj.1 he).elim
  ·split at he
   ·rename_i x y T X ha ht'
    exact Fx c6 rfl ha ht' he
   ·exact(aj.1 he).elim
  ·split at he
   ·rename_i x T ha ht'
    refine ku (F:=λt=>LD P T (t.ev x)) (λt=>by unfold lh;rw[c6];simp only[ha,ht']) (λt ht=> ?_) C3
    rw[ht.ev (by rw[c6];simp only[Op.operands,Call.operands,bh,bK,ha];simp)]
   ·exact(aj.1 he).elim
  ·split at he
   ·rename_i x y T X ha ht'
    have JI:x∈o.op.operands.toList:=by rw[c6];simp only[Op.operands,Call.operands,bh,bK,ha];simp
    have OR:y∈o.op.operands.toList:=by rw[c6];simp only[Op.operands,Call.operands,bh,bK,ha];simp
    split at he
    ·rename_i k n hx hy
     have vF:=he
     unfold DQ at vF
     split at vF
     ·rename_i e t0 b q kn tO hd hX
      obtain⟨h1,h2⟩:=aA.1 vF
      obtain⟨h3,h4⟩:=bF.1 h2
      obtain rfl:=aq.1 h4
      refine pR (ids:=[]) hd h1 (λ_ h=>by cases h) λt ht hv=> ?_
      unfold lh
      rw[c6]
      simp only[ha,ht',ht.ev JI,ht.ev OR,hx,hy]
      unfold DQ
      simp only[tO,hd,hX]
      exact aA.2 ⟨hv,bF.2 ⟨h3,aq.2 rfl⟩⟩
     ·exact(aj.1 vF).elim
    ·rename_i gS
     exact Ch c6 rfl ha ht' gS he
   ·exact(aj.1 he).elim
  ·split at he
   ·rename_i x T ha ht'
    have JI:x∈o.op.operands.toList:=by rw[c6];simp only[Op.operands,Call.operands,bh,bK,ha];simp
    split at he
    ·rename_i e hx hT
     obtain rfl:=aq.1 he
     refine jy λt ht=> ?_
     unfold lh
     rw[c6]
     simp only[ha,ht',ht.ev JI,hx,hT];rfl
    ·exact(aj.1 he).elim
   ·exact(aj.1 he).elim
  ·refine ku (F:=λt=>Ib true (args.toList.map t.ev)) (λt=>by unfold lh;rw[c6]) (λt ht=> ?_) C3
   congr 1
   exact ga λx hx=>ht.ev (by rw[c6];simp only[Op.operands,Call.operands,bh,bK];exact hx)
  ·refine ku (F:=λt=>Ib false (args.toList.map t.ev)) (λt=>by unfold lh;rw[c6]) (λt ht=> ?_) C3
   congr 1
   exact ga λx hx=>ht.ev (by rw[c6];simp only[Op.operands,Call.operands,bh,bK];exact hx)
  ·split at he
   ·rename_i x ha
    have JI:x∈o.op.operands.toList:=by rw[c6];simp only[Op.operands,Call.operands,bh,bK,ha];simp
    split at he
    ·rename_i id ver len hx
     obtain⟨h1,h2⟩:=bF.1 he
     obtain rfl:=aq.1 h2
     refine jy λt ht=> ?_
     unfold lh
     rw[c6]
     simp only[ha,ht.ev JI,hx]
     exact bF.2 ⟨h1,rfl⟩
    ·exact(aj.1 he).elim
   ·exact(aj.1 he).elim
  ·split at he
   ·rename_i x y T U ha ht'
    have JI:x∈o.op.operands.toList:=by rw[c6];simp only[Op.operands,Call.operands,bh,bK,ha];simp
    have OR:y∈o.op.operands.toList:=by rw[c6];simp only[Op.operands,Call.operands,bh,bK,ha];simp
    split at he
    ·rename_i id ver n hx hy
     have vF:=he
     unfold EU at vF
     split at vF
     ·rename_i v e l u ju hT
      obtain⟨h1,h2⟩:=aA.1 vF
      obtain⟨h3,h4⟩:=bF.1 h2
      obtain rfl:=aq.1 h4
      refine rD (dG ju) ?_ λt ht HY=> ?_
      ·show id∈writes Γ s o
       unfold writes
       rw[c6]
       simp only[ha,hx]
       simp[aw.ids]
      ·have hob':t.obj id=some (v,false,.vec e (.int .u8) l):=by simp only[AS.obj,HY];exact ju
       unfold lh
       rw[c6]
       simp only[ha,ht',ht.ev JI,ht.ev OR,hx,hy]
       unfold EU
       simp only[hob',hT]
       exact aA.2 ⟨h1,bF.2 ⟨h3,aq.2 rfl⟩⟩
     ·exact(aj.1 vF).elim
    ·exact(aj.1 he).elim
   ·exact(aj.1 he).elim
  ·rename_i F _
   split at he
   ·rename_i f caps hF
    split at he
    ·rename_i en IZ
     obtain⟨gV,he⟩:=aA.1 he
     exact Fp c6 rfl hF IZ gV he
    ·exact(aj.1 he).elim
   ·exact(aj.1 he).elim
  ·exact(aj.1 he).elim
 ·exact(aj.1 he).elim
end
end Go.Ab
namespace Go.Ab
section
variable {P:Program} {Γ:ov} {bE:List Nat} {ops:Array Oper} {o:Oper} {s t:AS}
def Loc(P:Program)(Γ:ov)(bE:List Nat)(ops:Array Oper)(o:Oper)(s s':AS):Prop:=
 ∃E,App o.dst E s s'/\Ce (fL Γ ops s o) s E/\∀t,jN (fL Γ ops s o) s t->∃t',tN P Γ bE ops o t=some t'/\App o.dst E t t'
theorem zk{s':AS}(he:tN P Γ bE ops o s=some s'):Loc P Γ bE ops o s s':=by
 unfold tN at he
 split at he
 ·rename_i hg
  obtain⟨E,h1,h2,h3⟩:=Bi (ops:=ops) he
  refine⟨E,h1,h2,λt ht=> ?_⟩
  obtain⟨t',h4,h5⟩:=h3 t ht
  exact⟨t',by unfold tN;simp only[hg];exact h4,h5⟩
 ·rename_i j want hg
  split at he
  ·rename_i q hq
   split at he
   ·rename_i b hb
    have I2:∀t,jN (fL Γ ops s o) s t->t.slot q= .d .bool b:=λt ht=>by
     rw[ht.b8 q (bp.2 (.inr (by unfold w7;simp only[hg,hq];simp)))];exact hb
    by_cases e:b=want
    ·rw[if_pos e]at he
     obtain⟨E,h1,h2,h3⟩:=Bi (ops:=ops) he
     refine⟨E,h1,h2,λt ht=> ?_⟩
     obtain⟨t',h4,h5⟩:=h3 t ht
     exact⟨t',by unfold tN;simp only[hg,hq,I2 t ht,if_pos e];exact h4,h5⟩
    ·rw[if_neg e]at he
     simp only[au]at he
     subst he
     exact⟨⟨.nil,λ_=>none,[]⟩,App.tz _ _ _,⟨λ_ _ h=>by simp at h,λ_ h=>by simp at h⟩,λt ht=>⟨_,by unfold tN;simp only[hg,hq,I2 t ht,if_neg e],App.tz _ _ _⟩⟩
   ·rename_i hb
    have I2:∀t,jN (fL Γ ops s o) s t->t.slot q= .nil:=λt ht=>by
     rw[ht.b8 q (bp.2 (.inr (by unfold w7;simp only[hg,hq];simp)))];exact hb
    simp only[au]at he
    subst he
    exact⟨⟨.nil,λ_=>none,[]⟩,App.tz _ _ _,⟨λ_ _ h=>by simp at h,λ_ h=>by simp at h⟩,λt ht=>⟨_,by unfold tN;simp only[hg,hq,I2 t ht],App.tz _ _ _⟩⟩
   ·cases he
  ·cases he
theorem C0(h:jN (fL Γ ops s o) s t):writes Γ t o=writes Γ s o:=by
 have KU:∀id∈writes Γ s o,t.bT id=s.bT id:=h.ws
 unfold writes at KU ⊢
 split
 ·rename_i x v c6
  rw[h.ev (by rw[c6];simp[Op.operands])]
 ·rename_i m k v c6
  rw[h.ev (by rw[c6];simp[Op.operands])]
 ·rename_i T U x c6
  rw[h.ev (by rw[c6];simp[Op.operands])]
 ·rename_i c c6
  obtain⟨cal,args,tys⟩:=c
  simp only[c6]at KU
  simp only
  split
  ·split
   ·rename_i x l ha
    rw[h.ev (by rw[c6];simp only[Op.operands,Call.operands,bh,bK,ha];simp)]
   ·rfl
  ·split
   ·rename_i x l ha
    rw[h.ev (by rw[c6];simp only[Op.operands,Call.operands,bh,bK,ha];simp)]
   ·rfl
  ·split
   ·rename_i x l ha
    rw[h.ev (by rw[c6];simp only[Op.operands,Call.operands,bh,bK,ha];simp)]
   ·rfl
  ·split
   ·rename_i x l ha
    rw[h.ev (by rw[c6];simp only[Op.operands,Call.operands,bh,bK,ha];simp)]
   ·rfl
  ·rename_i F
   simp only at KU
   have hm:∀z,z=F\/z∈args.toList->z∈o.op.operands.toList:=λz hz=>by
    rw[c6]
    simp only[Op.operands,Call.operands,bK,bp]
    rcases hz with rfl | hz
    ·exact .inl (by simp)
    ·exact .inr hz
   have h1:t.ev F=s.ev F:=h.ev (hm F (.inl rfl))
   have h2:args.toList.map t.ev=args.toList.map s.ev:=ga λx hx=>h.ev (hm x (.inr hx))
   rw[h1]
   split
   ·rename_i f caps hF
    simp only[hF]at KU
    rw[h2]
    split
    ·rename_i en IZ
     simp only[IZ]at KU
     exact od _ _ _ λid cZ=>by rw[KU id cZ]
    ·rfl
   ·rfl
  ·rfl
 ·rfl
theorem zg(h:jN (fL Γ ops s o) s t):fL Γ ops t o=fL Γ ops s o:=by
 have h1:=C0 h
 have h2:Ep t o=Ep s o:=by
  unfold Ep
  split
  ·rfl
  unfold List.flatMap
  congr 1
  exact ga λi hi=>by rw[h.b8 i (bp.2 (.inl hi))]
 unfold fL
 rw[h1,h2]
theorem nW{xs ys:List Id}(h:meets xs ys=false){id:Id}(hx:id∈xs):id ∉ ys:=by
 intro hy
 have:meets xs ys=true:=by
  unfold meets
  exact kN.2 ⟨id,hx,kN.2 ⟨id,hy,by simp⟩⟩
 rw[h]at this;cases this
theorem mN{d:Option Tmp}{ids:List Id}(h:Aj d ids=false){q:Nat}(hd:d=some q)(j:Nat):Id.new q j ∉ ids:=by
 intro hy
 have:Aj d ids=true:=by
  subst hd
  exact kN.2 ⟨_,hy,by simp⟩
 rw[h]at this;cases this
theorem tw{f g:sA}(h:f.PS g=false){q:Nat}(hd:f.dst=some q):q ∉ g.b8/\g.dst≠some q:=by
 unfold sA.PS at h
 rw[hd]at h
 simp only[Bool.or_eq_false_iff,jc,decide_eq_true_eq,decide_eq_false_iff_not]at h
 exact⟨λhx=>h.1 q hx rfl,h.2⟩
theorem EL(s:AS)(d:Option Tmp)(v:aw)(i:Nat)(h:d≠some i):(s.put d v).slot i=s.slot i:=by
 cases d with
 |none=>rfl
 |some q=>rw[Al,if_neg];rintro⟨rfl,_⟩;exact h rfl
theorem App.slot{d:Option Tmp}{E:OD}{s s':AS}(h:App d E s s')(i:Nat)(hi:d≠some i):s'.slot i=s.slot i:=by
 rw[<-EL s d E.v i hi]
 simp only[AS.slot,h.b8]
theorem Da{f f':sA}{E:OD}{s s1:AS}(ha:App f.dst E s s1)(hw:Ce f s E)(Se:∀id∈f'.ws,id∈f'.rs)(h1:f.PS f'=false)(h2:meets f.ws f'.rs=false)(h3:meets f'.ws f.rs=false)
  (h4:Aj f.dst f'.rs=false):(∀i∈f'.b8,s1.slot i=s.slot i)/\(∀id∈f'.ws,s1.bT id=s.bT id)/\(∀id∈f'.rs,pk (s1.bT id) (s.bT id))/\∀q,f'.dst=some q->s1.dB q=s.dB q:=by
 have yz:∀id∈f'.rs,E.up id=none:=λid cZ=>by
  cases hu:E.up id with
  |none=>rfl
  |some e=>
   rcases hw.up id e hu with⟨h,_⟩ | ⟨q,j,hd,rfl⟩
   ·exact absurd cZ (nW h2 h)
   ·exact absurd cZ (mN h4 hd j)
 refine⟨λi hi=>ha.slot i λhd=>(tw h1 hd).1 hi,λid cZ=> ?_,λid cZ=> ?_,λq hq=> ?_⟩
 ·rw[ha.bT,yz id (Se id cZ)]
  have:id ∉ E.fz:=λhz=>nW h3 cZ (hw.fz id hz)
  simp only[if_neg this]
 ·rw[ha.bT,yz id cZ]
  simp only
  split
  ·exact ID _
  ·exact IE _
 ·have gS:∀j,(s1.bT (.new q j)=none↔s.bT (.new q j)=none):=λj=>by
   rw[ha.bT]
   cases hu:E.up (.new q j) with
   |none=>
    simp only
    split <;> simp
   |some e=>
    rcases hw.up _ e hu with⟨_,h⟩ | ⟨q',j',hd,he⟩
    ·simp[h]
    ·simp only[Id.new.injEq]at he
     obtain⟨rfl,_⟩:=he
     exact absurd hq (tw h1 hd).2
  rw[Bool.eq_iff_iff,qf,qf,ha.len]
  exact and_congr Iff.rfl (forall_congr' gS)
theorem sM(s:AS)(o:Oper):∀id∈(fL Γ ops s o).ws,id∈(fL Γ ops s o).rs:=λ_ cZ=>bp.2 (.inr cZ)
theorem swap{o':Oper}{s1 s2:AS}(h1:tN P Γ bE ops o s=some s1)(h2:tN P Γ bE ops o' s1=some s2)(hi:(fL Γ ops s o).indep (fL Γ ops s1 o')=true):
  ∃t1,tN P Γ bE ops o' s=some t1/\tN P Γ bE ops o t1=some s2/\fL Γ ops s o'=fL Γ ops s1 o'/\fL Γ ops t1 o=fL Γ ops s o:=by
 unfold sA.indep at hi
 simp only[ah,bC]at hi
 obtain⟨⟨⟨⟨⟨i1,i2⟩,i3⟩,i4⟩,i5⟩,i6⟩:=hi
 obtain⟨E,a1,w1,l1⟩:=zk h1
 obtain⟨E',a2,w2,l2⟩:=zk h2
 obtain⟨g1,g2,g3,g4⟩:=Da (f:=fL Γ ops s o) (f':=fL Γ ops s1 o') a1 w1 (sM _ _) i1 i3 i4 i5
 have vh:jN (fL Γ ops s1 o') s1 s:=⟨λi hi=>(g1 i hi).symm,λid cZ=>(g2 id cZ).symm,λid cZ=>by
  have:=g3 id cZ
  revert this
  cases s1.bT id <;> cases s.bT id <;> simp only[pk] <;> intro h <;> first | trivial | exact h | skip
  rename_i a b
  cases a <;> cases b <;> simp_all [dv.C6],λq hq=>(g4 q hq).symm⟩
 obtain⟨t1,k1,k2⟩:=l2 s vh
 have hf':=zg vh
 have w2':Ce (fL Γ ops s1 o') s E':=⟨λid e hu=>by
  rcases w2.up id e hu with⟨h,hn⟩ | h
  ·exact .inl ⟨h,by rw[<-g2 id h];exact hn⟩
  ·exact .inr h,w2.fz⟩
 obtain⟨m1,m2,m3,m4⟩:=Da (f:=fL Γ ops s1 o') (f':=fL Γ ops s o) k2 w2' (sM _ _) i2 i4 i3 i6
 have Pv:jN (fL Γ ops s o) s t1:=⟨m1,m2,m3,m4⟩
 obtain⟨t2,k3,k4⟩:=l1 t1 Pv
 refine⟨t1,k1,?_,hf',zg Pv⟩
 rw[k3]
 congr 1
 have Qb:∀id e,E.up id=some e->E'.up id=none/\id ∉ E'.fz:=λid e hu=>by
  rcases w1.up id e hu with⟨h,hn⟩ | ⟨q,j,hd,rfl⟩
  ·refine⟨?_,λhz=>nW i3 h (w2.fz id hz)⟩
   cases hu':E'.up id with
   |none=>rfl
   |some e'=>
    rcases w2.up id e' hu' with⟨h',_⟩ | ⟨q,j,hd,rfl⟩
    ·exact absurd (sM _ _ id h') (nW i3 h)
    ·exact absurd (sM _ _ _ h) (mN i6 hd j)
  ·refine⟨?_,λhz=>mN i5 hd j (w2.fz _ hz)⟩
   cases hu':E'.up (.new q j) with
   |none=>rfl
   |some e'=>
    rcases w2.up _ e' hu' with⟨h',_⟩ | ⟨q',j',hd',he⟩
    ·exact absurd (sM _ _ _ h') (mN i5 hd j)
    ·simp only[Id.new.injEq]at he
     obtain⟨rfl,_⟩:=he
     exact absurd hd' (tw i1 hd).2
 have Sk:∀id e,E'.up id=some e->E.up id=none/\id ∉ E.fz:=λid e hu=>by
  have hn:E.up id=none:=by
   cases T8:E.up id with
   |none=>rfl
   |some e1=>rw[(Qb id e1 T8).1]at hu;cases hu
  refine⟨hn,λhz=> ?_⟩
  rcases w2.up id e hu with⟨h,_⟩ | ⟨q,j,hd,rfl⟩
  ·exact nW i4 h (w1.fz id hz)
  ·exact mN i6 hd j (w1.fz _ hz)
 refine AS.Jw ?_ (by rw[k4.len,k2.len,a2.len,a1.len]) λid=> ?_
 ·have e1:∀(u u':AS) (d:Option Tmp) (v:aw),u.b8=u'.b8->(u.put d v).b8=(u'.put d v).b8:=λu u' d v h=>by cases d <;> simp[AS.put,h]
  rw[k4.b8,a2.b8,e1 t1 (s.put o'.dst E'.v) _ _ k2.b8,e1 s1 (s.put o.dst E.v) _ _ a1.b8]
  cases hd:o.dst with
  |none=>cases o'.dst <;> rfl
  |some q=>
   cases hd':o'.dst with
   |none=>rfl
   |some q'=>
    have gS:q'≠q:=λe=>(tw (f:=fL Γ ops s o) i1 hd).2 (by show o'.dst=some q;rw[hd',e])
    simp only[AS.put]
    exact List.set_comm _ _ gS
 ·rw[k4.bT,k2.bT,a2.bT,a1.bT]
  cases hu:E.up id with
  |some e=>
   obtain⟨h3,h4⟩:=Qb id e hu
   simp only[h3,if_neg h4]
  |none=>
   simp only
   cases hu':E'.up id with
   |some e=>
    obtain⟨_,h4⟩:=Sk id e hu'
    simp only[if_neg h4]
   |none=>
    simp only
    by_cases z1:id∈E.fz <;> by_cases z2:id∈E'.fz <;> simp only[if_pos,if_neg,z1,z2,not_false_eq_true]
end
end Go.Ab
namespace Go.Ab
section
variable {P:Program} {Γ:ov} {bE:List Nat} {ops:Array Oper}
def C7(P:Program)(Γ:ov)(bE:List Nat)(ops:Array Oper)(fs:Nat->sA):List Nat->AS->AS->Prop
 |[],s,sn=>s=sn
 |i::l,s,sn=>∃o,ops[i]? =some o/\fL Γ ops s o=fs i/\∃s',tN P Γ bE ops o s=some s'/\C7 P Γ bE ops fs l s' sn
theorem C7.Jg{fs:Nat->sA}{i:Nat}{l2:List Nat}{sn:AS}:∀(l1:List Nat) {s:AS},C7 P Γ bE ops fs (l1++i::l2) s sn->(∀j∈l1,(fs j).indep (fs i)=true)->C7 P Γ bE ops fs (i::(l1++l2)) s sn
 |[],_,h,_=>h
 |j::l1,s,h,hi=>by
  obtain⟨oj,h1,h2,s1,h3,h4⟩:=h
  obtain⟨oi,h5,h6,s2,h7,h8⟩:=C7.Jg l1 h4 λj hj=>hi j (aH _ hj)
  have hd:=hi j (aK ..)
  rw[<-h2,<-h6]at hd
  obtain⟨t1,k1,k2,k3,k4⟩:=swap h3 h7 hd
  exact⟨oi,h5,by rw[k3,h6],t1,k1,oj,h1,by rw[k4,h2],s2,k2,h8⟩
theorem BE{R:Type}{anc:List Nat}{k:AS->Option R}{r:R}:∀(l:List Oper) (i:Nat) (acc:List (Nat×sA)) (s:AS) (f0:Nat->sA),(∀n o,l[n]? =some o->ops[i+n]? =some o)->(∀x∈acc,f0 x.1=x.2/\x.1 < i)->
  BD P Γ bE ops anc i l acc s k=some r->∃fs sn,(∀j,j < i->fs j=f0 j)/\C7 P Γ bE ops fs (List.range' i l.length) s sn/\k sn=some r/\
   (∀x∈acc,∀m,i<=m->m < i+l.length->(anc.getD m 0).testBit x.1=true\/x.2.indep (fs m)=true)/\(∀m1 m2,i<=m1->m1 < m2->m2 < i+l.length->(anc.getD m2 0).testBit m1=true\/(fs m1).indep (fs m2)=true)
 |[],i,acc,s,f0,_,_,h=>⟨f0,s,λ_ _=>rfl,rfl,h,λ_ _ m h1 h2=>by simp at h2;omega,λ_ _ h1 h2 h3=>by simp at h3;omega⟩
 |o::l,i,acc,s,f0,ho,hf,h=>by
  unfold BD at h
  split at h
  ·rename_i rC
   simp only[AS.wq]at h
   obtain⟨s',h1,h2⟩:=DP (k:=λs'=>BD P Γ bE ops anc (i+1) l ((i,fL Γ ops s o)::acc) s' k) h
   have Rs:∀x∈(i,fL Γ ops s o)::acc,(if x.1=i then fL Γ ops s o else f0 x.1)=x.2/\x.1 < i+1:=λx hx=>by
    rcases bY.1 hx with rfl | hx
    ·simp
    ·obtain⟨q1,q2⟩:=hf x hx
     rw[if_neg (by omega)]
     exact⟨q1,by omega⟩
   obtain⟨fs,sn,g1,g2,g3,g4,g5⟩:=BE l (i+1) ((i,fL Γ ops s o)::acc) s' (λn=>if n=i then fL Γ ops s o else f0 n)
    (λn o' hn=>by have:=ho (n+1) o' (by simpa using hn);rw[<-this];congr 1;omega) Rs h2
   have gi:fs i=fL Γ ops s o:=by rw[g1 i (by omega),if_pos rfl]
   refine⟨fs,sn,λj hj=>by rw[g1 j (by omega),if_neg (by omega)],?_,g3,λx hx m h3 h4=> ?_,λm1 m2 h3 h4 h5=> ?_⟩
   ·rw[aG,List.range'_succ]
    exact⟨o,ho 0 o rfl,gi.symm,s',h1,g2⟩
   ·rcases Nat.eq_or_lt_of_le h3 with rfl | h3
    ·have:=cY.1 rC x hx
     simp only[fD]at this
     rcases this with h | h
     ·exact .inl h
     ·right;rw[gi];exact h
    ·exact g4 x (aH _ hx) m (by omega) (by simp only[aG]at h4;omega)
   ·rcases Nat.eq_or_lt_of_le h3 with rfl | h3
    ·rw[gi]
     exact g4 (i,fL Γ ops s o) (aK ..) m2 (by omega) (by simp only[aG]at h5;omega)
    ·exact g5 m1 m2 (by omega) h4 (by simp only[aG]at h5;omega)
  ·cases h
theorem Dd{acc:List Nat}{j:Nat}:∀ {l:List Edge},(l.foldr (λe m=>Nat.lor (Nat.lor (Nat.pow 2 e.on) (acc.getD e.on 0)) m) 0).testBit j=true->∃e∈l,j=e.on\/(acc.getD e.on 0).testBit j=true
 |[],h=>by simp at h
 |e::l,h=>by
  rw[List.foldr_cons,show ∀x y,Nat.lor x y=x ||| y from λ_ _=>rfl,show ∀x y,Nat.lor x y=x ||| y from λ_ _=>rfl,Nat.testBit_or,Nat.testBit_or,show Nat.pow 2 e.on=2^e.on from rfl,Nat.testBit_two_pow]at h
  simp only[fD,decide_eq_true_eq]at h
  rcases h with(h | h) | h
  ·exact⟨e,aK ..,.inl h.symm⟩
  ·exact⟨e,aK ..,.inr h⟩
  ·obtain⟨e',h1,h2⟩:=Dd h
   exact⟨e',aH _ h1,h2⟩
theorem Bh:∀(l:List Oper) (acc:List Nat),(∀i,i < acc.length->(l.foldl (λacc o=>acc++ [Cg acc o]) acc)[i]? =acc[i]?)/\
  ∀i o,l[i]? =some o->(l.foldl (λacc o=>acc++ [Cg acc o]) acc)[acc.length+i]? =some (Cg ((l.foldl (λacc o=>acc++ [Cg acc o]) acc).take (acc.length+i)) o)
 |[],acc=>⟨λ_ _=>rfl,λi o h=>by simp at h⟩
 |x::l,acc=>by
  obtain⟨h1,h2⟩:=Bh l (acc++ [Cg acc x])
  simp only[cG]
  refine⟨λi hi=> ?_,λi o hi=> ?_⟩
  ·rw[h1 i (by simp;omega),eE hi]
  ·cases i with
   |zero=>
    simp only[eV,au]at hi
    subst hi
    rw[cn,h1 _ (by simp)]
    have:(l.foldl (λacc o=>acc++ [Cg acc o]) (acc++ [Cg acc x])).take acc.length=acc:=by
     apply jd
     intro j
     rw[cV]
     split
     ·rename_i hj
      rw[h1 j (by simp;omega),eE hj]
     ·rename_i hj
      rw[dn (by omega)]
    rw[this]
    simp
   |succ i=>
    have:=h2 i o (by simpa using hi)
    simp only[av,aG,aZ,aR]at this
    rw[show acc.length+(i+1)=acc.length+1+i by omega]
    exact this
theorem Jc{l:List Oper}{i:Nat}{o:Oper}(hi:l[i]? =some o){j:Nat}(hj:((De l).getD i 0).testBit j=true):∃e∈o.after.toList,Region.binds .any e=true/\(j=e.on\/((De l).getD e.on 0).testBit j=true):=by
 have h:=(Bh l []).2 i o hi
 have e:De l=l.foldl (λacc o=>acc++ [Cg acc o]) []:=rfl
 rw[<-e]at h
 simp only[aZ,aR]at h
 rw[aC,h]at hj
 obtain⟨e,h1,h3⟩:=Dd hj
 obtain⟨h1,h2⟩:=dP.1 h1
 refine⟨e,h1,h2,h3.imp id λh4=> ?_⟩
 rw[aC,cV]at h4
 split at h4
 ·rw[aC];exact h4
 ·simp at h4
def B8(n:Nat)(listed:Array Bool):List Nat:=(List.range n).filter λi=> !listed.getD i true
theorem vR{n:Nat}{listed:Array Bool}{i:Nat}:i∈B8 n listed↔i < n/\listed.getD i true=false:=by simp[B8]
theorem vf(n:Nat)(listed:Array Bool):(B8 n listed).Pairwise (· < ·):=(List.pairwise_lt_range).filter _
theorem zj{listed:Array Bool}{i j:Nat}(d:Bool)(hi:i < listed.size):(listed.setIfInBounds i true).getD j d=if j=i then true else listed.getD j d:=by
 simp only[cv,dy]
 by_cases h:i=j
 ·subst h;simp[hi]
 ·simp[h,Ne.symm h]
theorem Md{listed:Array Bool}{i:Nat}(hi:i < listed.size){l1 l2:List Nat}(h:B8 listed.size listed=l1++i::l2):B8 listed.size (listed.setIfInBounds i true)=l1++l2:=by
 have hs:=vf listed.size listed
 rw[h]at hs
 obtain⟨p1,p2,p3⟩:=List.pairwise_append.1 hs
 obtain⟨p4,_⟩:=e8.1 p2
 have e:B8 listed.size (listed.setIfInBounds i true)=(B8 listed.size listed).filter λj=>decide (j≠i):=by
  unfold B8
  rw[lQ]
  refine List.filter_congr λj _=> ?_
  rw[zj true hi]
  by_cases hj:j=i
  ·simp[hj]
  ·simp[hj]
 rw[e,h,List.filter_append,jC]
 have f1:l1.filter (λj=>decide (j≠i))=l1:=gY.2 λj hj=>by
  have:=p3 j hj i (aK ..)
  simp;omega
 have f2:l2.filter (λj=>decide (j≠i))=l2:=gY.2 λj hj=>by
  have:=p4 j hj
  simp;omega
 rw[f1,f2]
 simp
theorem Hs{rd:Option Nat}{n:Nat}{C:Ctx}(hΓ:Sound P Γ){fs:Nat->sA}{sn:AS}{Q:Exit->Act->World->Prop}(hE:Cm ops.toList=true)
  (RL:∀m1 m2,m1 < m2->m2 < ops.size->((De ops.toList).getD m2 0).testBit m1=true\/(fs m1).indep (fs m2)=true) (hQ:∀a w,gm C sn a w->Q .normal a w):
  ∀(fuel:Nat) (listed:Array Bool) (s:AS) (a:Act) (w:World),listed.size=ops.size->(B8 ops.size listed).length=fuel->
   (∀i,i < ops.size->listed.getD i true=true->∀j,((De ops.toList).getD i 0).testBit j=true->listed.getD j false=true)->C7 P Γ bE ops fs (B8 ops.size listed) s sn->gm C s a w->wpAnyIn (Fr rd) n P .any ops Q fuel listed a w:=by
 have Mw:∀i o,ops[i]? =some o->∀e∈o.after.toList,Region.binds .any e=true->e.on < i:=λi o hi e he hb=>by
  have:=cY.1 hE (o,i) (List.mem_zipIdx_iff_getElem?.2 (by simpa using hi))
  have:=cY.1 this e he
  simpa[hb]using this
 have NY:∀(listed:Array Bool),listed.size=ops.size->∀i,i∈Region.ready .any ops listed↔i∈B8 ops.size listed/\∀o,ops[i]? =some o->∀e∈o.after.toList,Region.binds .any e=true->listed.getD e.on false=true:=λlisted _ i=>by
  rw[vR]
  unfold Region.ready
  simp only[dP,List.mem_range,ah,bC]
  constructor
  ·rintro⟨h1,h2,h3⟩
   refine⟨⟨h1,h2⟩,λo ho e he hb=> ?_⟩
   rw[ho]at h3
   simp only[dE,eu,Array.all_eq_true',fD,bC]at h3
   rcases h3 e (by simpa using he) with h | h
   ·rw[hb]at h;cases h
   ·exact h
  ·rintro⟨⟨h1,h2⟩,h3⟩
   refine⟨h1,h2,?_⟩
   obtain⟨o,ho⟩:∃o,ops[i]? =some o:=⟨ops[i],by simp[h1]⟩
   rw[ho]
   simp only[dE,eu,Array.all_eq_true',fD,bC]
   intro e he
   cases hb:Region.binds .any e with
   |false=>exact .inl rfl
   |true=>exact .inr (h3 o ho e (by simpa using he) hb)
 have la:∀(listed:Array Bool),listed.size=ops.size->Region.ready .any ops listed=[]->B8 ops.size listed=[]:=λlisted hs hr=>by
  cases hu:B8 ops.size listed with
  |nil=>rfl
  |cons i l=>
   exfalso
   have hi:i∈B8 ops.size listed:=by rw[hu];exact aK ..
   have P8:=vf ops.size listed
   rw[hu]at P8
   have:i∈Region.ready .any ops listed:=(NY listed hs i).2 ⟨hi,λo ho e he hb=>by
    have gV:=Mw i o ho e he hb
    have PR:=(vR.1 hi).1
    cases hl:listed.getD e.on true with
    |false=>
     have hm:e.on∈B8 ops.size listed:=vR.2 ⟨by omega,hl⟩
     rw[hu]at hm
     rcases bY.1 hm with h | h
     ·omega
     ·have:=(e8.1 P8).1 _ h;omega
    |true=>
     have:e.on < listed.size:=by omega
     simp only[cv,eC this,eu]at hl ⊢
     exact hl⟩
   rw[hr]at this
   cases this
 intro fuel
 induction fuel with
 |zero=>
  intro listed s a w hs hl _ hr mj
  have hn:B8 ops.size listed=[]:=aQ hl
  refine⟨?_,?_⟩
  ·cases R9:Region.ready .any ops listed with
   |nil=>rfl
   |cons i l=>
    have:i∈Region.ready .any ops listed:=by rw[R9];exact aK ..
    have:=((NY listed hs i).1 this).1
    rw[hn]at this;cases this
  ·rw[hn]at hr
   have:s=sn:=hr
   subst this
   exact hQ a w mj
 |succ fuel ih=>
  intro listed s a w hs hl FN hr mj
  refine⟨λR9=> ?_,λi hi=> ?_⟩
  ·have:=la listed hs R9
   rw[this]at hl;simp at hl
  ·obtain⟨hu,PH⟩:=(NY listed hs i).1 hi
   obtain⟨PR,UA⟩:=vR.1 hu
   obtain⟨o,ho⟩:∃o,ops[i]? =some o:=⟨ops[i],by simp[PR]⟩
   obtain⟨l1,l2,JN⟩:=List.append_of_mem hu
   have P8:=vf ops.size listed
   rw[JN]at P8
   have Pw:∀j,((De ops.toList).getD i 0).testBit j=true->listed.getD j false=true:=λj hj=>by
    obtain⟨e,he,hb,h | h⟩:=Jc (by simpa using ho) hj
    ·rw[h];exact PH o ho e he hb
    ·have h1:=PH o ho e he hb
     have h2:=Mw i o ho e he hb
     refine FN e.on (by omega) ?_ j h
     have:e.on < listed.size:=by omega
     simp only[cv,eC this,eu]at h1 ⊢
     exact h1
   rw[JN]at hr
   have hb:=C7.Jg l1 hr λj hj=>by
    have gV:j < i:=(List.pairwise_append.1 P8).2.2 j hj i (aK ..)
    rcases RL j i gV PR with h | h
    ·have h1:=Pw j h
     have TN:j∈B8 ops.size listed:=by rw[JN];exact bp.2 (.inl hj)
     have h2:=(vR.1 TN).2
     have:j < listed.size:=by omega
     simp only[cv,eC this,eu]at h1 h2
     rw[h1]at h2;cases h2
    ·exact h
   obtain⟨o',ho',hf,s',hg,kU⟩:=hb
   obtain rfl:o=o':=by rw[ho]at ho';simpa using ho'
   have CA:B8 ops.size (listed.setIfInBounds i true)=l1++l2:=by
    rw[<-hs]at JN ⊢
    exact Md (by omega) JN
   refine((BC hΓ mj hg).mono λa' w' hst'=>ih (listed.setIfInBounds i true) s' a' w' (by simpa using hs) ?_ ?_ (by rw[CA];exact kU) hst').wpOpIn ho
   ·rw[CA]
    rw[JN]at hl
    simp only[av,aG]at hl ⊢
    omega
   ·intro m hm QR j hj
    rw[zj false (by omega)]
    split
    ·rfl
    ·rw[zj true (by omega)]at QR
     split at QR
     ·rename_i TT
      subst TT
      exact Pw j hj
     ·exact FN m hm QR j hj
theorem EA{rd:Option Nat}{n:Nat}{C:Ctx}(hm:P.follows .mixedOrders=true)(hΓ:Sound P Γ){id:Nat}{R:Type}{Q:Exit->Act->World->Prop}{s:AS}{a:Act}{w:World}{k:AS->Option R}{r:R}(h:gm C s a w)(hE:Cm ops.toList=true)
  (he:BD P Γ bE ops (De ops.toList) 0 ops.toList [] s k=some r) (hk:∀s' a' w',gm C s' a' w'->k s'=some r->Q .normal a' w'):(Code.region id ops true).wpIn (Fr rd) n P Q a w:=by
 obtain⟨fs,sn,_,g2,g3,_,g5⟩:=BE ops.toList 0 [] s (λ_=>⟨none,[],[],[]⟩) (λn o hn=>by simpa using hn) (λ_ hx=>by cases hx) he
 refine wpIn_region_any hm ?_
 obtain⟨g,β,h⟩:=h
 have hu:B8 ops.size (Array.replicate ops.size false)=List.range' 0 ops.toList.length:=by
  unfold B8
  rw[gY.2]
  ·simp[List.range_eq_range']
  ·intro i hi
   have hi:i < ops.size:=by simpa using hi
   simp[cv,hi]
 refine Hs (bE:=bE) hΓ hE (fs:=fs) (sn:=sn) (λm1 m2 h1 h2=>g5 m1 m2 (aP _) h1 (by simpa using h2)) (λa' w' hs=>hk sn a' w' hs g3) ops.size _ s a _ (by simp) (by rw[hu];simp) (λi hi hl=> ?_) (by rw[hu];exact g2) ⟨g,β,h.drew⟩
 simp[cv,hi]at hl
end
end Go.Ab
namespace Go.Ab
theorem om{ρ:Ren}{s:AS}(h:∀id,(s.obj id).isSome=true->∀ver,ρ id ver=some (id,ver)):∀(v:aw),v.there s=true->v.gJ ρ=v
 | .ptr id ver p n,ht=>by simp only[aw.gJ];rw[h id ht]
 | .cO id ver p c i len,ht=>by simp only[aw.gJ];rw[h id ht]
 | .pr a b,ht=>by
  simp only[aw.there,ah]at ht
  simp only[aw.gJ];rw[om h a ht.1,om h b ht.2]
 | .cons a b,ht=>by
  simp only[aw.there,ah]at ht
  simp only[aw.gJ];rw[om h a ht.1,om h b ht.2]
 | .fn f c,ht=>by simp only[aw.gJ];rw[om h c ht]
 | .bx e z c,ht=>by simp only[aw.gJ];rw[om h c ht]
 | .l9 id ver,ht=>by simp only[aw.gJ];rw[h id ht]
 | .yl id ver,ht=>by simp only[aw.gJ];rw[h id ht]
 | .ow k f p,ht=>by simp only[aw.gJ];rw[om h f ht]
 | .ml ..,ht=>by cases ht
 | .undef,_ | .gone,_ | .dp,_ | .mi,_ | .nX,_ | .qN,_ | .d _ _,_ | .eS _ _,_ | .nil,_ | .vec ..,_ | .mp ..,_ | .sb _,_=>rfl
theorem OE.bA{E E':Env}(hm:mr E E')(hh:∀b:Nat,E'.w.heap[b]? =E.w.heap[b]?){i q:Id}{ver:Nat}{kt vt:Ty}{rest:List (kt.den×vt.den)}{cur:Option (kt.den×vt.den)}(h:OE E i q ver kt vt rest cur)(hβ:E'.β i=E.β i)
  (hg:∀pl,E.β i=some pl->E.g pl.b= .own (.id i) 0->E'.g pl.b= .own (.id i) 0)
  (hq:∀vr,ver=vr+1->(E.r9 q vr->E'.r9 q vr/\(E'.cur q vr->E.cur q vr/\E'.β q=E.β q))/\(∀k v l,E.s q=some (.obj vr true (.mp k v l))->E'.s q=some (.obj vr true (.mp k v l)))/\
   ∀pl,E.β q=some pl->E.g pl.b= .own (.id q) 0->E'.g pl.b= .own (.id q) 0):OE E' i q ver kt vt rest cur:=by
 obtain⟨pl,mb,since,seen,c0,h1,h2,h3,h4⟩:=h
 refine⟨pl,mb,since,seen,c0,by rw[hβ,h1],by rw[hh,h2],hg pl h1 h3,λvr FV=> ?_⟩
 obtain⟨h5,h6⟩:=h4 vr FV
 obtain⟨q1,q2,q3⟩:=hq vr FV
 obtain⟨b1,b2⟩:=q1 h5
 refine⟨b1,λhc=> ?_⟩
 obtain⟨c1,c2⟩:=b2 hc
 obtain⟨⟨k,v,l,k0⟩,plq,es,clock,k1,k2,k3,k4,k5,k6,k7,k8,k9⟩:=h6 c1
 exact⟨⟨k,v,l,q2 _ _ _ k0⟩,plq,es,clock,by rw[c2,k1],k2,by rw[hh,k3],q3 _ k1 k4,k5,k6,k7,k8.mono hm,λx hx=>
  let⟨e,se,a1,a2,a3,a4⟩:=k9 x hx
  ⟨e,se,a1,a2,a3,a4.mono hm⟩⟩
theorem JV(c:aw):(∃q ver k v l cu,c= .ml q ver k v l cu)\/(∀ρ kp,c.Oi ρ kp=c.gJ ρ)/\∀s v fr,dv.there s (.obj v fr c)=c.there s:=by
 cases c <;> first | exact .inl ⟨_,_,_,_,_,_,rfl⟩ | exact .inr ⟨λ_ _=>rfl,λ_ _ _=>rfl⟩
section
variable {P:Program} {C:Ctx} {g:Nat->jW} {β:Id->Option Pl} {s:AS} {a:Act} {w:World}
theorem Inv.BW(h:Inv C g β s a w)(hC:C.ok){s1:AS}{g1:Nat->jW}{β1:Id->Option Pl}(ρ:Ren)(hlen:s1.b8.length=s.b8.length)(ht:Trans w w g g1)(hle:qm ρ (s.env w g β) (s1.env w g1 β1))
  (zq:∀i,VS (s1.env w g1 β1) (s1.slot i) (a.tmps.getD i undef))
  (cI:∀id ver fr c,s1.bT id=some (.obj ver fr c)->nO (s1.env w g1 β1) id fr c\/∃id0 v0 c0,s.bT id0=some (.obj v0 fr c0)/\c0.gJ ρ=c/\β1 id=β id0/\∀pl,β id0=some pl->(∀k,g pl.b= .own (.id id0) k->g1 pl.b= .own (.id id) k)/\(g pl.b= .free->g1 pl.b= .free))
  (hold:∀k,(s.bT (.dw k)≠none->s1.bT (.dw k)≠none)/\(∀v fr c,s1.bT (.dw k)=some (.obj v fr c)->∃c0,s.bT (.dw k)=some (.obj v fr c0))/\β1 (.dw k)=β (.dw k)):Inv C g1 β1 s1 a w:=by
 refine⟨h.defers.mono ht,by rw[hlen];exact h.size,zq,λid ver fr c cZ=> ?_,h.trans.trans ht,?_⟩
 ·rcases cI id ver fr c cZ with ho | ⟨id0,v0,c0,h1,h2,h3,h4⟩
  ·exact ho
  have:=nP hle (h.bE id0 v0 fr c0 h1) (id':=id) h3 λpl hp=>⟨rfl,(h4 pl hp).1,(h4 pl hp).2⟩
  rw[h2]at this
  exact this
 ·have hl:=h.le
  have ho:∀id ver,C.E.r9 id ver->∃k,id= .dw k:=λid ver hb=>by
   cases id with
   |dw k=>exact⟨k,rfl⟩
   |new i j=>exact absurd (hC.1 i j) hb.1
  refine⟨hl.mem.trans (Trans.mem (E:=s.env w g β) (E':=s1.env w g1 β1) ht),λid ver hb=> ?_,λid ver hb hc=> ?_⟩
  ·obtain⟨k,rfl⟩:=ho id ver hb
   obtain⟨h1,h2⟩:=hl.r9 _ ver hb
   obtain⟨e1,e2,_⟩:=hold k
   exact⟨e1 h1,λv fr c hh=>let⟨c0,yL⟩:=e2 v fr c hh;h2 v fr c0 yL⟩
  ·obtain⟨k,rfl⟩:=ho id ver hb
   obtain⟨fr,c,hc⟩:=hc
   obtain⟨_,e2,e3⟩:=hold k
   obtain⟨c0,yL⟩:=e2 _ _ _ hc
   obtain⟨h1,h2⟩:=hl.cur _ ver hb ⟨fr,c0,yL⟩
   exact⟨h1,e3.trans h2⟩
theorem Inv.renamed(h:Inv C g β s a w)(hC:C.ok){s1:AS}{β1:Id->Option Pl}(ρ:Ren)(hlen:s1.b8.length=s.b8.length)(hle:qm ρ (s.env w g β) (s1.env w g β1))
  (zq:∀i,VS (s1.env w g β1) (s1.slot i) (a.tmps.getD i undef)) (cI:∀id ver fr c,s1.bT id=some (.obj ver fr c)->nO (s1.env w g β1) id fr c\/∃v0,s.bT id=some (.obj v0 fr c)/\c.gJ ρ=c/\β1 id=β id)
  (hold:∀k,s1.bT (.dw k)=s.bT (.dw k)/\β1 (.dw k)=β (.dw k)):Inv C g β1 s1 a w:=
 h.BW hC ρ hlen (Trans.refl w g) hle zq (λid ver fr c cZ=>(cI id ver fr c cZ).imp (λh=>h) λ⟨v0,h1,h2,h3⟩=>⟨id,v0,c,h1,h2,h3,λ_ _=>⟨λ_ h=>h,λh=>h⟩⟩)
  λk=>⟨λhh=>by rw[(hold k).1];exact hh,λv fr c hh=>⟨c,(hold k).1.symm.trans hh⟩,(hold k).2⟩
theorem Inv.Qw(h:Inv C g β s a w)(j:Nat){v:aw}(hv:VS (s.env w g β) v (a.tmps.getD j undef)):Inv C g β (s.put (some j) v) a w:=by
 refine⟨h.defers,by simpa[AS.put]using h.size,λi=> ?_,by simpa using h.bE,h.trans,by simpa using h.le⟩
 rw[Co,Al]
 split
 ·rename_i RK;rw[RK.1];exact hv
 ·exact h.b8 i
theorem xw(bA:List Nat):∀(l:List aw) (n i:Nat),(dS bA n l).getD i .undef= .undef\/(dS bA n l).getD i .undef=l.getD i .undef
 |[],n,i=>by simp[dS]
 |v::l,n,0=>by
  simp only[dS,jx]
  split
  ·exact .inr rfl
  ·exact .inl rfl
 |v::l,n,i+1=>by
  simp only[dS,List.getD_cons_succ]
  exact xw bA l (n+1) i
theorem qL(bA:List Nat):∀(l:List aw) (n:Nat),(dS bA n l).length=l.length
 |[],n=>rfl
 |v::l,n=>by simp[dS,qL bA l]
theorem B1(bA:List Nat):∀(l:List (List dv)) (n i:Nat),(kh bA n l).getD i []=[]\/(kh bA n l).getD i []=l.getD i []
 |[],n,i=>by simp[kh]
 |v::l,n,0=>by
  simp only[kh,jx]
  split
  ·exact .inr rfl
  ·exact .inl rfl
 |v::l,n,i+1=>by
  simp only[kh,List.getD_cons_succ]
  exact B1 bA l (n+1) i
theorem Ia{s:AS}(i:Nat):s.slot i= .undef\/s.slot i∈s.b8:=by
 unfold AS.slot
 rw[aC]
 cases h:s.b8[i]? with
 |none=>exact .inl rfl
 |some v=>exact .inr (cR h)
theorem Li{s:AS}{id:Id}{e:dv}(h:s.bT id=some e):e∈s.cj\/∃es∈s.news,e∈es:=by
 cases id with
 |dw k=>exact .inl (cR h)
 |new i j=>
  simp only[AS.bT,aC]at h
  cases hi:s.news[i]? with
  |none=>rw[hi]at h;simp at h
  |some es=>rw[hi]at h;exact .inr ⟨es,cR hi,cR h⟩
theorem Inv.bA(h:Inv C g β s a w)(hC:C.ok){an:km}(ht:(vK an s).Db=true):Inv C g β (vK an s) a w:=by
 obtain⟨ks,kt,_,_,_⟩:=an
 obtain⟨s1,AH⟩:∃s1:AS,s1= {b8:=dS ks 0 s.b8,cj:=s.cj,news:=kh kt 0 s.news}:=⟨_,rfl⟩
 have e1:s1.b8=dS ks 0 s.b8:=by rw[AH]
 have e2:s1.cj=s.cj:=by rw[AH]
 have e3:s1.news=kh kt 0 s.news:=by rw[AH]
 have ht:(s1.b8.all (aw.there s1) && s1.cj.all (dv.there s1) && s1.news.all λes=>es.all (dv.there s1))=true:=by rw[AH];exact ht
 show Inv C g β {b8:=dS ks 0 s.b8,cj:=s.cj,news:=kh kt 0 s.news} a w
 rw[<-AH]
 rw[ah,ah]at ht
 obtain⟨⟨t1,t2⟩,t3⟩:=ht
 have cI:∀id,s1.bT id=none\/s1.bT id=s.bT id:=λid=>by
  cases id with
  |dw k=>right;simp only[AS.bT,e2]
  |new i j=>
   simp only[AS.bT,e3]
   rcases B1 kt s.news 0 i with h | h
   ·rw[h];exact .inl rfl
   ·rw[h];exact .inr rfl
 have Lx:∀id,(s1.obj id).isSome=true->s1.bT id=s.bT id:=λid hi=>by
  rcases cI id with h | h
  ·simp[AS.obj,h]at hi
  ·exact h
 let ρ:Ren:=λid ver=>if(s1.obj id).isSome=true then some (id,ver) else none
 have hρ:∀v:aw,v.there s1=true->v.gJ ρ=v:=om λid cZ ver=>if_pos cZ
 have hle:qm ρ (s.env w g β) (s1.env w g β):=by
  refine⟨⟨λ_ _ _ h=>h,λ_ _ h h'=>⟨h,h'⟩⟩,λid ver r hr hb=> ?_⟩
  by_cases hi:(s1.obj id).isSome=true
  ·have:ρ id ver=some (id,ver):=if_pos hi
   rw[this,au]at hr
   subst hr
   have e:=Lx id hi
   obtain⟨b1,b2⟩:=hb
   exact⟨⟨by show s1.bT id≠none;rw[e];exact b1,λv fr c hh=>b2 v fr c (e.symm.trans hh)⟩,λ⟨fr,c,hc⟩=>⟨⟨fr,c,e.symm.trans hc⟩,rfl⟩⟩
  ·have:ρ id ver=none:=if_neg hi
   rw[this]at hr;cases hr
 refine h.renamed hC ρ (by rw[e1,qL]) hle (λi=> ?_) (λid ver fr c cZ=> ?_) λk=>⟨by simp only[AS.bT,e2],rfl⟩
 ·rcases Ia (s:=s1) i with hi | hi
  ·rw[hi];exact VS.undef
  ·have Sh:=cY.1 t1 _ hi
   rcases xw ks s.b8 0 i with h1 | h1
   ·have:s1.slot i= .undef:=by simp only[AS.slot,e1,h1]
    rw[this];exact VS.undef
   ·have:s1.slot i=s.slot i:=by simp only[AS.slot,e1,h1]
    have hv:=uk hle (h.b8 i)
    rw[<-this,hρ _ Sh]at hv
    exact hv
 ·have:s1.bT id=s.bT id:=by
   rcases cI id with h | h
   ·rw[h]at cZ;cases cZ
   ·exact h
  have hc:dv.there s1 (.obj ver fr c)=true:=by
   rcases Li cZ with h | ⟨es,h1,h2⟩
   ·exact cY.1 t2 _ h
   ·exact cY.1 (cY.1 t3 _ h1) _ h2
  rcases JV c with⟨q,vq,k,v,l,cu,rfl⟩ | ⟨_,Sh⟩
  ·have e:=Lx q hc
   refine .inl (OE.bA hle.mem (λ_=>rfl) (h.bE id ver fr _ (this.symm.trans cZ)) rfl (λ_ _ h=>h) λvr _=>⟨λhb=>hle.ref q vr (q,vr) (if_pos hc) hb,λk v l hk=>e.trans hk,λ_ _ h=>h⟩)
  ·rw[Sh]at hc
   exact .inr ⟨ver,this.symm.trans cZ,hρ c hc,rfl⟩
theorem Inv.drop(h:Inv C g β s a w)(ks:List Nat):Inv C g β (s.drop ks) a w:=by
 refine⟨h.defers,by simpa[AS.drop,qL]using h.size,λi=> ?_,h.bE,h.trans,h.le⟩
 rcases xw ks s.b8 0 i with h1 | h1
 ·have:(s.drop ks).slot i= .undef:=h1
  rw[this];exact VS.undef
 ·have:(s.drop ks).slot i=s.slot i:=h1
  rw[this];exact h.b8 i
def rS(b q:Nat):jW->jW
 | .own (.id (.new x j)) k=>if x=b then .own (.id (.new q j)) k else .own (.id (.new x j)) k
 |l=>l
theorem Trans.Qv(w:World)(g:Nat->jW)(b q:Nat):Trans w w g λx=>rS b q (g x):=by
 refine⟨rfl,rfl,⟨rfl,az _⟩,az _,λy _=> ?_⟩
 cases hg:g y with
 |free=>exact⟨by simp[rS],rfl⟩
 |own o k=>cases o with
  |dH=>exact⟨by simp[rS],rfl⟩
  |id x=>
   refine⟨.inr ?_,λ_ _ _ h=>h⟩
   cases x with
   |dw m=>exact⟨_,_,rfl,az _⟩
   |new x j=>
    simp only[rS]
    split
    ·exact⟨_,_,rfl,az _⟩
    ·exact⟨_,_,rfl,az _⟩
theorem EK(f:aw->aw)(hf:f .undef= .undef)(l:List aw)(i:Nat):(l.map f).getD i .undef=f (l.getD i .undef):=by
 simp only[aC,ez]
 cases l[i]? <;> simp[hf]
theorem Inv.sX(h:Inv C g β s a w)(hC:C.ok){b q:Nat}(OK:b < s.news.length)(T0:q < s.news.length):
  ∃g1 β1,Inv C g1 β1 (s.sX b q (s.news.getD b [])) a w:=by
 generalize TG:s.news.getD b []=es
 have PK:∀j,s.bT (.new b j)=es[j]? :=λj=>by rw[<-TG];rfl
 let ρ:Ren:=wg es b q
 let s1:=s.sX b q es
 have jT:∀j',s1.bT (.new q j')=(es[j']?).map (dv.LW ρ):=λj'=>by
  simp[s1,AS.sX,AS.bT,aC,T0,ρ]
 have PQ:b≠q->∀j',s1.bT (.new b j')=none:=λNG j'=>by
  have hbq':¬q=b:=λe=>NG e.symm
  simp only[s1,AS.sX,AS.bT,aC]
  rw[dV hbq',List.getElem?_set,if_pos rfl]
  split <;> simp
 have vG:∀i,(∀j',i≠ .new q j')->(∀j',i≠ .new b j')->s1.bT i=(s.bT i).map (dv.A6 ρ (tC b q)):=λi hi hi'=>by
  cases i with
  |dw k=>simp[s1,AS.sX,AS.bT,ρ]
  |new x y=>
   have h1:¬q=x:=λe=>hi y (by rw[e])
   have h2:¬b=x:=λe=>hi' y (by rw[e])
   simp only[s1,AS.sX,AS.bT,aC]
   rw[dV h1,dV h2,ez]
   cases s.news[x]? <;> simp[ρ]
 let g1:Nat->jW:=λx=>rS b q (g x)
 let β1:Id->Option Pl:=λi=>match i with | .new x j=>if x=q then β (.new b j) else β (.new x j) | .dw k=>β (.dw k)
 have hβ1:∀i,(∀j',i≠ .new q j')->β1 i=β i:=λi hi=>by
  cases i with
  |dw k=>rfl
  |new x y=>exact if_neg λe=>hi y (by rw[e])
 have ht:Trans w w g g1:=Trans.Qv w g _ _
 have hρ:∀i ver r,ρ i ver=some r->(∃j fr c,i= .new b j/\es[j]? =some (.obj ver fr c)/\r=(.new q j,0))\/((∀j',i≠ .new q j')/\(∀j',i≠ .new b j')/\r=(i,ver)):=λi ver r hr=>by
  replace hr:wg es b q i ver=some r:=hr
  cases i with
  |dw k=>exact .inr ⟨λ_=>by simp,λ_=>by simp,(ba hr).symm⟩
  |new x j=>
   unfold wg at hr
   simp only at hr
   split at hr
   ·rename_i hx
    have hx:x=b:=by simpa using hx
    subst hx
    split at hr
    ·rename_i v fr c he
     split at hr
     ·rename_i hv
      have hv:ver=v:=by simpa using hv
      subst hv
      exact .inl ⟨j,fr,c,rfl,he,(ba hr).symm⟩
     ·cases hr
    ·cases hr
   ·rename_i hx
    have hx:¬x=b:=by simpa using hx
    split at hr
    ·cases hr
    ·rename_i hx'
     have hx':¬x=q:=by simpa using hx'
     exact .inr ⟨λ_ e=>hx' (by injection e),λ_ e=>hx (by injection e),(ba hr).symm⟩
 have hle:qm ρ (s.env w g β) (s1.env w g1 β1):=by
  refine⟨Trans.mem (E:=s.env w g β) (E':=s1.env w g1 β1) ht,λi ver r hr HR=> ?_⟩
  rcases hρ i ver r hr with⟨j,fr,c,rfl,he,rfl⟩ | ⟨hi,hi',rfl⟩
  ·refine⟨⟨by show s1.bT (.new q j)≠none;rw[jT,he];simp,λ_ _ _ _=>aP _⟩,λ_=>⟨⟨fr,c,(PK j).trans he⟩,if_pos rfl⟩⟩
  ·obtain⟨k1,k2⟩:=HR
   have k1:s.bT i≠none:=k1
   have e:s1.bT i=(s.bT i).map (dv.A6 ρ (tC b q)):=vG i hi hi'
   have back:∀v' fr' c',s1.bT i=some (.obj v' fr' c')->∃c0,s.bT i=some (.obj v' fr' c0):=λv' fr' c' hh=>by
    rw[e]at hh
    cases hs:s.bT i with
    |none=>exact absurd hs k1
    |some en=>
     rw[hs]at hh
     cases en with
     |dead=>simp[dv.A6]at hh
     |obj v0 fr0 c0=>
      simp only[dE,dv.A6,au,dv.obj.injEq]at hh
      obtain⟨rfl,rfl,_⟩:=hh
      exact⟨c0,rfl⟩
   refine⟨⟨by
    show s1.bT i≠none
    rw[e]
    cases hs:s.bT i with
    |none=>exact absurd hs k1
    |some en=>simp,λv' fr' c' hh=> ?_⟩,λ⟨fr',c',hh⟩=> ?_⟩
   ·obtain⟨c0,yL⟩:=back v' fr' c' hh
    exact k2 v' fr' c0 yL
   ·obtain⟨c0,yL⟩:=back ver fr' c' hh
    exact⟨⟨fr',c0,yL⟩,hβ1 i hi⟩
 have QO:∀(i:Id),(∀j',i≠ .new b j')->∀(x:Nat) (k:Nat),g x= .own (.id i) k->g1 x= .own (.id i) k:=λi hi x k hk=>by
  show rS b q (g x)=_
  rw[hk]
  cases i with
  |dw m=>rfl
  |new y j=>exact if_neg λe=>hi j (by rw[e])
 refine⟨g1,β1,h.BW hC ρ (by simp[AS.sX]) ht hle (λi=> ?_) (λid ver fr' c' cZ=> ?_) λk=>⟨λhk=> ?_,λv' fr' c' hh=> ?_,rfl⟩⟩
 ·have:(s.sX b q es).slot i=(s.slot i).gJ ρ:=EK _ rfl _ _
  rw[this]
  exact uk hle (h.b8 i)
 ·have cZ:s1.bT id=some (.obj ver fr' c'):=cZ
  by_cases hi:∃j',id= .new q j'
  ·obtain⟨j',rfl⟩:=hi
   rw[jT]at cZ
   cases he:es[j']? with
   |none=>rw[he]at cZ;cases cZ
   |some en=>
    rw[he]at cZ
    cases en with
    |dead=>simp[dv.LW]at cZ
    |obj v0 fr0 c0=>
     simp only[dE,dv.LW,au,dv.obj.injEq]at cZ
     obtain⟨_,rfl,rfl⟩:=cZ
     exact .inr ⟨.new b j',v0,c0,(PK j').trans he,rfl,if_pos rfl,λpl hp=>⟨λk hk=>by
      show rS b q (g pl.b)=_
      rw[hk];exact if_pos rfl,λhk=>by
      show rS b q (g pl.b)=_
      rw[hk];rfl⟩⟩
  ·by_cases hi':∃j',id= .new b j'
   ·obtain⟨j',rfl⟩:=hi'
    have NG:b≠q:=λe=>hi ⟨j',by rw[e]⟩
    rw[PQ NG]at cZ;cases cZ
   ·have QS:∀j',id≠ .new q j':=λj' e=>hi ⟨j',e⟩
    have hni':∀j',id≠ .new b j':=λj' e=>hi' ⟨j',e⟩
    have e:=vG id QS hni'
    rw[e]at cZ
    cases hs:s.bT id with
    |none=>rw[hs]at cZ;cases cZ
    |some en=>
     rw[hs]at cZ
     cases en with
     |dead=>simp[dv.A6]at cZ
     |obj v0 fr0 c0=>
      simp only[dE,dv.A6,au,dv.obj.injEq]at cZ
      obtain⟨rfl,rfl,rfl⟩:=cZ
      rcases JV c0 with⟨q2,vq,k,v2,l,cu,rfl⟩ | ⟨Sa,_⟩
      ·have h0:=h.bE id v0 fr0 _ hs
       left
       simp only[aw.Oi]
       cases S7:tC b q q2 with
       |true=>
        have G2:(∀j',q2≠ .new b j')/\(∀j',q2≠ .new q j')/\∀vr,ρ q2 vr=some (q2,vr):=by
         cases q2 with
         |dw k=>exact⟨λ_=>by simp,λ_=>by simp,λ_=>rfl⟩
         |new x y=>
          simp only[tC,ah,bC,decide_eq_false_iff_not]at S7
          obtain⟨k1,k2⟩:=S7
          refine⟨λ_ e=>k1 (by injection e),λ_ e=>k2 (by injection e),λvr=> ?_⟩
          show wg es b q (.new x y) vr=_
          unfold wg
          simp only[decide_eq_false k1,decide_eq_false k2]
        obtain⟨G2,DX,hρq⟩:=G2
        refine OE.bA hle.mem (λ_=>rfl) h0 (hβ1 id QS) (λpl _ hk=>QO id hni' _ _ hk) λvr _=>⟨λhb=>hle.ref q2 vr (q2,vr) (hρq vr) hb,λk v l hk=> ?_,λpl _ hk=>QO q2 G2 _ _ hk⟩
        have hk:s.bT q2=some (.obj vr true (.mp k v l)):=hk
        show s1.bT q2=_
        rw[vG q2 DX G2,hk]
        rfl
       |false=>
        obtain⟨pl,mb,since,seen,c0,h1,h2,h3,h4⟩:=h0
        exact⟨pl,mb,since,seen,c0,(hβ1 id QS).trans h1,h2,QO id hni' _ _ h3,λvr FV=>by omega⟩
      rw[Sa]
      exact .inr ⟨id,v0,c0,hs,rfl,hβ1 id QS,λpl hp=>⟨λk hk=>QO id hni' _ _ hk,λhk=>by
       show rS b q (g pl.b)=_
       rw[hk];rfl⟩⟩
 ·have e:=vG (.dw k) (λ_=>by simp) (λ_=>by simp)
  show s1.bT (.dw k)≠none
  rw[e]
  cases hs:s.bT (.dw k) with
  |none=>exact absurd hs hk
  |some en=>simp
 ·have e:=vG (.dw k) (λ_=>by simp) (λ_=>by simp)
  have hh:s1.bT (.dw k)=some (.obj v' fr' c'):=hh
  rw[e]at hh
  cases hs:s.bT (.dw k) with
  |none=>rw[hs]at hh;cases hh
  |some en=>
   rw[hs]at hh
   cases en with
   |dead=>simp[dv.A6]at hh
   |obj v0 fr0 c0=>
    simp only[dE,dv.A6,au,dv.obj.injEq]at hh
    obtain⟨rfl,rfl,_⟩:=hh
    exact⟨c0,rfl⟩
theorem AA{k t:Ty}{l:List (k.den×t.den)}:∀ {p:List tJ} {x c':aw},¬(oQ (.mp k t l) p x).eval=some c'
 |[],x,c',h=>by simp only[oQ,aj]at h
 | .arr::p,x,c',h=>by simp only[oQ]at h;exact AA h
 | .idx i::p,x,c',h=>by simp only[oQ,aj]at h
 | .fst::p,x,c',h=>by simp only[oQ,aj]at h
 | .snd::p,x,c',h=>by simp only[oQ,aj]at h
theorem CX{q:Id}{vq:Nat}{k t:Ty}{l:List (k.den×t.den)}{cu:Option (k.den×t.den)}:∀ {p:List tJ} {x c':aw},¬(oQ (.ml q vq k t l cu) p x).eval=some c'
 |[],x,c',h=>by simp only[oQ,aj]at h
 | .arr::p,x,c',h=>by simp only[oQ]at h;exact CX h
 | .idx i::p,x,c',h=>by simp only[oQ,aj]at h
 | .fst::p,x,c',h=>by simp only[oQ,aj]at h
 | .snd::p,x,c',h=>by simp only[oQ,aj]at h
theorem CY{k:nf}{f:aw}{m:Nat}:∀ {p:List tJ} {x c':aw},¬(oQ (.ow k f m) p x).eval=some c'
 |[],x,c',h=>by simp only[oQ,aj]at h
 | .arr::p,x,c',h=>by simp only[oQ]at h;exact CY h
 | .idx i::p,x,c',h=>by simp only[oQ,aj]at h
 | .fst::p,x,c',h=>by simp only[oQ,aj]at h
 | .snd::p,x,c',h=>by simp only[oQ,aj]at h
theorem ym{l:List Value}{n:Nat}{vs:List Value}(h:(l.drop n).take vs.length=vs):df l n vs=l:=by
 unfold df
 have h2:l.drop n=vs++l.drop (n+vs.length):=by
  conv=>lhs;rw[<-cK vs.length (l.drop n)]
  rw[h,eN]
 have h3:=cK n l
 rw[h2]at h3
 simpa[bw]using h3
theorem Inv.Qq(h:Inv C g β s a w){j:Nat}{p:List tJ}(yt:(s.at j p).eval=some .dp){q:Nat}(hq:s.dB q=true){e:TypeId}{t:Ty}(hz:0 < t.size){s':AS}
  (he:((s.born q [.obj 0 false (.vec e t [])]).putAt j (.cO (.new q 0) 0 [] 0 0 0) p).eval=some s'):gm C s' a w:=by
 obtain⟨β',h1,h2,h3⟩:=h.Ke hq (e:=e) hz
 cases p with
 |nil=>
  simp only[AS.at]at yt
  have hj:=aq.1 yt
  simp only[AS.putAt]at he
  obtain rfl:=aq.1 he
  refine⟨g,β',h1.Qw j ?_⟩
  have:=h.b8 j
  rw[hj]at this
  rw[ji this]
  exact h3
 |cons st p=>
  simp only[AS.at]at yt
  simp only[AS.putAt]at he
  have zq:(s.born q [.obj 0 false (.vec e t [])]).slot j=s.slot j:=rfl
  rw[zq]at he
  split at yt
  ·rename_i id ver p0 nn hj
   split at yt
   ·rename_i v fr c ju
    obtain⟨hv,yt⟩:=aA.1 yt
    obtain⟨⟨n,u⟩,hl,yt⟩:=ak.1 yt
    have hu:=aq.1 yt
    simp only at hu
    subst hu
    have cI:=dG ju
    have gS:id≠ .new q 0:=λe=>by rw[e,(iS hq).1 0]at cI;cases cI
    have hne':∀j',id≠ .new q j':=λj' e=>by rw[e,(iS hq).1 j']at cI;cases cI
    have oL:(s.born q [.obj 0 false (.vec e t [])]).bT id=some (.obj v fr c):=(gL _ hne').trans cI
    have NU:(s.born q [.obj 0 false (.vec e t [])]).obj id=some (v,fr,c):=by simp only[AS.obj,oL]
    simp only[hj,NU]at he
    split at he
    ·simp only[aj]at he
    ·rename_i c1 Rz
     obtain⟨c',yz,he⟩:=ak.1 he
     obtain rfl:=aq.1 he
     have hn:c.gr=false:=by
      cases c <;> first | rfl | (exact(Rz _ _ _ rfl).elim) | (exact absurd yz AA) | (exact absurd yz CX) | (exact absurd yz CY)
     have hO:=h1.bE id v fr c oL
     obtain⟨pl,cur,e0,hp,hh,hg,hk,hV⟩:=hO.box hn
     have ht:=Trans.refl w g
     have hN:=yI hk
     have hle:=cD.aL (s:=s.born q [.obj 0 false (.vec e t [])]) (β:=β') (v':=v) (fr':=fr) (c':=c.wrap c') oL (az _) ht (λ_ _=>rfl) (λ_=>rfl)
     refine⟨g,β',h1.step (cX _ _ _) ht hle (gK.aL h1.bE (by rw[oL];simp) hle (λ_ _=>rfl) (λ_ _ _ _ _ _ _ _=>⟨rfl,rfl⟩) ?_ (kV oL λk v1 l e=>by subst e;exact absurd yz AA))⟩
     obtain⟨cs,k1,k2⟩:=h3
     have k2:cs=[.slice none 0 0]:=k2
     subst k2
     obtain⟨u1,u2,u3⟩:=kZ (p0++st::p) c.strip (cur.toList.take (c.oz cur.size)) n .dp _ c' [.slice none 0 0] (VO.of hV) hl k1 yz
     have u4:=u2.to (u3.mK hV.mK)
     have qY:((cur.toList.take (c.oz cur.size)).drop n).take 1=[.slice none 0 0]:=by
      rcases mc (p0++st::p) c.strip (cur.toList.take (c.oz cur.size)) n .dp (VO.of hV) hl with⟨NT,yL⟩ | ⟨q1,q2⟩
      ·rw[<-yL]at hV
       simp only[V]at hV
       rw[hV,NT]
       rfl
      ·simpa only[V,aw.size]using q1
     rw[ym (vs:=[.slice none 0 0]) qY]at u4
     have mE:c'.size=c.strip.size:=by have e1:=u4.size;have e2:=hV.size;omega
     exact wK.obj ⟨pl,cur,e0,hp,hh,hg,uq hk u4.pU mE,by rw[va c u4.pU,wQ u4.pU mE];exact V.mono hle u4⟩
   ·simp only[aj]at yt
  ·simp only[aj]at yt
theorem tX:∀(ids:List Id) {s:AS} {i:Id} {v:Nat} {fr:Bool} {c:aw},s.bT i=some (.obj v fr c)->∃fr',(s.bj ids).bT i=some (.obj v fr' c)
 |[],s,i,v,fr,c,h=>⟨fr,h⟩
 |id::ids,s,i,v,fr,c,h=>by
  obtain⟨fr',h'⟩:=zd (id:=id) h
  exact tX ids h'
theorem Inv.Ph(h:Inv C g β s a w){j:Nat}{p:List tJ}{u:aw}(yt:(s.at j p).eval=some u){t:Ty}{x:t.den}(ht:(s.gR t u).eval=some x){s':AS}
  (he:((s.bj u.shared).putAt j (.d t x) p).eval=some s'):gm C s' a w:=by
 cases p with
 |nil=>
  simp only[AS.at]at yt
  have hj:=aq.1 yt
  simp only[AS.putAt]at he
  obtain rfl:=aq.1 he
  have hs:=h.b8 j
  rw[hj]at hs
  obtain⟨g',i1,_,_,cs,hR,hO⟩:=qc h hs ht
  exact⟨g',β,i1.Qw j (VS.of (a:= .d t x) (cs:=cs) (by simpa only[V]using hR) hO)⟩
 |cons st p=>
  simp only[AS.at]at yt
  simp only[AS.putAt]at he
  have zq:(s.bj u.shared).slot j=s.slot j:=by simp only[AS.slot,ka]
  rw[zq]at he
  split at yt
  ·rename_i id ver p0 nn hj
   split at yt
   ·rename_i v fr c ju
    obtain⟨hv,yt⟩:=aA.1 yt
    obtain⟨⟨n,u'⟩,hl,yt⟩:=ak.1 yt
    have hu:=aq.1 yt
    simp only at hu
    subst hu
    have cI:=dG ju
    obtain⟨g',h1,h2,h3,h4⟩:=fb u'.shared h
    obtain⟨fr',oL⟩:=tX u'.shared cI
    have NU:(s.bj u'.shared).obj id=some (v,fr',c):=by simp only[AS.obj,oL]
    simp only[hj,NU]at he
    split at he
    ·simp only[aj]at he
    ·rename_i c1 Rz
     obtain⟨c',yz,he⟩:=ak.1 he
     obtain rfl:=aq.1 he
     have hn:c.gr=false:=by
      cases c <;> first | rfl | (exact(Rz _ _ _ rfl).elim) | (exact absurd yz AA) | (exact absurd yz CX) | (exact absurd yz CY)
     obtain⟨pl0,cur0,e00,NW,NM,JF,MB,hV0⟩:=(h.bE id v fr c cI).box hn
     obtain⟨pl,cur,e0,hp,hh,hg,hk,hV⟩:=(h1.bE id v fr' c oL).box hn
     have yw:pl0=pl:=by
      have NW:β id=some pl0:=NW
      have hp:β id=some pl:=hp
      rw[NW]at hp
      exact ba hp
     subst yw
     have eK:cur0=cur:=by
      have NM:w.heap[pl0.b]? =_:=NM
      have hh:w.heap[pl0.b]? =_:=hh
      rw[NM]at hh
      simpa using(congrArg (λo=>match o with | some (.cells x _ _)=>x | _=>cur0) hh)
     subst eK
     obtain⟨cs,hVu,qY⟩:∃cs,V (s.env w g β) u' cs/\((cur0.toList.take (c.oz cur0.size)).drop n).take cs.length=cs:=by
      rcases mc (p0++st::p) c.strip (cur0.toList.take (c.oz cur0.size)) n u' (VO.of hV0) hl with⟨NT,yL⟩ | ⟨q1,q2⟩
      ·refine⟨cur0.toList.take (c.oz cur0.size),by rw[yL];exact hV0,?_⟩
       rw[NT,aI,c9]
      ·refine⟨_,q1,?_⟩
       rw[bI,cq]
       congr 1
       omega
     have hR:=ou rfl h.bE h2 u' t x cs hVu ht h4
     have hVx:V ((s.bj u'.shared).env w g' β) (.d t x) cs:=by simpa only[V]using hR
     have ht':=Trans.refl w g'
     have hle:=cD.aL (s:=s.bj u'.shared) (β:=β) (v':=v) (fr':=fr') (c':=c.wrap c') oL (az _) ht' (λ_ _=>rfl) (λ_=>rfl)
     refine⟨g',β,h1.step (cX _ _ _) ht' hle (gK.aL h1.bE (by rw[oL];simp) hle (λ_ _=>rfl) (λ_ _ _ _ _ _ _ _=>⟨rfl,rfl⟩) ?_ (kV oL λk v1 l e=>by subst e;exact absurd yz AA))⟩
     obtain⟨u1,u2,u3⟩:=kZ (p0++st::p) c.strip (cur0.toList.take (c.oz cur0.size)) n u' _ c' cs (VO.of hV) hl hVx yz
     have u4:=u2.to (u3.mK hV.mK)
     rw[ym (vs:=cs) qY]at u4
     have mE:c'.size=c.strip.size:=by have e1:=u4.size;have e2:=hV.size;omega
     exact wK.obj ⟨pl0,cur0,e0,hp,hh,hg,uq hk u4.pU mE,by rw[va c u4.pU,wQ u4.pU mE];exact V.mono hle u4⟩
   ·simp only[aj]at yt
  ·simp only[aj]at yt
theorem uG{E:Env}:∀(t:Ty) (x:t.den) (u:aw),(vA t x).eval=some u->∀cs,cT E t cs x->V E u cs
 | .gj t,x,u,h,cs,hr=>by
  simp only[vA]at h
  obtain⟨h1,h2⟩:=bF.1 h
  obtain rfl:=aq.1 h2
  simp only[cT]at hr
  simp only[V]
  exact hr.1 (Option.isNone_iff_eq_none.1 h1)
 | .pair a b,x,u,h,cs,hr=>by
  simp only[vA]at h
  obtain⟨u1,h1,h2⟩:=ak.1 h
  obtain⟨u2,h3,h4⟩:=ak.1 h2
  obtain rfl:=aq.1 h4
  simp only[cT]at hr
  obtain⟨ca,cb,rfl,ha,hb⟩:=hr
  exact Ff (uG a x.1 u1 h1 ca ha) (uG b x.2 u2 h3 cb hb)
 | .int k,x,u,h,cs,hr=>by simp only[vA]at h;obtain rfl:=aq.1 h;simpa only[V]using hr
 | .bool,x,u,h,cs,hr=>by simp only[vA]at h;obtain rfl:=aq.1 h;simpa only[V]using hr
 | .str,x,u,h,cs,hr=>by simp only[vA]at h;obtain rfl:=aq.1 h;simpa only[V]using hr
 | .slice t,x,u,h,cs,hr=>by simp only[vA]at h;obtain rfl:=aq.1 h;simpa only[V]using hr
 | .unit,x,u,h,cs,hr=>by simp only[vA]at h;obtain rfl:=aq.1 h;simpa only[V]using hr
 | .arr n t,x,u,h,cs,hr=>by simp only[vA]at h;obtain rfl:=aq.1 h;simpa only[V]using hr
 | .mD t,x,u,h,cs,hr=>by simp only[vA]at h;obtain rfl:=aq.1 h;simpa only[V]using hr
theorem Hy{e:TypeId}{z:Nat}{c:aw}{pl:Pl}{n:Nat}(hz:0 < z)(h1:n=pl.cap*z)(h2:pl.cap<=maxLen)(h3:c.size<=n):(aw.bx e z c).sD pl n e:=by
 cases z with
 |zero=>omega
 |succ z=>exact⟨rfl,h1,h2,h3⟩
theorem Dk{e:TypeId}{z:Nat}{c:aw}{n:Nat}(hz:0 < z):(aw.bx e z c).oz n=c.size:=by
 cases z with
 |zero=>omega
 |succ z=>rfl
theorem CO{e e':TypeId}{z:Nat}{c:aw}{pl:Pl}{n:Nat}(hz:0 < z)(h:(aw.bx e z c).sD pl n e'):e'=e/\n=pl.cap*z/\pl.cap<=maxLen/\c.size<=n:=by
 cases z with
 |zero=>omega
 |succ z=>exact h
theorem Ew{E:Env}{id:Id}{ver n:Nat}{p p':List tJ}{y:Value}(h:VS E (.ptr id ver p n) y):VS E (.ptr id ver p' n) y:=by
 obtain⟨cs,h1,h2⟩:=h
 exact⟨cs,by simpa only[V]using h1,h2⟩
theorem Inv.Po(h:Inv C g β s a w){j:Nat}{id:Id}{ver n k v:Nat}{p p':List tJ}(hj:s.slot j= .ptr id ver p n){e:TypeId}{t:Ty}{r:List t.den}(ju:s.obj id=some (v,false,.vec e t r))
  (hk:k < r.length) {u:aw} (hu:(vA t (nth t r k)).eval=some u):
  gm C ((s.aL id (.obj v false (.bx e t.size (.pr (.d (.arr k t) (r.take k)) (.pr u (.d (.arr (r.drop (k+1)).length t) (r.drop (k+1)))))))).put (some j) (.ptr id ver p' n)) a w:=by
 have cI:=dG ju
 obtain⟨hz,hO⟩:nO (s.env w g β) id false (.vec e t r):=h.bE id v false _ cI
 have hO:(match β id with
  |none=>r=[]
  |some pl=>∃cur k,w.heap[pl.b]? =some (.cells cur e (0,0))/\cur.size=pl.cap*t.size/\r.length<=pl.cap/\pl.cap<=maxLen/\g pl.b= .own (.id id) k/\
    k<=r.length*t.size/\(false=false->k=0)/\aV (cT (s.env w g β) t) (cur.toList.take (r.length*t.size)) r):=hO
 have ht:=Trans.refl w g
 have hle:cD (s.env w g β) ((s.aL id (.obj v false (.bx e t.size (.pr (.d (.arr k t) (r.take k)) (.pr u (.d (.arr (r.drop (k+1)).length t) (r.drop (k+1)))))))).env w g β):=
  cD.aL cI (az _) ht (λ_ _=>rfl) (λ_=>rfl)
 have hI:=h.step (cX _ _ _) ht hle (gK.aL h.bE (by rw[cI];simp) hle (λ_ _=>rfl) (λ_ _ _ _ _ _ _ _=>⟨rfl,rfl⟩) (NS:=vM cI) (by
  cases hp:β id with
  |none=>rw[hp]at hO;simp only at hO;subst hO;simp at hk
  |some pl=>
   rw[hp]at hO
   obtain⟨cur,k0,q1,q2,q3,q4,q5,q6,q7,q8⟩:=hO
   have MB:=q7 rfl
   subst MB
   have E6:∀c x,cT (s.env w g β) t c x->c.length=t.size:=λc x hx=>hx.size
   have c1:=aV.take E6 k q8
   have c2:=(q8.get E6 k hk)
   have c3:=aV.drop E6 (k+1) q8
   have C4:V (s.env w g β) u (((cur.toList.take (r.length*t.size)).drop (k*t.size)).take t.size):=uG t _ u (by rw[zX hk]at hu;exact hu) _ c2
   have Ua:=C4.size
   have hlen:(cur.toList.take (r.length*t.size)).length=r.length*t.size:=aV.length E6 q8
   have mE:r.length*t.size<=cur.size:=by rw[q2];exact cW _ q3
   have Uy:(k+1)*t.size<=r.length*t.size:=cW _ hk
   have G2:(k+1)*t.size=k*t.size+t.size:=Nat.succ_mul k t.size
   have N1:u.size=t.size:=by rw[<-Ua,bI,cq,hlen];omega
   have hm:(r.drop (k+1)).length*t.size=r.length*t.size - (k+1)*t.size:=by rw[cq,Nat.sub_mul]
   have HT:(aw.pr (.d (.arr k t) (r.take k)) (.pr u (.d (.arr (r.drop (k+1)).length t) (r.drop (k+1))))).size=r.length*t.size:=by
    simp only[aw.size,Ty.size,N1,hm]
    omega
   refine wK.obj ⟨pl,cur,e,hp,q1,q5,Hy hz q2 q4 (by rw[HT];exact mE),?_⟩
   rw[Dk hz,HT]
   refine V.mono hle ?_
   show V _ (.pr (.d (.arr k t) (r.take k)) (.pr u (.d (.arr (r.drop (k+1)).length t) (r.drop (k+1))))) _
   simp only[V]
   generalize cur.toList.take (r.length*t.size)=R at*
   refine⟨R.take (k*t.size),R.drop (k*t.size),(cK _ _).symm,?_,(R.drop (k*t.size)).take t.size,R.drop ((k+1)*t.size),?_,C4,?_⟩
   ·simp only[cT]
    exact⟨by rw[bI];omega,c1⟩
   ·rw[G2,<-eN,cK]
   ·simp only[cT]
    exact⟨trivial,c3⟩))
 refine⟨g,β,hI.Qw j ?_⟩
 have:=h.b8 j
 rw[hj]at this
 exact Ew (VS.mono hle this)
theorem wX:∀(l:List Nat) {s s1:AS},gm C s a w->(HL s l).eval=some s1->gm C s1 a w
 |[],s,s1,h,he=>by
  simp only[HL]at he
  obtain rfl:=aq.1 he
  exact h
 |j::l,s,s1,h,he=>by
  obtain⟨g,β,h⟩:=h
  simp only[HL]at he
  split at he
  ·rename_i id ver k p n hj
   split at he
   ·rename_i v e t r ju
    obtain⟨h1,he⟩:=aA.1 he
    obtain⟨h2,he⟩:=bF.1 he
    obtain⟨u,h3,he⟩:=ak.1 he
    exact wX l (h.Po hj ju (of_decide_eq_true h2) h3) he
   ·simp only[aj]at he
  ·exact wX l ⟨g,β,h⟩ he
  ·simp only[aj]at he
theorem wU{s:AS}{id i:Id}(h:i≠id):(s.freeze id).bT i=s.bT i:=by
 unfold AS.freeze
 split
 ·exact cP s id i _ h
 ·rfl
theorem oK:∀(ids:List Id) {s:AS} {i:Id},i ∉ ids->(s.bj ids).bT i=s.bT i
 |[],_,_,_=>rfl
 |id::ids,s,i,h=>by
  have h1:i≠id:=λe=>h (by rw[e];exact aK)
  exact(oK ids λhi=>h (aH _ hi)).trans (wU h1)
theorem Inv.Qz(h:Inv C g β s a w){j:Nat}{id:Id}{ver n k m v z:Nat}{p p':List tJ}(hj:s.slot j= .ptr id ver p n){e:TypeId}{t:Ty}{l1 l2:List t.den}{u:aw}
  (ju:s.obj id=some (v,false,.bx e z (.pr (.d (.arr k t) l1) (.pr u (.d (.arr m t) l2))))) (hz:z=t.size) (N5:0 < z) (cZ:id ∉ u.shared) {x:t.den} (hx:(s.gR t u).eval=some x):
  gm C (((s.bj u.shared).aL id (.obj v false (.vec e t (l1++x::l2)))).put (some j) (.ptr id ver p' n)) a w:=by
 have cI:=dG ju
 obtain⟨pl0,cur0,e0,NW,NM,JF,MB,hV0⟩:=(h.bE id v false _ cI).box rfl
 obtain⟨g',h1,h2,h3,h4⟩:=fb u.shared h
 have oL:(s.bj u.shared).bT id=some (.obj v false (.bx e z (.pr (.d (.arr k t) l1) (.pr u (.d (.arr m t) l2))))):=(oK _ cZ).trans cI
 obtain⟨pl,cur,e1,hp,hh,hg,hk,hV⟩:=(h1.bE id v false _ oL).box rfl
 have hp:β id=some pl:=hp
 have yw:pl0=pl:=by
  have NW:β id=some pl0:=NW
  rw[NW]at hp
  exact ba hp
 subst yw
 have eK:cur0=cur:=by
  have NM:w.heap[pl0.b]? =_:=NM
  have hh:w.heap[pl0.b]? =_:=hh
  rw[NM]at hh
  simpa using(congrArg (λo=>match o with | some (.cells x _ _)=>x | _=>cur0) hh)
 subst eK
 obtain⟨rfl,q2,q4,q3⟩:=CO N5 hk
 rw[Dk N5]at hV0
 have hV0:V (s.env w g β) (.pr (.d (.arr k t) l1) (.pr u (.d (.arr m t) l2))) _:=hV0
 have T5:=hV0.size
 simp only[V]at hV0
 obtain⟨ca,cb,hR,hA,cu,cc,NH,hU,hB⟩:=hV0
 subst NH
 simp only[cT]at hA hB
 have hX:=ou rfl h.bE h2 u t x cu hU hx h4
 have E6:∀c x,cT ((s.bj u.shared).env w g' β) t c x->c.length=t.size:=λc x hx=>hx.size
 have cA:=hA.2.mono λ_ _ hx=>hx.mono h2.mem
 have cB:=hB.2.mono λ_ _ hx=>hx.mono h2.mem
 have nH:aV (cT ((s.bj u.shared).env w g' β) t) (ca++(cu++cc)) (l1++x::l2):=aV.append cA ⟨cu,cc,rfl,hX,cB⟩
 have hlen:=aV.length E6 nH
 have HT:(aw.pr (.d (.arr k t) l1) (.pr u (.d (.arr m t) l2))).size=(l1++x::l2).length*t.size:=by rw[<-hlen,<-hR];exact T5.symm
 rw[HT]at hR q3
 rw[hz]at q2
 have FR:(l1++x::l2).length<=pl0.cap:=by
  rw[q2]at q3
  exact Nat.le_of_mul_le_mul_right q3 (by omega)
 have ht:=Trans.refl w g'
 have hle:cD ((s.bj u.shared).env w g' β) (((s.bj u.shared).aL id (.obj v false (.vec e1 t (l1++x::l2)))).env w g' β):=cD.aL oL (az _) ht (λ_ _=>rfl) (λ_=>rfl)
 have hI:=h1.step (cX _ _ _) ht hle (gK.aL h1.bE (by rw[oL];simp) hle (λ_ _=>rfl) (λ_ _ _ _ _ _ _ _=>⟨rfl,rfl⟩) (NS:=kV oL λ_ _ _ e=>by cases e) (by
  refine⟨by omega,?_⟩
  show(match β id with
   |none=>l1++x::l2=[]
   |some pl=>_)
  rw[hp]
  exact⟨cur0,0,hh,q2,FR,q4,hg,aP _,λ_=>rfl,by rw[hR];exact nH.mono λ_ _ hx=>hx.mono hle.mem⟩))
 refine⟨g',β,hI.Qw j ?_⟩
 have:=h.b8 j
 rw[hj]at this
 exact Ew (VS.mono (h2.trans hle) this)
theorem B7:∀(l:List Nat) {s s1:AS},gm C s a w->(KI s l).eval=some s1->gm C s1 a w
 |[],s,s1,h,he=>by
  simp only[KI]at he
  obtain rfl:=aq.1 he
  exact h
 |j::l,s,s1,h,he=>by
  obtain⟨g,β,h⟩:=h
  simp only[KI]at he
  split at he
  ·rename_i id ver p n hj
   split at he
   ·rename_i v e z k t l1 u m t' l2 ju
    obtain⟨h1,he⟩:=aA.1 he
    obtain⟨l2',h2,he⟩:=ak.1 he
    obtain⟨x,h3,he⟩:=ak.1 he
    simp only[ah,beq_iff_eq,bC,beq_eq_false_iff_ne]at h1
    obtain⟨⟨⟨h5,h6⟩,h7⟩,h8⟩:=h1
    obtain⟨et,hl⟩:=iB (iP.1 h2)
    have et':t'=t:=by simpa using et
    subst et'
    simp only at hl
    subst hl
    refine B7 l (h.Qz hj ju h6 (by omega) (λhi=> ?_) h3) he
    have:(u.shared.any λi=>decide (i=id))=true:=kN.2 ⟨id,hi,by simp⟩
    rw[this]at h8
    cases h8
   ·simp only[aj]at he
  ·simp only[aj]at he
theorem pH:∀(l:List QG) {s s1:AS},gm C s a w->(xJ s l).eval=some s1->gm C s1 a w
 |[],s,s1,h,he=>by
  simp only[xJ]at he
  obtain rfl:=aq.1 he
  exact h
 |o::l,s,s1,h,he=>by
  obtain⟨g,β,h⟩:=h
  unfold xJ at he
  split at he
  ·exact pH l ⟨g,β,h⟩ he
  obtain⟨u,hu,he⟩:=ak.1 he
  obtain⟨x,hx,he⟩:=ak.1 he
  obtain⟨s',hs,he⟩:=ak.1 he
  exact pH l (h.Ph hu hx hs) he
theorem ki(hC:C.ok):∀(l:List K5) {s s1:AS},gm C s a w->(pf P s l).eval=some s1->gm C s1 a w
 |[],s,s1,h,he=>by
  simp only[pf]at he
  obtain rfl:=aq.1 he
  exact h
 |o::l,s,s1,h,he=>by
  obtain⟨g,β,h⟩:=h
  unfold pf at he
  split at he
  ·exact ki hC l ⟨g,β,h⟩ he
  obtain⟨u,hu,he⟩:=ak.1 he
  split at he
  ·split at he
   ·rename_i e t b tO hv
    obtain⟨s',h1,h2⟩:=ak.1 he
    exact ki hC l (h.Qq hu hv (AP tO) h1) h2
   ·simp only[aj]at he
  ·split at he
   ·rename_i b j ver S3
    split at he
    ·rename_i v fr c ju hm
     split at he
     ·have OK:b < s.news.length:=by
       have:=dG ju
       simp only[AS.bT,aC]at this
       cases hn:s.news[b]? with
       |none=>rw[hn]at this;simp at this
       |some es=>exact(dj.1 hn).1
      obtain⟨g1,β1,h1⟩:=h.sX hC OK (by simpa using hm)
      exact ki hC l ⟨g1,β1,h1⟩ he
     ·simp only[aj]at he
    ·simp only[aj]at he
   ·simp only[aj]at he
theorem vc:∀(l:List Nat) {s s1:AS},gm C s a w->(B6 s l).eval=some s1->gm C s1 a w
 |[],s,s1,h,he=>by
  simp only[B6]at he
  obtain rfl:=aq.1 he
  exact h
 |j::l,s,s1,h,he=>by
  obtain⟨g,β,h⟩:=h
  simp only[B6]at he
  split at he
  ·rename_i id ver len hj
   split at he
   ·rename_i v e t r ju
    split at he
    ·obtain⟨h1,h2⟩:=bF.1 he
     have h1:len<=r.length:=by simpa using h1
     refine vc l ?_ h2
     have cI:=dG ju
     have hO:nO (s.env w g β) id false (.vec e t r):=h.bE id v false _ cI
     have ht:=Trans.refl w g
     have hle:cD (s.env w g β) ((s.aL id (.obj v false (.vec e t (r.take len)))).env w g β):=cD.aL cI (az _) ht (λ_ _=>rfl) (λ_=>rfl)
     refine⟨g,β,h.step (cX _ _ _) ht hle (gK.aL h.bE (by rw[cI];simp) hle (λ_ _=>rfl) (λ_ _ _ _ _ _ _ _=>⟨rfl,rfl⟩) ?_ (vM cI))⟩
     obtain⟨hz,hO⟩:=hO
     refine⟨hz,?_⟩
     have hO:(match β id with
      |none=>r=[]
      |some pl=>∃cur k,w.heap[pl.b]? =some (.cells cur e (0,0))/\cur.size=pl.cap*t.size/\r.length<=pl.cap/\pl.cap<=maxLen/\g pl.b= .own (.id id) k/\
        k<=r.length*t.size/\(false=false->k=0)/\aV (cT (s.env w g β) t) (cur.toList.take (r.length*t.size)) r):=hO
     show(match β id with
      |none=>r.take len=[]
      |some pl=>_)
     cases hp:β id with
     |none=>rw[hp]at hO;simp only at hO;subst hO;simp
     |some pl=>
      rw[hp]at hO
      obtain⟨cur,k,q1,q2,q3,q4,q5,q6,q7,q8⟩:=hO
      have hk:=q7 rfl
      subst hk
      have hlen:(r.take len).length=len:=by simp;omega
      refine⟨cur,0,q1,q2,by omega,q4,q5,aP _,λ_=>rfl,?_⟩
      have:=aV.take (λ_ _ hx=>cT.size hx) len q8
      rw[iM,dQ (cW _ h1)]at this
      rw[hlen]
      exact this.mono λ_ _ hx=>hx.mono hle.mem
    ·simp only[aj]at he
   ·simp only[aj]at he
  ·simp only[aj]at he
theorem vl:∀(l:List (Nat×Ty)) {s s1:AS},gm C s a w->(asData s l).eval=some s1->gm C s1 a w
 |[],s,s1,h,he=>by
  simp only[asData]at he
  obtain rfl:=aq.1 he
  exact h
 | (j,t)::l,s,s1,h,he=>by
  obtain⟨g,β,h⟩:=h
  simp only[asData]at he
  obtain⟨x,h1,h2⟩:=ak.1 he
  obtain⟨g',i1,_,_,cs,hR,hO⟩:=qc h (h.b8 j) h1
  exact vl l ⟨g',β,i1.Qw j (VS.of (a:= .d t x) (cs:=cs) (by simpa only[V]using hR) hO)⟩ h2
theorem Inv.still:∀(l:List Nat) {s:AS},Inv C g β s a w->Inv C g β (s.still l) a w
 |[],s,h=>h
 |q::l,s,h=>by
  simp only[AS.still]
  split
  ·rename_i v fr i ver k t r cu ju
   exact Inv.still l (h.MN (dG ju) (.inr ⟨rfl,rfl,rfl⟩))
  ·exact Inv.still l h
theorem xG{α:Type}(l:List α):(Fq l).Perm l:=Quotient.exact (s:=Kk α) (Quotient.exists_rep (Quotient.mk (Kk α) l)).choose_spec
theorem Inv.canon:∀(l:List Id) {s:AS},Inv C g β s a w->Inv C g β (s.canon l) a w
 |[],s,h=>h
 |id::l,s,h=>by
  simp only[AS.canon]
  split
  ·rename_i v fr k t r ju
   have cI:=dG ju
   have ht:=Trans.refl w g
   have hle:cD (s.env w g β) ((s.aL id (.obj v fr (.mp k t (Fq r)))).env w g β):=cD.aL cI (az _) ht (λ_ _=>rfl) (λ_=>rfl)
   obtain⟨pl,es,clock,h1,h2,h3,⟨⟨l',h4,h5⟩,h6⟩,h7⟩:=h.bE id v fr _ cI
   refine Inv.canon l (h.step (cX _ _ _) ht hle (gK.aL h.bE (by rw[cI];simp) hle (λ_ _=>rfl) (λ_ _ _ _ _ _ _ _=>⟨rfl,rfl⟩)
    ⟨pl,es,clock,h1,h2,h3,⟨⟨l',h4.mono λ_ _ he=>he.mono hle.mem,h5.trans (xG r).symm⟩,(((xG r).map _).nodup_iff).2 h6⟩,h7⟩ ?_))
   intro ver k' v' l2 hl
   rw[cI]at hl
   simp only[au,dv.obj.injEq]at hl
   obtain⟨rfl,rfl,_⟩:=hl
   exact⟨rfl,rfl,⟨_,_,_,rfl⟩,λ_ _=>⟨rfl,rfl⟩⟩
  ·exact Inv.canon l h
theorem Dp(k v n:Nat)(i:Id)(ver:Nat):(i= .dw k/\ver=v/\nQ k v n i ver=some (.dw k,n))\/(i= .dw k/\nQ k v n i ver=none)\/(i≠ .dw k/\nQ k v n i ver=some (i,ver)):=by
 cases i with
 |new x j=>exact .inr (.inr ⟨by simp,rfl⟩)
 |dw j=>
  simp only[nQ]
  cases h1:Nat.beq j k with
  |false=>exact .inr (.inr ⟨λe=>by injection e with e;subst e;simp at h1,rfl⟩)
  |true=>
   obtain rfl:=ei h1
   cases h2:Nat.beq ver v with
   |false=>exact .inr (.inl ⟨rfl,rfl⟩)
   |true=>exact .inl ⟨rfl,ei h2,rfl⟩
theorem Dm(hC:C.ok){s s1:AS}(h:Inv C g β s a w){k n:Nat}(he:(s.Jh k n).eval=some s1):Inv C g β s1 a w:=by
 unfold AS.Jh at he
 split at he
 rotate_left
 ·exact(aj.1 he).elim
 rename_i v fr c hk
 obtain⟨Te,he⟩:=aA.1 he
 have Te:v<=n\/1<=n:=(Bool.or_eq_true_iff.1 Te).imp fx fx
 have hz:∀ver,C.E.r9 (.dw k) ver->ver=0:=λver hb=>by
  obtain⟨h1,h2⟩:=hb
  cases hs:C.E.s (.dw k) with
  |none=>exact absurd hs h1
  |some en=>
   cases en with
   |dead=>
    have:=(h.le.r9 (.dw k) (v+1) ⟨h1,λv' fr' c' hh=>by rw[hs]at hh;cases hh⟩).2 _ _ _ hk
    omega
   |obj v0 fr0 c0=>
    have:=hC.2 _ _ _ _ hs
    have:=h2 _ _ _ hs
    omega
 obtain rfl:=aq.1 he
 have RP:k < s.cj.length:=by
  rcases kQ k s.cj.length with h | h
  ·exact h
  ·simp[AS.bT,dn h]at hk
 generalize AH:({b8:=s.b8.map (aw.gJ (nQ k v n)),cj:=(s.cj.map (dv.Gp (nQ k v n))).set k (.obj n fr (c.gJ (nQ k v n))),news:=s.news.map λes=>es.map (dv.Gp (nQ k v n))}:AS)=s1
 have e0:s1.bT (.dw k)=some (.obj n fr (c.gJ (nQ k v n))):=by
  rw[<-AH]
  simp[AS.bT,RP]
 have e1:∀i,i≠ .dw k->s1.bT i=(s.bT i).map (dv.Gp (nQ k v n)):=λi hi=>by
  rw[<-AH]
  cases i with
  |dw j=>
   have:¬k=j:=λe=>hi (by rw[e])
   simp only[AS.bT]
   rw[dV this,ez]
  |new x j=>
   simp only[AS.bT,aC,ez]
   cases s.news[x]? <;> simp
 have e2:∀i v' fr' c',i≠ .dw k->s1.bT i=some (.obj v' fr' c')->∃c0,s.bT i=some (.obj v' fr' c0)/\c'=c0.gJ (nQ k v n):=λi v' fr' c' hi hh=>by
  rw[e1 i hi]at hh
  cases hs:s.bT i with
  |none=>rw[hs]at hh;cases hh
  |some en=>
   rw[hs]at hh
   cases en with
   |dead=>simp[dv.Gp]at hh
   |obj v0 fr0 c0=>
    simp only[dE,dv.Gp,au,dv.obj.injEq]at hh
    obtain⟨rfl,rfl,rfl⟩:=hh
    exact⟨c0,rfl,rfl⟩
 have e3:∀i,i≠ .dw k->s.bT i≠none->s1.bT i≠none:=λi hi hh=>by
  rw[e1 i hi]
  cases hs:s.bT i with
  |none=>exact absurd hs hh
  |some en=>simp
 have hle:qm (nQ k v n) (s.env w g β) (s1.env w g β):=by
  refine⟨Trans.mem (E:=s.env w g β) (E':=s1.env w g β) (Trans.refl w g),λi ver r hr HR=> ?_⟩
  rcases Dp k v n i ver with⟨rfl,rfl,e⟩ | ⟨rfl,e⟩ | ⟨hi,e⟩
  ·rw[e]at hr
   obtain rfl:=ba hr
   refine⟨⟨by show s1.bT (.dw k)≠none;rw[e0];simp,λv' fr' c' hh=> ?_⟩,λ_=>⟨⟨fr,c,hk⟩,rfl⟩⟩
   have hh:s1.bT (.dw k)=some (.obj v' fr' c'):=hh
   rw[e0]at hh
   simp only[au,dv.obj.injEq]at hh
   exact Nat.le_of_eq hh.1
  ·rw[e]at hr
   cases hr
  ·rw[e]at hr
   obtain rfl:=ba hr
   obtain⟨k1,k2⟩:=HR
   have k1:s.bT i≠none:=k1
   have k2:∀v' fr' c',s.bT i=some (.obj v' fr' c')->ver<=v':=k2
   refine⟨⟨e3 i hi k1,λv' fr' c' hh=> ?_⟩,λ⟨fr',c',hh⟩=> ?_⟩
   ·obtain⟨c0,yL,_⟩:=e2 i v' fr' c' hi hh
    exact k2 _ _ _ yL
   ·obtain⟨c0,yL,_⟩:=e2 i ver fr' c' hi hh
    exact⟨⟨fr',c0,yL⟩,rfl⟩
 refine⟨h.defers,by rw[<-AH];simpa using h.size,λi=> ?_,λid ver fr' c' cZ=> ?_,h.trans,?_⟩
 ·have:s1.slot i=(s.slot i).gJ (nQ k v n):=by rw[<-AH];exact EK _ rfl _ _
  rw[this]
  exact uk hle (h.b8 i)
 ·have cZ:s1.bT id=some (.obj ver fr' c'):=cZ
  by_cases hi:id= .dw k
  ·subst hi
   rw[e0]at cZ
   simp only[au,dv.obj.injEq]at cZ
   obtain⟨rfl,rfl,rfl⟩:=cZ
   exact nP hle (h.bE (.dw k) v fr c hk) (id':= .dw k) rfl λpl _=>⟨rfl,λ_ h=>h,λh=>h⟩
  ·obtain⟨c0,yL,rfl⟩:=e2 id ver fr' c' hi cZ
   exact nP hle (h.bE id ver fr' c0 yL) (id':=id) rfl λpl _=>⟨rfl,λ_ h=>h,λh=>h⟩
 ·have hl:=h.le
  refine⟨hl.mem.trans (Trans.mem (E:=s.env w g β) (E':=s1.env w g β) (Trans.refl w g)),λid ver hb=> ?_,λid ver hb hc=> ?_⟩
  ·obtain⟨h1,h2⟩:=hl.r9 _ ver hb
   have h1:s.bT id≠none:=h1
   have h2:∀v' fr' c',s.bT id=some (.obj v' fr' c')->ver<=v':=h2
   by_cases hi:id= .dw k
   ·subst hi
    obtain rfl:=hz ver hb
    exact⟨by show s1.bT (.dw k)≠none;rw[e0];simp,λv' fr' c' hh=>aP _⟩
   ·exact⟨e3 id hi h1,λv' fr' c' hh=>let⟨c0,yL,_⟩:=e2 id v' fr' c' hi hh;h2 _ _ _ yL⟩
  ·obtain⟨fr',c',hc⟩:=hc
   have hc:s1.bT id=some (.obj ver fr' c'):=hc
   by_cases hi:id= .dw k
   ·subst hi
    obtain rfl:=hz ver hb
    rw[e0]at hc
    simp only[au,dv.obj.injEq]at hc
    have e4:=hc.1
    obtain rfl:v=0:=by omega
    exact hl.cur _ _ hb ⟨fr,c,hk⟩
   ·obtain⟨c0,yL,_⟩:=e2 id ver fr' c' hi hc
    exact hl.cur _ _ hb ⟨fr',c0,yL⟩
theorem rr(hC:C.ok):∀(l:List (Nat×Nat)) {s s1:AS},Inv C g β s a w->(Dn s l).eval=some s1->Inv C g β s1 a w
 |[],s,s1,h,he=>by
  obtain rfl:=aq.1 he
  exact h
 |x::l,s,s1,h,he=>by
  obtain⟨s2,h1,h2⟩:=ak.1 he
  exact rr hC l (Dm hC h h1) h2
theorem kI(hC:C.ok){an:km}{s1:AS}(h:gm C s a w)(he:(norm P an s).eval=some s1):gm C s1 a w:=by
 unfold norm at he
 obtain⟨sb,Tr,he⟩:=ak.1 he
 obtain⟨su,Tt,he⟩:=ak.1 he
 obtain⟨sd,Rp,he⟩:=ak.1 he
 obtain⟨s0,h1,h2⟩:=ak.1 he
 obtain⟨h3,h4⟩:=aA.1 h2
 obtain⟨sf,h5,h6⟩:=ak.1 h4
 obtain⟨g0,β0,h0⟩:=h
 obtain⟨g1,i1,_⟩:=fb an.FI (rr hC _ h0 Tr)
 obtain⟨g,β,h⟩:=vl _ (pH _ (B7 _ ⟨g1,β0,(i1.still an.Th).canon an.Pg⟩ Tt) Rp) h1
 exact ki hC _ (wX _ ⟨g,β,h.bA hC h3⟩ h5) h6
end
end Go.Ab
end
