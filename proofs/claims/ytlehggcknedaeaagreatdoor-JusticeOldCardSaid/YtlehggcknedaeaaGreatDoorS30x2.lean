/-
  Made short by a program of mine (wip/tools/mini.py).
-/
import Derived.Test.YtlehggcknedaeaaGreatDoorS30x1
import Derived.Lib.Builder
import Derived.Lib.UnsafeStr
import Derived.Lib.AppendZeros
import Derived.Maps.RangeRun
set_option linter.unusedVariables false
set_option linter.unusedSimpArgs false
set_option maxRecDepth 100000
set_option synthInstance.maxSize 5000
open Go renaming IntKind->iv,FuncId->gg,Operand->bF,Program->aK,MapEntry->eZ
open List renaming replicate->ai,length->ae
open Nat renaming beq->gG
open Go.World renaming cell?->eO
open Go.Sem renaming run_bind->bY,run_pure->dA
open Go.Result renaming andThen_ok->bB
open Go.Addr renaming add_lit->eQ
open Go.Op renaming equalIn->dJ,operands->bZ
open Go.Call renaming operands->dG
open Option renaming some->av,none->aF
open Bool renaming true->aS,false->bq
noncomputable section
namespace Go.Ab
section
variable {P:aK} {C:Ctx} {g:Nat->kI} {β:Id->Option Pl} {s:AS} {a:Act} {w:World} {o:Oper}
theorem zF{b:Builtin}{args:Array bF}{ts:Array TypeId}{f:Sem Value}{x:Value}{w':World}(ho:o.op= .call {callee:= .builtin b,args,argTypes:=ts})
  (hb:∀ty cs xs,xs=args.map a.eval->builtin b ts ty cs xs=(do pure (.value (<-f)))) (hf:f.run P w= .ok x w'):(execOp a.eval o).run P w= .ok (.value x) w':=by
 simp only[execOp,ho,resolve,bY,dA,bB,invoke];rw[hb _ _ _ rfl,bY,hf];rfl
theorem awZ(h:Inv C g β s a w){c:Call}{x:bF}{T:TypeId}(ho:o.op= .call c)(hc:c.callee= .builtin .len)(ha:c.args.toList=[x])(ht:c.argTypes.toList=[T]){v:aE}(he:(aCg P T (s.ev x)).eval=av v):
  eX P o a w (gw C (s.put o.dst v)):=by
 obtain⟨cal,args,tys⟩:=c;simp only at hc ha ht;have ha':args= #[x]:=by apply fB;simpa using ha
 have ht':tys= #[T]:=by apply fB;simpa using ht
 subst hc ha' ht';have hx:=h.ev x;have fin:∀z,(Builtin.len_ #[T] 0 #[a.eval x]).run P w= .ok z w->VS (s.env w g β) v z->eX P o a w (gw C (s.put o.dst v)):=by intro z h1 h2;refine h.value h2 (zF ho (f:=Builtin.len_ #[T] 0 #[a.eval x]) (λty cs xs ahr=> ?_) h1);subst ahr;have e1:Builtin.len_ #[T] 0 #[a.eval x]=Builtin.len_ #[T] ty #[a.eval x]:=rfl;rw[e1];simp[builtin]
 unfold aCg at he;split at he
 ·rename_i st hT hl;rw[hl]at hx;obtain rfl:=aA.1 he;refine fin (.int .i64 (st.size:Int)) ?_ (kf _ _)
  rw[Fh hx];simp[Builtin.len_,run_underlying hT,goInt]
 ·rename_i e t l hT hl;rw[hl]at hx;obtain rfl:=aA.1 he;obtain⟨ad,cap,vs,hy,_⟩:=rK hx;refine fin (.int .i64 (l.length:Int)) ?_ (kf _ _)
  rw[hy];simp[Builtin.len_,run_underlying hT,goInt]
 ·rename_i e hT hl;rw[hl]at hx;obtain rfl:=aA.1 he;refine fin (.int .i64 0) ?_ (kf _ _)
  rw[j4 hx];simp[Builtin.len_,run_underlying hT,goInt]
 ·rename_i e id ver p c i len hT hl;rw[hl]at hx;obtain rfl:=aA.1 he;obtain⟨ad,cap,hy,_⟩:=pz hx;refine fin (.int .i64 (len:Int)) ?_ (kf _ _)
  rw[hy];simp[Builtin.len_,run_underlying hT,goInt]
 ·rename_i n e hT;obtain rfl:=aA.1 he;refine fin (.int .i64 (n:Int)) ?_ (kf _ _)
  simp[Builtin.len_,run_underlying hT,goInt]
 ·simp only[aw]at he
def Env.open(E:Env):Env:= {E with g:=λ_=> .free}
theorem aCA(E:Env):cE E E.open:=⟨⟨λ_ _ _ h=>⟨h.1,trivial⟩,λ_ _ _ h=>⟨rfl,h⟩⟩,λ_ _ h=>h,λ_ _ _ h=>⟨h,rfl⟩⟩
theorem aj3(h:Inv C g β s a w){v:aE}{y:Value}(hv:VS (s.env w g β) v y){t:Ty}{x:t.den}(ht:(s.aj2 t v).eval=av x):
  ∃cs,cV (s.env w g β).open t cs x/\fw t.agg cs y:=by
 obtain⟨cs,hV,hO⟩:=hv.ew (zz ht);exact⟨cs,uK rfl h.bH (aCA _) v t x cs hV ht (λid _ v fr c _ pl _ j x hx _=>⟨hx,trivial⟩),by rw[<-UO ht];exact hO⟩
theorem tY{E:Env}{k:iv}:∀ {vs:List Value} {l:List Int},bp (cV E (.int k)) vs l->vs=l.map (Value.int k)
 |vs,[],h=>h
 |_,x::xs,⟨c,cs',e,hx,hr⟩=>by
  have hx':c=[Value.int k x]:=by simpa only[cV]using hx
  rw[e,hx',tY hr];rfl
theorem ug{E:Env}{k:iv}:∀(l:List Int),bp (cV E (.int k)) (l.map (Value.int k)) l
 |[]=>rfl
 |x::xs=>⟨[.int k x],xs.map (Value.int k),rfl,by simp[cV],ug xs⟩
theorem foldl_push(l:List Int):∀b:ByteArray,l.foldl (λr n=>r.push (UInt8.ofNat n.toNat)) b=⟨b.data++(l.map λn=>UInt8.ofNat n.toNat).toArray⟩:=by
 induction l with
 |nil=>intro b;simp
 |cons n l ih=>
  intro b;rw[dS,ih];simp[ByteArray.push]
theorem afw{α:Type}(xs:Array α)(x:α)(f:α->α):(xs.push x).modify xs.size f=xs.push (f x):=by
 apply Array.ext_getElem?;intro i;rw[jw,Array.getElem?_push,Array.getElem?_push];by_cases h:i=xs.size
 ·subst h;simp
 ·have h':¬xs.size=i:=λe=>h e.symm
  simp[h,h']
theorem ZQ(w:World)(c:Array Value)(e:TypeId)(n:Nat):(w.alloc (.cells c e)).freeze ⟨w.heap.size,n,aF⟩ 1=w.alloc (.cells c e (n,n+1)):=by show({w with heap:=(w.heap.push (.cells c e)).modify w.heap.size _}:World)= {w with heap:=w.heap.push (.cells c e (n,n+1))};rw[afw];rfl
theorem adD{w:World}{b:Nat}{c:Array Value}{e:TypeId}{n:Nat}(h:w.heap[b]? =av (.cells c e (n,n+1))):w.freeze ⟨b,n,aF⟩ 1=w:=by
 unfold World.freeze;rw[if_neg ao];have:∀f:Obj->Obj,f (.cells c e (n,n+1))= .cells c e (n,n+1)->w.heap.modify b f=w.heap:=λf hf=>by
  apply Array.ext_getElem?;intro i;rw[jw];split
  ·rename_i hi;subst hi;rw[h];simp[hf]
  ·rfl
 rw[this];simp
theorem Lp(e:TypeId)(st:ByteArray)(w:World):∃cap:Nat,st.size<=cap/\∃arr:Array Value,(∀(j:Nat) (v:Value),((bw st).map (Value.int .u8))[j]? =av v->arr[j]? =av v)/\
  (Conv.stringToBytes e st).run P w= .ok (.slice (av ⟨w.heap.size,0,aF⟩) st.size cap) (w.drew.alloc (.cells arr e (arr.size,arr.size+1))):=by
 refine⟨(Question.appendCap st.size 0 e).cut (w.tape w.drawn (.appendCap st.size 0 e)),by simp[Question.cut],
  (st.data.map λb=>Value.int .u8 b.toNat)++Array.replicate ((Question.appendCap st.size 0 e).cut (w.tape w.drawn (.appendCap st.size 0 e)) - st.size) (.int .u8 0),?_,?_⟩
 ·intro j v hj;have hl:j < st.data.size:=by have:=(List.getElem?_eq_some_iff.1 hj).1;simpa[bw]using this
  rw[Array.getElem?_append,if_pos (by simpa using hl)];simpa[bw,hl]using hj
 ·have hs:∀(arr:Array Value),(markStringish ⟨w.heap.size,0,aF⟩).run P (w.drew.alloc (.cells arr e))= .ok () (w.drew.alloc (.cells arr e (arr.size,arr.size+1))):=by
   intro arr;have h1:(w.drew.alloc (.cells arr e)).shape? w.heap.size=av (e,arr.size):=by
    have h2:(w.drew.alloc (.cells arr e)).heap[w.heap.size]? =av (.cells arr e):=qC w.drew _
    simp only[World.shape?,h2]
   have h3:=ZQ w.drew arr e arr.size;have h4:w.drew.heap.size=w.heap.size:=rfl;rw[h4]at h3;simp only[markStringish,bY,run_shape,h1,bB,run_freeze,h3]
  simp[Conv.stringToBytes,Question.forced,newRow,hs]
theorem Inv.kill(h:Inv C g β s a w){id:Id}{v:Nat}{fr:Bool}{c:aE}(hs:s.bU id=av (.obj v fr c)){b:Nat}(hg:g b= .own (.id id) 0){w':World}(aHd:w'.os=w.os)(aM8:w'.tape=w.tape)(adM:w'.output=w.output/\w.drawn<=w'.drawn)(sh:w'.heap.size=w.heap.size)
  (PU:∀b',b'≠b->w'.heap[b']? =w.heap[b']?):Inv C (l8 g b .free) β (s.aY id .dead) a w':=by
 have ht:Trans w w' g (l8 g b .free):=by
  refine⟨aHd,aM8,adM,ao,λb' hb'=> ?_⟩;by_cases he:b'=b
  ·subst he;rw[hg,eV];exact⟨.inl rfl,λ_ _ hh=>ao⟩
  ·rw[eR _ _ _ he,PU b' he];cases Qj:g b' with
   |free=>exact⟨rfl,rfl⟩
   |own o k=>cases o with
    |dY=>exact⟨rfl,rfl⟩
    |id i=>exact⟨.inr ⟨i,k,rfl,aC _⟩,λoff v _ hv=>by simp only[eO,PU b' he]at hv ⊢;exact hv⟩
 have ln:=ef s id .dead (by rw[hs];simp);have hle:cE (s.env w g β) ((s.aY id .dead).env w' (l8 g b .free) β):=by
  refine⟨Trans.mem ht,λi ver hb=> ?_,λi ver hb hc=> ?_⟩
  ·by_cases hi:i=id
   ·subst hi;exact⟨by show(s.aY i .dead).bU i≠aF;rw[ln];simp,λv fr c hh=>by
     have hh:(s.aY i .dead).bU i=av (.obj v fr c):=hh;rw[ln]at hh;cases hh⟩
   ·have:=cM s id i .dead hi;obtain⟨h1,h2⟩:=hb;exact⟨by show(s.aY id .dead).bU i≠aF;rw[this];exact h1,λv fr c hh=>h2 v fr c (this.symm.trans hh)⟩
  ·obtain⟨fr,c,hc⟩:=hc;have hc:(s.aY id .dead).bU i=av (.obj ver fr c):=hc;by_cases hi:i=id
   ·subst hi;rw[ln]at hc;cases hc
   ·rw[cM s id i .dead hi]at hc;exact⟨⟨fr,c,hc⟩,rfl⟩
 refine h.azl (cY _ _ _) ht hle λi ver fr c hi=> ?_
 have hi:(s.aY id .dead).bU i=av (.obj ver fr c):=hi;by_cases cR:i=id
 ·subst cR;rw[ln]at hi;cases hi
 ·rw[cM s id i .dead cR]at hi;refine(h.bH i ver fr c hi).mono hle rfl (λpl hp=> ?_) λq2 vq k2 v2 l2 MB aMt=> ?_
  ·have gW:=h.apart hg cR hi (pl:=pl) hp;exact⟨PU pl.b gW,eR _ _ _ gW⟩
  ·have MB:s.bU q2=av (.obj vq aS (.mp k2 v2 l2)):=MB;have hd:q2≠id:=λe=>by obtain⟨fr3,c3,aDT⟩:=aMt;have aDT:(s.aY id .dead).bU q2=av (.obj vq fr3 c3):=aDT;rw[e,ln]at aDT;cases aDT
   refine⟨⟨k2,v2,l2,by show(s.aY id .dead).bU q2=_;rw[cM s id q2 .dead hd];exact MB⟩,λpl hp=> ?_⟩;have gW:=h.apart hg hd MB (pl:=pl) hp;exact⟨PU pl.b gW,eR _ _ _ gW⟩
theorem ah6(h:Inv C g β s a w){src dst:TypeId}{x:bF}(ho:o.op= .convert src dst x){id:Id}{ver len:Nat}(hx:s.ev x= .dj id ver [] 0 0 len){s':AS}(he:(ac4 P s o.dst src dst id ver len).eval=av s'):eX P o a w (gw C s'):=by
 unfold ac4 at he;split at he
 ·rename_i v e0 l e la hD;split at he
  ·rename_i hE;obtain⟨h1,h2⟩:=aH.1 he;obtain⟨h3,h4⟩:=bQ.1 h2;obtain rfl:=aA.1 h4;simp only[au,dk]at h1;obtain⟨rfl,rfl⟩:=h1;simp only[aP]at h3;obtain⟨h5,h6⟩:=h3;have cI:=dQ la;have hv:=h.ev x;rw[hx]at hv;obtain⟨ad,cap,hy,MA,_,_,ff⟩:=pz hv;have ff:=ff ⟨bq,_,cI⟩;have hO:sk (s.env w g β) id bq (.vec e0 (.int .u8) l):=h.bH id v bq _ cI;obtain⟨hz,hO⟩:=hO;have hO:(match β id with
    |none=>l=[]
    |some pl=>∃cur k,w.heap[pl.b]? =av (.cells cur e0 (0,0))/\cur.size=pl.cap*(Ty.int .u8).size/\l.length<=pl.cap/\pl.cap<=maxLen/\g pl.b= .own (.id id) k/\
      k<=l.length*(Ty.int .u8).size/\(bq=bq->k=0)/\bp (cV (s.env w g β) (.int .u8)) (cur.toList.take (l.length*(Ty.int .u8).size)) l):=hO
   have ff:(match β id with
    |some pl=>(0 < len\/0=0->ad=av ⟨pl.b,0,aF⟩)/\(([]:List Gm)=[]->0=0->cap=pl.cap)
    |none=>ad=aF/\len=0/\cap=0):=ff
   cases hp:β id with
   |none=>rw[hp]at hO;simp only at hO;subst hO;simp at h6;omega
   |some pl=>
    rw[hp]at hO ff;obtain⟨cur,k,q1,q2,q3,q4,q5,q6,q7,q8⟩:=hO;have hk:=q7 rfl;subst hk;have apY:=ff.1 (.inr rfl);subst apY;have hb:pl.b < w.heap.size:=(cg.1 q1).1;have aIi:∃w',w.freeze ⟨pl.b,cur.size,aF⟩ 1=w'/\w'.heap[pl.b]? =av (.cells cur e0 (cur.size,cur.size+1))/\w'.os=w.os/\w'.tape=w.tape/\(w'.output=w.output/\w.drawn<=w'.drawn)/\w'.heap.size=w.heap.size/\∀b',b'≠pl.b->w'.heap[b']? =w.heap[b']? :=by
     refine⟨_,rfl,?_⟩;unfold World.freeze;rw[if_neg ao];refine⟨?_,rfl,rfl,⟨rfl,aC _⟩,by simp,λb' hb'=> ?_⟩
     ·simp only[jw,bG,q1,da];rfl
     ·simp only[jw];rw[if_neg (λe=>hb' e.symm)]
    obtain⟨w',hw',f1,f2,f3,f4,f5,f6⟩:=aIi;have ahp:w.shape? pl.b=av (e0,cur.size):=by simp only[World.shape?,q1]
    have hm:(markStringish ⟨pl.b,0,aF⟩).run P w= .ok () w':=by simp only[markStringish,bY,run_shape,ahp,bB,run_freeze,hw']
    have i1:=h.kill cI q5 f2 f3 f4 f5 f6;refine .inl ⟨.slice (av ⟨pl.b,0,aF⟩) len cap,w',dK (f:=convert src src (a.eval x)) (by simp only[execOp,ho]) ?_,_,β,i1.put o.dst ⟨_,?_,rfl⟩⟩
    ·rw[hy];simp[convert,run_underlying hD,run_underlying hE,hm]
    ·have PW:=tY q8;have aFz:(Ty.int .u8).size=1:=rfl;rw[aFz,fU]at PW;simp only[V,cV];refine⟨_,cap,l.map (Value.int .u8),by rw[h6],by rw[<-h6];exact MA,λ_=>rfl,λj vv hj=>⟨_,_,rfl,?_,?_⟩,ug (E:=(s.aY id .dead).env w' (l8 g pl.b .free) β) _⟩
     ·rw[Nat.zero_add];show w'.cell? ⟨pl.b,j,aF⟩=av vv;simp only[eO,f1];rw[<-PW,de]at hj;split at hj
      ·simpa using hj
      ·cases hj
     ·show ur (l8 g pl.b .free) pl.b (0+j);unfold ur;rw[eV];trivial
  ·simp only[aw]at he
 ·simp only[aw]at he
theorem aAH(h:Inv C g β s a w){src dst:TypeId}{x:bF}(ho:o.op= .convert src dst x){l:List Int}(hl:s.ev x= .sb l){v:aE}(he:(aur P src dst l).eval=av v):eX P o a w (gw C (s.put o.dst v)):=by
 have hx:=h.ev x;have fin:∀z,(convert src dst (a.eval x)).run P w= .ok z w->VS (s.env w g β) v z->eX P o a w (gw C (s.put o.dst v)):=by intro z h1 h2;exact h.value h2 (dK (f:=convert src dst (a.eval x)) (by simp only[execOp,ho]) h1)
 unfold aur at he;split at he
 ·rename_i e e' hD hS;rw[hl]at hx;split at he
  ·rename_i hE;obtain⟨h1,h2⟩:=aH.1 he;obtain rfl:=aA.1 h2;have h1:src=dst:=by simpa using h1
   subst h1;obtain⟨cs,hv,hO⟩:=hx;simp only[V]at hv;obtain⟨b,cap,arr,e2,ap1,MA,aFp,hb,aiw⟩:=hv;have hO':cs=[a.eval x]:=hO;rw[ap1]at hO';have hy:a.eval x= .slice (av ⟨b,0,aF⟩) l.length cap:=by simpa using hO'.symm
   rw[hD]at hS;obtain rfl:e=e':=by simpa using hS
   refine fin (.slice (av ⟨b,0,aF⟩) l.length cap) ?_ ⟨_,?_,rfl⟩
   ·rw[hy];have hb:w.heap[b]? =av (.cells arr e2 (arr.size,arr.size+1)):=hb
    have aIi:=adD hb;have ahp:w.shape? b=av (e2,arr.size):=by simp only[World.shape?,hb]
    have hm:(markStringish ⟨b,0,aF⟩).run P w= .ok () w:=by simp only[markStringish,bY,run_shape,ahp,bB,run_freeze,aIi]
    simp[convert,run_underlying hD,run_underlying hE,hm]
   ·simp only[V,cV];refine⟨_,cap,l.map (Value.int .u8),rfl,MA,λ_=>rfl,λj v hj=>⟨_,_,rfl,?_,?_⟩,ug (E:=s.env w g β) _⟩
    ·rw[Nat.zero_add];show w.cell? ⟨b,j,aF⟩=av v;have hb:w.heap[b]? =av (.cells arr e2 (arr.size,arr.size+1)):=hb
     simp only[eO,hb];simpa using aiw j v hj
    ·show ur g b (0+j);unfold ur;have aFp:g b= .free:=aFp;rw[aFp];trivial
  ·simp only[aw]at he
 ·simp only[aw]at he
theorem Zl(h:Inv C g β s a w){obj:Bool}{src dst:TypeId}{x:bF}(ho:o.op= .convert src dst x){v:aE}(he:(Xd P s obj src dst (s.ev x)).eval=av v):eX P o a w (gw C (s.put o.dst v)):=by
 have hx:=h.ev x;have fin:∀z,(convert src dst (a.eval x)).run P w= .ok z w->VS (s.env w g β) v z->eX P o a w (gw C (s.put o.dst v)):=by intro z h1 h2;exact h.value h2 (dK (f:=convert src dst (a.eval x)) (by simp only[execOp,ho]) h1)
 unfold Xd at he;split at he
 ·rename_i l hl;exact aAH h ho hl he
 rename_i aIp;unfold auq at he;split at he
 ·rename_i k n k' d hl hD hS;rw[hl]at hx;obtain rfl:=aA.1 he;refine fin (.int k' (k'.wrap n)) ?_ (kf _ _)
  rw[sK hx];simp[convert,run_underlying hD,run_underlying hS,Conv.intToInt]
 ·rename_i st d hl hD hS;rw[hl]at hx;obtain rfl:=aA.1 he;refine fin (.string st) ?_ (YZ _)
  rw[Fh hx];simp[convert,run_underlying hD,run_underlying hS]
 ·rename_i st e d hl hD hS;rw[hl]at hx;split at he
  ·rename_i hE;obtain⟨cap,MA,arr,aiw,oX⟩:=Lp (P:=P) e st w;have i1:=(h.drew).FH (.cells arr e (arr.size,arr.size+1));have hlen:(bw st).length=st.size:=by simp only[bw,bC,cO];rfl
   have h2:=qC w.drew (.cells arr e (arr.size,arr.size+1));have hex:(execOp a.eval o).run P w= .ok (.value (.slice (av ⟨w.heap.size,0,aF⟩) st.size cap)) (w.drew.alloc (.cells arr e (arr.size,arr.size+1))):=by
    refine dK (f:=convert src dst (a.eval x)) (by simp only[execOp,ho]) ?_
    rw[Fh hx];simp[convert,run_underlying hD,run_underlying hS,run_underlying hE,oX]
   have am6:l8 g w.drew.heap.size .free w.heap.size= .free:=by rw[show w.drew.heap.size=w.heap.size from rfl,eV]
   cases obj with
   |false=>
    obtain rfl:=aA.1 he;refine .inl ⟨_,_,hex,_,β,i1.put o.dst ⟨_,?_,rfl⟩⟩;simp only[V,cV];refine⟨_,cap,(bw st).map (Value.int .u8),by rw[hlen],ao,λ_=>rfl,λj v hj=>⟨_,_,rfl,?_,?_⟩,ug (E:=s.env (w.drew.alloc (.cells arr e (arr.size,arr.size+1))) (l8 g w.drew.heap.size .free) β) _⟩
    ·have:=aiw j v hj;rw[Nat.zero_add];show(w.drew.alloc (.cells arr e (arr.size,arr.size+1))).cell? ⟨w.drew.heap.size,j,aF⟩=av v;simp only[eO,h2];simpa using this
    ·show ur (l8 g w.drew.heap.size .free) w.heap.size (0+j);unfold ur;rw[am6];trivial
   |true=>
    obtain rfl:=aA.1 he;refine .inl ⟨_,_,hex,_,β,i1.put o.dst ⟨_,?_,rfl⟩⟩;simp only[V];exact⟨w.heap.size,cap,arr,e,by rw[hlen],ao,am6,h2,aiw⟩
  ·simp only[aw]at he
 ·rename_i e hD hS gW;clear gW;split at he
  ·rename_i hE;obtain⟨l,h1,h2⟩:=az.1 he;obtain rfl:=aA.1 h2;obtain⟨cs,hR,hO⟩:=aj3 h hx h1;simp only[cV]at hR;obtain⟨ad,cap,vs,rfl,ate,oY,lb,dx⟩:=hR;have hO': [Value.slice ad (ae l) cap]=[a.eval x]:=hO;have hy:a.eval x= .slice ad (ae l) cap:=by simpa using hO'.symm
   refine fin (.string (gO l)) ?_ (YZ _)
   rw[hy,run_convert_bytes_string w src dst e ad _ _ hS hE hD];have PW:=tY (E:=(s.env w g β).open) (k:= .u8) (vs:=vs) (l:=l) dx;cases ad with
   |none=>
    have aIp:l=[]:=by
     cases l with
     |nil=>rfl
     |cons _ _=>simp at oY
    subst aIp;rfl
   |some ad=>
    have avH:(loadCells ad (ae l)).run P w= .ok (l.map (Value.int .u8)).toArray w:=by
     have:=run_loadCells_list (P:=P) w ad (l.map (Value.int .u8)) (λj v hj=>by
      rw[<-PW]at hj;obtain⟨bb,off,e1,hh⟩:=lb j v hj;simp only[aB]at e1;subst e1;rw[eQ];exact hh.1)
     simpa using this
    rw[run_bytesToString w ad _ _ l avH,foldl_push];simp[gO]
  ·simp only[aw]at he
 ·simp only[aw]at he
end
end Go.Ab
namespace Go.Ab
section
variable {P:aK} {C:Ctx} {g:Nat->kI} {β:Id->Option Pl} {s:AS} {a:Act} {w:World} {o:Oper}
theorem Xz(off:Nat):∀(vs:List Value) (k:Nat) (cells:Array Value),off+k+vs.length<=cells.size->
  ((vs.zipIdx k).foldl (λcs (c,j)=>cs.setIfInBounds (off+j) c) cells).toList=dm cells.toList (off+k) vs
 |[],k,cells,_=>by simp[dm]
 |v::vs,k,cells,h=>by simp only[aI]at h;rw[List.zipIdx_cons,dS,Xz off vs (k+1) _ (by simpa using(by omega:off+(k+1)+vs.length<=cells.size))];rw[Array.toList_setIfInBounds];have:=list_seg_step cells.toList (off+k) v vs (by simp;omega);unfold dm;simpa[dP]using this
theorem Xu{place:Nat->Option (Nat×Nat)}{cells:Array Value}{i off:Nat}{v:Value}{vs:List Value}{rest:List (Nat×Value)}(hp:place i=av (off,vs.length))(hv:v.cells=vs.toArray)(hl:off+vs.length<=cells.size):
  Instr.fill place cells ((i,v)::rest)=Instr.fill place (dm cells.toList off vs).toArray rest:=by
 have h1:v.cells.size=vs.length:=by rw[hv];simp
 have h2:¬(v.cells.size≠vs.length || off+v.cells.size > cells.size)=aS:=by simp[h1];omega
 simp only[Instr.fill,hp];rw[if_neg h2];congr 1;apply fB;have:=Xz off vs 0 cells ao;simp only[cz]at this;rw[<-this,hv];rw[<-Array.foldl_toList];simp
theorem Ah{E E':Env}(hs:E.s=s.bU)(ho:gN E)(he:cE E E'){t:Ty}(adK:∀x,VS E (s.ev x) (a.eval x)):
  ∀(ps:List (Nat×bF)) (l:List t.den) (r:List t.den×List Id) (cells:Array Value),(iH t s ps l).eval=av r->aHw E E' r.2->bp (cV E' t) cells.toList l->
   ∃cells',Instr.fill (λi=>av (i*t.size,t.size)) cells (ps.map λ(i,x)=>(i,a.eval x))=av cells'/\bp (cV E' t) cells'.toList r.1
 |[],l,r,cells,h,_,hc=>by obtain rfl:=aA.1 h;exact⟨cells,rfl,hc⟩
 | (i,x)::ps,l,r,cells,h,hf,hc=>by
  simp only[iH]at h;obtain⟨h1,h2⟩:=aH.1 h;obtain⟨y,h3,h4⟩:=az.1 h2;obtain⟨r',h5,h6⟩:=az.1 h4;obtain rfl:=aA.1 h6;have hi:i < l.length:=by simpa using h1
  obtain⟨cs,hV,hO⟩:=(adK x).ew (zz h3);have hR:=uK hs ho he _ t y cs hV h3 (λid cR=>hf id (by simp[cR]));have D7:=hO.cells hV.one;have hlen:=hc.length (λ_ _ hx=>cV.size hx);have sh:=hR.size;have hle:i*t.size+cs.length<=cells.size:=by have:=cW t.size (show i+1<=l.length by omega);rw[ei,gY]at this;simp at hlen;omega
  have Z4:=bp.set (λ_ _ hx=>cV.size hx) hc i hi hR;obtain⟨cells',q1,q2⟩:=Ah hs ho he adK ps (l.set i y) r' (dm cells.toList (i*t.size) cs).toArray h5 (λid cR=>hf id (by simp[cR])) Z4;refine⟨cells',?_,q2⟩;rw[bE,Xu (by rw[sh]) D7 hle];exact q1
theorem rq{E:Env}{t:Ty}{zc:Array Value}(hz:cV E t zc.toList t.zero):∀n:Nat,bp (cV E t) (madeCells zc (n*t.size)).toList (ai n t.zero):=by
 have sh:zc.size=t.size:=by have:=hz.size;simpa using this
 intro n
 induction n with
 |zero=>simp[madeCells,bp]
 |succ n ih=>
  have e:(madeCells zc ((n+1)*t.size)).toList=(madeCells zc (n*t.size)).toList++zc.toList:=by
   apply List.ext_getElem?;intro j;rw[ei,gY];simp only[madeCells,Array.toList_map,Array.toList_range,List.getElem?_map,List.getElem?_append,bC,List.length_range];by_cases hj:j < n*t.size
   ·have hj':j < n*t.size+t.size:=ao;simp[hj,hj',sh]
   ·by_cases hj':j < n*t.size+t.size
    ·have iI:j - n*t.size < zc.size:=ao;have hm:j%t.size=j - n*t.size:=by
      have:j=(j - n*t.size)+t.size*n:=by rw[Nat.mul_comm t.size n];omega
      rw[this,Nat.add_mul_mod_self_left,Nat.mod_eq_of_lt ao];rw[Nat.mul_comm t.size n];omega
     simp[hj,hj',sh,hm];rw[getElem?_pos zc _ iI,getElem!_pos zc _ iI]
    ·have h1:¬j - n*t.size < zc.size:=ao;simp[hj,hj',h1]
  rw[e,List.replicate_succ'];exact bp.append ih (bp.one hz)
theorem oW{nl:Bool}{T:TypeId}{e:TypeId}{t:Ty}{b:Nat}(h:BH P nl T=av (e,t,b)):
  P.underlying T=av (.slice e)/\0 < t.size/\∃i zv,P.info? e=av i/\i.size=t.size/\i.bytes=b/\i.zero=av zv/\∀E,cV E t zv.cells.toList t.zero:=by
 unfold BH at h;split at h
 ·rename_i e' hT;split at h
  ·rename_i t' ht;split at h
   ·rename_i hg;simp only[aB,cG]at h;obtain⟨rfl,rfl,rfl⟩:=h;simp only[au,cr,dk,fC]at hg;obtain⟨⟨h1,h2⟩,h3⟩:=hg;obtain⟨i,zv,hi,hz,_,_⟩:=tg h3 {w:=default,g:=λ_=> .free,β:=λ_=>aF,s:=λ_=>aF};refine⟨hT,ao,i,zv,hi,by rw[<-lM hi];exact h1,by simp[Program.bytesOf,hi],hz,λE=> ?_⟩;obtain⟨i',zv',hi',hz',hV,_⟩:=tg h3 E;rw[hi]at hi';obtain rfl:i=i':=by simpa using hi'
    rw[hz]at hz';obtain rfl:zv=zv':=by simpa using hz'
    simpa only[V]using hV
   ·cases h
  ·cases h
 ·cases h
theorem zN{T:TypeId}{e:TypeId}{t:Ty}{b:Nat}(h:Qd P T=av (e,t,b)):P.underlying T=av (.slice e)/\0 < t.size/\∃i zv,P.info? e=av i/\i.size=t.size/\i.bytes=b/\i.zero=av zv/\∀E,cV E t zv.cells.toList t.zero:=oW h
theorem Vq{T:TypeId}{e:TypeId}{t:Ty}{b:Nat}(h:ZE P T=av (e,t,b)):0 < t.size:=by
 unfold ZE at h;split at h
 ·exact(oW h).2.1
 ·exact(oW h).2.1
theorem Inv.aaS(h:Inv C g β s a w){q:Nat}(hq:s.dM q=aS){e:TypeId}{t:Ty}{l:List t.den}{cur:Array Value}{cap:Nat}(hz:0 < t.size)(hc:bp (cV (s.env w g β) t) (cur.toList.take (l.length*t.size)) l)
  (hs:cur.size=cap*t.size) (hl:l.length<=cap) (hm:cap<=maxLen):
  ∃g' β',Inv C g' β' (s.born q [.obj 0 bq (.vec e t l)]) a (w.alloc (.cells cur e))/\
   VS ((s.born q [.obj 0 bq (.vec e t l)]).env (w.alloc (.cells cur e)) g' β') (.dj (.new q 0) 0 [] 0 0 l.length) (.slice (av ⟨w.heap.size,0,aF⟩) l.length cap):=by
 have ht:=Trans.alloc w g (.cells cur e) (.own (.id (.new q 0)) 0);obtain⟨h1,h2⟩:=h.Mi hq (c:= .vec e t l) (p:=av ⟨w.heap.size,cap⟩) ht (λb hb=>⟨oV w _ hb,eR _ _ _ ao⟩) (λhe=>by
  refine⟨hz,?_⟩;show(match FD β (.new q 0) (av ⟨w.heap.size,cap⟩) (.new q 0) with
   |none=>l=[]
   |some pl=>_)
  rw[jk];exact⟨cur,0,qC w _,hs,hl,hm,eV _ _ _,aO _,λ_=>rfl,hc.mono λ_ _ hx=>hx.mono he.mem⟩)
 refine⟨_,_,h1,_,?_,rfl⟩;simp only[V];refine⟨_,_,rfl,hl,λ_=>rfl,nT hq _ _ _ _,λ_=> ?_⟩;show(match FD β (.new q 0) (av ⟨w.heap.size,cap⟩) (.new q 0) with
   |some pl=>_
   |none=>_)
 rw[jk];exact⟨λ_=>rfl,λ_ _=>rfl⟩
theorem Inv.axx(h:Inv C g β s a w){q:Nat}(hq:s.dM q=aS){e:TypeId}{t:Ty}(hz:0 < t.size):
  ∃β',Inv C g β' (s.born q [.obj 0 bq (.vec e t [])]) a w/\cE (s.env w g β) ((s.born q [.obj 0 bq (.vec e t [])]).env w g β')/\
   VS ((s.born q [.obj 0 bq (.vec e t [])]).env w g β') (.dj (.new q 0) 0 [] 0 0 0) (.slice aF 0 0):=by
 have ht:=Trans.refl w g;obtain⟨h1,h2⟩:=h.Mi hq (c:= .vec e t []) (p:=aF) ht (λb hb=>⟨rfl,rfl⟩) (λhe=>by
  refine⟨hz,?_⟩;show(match FD β (.new q 0) aF (.new q 0) with
   |none=>([]:List t.den)=[]
   |some pl=>_)
  rw[jk])
 refine⟨_,h1,h2,_,?_,rfl⟩;simp only[V];refine⟨_,_,rfl,aC _,λhh=>ao,nT hq _ _ _ _,λ_=> ?_⟩;simp[AS.env]
theorem Na(parts:Array (Nat×bF)):(parts.map λ(i,x)=>(i,a.eval x)).toList=parts.toList.map λ(i,x)=>(i,a.eval x):=by simp
theorem PN(h:Inv C g β s a w){T:TypeId}{n:Nat}{parts:Array (Nat×bF)}{nl obj:Bool}(ho:o.op= .buildSlice T n parts){s':AS}(he:(lj P s nl obj o.dst T n parts.toList).eval=av s'):eX P o a w (gw C s'):=by
 unfold lj at he;split at he
 ·rename_i e t b q Dz hd;obtain⟨hT,hz,i,zv,hi,ap4,aBg,ahs,ap9⟩:=oW Dz;obtain⟨h1,h2⟩:=aH.1 he;obtain⟨r,h3,h4⟩:=az.1 h2;simp only[aP]at h1;obtain⟨g1,i1,e1,t1,f1⟩:=eS r.2 h;have aHk:zv.cells.size=t.size:=by have:=(ap9 (s.env w g β)).size;simpa using this
  obtain⟨cells',aIg,dx⟩:=Ah (a:=a) rfl h.bH e1 h.ev parts.toList _ r (madeCells zv.cells (n*t.size)) h3 f1 (rq (ap9 _) n);have aIt:r.1.length=n:=by
   have:∀(ps:List (Nat×bF)) (l:List t.den) (r:List t.den×List Id),(iH t s ps l).eval=av r->r.1.length=l.length:=by
    intro ps
    induction ps with
    |nil=>intro l r hh;obtain rfl:=aA.1 hh;rfl
    |cons p ps ih=>
     intro l r hh;obtain⟨i,x⟩:=p;simp only[iH]at hh;obtain⟨_,h2⟩:=aH.1 hh;obtain⟨y,h3,h4⟩:=az.1 h2;obtain⟨r',h5,h6⟩:=az.1 h4;obtain rfl:=aA.1 h6;have:=ih _ _ h5;simpa using this
   rw[this _ _ _ h3];simp
  have atc:=dx.length (λ_ _ hx=>cV.size hx);have oX:(execOp a.eval o).run P w= .ok (.value (.slice (av ⟨w.heap.size,0,aF⟩) n n)) (w.alloc (.cells cells' e)):=by
   refine dK (f:=Instr.buildSlice T n (parts.map λ(i,x)=>(i,a.eval x))) (by simp only[execOp,ho]) ?_
   have aH2:¬n*t.size > 2^24:=ao;have hfill':Instr.fill (λi=>av (i*t.size,t.size)) ((Array.range (n*t.size)).map (λx=>(zv.cells)[x%zv.cells.size]!)) (parts.map λ(i,x)=>(i,a.eval x)).toList=av cells':=by rw[Na];exact aIg
   by_cases hn:n*t.size=0
   ·have aFx:n=0:=by
     rcases Nat.mul_eq_zero.1 hn with h' | h'
     ·exact h'
     ·omega
    subst aFx;simp only[lH]at hfill' aH2;have h0:Array.range 0= #[]:=rfl;rw[h0,Array.map_empty]at hfill';simp at hfill';simp[Instr.buildSlice,run_underlying hT,run_sizeOf hi,ap4,newRow,h0,hfill']
   ·simp[Instr.buildSlice,run_underlying hT,run_sizeOf hi,ap4,newRow,hn,aH2,zeroValue,typeInfo,hi,ahs];simp at hfill';simp[hfill']
  cases obj with
  |true=>
   simp only at h4;obtain⟨hq,h5⟩:=aH.1 h4;obtain rfl:=aA.1 h5;rw[<-tf r.2]at hq;have aIh:cells'.toList.take (r.1.length*t.size)=cells'.toList:=bu ao;obtain⟨g2,β2,i2,Ql⟩:=i1.aaS hq (e:=e) (l:=r.1) (cur:=cells') (cap:=n) hz (by rw[aIh];exact dx) (by simp at atc;rw[atc,aIt]) ao (by
    have:n<=n*t.size:=Nat.le_mul_of_pos_right n hz;unfold maxLen;omega)
   refine .inl ⟨_,_,oX,g2,β2,?_⟩;rw[hd];rw[aIt]at Ql ⊢;exact i2.put (av q) Ql
  |false=>
   simp only at h4;obtain rfl:=aA.1 h4;have i2:=i1.FH (.cells cells' e);refine .inl ⟨_,_,oX,l8 g1 w.heap.size .free,β,?_⟩;rw[hd];refine i2.put (av q) ⟨[.slice (av ⟨w.heap.size,0,aF⟩) n n],?_,rfl⟩;simp only[V,cV];refine⟨_,n,cells'.toList,by rw[aIt],ao,λ_=>rfl,λj v hj=>⟨_,_,rfl,?_,?_⟩,dx.mono λ_ _ hx=>hx.mono (Trans.mem (E:=(s.bn r.2).env w g1 β) (E':=(s.bn r.2).env (w.alloc (.cells cells' e)) (l8 g1 w.heap.size .free) β) (Trans.alloc w g1 (.cells cells' e) .free))⟩
   ·show(w.alloc (.cells cells' e)).cell? ⟨w.heap.size,0+j,aF⟩=av v;rw[World.cell?_alloc_new,Nat.zero_add];simpa using hj
   ·show ur (l8 g1 w.heap.size .free) w.heap.size (0+j);unfold ur;rw[eV];trivial
 ·simp only[aw]at he
theorem SX(h:Inv C g β s a w){T:TypeId}{x y:bF}(ho:o.op= .makeSlice T x y){len cap:Int}(hx:(asInt (s.ev x)).eval=av len)(hy:(asInt (s.ev y)).eval=av cap){s':AS}
  (he:(pT P s o.dst T len cap).eval=av s'):eX P o a w (gw C s'):=by
 obtain⟨k,hx⟩:=xe (h.ev x) hx;obtain⟨k',hy⟩:=xe (h.ev y) hy;unfold pT at he;split at he
 ·rename_i e t b q Dz hd;obtain⟨hT,hz,i,zv,hi,ap4,aBg,ahs,ap9⟩:=zN Dz;obtain⟨hq,h2⟩:=aH.1 he;obtain⟨h3,h4⟩:=bQ.1 h2;obtain rfl:=aA.1 h4;simp only[au,aP,db]at h3;obtain⟨⟨h5,h6⟩,h7,h8⟩:=h3;have hbytes:(i.bytes:Int)*cap<=281474976710656:=by rw[aBg];have:((cap.toNat*b:Nat):Int)<=140737488355328:=ao;rw[ph,show((cap.toNat:Nat):Int)=cap by omega,Int.mul_comm]at this;omega
  have hr:=run_make (P:=P) w T e i zv hT hi ahs k k' len cap h5 h6 hbytes ao;rw[ap4]at hr;have aHk:zv.cells.size=t.size:=by have:=(ap9 (s.env w g β)).size;simpa using this
  have zP:=rq (ap9 (s.env w g β)) cap.toNat;have aFG:=bp.take (λ_ _ hx=>cV.size hx) len.toNat zP;rw[List.take_replicate,fN ao]at aFG;obtain⟨g2,β2,i2,Ql⟩:=h.aaS hq (e:=e) (l:=ai len.toNat t.zero) (cur:=madeCells zv.cells (cap.toNat*t.size)) (cap:=cap.toNat) hz (by rw[cv];exact aFG) (size_madeCells _ _) (by rw[cv];omega) (by unfold maxLen;omega);rw[cv]at Ql;refine .inl ⟨_,_,dK (f:=Instr.makeSlice T (a.eval x) (a.eval y)) (by simp only[execOp,ho]) (by rw[hx,hy];exact hr),g2,β2,?_⟩;rw[hd];exact i2.put (av q) Ql
 ·simp only[aw]at he
end
end Go.Ab
namespace Go.Ab
section
variable {P:aK} {C:Ctx} {g:Nat->kI} {β:Id->Option Pl} {s:AS} {a:Act} {w:World} {o:Oper}
theorem aj0:∀(c:aE) (f off:Nat) (v:aE),partOf c f=av (off,v)->(loc c (mr f)).eval=av (off,v):=by
 intro c f
 induction f generalizing c with
 |zero=>
  intro off v h;cases c with
  |d t y=>
   cases t <;> simp only[partOf,reduceCtorEq]at h;simp only[aB,cG]at h;obtain⟨rfl,rfl⟩:=h;rfl
  |pr b c=>
   simp only[partOf,aB,cG]at h;obtain⟨rfl,rfl⟩:=h;simp only[mr,loc];cases b <;> rfl
  |_=>simp only[partOf,reduceCtorEq]at h
 |succ f ih=>
  intro off v h;cases c with
  |d t y=>
   cases t with
   |pair ta tb=>
    simp only[partOf]at h;cases hp:partOf (.d tb y.2) f with
    |none=>rw[hp]at h;cases h
    |some r=>
     rw[hp]at h;simp only[aB,cG]at h;obtain⟨rfl,rfl⟩:=h;simp only[mr,loc,az];exact⟨_,ih _ _ _ hp,rfl⟩
   |_=>simp only[partOf,reduceCtorEq]at h
  |pr b c=>
   simp only[partOf]at h;cases hp:partOf c f with
   |none=>rw[hp]at h;cases h
   |some r=>
    rw[hp]at h;simp only[aB,cG]at h;obtain⟨rfl,rfl⟩:=h;simp only[mr,loc,az];exact⟨_,ih _ _ _ hp,rfl⟩
  |_=>simp only[partOf,reduceCtorEq]at h
theorem aeY(a b:aE):(KH a b).agg=aS:=by unfold KH;split <;> rfl
theorem WJ{v x v':aE}{i:Nat}(h:(vm v (mr i) x).eval=av v'):v'.agg=aS:=by
 have fin:∀ {o:Out aE} {f:aE->aE},(∀a,(f a).agg=aS)->(o.bind λa=>Out.ok (f a)).eval=av v'->v'.agg=aS:=by intro o f hf hh;obtain⟨_,_,h2⟩:=az.1 hh;obtain rfl:=aA.1 h2;exact hf _
 cases i <;> simp only[mr]at h
 all_goals
  cases v with
  |d t y=>cases t <;> first | (simp only[vm,aw]at h;done) | (simp only[vm]at h;exact fin (λ_=>aeY _ _) h)
  |pr b c=>simp only[vm]at h;exact fin (λ_=>aeY _ _) h
  |_=>simp only[vm,aw]at h
theorem E3{E:Env}(adK:∀x,VS E (s.ev x) (a.eval x)){fs:Array Field}{places:Array (Nat×Nat)}(FQ:∀(i:Nat) (f:Field),fs[i]? =av f->places[i]? =av (f.offset,P.cellsOf f.type)):
  ∀(ps:List (Nat×bF)) (v v':aE) (cells:Array Value),(ou P fs s ps v).eval=av v'->V E v cells.toList->v.agg=aS->
   ∃cells',Instr.fill (places[·]?) cells (ps.map λ(i,x)=>(i,a.eval x))=av cells'/\V E v' cells'.toList/\v'.agg=aS
 |[],v,v',cells,h,hV,I9=>by obtain rfl:=aA.1 h;exact⟨cells,rfl,hV,I9⟩
 | (i,x)::ps,v,v',cells,h,hV,I9=>by
  simp only[ou]at h;split at h
  ·rename_i f off cl hf hp;obtain⟨h1,h2⟩:=aH.1 h;obtain⟨v1,h3,h4⟩:=az.1 h2;simp only[au,dk]at h1;obtain⟨⟨rfl,aJu⟩,aLG⟩:=h1;obtain⟨aiy,_⟩:=pN aLG;obtain⟨cs,hVx,hO⟩:=(adK x).ew aiy;have hcells:=hO.cells hVx.one;have aKu:=aj0 _ _ _ _ hp;obtain⟨u1,u2,u3⟩:=oB (mr i) v cells.toList f.offset cl (s.ev x) v1 cs (VO.of hV) aKu hVx h3;have aIx:v1.gI=bq:=u3.ra hV.ra;have sh:P.cellsOf f.type=cs.length:=by rw[(D0 aLG).2.1];exact hVx.size.symm
   obtain⟨cells',q1,q2,q3⟩:=E3 adK FQ ps v1 v' (dm cells.toList f.offset cs).toArray h4 (by simpa using u2.to aIx) (WJ h3);refine⟨cells',?_,q2,q3⟩;rw[bE,Xu (by rw[FQ i f hf,sh]) hcells (by simpa using u1)];exact q1
  ·simp only[aw]at h
theorem afT{α γ:Type}(f:α->Sem γ)(r:α->γ):∀(l:List α),(∀x∈l,(f x).run P w= .ok (r x) w)->(l.mapM f).run P w= .ok (l.map r) w
 |[],_=>by simp
 |x::xs,h=>by rw[List.mapM_cons];simp only[bY,h x (by simp),bB,afT f r xs (λy hy=>h y (by simp[hy])),dA,bE]
theorem ahQ(h:Inv C g β s a w){T:TypeId}{parts:Array (Nat×bF)}(ho:o.op= .build T parts){s':AS}(he:(DL P s o.dst T parts.toList).eval=av s'):eX P o a w (gw C s'):=by
 unfold DL at he;split at he
 ·rename_i fs hT;split at he
  ·rename_i z aOf;obtain⟨h1,h2⟩:=aH.1 he;obtain⟨v,h3,h4⟩:=az.1 h2;obtain rfl:=aA.1 h4;simp only[au,cS]at h1;obtain⟨⟨hz,I9⟩,aKp⟩:=h1;obtain⟨i,zv,hi,ahs,hV,hO⟩:=tg hz (s.env w g β)
   let places:Array (Nat×Nat):=fs.map λf=>(f.offset,P.cellsOf f.type)
   have FQ:∀(i:Nat) (f:Field),fs[i]? =av f->places[i]? =av (f.offset,P.cellsOf f.type):=by intro i f hf;simp[places,hf]
   obtain⟨cells',q1,q2,q3⟩:=E3 (a:=a) h.ev FQ parts.toList z v zv.cells h3 hV I9;have hm:(fs.mapM λf=>(do pure (f.offset,<-sizeOf f.type):Sem (Nat×Nat))).run P w= .ok places w:=by
    rw[Array.mapM_eq_mapM_toList];have:=afT (P:=P) (w:=w) (λf=>(do pure (f.offset,<-sizeOf f.type):Sem (Nat×Nat))) (λf=>(f.offset,P.cellsOf f.type)) fs.toList (by
     intro f hf;obtain⟨j,hj⟩:=cd.1 (aKp f hf);rw[bY,run_sizeOf hj,lM hj];rfl)
    rw[Sem.run_map,this];show Result.ok _ w=Result.ok _ w;congr 1;apply fB;simp[places]
   refine h.value (x:= .agg cells') (VS.of q2 (by rw[q3];simp[fw])) (dK (f:=Instr.build T (parts.map λ(i,x)=>(i,a.eval x))) (by simp only[execOp,ho]) ?_);have q1':Instr.fill (places[·]?) zv.cells (parts.map λ(i,x)=>(i,a.eval x)).toList=av cells':=by rw[Na];exact q1
   simp only[Instr.build,bY,zeroValue,typeInfo,run_program,hi,bB,dA,ahs,run_underlying hT,hm,q1']
  ·simp only[aw]at he
 ·rename_i n e hT;split at he
  ·rename_i t ht;obtain⟨h1,h2⟩:=aH.1 he;obtain⟨r,h3,h4⟩:=az.1 h2;obtain rfl:=aA.1 h4;simp only[au,dk]at h1;obtain⟨sh,hz⟩:=h1;obtain⟨g1,i1,e1,t1,f1⟩:=eS r.2 h;obtain⟨i,zv,hi,ahs,hV,hO⟩:=tg hz ((s.bn r.2).env w g1 β);simp only[V,cV]at hV;obtain⟨cells',q1,q2⟩:=Ah (a:=a) rfl h.bH e1 h.ev parts.toList _ r zv.cells h3 f1 hV.2;have aIt:r.1.length=n:=by
    have:∀(ps:List (Nat×bF)) (l:List t.den) (r:List t.den×List Id),(iH t s ps l).eval=av r->r.1.length=l.length:=by
     intro ps
     induction ps with
     |nil=>intro l r hh;obtain rfl:=aA.1 hh;rfl
     |cons p ps ih=>
      intro l r hh;obtain⟨i,x⟩:=p;simp only[iH]at hh;obtain⟨_,h2⟩:=aH.1 hh;obtain⟨y,h3,h4⟩:=az.1 h2;obtain⟨r',h5,h6⟩:=az.1 h4;obtain rfl:=aA.1 h6;have:=ih _ _ h5;simpa using this
    rw[this _ _ _ h3];simp
   refine .inl ⟨.agg cells',w,dK (f:=Instr.build T (parts.map λ(i,x)=>(i,a.eval x))) (by simp only[execOp,ho]) ?_,g1,β,i1.put o.dst ⟨cells'.toList,?_,by simp[fw,aE.agg,Ty.agg]⟩⟩
   ·have q1':Instr.fill (λi=>av (i*t.size,t.size)) zv.cells (parts.map λ(i,x)=>(i,a.eval x)).toList=av cells':=by rw[Na];exact q1
    cases aKm:P.info? e with
    |none=>
     exfalso;unfold ahc UZ at ht;simp only[depth]at ht;have:P.underlying e=aF:=by simp[Program.underlying,aKm]
     rw[this]at ht;cases ht
    |some ie=>
     have aHg:=run_sizeOf aKm w;rw[<-lM aKm,sh]at aHg;simp only[Instr.build,bY,zeroValue,typeInfo,run_program,hi,bB,dA,ahs,run_underlying hT,aHg,q1']
   ·simp only[V,cV];exact⟨aIt,q2⟩
  ·simp only[aw]at he
 ·simp only[aw]at he
theorem NC{T X ty e:TypeId}{i:TypeInfo}(hT:P.underlying T=av (.slice e))(hX:P.underlying X=av .string\/∃e',P.underlying X=av (.slice e'))(hi:P.info? e=av i)
  {b sLen sCap:Nat} {cur:Array Value} (hg:w.heap[b]? =av (.cells cur e (0,0))) {x:Value} {n:Nat} {news:List Value} (h1:∀u∈news,u.oneCell'=aS)
  (hlen:(Builtin.lenOf x).run P w= .ok n w) (hf:(Builtin.firstCells i.size n x).run P w= .ok news.toArray w) (G3:sLen+n<=sCap) (Z0:sLen*i.size+news.length<=cur.size):
  (Builtin.append_ #[T,X] ty #[.slice (av ⟨b,0,aF⟩) sLen sCap,x]).run P w= .ok (.slice (av ⟨b,0,aF⟩) (sLen+n) sCap) (w.setRow b (dm cur.toList (sLen*i.size) news).toArray):=by
 have pO:=run_storeCells_at P b (sLen*i.size) e news 0 cur w hg (by simpa using Z0) h1;simp only[cz]at pO;rcases hX with hX | ⟨e',hX⟩ <;> simp[Builtin.append_,run_underlying hT,run_underlying hX,sizeOf,typeInfo,hi,hlen,G3,hf,eQ,pO,dm]
theorem Df{T X ty e:TypeId}{i:TypeInfo}(hT:P.underlying T=av (.slice e))(hX:P.underlying X=av .string\/∃e',P.underlying X=av (.slice e'))(hi:P.info? e=av i)
  {x:Value} (hlen:(Builtin.lenOf x).run P w= .ok 0 w) (hf:(Builtin.firstCells i.size 0 x).run P w= .ok #[] w):
  (Builtin.append_ #[T,X] ty #[.slice aF 0 0,x]).run P w= .ok (.slice aF 0 0) w:=by
 rcases hX with hX | ⟨e',hX⟩ <;> simp[Builtin.append_,run_underlying hT,run_underlying hX,sizeOf,typeInfo,hi,hlen,hf]
theorem NB{T X ty e:TypeId}{i:TypeInfo}{zv:Value}(hT:P.underlying T=av (.slice e))(hX:P.underlying X=av .string\/∃e',P.underlying X=av (.slice e'))(hi:P.info? e=av i)(ahs:i.zero=av zv)
  {ad:Option Addr} {sLen sCap:Nat} {bS:List Value} (ho:(Builtin.firstCells i.size sLen (.slice ad sLen sCap)).run P w.drew= .ok bS.toArray w.drew) {x:Value} {n:Nat} {news:List Value}
  (hlen:(Builtin.lenOf x).run P w= .ok n w) (hf:(Builtin.firstCells i.size n x).run P w.drew= .ok news.toArray w.drew) (G3:sCap < sLen+n)
  (aLC:((sLen+n:Nat):Int)<=9223372036854775807) (Z0:(sLen+n)*i.bytes<=140737488355328):
  (Builtin.append_ #[T,X] ty #[.slice ad sLen sCap,x]).run P w= .ok (.slice (av ⟨w.heap.size,0,aF⟩) (sLen+n) (grownCap w (sLen+n) sCap e))
   (w.drew.alloc (.cells (bS.toArray++news.toArray++Builtin.zeroCells zv.cells (grownCap w (sLen+n) sCap e - (sLen+n))) e)):=by
 have hn:¬(sLen+n<=sCap):=ao;have h63':¬(9223372036854775807 < ((sLen:Int)+(n:Int))):=ao;have hfit':=growslice_fits (bytes:=i.bytes) G3 Z0;have h48':¬(281474976710656 < Builtin.nextslicecap (sLen+n) sCap*i.bytes):=ao;rcases hX with hX | ⟨e',hX⟩
 all_goals
  simp[Builtin.append_,run_underlying hT,run_underlying hX,sizeOf,typeInfo,zeroValue,hi,ahs,hlen,hn,h63',h48',Question.forced,hf,ho,newRow,grownCap];congr 2;apply fB;simp[bh]
end
end Go.Ab
namespace Go.Ab
section
variable {P:aK} {C:Ctx} {g:Nat->kI} {β:Id->Option Pl} {s:AS} {a:Act} {w:World} {o:Oper}
theorem axT(h:Inv C g β s a w){v:aE}{y:Value}(hv:VS (s.env w g β) v y){t:Ty}{m:List t.den}(he:(s.aj2 (.slice t) v).eval=av m):
  ∃ad cap vs,y= .slice ad m.length cap/\(0 < m.length->ad.isSome=aS)/\(∀j u,vs[j]? =av u->∃bb off,ad=av ⟨bb,off,aF⟩/\w.cell? ⟨bb,off+j,aF⟩=av u)/\bp (cV (s.env w g β) t) vs m:=by
 have hp:(s.im (.slice t) v).eval=av m:=he;cases v <;> first | (simp only[AS.im,aw]at hp;done) | skip
 case cX=>
  simp only[AS.im,aA]at hp;subst hp;exact⟨aF,0,[],j4 hv,by simp,λj u hj=>by simp at hj,rfl⟩
 case d t' x=>
  simp only[AS.im]at hp;have hp:=jo.1 hp;have ha:(aE.d t' x).agg=bq:=Xb hp;have hV:=hv.single rfl ha;simp only[V]at hV;have hv:VS (s.env w g β) (.d (.slice t) m) y:=VS.of (cs:=[y]) (by simp only[V];exact Bu hp hV) rfl;obtain⟨ad,cap,vs,hy,_,hs,hr,hc⟩:=rK hv;exact⟨ad,cap,vs,hy,hs,λj u hj=>let⟨bb,off,e,hh⟩:=hr j u hj;⟨bb,off,e,hh.1⟩,hc⟩
 case dj id ver p c i len=>
  simp only[AS.im]at hp;obtain⟨⟨n,t',l⟩,h1,h2⟩:=az.1 hp;obtain⟨h3,h4⟩:=bQ.1 h2;obtain⟨aBl,aMN⟩:=apb (E:=s.env w g β) (jo.1 h4);rw[aBl];simp only[aP]at h3;obtain⟨hc,hlen⟩:=h3
  suffices hg:∃ad cap vs,y= .slice ad (cut l i len).length cap/\(0 < (cut l i len).length->ad.isSome=aS)/\(∀j u,vs[j]? =av u->∃bb off,ad=av ⟨bb,off,aF⟩/\w.cell? ⟨bb,off+j,aF⟩=av u)/\bp (cV (s.env w g β) t') vs (cut l i len) by obtain⟨ad,cap,vs,e1,e2,e3,e4⟩:=hg;exact⟨ad,cap,vs,e1,e2,e3,aMN _ e4⟩
  obtain⟨fr,c0,cI,lb⟩:=Nv rfl h.bH h1;obtain⟨ad,cap,hy,hle,oY,hb,ff⟩:=pz hv;have ff:=ff ⟨fr,c0,cI⟩;have aAd:(cut l i len).length=len:=BC hlen;rcases lb with⟨hp,hl,_⟩ | ⟨pl,cur,e,hp,hh,sh,dx,hbound⟩
  ·rw[hp]at ff;simp only at ff;obtain⟨rfl,rfl,rfl⟩:=ff;have:cut l i 0=[]:=by simp[cut]
   refine⟨aF,0,[],by rw[aAd];exact hy,by rw[aAd];omega,λ_ _ hh=>by simp at hh,?_⟩;rw[this];rfl
  ·rw[hp]at ff;simp only at ff;have hmul:(i+len)*t'.size<=l.length*t'.size:=cW _ hlen;rw[ei]at hmul;refine⟨ad,cap,_,by rw[aAd];exact hy,by rw[aAd];exact oY,?_,HI dx i len⟩;rw[Tn _ _ _ _ _ hmul];intro j v hj;rw[de]at hj;split at hj
   ·rename_i aFt;rw[fR,hc]at hj;have aKv:0 < len:=by
     rcases lG len with h0 | h0
     ·subst h0;simp at aFt
     ·exact h0
    refine⟨pl.b,c,ff.1 (.inl aKv),?_⟩;have hh':w.heap[pl.b]? =av (.cells cur e (0,0)):=hh
    rw[cell_of_row w pl.b (c+j) cur e (0,0) hh'];simpa using hj
   ·cases hj
theorem OZ(h:Inv C g β s a w){t:Ty}{X:TypeId}{x:aE}{y:Value}(hx:VS (s.env w g β) x y){m:List t.den}(he:(Ev P s t X x).eval=av m):
  (P.underlying X=av .string\/∃e',P.underlying X=av (.slice e'))/\∃news:List Value,bp (cV (s.env w g β) t) news m/\(Builtin.lenOf y).run P w= .ok m.length w/\
   ∀w',w'.heap=w.heap->(Builtin.firstCells t.size m.length y).run P w'= .ok news.toArray w':=by
 have sl:∀(x:aE),VS (s.env w g β) x y->(match P.underlying X with
   |some (.slice _)=>s.aj2 (.slice t) x
   |_=> .fail).eval=av m->(P.underlying X=av .string\/∃e',P.underlying X=av (.slice e'))/\∃news:List Value,bp (cV (s.env w g β) t) news m/\(Builtin.lenOf y).run P w= .ok m.length w/\
   ∀w',w'.heap=w.heap->(Builtin.firstCells t.size m.length y).run P w'= .ok news.toArray w':=by
  intro x hx he;split at he
  ·rename_i e' hX;refine⟨.inr ⟨e',hX⟩,?_⟩;obtain⟨ad,cap,vs,rfl,oY,lb,dx⟩:=axT h hx he;have hlen:=bp.length (λ_ _ hx=>cV.size hx) dx;refine⟨vs,dx,rfl,λw' hw'=> ?_⟩;cases ad with
   |none=>
    have aD1:m.length=0:=by
     rcases lG m.length with h0 | h0
     ·exact h0
     ·have:=oY h0;simp at this
    have:vs=[]:=bV (by rw[hlen,aD1,lH]);subst this;rfl
   |some ad=>
    refine run_firstCells_some (P:=P) w' t.size _ ad _ _ vs hlen (λj v hj=> ?_);obtain⟨bb,off,e1,hh⟩:=lb j v hj;simp only[aB]at e1;subst e1;rw[eQ];simpa[eO,hw']using hh
  ·simp only[aw]at he
 unfold Ev at he;split at he
 ·rename_i st;split at he
  ·rename_i hX;refine⟨.inl hX,?_⟩;obtain⟨e,hm⟩:=iV (jo.1 he);have e':Ty.int .u8=t:=by simpa using e
   subst e';simp only at hm;subst hm;have hy:=Fh hx;subst hy;have hlen:(bw st).length=st.size:=by simp only[bw,bC,cO];rfl
   refine⟨(bw st).map (Value.int .u8),ug _,by rw[hlen];rfl,λw' _=> ?_⟩;rw[hlen];simp only[Builtin.firstCells,dA];congr 1;apply fB;rw[ByteArray.extract_zero_size];simp[bw]
  ·simp only[aw]at he
 ·exact sl _ hx he
theorem yz(z:Array Value)(n:Nat):(Builtin.zeroCells z n).size=n*z.size:=by simp[Builtin.zeroCells]
theorem apc(h:Inv C g β s a w){c:Call}{x y:bF}{T X:TypeId}(ho:o.op= .call c)(hc:c.callee= .builtin .copy)(ha:c.args.toList=[x,y])(ht:c.argTypes.toList=[T,X]){s':AS}
  (he:(Rm P s o.dst T X (s.ev x) (s.ev y)).eval=av s'):eX P o a w (gw C s'):=by
 obtain⟨cal,args,tys⟩:=c;simp only at hc ha ht;have ha':args= #[x,y]:=by apply fB;simpa using ha
 have ht':tys= #[T,X]:=by apply fB;simpa using ht
 subst hc ha' ht';have hx:=h.ev x;have hy:=h.ev y;have fin:∀z w',(Builtin.copy_ #[T,X] 0 #[a.eval x,a.eval y]).run P w= .ok z w'->(∃g' β',Inv C g' β' s' (a.put o.dst z) w')->eX P o a w (gw C s'):=by intro z w' h1 h2;refine .inl ⟨z,w',zF ho (f:=Builtin.copy_ #[T,X] 0 #[a.eval x,a.eval y]) (λty cs xs ahr=> ?_) h1,h2⟩;subst ahr;have e1:Builtin.copy_ #[T,X] 0 #[a.eval x,a.eval y]=Builtin.copy_ #[T,X] ty #[a.eval x,a.eval y]:=rfl;rw[e1];simp[builtin]
 unfold Rm at he;split at he
 ·rename_i e t b id ver len Dz ahr;obtain⟨hT,hz,i,zv,hi,ap4,aBg,ahs,ap9⟩:=zN Dz;obtain⟨m,hm,he⟩:=az.1 he;obtain⟨hX,news,dx,hlen,aDY⟩:=OZ h hy hm;have aBm:=dx.length (λ_ _ hx=>cV.size hx);have h1news:∀u∈news,u.oneCell'=aS:=bp.all (λ_ _ hx=>hx.one) dx;rw[<-ap4]at aDY;split at he
  ·rename_i ve n t' l la;obtain⟨h1,Gu⟩:=aH.1 he;simp only[au,dk]at h1;obtain⟨aFJ,aMK⟩:=h1;subst aFJ aMK;obtain⟨l',hl',U6⟩:=az.1 Gu;obtain⟨et,hl'⟩:=iV (jo.1 hl');have et':t'=t:=by simpa using et
   subst et';simp only at hl';subst hl';obtain⟨aBl,aG9⟩:=bQ.1 U6;have aBl:m.length<=len:=by simpa using aBl
   obtain rfl:=aA.1 aG9;have cI:=dQ la;rw[ahr]at hx;obtain⟨ad,cap,atj,ate,oY,R7,ff⟩:=pz hx;have ff:=ff ⟨bq,_,cI⟩;obtain⟨pl,cur,e0,hp,hh,hg,hk,hV⟩:=(h.bH id ve bq _ cI).box rfl;have hp:β id=av pl:=hp;have hh:w.heap[pl.b]? =av (.cells cur e0 (0,0)):=hh
   have hg:g pl.b= .own (.id id) 0:=hg;have hcur':(match β id with
    |some pl=>(0 < len\/0=0->ad=av ⟨pl.b,0,aF⟩)/\(([.arr]:List Gm)=[]->0=0->cap=pl.cap)
    |none=>ad=aF/\len=0/\cap=0):=ff
   rw[hp]at hcur';simp only at hcur';have apY:=hcur'.1 (.inr trivial);subst apY;have hV:V (s.env w g β) (.d (.arr len t') l) (cur.toList.take cur.size):=hV;rw[<-cO,bK]at hV;simp only[V,cV]at hV;obtain⟨aD0,hVc⟩:=hV;have atc:=hVc.length (λ_ _ hx=>cV.size hx);have Z0:news.length<=cur.size:=by
    rw[aBm];have:cur.size=l.length*t'.size:=by simpa using atc
    rw[this,aD0];exact cW _ aBl
   have pO:=run_storeCells_at P pl.b 0 e0 news 0 cur w hh (by simpa using Z0) h1news;have oX:(Builtin.copy_ #[T,X] 0 #[a.eval x,a.eval y]).run P w= .ok (goInt m.length) (w.setRow pl.b (dm cur.toList 0 news).toArray):=by have aKB:Nat.min m.length len=m.length:=fN aBl;rw[atj];simp only[cz,Nat.zero_add]at pO;simp[Builtin.copy_,run_underlying hT,hlen,sizeOf,typeInfo,hi,aKB,aDY w rfl,pO,dm]
   have aiL:=Trans.setRow w hg (dm cur.toList 0 news).toArray;have hle:cE (s.env w g β) ((s.aY id (.obj ve bq (.d (.arr len t') (m++l.drop m.length)))).env (w.setRow pl.b (dm cur.toList 0 news).toArray) g β):=cE.aY cI (aC _) aiL (λ_ _=>rfl) (λ_=>rfl);have i1:=h.step (cY _ _ _) aiL hle (gN.aY (avG:=nY cI λk v1 l e=>by cases e) h.bH (by rw[cI];simp) hle (λ_ _=>rfl) (λi ver fr c pl2 hi Sa XH=>⟨setRow_other w pl.b pl2.b _ (h.apart hg hi Sa XH),rfl⟩) (Md.obj ⟨pl,_,e0,hp,setRow_heap w pl.b cur _ e0 (0,0) hh,hg,trivial,by
    show V _ (.d (.arr len t') (m++l.drop m.length)) ((dm cur.toList 0 news).toArray.toList.take (dm cur.toList 0 news).toArray.size);rw[<-cO,bK];simp only[V,cV];refine⟨by rw[aq,eK];omega,?_⟩;have e2:dm cur.toList 0 news=news++cur.toList.drop (m.length*t'.size):=by simp[dm,aBm]
    have q:bp (cV (s.env w g β) t') (dm cur.toList 0 news) (m++l.drop m.length):=by rw[e2];exact bp.append dx (bp.drop (λ_ _ hx=>cV.size hx) m.length hVc)
    exact q.mono λ_ _ hx=>hx.mono hle.mem⟩))
   exact fin _ _ oX ⟨g,β,i1.put o.dst ⟨[.int .i64 (m.length:Int)],by simp only[V,cV],rfl⟩⟩
  ·exact(aw.1 he).elim
 ·exact(aw.1 he).elim
theorem acw(h:Inv C g β s a w){c:Call}{x y:bF}{T X:TypeId}(ho:o.op= .call c)(hc:c.callee= .builtin .append)(ha:c.args.toList=[x,y])(ht:c.argTypes.toList=[T,X]){s':AS}
  {nl dt:Bool} (he:(vo P s nl dt o.dst T X (s.ev x) (s.ev y)).eval=av s'):eX P o a w (gw C s'):=by
 obtain⟨cal,args,tys⟩:=c;simp only at hc ha ht;have ha':args= #[x,y]:=by apply fB;simpa using ha
 have ht':tys= #[T,X]:=by apply fB;simpa using ht
 subst hc ha' ht';have hx:=h.ev x;have hy:=h.ev y;have fin:∀z w',(Builtin.append_ #[T,X] 0 #[a.eval x,a.eval y]).run P w= .ok z w'->(∃g' β',Inv C g' β' s' (a.put o.dst z) w')->eX P o a w (gw C s'):=by intro z w' h1 h2;refine .inl ⟨z,w',zF ho (f:=Builtin.append_ #[T,X] 0 #[a.eval x,a.eval y]) (λty cs xs ahr=> ?_) h1,h2⟩;subst ahr;have e1:Builtin.append_ #[T,X] 0 #[a.eval x,a.eval y]=Builtin.append_ #[T,X] ty #[a.eval x,a.eval y]:=rfl;rw[e1];simp[builtin]
 unfold vo at he;split at he
 ·rename_i e t b q Dz hd;obtain⟨hT,hz,i,zv,hi,ap4,aBg,ahs,ap9⟩:=oW Dz;obtain⟨m,hm,he⟩:=az.1 he;obtain⟨hX,news,dx,hlen,aDY⟩:=OZ h hy hm;have aBm:=dx.length (λ_ _ hx=>cV.size hx);have h1news:∀u∈news,u.oneCell'=aS:=bp.all (λ_ _ hx=>hx.one) dx;rw[<-ap4]at aDY;have aHk:zv.cells.size=t.size:=by have:=(ap9 (s.env w g β)).size;simpa using this
  have aK4:∀n,(Builtin.zeroCells zv.cells n).size=n*t.size:=λn=>by rw[yz,aHk]
  have grow:∀(ad:Option Addr) (sLen sCap:Nat) (bS:List Value) (l0:List t.den),a.eval x= .slice ad sLen sCap->bS.length=sLen*t.size->l0.length=sLen->bp (cV (s.env w g β) t) bS l0->
    (Builtin.firstCells i.size sLen (.slice ad sLen sCap)).run P w.drew= .ok bS.toArray w.drew->sCap < sLen+m.length->db (sLen+m.length) b=aS->
    ∃(cur:Array Value) (cap:Nat),(Builtin.append_ #[T,X] 0 #[a.eval x,a.eval y]).run P w= .ok (.slice (av ⟨w.heap.size,0,aF⟩) (sLen+m.length) cap) (w.drew.alloc (.cells cur e))/\
     cur.size=cap*t.size/\sLen+m.length<=cap/\cap<=maxLen/\cur.toList.take ((sLen+m.length)*t.size)=bS++news:=by
   intro ad sLen sCap bS l0 atj Qk aIp aH7 aJu G3 aho;simp only[db,aP]at aho;have hr:=NB (P:=P) (w:=w) (ty:=0) hT hX hi ahs aJu hlen (aDY w.drew rfl) G3 ao (by rw[aBg];exact aho.1);rw[atj];refine⟨_,_,hr,?_,grownCap_ge _ _ _ _,grownCap_le_maxLen _ _ _ _ (by unfold maxLen;omega),?_⟩
   ·have aN5:=grownCap_ge w (sLen+m.length) sCap e;simp only[Array.size_append,gj,aK4,Qk,aBm,<-ei];congr 1;omega
   ·have aBi:(bS++news).length=(sLen+m.length)*t.size:=by rw[aq,Qk,aBm,ei]
    simp only[bT];rw[<-aBi];exact List.take_left
  split at he
  ·rename_i aNd;rw[aNd]at hx;have atj:=j4 hx;cases dt with
   |true=>
    simp only at he;obtain⟨aho,he⟩:=bQ.1 he;obtain rfl:=aA.1 he;simp only[au,aP]at aho;obtain⟨aho,aD1⟩:=aho;obtain⟨cur,cap,hr,q1,q2,q3,q4⟩:=grow aF 0 0 [] [] atj (by simp) rfl rfl rfl ao (by simpa using aho);simp only[Nat.zero_add,aR]at hr q2 q4;have aKa:bp (cV (s.env w.drew g β) t) news m:=dx.mono λ_ _ hx=>hx.mono (cE.same (s:=s) (β:=β) (Trans.drew w g)).mem
    refine fin _ _ hr ⟨l8 g w.heap.size .free,β,(h.drew.FH (.cells cur e)).put o.dst ⟨[.slice (av ⟨w.heap.size,0,aF⟩) m.length cap],?_,rfl⟩⟩;simp only[V,cV];refine⟨λh0=>(by cases h0),λm' hm'=> ?_⟩;obtain rfl:m=m':=Option.some.inj hm';refine⟨_,cap,cur.toList.take (m.length*t.size),rfl,q2,λ_=>rfl,λj v hj=>⟨_,_,rfl,?_,?_⟩,?_⟩
    ·show(w.drew.alloc (.cells cur e)).cell? ⟨w.drew.heap.size,0+j,aF⟩=av v;rw[World.cell?_alloc_new,Nat.zero_add];rw[de]at hj;split at hj
     ·simpa using hj
     ·cases hj
    ·show ur (l8 g w.heap.size .free) w.heap.size (0+j);unfold ur;rw[eV];trivial
    ·rw[q4];exact aKa.mono λ_ _ hx=>hx.mono (Trans.mem (E:=s.env w.drew g β) (E':=s.env (w.drew.alloc (.cells cur e)) (l8 g w.drew.heap.size .free) β) (Trans.alloc w.drew g (.cells cur e) .free))
   |false=>
   simp only at he;obtain⟨hq,he⟩:=aH.1 he;obtain⟨aho,he⟩:=bQ.1 he;obtain rfl:=aA.1 he;by_cases aD1:m.length=0
   ·have aKD:m=[]:=bV aD1;subst aKD;have aD3:news=[]:=bV (by rw[aBm];simp);subst aD3;obtain⟨β',i1,e1,v1⟩:=h.axx hq (e:=e) hz;refine fin (.slice aF 0 0) w ?_ ⟨g,β',?_⟩
    ·rw[atj];exact Df (P:=P) hT hX hi hlen (aDY w rfl)
    ·exact i1.put o.dst v1
   ·obtain⟨cur,cap,hr,q1,q2,q3,q4⟩:=grow aF 0 0 [] [] atj (by simp) rfl rfl rfl ao (by simpa using aho);simp only[Nat.zero_add,aR]at hr q2 q4;obtain⟨g2,β2,i2,v2⟩:=(h.drew).aaS hq (e:=e) (l:=m) (cur:=cur) (cap:=cap) hz (by rw[q4];exact dx.mono λ_ _ hx=>hx.mono (cE.same (s:=s) (β:=β) (Trans.drew w g)).mem) q1 q2 q3;refine fin _ _ hr ⟨g2,β2,?_⟩;exact i2.put o.dst v2
  ·rename_i id ver len ahr;rw[ahr]at hx;obtain⟨ad,cap,atj,ate,oY,R7,ff⟩:=pz hx;split at he
   ·rename_i v fr e' t' l la;obtain⟨h1,Gu⟩:=aH.1 he;clear he;simp only[au,dk]at h1;obtain⟨aFJ,aMw⟩:=h1;subst aFJ aMw;obtain⟨l',hl',U6⟩:=az.1 Gu;obtain⟨et,hl'⟩:=iV (jo.1 hl');have et':t'=t:=by simpa using et
    subst et';simp only at hl';subst hl';obtain⟨aBk,aIc⟩:=bQ.1 U6;have aBk:len<=l.length:=by simpa using aBk
    obtain⟨aJt,aG9⟩:=bQ.1 aIc;obtain⟨aho,aLF⟩:=bQ.1 aG9;obtain rfl:=aA.1 aLF;clear Gu U6 aIc aG9 aLF;have cI:=dQ la;have ff:=ff ⟨fr,_,cI⟩;obtain⟨_,hO⟩:=h.bH id v fr _ cI;have hO':(match β id with
     |none=>l=[]
     |some pl=>∃cur k,w.heap[pl.b]? =av (.cells cur e (0,0))/\cur.size=pl.cap*t'.size/\l.length<=pl.cap/\pl.cap<=maxLen/\g pl.b= .own (.id id) k/\
       k<=l.length*t'.size/\(fr=bq->k=0)/\bp (cV (s.env w g β) t') (cur.toList.take (l.length*t'.size)) l):=hO
    have hcur':(match β id with
     |some pl=>(0 < len\/0=0->ad=av ⟨pl.b,0,aF⟩)/\(([]:List Gm)=[]->0=0->cap=pl.cap)
     |none=>ad=aF/\len=0/\cap=0):=ff
    have aFp:fr=bq\/len=l.length:=by simp only[gB,cr,aP]at aJt;exact aJt
    have gW:s.bU id≠aF:=by rw[cI];simp
    have fresh:∀(cur:Array Value) (cp:Nat) (g0:Nat->kI),Trans w (w.drew.alloc (.cells cur e)) g (l8 g0 w.heap.size (.own (.id (id)) 0))->
      (∀i ver fr c pl,i≠id->s.bU i=av (.obj ver fr c)->β i=av pl->g0 pl.b=g pl.b)->cur.size=cp*t'.size->len+m.length<=cp->cp<=maxLen->
      bp (cV (s.env w g β) t') (cur.toList.take ((len+m.length)*t'.size)) (l.take len++m)->len<=l.length->
      ∃g' β',Inv C g' β' ((s.aY id (.obj (v+1) fr (.vec e t' (l.take len++m)))).put o.dst (.dj id (v+1) [] 0 0 (len+m.length))) (a.put o.dst (.slice (av ⟨w.heap.size,0,aF⟩) (len+m.length) cp)) (w.drew.alloc (.cells cur e)):=by
     intro cur cp g0 ht aKg q1 q2 q3 q4 q5;have aD0:(l.take len++m).length=len+m.length:=by simp;omega
     have hle:cE (s.env w g β) ((s.aY id (.obj (v+1) fr (.vec e t' (l.take len++m)))).env (w.drew.alloc (.cells cur e)) (l8 g0 w.heap.size (.own (.id id) 0)) (FD β id (av ⟨w.heap.size,cp⟩))):=
      cE.aY cI ao ht (λi hi=>yt _ _ _ hi) (λhh=>ao)
     have i1:=h.step (cY _ _ _) ht hle (gN.aY (avG:=nY cI λk v1 l e=>by cases e) h.bH gW hle (λi hi=>yt _ _ _ hi) (λi ver fr' c' pl hi Sa XH=>by
       have iI:pl.b < w.heap.size:=((h.bH i ver fr' c' Sa).label (pl:=pl) XH).1;exact⟨oV w.drew _ iI,by rw[eR _ _ _ ao];exact aKg i ver fr' c' pl hi Sa XH⟩) (by
      refine⟨hz,?_⟩;show(match FD β id (av ⟨w.heap.size,cp⟩) id with
       |none=>(l.take len++m)=[]
       |some pl=>_)
      rw[jk];refine⟨cur,0,qC w.drew _,q1,by rw[aD0];exact q2,q3,eV _ _ _,aO _,λ_=>rfl,?_⟩;rw[aD0];exact q4.mono λ_ _ hx=>hx.mono hle.mem))
     refine⟨_,_,i1.put o.dst ⟨_,?_,rfl⟩⟩;simp only[V];have ln:=ef s id (.obj (v+1) fr (.vec e t' (l.take len++m))) gW;refine⟨_,_,rfl,q2,λ_=>rfl,⟨by show(s.aY id _).bU id≠aF;rw[ln];simp,λv' fr' c' hh=> ?_⟩,λ_=> ?_⟩
     ·have hh':(s.aY id (.obj (v+1) fr (.vec e t' (l.take len++m)))).bU id=av (.obj v' fr' c'):=hh;rw[ln]at hh';simp only[aB,dB.obj.injEq]at hh';omega
     ·show(match FD β id (av ⟨w.heap.size,cp⟩) id with
       |some pl=>_
       |none=>_)
      rw[jk];exact⟨λ_=>rfl,λ_ _=>rfl⟩
    cases hp:β id with
    |none=>
     rw[hp]at hO' hcur';simp only at hO' hcur';obtain⟨rfl,rfl,rfl⟩:=hcur';subst hO';by_cases aD1:m.length=0
     ·have aKD:m=[]:=bV aD1;subst aKD;have aD3:news=[]:=bV (by rw[aBm];simp);subst aD3;have ht:=Trans.refl w g;have hle:cE (s.env w g β) ((s.aY id (.obj (v+1) fr (.vec e t' []))).env w g β):=cE.aY cI ao ht (λ_ _=>rfl) (λ_=>rfl);have i1:=h.step (cY _ _ _) ht hle (gN.aY (avG:=nY cI λk v1 l e=>by cases e) h.bH gW hle (λ_ _=>rfl) (λ_ _ _ _ _ _ _ _=>⟨rfl,rfl⟩) (by
       refine⟨hz,?_⟩;show(match β id with
        |none=>([]:List t'.den)=[]
        |some pl=>_)
       rw[hp]))
      refine fin (.slice aF 0 0) w ?_ ⟨g,β,i1.put o.dst ⟨_,?_,rfl⟩⟩
      ·rw[atj];exact Df (P:=P) hT hX hi hlen (aDY w rfl)
      ·simp only[V];have ln:=ef s id (.obj (v+1) fr (.vec e t' [])) gW;refine⟨_,_,rfl,aC _,λhh=>by simp at hh,⟨by show(s.aY id _).bU id≠aF;rw[ln];simp,λv' fr' c' hh=> ?_⟩,λ_=> ?_⟩
       ·have hh':(s.aY id (.obj (v+1) fr (.vec e t' []))).bU id=av (.obj v' fr' c'):=hh;rw[ln]at hh';simp only[aB,dB.obj.injEq]at hh';omega
       ·show(match β id with
         |some pl=>_
         |none=>_)
        rw[hp];exact⟨rfl,by simp,rfl⟩
     ·obtain⟨cur,cp,hr,q1,q2,q3,q4⟩:=grow aF 0 0 [] [] atj (by simp) rfl rfl rfl ao aho;refine fin _ _ hr (fresh cur cp g (Trans.trans (Trans.drew w g) (Trans.alloc w.drew g _ _)) (λ_ _ _ _ _ _ _ _=>rfl) q1 q2 q3 ?_ (by simp));rw[q4];simpa using dx
    |some pl=>
     rw[hp]at hO' hcur';simp only at hO' hcur';obtain⟨apY,MA⟩:=hcur';have apY:=apY (.inr trivial);have MA:=MA trivial trivial;subst apY MA;obtain⟨cur,k,p1,p2,p3,p4,p5,p6,p7,p8⟩:=hO';have hk:k<=len*t'.size:=by
      rcases aFp with hf | hf
      ·rw[p7 hf];exact aO _
      ·rw[hf];exact p6
     have hmul:len*t'.size<=l.length*t'.size:=cW _ aBk;have aLP:l.length*t'.size<=cur.size:=by rw[p2];exact cW _ p3
     have aFG:=bp.take (λ_ _ hx=>cV.size hx) len p8;rw[kO,fN hmul]at aFG;have Qk:(cur.toList.take (len*t'.size)).length=len*t'.size:=by simp;omega
     by_cases G3:len+m.length<=pl.cap
     ·have aMW:(len+m.length)*t'.size<=cur.size:=by rw[p2];exact cW _ G3
      have Z0:len*i.size+news.length<=cur.size:=by rw[ap4,aBm,<-ei];exact aMW
      have hr:=NC (P:=P) (w:=w) (ty:=0) hT hX hi p1 h1news hlen (aDY w rfl) G3 Z0;rw[ap4]at hr Z0;have ht:Trans w (w.setRow pl.b (dm cur.toList (len*t'.size) news).toArray) g g:=by
       refine⟨by simp,by simp,by simp,by simp,λb' hb=> ?_⟩;by_cases ZY:b'=pl.b
       ·subst ZY;rw[p5];refine⟨.inr ⟨id,k,rfl,aC _⟩,λoff u aBo hu=> ?_⟩;rw[cell_of_row w pl.b off cur e (0,0) p1]at hu;rw[cell_setRow_same w pl.b off cur _ e (0,0) p1];simp only[dm,bh,List.getElem?_toArray];rw[gF (by rw[Qk];omega),de,if_pos ao];simpa using hu
       ·rw[setRow_other w pl.b b' _ ZY];cases Qj:g b' with
        |free=>exact⟨rfl,rfl⟩
        |own o' k=>cases o' with
         |dY=>exact⟨rfl,rfl⟩
         |id i'=>exact⟨.inr ⟨i',k,rfl,aC _⟩,λoff v _ hv=>by rw[cell_setRow_other w pl.b _ _ ZY];exact hv⟩
      have hle:cE (s.env w g β) ((s.aY id (.obj (v+1) fr (.vec e t' (l.take len++m)))).env (w.setRow pl.b (dm cur.toList (len*t'.size) news).toArray) g β):=
       cE.aY cI ao ht (λ_ _=>rfl) (λ_=>rfl)
      have aD0:(l.take len++m).length=len+m.length:=by simp;omega
      have aKQ:(dm cur.toList (len*t'.size) news).length=cur.toList.length:=je (by simpa using Z0);have i1:=h.step (cY _ _ _) ht hle (gN.aY (avG:=nY cI λk v1 l e=>by cases e) h.bH gW hle (λ_ _=>rfl) (λi ver fr c pl2 hi Sa XH=>⟨setRow_other w pl.b pl2.b _ (h.apart p5 hi Sa XH),rfl⟩) (by
       refine⟨hz,?_⟩;show(match β id with
        |none=>(l.take len++m)=[]
        |some pl=>_)
       rw[hp];refine⟨_,k,setRow_heap w pl.b cur _ e (0,0) p1,by rw[gj,aKQ];simpa using p2,by rw[aD0];exact G3,p4,p5,?_,p7,?_⟩
       ·rw[aD0,ei];omega
       ·rw[aD0,show(dm cur.toList (len*t'.size) news).toArray.toList=dm cur.toList (len*t'.size) news from rfl];have e1:(dm cur.toList (len*t'.size) news).take ((len+m.length)*t'.size)=cur.toList.take (len*t'.size)++news:=by
         unfold dm;have aBi:(cur.toList.take (len*t'.size)++news).length=(len+m.length)*t'.size:=by rw[aq,Qk,aBm,ei]
         rw[<-aBi];exact List.take_left
        rw[e1];exact(bp.append aFG dx).mono λ_ _ hx=>hx.mono hle.mem))
      rw[<-atj]at hr;refine fin _ _ hr ⟨g,β,i1.put o.dst ⟨_,?_,rfl⟩⟩;simp only[V];have ln:=ef s id (.obj (v+1) fr (.vec e t' (l.take len++m))) gW;refine⟨_,_,rfl,G3,λ_=>rfl,⟨by show(s.aY id _).bU id≠aF;rw[ln];simp,λv' fr' c' hh=> ?_⟩,λ_=> ?_⟩
      ·have hh':(s.aY id (.obj (v+1) fr (.vec e t' (l.take len++m)))).bU id=av (.obj v' fr' c'):=hh;rw[ln]at hh';simp only[aB,dB.obj.injEq]at hh';omega
      ·show(match β id with
        |some pl=>_
        |none=>_)
       rw[hp];exact⟨λ_=>rfl,λ_ _=>rfl⟩
     ·have aJu:(Builtin.firstCells i.size len (.slice (av ⟨pl.b,0,aF⟩) len pl.cap)).run P w.drew= .ok (cur.toList.take (len*t'.size)).toArray w.drew:=by
       refine run_firstCells_some (P:=P) w.drew i.size _ _ _ _ _ (by rw[Qk,ap4]) (λj u hj=> ?_);rw[eQ,Nat.zero_add];show w.cell? ⟨pl.b,j,aF⟩=av u;rw[cell_of_row w pl.b j cur e (0,0) p1];rw[de]at hj;split at hj
       ·simpa using hj
       ·cases hj
      obtain⟨cur2,cp,hr,q1,q2,q3,q4⟩:=grow (av ⟨pl.b,0,aF⟩) len pl.cap (cur.toList.take (len*t'.size)) (l.take len) atj Qk (by simp;omega) aFG aJu ao aho;have iI:pl.b < w.heap.size:=(cg.1 p1).1;have am6:Trans w w.drew g (l8 g pl.b .free):=by
       refine⟨rfl,rfl,⟨rfl,Nat.le_succ _⟩,aC _,λb' hb=> ?_⟩;by_cases ZY:b'=pl.b
       ·subst ZY;rw[p5,eV];exact⟨.inl rfl,λ_ _ _ hh=>hh⟩
       ·rw[eR _ _ _ ZY];exact(Trans.drew w g).ahO b' hb
      refine fin _ _ hr (fresh cur2 cp (l8 g pl.b .free) (Trans.trans am6 (Trans.alloc w.drew _ _ _)) (λi ver fr c pl2 hi Sa XH=>eR _ _ _ (h.apart p5 hi Sa XH)) q1 q2 q3 ?_ aBk);rw[q4];exact bp.append aFG dx
   ·simp only[aw]at he
  ·simp only[aw]at he
 ·simp only[aw]at he
end
end Go.Ab
namespace Go.Ab
abbrev YW:=Id->Nat->Option (Id×Nat)
structure w9(ρ:YW)(E E':Env):Prop where
 mem:qy E E'
 ref:∀id ver r,ρ id ver=av r->E.CU id ver->E'.CU r.1 r.2/\(E'.cur r.1 r.2->E.cur id ver/\E'.β r.1=E.β id)
theorem anT(ρ:YW)(a:aE):(a.gJ ρ).agg=a.agg:=by
 cases a with
 |ptr id v p n=>simp only[aE.gJ];cases ρ id v <;> rfl
 |dj id v p c i l=>simp only[aE.gJ];cases ρ id v <;> rfl
 |iy id v=>simp only[aE.gJ];cases ρ id v <;> rfl
 |yl id v=>simp only[aE.gJ];cases ρ id v <;> rfl
 |_=>rfl
mutual
theorem ach{ρ:YW}{E E':Env}(h:w9 ρ E E'):∀ {a:aE} {cs:List Value},V E a cs->V E' (a.gJ ρ) cs
 | .undef,_,hv=>by simp only[V]at hv
 | .gone,_,hv=>by simpa only[aE.gJ,V]using hv
 | .cX,_,hv=>by simpa only[aE.gJ,V]using hv
 | .ns,_,hv=>by simpa only[aE.gJ,V]using hv
 | .uq,_,hv=>by simpa only[aE.gJ,V]using hv
 | .zX,_,hv=>by simpa only[aE.gJ,V]using hv
 | .sb l,_,hv=>by simp only[aE.gJ,V]at hv ⊢;obtain⟨b,cap,arr,e,h1,h2,h3,h4,h5⟩:=hv;obtain⟨h6,h7⟩:=h.mem.fz b _ h3 h4;exact⟨b,cap,arr,e,h1,h2,h6,h7,h5⟩
 | .d t x,_,hv=>by simp only[aE.gJ,V]at hv ⊢;exact hv.mono h.mem
 | .pr a b,_,hv=>by simp only[aE.gJ,V]at hv ⊢;obtain⟨ca,cb,e,ha,hb⟩:=hv;exact⟨ca,cb,e,ach h ha,ach h hb⟩
 | .ptr id ver p n,_,hv=>by
  have h1:=hv.one;simp only[aE.gJ];cases hr:ρ id ver with
  |none=>
   simp only[V]at hv ⊢;obtain⟨a,e,_⟩:=hv;exact⟨_,e,h1 _ (by simp[e])⟩
  |some r=>
   simp only[V]at hv ⊢;obtain⟨a,e,hb,hc⟩:=hv;obtain⟨b1,b2⟩:=h.ref id ver r hr hb;refine⟨a,e,b1,λc=> ?_⟩;obtain⟨c1,e1⟩:=b2 c;rw[e1];exact hc c1
 | .dN t x,_,hv=>by simp only[aE.gJ,V]at hv ⊢;obtain⟨b,off,vs,e,hr,hx⟩:=hv;exact⟨b,off,vs,e,hr.mono h.mem,hx.mono h.mem⟩
 | .dj id ver p c i len,_,hv=>by
  have h1:=hv.one;simp only[aE.gJ];cases hr:ρ id ver with
  |none=>
   simp only[V]at hv ⊢;obtain⟨a,cap,e,_⟩:=hv;exact⟨_,e,h1 _ (by simp[e])⟩
  |some r=>
   simp only[V]at hv ⊢;obtain⟨a,cap,e,hl,hs,hb,hc⟩:=hv;obtain⟨b1,b2⟩:=h.ref id ver r hr hb;refine⟨a,cap,e,hl,hs,b1,λc=> ?_⟩;obtain⟨c1,e1⟩:=b2 c;rw[e1];exact hc c1
 | .fn f c,_,hv=>by simp only[aE.gJ,V]at hv ⊢;obtain⟨vs,e,hc⟩:=hv;exact⟨vs,e,ahx h hc⟩
 | .cons _ _,_,hv=>by simp only[V]at hv
 | .nil,_,hv=>by simp only[V]at hv
 | .vec ..,_,hv=>by simp only[V]at hv
 | .bx ..,_,hv=>by simp only[V]at hv
 | .yl id ver,_,hv=>by
  have h1:=hv.one;simp only[aE.gJ];cases hr:ρ id ver with
  |none=>
   simp only[V]at hv ⊢;obtain⟨b,e,_⟩:=hv;exact⟨_,e,h1 _ (by simp[e])⟩
  |some r=>
   simp only[V]at hv ⊢;obtain⟨b,e,hb,hc⟩:=hv;obtain⟨b1,b2⟩:=h.ref id ver r hr hb;refine⟨b,e,b1,λc=> ?_⟩;obtain⟨c1,e1⟩:=b2 c;rw[e1];exact hc c1
 | .iy id ver,_,hv=>by
  have h1:=hv.one;simp only[aE.gJ];cases hr:ρ id ver with
  |none=>
   simp only[V]at hv ⊢;obtain⟨b,e,_⟩:=hv;exact⟨_,e,h1 _ (by simp[e])⟩
  |some r=>
   simp only[V]at hv ⊢;obtain⟨b,e,hb,hc⟩:=hv;obtain⟨b1,b2⟩:=h.ref id ver r hr hb;refine⟨b,e,b1,λc=> ?_⟩;obtain⟨c1,e1⟩:=b2 c;rw[e1];exact hc c1
 | .mp ..,_,hv | .qu ..,_,hv | .xU ..,_,hv=>by simp only[V]at hv
theorem ahx{ρ:YW}{E E':Env}(h:w9 ρ E E'):∀ {a:aE} {vs:List Value},VC E a vs->VC E' (a.gJ ρ) vs
 | .nil,_,hv=>by simpa only[aE.gJ,VC]using hv
 | .cons a b,_,hv=>by simp only[aE.gJ,VC]at hv ⊢;obtain⟨v,vs',cs,e,ha,ho,hb⟩:=hv;exact⟨v,vs',cs,e,ach h ha,by rw[anT];exact ho,ahx h hb⟩
 | .undef,_,hv=>by simp only[VC]at hv
 | .gone,_,hv=>by simp only[VC]at hv
 | .cX,_,hv=>by simp only[VC]at hv
 | .ns,_,hv=>by simp only[VC]at hv
 | .uq,_,hv=>by simp only[VC]at hv
 | .yl ..,_,hv | .xU ..,_,hv=>by simp only[VC]at hv
 | .zX,_,hv=>by simp only[VC]at hv
 | .sb _,_,hv=>by simp only[VC]at hv
 | .d t x,_,hv=>by simp only[VC]at hv
 | .pr a b,_,hv=>by simp only[VC]at hv
 | .ptr ..,_,hv=>by simp only[VC]at hv
 | .dN ..,_,hv=>by simp only[VC]at hv
 | .dj ..,_,hv=>by simp only[VC]at hv
 | .fn ..,_,hv=>by simp only[VC]at hv
 | .vec ..,_,hv=>by simp only[VC]at hv
 | .bx ..,_,hv=>by simp only[VC]at hv
 | .iy ..,_,hv=>by simp only[VC]at hv
 | .mp ..,_,hv | .qu ..,_,hv=>by simp only[VC]at hv
end
theorem DC{ρ:YW}{E E':Env}(h:w9 ρ E E'){a:aE}{v:Value}(hv:VS E a v):VS E' (a.gJ ρ) v:=by
 by_cases hc:a.ew=aS
 ·obtain⟨cs,h1,h2⟩:=hv.ew hc;exact VS.of (ach h h1) (by rw[anT];exact h2)
 ·cases a <;> first | (exact absurd rfl hc) | skip
  ·trivial
  ·obtain⟨vs,e,aHh⟩:=hv;have:=ahx h aHh;simp only[aE.gJ]at this ⊢;exact⟨vs,e,this⟩
  ·exact hv
  ·obtain⟨cs,h1,_⟩:=hv;simp only[V]at h1
  ·obtain⟨cs,h1,_⟩:=hv;simp only[V]at h1
  ·obtain⟨cs,h1,_⟩:=hv;simp only[V]at h1
  ·obtain⟨cs,h1,_⟩:=hv;simp only[V]at h1
  ·obtain⟨cs,h1,_⟩:=hv;simp only[V]at h1
theorem TE(ρ:YW):∀f:aE,(f.gJ ρ).list=f.list.map (aE.gJ ρ)
 | .cons a b=>by simp only[aE.gJ,aE.list,bE,TE ρ b]
 | .undef | .gone | .cX | .ns | .uq | .zX | .d _ _ | .dN _ _ | .fn _ _ | .pr _ _ | .nil | .vec .. | .sb _ | .bx .. | .mp .. | .qu .. | .xU .. =>rfl
 | .ptr id ver p n=>by simp only[aE.gJ];cases ρ id ver <;> rfl
 | .dj id ver p c i len=>by simp only[aE.gJ];cases ρ id ver <;> rfl
 | .iy id ver=>by simp only[aE.gJ];cases ρ id ver <;> rfl
 | .yl id ver=>by simp only[aE.gJ];cases ρ id ver <;> rfl
theorem ahw{ρ:YW}{E E':Env}(h:w9 ρ E E'){f:aE}{tmps:Array Value}(hs:Bb E f tmps):Bb E' (f.gJ ρ) tmps:=by
 refine⟨by rw[TE,bC];exact hs.1,λi=> ?_⟩;have:=DC h (hs.2 i);rw[TE,List.getD_eq_getElem?_getD,List.getElem?_map];rw[List.getD_eq_getElem?_getD]at this;cases hi:f.list[i]? with
 |none=>exact VS.undef
 |some x=>rw[hi]at this;exact this
theorem ar1(ρ:YW)(c:aE):(c.gJ ρ).strip=c.strip.gJ ρ:=by
 cases c <;> first
  |rfl
  | (rename_i id ver p n;simp only[aE.strip,aE.gJ];cases ρ id ver <;> rfl)
  | (rename_i id ver p c i len;simp only[aE.strip,aE.gJ];cases ρ id ver <;> rfl)
  | (rename_i i v;simp only[aE.strip,aE.gJ];cases ρ i v <;> rfl)
theorem LK(ρ:YW):∀c:aE,(c.gJ ρ).size=c.size
 | .pr a b=>by simp only[aE.gJ,aE.size,LK ρ a,LK ρ b]
 | .ptr id ver p n=>by simp only[aE.gJ];cases ρ id ver <;> rfl
 | .dj id ver p c i len=>by simp only[aE.gJ];cases ρ id ver <;> rfl
 | .iy id ver=>by simp only[aE.gJ];cases ρ id ver <;> rfl
 | .undef | .gone | .cX | .ns | .uq | .zX | .d _ _ | .dN _ _ | .fn _ _ | .cons _ _ | .nil | .vec .. | .sb _ | .bx .. | .mp .. | .qu .. | .xU .. =>rfl
 | .yl id ver=>by simp only[aE.gJ];cases ρ id ver <;> rfl
theorem atT(ρ:YW){c:aE}(n:Nat):(c.gJ ρ).uT n=c.uT n:=by
 cases c with
 |bx e z c=>cases z with
  |zero=>rfl
  |succ z=>exact LK ρ c
 |_=>first | rfl | (simp only[aE.gJ];split <;> rfl)
theorem aoM(ρ:YW){c:aE}{pl:Pl}{n:Nat}{e:TypeId}(h:c.DK pl n e):(c.gJ ρ).DK pl n e:=by
  cases c <;> first
    | (rename_i e' z c;cases z with
       |zero=>exact h
       |succ z=>exact⟨h.1,h.2.1,h.2.2.1,by rw[LK];exact h.2.2.2⟩)
    |exact h
    |trivial
    | (rename_i id ver p n;simp only[aE.gJ];cases ρ id ver <;> trivial)
    | (rename_i id ver p c i len;simp only[aE.gJ];cases ρ id ver <;> trivial)
    | (rename_i i v;simp only[aE.gJ];cases ρ i v <;> trivial)
theorem tX{ρ:YW}{E E':Env}(h:w9 ρ E E'){id id':Id}{fr:Bool}{c:aE}(ho:sk E id fr c)(hβ:E'.β id'=E.β id)
  (hb:∀pl,E.β id=av pl->E'.w.heap[pl.b]? =E.w.heap[pl.b]? /\(∀k,E.g pl.b= .own (.id id) k->E'.g pl.b= .own (.id id') k)/\(E.g pl.b= .free->E'.g pl.b= .free)):sk E' id' fr (c.gJ ρ):=by
 by_cases hn:c.gI=bq
 ·obtain⟨pl,cur,e,h1,h2,h3,h5,h4⟩:=ho.box hn;obtain⟨b1,b2,b3⟩:=hb pl h1;have h6:=ach h h4;refine Md.obj ⟨pl,cur,e,by rw[hβ,h1],by rw[b1,h2],?_,aoM ρ h5,by rw[ar1,atT];exact h6⟩;cases fr with
  |true=>exact b3 h3
  |false=>exact b2 0 h3
 ·cases c <;> first
   | (exact absurd rfl hn)
   |skip
  rotate_left;rotate_left
  ·obtain⟨pl,mb,since,seen,c0,h1,h2,h3,_⟩:=ho;obtain⟨b1,b2,_⟩:=hb pl h1;exact⟨pl,mb,since,seen,c0,by rw[hβ,h1],by rw[b1,h2],b2 0 h3,λvr ahq=>by cases ahq⟩
  ·obtain⟨pl,r,h1,h2,h3,h4,h5,h6⟩:=ho;obtain⟨b1,b2,_⟩:=hb pl h1;exact⟨pl,r,by rw[hβ,h1],by rw[b1,h2],b2 0 h3,h4,ahw h h5,h6⟩
  rotate_left
  ·obtain⟨pl,es,clock,h1,h2,h3,h4⟩:=ho;obtain⟨b1,b2,_⟩:=hb pl h1;exact⟨pl,es,clock,by rw[hβ,h1],by rw[b1,h2],b2 0 h3,⟨h4.1.1.mono h.mem,h4.1.2⟩,h4.2⟩
  rename_i e t l;obtain⟨hz,ho⟩:=ho;refine⟨hz,?_⟩;rw[hβ];cases hp:E.β id with
  |none=>rw[hp]at ho;exact ho
  |some pl=>
   rw[hp]at ho;simp only at ho ⊢;obtain⟨b1,b2,_⟩:=hb pl hp;obtain⟨cur,k,h1,h2,h3,h4,h5,h6,h7,h8⟩:=ho;exact⟨cur,k,by rw[b1,h1],h2,h3,h4,b2 k h5,h6,h7,h8.mono λc x hx=>hx.mono h.mem⟩
def vn(E:Env):List aE->List Value->Prop
 |[],[]=>True
 |a::as,v::vs=>VS E a v/\vn E as vs
 |_,_=>False
def iJ.st(G:iJ):AS:= {cj:=[],bS:=G.bS,news:=[G.news]}
def gq(bS:List dB):AS:= {cj:=[],bS,news:=[]}
def vc(E:Env)(G:iJ)(v:Value)(w':World):Prop:=∃g' β',VS (G.st.env w' g' β') G.val v/\gN (G.st.env w' g' β')/\Trans E.w w' E.g g'/\cE E (G.st.env w' g' β')
def si(P:aK)(f:gg)(en:Entry):Prop:=∀w g β args bS ir x,vn ((gq bS).env w g β) args ir->gN ((gq bS).env w g β)->en.run args bS=av x->((callFunc f ir.toArray).run P w= .ok (.enter f ir.toArray) w/\Calls P f ir.toArray w λe w'=>∃v,e= .returned v/\vc ((gq bS).env w g β) (en.out args bS x) v w')\/(∃v w',(callFunc f ir.toArray).run P w= .ok (.value v) w'/\vc ((gq bS).env w g β) (en.out args bS x) v w')
def Je(P:aK)(y:Nat)(en:Entry):Prop:=∀w g β args bS ir x,vn ((gq bS).env w g β) args ir->gN ((gq bS).env w g β)->en.run args bS=av x->∀l us ts f rd n,ir= .func (.yield l) #[] #[]::(us++ts)->us.length=(TI P y).ps.size->RoundIn (Fr rd) n P l f (((TI P y).ps.zip us.toArray).foldl (λtmps (t,a)=>tmps.setIfInBounds t a) ts.toArray) (TI P y).as (TI P y).b w λe w'=>∃v,e= .returned v/\vc ((gq bS).env w g β) (en.out args bS x) v w'
def NX(P:aK)(f:gg)(en:Entry):Prop:=∀w g β args bS ir,vn ((gq bS).env w g β) args ir->gN ((gq bS).env w g β)->(∃x,en.set args bS x)->(callFunc f ir.toArray).run P w= .ok (.enter f ir.toArray) w/\Calls P f ir.toArray w λe w'=>∃v x,e= .returned v/\en.set args bS x/\vc ((gq bS).env w g β) (en.out args bS x) v w'
def Jd(P:aK)(f:Nat)(en:Entry):Prop:=(Nat.blt f yB=aS->si P f en)/\(Nat.ble yB f=aS->Je P f en)/\(Nat.blt f yB=aS->NX P f en)
theorem Jd.no{f:Nat}(h1:Nat.blt f yB=aS)(h2:Nat.ble yB f=aS):False:=ke _ (Nat.lt_of_lt_of_le (bN h1) (bN h2))
theorem Jd.of{P:aK}{f:gg}{en:Entry}(h:si P f en)(hf:Nat.blt f yB=aS)(hs:∀a o x,¬en.set a o x:=by exact λ_ _ _ h=>h):Jd P f en:=
 ⟨λ_=>h,λh2=>(Jd.no hf h2).elim,λ_ _ _ _ _ _ _ _ _ ⟨x,hx⟩=>(hs _ _ x hx).elim⟩
def Sound(P:aK)(Γ:sa):Prop:=∀f vs en,Γ f vs=av en->Jd P f en
theorem vn.mono{E E':Env}(h:cE E E'):∀ {as:List aE} {vs:List Value},vn E as vs->vn E' as vs
 |[],[],_=>trivial
 |_::_,_::_,⟨h1,h2⟩=>⟨h1.mono h,vn.mono h h2⟩
theorem vn.gJ{ρ:YW}{E E':Env}(h:w9 ρ E E'):∀ {as:List aE} {vs:List Value},vn E as vs->vn E' (as.map (aE.gJ ρ)) vs
 |[],[],_=>trivial
 |_::_,_::_,⟨h1,h2⟩=>⟨DC h h1,vn.gJ h h2⟩
theorem vn.append{E:Env}:∀ {as:List aE} {vs:List Value} {bs:List aE} {us:List Value},vn E as vs->vn E bs us->vn E (as++bs) (vs++us)
 |[],[],_,_,_,h=>h
 |_::_,_::_,_,_,⟨h1,h2⟩,h=>⟨h1,vn.append h2 h⟩
theorem YY{E:Env}:∀ {c:aE} {vs:List Value},VC E c vs->vn E c.list vs
 | .cons a b,vs,h=>by simp only[VC]at h;obtain⟨v,vs',cs,rfl,ha,ho,hb⟩:=h;exact⟨VS.of ha ho,YY hb⟩
 | .nil,vs,h=>by simp only[VC]at h;subst h;trivial
 | .undef,_,hv=>by simp only[VC]at hv
 | .gone,_,hv=>by simp only[VC]at hv
 | .cX,_,hv=>by simp only[VC]at hv
 | .ns,_,hv=>by simp only[VC]at hv
 | .uq,_,hv=>by simp only[VC]at hv
 | .yl ..,_,hv | .xU ..,_,hv=>by simp only[VC]at hv
 | .zX,_,hv=>by simp only[VC]at hv
 | .sb _,_,hv=>by simp only[VC]at hv
 | .d t x,_,hv=>by simp only[VC]at hv
 | .pr a b,_,hv=>by simp only[VC]at hv
 | .ptr ..,_,hv=>by simp only[VC]at hv
 | .dN ..,_,hv=>by simp only[VC]at hv
 | .dj ..,_,hv=>by simp only[VC]at hv
 | .fn ..,_,hv=>by simp only[VC]at hv
 | .vec ..,_,hv=>by simp only[VC]at hv
 | .bx ..,_,hv=>by simp only[VC]at hv
 | .iy ..,_,hv=>by simp only[VC]at hv
 | .mp ..,_,hv | .qu ..,_,hv=>by simp only[VC]at hv
theorem Inv.aJr{C:Ctx}{g:Nat->kI}{β:Id->Option Pl}{s:AS}{a:Act}{w:World}(h:Inv C g β s a w):∀l:List bF,vn (s.env w g β) (l.map s.ev) (l.map a.eval)
 |[]=>trivial
 |x::l=>⟨h.ev x,h.aJr l⟩
theorem Ax{E E':Env}{s:AS}(hs:E.s=s.bU)(ho:gN E)(he:cE E E'):∀(ps:List (Option Ty)) (vs:List aE) (ys:List Value) (r:List aE×List Id),vn E vs ys->(s.conv ps vs).eval=av r->aHw E E' r.2->vn E' r.1 ys
 |[],[],ys,r,hv,h,_=>by
  simp only[AS.conv,aA]at h;subst h;cases ys with
  |nil=>trivial
  |cons _ _=>exact hv.elim
 |some t::ps,v::vs,y::ys,r,⟨hv,PW⟩,h,hf=>by
  simp only[AS.conv]at h;obtain⟨x,h1,h2⟩:=az.1 h;obtain⟨r',h3,h4⟩:=az.1 h2;obtain rfl:=aA.1 h4;obtain⟨cs,hV,hO⟩:=hv.ew (zz h1);refine⟨VS.of (cs:=cs) ?_ ?_,Ax hs ho he ps vs ys r' PW h3 λid cR=>hf id (bt.2 (.inr cR))⟩
  ·simp only[V];exact uK hs ho he v t x cs hV h1 λid cR=>hf id (bt.2 (.inl cR))
  ·show fw t.agg cs y;rw[<-UO h1];exact hO
 |none::ps,v::vs,y::ys,r,⟨hv,PW⟩,h,hf=>by simp only[AS.conv]at h;obtain⟨r',h3,h4⟩:=az.1 h;obtain rfl:=aA.1 h4;exact⟨hv.mono he,Ax hs ho he ps vs ys r' PW h3 hf⟩
 |[],_::_,_,_,_,h,_=>by simp only[AS.conv,aw]at h
 |some _::_,[],_,_,_,h,_=>by simp only[AS.conv,aw]at h
 |none::_,[],_,_,_,h,_=>by simp only[AS.conv,aw]at h
end Go.Ab
namespace Go.Ab
theorem ni{id:Id}:∀ {ids:List Id} {k:Nat},idxOf id ids=av k->ids[k]? =av id
 |[],_,h=>by simp[idxOf]at h
 |x::xs,k,h=>by
  simp only[idxOf]at h;split at h
  ·rename_i e;simp only[aB]at h;subst h e;rfl
  ·simp only[Option.map_eq_some_iff]at h;obtain⟨j,hj,rfl⟩:=h;simpa using ni hj
theorem uf{id:Id}:∀ {ids:List Id} {k:Nat},ids.Nodup->ids[k]? =av id->idxOf id ids=av k
 |[],_,_,h=>by simp at h
 |x::xs,0,hn,h=>by simp only[fe,aB]at h;simp[idxOf,h]
 |x::xs,k+1,hn,h=>by
  simp only[kN]at h;obtain⟨h1,h2⟩:=dn.1 hn;have gW:x≠id:=λe=>h1 (e▸cH h)
  simp[idxOf,gW,uf h2 h]
theorem Ak(s0:AS)(all:List Id)(t:Nat):∀(ids:List Id) (es:List dB) (s:AS),(AS.iR s0 all t s ids es).cj=s.cj
 |[],_,_=>by simp[AS.iR]
 |_::_,[],_=>by simp[AS.iR]
 |id::ids,e::es,s=>by rw[AS.iR,Ak s0 all t ids es,cY]
theorem Ul(s:AS)(ids:List Id)(t:Nat)(es:List dB):(s.made ids t es).cj=s.cj:=by cases es <;> rfl
theorem DX(s0:AS)(all:List Id)(t:Nat):∀(ids:List Id) (es:List dB) (s:AS),ids.Nodup->es.length=ids.length->(∀id∈ids,s.bU id≠aF)->
  (∀id,id ∉ ids->(AS.iR s0 all t s ids es).bU id=s.bU id)/\
  ∀(k:Nat) (id:Id) (e:dB),ids[k]? =av id->es[k]? =av e->(AS.iR s0 all t s ids es).bU id=av (s0.pM all t (s0.zC id) e)
 |[],es,s,_,_,_=>⟨λ_ _=>by simp[AS.iR],λk id e h=>by simp at h⟩
 |_::_,[],s,_,hl,_=>by simp at hl
 |i::ids,e::es,s,hn,hl,hp=>by
  obtain⟨h1,h2⟩:=dn.1 hn;have hp':∀id∈ids,(s.aY i (s0.pM all t (s0.zC i) e)).bU id≠aF:=λid cR=>by rw[cM s i id _ (λe=>h1 (e▸cR))];exact hp id (aN _ cR)
  obtain⟨r1,r2⟩:=DX s0 all t ids es (s.aY i (s0.pM all t (s0.zC i) e)) h2 (by simpa using hl) hp';rw[AS.iR];refine⟨λid cR=> ?_,λk id e' hk he=> ?_⟩
  ·simp only[bI,not_or]at cR;rw[r1 id cR.2,cM s i id _ cR.1]
  ·cases k with
   |zero=>
    simp only[fe,aB]at hk he;subst hk he;rw[r1 i h1,ef s i _ (hp i (aM ..))]
   |succ k=>
    simp only[kN]at hk he;exact r2 k id e' hk he
theorem adt(s:AS)(ids:List Id)(t:Nat)(es:List dB)(hv:es=[]\/s.dM t=aS):
  (∀id,(es=[]\/∀j,id≠ .new t j)->(s.made ids t es).bU id=s.bU id)/\(es≠ []->∀j,(s.made ids t es).bU (.new t j)=(es[j]?).map (s.pM ids t 0)):=by
 cases es with
 |nil=>exact⟨λ_ _=>rfl,λh=>absurd rfl h⟩
 |cons e es=>
  have hv:s.dM t=aS:=by
   rcases hv with h | h
   ·cases h
   ·exact h
  refine⟨λid h=> ?_,λ_ j=> ?_⟩
  ·rcases h with h | h
   ·cases h
   ·exact hZ _ h
  ·rw[AS.made,vU (ju hv).2,List.getElem?_map]
def mj(ids:List Id):kI->kI
 | .free=> .free
 | .own .dY n=> .own .dY n
 | .own (.id i) n=>match idxOf i ids with | some k=> .own (.id (.cl k)) n | none=> .own .dY n
def zd(β:Id->Option Pl)(ids:List Id):Id->Option Pl
 | .cl k=>(ids[k]?).bind β
 | .new _ _=>aF
def mE(g:Nat->kI)(size:Nat)(ids:List Id)(t:Nat)(b:Nat):kI->kI
 | .free=> .free
 | .own .dY n=>if b < size then g b else .own .dY n
 | .own (.id i) n=> .own (.id (aD9 ids t i)) n
def uz(β β':Id->Option Pl)(ids:List Id)(t:Nat)(some?:Bool)(id:Id):Option Pl:=
 match idxOf id ids with
 |some k=>β' (.cl k)
 |none=>match id with
  | .new i j=>if i=t/\some?=aS then β' (.new 0 j) else β (.new i j)
  |id=>β id
theorem awN{ids:List Id}{l:kI}{off:Nat}(h:ur (λ_=>l) 0 off):ur (λ_=>mj ids l) 0 off:=by
 cases l with
 |free=>trivial
 |own o k=>cases o with
  |dY=>exact h
  |id i=>simp only[mj];cases idxOf i ids <;> exact h
section
variable {P:aK} {C:Ctx} {g:Nat->kI} {β:Id->Option Pl} {s:AS} {a:Act} {w:World} {o:Oper}
theorem anf(ids:List Id):
  w9 (s.uC ids) (s.env w g β) ((gq (ids.map (s.lk ids))).env w (λb=>mj ids (g b)) (zd β ids)):=by
 refine⟨⟨λb off v ⟨h1,h2⟩=>⟨h1,?_⟩,λb ob h1 h2=>⟨by show mj ids (g b)= .free;have h1:g b= .free:=h1;rw[h1];rfl,h2⟩⟩,λid ver r hr _=> ?_⟩
 ·exact awN (l:=g b) h2
 ·unfold AS.uC at hr;split at hr
  ·rename_i k v fr c hk ho;split at hr
   ·rename_i aII;simp only[aB]at hr;subst hr aII;have cR:=ni hk;have cI:=dQ ho;refine⟨⟨?_,λ_ _ _ _=>aO _⟩,λ_=>⟨⟨fr,c,cI⟩,?_⟩⟩
    ·show(ids.map (s.lk ids))[k]? ≠aF
     simp[cR]
    ·show(ids[k]?).bind β=β id;rw[cR];rfl
   ·cases hr
  ·cases hr
theorem ang(ids:List Id)(hn:ids.Nodup)(h:gN (s.env w g β)):gN ((gq (ids.map (s.lk ids))).env w (λb=>mj ids (g b)) (zd β ids)):=by
 refine⟨?_,h.gl.mono (anf ids).mem⟩;intro id ver fr c cR;have cR:(gq (ids.map (s.lk ids))).bU id=av (.obj ver fr c):=cR;cases id with
 |new i j=>simp[gq,AS.bU]at cR
 |cl k=>
  simp only[gq,AS.bU,List.getElem?_map,Option.map_eq_some_iff]at cR;obtain⟨id1,hk,he⟩:=cR;unfold AS.lk at he;split at he
  ·rename_i v fr1 c1 cI;simp only[dB.obj.injEq]at he;obtain⟨rfl,rfl,rfl⟩:=he;refine tX (anf ids) (h id1 v fr1 c1 cI) (by show(ids[k]?).bind β=β id1;rw[hk];rfl) λpl hp=>⟨rfl,λn hg=> ?_,λhg=> ?_⟩
   ·have hg:g pl.b= .own (.id id1) n:=hg;show mj ids (g pl.b)=_;rw[hg];simp[mj,uf hn hk]
   ·have hg:g pl.b= .free:=hg;show mj ids (g pl.b)=_;rw[hg];rfl
  ·cases he
theorem QV(h:Inv C g β s a w){ids:List Id}(hn:ids.Nodup)(hp:∀id∈ids,∃r,s.obj id=av r)(Qk:∀id∈ids,s.M1 id=aS){G:iJ}{t:Nat}(hl:G.bS.length=ids.length)(hv:G.news=[]\/s.dM t=aS){v:Value}{w':World}
  (ha:vc ((gq (ids.map (s.lk ids))).env w (λb=>mj ids (g b)) (zd β ids)) G v w'):
  ∃g' β',Inv C g' β' (AS.iR s ids t (s.made ids t G.news) ids G.bS) a w'/\VS ((AS.iR s ids t (s.made ids t G.news) ids G.bS).env w' g' β') (G.val.gJ (s.sT ids t)) v:=by
 obtain⟨g1,β1,xA,avK,aiL,hle⟩:=ha;have aiL:Trans w w' (λb=>mj ids (g b)) g1:=aiL;obtain⟨m1,m2⟩:=adt s ids t G.news hv;have aKH:∀id∈ids,s.bU id≠aF:=λid cR=>by obtain⟨⟨v,fr,c⟩,hr⟩:=hp id cR;rw[dQ hr];simp
 have zQ:∀id,s.bU id≠aF->G.news=[]\/∀j,id≠ .new t j:=λid cR=>by
  rcases hv with hv | hv
  ·exact .inl hv
  ·exact .inr λj e=>cR (by rw[e];exact(ju hv).1 j)
 obtain⟨n1,n2⟩:=DX s ids t ids G.bS (s.made ids t G.news) hn hl (λid cR=>by rw[m1 id (zQ id (aKH id cR))];exact aKH id cR);have aIJ:∀j,G.news≠ []->Id.new t j ∉ ids:=λj gW cR=>by
  rcases hv with hv | hv
  ·exact gW hv
  ·exact aKH _ cR ((ju hv).1 j)
 generalize Sa:AS.iR s ids t (s.made ids t G.news) ids G.bS=s2 at*;have hgO:∀(k:Nat) (id:Id),ids[k]? =av id->∃e,G.bS[k]? =av e/\s2.bU id=av (s.pM ids t (s.zC id) e):=λk id hk=>by
  have iI:k < G.bS.length:=by rw[hl];exact(List.getElem?_eq_some_iff.1 hk).1
  exact⟨_,cm iI,n2 k id _ hk (cm iI)⟩
 have Jb:G.news≠ []->∀j,s2.bU (.new t j)=(G.news[j]?).map (s.pM ids t 0):=λgW j=>by rw[n1 _ (aIJ j gW),m2 gW j]
 have hgS:∀id,id ∉ ids->(G.news=[]\/∀j,id≠ .new t j)->s2.bU id=s.bU id:=λid h1 h2=>by rw[n1 id h1,m1 id h2]
 have hverOf:∀id∈ids,∃fr c,s.bU id=av (.obj (s.zC id) fr c):=λid cR=>by obtain⟨⟨v,fr,c⟩,hr⟩:=hp id cR;refine⟨fr,c,?_⟩;rw[dQ hr];simp[AS.zC,hr]
 have aKe:∀b n,b < w.heap.size->g1 b= .own .dY n->(g b= .own .dY n\/∃i,g b= .own (.id i) n/\idxOf i ids=aF):=λb n hb hg=>by
  have h1:=aiL.ahO b hb;cases Qj:g b with
  |free=>simp only[Qj,mj]at h1;rw[h1.1]at hg;cases hg
  |own o k=>cases o with
   |dY=>simp only[Qj,mj]at h1;rw[h1.1]at hg;left;exact hg
   |id i=>
    cases hi:idxOf i ids with
    |none=>
     simp only[Qj,mj,hi]at h1;rw[h1.1]at hg;simp only[kI.own.injEq,true_and]at hg;subst hg;exact .inr ⟨i,rfl,hi⟩
    |some k'=>
     simp only[Qj,mj,hi]at h1;rcases h1.1 with h2 | ⟨_,_,h2,_⟩ <;> (rw[h2]at hg;cases hg)
 let g2:Nat->kI:=λb=>mE g w.heap.size ids t b (g1 b)
 let β2:Id->Option Pl:=uz β β1 ids t (!G.news.isEmpty)
 have hβO:∀k id,ids[k]? =av id->β2 id=β1 (.cl k):=λk id hk=>by show uz _ _ _ _ _ id=_;simp[uz,uf hn hk]
 have hβN:G.news≠ []->∀j,β2 (.new t j)=β1 (.new 0 j):=λgW j=>by
  show uz _ _ _ _ _ _=_;have:idxOf (.new t j) ids=aF:=by
   cases hi:idxOf (.new t j) ids with
   |none=>rfl
   |some k=>exact absurd (cH (ni hi)) (aIJ j gW)
  have hne':G.news.isEmpty=bq:=by cases hh:G.news with
   |nil=>exact absurd hh gW
   |cons _ _=>rfl
  simp[uz,this,hne']
 have hβS:∀id,id ∉ ids->(G.news=[]\/∀j,id≠ .new t j)->β2 id=β id:=λid h1 h2=>by
  show uz _ _ _ _ _ _=_;have:idxOf id ids=aF:=by
   cases hi:idxOf id ids with
   |none=>rfl
   |some k=>exact absurd (cH (ni hi)) h1
  cases id with
  |cl k=>simp[uz,this]
  |new i j=>
   have:¬(i=t/\(!G.news.isEmpty)=aS):=by
    rintro⟨rfl,h3⟩;rcases h2 with h2 | h2
    ·rw[h2]at h3;cases h3
    ·exact h2 j rfl
   simp only[uz, *,bz]
 have aIE:Trans w w' g g2:=by
  refine⟨aiL.os,aiL.tape,aiL.output,aiL.size,λb hb=> ?_⟩;have h1:=aiL.ahO b hb;show match g b with | .free=>mE g w.heap.size ids t b (g1 b)= .free/\_ | .own .dY k=>mE g w.heap.size ids t b (g1 b)= .own .dY k/\_ | .own (.id _) k=>(mE g w.heap.size ids t b (g1 b)= .free\/∃i k',mE g w.heap.size ids t b (g1 b)= .own (.id i) k'/\k<=k')/\_
  cases Qj:g b with
  |free=>simp only[Qj,mj]at h1 ⊢;rw[h1.1];exact⟨rfl,h1.2⟩
  |own o k=>cases o with
   |dY=>simp only[Qj,mj]at h1 ⊢;rw[h1.1];simp only[mE,hb,bG,Qj];exact⟨trivial,h1.2⟩
   |id i=>
    cases hi:idxOf i ids with
    |none=>
     simp only[Qj,mj,hi]at h1 ⊢;rw[h1.1];simp only[mE,hb,bG,Qj];exact⟨.inr ⟨i,k,rfl,aC _⟩,λoff v _ hv=>by simpa only[eO,h1.2]using hv⟩
    |some k'=>
     simp only[Qj,mj,hi]at h1 ⊢;refine⟨?_,h1.2⟩;rcases h1.1 with h2 | ⟨i',k'',h2,h3⟩
     ·rw[h2];exact .inl rfl
     ·rw[h2];exact .inr ⟨_,k'',rfl,h3⟩
 have BN:qy (G.st.env w' g1 β1) (s2.env w' g2 β2):=by
  refine⟨λb off v ⟨h1,h2⟩=> ?_,λb ob h1 h2=>⟨by show mE g w.heap.size ids t b (g1 b)= .free;have h1:g1 b= .free:=h1;rw[h1];rfl,h2⟩⟩;refine⟨h1,?_⟩;have h2:ur g1 b off:=h2;show ur g2 b off;unfold ur at h2 ⊢;show match mE g w.heap.size ids t b (g1 b) with | .free=>True | .own _ k=>off < k
  cases Qj:g1 b with
  |free=>simp[mE]
  |own o k=>
   rw[Qj]at h2;cases o with
   |dY=>
    simp only[mE];by_cases hb:b < w.heap.size
    ·rw[if_pos hb];rcases aKe b k hb Qj with h3 | ⟨i,h3,_⟩ <;> (rw[h3];exact h2)
    ·rw[if_neg hb];exact h2
   |id i=>exact h2
 have hentOut:∀(base:Nat) (e:dB) (ver:Nat) (fr:Bool) (c:aE),s.pM ids t base e= .obj ver fr c->∃v0 c0,e= .obj v0 fr c0/\ver=base+v0/\c=c0.gJ (s.sT ids t):=λbase e ver fr c he=>by
  cases e with
  |dead=>cases he
  |obj v0 fr0 c0=>
   simp only[AS.pM,dB.obj.injEq]at he;obtain⟨rfl,rfl,rfl⟩:=he;exact⟨v0,c0,rfl,rfl,rfl⟩
 have adM:w9 (s.sT ids t) (G.st.env w' g1 β1) (s2.env w' g2 β2):=by
  refine⟨BN,λid ver r hr hb=> ?_⟩;cases id with
  |cl k=>
   obtain⟨Ja,Qh⟩:=hb;have Ja:G.bS[k]? ≠aF:=Ja
   have hk:k < ids.length:=by
    rcases nQ k ids.length with h' | h'
    ·exact h'
    ·exact absurd (dW ao) Ja
   have cR:ids[k]? =av ids[k]:=cm hk
   simp only[AS.sT,cR,aB]at hr;subst hr;obtain⟨e,Gu,U6⟩:=hgO k _ cR;refine⟨⟨by show s2.bU _≠aF;rw[U6];simp,λv fr c hh=> ?_⟩,λ⟨fr,c,hh⟩=>⟨?_,hβO k _ cR⟩⟩
   ·have hh:s2.bU ids[k]=av (.obj v fr c):=hh;rw[U6,aB]at hh;obtain⟨v0,c0,rfl,rfl,_⟩:=hentOut _ _ _ _ _ hh;have:=Qh v0 fr c0 Gu;omega
   ·have hh:s2.bU ids[k]=av (.obj (s.zC ids[k]+ver) fr c):=hh;rw[U6,aB]at hh;obtain⟨v0,c0,rfl,aD6,_⟩:=hentOut _ _ _ _ _ hh;obtain rfl:ver=v0:=ao;exact⟨fr,c0,Gu⟩
  |new i j=>
   simp only[AS.sT,aB]at hr;subst hr;obtain⟨Ja,Qh⟩:=hb;have Ja:([G.news].getD i [])[j]? ≠aF:=Ja
   have Qh:∀v fr c,([G.news].getD i [])[j]? =av (.obj v fr c)->ver<=v:=Qh
   cases i with
   |succ i=>simp at Ja
   |zero=>
    simp only[iD]at Ja Qh;have gW:G.news≠ []:=λe=>by rw[e]at Ja;simp at Ja
    obtain⟨e,he⟩:=Option.ne_none_iff_exists'.1 Ja;have U6:=Jb gW j;rw[he,da]at U6;refine⟨⟨by show s2.bU (.new t j)≠aF;rw[U6];simp,λv fr c hh=> ?_⟩,λ⟨fr,c,hh⟩=>⟨?_,hβN gW j⟩⟩
    ·have hh:s2.bU (.new t j)=av (.obj v fr c):=hh;rw[U6,aB]at hh;obtain⟨v0,c0,rfl,rfl,_⟩:=hentOut _ _ _ _ _ hh;have:=Qh v0 fr c0 he;simp only;omega
    ·have hh:s2.bU (.new t j)=av (.obj ver fr c):=hh;rw[U6,aB]at hh;obtain⟨v0,c0,rfl,aD6,_⟩:=hentOut _ _ _ _ _ hh;obtain rfl:ver=v0:=ao;exact⟨fr,c0,he⟩
 have aIr:cE (s.env w g β) (s2.env w' g2 β2):=by
  refine⟨Trans.mem aIE,λid ver hb=> ?_,λid ver hb hc=> ?_⟩
  ·obtain⟨Ja,Qh⟩:=hb;have Ja:s.bU id≠aF:=Ja;have Qh:∀v fr c,s.bU id=av (.obj v fr c)->ver<=v:=Qh;by_cases cR:id∈ids
   ·obtain⟨k,hk⟩:=jz.1 cR;obtain⟨e,Gu,U6⟩:=hgO k id hk;obtain⟨fr1,c1,A7⟩:=hverOf id cR;refine⟨by show s2.bU _≠aF;rw[U6];simp,λv fr c hh=> ?_⟩;have hh:s2.bU id=av (.obj v fr c):=hh;rw[U6,aB]at hh;obtain⟨v0,c0,rfl,rfl,_⟩:=hentOut _ _ _ _ _ hh;have:=Qh _ _ _ A7;omega
   ·have:=hgS id cR (zQ id Ja);exact⟨by show s2.bU _≠aF;rw[this];exact Ja,λv fr c hh=>Qh v fr c (this.symm.trans hh)⟩
  ·obtain⟨Ja,Qh⟩:=hb;have Ja:s.bU id≠aF:=Ja;have Qh:∀v fr c,s.bU id=av (.obj v fr c)->ver<=v:=Qh;obtain⟨fr,c,hh⟩:=hc;have hh:s2.bU id=av (.obj ver fr c):=hh;by_cases cR:id∈ids
   ·obtain⟨k,hk⟩:=jz.1 cR;obtain⟨e,Gu,U6⟩:=hgO k id hk;obtain⟨fr1,c1,A7⟩:=hverOf id cR;rw[U6,aB]at hh;obtain⟨v0,c0,rfl,aD6,_⟩:=hentOut _ _ _ _ _ hh;have aII:=Qh _ _ _ A7;obtain rfl:v0=0:=ao;have hver':ver=s.zC id:=ao;refine⟨⟨fr1,c1,by rw[hver'];exact A7⟩,?_⟩;show β2 id=β id;rw[hβO k id hk];have aIl:s.lk ids id= .obj 0 fr1 (c1.gJ (s.uC ids)):=by simp[AS.lk,A7]
    have h0:((gq (ids.map (s.lk ids))).env w (λb=>mj ids (g b)) (zd β ids)).CU (.cl k) 0:=by
     refine⟨?_,λ_ _ _ _=>aO _⟩;show(ids.map (s.lk ids))[k]? ≠aF
     simp[hk]
    have:=(hle.cur (.cl k) 0 h0 ⟨fr,c0,Gu⟩).2;have this:β1 (.cl k)=(ids[k]?).bind β:=this;rw[this,hk];rfl
   ·have:=hgS id cR (zQ id Ja);exact⟨⟨fr,c,this.symm.trans hh⟩,hβS id cR (zQ id Ja)⟩
 have aIz:gN (s2.env w' g2 β2):=by
  refine⟨?_,avK.gl.mono adM.mem⟩;intro id ver fr c hh;have hh:s2.bU id=av (.obj ver fr c):=hh;by_cases cR:id∈ids
  ·obtain⟨k,hk⟩:=jz.1 cR;obtain⟨e,Gu,U6⟩:=hgO k id hk;rw[U6,aB]at hh;obtain⟨v0,c0,rfl,_,rfl⟩:=hentOut _ _ _ _ _ hh;refine tX adM (avK (.cl k) v0 fr c0 Gu) (hβO k id hk) λpl _=>⟨rfl,λn hg=> ?_,λhg=> ?_⟩
   ·have hg:g1 pl.b= .own (.id (.cl k)) n:=hg;show mE g w.heap.size ids t pl.b (g1 pl.b)=_;rw[hg];simp[mE,aD9,List.getD_eq_getElem?_getD,hk]
   ·have hg:g1 pl.b= .free:=hg;show mE g w.heap.size ids t pl.b (g1 pl.b)=_;rw[hg];rfl
  ·by_cases gW:G.news≠ []/\∃j,id= .new t j
   ·obtain⟨gW,j,rfl⟩:=gW;rw[Jb gW j,Option.map_eq_some_iff]at hh;obtain⟨e,he,hh⟩:=hh;obtain⟨v0,c0,rfl,_,rfl⟩:=hentOut _ _ _ _ _ hh;refine tX adM (avK (.new 0 j) v0 fr c0 (by show([G.news].getD 0 [])[j]? =_;simpa using he)) (hβN gW j) λpl _=>⟨rfl,λn hg=> ?_,λhg=> ?_⟩
    ·have hg:g1 pl.b= .own (.id (.new 0 j)) n:=hg;show mE g w.heap.size ids t pl.b (g1 pl.b)=_;rw[hg];rfl
    ·have hg:g1 pl.b= .free:=hg;show mE g w.heap.size ids t pl.b (g1 pl.b)=_;rw[hg];rfl
   ·have aLR:G.news=[]\/∀j,id≠ .new t j:=by
     by_cases hh:G.news=[]
     ·exact .inl hh
     ·exact .inr λj e=>gW ⟨hh,j,e⟩
    rw[hgS id cR aLR]at hh;have same:∀id,id ∉ ids->∀ver fr c,s.bU id=av (.obj ver fr c)->∀pl,β id=av pl->w'.heap[pl.b]? =w.heap[pl.b]? /\mE g w.heap.size ids t pl.b (g1 pl.b)=g pl.b:=by
     intro id cR ver fr c hh pl FQ;obtain⟨hb,aIq⟩:=(h.bH id ver fr c hh).label (pl:=pl) FQ;have hb:pl.b < w.heap.size:=hb;have h1:=aiL.ahO pl.b hb;have aKl:idxOf id ids=aF:=by
      cases hi:idxOf id ids with
      |none=>rfl
      |some k=>exact absurd (cH (ni hi)) cR
     rcases aIq with⟨k,hk⟩ | ⟨_,hk⟩
     ·have hk:g pl.b= .own (.id id) k:=hk;simp only[hk,mj,aKl]at h1;rw[h1.1];simp only[mE,hb,bG];exact⟨h1.2,trivial⟩
     ·have hk:g pl.b= .free:=hk;simp only[hk,mj]at h1;rw[h1.1,hk];exact⟨h1.2,rfl⟩
    have ho:=h.bH id ver fr c hh;refine ho.mono aIr (hβS id cR aLR) (λpl FQ=>same id cR ver fr c hh pl FQ) λq2 vq k2 v2 l2 MB _=> ?_
    have MB:s.bU q2=av (.obj vq aS (.mp k2 v2 l2)):=MB;have aD2:q2 ∉ ids:=λhm=>by
     have:=Qk q2 hm;have e:s.obj q2=av (vq,aS,.mp k2 v2 l2):=by simp[AS.obj,MB]
     unfold AS.M1 at this;rw[e]at this;cases this
    refine⟨⟨k2,v2,l2,?_⟩,λpl FQ=>same q2 aD2 vq aS _ MB pl FQ⟩;show s2.bU q2=_;rw[hgS q2 aD2 (zQ q2 (by rw[MB];simp))];exact MB
 have Z5:s2.cj=s.cj:=by rw[<-Sa,Ak,Ul]
 exact⟨g2,β2,h.step Z5 aIE aIr aIz,DC adM xA⟩
end
end Go.Ab
namespace Go.Ab
theorem ql(s:AS):∀(n:Nat) (todo acc:List Id),acc.Nodup->(s.reach n todo acc).Nodup
 | 0,_,acc,h=>by simpa[AS.reach]using h
 |_+1,[],acc,h=>by simpa[AS.reach]using h
 |n+1,id::todo,acc,h=>by
  rw[AS.reach];split
  ·exact ql s n todo acc h
  ·rename_i hc;refine ql s n _ _ ?_
   rw[List.nodup_append];refine⟨h,by simp,λx hx y hy e=> ?_⟩;simp only[List.mem_singleton]at hy;subst hy e;exact hc (by simpa using hx)
theorem y6(s:AS)(vs:List aE):(s.XZ vs).Nodup:=ql s _ _ _ (by simp)
section
variable {P:aK} {C:Ctx} {g:Nat->kI} {β:Id->Option Pl} {s:AS} {a:Act} {w:World} {o:Oper}
theorem acy(h:Inv C g β s a w){ids:List Id}(hn:ids.Nodup)(zP:s.anw ids=aS){G:iJ}{s':AS}(he:(s.back ids o.dst G).eval=av s'){v:Value}{w':World}
  (ha:vc ((gq (ids.map (s.lk ids))).env w (λb=>mj ids (g b)) (zd β ids)) G v w'):gw C s' (a.put o.dst v) w':=by
 have hp:∀id∈ids,∃r,s.obj id=av r:=λid cR=>by have:=cS.1 zP id cR;rw[au]at this;exact cd.1 this.1
 have Qk:∀id∈ids,s.M1 id=aS:=λid cR=>by have:=cS.1 zP id cR;rw[au]at this;exact this.2
 unfold AS.back at he;cases aIb:o.dst with
 |some t=>
  rw[aIb]at he;obtain⟨hg,he⟩:=aH.1 he;obtain rfl:=aA.1 he;simp only[au,dk,gB]at hg;obtain⟨hl,hg⟩:=hg;have avW:G.news=[]\/s.dM t=aS:=by
   rcases hg with hg | hg
   ·exact .inl (by simpa using hg)
   ·exact .inr hg
  obtain⟨g2,β2,h1,h2⟩:=QV h hn hp Qk hl avW ha;exact⟨g2,β2,h1.put (av t) h2⟩
 |none=>
  rw[aIb]at he;obtain⟨hg,he⟩:=aH.1 he;obtain rfl:=aA.1 he;simp only[au,dk]at hg;obtain⟨hl,hg⟩:=hg;have zQ:G.news=[]:=by simpa using hg
  obtain⟨g2,β2,h1,_⟩:=QV (t:=0) h hn hp Qk hl (.inl zQ) ha;rw[zQ]at h1;exact⟨g2,β2,h1⟩
theorem Mt(h:Inv C g β s a w){en:Entry}{ids:List Id}(hn:ids.Nodup){vs:List aE}{ys:List Value}(hv:vn (s.env w g β) vs ys)
  {s':AS} (he:(s.enter en o.dst ids vs).eval=av s'):∃x,en.run (vs.map (aE.gJ (s.uC ids))) (ids.map (s.lk ids))=av x/\
   vn ((gq (ids.map (s.lk ids))).env w (λb=>mj ids (g b)) (zd β ids)) (vs.map (aE.gJ (s.uC ids))) ys/\
   gN ((gq (ids.map (s.lk ids))).env w (λb=>mj ids (g b)) (zd β ids))/\
   ∀v w',vc ((gq (ids.map (s.lk ids))).env w (λb=>mj ids (g b)) (zd β ids)) (en.out (vs.map (aE.gJ (s.uC ids))) (ids.map (s.lk ids)) x) v w'->gw C s' (a.put o.dst v) w':=by
 unfold AS.enter at he;obtain⟨zP,he⟩:=aH.1 he;obtain⟨x,hx,he⟩:=uc.1 he;obtain⟨x0,aFL,he⟩:=az.1 he;rw[en.an4 _ _ aFL]at he;exact⟨x,hx,vn.gJ (anf ids) hv,ang ids hn h.bH,λv w' ha=>acy h hn zP he ha⟩
theorem aim(h:Inv C g β s a w){f:gg}{en:Entry}(hd:si P f en){ids:List Id}(hn:ids.Nodup){vs:List aE}{ys:List Value}(hv:vn (s.env w g β) vs ys)
  (hr:(execOp a.eval o).run P w=(callFunc f ys.toArray).run P w) {s':AS} (he:(s.enter en o.dst ids vs).eval=av s'):eX P o a w (gw C s'):=by
 obtain⟨x,hx,h1,h2,key⟩:=Mt h hn hv he;rcases hd _ _ _ _ _ _ _ h1 h2 hx with⟨aiz,hc⟩ | ⟨v,w',aJF,ha⟩
 ·exact .inr (.inr (.inl ⟨f,ys.toArray,w,hr.trans aiz,hc.mono λe w' ⟨v,he,ha⟩=>⟨v,he,key v w' ha⟩⟩))
 ·exact .inl ⟨v,w',hr.trans aJF,key v w' ha⟩
theorem aoR(h:Inv C g β s a w){c:Call}{F:bF}{f:gg}{caps:aE}{en:Entry}(ho:o.op= .call c)(hc:c.callee= .value F)(hF:s.ev F= .fn f caps)(hd:si P f en){s':AS}
  (he:(s.call en o.dst (c.args.toList.map s.ev++caps.list)).eval=av s'):eX P o a w (gw C s'):=by
 obtain⟨cal,args,tys⟩:=c;simp only at hc he;subst hc;obtain⟨vs,hy,aHh⟩:=Xy (hF▸h.ev F);have G1:=(h.aJr args.toList).append (YY aHh);have hr:(execOp a.eval o).run P w=(callFunc f (args.toList.map a.eval++vs).toArray).run P w:=by
  have e1:execOp a.eval o=(do let d <-resolve a.eval {callee:= .value F,args,argTypes:=tys} o.type;invoke d.target d.args):=by simp only[execOp,ho]
  rw[e1];simp only[resolve,hy,Deferred.ofValue,bY,dA,bB,invoke];congr 2;simp
 unfold AS.call at he;obtain⟨r,h1,h2⟩:=az.1 he;obtain⟨g',i1,e1,_,f1⟩:=eS r.2 h;exact aim i1 hd (y6 _ _) (Ax rfl h.bH e1 _ _ _ r G1 h1 f1) hr h2
theorem Xo{X R:Type}{S:X->Prop}{k:X->Option R}{r:R}(h:aAT S k=av r):(∃x,S x)/\∀x,S x->k x=av r:=by
 unfold aAT at h;split at h
 ·rename_i hx;obtain rfl:=Option.some.inj h;exact hx.choose_spec
 ·cases h
theorem N2(h:Inv C g β s a w){f:gg}{en:Entry}(hd:NX P f en){vs:List aE}{ys:List Value}(G1:vn (s.env w g β) vs ys){R:Type}{k:AS->Option R}{r:R}
  (he:s.acI en o.dst vs k=av r):(callFunc f ys.toArray).run P w= .ok (.enter f ys.toArray) w/\Calls P f ys.toArray w λe w'=>∃v,e= .returned v/\∃s',gw C s' (a.put o.dst v) w'/\k s'=av r:=by
 unfold AS.acI at he;obtain⟨r2,h0,he⟩:=gr.1 he;obtain⟨r3,h1,h3⟩:=az.1 h0;obtain⟨zP,h3⟩:=aH.1 h3;obtain rfl:=aA.1 h3;obtain⟨g',i1,e1,_,f1⟩:=eS r3.2 h;have hn:=y6 (s.bn r3.2) r3.1;have hv:=Ax rfl h.bH e1 _ _ _ r3 G1 h1 f1;unfold AS.au7 at he;obtain⟨hx,hk⟩:=Xo he;obtain⟨c1,c2⟩:=hd _ _ _ _ _ _ (vn.gJ (anf _) hv) (ang _ hn i1.bH) hx;refine⟨c1,c2.mono λe w' ⟨v,x,adK,hs,ha⟩=>⟨v,adK,?_⟩⟩;obtain⟨s',h4,h5⟩:=gr.1 (hk x hs);obtain⟨x0,aFL,h4⟩:=az.1 h4;rw[en.an4 _ _ aFL]at h4;exact⟨s',acy i1 hn zP h4 ha,h5⟩
theorem ahS(h:Inv C g β s a w){c:Call}{F:bF}{f:gg}{caps:aE}{en:Entry}(ho:o.op= .call c)(hc:c.callee= .value F)(hF:s.ev F= .fn f caps)(hd:NX P f en){R:Type}{k:AS->Option R}{r:R}
  (he:s.acI en o.dst (c.args.toList.map s.ev++caps.list) k=av r):eX P o a w λa' w'=>∃s',gw C s' a' w'/\k s'=av r:=by
 obtain⟨cal,args,tys⟩:=c;simp only at hc he;subst hc;obtain⟨vs,hy,aHh⟩:=Xy (hF▸h.ev F);obtain⟨c1,c2⟩:=N2 h hd ((h.aJr args.toList).append (YY aHh)) he;refine .inr (.inr (.inl ⟨f,(args.toList.map a.eval++vs).toArray,w,Eq.trans ?_ c1,c2⟩));have e1:execOp a.eval o=(do let d <-resolve a.eval {callee:= .value F,args,argTypes:=tys} o.type;invoke d.target d.args):=by simp only[execOp,ho]
 rw[e1];simp only[resolve,hy,Deferred.ofValue,bY,dA,bB,invoke];congr 2;simp
theorem Bb.aND{E:Env}{f:aE}{tmps:Array Value}(h:Bb E f tmps):vn E f.list tmps.toList:=by
 obtain⟨h1,h2⟩:=h;have gen:∀(l:List aE) (ys:List Value),l.length=ys.length->(∀i,VS E (l.getD i .undef) (ys.getD i undef))->vn E l ys:=by
  intro l
  induction l with
  |nil=>intro ys hl _;cases ys with
   |nil=>trivial
   |cons _ _=>simp at hl
  |cons x l ih=>intro ys hl hi;cases ys with
   |nil=>simp at hl
   |cons y ys=>exact⟨by simpa using hi 0,ih ys (by simpa using hl) λi=>by simpa using hi (i+1)⟩
 exact gen _ _ (by simpa using h1) λi=>by simpa[cC,List.getD_eq_getElem?_getD]using h2 i
theorem amc(h:Inv C g β s a w){c:Call}{F:bF}{id:Id}{ver:Nat}{rc:sA}{f:aE}{en:Entry}(ho:o.op= .call c)(hc:c.callee= .value F)
  (hF:s.yielded (s.ev F) c.args.size=av (id,ver,rc,f)) (aJD:rc=TI P rc.y) (hd:Jd P rc.y en) {s':AS}
  (he:(s.call en o.dst (.yl id ver::(c.args.toList.map s.ev++f.list))).eval=av s'):eX P o a w (gw C s'):=by
 obtain⟨cal,args,tys⟩:=c;simp only at hc he hF;subst hc;unfold AS.yielded at hF;split at hF;rotate_left
 ·cases hF
 rename_i id' ver' adK;split at hF;rotate_left
 ·cases hF
 rename_i v c0 f0 la;split at hF;rotate_left
 ·cases hF
 rename_i avE;simp only[aB,cG]at hF;obtain⟨rfl,rfl,rfl,rfl⟩:=hF;simp only[au,dk]at avE;obtain⟨⟨rfl,sh⟩,hy⟩:=avE;have cI:=dQ la;have hv:=h.ev F;rw[adK]at hv;obtain⟨cs,hV,hO⟩:=hv;simp only[V]at hV;obtain⟨l,rfl,hb,ff⟩:=hV;have aIL:a.eval F= .func (.yield l) #[] #[]:=by simpa[fw,aE.agg]using hO.symm
 obtain⟨pl,hp,rfl⟩:=ff ⟨bq,_,cI⟩;obtain⟨pl',r,hp',hh,hg,⟨q1,q2,q3⟩,Z5,pO⟩:=h.bH id' v bq _ cI;have hp':β id'=av pl':=hp';have hp:β id'=av pl:=hp;rw[hp']at hp;obtain rfl:pl'=pl:=by simpa using hp
 have hh:w.heap[pl'.b]? =av (.loop r):=hh
 have G1:vn (s.env w g β) (.yl id' v::(args.toList.map s.ev++f0.list)) (.func (.yield pl'.b) #[] #[]::(args.toList.map a.eval++r.tmps.toList)):=
  ⟨by rw[<-aIL,<-adK];exact h.ev F,(h.aJr args.toList).append Z5.aND⟩
 have hr:(execOp a.eval o).run P w= .ok (.round pl'.b r.fn ((c0.ps.zip (args.toList.map a.eval).toArray).foldl (λtmps (t,a)=>tmps.setIfInBounds t a) r.tmps.toList.toArray) c0.as c0.b) w:=by
  have e1:execOp a.eval o=(do let d <-resolve a.eval {callee:= .value F,args,argTypes:=tys} o.type;invoke d.target d.args):=by simp only[execOp,ho]
  have e2:=run_yield (P:=P) (args:=args.map a.eval) hh (by simpa[q1]using sh);rw[q1,q2,q3]at e2;rw[e1];simp only[resolve,aIL,Deferred.ofValue,bY,dA,bB,invoke];have e3:(args.toList.map a.eval).toArray=args.map a.eval:=by apply fB;simp
  rw[e3];simpa using e2
 unfold AS.call at he;obtain⟨r2,h1,h2⟩:=az.1 he;obtain⟨g',i1,e1,_,f1⟩:=eS r2.2 h;obtain⟨x,hx,k1,k2,key⟩:=Mt i1 (y6 _ _) (Ax rfl h.bH e1 _ _ _ r2 G1 h1 f1) h2;refine .inr (.inr (.inr ⟨pl'.b,r.fn,_,c0.as,c0.b,w,hr,λrd n=> ?_⟩));have:=hd.2.1 hy _ _ _ _ _ _ x k1 k2 hx pl'.b (args.toList.map a.eval) r.tmps.toList r.fn rd n rfl (by rw[<-aJD];simpa using sh);rw[<-aJD]at this;exact this.mono λe w' ⟨v,he,ha⟩=>⟨v,he,key v w' ha⟩
end
end Go.Ab
namespace Go.Ab
section
variable {P:aK} {C:Ctx} {g:Nat->kI} {β:Id->Option Pl} {s:AS} {a:Act} {w:World} {o:Oper}
theorem iK{b:Builtin}{args:Array bF}{ts:Array TypeId}{F:TypeId->Array Value->Sem Value}{x:Value}{w':World}{s':AS}(ho:o.op= .call {callee:= .builtin b,args,argTypes:=ts})
  (hb:∀ty cs xs,builtin b ts ty cs xs=(do pure (.value (<-F ty xs)))) (hf:∀ty,(F ty (args.map a.eval)).run P w= .ok x w') (h2:∃g' β',Inv C g' β' s' (a.put o.dst x) w'):eX P o a w (gw C s'):=by
 refine .inl ⟨x,w',?_,h2⟩;simp only[execOp,ho,resolve,bY,dA,bB,invoke];rw[hb,bY,hf];rfl
theorem ah7(h:Inv C g β s a w){src dst:TypeId}{x:bF}(ho:o.op= .convert src dst x){id:Id}{ver:Nat}(hx:s.ev x= .ptr id ver [] 0){v:aE}(he:(Xe P s src dst id ver).eval=av v):eX P o a w (gw C (s.put o.dst v)):=by
 have hv:=h.ev x;rw[hx]at hv;obtain⟨ad,hy,hb,hc⟩:=sR hv;have fin:v= .ptr id ver [] 0->(convert src dst (a.eval x)).run P w= .ok (a.eval x) w->eX P o a w (gw C (s.put o.dst v)):=by intro h1 h2;subst h1;exact h.value hv (dK (f:=convert src dst (a.eval x)) (by simp only[execOp,ho]) h2)
 unfold Xe at he;split at he
 ·rename_i v0 fr e c la;have cI:=dQ la;obtain⟨pl',cur,e',hp',hh,hg,hk,hV⟩:=(h.bH id v0 fr _ cI).box rfl;have hk:e'=e:=hk;subst hk;have hV:V (s.env w g β) c (cur.toList.take cur.size):=hV;rw[<-cO,bK]at hV;have hh:w.heap[pl'.b]? =av (.cells cur e' (0,0)):=hh
  have sh:=hV.size;have sh:cur.toList.length=c.size:=sh;have ahp:w.shape? pl'.b=av (e',c.size):=by simp only[World.shape?,hh];rw[<-sh];simp
  have hp':β id=av pl':=hp';split at he
  ·rename_i t hS hD;obtain⟨h1,h2⟩:=aH.1 he;have h2:=aA.1 h2;simp only[au,dk,cr,fC]at h1;obtain⟨⟨rfl,h3⟩,h4⟩:=h1;obtain⟨pl,hp,rfl⟩:=hc ⟨fr,_,cI⟩;have hp:β id=av pl:=hp;rw[hp']at hp;obtain rfl:pl'=pl:=by simpa using hp
   refine fin h2.symm ?_
   rw[hy];cases hi:P.info? t with
   |none=>exact absurd (by simp[Program.cellsOf,hi]) h3
   |some j=>
    have hj:j.size≠0:=by rw[<-lM hi]at*;exact h3
    exact Go.Lib.run_to_unsafe w _ hS hD hi hj ahp (by show 0 < c.size;omega)
  ·rename_i u hS hD;obtain⟨h1,h2⟩:=aH.1 he;have h2:=aA.1 h2;simp only[au,dk,cr,fC]at h1;obtain⟨⟨rfl,h3⟩,h4⟩:=h1;obtain⟨pl,hp,rfl⟩:=hc ⟨fr,_,cI⟩;have hp:β id=av pl:=hp;rw[hp']at hp;obtain rfl:pl'=pl:=by simpa using hp
   refine fin h2.symm ?_
   rw[hy];cases hi:P.info? u with
   |none=>exact absurd (by simp[Program.cellsOf,hi]) h3
   |some j=>exact Go.Lib.run_from_unsafe w _ hS hD hi ahp h4
  ·simp only[aw]at he
 ·simp only[aw]at he
theorem au9(h:Inv C g β s a w){T U:TypeId}{op:BinOp}{x y:bF}(ho:o.op= .binOp op T x y U){i j:Id}{v1 v2:Nat}(hx:s.ev x= .ptr i v1 [] 0)(hy:s.ev y= .ptr j v2 [] 0){v:aE}(he:(aG6 P s T op i v1 j v2).eval=av v):
  eX P o a w (gw C (s.put o.dst v)):=by
 unfold aG6 at he;split at he
 ·rename_i v' fr c la;obtain⟨h1,h2⟩:=aH.1 he;simp only[au,dk,aP]at h1;obtain⟨⟨⟨rfl,rfl⟩,rfl⟩,aBq⟩:=h1;have cI:=dQ la;have Se:=h.ev x;have aD8:=h.ev y;rw[hx]at Se;rw[hy]at aD8;obtain⟨ad,aH0,_,hc⟩:=sR Se;obtain⟨ad',aH1,_,hc'⟩:=sR aD8;obtain⟨pl,hp,rfl⟩:=hc ⟨fr,c,cI⟩;obtain⟨pl',hp',rfl⟩:=hc' ⟨fr,c,cI⟩;rw[hp]at hp';obtain rfl:pl=pl':=by simpa using hp'
  have hT:∃t j,P.underlying T=av (.pointer t)/\P.info? t=av j:=by
   unfold aI0 at aBq;split at aBq
   ·rename_i t ht;obtain⟨j,hj⟩:=cd.1 aBq;exact⟨t,j,ht,hj⟩
   ·cases aBq
  obtain⟨t,j,hT,hj⟩:=hT
  have hq:(Op.equal T (.pointer (av ⟨pl.b,0,aF⟩)) (.pointer (av ⟨pl.b,0,aF⟩))).run P w= .ok aS w:=
   eP λd=>by simp[dJ,run_underlying hT,sizeOf,typeInfo,hj,run_sameAddr_same]
  have aMz:(eqGuard op T x y (a.eval x) (a.eval y)).run P w= .ok () w:=by rw[aH0,aH1];exact mo (by simp) rfl
  have fin:∀z,(binOp op T (a.eval x) (a.eval y)).run P w= .ok z w->VS (s.env w g β) v z->eX P o a w (gw C (s.put o.dst v)):=by
   intro z h1 h3;refine h.value h3 ?_
   simp[execOp,ho,h1,aMz]
  split at h2
  ·obtain rfl:=aA.1 h2;refine fin (.bool aS) ?_ (tj aS)
   rw[aH0,aH1];simp[binOp,hq]
  ·obtain rfl:=aA.1 h2;refine fin (.bool bq) ?_ (tj bq)
   rw[aH0,aH1];simp[binOp,hq]
  ·simp only[aw]at h2
 ·simp only[aw]at he
theorem aDL{c:Call}{b:Builtin}{x:bF}(hc:c.callee= .builtin b)(ha:c.args.toList=[x]):c= {callee:= .builtin b,args:= #[x],argTypes:=c.argTypes}:=by
 obtain⟨cal,args,tys⟩:=c;simp only at hc ha;have ha':args= #[x]:=by apply fB;simpa using ha
 subst hc ha';rfl
theorem aml{c:Call}{b:Builtin}{x y:bF}(hc:c.callee= .builtin b)(ha:c.args.toList=[x,y]):c= {callee:= .builtin b,args:= #[x,y],argTypes:=c.argTypes}:=by
 obtain⟨cal,args,tys⟩:=c;simp only at hc ha;have ha':args= #[x,y]:=by apply fB;simpa using ha
 subst hc ha';rfl
theorem aLt{ts:Array TypeId}{T:TypeId}(h:ts.toList=[T]):ts= #[T]:=by apply fB;simpa using h
theorem aGR{ts:Array TypeId}{T U:TypeId}(h:ts.toList=[T,U]):ts= #[T,U]:=by apply fB;simpa using h
theorem at0(h:Inv C g β s a w){c:Call}{x:bF}{T e:TypeId}(ho:o.op= .call c)(hc:c.callee= .builtin .cap)(ha:c.args.toList=[x])(ht:c.argTypes.toList=[T])(hx:s.ev x= .cX)(hT:P.underlying T=av (.slice e)):
  eX P o a w (gw C (s.put o.dst (.d (.int .i64) (0:Int)))):=by
 rw[aDL hc ha,aLt ht]at ho;have hv:=h.ev x;rw[hx]at hv;have hy:=j4 hv;refine iK ho (F:=λty xs=>Builtin.cap_ #[T] ty xs) (λty cs xs=>rfl) (x:= .int .i64 0) (w':=w) (λty=> ?_) ⟨g,β,h.put o.dst (kf _ _)⟩;simp[Builtin.cap_,run_underlying hT,hy,goInt]
theorem agp(h:Inv C g β s a w){c:Call}{x:bF}{id:Id}{ver len:Nat}(ho:o.op= .call c)(hc:c.callee= .builtin .unsafeSliceData)(ha:c.args.toList=[x])(hx:s.ev x= .dj id ver [] 0 0 len)(hl:0 < len):
  eX P o a w (gw C (s.put o.dst (.ptr id ver [.idx 0] 0))):=by
 rw[aDL hc ha]at ho;have hv:=h.ev x;rw[hx]at hv;obtain⟨ad,cap,hy,MA,hs,hb,ff⟩:=pz hv;obtain⟨ad,rfl⟩:=cd.1 (hs hl);refine iK ho (F:=λty xs=>Builtin.unsafeSliceData_ c.argTypes ty xs) (λty cs xs=>rfl) (x:= .pointer (av ad)) (w':=w) (λty=> ?_) ⟨g,β,h.put o.dst ?_⟩
 ·rw[show(#[x].map a.eval)= #[a.eval x] by simp,hy];exact Go.Lib.run_unsafeSliceData_row w _ _ _ _ _ ao
 ·refine⟨[.pointer (av ad)],?_,rfl⟩;simp only[V];refine⟨ad,rfl,hb,λhc=> ?_⟩;have h1:=ff hc;cases hp:(s.env w g β).β id with
  |none=>rw[hp]at h1;simp only at h1;cases h1.1
  |some pl=>
   rw[hp]at h1;simp only at h1;exact⟨pl,rfl,by simpa using h1.1 (.inl hl)⟩
theorem aeW(h:Inv C g β s a w){c:Call}{mx:Bool}(ho:o.op= .call c)(hc:c.callee= .builtin (if mx then .max else .min)){v:aE}(he:(aqY mx (c.args.toList.map s.ev)).eval=av v):eX P o a w (gw C (s.put o.dst v)):=by
 unfold aqY at he;split at he
 ·rename_i k x k' y Kf;obtain⟨h1,h2⟩:=aH.1 he;obtain rfl:=aA.1 h2;have h1:k=k':=by simpa using h1
  subst h1;have avC:∃p q,c.args.toList=[p,q]/\s.ev p= .d (.int k) x/\s.ev q= .d (.int k) y:=by
   match hh:c.args.toList,Kf with
   |[p,q],Kf=>simp only[bE,fv,ee]at Kf;exact⟨p,q,rfl,Kf.1,Kf.2.1⟩
   |[],Kf=>simp at Kf
   |[_],Kf=>simp at Kf
   |_::_::_::_,Kf=>simp at Kf
  obtain⟨p,q,ha,hp,hq⟩:=avC;rw[aml hc ha]at ho;have aFK:=h.ev p;have aD7:=h.ev q;rw[hp]at aFK;rw[hq]at aD7;have ep:=sK aFK;have eq:=sK aD7;cases mx with
  |true=>
   refine iK ho (F:=λty xs=>Builtin.max_ c.argTypes ty xs) (λty cs xs=>rfl) (x:= .int k (if x < y then y else x)) (w':=w) (λty=> ?_) ⟨g,β,h.put o.dst (kf _ _)⟩;rw[show(#[p,q].map a.eval)= #[a.eval p,a.eval q] by simp,ep,eq];simp[Builtin.max_,Builtin.max2]
  |false=>
   refine iK ho (F:=λty xs=>Builtin.min_ c.argTypes ty xs) (λty cs xs=>rfl) (x:= .int k (if y < x then y else x)) (w':=w) (λty=> ?_) ⟨g,β,h.put o.dst (kf _ _)⟩;rw[show(#[p,q].map a.eval)= #[a.eval p,a.eval q] by simp,ep,eq];simp[Builtin.min_,Builtin.min2]
 ·rename_i k x k' y k2 z Kf;obtain⟨h1,h2⟩:=aH.1 he;obtain rfl:=aA.1 h2;simp only[au,aP]at h1;obtain⟨rfl,rfl⟩:=h1;have avC:∃p q r,c.args.toList=[p,q,r]/\s.ev p= .d (.int k) x/\s.ev q= .d (.int k) y/\s.ev r= .d (.int k) z:=by
   match hh:c.args.toList,Kf with
   |[p,q,r],Kf=>simp only[bE,fv,ee]at Kf;exact⟨p,q,r,rfl,Kf.1,Kf.2.1,Kf.2.2.1⟩
   |[],Kf=>simp at Kf
   |[_],Kf=>simp at Kf
   |[_,_],Kf=>simp at Kf
   |_::_::_::_::_,Kf=>simp at Kf
  obtain⟨p,q,r,ha,hp,hq,hr⟩:=avC;have aDT:c= {callee:= .builtin (if mx then .max else .min),args:= #[p,q,r],argTypes:=c.argTypes}:=by
   obtain⟨cal,args,tys⟩:=c;simp only at hc ha;have ha':args= #[p,q,r]:=by apply fB;simpa using ha
   subst hc ha';rfl
  rw[aDT]at ho;have aFK:=h.ev p;have aD7:=h.ev q;have ahq:=h.ev r;rw[hp]at aFK;rw[hq]at aD7;rw[hr]at ahq;have ep:=sK aFK;have eq:=sK aD7;have er:=sK ahq;cases mx with
  |true=>
   refine iK ho (F:=λty xs=>Builtin.max_ c.argTypes ty xs) (λty cs xs=>rfl) (x:= .int k (if(if x < y then y else x) < z then z else(if x < y then y else x))) (w':=w) (λty=> ?_) ⟨g,β,h.put o.dst (kf _ _)⟩;rw[show(#[p,q,r].map a.eval)= #[a.eval p,a.eval q,a.eval r] by simp,ep,eq,er];simp[Builtin.max_,Builtin.max2]
  |false=>
   refine iK ho (F:=λty xs=>Builtin.min_ c.argTypes ty xs) (λty cs xs=>rfl) (x:= .int k (if z < (if y < x then y else x) then z else(if y < x then y else x))) (w':=w) (λty=> ?_) ⟨g,β,h.put o.dst (kf _ _)⟩;rw[show(#[p,q,r].map a.eval)= #[a.eval p,a.eval q,a.eval r] by simp,ep,eq,er];simp[Builtin.min_,Builtin.min2]
 ·simp only[aw]at he
theorem U4(z:Array Value)(n:Nat):Builtin.zeroCells z n=madeCells z (n*z.size):=rfl
theorem apX(h:Inv C g β s a w){c:Call}{x y:bF}{T X:TypeId}{k:iv}{n:Int}(ho:o.op= .call c)(hc:c.callee= .builtin .append)(ha:c.args.toList=[x,y])(ht:c.argTypes.toList=[T,X])(hx:s.ev x= .cX)(hy:s.ev y= .d (.int k) n){s':AS}
  (he:(adH P s o.dst T X n).eval=av s'):eX P o a w (gw C s'):=by
 rw[aml hc ha,aGR ht]at ho;have Se:=h.ev x;have aD8:=h.ev y;rw[hx]at Se;rw[hy]at aD8;have ex:=j4 Se;have ey:=sK aD8;unfold adH at he;split at he
 ·rename_i e t b q kn Dz hd hX;obtain⟨hT,hz,i,zv,hi,ap4,aBg,ahs,ap9⟩:=zN Dz;obtain⟨hq,h2⟩:=aH.1 he;obtain⟨h3,h4⟩:=bQ.1 h2;obtain rfl:=aA.1 h4;simp only[au,aP,db]at h3;obtain⟨h5,h7,h8⟩:=h3;obtain⟨m,rfl⟩:=iu (nI h5);simp only[aa]at h7 h8 ⊢;have aHk:zv.cells.size=t.size:=by have:=(ap9 (s.env w g β)).size;simpa using this
  have hr:=λty=>Go.Lib.run_append_nil_zeros (P:=P) w T X ty e i zv k kn hT hX hi ahs m ao (by rw[ap4];exact hz) ao (by rw[aBg];omega)
  obtain⟨cap,MA⟩:∃cap,grownCap w m 0 e=cap:=⟨_,rfl⟩;have c1:m<=cap:=by rw[<-MA];exact grownCap_ge _ _ _ _
  have c2:cap<=maxLen:=by rw[<-MA];exact grownCap_le_maxLen _ _ _ _ (by unfold maxLen;omega)
  rw[MA]at hr;obtain⟨cur,ff⟩:∃cur,Builtin.zeroCells zv.cells m++Builtin.zeroCells zv.cells (cap - m)=cur:=⟨_,rfl⟩;rw[ff]at hr;have s1:cur.size=cap*t.size:=by rw[<-ff,Array.size_append,yz,yz,aHk,<-ei];congr 1;omega
  have zP:=rq (ap9 (s.env w.drew g β)) m;have s2:cur.toList.take (m*t.size)=(madeCells zv.cells (m*t.size)).toList:=by
   rw[<-ff,bT,U4,aHk];have hl:(madeCells zv.cells (m*t.size)).toList.length=m*t.size:=by simp[size_madeCells]
   rw[gX ao,bu ao]
  obtain⟨g2,β2,i2,Ql⟩:=(h.drew).aaS hq (e:=e) (l:=ai m t.zero) (cur:=cur) (cap:=cap) hz (by rw[cv,s2];exact zP) s1 (by rw[cv];exact c1) c2;rw[cv]at Ql;refine iK ho (F:=λty xs=>Builtin.append_ #[T,X] ty xs) (λty cs xs=>rfl) (λty=> ?_) ⟨g2,β2,i2.put o.dst Ql⟩;rw[show(#[x,y].map a.eval)= #[a.eval x,a.eval y] by simp,ex,ey];exact hr ty
 ·simp only[aw]at he
theorem Yn:∀(xs:List Int) (a:Addr) (acc:ByteArray),(∀j x,xs[j]? =av x->w.cell? (a.add j)=av (.int .u8 x))->
  (loadBytes a acc xs.length).run P w= .ok ⟨acc.data++(xs.map λn=>UInt8.ofNat n.toNat).toArray⟩ w
 |[],a,acc,_=>by simp[loadBytes]
 |x::l,a,acc,h=>by
  have h0:w.cell? a=av (.int .u8 x):=by have:=h 0 x rfl;simpa[Addr.add]using this
  have ih:=Yn l (a.add 1) (acc.push x.toNat.toUInt8) (λj y hy=>by
   have:=h (j+1) y (by simpa using hy);have e:(a.add 1).add j=a.add (j+1):=by
    unfold Addr.add;by_cases hj:j=0
    ·subst hj;simp
    ·simp[hj];omega
   rw[e];exact this)
  simp only[aI,loadBytes,bY,run_load,h0,Result.andThen];rw[ih];congr 1;apply ByteArray.ext;simp[ByteArray.push]
theorem asR(h:Inv C g β s a w){c:Call}{x y:bF}{T U:TypeId}{id:Id}{ver:Nat}{n:Int}(ho:o.op= .call c)(hc:c.callee= .builtin .unsafeString)(ha:c.args.toList=[x,y])(ht:c.argTypes.toList=[T,U])
  (hx:s.ev x= .ptr id ver [.idx 0] 0) (hy:s.ev y= .d (.int .i64) n) {s':AS} (he:(agW P s o.dst T id ver n).eval=av s'):eX P o a w (gw C s'):=by
 rw[aml hc ha,aGR ht]at ho;have Se:=h.ev x;rw[hx]at Se;obtain⟨ad,aH0,_,aMu⟩:=sR Se;have aD8:=h.ev y;rw[hy]at aD8;have aH1:=sK aD8;unfold agW at he;split at he
 ·rename_i v e l u la hT;obtain⟨h1,h2⟩:=aH.1 he;obtain⟨h3,h4⟩:=bQ.1 h2;obtain rfl:=aA.1 h4;simp only[au,dk]at h1;obtain⟨⟨rfl,rfl⟩,aFm⟩:=h1;simp only[aP]at h3;obtain⟨h5,h6⟩:=h3;obtain⟨n,rfl⟩:=iu (nI h5);have h6:n<=(l:List Int).length:=ao;have cI:=dQ la;obtain⟨pl,hp,rfl⟩:=aMu ⟨bq,_,cI⟩;have hp:β id=av pl:=hp;have hO:sk (s.env w g β) id bq (.vec u (.int .u8) l):=h.bH id v bq _ cI;obtain⟨hz,hO⟩:=hO;have hO:(match β id with
   |none=>l=[]
   |some pl=>∃cur k,w.heap[pl.b]? =av (.cells cur u (0,0))/\cur.size=pl.cap*(Ty.int .u8).size/\(l:List Int).length<=pl.cap/\pl.cap<=maxLen/\g pl.b= .own (.id id) k/\
     k<=(l:List Int).length*(Ty.int .u8).size/\(bq=bq->k=0)/\bp (cV (s.env w g β) (.int .u8)) (cur.toList.take ((l:List Int).length*(Ty.int .u8).size)) l):=hO
  rw[hp]at hO;obtain⟨cur,k,q1,q2,q3,q4,q5,q6,q7,q8⟩:=hO;have hk:=q7 rfl;subst hk;have aFz:(Ty.int .u8).size=1:=rfl;rw[aFz,fU]at q2 q8;have PW:=tY q8;have ahp:w.shape? pl.b=av (u,cur.size):=by simp only[World.shape?,q1]
  have D7:∀j z,((l:List Int).take n)[j]? =av z->w.cell? ((⟨pl.b,0,aF⟩:Addr).add j)=av (.int .u8 z):=λj z hj=>by
   rw[de]at hj;split at hj
   ·rename_i aN7;have aFt:j < (l:List Int).length:=ao;rw[eQ,Nat.zero_add];simp only[eO,q1];have:(cur.toList.take (l:List Int).length)[j]? =av (.int .u8 z):=by rw[PW,List.getElem?_map,hj];rfl
    rw[de,if_pos aFt]at this;simpa using this
   ·cases hj
  have hlen:((l:List Int).take n).length=n:=by rw[dD];omega
  have aBj:=Yn (P:=P) (w:=w) ((l:List Int).take n) ⟨pl.b,0,aF⟩ .empty D7;rw[hlen]at aBj;have aIs:=Go.Lib.liesAt_bytes (P:=P) (e:=u) (by simpa using aFm) (cur.size / P.cellsOf u) n (by
   rw[show P.cellsOf u=1 by simpa using aFm,Nat.div_one];omega)
  have aIi:∃w',w.freeze ⟨pl.b,0,aF⟩ n=w'/\w'.os=w.os/\w'.tape=w.tape/\(w'.output=w.output/\w.drawn<=w'.drawn)/\w'.heap.size=w.heap.size/\∀b',b'≠pl.b->w'.heap[b']? =w.heap[b']? :=by refine⟨_,rfl,?_⟩;unfold World.freeze;rw[if_neg ao];refine⟨rfl,rfl,⟨rfl,aC _⟩,by simp,λb' hb'=> ?_⟩;simp only[jw];rw[if_neg (λe=>hb' e.symm)]
  obtain⟨w',hw',f1,f2,f3,f4,f5⟩:=aIi;have i1:=h.kill cI q5 f1 f2 f3 f4 f5;have aLC:¬(9223372036854775807:Int) < (n:Int):=by unfold maxLen at q4;omega
  have aKE:¬(n:Int) < 0:=ao;have aFx:n≠0:=ao;have aFw:IntKind.i64.max=9223372036854775807:=rfl;refine iK ho (F:=λty xs=>Builtin.unsafeString_ #[T,U] ty xs) (λty cs xs=>rfl) (x:= .string (gO ((l:List Int).take n))) (w':=w') (λty=> ?_) ⟨_,β,i1.put o.dst ⟨[.string (gO ((l:List Int).take n))],by simp only[V,cV];rfl,rfl⟩⟩;rw[show(#[x,y].map a.eval)= #[a.eval x,a.eval y] by simp,aH0,aH1]
  have aFn:Builtin.unsafeString_ #[T,U] ty #[.pointer (av ⟨pl.b,0,aF⟩),.int .i64 n]=
    (do
     let n <-Go.asInt (.int .i64 n)
     if n < 0 then runtimePanic (.error "unsafe.String: len out of range")
     if n > IntKind.i64.max then unsupported (.unsafePointer "String: a length above the largest int")
     if n=0 then pure (.string .empty)
     else if <-variablesAt ⟨pl.b,0,aF⟩ (<-elemOf T) n.toNat then do
      let s <-loadBytes ⟨pl.b,0,aF⟩ .empty n.toNat
      freeze ⟨pl.b,0,aF⟩ n.toNat
      pure (.string s)
     else unsupported (.unsafePointer "String: not so many bytes at ptr")):=rfl
  rw[aFn];simp[Go.asInt,asIntOf,aFw,aLC,aKE,aFx,variablesAt,ahp,elemOf,run_underlying hT,aIs,aBj,hw',gO]
 ·simp only[aw]at he
end
end Go.Ab
namespace Go.Ab
section
variable {P:aK} {C:Ctx} {g:Nat->kI} {β:Id->Option Pl} {s:AS} {a:Act} {w:World} {o:Oper}
theorem aeT(h:Inv C g β s a w){c:Call}{T T2:TypeId}{m k:bF}(cZ:o.op= .call c)(hc:c.callee= .builtin .delete)(ha:c.args.toList=[m,k])(ht:c.argTypes.toList=[T,T2]){s':AS}(he:(B2 P s T (s.ev m) (s.ev k)).eval=av s'):eX P o a w (gw C (s'.put o.dst .nil)):=by
 have cZ:o.op= .call {callee:= .builtin .delete,args:= #[m,k],argTypes:= #[T,T2]}:=by rw[cZ,aml hc ha,aGR ht]
 unfold B2 at he;split at he
 ·rename_i K V' kt vt id ver hm hx;obtain⟨l,h1,he⟩:=az.1 he;obtain⟨kx,h2,he⟩:=az.1 he;obtain⟨aFH,he⟩:=aH.1 he;obtain rfl:=aA.1 he;obtain⟨hT,hK,_⟩:=y9 hm;have Se:=h.ev m;rw[hx]at Se;obtain⟨fr,pl,es,clock,g1,g2,g3,g4,g5,g6,g7,gn⟩:=wx h h1 Se;obtain⟨l0,g6,gp⟩:=g6;have G2:=xr depth K kt hK;have hk:=Cg (h.ev k) h2;have az8:=mV (P:=P) (w:=w) es.isEmpty depth K kt hK 10000 fg _ _ hk;obtain⟨r,hf,hr⟩:=H5 (P:=P) (w:=w) hK hk g6
  have fin:∀(es':Array eZ) (clock':Nat),(∀ty,(Builtin.delete_ #[T,T2] ty (#[m,k].map a.eval)).run P w= .ok (.tuple #[]) {w with heap:=w.heap.setIfInBounds pl.b (.map es' clock')})->Alike (A9 (s.env w g β) kt vt) es'.toList (kV kt kx l0)->mP es'.toList clock'->
    eX P o a w (gw C ((s.aY id (.obj ver bq (.mp kt vt (kV kt kx l)))).put o.dst .nil)):=λes' clock' oX avC aH3=>
   iK (F:=λty xs=>Builtin.delete_ #[T,T2] ty xs) cZ (λ_ _ _=>rfl) oX ⟨g,β,(h.ayM g1 g2 g4 g5 ⟨_,avC,S6 G2 gn gp⟩ (Ew G2 gn) aH3 aFH).put o.dst rfl⟩
  cases r with
  |none=>
   simp only at hr;refine fin es clock (λty=> ?_) (by simp only[kV,hr];exact g6) g7;simp[Builtin.delete_,run_underlying hT,g3,Go.MapKept.run_getObj_map g4,az8,hf,Go.MapKept.run_setObj_map _ g4]
  |some u=>
   obtain⟨j,u⟩:=u;obtain⟨e,m1,m2,rfl⟩:=hr;refine fin (es.eraseIdxIfInBounds j) clock (λty=> ?_) ?_ (by rw[Array.toList_eraseIdxIfInBounds];exact g7.erase j)
   ·simp[Builtin.delete_,run_underlying hT,g3,Go.MapKept.run_getObj_map g4,az8,hf,Go.MapKept.run_setObj_map _ g4]
   ·simp only[kV,m1,Array.toList_eraseIdxIfInBounds];exact g6.erase j
 ·simp only[aw]at he
theorem acs{Γ:sa}(hΓ:Sound P Γ){bH:List Nat}(h:Inv C g β s a w){s':AS}(he:(oG P Γ bH o s).eval=av s'):eX P o a w (gw C s'):=by
 unfold oG at he;split at he
 ·rename_i x cZ;obtain rfl:=aA.1 he;exact X4 h (.inl cZ)
 ·rename_i x cZ;obtain rfl:=aA.1 he;exact X4 h (.inr cZ)
 ·rename_i c x y cZ;obtain⟨v,h1,h2⟩:=az.1 he;obtain rfl:=aA.1 h2;exact arp h cZ h1
 ·rename_i T cZ;split at he
  ·rename_i z q hz hq;obtain⟨h1,h2⟩:=aH.1 he;obtain rfl:=aA.1 h2;simp only[au]at h1;exact ahC h cZ h1.1 h1.2
  ·exact(aw.1 he).elim
 ·rename_i T x cZ;exact atU h cZ he
 ·rename_i T parts cZ;exact ahQ h cZ he
 ·rename_i T n parts cZ;exact PN h cZ he
 ·rename_i T x cZ;obtain⟨v,h1,h2⟩:=az.1 he;obtain rfl:=aA.1 h2;exact aqN h cZ h1
 ·rename_i T x v cZ;obtain⟨v,h1,h2⟩:=az.1 he;obtain rfl:=aA.1 h2;exact alB h cZ h1
 ·rename_i x cZ;exact VR h cZ he
 ·rename_i op T x y U cZ;split at he
  ·rename_i i v1 j v2 hx hy;obtain⟨v,h1,h2⟩:=az.1 he;obtain rfl:=aA.1 h2;exact au9 h cZ hx hy h1
  ·obtain⟨v,h1,h2⟩:=az.1 he;obtain rfl:=aA.1 h2;exact ahM h cZ h1
 ·rename_i op T x cZ;obtain⟨v,h1,h2⟩:=az.1 he;obtain rfl:=aA.1 h2;exact as5 h cZ h1
 ·rename_i T U x cZ;split at he
  ·rename_i id ver len hTU hx;exact ah6 h cZ hx he
  ·rename_i id ver hx;obtain⟨v,h1,h2⟩:=az.1 he;obtain rfl:=aA.1 h2;exact ah7 h cZ hx h1
  ·obtain⟨v,h1,h2⟩:=az.1 he;obtain rfl:=aA.1 h2;exact Zl h cZ h1
 ·rename_i T x cZ;exact alR h cZ he
 ·rename_i f first caps cZ
  obtain⟨h1,h2⟩:=aH.1 he;obtain rfl:=aA.1 h2;simp only[au]at h1;exact VJ h cZ h1.1 h1.2
 ·rename_i T l c cZ;obtain⟨n,h1,h2⟩:=az.1 he;obtain⟨m,h3,h4⟩:=az.1 h2;exact SX h cZ h1 h3 h4
 ·rename_i T x lo hi cZ;obtain⟨v,h1,h2⟩:=az.1 he;obtain rfl:=aA.1 h2;exact Ui h cZ (.inl rfl) h1
 ·rename_i T x lo y m cZ;obtain⟨v',h0,h8⟩:=az.1 he;obtain rfl:=aA.1 h8;obtain⟨hv,h1,h2⟩:=az.1 h0;obtain⟨mv,h3,h4⟩:=az.1 h2;obtain⟨h5,h6⟩:=bQ.1 h4;obtain⟨v,h7,h9⟩:=az.1 h6;obtain rfl:=aA.1 h9;simp only[aP]at h5;exact Ui h cZ (.inr ⟨m,y,hv,mv,rfl,rfl,h1,h3,h5.1,h5.2.1,h5.2.2⟩) h7
 ·rename_i T x f cZ;obtain⟨v,h1,h2⟩:=az.1 he;obtain rfl:=aA.1 h2;exact RQ h cZ h1
 ·rename_i T x f cZ;obtain⟨v,h1,h2⟩:=az.1 he;obtain rfl:=aA.1 h2;exact aip h cZ h1
 ·rename_i T x i cZ;obtain⟨n,h0,he⟩:=az.1 he;obtain⟨v,h1,h2⟩:=az.1 he;obtain rfl:=aA.1 h2;exact Sl h cZ h0 h1
 ·rename_i T x i cZ;obtain⟨n,h0,he⟩:=az.1 he;obtain⟨v,h1,h2⟩:=az.1 he;obtain rfl:=aA.1 h2;exact aiS h cZ h0 h1
 ·rename_i x i cZ;obtain⟨v,h1,h2⟩:=az.1 he;obtain rfl:=aA.1 h2;exact ZH h cZ h1
 ·rename_i T cZ;exact aaG h cZ he
 ·rename_i T x i ok cZ;obtain⟨v,h1,h2⟩:=az.1 he;obtain rfl:=aA.1 h2;exact aeN h cZ h1
 ·rename_i T m k x cZ;obtain⟨s1,h1,h2⟩:=az.1 he;obtain rfl:=aA.1 h2;exact aeV h cZ h1
 ·rename_i c cZ;split at he
  ·rename_i hc;split at he
   ·rename_i m k T T2 ha ht;obtain⟨s1,h1,h2⟩:=az.1 he;obtain rfl:=aA.1 h2;exact aeT h cZ hc ha ht h1
   ·exact(aw.1 he).elim
  ·rename_i hc;split at he
   ·rename_i x y T X ha ht;exact apc h cZ hc ha ht he
   ·exact(aw.1 he).elim
  ·rename_i hc;split at he
   ·rename_i x T ha ht;obtain⟨v,h1,h2⟩:=az.1 he;obtain rfl:=aA.1 h2;exact awZ h cZ hc ha ht h1
   ·exact(aw.1 he).elim
  ·rename_i hc;split at he
   ·rename_i x y T X ha ht;split at he
    ·rename_i k n hx hy;exact apX h cZ hc ha ht hx hy he
    ·exact acw h cZ hc ha ht he
   ·exact(aw.1 he).elim
  ·rename_i hc;split at he
   ·rename_i x T ha ht;split at he
    ·rename_i e hx hT;obtain rfl:=aA.1 he;exact at0 h cZ hc ha ht hx hT
    ·exact(aw.1 he).elim
   ·exact(aw.1 he).elim
  ·rename_i hc;obtain⟨v,h1,h2⟩:=az.1 he;obtain rfl:=aA.1 h2;exact aeW (mx:=aS) h cZ hc h1
  ·rename_i hc;obtain⟨v,h1,h2⟩:=az.1 he;obtain rfl:=aA.1 h2;exact aeW (mx:=bq) h cZ hc h1
  ·rename_i hc;split at he
   ·rename_i x ha;split at he
    ·rename_i id ver len hx;obtain⟨h1,h2⟩:=bQ.1 he;obtain rfl:=aA.1 h2;exact agp h cZ hc ha hx (by simpa using h1)
    ·exact(aw.1 he).elim
   ·exact(aw.1 he).elim
  ·rename_i hc;split at he
   ·rename_i x y T U ha ht;split at he
    ·rename_i id ver n hx hy;exact asR h cZ hc ha ht hx hy he
    ·exact(aw.1 he).elim
   ·exact(aw.1 he).elim
  ·rename_i F hc;split at he
   ·rename_i f caps hF;split at he
    ·rename_i en aiz;obtain⟨iI,he⟩:=aH.1 he;exact aoR h cZ hc hF ((hΓ f _ en aiz).1 iI) he
    ·exact(aw.1 he).elim
   ·exact(aw.1 he).elim
  ·exact(aw.1 he).elim
 ·exact(aw.1 he).elim
end
end Go.Ab
namespace Go.Ab
def oU(P:aK)(ops:Array Oper)(o:Oper)(a:Act)(w:World)(K:Act->World->Prop):Prop:=if Region.wanted o (yielded ops a.tmps) then eX P o a w K else K (a.put o.dst undef) w
theorem oU.mono{P:aK}{ops:Array Oper}{o:Oper}{a:Act}{w:World}{K K':Act->World->Prop}(h:oU P ops o a w K)(hk:∀a w,K a w->K' a w):oU P ops o a w K':=by
 unfold oU at*;split
 ·rename_i hw;rw[if_pos hw]at h;exact h.mono hk
 ·rename_i hw;rw[if_neg hw]at h;exact hk _ _ h
theorem eX.some{P:aK}{o:Oper}{a:Act}{w:World}{K:Act->World->Prop}(h:eX P o a w K):∃a' w',K a' w':=by
 rcases h with⟨x,w',_,h⟩ | ⟨w',_,h⟩ | ⟨f,args,w',_,h⟩ | ⟨l,f,tmps,as,b,w',_,h⟩
 ·exact⟨_,_,h⟩
 ·exact⟨_,_,h⟩
 ·obtain⟨e,w'',_,⟨x,_,hx⟩,_⟩:=h [];exact⟨_,_,hx⟩
 ·obtain⟨e,w'',⟨x,_,hx⟩,_⟩:=(h aF 0).2 default [] (room_wide _);exact⟨_,_,hx⟩
theorem oU.some{P:aK}{ops:Array Oper}{o:Oper}{a:Act}{w:World}{K:Act->World->Prop}(h:oU P ops o a w K):∃a' w',K a' w':=by
 unfold oU at h;split at h
 ·exact h.some
 ·exact⟨_,_,h⟩
theorem oU.wpListIn{r:Option Nat}{n:Nat}{P:aK}{ops:Array Oper}{o:Oper}{a:Act}{w:World}{Q:Exit->Act->World->Prop}{l:List Oper}(h:oU P ops o a w (wpListIn (Fr r) n P ops Q l)):Go.wpListIn (Fr r) n P ops Q (o::l) a w:=by
 unfold oU at h;unfold Go.wpListIn;split
 ·rename_i hw;rw[if_pos hw]at h;exact h.wpIn
 ·rename_i hw;rw[if_neg hw]at h;exact⟨λ_ _=>trivial,h⟩
theorem oU.wpOpIn{r:Option Nat}{n:Nat}{P:aK}{ops:Array Oper}{o:Oper}{i:Nat}{a:Act}{w:World}{Q:Exit->Act->World->Prop}{K:Act->World->Prop}(ho:ops[i]? =Option.some o)(h:oU P ops o a w K):Go.wpOpIn (Fr r) n P ops Q i K a w:=by
 unfold oU at h;unfold Go.wpOpIn;simp only[ho];split
 ·rename_i hw;rw[if_pos hw]at h;exact h.wpIn
 ·rename_i hw;rw[if_neg hw]at h;exact⟨λ_ _=>trivial,h⟩
theorem ax6{s:AS}{q:Nat}{v:aE}(h:s.slot q=v)(hq:q < s.cj.length):s.put (av q) v=s:=by
 have hv:s.cj[q]=v:=by simpa[AS.slot,List.getD_eq_getElem?_getD,hq]using h
 simp only[AS.put];rw[<-hv,dX]
theorem an3{s:AS}{q:Nat}{t:Ty}{x:t.den}(h:s.slot q= .d t x):q < s.cj.length:=by
 rcases nQ q s.cj.length with h' | h'
 ·exact h'
 ·simp[AS.slot,List.getD_eq_getElem?_getD,dW h']at h
def Gt(P:aK)(Γ:sa)(bH:List Nat)(ops:Array Oper)(o:Oper)(s:AS):Option AS:=
 match o.guard with
 |none=>(oG P Γ bH o s).eval
 |some (j,want)=>match(ops[j]?).bind (·.dst) with
  |some q=>match s.slot q with
   | .d .bool b=>if b=want then(oG P Γ bH o s).eval else av (s.put o.dst .nil)
   | .nil=>av (s.put o.dst .nil)
   |_=>aF
  |none=>aF
theorem adG{R:Type}{P:aK}{Γ:sa}{bH:List Nat}{ops:Array Oper}{o:Oper}{s:AS}{k:AS->Option R}{r:R}(h:aA7 P Γ bH ops o s k=av r):∃s',Gt P Γ bH ops o s=av s'/\k s'=av r:=by
 unfold aA7 at h;unfold Gt;split at h
 ·rename_i hg;simp only[hg];exact gr.1 h
 ·rename_i j want hg;simp only[hg];split at h
  ·rename_i q hq;simp only[hq];split at h
   ·rename_i b hb;have e:=ax6 hb (an3 hb);simp only[hb];cases want <;> cases b <;> simp only[aG]at h <;> rw[e]at h
    ·obtain⟨s',h1,h2⟩:=gr.1 h;exact⟨s',by simpa using h1,h2⟩
    ·exact⟨_,by simp,h⟩
    ·exact⟨_,by simp,h⟩
    ·obtain⟨s',h1,h2⟩:=gr.1 h;exact⟨s',by simpa using h1,h2⟩
   ·rename_i hb;simp only[hb];exact⟨_,rfl,h⟩
   ·cases h
  ·cases h
section
variable {P:aK} {C:Ctx} {g:Nat->kI} {β:Id->Option Pl} {s:AS} {a:Act} {w:World} {o:Oper}
theorem amd(h:Inv C g β s a w){ops:Array Oper}{j q:Nat}{b:Bool}(hq:(ops[j]?).bind (·.dst)=av q)(hb:s.slot q= .d .bool b):yielded ops a.tmps j=av b:=by
 have hv:=h.cj q;rw[hb]at hv;have hv:=P7 hv;have hl:=an3 hb;rw[<-h.size]at hl;unfold yielded;rw[hq,Option.bind_some];have:a.tmps[q]? =av (.bool b):=by rw[jF hl];simpa[Array.getD,hl]using hv
 rw[this]
theorem ahk(h:Inv C g β s a w){ops:Array Oper}{j q:Nat}(hq:(ops[j]?).bind (·.dst)=av q)(hb:s.slot q= .nil):yielded ops a.tmps j=aF:=by
 have hv:=h.cj q;rw[hb]at hv;have hv:a.tmps.getD q undef= .tuple #[]:=hv;unfold yielded;rw[hq,Option.bind_some];split
 ·rename_i b hb;rw[cC,hb]at hv;cases hv
 ·rfl
theorem XB{Γ:sa}(hΓ:Sound P Γ){bH:List Nat}{ops:Array Oper}(h:gw C s a w){s':AS}(he:Gt P Γ bH ops o s=av s'):oU P ops o a w (gw C s'):=by
 obtain⟨g,β,h⟩:=h;unfold Gt at he;unfold oU;split at he
 ·rename_i hg;have:Region.wanted o (yielded ops a.tmps)=aS:=by simp[Region.wanted,hg]
  rw[if_pos this];exact acs hΓ h he
 ·rename_i j want hg;split at he
  ·rename_i q hq;split at he
   ·rename_i b hb;have hy:=amd h hq hb;have hw:Region.wanted o (yielded ops a.tmps)=(b==want):=by simp[Region.wanted,hg,hy]
    rw[hw];by_cases e:b=want
    ·rw[if_pos e]at he;rw[if_pos (by simp[e])];exact acs hΓ h he
    ·rw[if_neg e]at he;rw[if_neg (by simp[e])];simp only[aB]at he;subst he;exact⟨g,β,h.put o.dst rfl⟩
   ·rename_i hb;have hy:=ahk h hq hb;have hw:Region.wanted o (yielded ops a.tmps)=bq:=by simp[Region.wanted,hg,hy]
    rw[hw,if_neg (by simp)];simp only[aB]at he;subst he;exact⟨g,β,h.put o.dst rfl⟩
   ·cases he
  ·cases he
theorem ash{R:Type}{c c':sA}{x:Option R}{r:R}(h:same c c' x=av r):c=c'/\x=av r:=by
 unfold same at h;split at h
 ·exact⟨‹_›,h⟩
 ·cases h
theorem anG{R:Type}{x y:Option R}{r:R}(h:nd x y=av r):x=av r/\y=av r:=by
 unfold nd at h;split at h
 ·rename_i e;exact⟨h,e▸h⟩
 ·cases h
theorem ajR(h:Inv C g β s a w){x y:bF}{n:Nat}(hn:Te s x y=av n){T:TypeId}(hT:yD.isSl P T=aS):∃b,(0 < n->b=bq)/\(Op.equal T (a.eval x) (a.eval y)).run P w= .ok b w/\
  pR (a.eval x)=bq/\a.eval x≠ .nilIface/\∀op,binOp op T (a.eval x) (a.eval y)=(match op with | .eql=>do pure (.bool (<-Op.equal T (a.eval x) (a.eval y))) | .neq=>do pure (.bool (!(<-Op.equal T (a.eval x) (a.eval y)))) | _=>binOp op T (a.eval x) (a.eval y)):=by
 have hx:=h.ev x;have hy:=h.ev y;unfold yD.isSl at hT;split at hT <;> try (cases hT;done)
 rename_i e hU;unfold Te at hn;split at hn
 ·rename_i t l h1 h2;rw[h1]at hx;rw[h2]at hy;obtain⟨ad,cap,vs,hv,_,hs,_⟩:=rK hx;have Ql:=j4 hy;rw[hv,Ql];refine⟨ad.isNone,λhp=> ?_,?_,rfl,by simp,λop=>by cases op <;> rfl⟩
  ·obtain rfl:=Option.some.inj hn;obtain⟨ad',rfl⟩:=cd.1 (hs hp);rfl
  ·cases ad with
   |none=>exact eP λd=>by simp[dJ,run_underlying hU]
   |some ad=>exact eP λd=>by simp[dJ,run_underlying hU]
 ·rename_i t l h1 h2;rw[h1]at hx;rw[h2]at hy;obtain⟨ad,cap,vs,hv,_,hs,_⟩:=rK hy;have Ql:=j4 hx;rw[hv,Ql];refine⟨ad.isNone,λhp=> ?_,?_,rfl,by simp,λop=>by cases op <;> rfl⟩
  ·obtain rfl:=Option.some.inj hn;obtain⟨ad',rfl⟩:=cd.1 (hs hp);rfl
  ·exact eP λd=>by simp[dJ,run_underlying hU]
 ·rename_i id ver pp c i len h1 h2;rw[h1]at hx;rw[h2]at hy;obtain⟨ad,cap,hv,_,hs,_⟩:=pz hx;have Ql:=j4 hy;rw[hv,Ql];refine⟨ad.isNone,λhp=> ?_,?_,rfl,by simp,λop=>by cases op <;> rfl⟩
  ·obtain rfl:=Option.some.inj hn;obtain⟨ad',rfl⟩:=cd.1 (hs hp);rfl
  ·cases ad with
   |none=>exact eP λd=>by simp[dJ,run_underlying hU]
   |some ad=>exact eP λd=>by simp[dJ,run_underlying hU]
 ·rename_i id ver pp c i len h1 h2;rw[h1]at hx;rw[h2]at hy;obtain⟨ad,cap,hv,_,hs,_⟩:=pz hy;have Ql:=j4 hx;rw[hv,Ql];refine⟨ad.isNone,λhp=> ?_,?_,rfl,by simp,λop=>by cases op <;> rfl⟩
  ·obtain rfl:=Option.some.inj hn;obtain⟨ad',rfl⟩:=cd.1 (hs hp);rfl
  ·exact eP λd=>by simp[dJ,run_underlying hU]
 ·cases hn
theorem KM(h:Inv C g β s a w){x y:bF}{n:Nat}{T U:TypeId}(hn:Te s x y=av n)(hT:yD.isSl P T=aS):
  (o.op= .binOp .eql T x y U->∃b,(0 < n->b=bq)/\eX P o a w (gw C (s.put o.dst (.d .bool b))))/\(o.op= .binOp .neq T x y U->∃b,(0 < n->b=aS)/\eX P o a w (gw C (s.put o.dst (.d .bool b)))):=by
 obtain⟨b,h1,h2,h3,h4,h5⟩:=ajR (w:=w) h hn hT;have hg:∀op,(eqGuard op T x y (a.eval x) (a.eval y)).run P w= .ok () w:=λop=>mo h4 h3
 refine⟨λho=>⟨b,h1,h.value (tj b) ?_⟩,λho=>⟨!b,λhp=>by rw[h1 hp];rfl,h.value (tj (!b)) ?_⟩⟩
 ·have h6:(binOp .eql T (a.eval x) (a.eval y)).run P w= .ok (.bool b) w:=by rw[h5 .eql];simp[h2]
  simp[execOp,ho,hg,h6]
 ·have h6:(binOp .neq T (a.eval x) (a.eval y)).run P w= .ok (.bool (!b)) w:=by rw[h5 .neq];simp[h2]
  simp[execOp,ho,hg,h6]
theorem Lw{R:Type}{c:Bool}{x y:Option R}{r:R}(h:aG c x y=av r):(c=aS/\x=av r)\/(c=bq/\y=av r):=by
 cases c
 ·exact .inr ⟨rfl,h⟩
 ·exact .inl ⟨rfl,h⟩
theorem au0{R:Type}{n:Nat}{k:Nat->Option R}{r:R}(h:aJ0 n k=av r):0 < n/\∀j,j < n->k j=av r:=by
 unfold aJ0 at h;split at h
 ·rename_i hx;obtain rfl:=Option.some.inj h;exact hx.choose_spec
 ·cases h
theorem WK{s:AS}{id:Id}{e:dB}{q:Nat}(hq:s.dM q=aS)(gW:s.bU id≠aF):(s.aY id e).dM q=aS:=by
 cases id with
 |cl k=>exact hq
 |new i j=>
  by_cases hi:i=q
  ·subst hi;exact absurd ((ju hq).1 j) gW
  ·unfold AS.dM AS.aY;simp only[dO hi];exact hq
theorem Alike.len{α β:Type}{R:α->β->Prop}:∀ {xs:List α} {ys:List β},Alike R xs ys->xs.length=ys.length
 |[],[],_=>rfl
 |_::_,_::_,⟨_,h⟩=>by simp[h.len]
 |[],_::_,h=>h.elim
 |_::_,[],h=>h.elim
theorem aj4{α:Type}:∀ {xs ys:List α} {i j:Nat} {x:α},xs.Perm ys->xs[i]? =av x->ys[j]? =av x->(xs.eraseIdx i).Perm (ys.eraseIdx j):=by
 have key:∀ {xs:List α} {i:Nat} {x:α},xs[i]? =av x->xs.Perm (x::xs.eraseIdx i):=by
  intro xs
  induction xs with
  |nil=>intro i x h;simp at h
  |cons y xs ih=>
   intro i x h;cases i with
   |zero=>simp at h;subst h;exact fI _
   |succ i=>
    have h:xs[i]? =av x:=by simpa using h
    exact((ih h).cons y).trans (List.Perm.swap x y _)
 intro xs ys i j x hp hi hj;exact((key hi).symm.trans (hp.trans (key hj))).cons_inv
theorem akA(h:Inv C g β s a w){T:TypeId}{m:bF}(cZ:o.op= .range T m){s':AS}(he:(akz P s o.dst T (s.ev m)).eval=av s'):eX P o a w (gw C s'):=by
 unfold akz at he;split at he
 ·rename_i K V' kt vt id ver q hm hx hd;obtain⟨l,h1,he⟩:=az.1 he;obtain⟨hq,he⟩:=aH.1 he;obtain rfl:=aA.1 he;rw[au]at hq;obtain⟨hT,_,_⟩:=y9 hm;have Se:=h.ev m;rw[hx]at Se;obtain⟨fr,pl,es,clock,g1,g2,g3,g4,g5,g6,g7,gn⟩:=wx h h1 Se;obtain rfl:=FC g1 hq.1;have gW:s.bU id≠aF:=by rw[g1];simp
  have aJE:=Trans.refl w g;have aiC:cE (s.env w g β) ((s.aY id (.obj ver aS (.mp kt vt l))).env w g β):=cE.aY g1 (aC _) aJE (λ_ _=>rfl) (λ_=>rfl)
  have i0:Inv C g β (s.aY id (.obj ver aS (.mp kt vt l))) a w:=
   h.step (cY _ _ _) aJE aiC (gN.aY h.bH gW aiC (λ_ _=>rfl) (λ_ _ _ _ _ _ _ _=>⟨rfl,rfl⟩) ⟨pl,es,clock,g2,g4,g5,⟨g6.mono aiC.mem,gn⟩,g7⟩ (Kw g1))
  have cI:=ef s id (.obj ver aS (.mp kt vt l)) gW;have hq':=WK (e:= .obj ver aS (.mp kt vt l)) hq.2 gW;generalize ath:s.aY id (.obj ver aS (.mp kt vt l))=s0 at i0 cI hq' aiC;have zQ:∀j,id≠ .new q j:=λj e=>by rw[e,(ju hq').1 j]at cI;cases cI
  have iI:pl.b < w.heap.size:=(cg.1 g4).1;have ht:=Trans.alloc w g (.mapIter (av pl.b) clock #[] clock) (.own (.id (.new q 0)) 0);obtain⟨h3,h4⟩:=i0.Mi hq' (c:= .qu id (ver+1) kt vt l aF) (p:=av ⟨w.heap.size,0⟩) ht (λb hb=>⟨oV w _ hb,eR _ _ _ ao⟩) (λhE=>
   ⟨⟨w.heap.size,0⟩,pl.b,clock,#[],clock,jk _ _ _,qC w _,eV _ _ _,λvr ahq=>by
    obtain rfl:ver=vr:=ao;have hb:(s0.env w g β).CU id ver:=⟨by show s0.bU id≠aF;rw[cI];simp,λv2 fr2 c2 h2=>by
     have h2:s0.bU id=av (.obj v2 fr2 c2):=h2;rw[cI]at h2;simp only[aB,dB.obj.injEq]at h2;omega⟩
    refine⟨hE.CU _ _ hb,λ_=>⟨⟨kt,vt,l,?_⟩,pl,es,clock,?_,rfl,?_,?_,λx hx=>g7.2 x hx,⟨aC _,aC _⟩,g7.1,?_,λx hx=>by cases hx⟩⟩
    ·show(s0.born q _).bU id=_;rw[hZ _ zQ];exact cI
    ·show FD β (.new q 0) _ id=_;rw[yt _ _ _ (zQ 0)];exact g2
    ·exact(oV w _ iI).trans g4
    ·show l8 g w.heap.size _ pl.b=_;rw[eR _ _ _ ao];exact g5
    ·have:es.toList.filter (λe=> !(#[]:Array Nat).contains e.born)=es.toList:=iC.2 λx _=>by simp
     rw[this];exact(g6.mono aiC.mem).mono hE.mem⟩)
  refine .inl ⟨.pointer (av ⟨w.heap.size,0,aF⟩),w.alloc (.mapIter (av pl.b) clock #[] clock),?_,_,_,h3.put o.dst (v:= .ptr (.new q 0) 0 [] 0) ⟨[.pointer (av ⟨w.heap.size,0,aF⟩)],?_,rfl⟩⟩
  ·refine dK (f:=Instr.range T (a.eval m)) (by simp only[execOp,cZ]) ?_
   rw[g3];exact run_range_map w T K V' pl.b es clock hT g4
  ·simp only[V];exact⟨_,rfl,nT hq' _ _ _ _,λ_=>⟨_,jk _ _ _,rfl⟩⟩
 ·simp only[aw]at he
theorem Ss(h:Inv C g β s a w){x:bF}{t:aoq}(ht:s.awi (s.ev x)=av t):
  s.bU t.i=av (.obj t.v t.fr (.qu t.q (t.vr+1) t.kt t.vt t.rest t.cur))/\(∃k v l,s.bU t.q=av (.obj t.vr aS (.mp k v l)))/\
  ∃pl plq since seen c0 es clock,a.eval x= .pointer (av ⟨pl.b,0,aF⟩)/\β t.i=av pl/\w.heap[pl.b]? =av (.mapIter (av plq.b) since seen c0)/\g pl.b= .own (.id t.i) 0/\
   β t.q=av plq/\w.heap[plq.b]? =av (.map es clock)/\g plq.b= .own (.id t.q) 0/\(∀x∈es.toList,x.born < since)/\(since<=c0/\since<=clock)/\(es.toList.map (·.born)).Nodup/\
   YV (s.env w g β) t.kt t.vt (es.toList.filter λe=> !seen.contains e.born) t.rest/\
   ∀x,t.cur=av x->∃(e:eZ) (seen':Array Nat),e∈es.toList/\seen=seen'.push e.born/\c0=clock/\A9 (s.env w g β) t.kt t.vt e x:=by
 have Se:=h.ev x;generalize s.ev x=y at ht Se;unfold AS.awi at ht;split at ht
 ·rename_i i ver;split at ht
  ·rename_i v fr q vr kt vt rest cur la;split at ht
   ·rename_i hv hl;obtain rfl:=Option.some.inj ht;have hv:v=ver:=by simpa using hv
    subst hv;have cI:=dQ la;unfold AS.aeM at hl;split at hl
    ·rename_i v2 k2 t2 l2 aKG;have hl:v2=vr:=by simpa using hl
     subst hl;have hq:=dQ aKG;refine⟨cI,⟨_,_,_,hq⟩,?_⟩;obtain⟨pl,mb,since,seen,c0,h1,h2,h3,h4⟩:=h.bH i v fr _ cI;obtain⟨h5,h6⟩:=h4 v2 rfl;obtain⟨_,plq,es,clock,k1,k2,k3,k4,k5,k6,k7,k8,k9⟩:=h6 ⟨_,_,hq⟩;subst k2;obtain⟨ad,m1,m2,m3⟩:=sR Se;obtain⟨pl',m4,rfl⟩:=m3 ⟨_,_,cI⟩;have h1:β i=av pl:=h1;have m4:β i=av pl':=m4;rw[h1]at m4;obtain rfl:pl=pl':=by simpa using m4
     exact⟨pl,plq,since,seen,c0,es,clock,m1,h1,h2,h3,k1,k3,k4,k5,k6,k7,k8,k9⟩
    ·cases hl
   ·cases ht
  ·cases ht
 ·cases ht
theorem A9.aNB{E:Env}{kt vt:Ty}{e:eZ}{x:kt.den×vt.den}(h:A9 E kt vt e x):VS E (.cons (.d kt x.1) (.cons (.d vt x.2) .nil)) (.tuple #[e.key,e.val]):=by obtain⟨⟨c1,a1,b1⟩,c2,a2,b2⟩:=h;refine⟨[e.key,e.val],rfl,?_⟩;simp only[VC];exact⟨_,_,c1,rfl,by simpa only[V]using a1,b1,_,_,c2,rfl,by simpa only[V]using a2,b2,rfl⟩
theorem A9.aNC{E:Env}{kt vt:Ty}{e:eZ}{x:kt.den×vt.den}(h:A9 E kt vt e x):VS E (.cons (.d .bool aS) (.cons (.d kt x.1) (.cons (.d vt x.2) .nil))) (.tuple #[.bool aS,e.key,e.val]):=by obtain⟨⟨c1,a1,b1⟩,c2,a2,b2⟩:=h;refine⟨[.bool aS,e.key,e.val],rfl,?_⟩;simp only[VC];exact⟨_,_,[.bool aS],rfl,by simp only[V,cV],rfl,_,_,c1,rfl,by simpa only[V]using a1,b1,_,_,c2,rfl,by simpa only[V]using a2,b2,rfl⟩
theorem aio(h:Inv C g β s a w){x:bF}(cZ:o.op= .entry x){v:aE}(he:(ain s (s.ev x)).eval=av v):eX P o a w (gw C (s.put o.dst v)):=by
 unfold ain at he;split at he
 ·rename_i i v0 fr q vr kt vt rest c ht;obtain rfl:=aA.1 he;obtain⟨_,_,pl,plq,since,seen,c0,es,clock,m1,m2,m3,_,m5,m6,m7,_,_,m10,_,m12⟩:=Ss h ht;obtain⟨e,seen',n1,rfl,rfl,n4⟩:=m12 c rfl;refine h.value n4.aNB (dK (f:=Instr.entry (a.eval x)) (by simp only[execOp,cZ]) ?_);rw[m1];exact run_entry_at w pl.b plq.b since seen' es _ e m3 m6 n1 m10
 ·simp only[aw]at he
theorem heap_drew{w w1:World}(hw:w1=w\/w1=w.drew):w1.heap=w.heap/\w1.os=w.os/\w1.tape=w.tape/\(w1.output=w.output/\w.drawn<=w1.drawn):=by
 rcases hw with rfl | rfl
 ·exact⟨rfl,rfl,rfl,rfl,aC _⟩
 ·exact⟨rfl,rfl,rfl,rfl,Nat.le_succ _⟩
theorem Inv.aI3(h:Inv C g β s a w){i q:Id}{v vr:Nat}{fr:Bool}{kt vt:Ty}{rest:List (kt.den×vt.den)}{cur:Option (kt.den×vt.den)}(cI:s.bU i=av (.obj v fr (.qu q (vr+1) kt vt rest cur)))
  {k2 v2:Ty} {l2:List (k2.den×v2.den)} (hq:s.bU q=av (.obj vr aS (.mp k2 v2 l2))) {pl plq:Pl} {m0:Option Nat} {since0 c00:Nat} {seen0:Array Nat} (hp:β i=av pl) (hb:w.heap[pl.b]? =av (.mapIter m0 since0 seen0 c00)) (hg:g pl.b= .own (.id i) 0)
  {w1:World} (hw:w1=w\/w1=w.drew) {es:Array eZ} {clock since c0:Nat} {seen:Array Nat} (aMU:β q=av plq) (aFk:w.heap[plq.b]? =av (.map es clock)) (aMA:g plq.b= .own (.id q) 0)
  (h1:∀x∈es.toList,x.born < since) (h2:since<=c0/\since<=clock) (h3:(es.toList.map (·.born)).Nodup) {rest':List (kt.den×vt.den)} {cur':Option (kt.den×vt.den)} (h4:YV (s.env w g β) kt vt (es.toList.filter λe=> !seen.contains e.born) rest')
  (h5:∀x,cur'=av x->∃(e:eZ) (seen':Array Nat),e∈es.toList/\seen=seen'.push e.born/\c0=clock/\A9 (s.env w g β) kt vt e x):
  Inv C g β (s.aY i (.obj v fr (.qu q (vr+1) kt vt rest' cur'))) a (Go.ChangeMaps.setBlock w1 pl.b (.mapIter (av plq.b) since seen c0))/\
   qy (s.env w g β) ((s.aY i (.obj v fr (.qu q (vr+1) kt vt rest' cur'))).env (Go.ChangeMaps.setBlock w1 pl.b (.mapIter (av plq.b) since seen c0)) g β):=by
 obtain⟨d1,d2,d3,d4⟩:=heap_drew hw;have iI:pl.b < w.heap.size:=(cg.1 hb).1;have am7:(Go.ChangeMaps.setBlock w1 pl.b (.mapIter (av plq.b) since seen c0)).heap=w.heap.setIfInBounds pl.b (.mapIter (av plq.b) since seen c0):=by show w1.heap.setIfInBounds _ _=_;rw[d1]
 have aHd:(Go.ChangeMaps.setBlock w1 pl.b (.mapIter (av plq.b) since seen c0)).os=w.os/\(Go.ChangeMaps.setBlock w1 pl.b (.mapIter (av plq.b) since seen c0)).tape=w.tape/\((Go.ChangeMaps.setBlock w1 pl.b (.mapIter (av plq.b) since seen c0)).output=w.output/\w.drawn<=(Go.ChangeMaps.setBlock w1 pl.b (.mapIter (av plq.b) since seen c0)).drawn):=⟨d2,d3,d4⟩;generalize Go.ChangeMaps.setBlock w1 pl.b (.mapIter (av plq.b) since seen c0)=w' at am7 aHd;have hother:∀b',b'≠pl.b->w'.heap[b']? =w.heap[b']? :=λb' gW=>by rw[am7,dI,if_neg (λe=>gW e.symm)]
 have ln:w'.heap[pl.b]? =av (.mapIter (av plq.b) since seen c0):=by rw[am7,dI,if_pos rfl,if_pos iI]
 have ht:Trans w w' g g:=by
  refine⟨aHd.1,aHd.2.1,aHd.2.2,by rw[am7];simp,λb' _=> ?_⟩;by_cases he:b'=pl.b
  ·subst he;rw[hg];exact⟨.inr ⟨i,0,rfl,aC _⟩,λ_ _ hh=>ao⟩
  ·rw[hother b' he];cases Qj:g b' with
   |free=>exact⟨rfl,rfl⟩
   |own o' k=>cases o' with
    |dY=>exact⟨rfl,rfl⟩
    |id i'=>exact⟨.inr ⟨i',k,rfl,aC _⟩,λoff v _ hv=>by simpa only[eO,hother b' he]using hv⟩
 have hle:cE (s.env w g β) ((s.aY i (.obj v fr (.qu q (vr+1) kt vt rest' cur'))).env w' g β):=cE.aY cI (aC _) ht (λ_ _=>rfl) (λ_=>rfl);have aIA:q≠i:=λe=>by rw[e,cI]at hq;cases hq
 have aMT:plq.b≠pl.b:=λe=>by rw[e,hb]at aFk;cases aFk
 refine⟨h.step (cY _ _ _) ht hle (gN.aY h.bH (by rw[cI];simp) hle (λ_ _=>rfl) (λi' ver' fr' c' pl2 hi Sa XH=>⟨hother _ (h.apart hg hi Sa XH),rfl⟩) ?_ (nY cI λ_ _ _ e=>by cases e)),hle.mem⟩;refine⟨pl,plq.b,since,seen,c0,hp,ln,hg,λvr' ahq=> ?_⟩;obtain rfl:vr=vr':=ao;have aix:(s.env w g β).CU q vr:=⟨by show s.bU q≠aF;rw[hq];simp,λv3 fr3 c3 h3=>by
  have h3:s.bU q=av (.obj v3 fr3 c3):=h3;rw[hq]at h3;simp only[aB,dB.obj.injEq]at h3;omega⟩
 refine⟨hle.CU _ _ aix,λ_=>⟨⟨k2,v2,l2,?_⟩,plq,es,clock,aMU,rfl,(hother _ aMT).trans aFk,aMA,h1,h2,h3,h4.mono hle.mem,λx hx=> ?_⟩⟩
 ·show(s.aY i _).bU q=_;rw[cM s i q _ aIA];exact hq
 ·obtain⟨e,se,a1,a2,a3,a4⟩:=h5 x hx;exact⟨e,se,a1,a2,a3,a4.mono hle.mem⟩
theorem Inv.aEa(h:Inv C g β s a w){i q:Id}{v ver ver':Nat}{fr:Bool}{kt vt:Ty}{rest rest':List (kt.den×vt.den)}{cur cur':Option (kt.den×vt.den)}(cI:s.bU i=av (.obj v fr (.qu q ver kt vt rest cur)))
  (hk:ver'=0\/(ver'=ver/\rest'=rest/\cur'=aF)):Inv C g β (s.aY i (.obj v fr (.qu q ver' kt vt rest' cur'))) a w:=by
 have ht:=Trans.refl w g;have hle:cE (s.env w g β) ((s.aY i (.obj v fr (.qu q ver' kt vt rest' cur'))).env w g β):=cE.aY cI (aC _) ht (λ_ _=>rfl) (λ_=>rfl);refine h.step (cY _ _ _) ht hle (gN.aY h.bH (by rw[cI];simp) hle (λ_ _=>rfl) (λ_ _ _ _ _ _ _ _=>⟨rfl,rfl⟩) ?_ (nY cI λ_ _ _ e=>by cases e));obtain⟨pl,mb,since,seen,c0,h1,h2,h3,h4⟩:=h.bH i v fr _ cI;refine⟨pl,mb,since,seen,c0,h1,h2,h3,λvr ahq=> ?_⟩;rcases hk with hk | ⟨rfl,rfl,rfl⟩
 ·omega
 ·obtain⟨h5,h6⟩:=h4 vr ahq;refine⟨hle.CU _ _ h5,λhc=> ?_⟩;obtain⟨c1,_⟩:=hle.cur _ _ h5 hc;obtain⟨⟨k,v1,l,hq⟩,plq,es,clock,k1,k2,k3,k4,k5,k6,k7,k8,_⟩:=h6 c1;have aIA:q≠i:=λe=>by have hq:s.bU q=_:=hq;rw[e,cI]at hq;cases hq
  exact⟨⟨k,v1,l,by show(s.aY i _).bU q=_;rw[cM s i q _ aIA];exact hq⟩,plq,es,clock,k1,k2,k3,k4,k5,k6,k7,k8.mono hle.mem,λx hx=>by cases hx⟩
theorem akB{s:AS}{q i:Id}{e:dB}(h:s.TA q=bq)(hi:s.bU i=av e):e.awj q=bq:=by
 unfold AS.TA at h;rw[Bool.or_eq_false_iff]at h;cases i with
 |cl k=>simpa using fF.1 h.1 _ (cH hi)
 |new a b=>
  have hi:(s.news.getD a [])[b]? =av e:=hi
  by_cases ha:a < s.news.length
  ·have h2:(s.news.getD a []).any (dB.awj q)=bq:=by simpa using fF.1 h.2 (s.news.getD a []) (by simp[List.getD_eq_getElem?_getD,cm ha])
   simpa using fF.1 h2 _ (cH hi)
  ·simp[List.getD_eq_getElem?_getD,dW (Nat.le_of_not_lt ha)]at hi
theorem Inv.unlock(h:Inv C g β s a w){q:Id}{vr:Nat}{k v:Ty}{l:List (k.den×v.den)}(cI:s.bU q=av (.obj vr aS (.mp k v l)))(hr:s.TA q=bq):Inv C g β (s.aY q (.obj vr bq (.mp k v l))) a w:=by
 have ht:=Trans.refl w g;have hle:cE (s.env w g β) ((s.aY q (.obj vr bq (.mp k v l))).env w g β):=cE.aY cI (aC _) ht (λ_ _=>rfl) (λ_=>rfl);refine h.azl (cY _ _ _) ht hle λi ver fr c hi=> ?_
 have hi:(s.aY q (.obj vr bq (.mp k v l))).bU i=av (.obj ver fr c):=hi;by_cases aLJ:i=q
 ·subst aLJ;rw[ef s i _ (by rw[cI];simp)]at hi;simp only[aB,dB.obj.injEq]at hi;obtain⟨rfl,rfl,rfl⟩:=hi;obtain⟨pl,es,clock,h1,h2,h3,h4,h5⟩:=h.bH i vr aS _ cI;exact⟨pl,es,clock,h1,h2,h3,⟨h4.1.mono hle.mem,h4.2⟩,h5⟩
 ·rw[cM s q i _ aLJ]at hi;refine(h.bH i ver fr c hi).aEl hle rfl (λ_ _=>⟨rfl,rfl⟩) λq2 v2 k2 v3 l2 hc MB _=>⟨⟨k2,v3,l2,?_⟩,λ_ _=>⟨rfl,rfl⟩⟩
  obtain⟨kt,vt,rest,cu,rfl⟩:=hc;have hn:=akB hr hi;have gW:q2≠q:=λe=>by simp[dB.awj,e]at hn
  show(s.aY q _).bU q2=_;rw[cM s q q2 _ gW];exact MB
theorem ajt{es:List eZ}{seen:Array Nat}(hn:(es.map (·.born)).Nodup){j:Nat}{e:eZ}(hj:(es.filter λe=> !seen.contains e.born)[j]? =av e):
  es.filter (λx=> !(seen.push e.born).contains x.born)=(es.filter λe=> !seen.contains e.born).eraseIdx j:=by
 have h1:es.filter (λx=> !(seen.push e.born).contains x.born)=(es.filter λe=> !seen.contains e.born).filter λx=>x.born !=e.born:=by
  rw[List.filter_filter];refine List.filter_congr λx _=> ?_
  rw[contains_push];cases seen.contains x.born <;> cases hb:x.born==e.born <;> simp[bne,hb]
 rw[h1];have aD2:((es.filter λe=> !seen.contains e.born).map (·.born)).Nodup:=hn.sublist (List.filter_sublist.map _);generalize es.filter (λe=> !seen.contains e.born)=L at hj aD2
 induction L generalizing j with
 |nil=>simp at hj
 |cons x L ih=>
  rw[bE,dn]at aD2;cases j with
  |zero=>
   simp only[fe,aB]at hj;subst hj;have:L.filter (λy=>y.born !=x.born)=L:=iC.2 λy hy=>by
    have:y.born≠x.born:=λe=>aD2.1 (e▸cT.2 ⟨y,hy,rfl⟩)
    simpa using this
   simp[this]
  |succ j=>
   have hj:L[j]? =av e:=by simpa using hj
   have hx:(x.born !=e.born)=aS:=by
    have:x.born≠e.born:=λh=>aD2.1 (h▸cT.2 ⟨e,cH hj,rfl⟩)
    simpa using this
   rw[eJ,hx,List.eraseIdx_cons_succ];simp only[bG];rw[ih hj aD2.2]
theorem aq7(h:Inv C g β s a w){x:bF}(cZ:o.op= .next x bq){t:aoq}(ht:s.awi (s.ev x)=av t){R:Type}{k:AS->Option R}{r:R}(he:axw s o.dst t k=av r):
  eX P o a w λa' w'=>∃s',gw C s' a' w'/\k s'=av r:=by
 obtain⟨hi,⟨k2,v2,l2,hq⟩,pl,plq,since,seen,c0,es,clock,m1,m2,m3,m4,m5,m6,m7,m8,m9,m10,m11,_⟩:=Ss h ht;have hex:∀ {y:Value} {w':World},(Instr.next (a.eval x) bq o.type).run P w= .ok y w'->(execOp a.eval o).run P w= .ok (.value y) w':=λhr=>
  dK (f:=Instr.next (a.eval x) bq o.type) (by simp only[execOp,cZ]) hr
 have Qk:(leftOf es seen).toList=es.toList.filter λe=> !seen.contains e.born:=by unfold leftOf;rw[Array.toList_filter]
 obtain⟨l',m11,avM⟩:=m11;have hlen:=m11.len;rw[avM.length_eq]at hlen;rw[<-Qk,cO]at hlen;unfold axw at he;rcases run_next_at (P:=P) w o.type pl.b plq.b since c0 seen es clock m3 m6 m8 m9.1 with⟨h0,oX⟩ | ⟨e,aDW,w1,hw,oX⟩
 ·rcases Lw he with⟨hc,_⟩ | ⟨_,he⟩
  ·have:0 < t.rest.length:=by simpa using hc
   omega
  ·unfold AS.over at he;have i1:=h.aEa (rest':=[]) (cur':=aF) hi (.inl rfl);have aIA:t.q≠t.i:=λe=>by rw[e,hi]at hq;simp at hq
   have aHf:(s.aY t.i (.obj t.v t.fr (.qu t.q 0 t.kt t.vt [] aF))).bU t.q=av (.obj t.vr aS (.mp k2 v2 l2)):=by rw[cM s t.i t.q _ aIA];exact hq
   generalize s.aY t.i (.obj t.v t.fr (.qu t.q 0 t.kt t.vt [] aF))=s1 at he i1 aHf;cases hr:s1.TA t.q with
   |true=>rw[hr]at he;cases he
   |false=>
    rw[hr]at he;simp only at he;have aNa:s1.unlock t.q=s1.aY t.q (.obj t.vr bq (.mp k2 v2 l2)):=by simp only[AS.unlock,AS.obj,aHf]
    rw[aNa]at he;rw[<-m1]at oX;refine .inl ⟨_,w,hex oX,_,⟨g,β,(i1.unlock aHf hr).put o.dst (v:= .cons (.d .bool bq) .nil) ⟨[.bool bq],rfl,?_⟩⟩,he⟩;simp only[VC];exact⟨_,_,[.bool bq],rfl,by simp only[V,cV],rfl,rfl⟩
 ·rcases Lw he with⟨hc,he⟩ | ⟨hc,_⟩
  ·obtain⟨_,hd⟩:=au0 he;rw[Qk]at aDW;obtain⟨i,aBf⟩:=List.getElem?_of_mem aDW;obtain⟨y,aIL,aHj⟩:=m11.get aBf;obtain⟨j,hj⟩:=List.getElem?_of_mem (avM.mem_iff.1 (cH aIL));have aFt:j < t.rest.length:=(List.getElem?_eq_some_iff.1 hj).1;have hy:aaT t.kt t.vt t.rest j=y:=by simp[aaT,List.getD_eq_getElem?_getD,hj]
   have zP:e∈es.toList:=(fp.1 aDW).1;have i1:=h.aI3 (rest':=t.rest.eraseIdx j) (cur':=av (aaT t.kt t.vt t.rest j)) (since:=since) (c0:=clock) (seen:=seen.push e.born) hi hq m2 m3 m4 hw m5 m6 m7 m8 ⟨m9.2,m9.2⟩ m10 ?_ ?_
   rotate_left
   ·rw[ajt m10 aBf];exact⟨_,m11.erase i,aj4 avM aIL hj⟩
   ·intro z hz;obtain rfl:=Option.some.inj hz;exact⟨e,seen,zP,rfl,rfl,by rw[hy];exact aHj⟩
   rw[<-m1]at oX;have hVS:=(hy▸aHj:A9 (s.env w g β) t.kt t.vt e (aaT t.kt t.vt t.rest j));refine .inl ⟨_,_,hex oX,_,⟨g,β,i1.1.put o.dst (v:= .cons (.d .bool aS) (.cons (.d t.kt (aaT t.kt t.vt t.rest j).1) (.cons (.d t.vt (aaT t.kt t.vt t.rest j).2) .nil))) ?_⟩,hd j aFt⟩;exact A9.aNC (hVS.mono i1.2)
  ·have hc:¬0 < t.rest.length:=by simpa using hc
   have:0 < (leftOf es seen).toList.length:=List.length_pos_of_mem aDW;rw[cO]at this;omega
theorem apW{Γ:sa}(hΓ:Sound P Γ){bH:List Nat}{ops:Array Oper}{R:Type}{k:AS->Option R}{r:R}(h:gw C s a w)(he:aA8 P Γ bH ops o s k=av r):
  oU P ops o a w λa' w'=>∃s',gw C s' a' w'/\k s'=av r:=by
 have plain:aA7 P Γ bH ops o s k=av r->oU P ops o a w λa' w'=>∃s',gw C s' a' w'/\k s'=av r:=λhe=>by obtain⟨s1,h1,h2⟩:=adG he;exact(XB hΓ h h1).mono λa' w' hs=>⟨s1,hs,h2⟩
 have sz:∀(hg:o.guard=aF),(eX P o a w λa' w'=>∃s',gw C s' a' w'/\k s'=av r)->oU P ops o a w λa' w'=>∃s',gw C s' a' w'/\k s'=av r:=λhg hr=>by
  unfold oU;have:Region.wanted o (yielded ops a.tmps)=aS:=by simp[Region.wanted,hg]
  rw[if_pos this];exact hr
 have step:∀(hg:o.guard=aF) (b:Bool),eX P o a w (gw C (s.put o.dst (.d .bool b)))->k (s.put o.dst (.d .bool b))=av r->oU P ops o a w λa' w'=>∃s',gw C s' a' w'/\k s'=av r:=λhg b hr hk=>by
  unfold oU;have:Region.wanted o (yielded ops a.tmps)=aS:=by simp[Region.wanted,hg]
  rw[if_pos this];exact hr.mono λa' w' hs=>⟨_,hs,hk⟩
 unfold aA8 at he;split at he
 ·rename_i T x y U hg ho;split at he
  ·rename_i n hn hT;obtain⟨g,β,hi⟩:=h;obtain⟨b,hb,hr⟩:=(KM (o:=o) (U:=U) hi hn hT).1 ho;refine step hg b hr ?_
   rcases Lw he with⟨hc,hk⟩ | ⟨_,hk⟩
   ·rw[hb (by simpa using hc)];exact hk
   ·obtain⟨k1,k2⟩:=anG hk;cases b
    ·exact k2
    ·exact k1
  ·exact plain he
 ·rename_i T x y U hg ho;split at he
  ·rename_i n hn hT;obtain⟨g,β,hi⟩:=h;obtain⟨b,hb,hr⟩:=(KM (o:=o) (U:=U) hi hn hT).2 ho;refine step hg b hr ?_
   rcases Lw he with⟨hc,hk⟩ | ⟨_,hk⟩
   ·rw[hb (by simpa using hc)];exact hk
   ·obtain⟨k1,k2⟩:=anG hk;cases b
    ·exact k2
    ·exact k1
  ·exact plain he
 ·rename_i T m hg ho;obtain⟨s1,h1,h2⟩:=gr.1 he;obtain⟨g,β,hi⟩:=h;exact sz hg ((akA hi ho h1).mono λ_ _ hs=>⟨_,hs,h2⟩)
 ·rename_i x hg ho;obtain⟨s1,h1,h2⟩:=gr.1 he;obtain⟨v,h3,h4⟩:=az.1 h1;obtain rfl:=aA.1 h4;obtain⟨g,β,hi⟩:=h;exact sz hg ((aio hi ho h3).mono λ_ _ hs=>⟨_,hs,h2⟩)
 ·rename_i x hg ho;split at he
  ·rename_i t ht;obtain⟨g,β,hi⟩:=h;exact sz hg (aq7 hi ho ht he)
  ·cases he
 ·rename_i c hg ho;split at he
  ·rename_i F hc;split at he
   ·rename_i id ver rc f hF;split at he
    ·rename_i en aiz;obtain⟨aJD,he⟩:=ash he;obtain⟨s1,h1,h2⟩:=gr.1 he;obtain⟨g,β,hi⟩:=h;exact sz hg ((amc hi ho hc hF aJD (hΓ _ _ en aiz) h1).mono λ_ _ hs=>⟨_,hs,h2⟩)
    ·cases he
   ·split at he
    ·rename_i en vs hr;unfold aEu at hr;split at hr;rotate_left
     ·cases hr
     rename_i f caps hF;split at hr;rotate_left
     ·cases hr
     rename_i en' aiz;split at hr;rotate_left
     ·cases hr
     rename_i avE;rw[au]at avE;simp only[aB,cG]at hr;obtain⟨rfl,rfl⟩:=hr;obtain⟨g,β,hi⟩:=h;exact sz hg (ahS hi ho hc hF ((hΓ _ _ _ aiz).2.2 avE.2) he)
    ·exact plain he
  ·exact plain he
 ·exact plain he
theorem Ov{rd:Option Nat}{n:Nat}{Γ:sa}(hΓ:Sound P Γ){bH:List Nat}{ops:Array Oper}{R:Type}{Q:Exit->Act->World->Prop}:∀(l:List Oper) {s:AS} {a:Act} {w:World} {k:AS->Option R} {r:R},gw C s a w->aA9 P Γ bH ops l s k=av r->
  (∀s' a' w',gw C s' a' w'->k s'=av r->Q .normal a' w')->wpListIn (Fr rd) n P ops Q l a w
 |[],s,a,w,k,r,h,he,hk=>hk s a w h he
 |o::l,s,a,w,k,r,h,he,hk=>by have he:aA8 P Γ bH ops o s (λs'=>s'.seen λs'=>aA9 P Γ bH ops l s' k)=av r:=he;simp only[AS.Lv]at he;exact((apW hΓ h he).mono λa' w' ⟨s',hs,h2⟩=>Ov hΓ l hs h2 hk).wpListIn
end
end Go.Ab
namespace Go.Ab
theorem AS.ava{s t:AS}(h1:s.cj=t.cj)(h2:s.news.length=t.news.length)(h3:∀id,s.bU id=t.bU id):s=t:=by
 obtain⟨a,b,c⟩:=s;obtain⟨a',b',c'⟩:=t;simp only at h1 h2;subst h1;have hb:b=b':=List.ext_getElem? λk=>h3 (.cl k)
 subst hb;have hc:c=c':=by apply List.ext_getElem h2;intro i h h';apply List.ext_getElem?;intro j;have:=h3 (.new i j);simpa[AS.bU,List.getD_eq_getElem?_getD,h,h']using this
 rw[hc]
def dB.acd:dB->dB->Prop
 | .obj v _ c,.obj v' _ c'=>v=v'/\c=c'
 | .dead,.dead=>True
 |_,_=>False
def wM:Option dB->Option dB->Prop
 |some a,av b=>a.acd b
 |none,aF=>True
 |_,_=>False
def dB.am0:dB->dB
 | .obj v _ c=> .obj v aS c
 | .dead=> .dead
theorem dB.ay0(a:dB):a.acd a:=by cases a <;> simp[dB.acd]
theorem asx(a:Option dB):wM a a:=by cases a <;> simp[wM,dB.ay0]
theorem asw(a:Option dB):wM (a.map dB.am0) a:=by
 cases a with
 |none=>trivial
 |some x=>cases x <;> simp[wM,dB.acd,dB.am0]
theorem dB.aA3(a:dB):a.am0.am0=a.am0:=by cases a <;> rfl
structure lh(f:DB)(s t:AS):Prop where
 cj:∀i∈f.cj,t.slot i=s.slot i
 ws:∀id∈f.ws,t.bU id=s.bU id
 rs:∀id∈f.rs,wM (t.bU id) (s.bU id)
 dM:∀q,f.dst=av q->t.dM q=s.dM q
structure aG1 where
 v:aE
 up:Id->Option dB
 fz:List Id
structure App(d:Option Tmp)(E:aG1)(s s':AS):Prop where
 cj:s'.cj=(s.put d E.v).cj
 len:s'.news.length=s.news.length
 bU:∀id,s'.bU id=match E.up id with | some e=>av e | none=>if id∈E.fz then(s.bU id).map dB.am0 else s.bU id
theorem App.aEW{d:Option Tmp}{E:aG1}{s s1 s2:AS}(h1:App d E s s1)(h2:App d E s s2):s1=s2:=
 AS.ava (by rw[h1.cj,h2.cj]) (by rw[h1.len,h2.len]) λid=>by rw[h1.bU,h2.bU]
structure Y0(f:DB)(s:AS)(E:aG1):Prop where
 up:∀id e,E.up id=av e->(id∈f.ws/\s.bU id≠aF)\/∃q j,f.dst=av q/\id= .new q j
 fz:∀id∈E.fz,id∈f.rs
theorem Is(s:AS)(id:Id)(e:dB):(s.aY id e).news.length=s.news.length:=by cases id <;> simp[AS.aY]
theorem Vr(s:AS)(id i:Id):(s.freeze id).bU i=if i=id then(s.bU i).map dB.am0 else s.bU i:=by
 unfold AS.freeze;cases hs:s.bU id with
 |none=>
  by_cases hi:i=id
  ·subst hi;simp[hs]
  ·simp[hi]
 |some e=>
  cases e with
  |dead=>
   by_cases hi:i=id
   ·subst hi;simp[hs,dB.am0]
   ·simp[hi]
  |obj v fr c=>
   simp only;by_cases hi:i=id
   ·subst hi;rw[ef s i _ (by rw[hs];simp)];simp[hs,dB.am0]
   ·rw[cM s id i _ hi];simp[hi]
theorem eU(i:Id):∀(ids:List Id) (s:AS),(s.bn ids).bU i=if i∈ids then(s.bU i).map dB.am0 else s.bU i
 |[],s=>by simp[AS.bn]
 |id::ids,s=>by
  rw[AS.bn,eU i ids,Vr];by_cases h1:i=id
  ·subst h1;by_cases h2:i∈ids
   ·simp[h2,Option.map_map,Function.comp_def,dB.aA3]
   ·simp[h2]
  ·simp[h1]
theorem aju(s:AS)(id:Id):(s.freeze id).news.length=s.news.length:=by
 unfold AS.freeze;split
 ·exact Is _ _ _
 ·rfl
theorem o6:∀(ids:List Id) (s:AS),(s.bn ids).news.length=s.news.length
 |[],_=>rfl
 |id::ids,s=>by rw[AS.bn,o6 ids,aju]
theorem yu{s:AS}{q:Nat}:s.dM q=aS↔q < s.news.length/\∀j,s.bU (.new q j)=aF:=by
 refine⟨λh=>⟨(ju h).2,(ju h).1⟩,λ⟨h1,h2⟩=> ?_⟩;unfold AS.dM;rw[cm h1];have h0:=h2 0;simp only[AS.bU,List.getD_eq_getElem?_getD,cm h1,dE]at h0;cases hh:s.news[q]with
 |nil=>rfl
 |cons x xs=>rw[hh]at h0;simp at h0
theorem App.Mw(d:Option Tmp)(v:aE)(ids:List Id)(s:AS):App d ⟨v,λ_=>aF,ids⟩ s ((s.bn ids).put d v):=by
 refine⟨?_,?_,λid=> ?_⟩
 ·cases d <;> simp[AS.put,ml]
 ·cases d <;> simp[AS.put,o6]
 ·rw[FM,eU]
theorem App.F0(d:Option Tmp)(v:aE)(s:AS):App d ⟨v,λ_=>aF,[]⟩ s (s.put d v):=App.Mw d v [] s
def Mj(q:Nat)(es:List dB):Id->Option dB
 | .new i j=>if i=q then es[j]? else aF
 | .cl _=>aF
theorem au6(s:AS){q:Nat}(hq:q < s.news.length)(es:List dB)(id:Id):(s.born q es).bU id=match id with | .new i j=>if i=q then es[j]? else s.bU (.new i j) | .cl k=>s.bU (.cl k):=by
 cases id with
 |cl k=>rfl
 |new i j=>
  simp only;by_cases h:i=q
  ·subst h;rw[if_pos rfl];exact vU hq _ j
  ·rw[if_neg h];exact hZ _ λj' e=>by simp only[Id.new.injEq]at e;exact h e.1
theorem App.amu{s:AS}{q:Nat}(hv:s.dM q=aS)(v:aE)(ids:List Id)(es:List dB):App (av q) ⟨v,Mj q es,ids⟩ s (((s.bn ids).born q es).put (av q) v):=by
 obtain⟨h1,h2⟩:=yu.1 hv;refine⟨?_,?_,λid=> ?_⟩
 ·simp[AS.put,ml]
 ·simp[AS.put,AS.born,o6]
 ·rw[FM,au6 _ (by rw[o6];exact h1)];cases id with
  |cl k=>simp only[Mj];exact eU _ _ _
  |new i j=>
   simp only[Mj];by_cases h:i=q
   ·subst h;rw[if_pos rfl];cases he:es[j]? with
    |none=>simp[h2]
    |some e=>simp
   ·rw[if_neg h];simp only[if_neg h];exact eU _ _ _
theorem App.ayN{s:AS}{id:Id}{e0:dB}(hs:s.bU id=av e0)(d:Option Tmp)(v:aE)(e:dB):App d ⟨v,λi=>if i=id then av e else aF,[]⟩ s ((s.aY id e).put d v):=by
 refine⟨?_,?_,λi=> ?_⟩
 ·cases d <;> simp[AS.put]
 ·cases d <;> simp[AS.put,Is]
 ·rw[FM];by_cases hi:i=id
  ·subst hi;rw[ef s i _ (by rw[hs];simp)];simp
  ·rw[cM s id i _ hi];simp[hi]
section
variable {P:aK} {Γ:sa} {bH:List Nat} {ops:Array Oper} {o:Oper} {s t:AS}
def Jh(P:aK)(Γ:sa)(bH:List Nat)(ops:Array Oper)(o:Oper)(s s':AS):Prop:=∃E,App o.dst E s s'/\Y0 (fV Γ ops s o) s E/\∀t,lh (fV Γ ops s o) s t->∃t',(oG P Γ bH o t).eval=av t'/\App o.dst E t t'
theorem OU{xs:Array bF}{i:Nat}(h:Operand.tmp i∈xs.toList):i∈QA xs:=by unfold QA;exact List.mem_filterMap.2 ⟨_,h,rfl⟩
theorem lh.ev(h:lh (fV Γ ops s o) s t){x:bF}(hx:x∈o.op.operands.toList):t.ev x=s.ev x:=by
 cases x with
 |tmp i=>exact h.cj i (bt.2 (.inl (OU hx)))
 |_=>rfl
theorem ae8(v:Value):(ofConst v).ids=[]:=by unfold ofConst;split <;> rfl
theorem agF(g:Nat):∀l,(alG g l).ids=[]
 |[]=>rfl
 |t::l=>by
  unfold alG;split
  ·rfl
  ·exact agF g l
theorem X9{o:Oper}{x:Op}(h:o.op=x)(hx:X3 x=bq):X3 o.op=bq:=by rw[h];exact hx
theorem Ig(hn:X3 o.op=bq){x:bF}(hx:x∈o.op.operands.toList){id:Id}(cR:id∈(s.ev x).ids):id∈(fV Γ ops s o).rs:=by
 refine bt.2 (.inl ?_);unfold afd;rw[hn];cases x with
 |tmp i=>exact List.mem_flatMap.2 ⟨i,OU hx,cR⟩
 |const v=>simp[AS.ev,ae8]at cR
 |global _=>simp[AS.ev,agF]at cR
 |func f=>simp[AS.ev,aE.ids]at cR
theorem lh.acd(h:lh (fV Γ ops s o) s t)(hn:X3 o.op=bq){x:bF}(hx:x∈o.op.operands.toList){id:Id}(cR:id∈(s.ev x).ids):wM (t.bU id) (s.bU id):=h.rs id (Ig hn hx cR)
theorem LI{id:Id}(h:wM (t.bU id) (s.bU id)):(t.obj id=aF/\s.obj id=aF)\/∃v f f' c,t.obj id=av (v,f,c)/\s.obj id=av (v,f',c):=by
 unfold AS.obj
 revert h
 cases t.bU id with
 |none=>cases s.bU id with
  |none=>intro _;simp
  |some b=>intro h;exact h.elim
 |some a=>cases s.bU id with
  |none=>intro h;exact h.elim
  |some b=>cases a <;> cases b <;> intro h <;> first
    |exact h.elim
    | (left;exact⟨rfl,rfl⟩)
    | (obtain⟨rfl,rfl⟩:=h;right;exact⟨_,_,_,_,rfl,rfl⟩)
theorem Nu{id:Id}(h:wM (t.bU id) (s.bU id))(ver:Nat)(p:List Gm):t.row id ver p=s.row id ver p:=by unfold AS.row;rcases LI h with⟨h1,h2⟩ | ⟨v,f,f',c,h1,h2⟩ <;> rw[h1,h2]
theorem nF:∀(v:aE) (ty:Ty),(∀id∈v.ids,wM (t.bU id) (s.bU id))->t.im ty v=s.im ty v
 | .dj id ver p c i len,ty,h=>by
  cases ty <;> first
   |rfl
   | (simp only[AS.im];rw[Nu (h id (by simp[aE.ids]))])
 | .pr a b,ty,h=>by
  cases ty <;> first
   |rfl
   | (simp only[AS.im];rw[nF a _ λid cR=>h id (by simp[aE.ids,cR]),nF b _ λid cR=>h id (by simp[aE.ids,cR])])
 | .undef,ty,_ | .gone,ty,_ | .cX,ty,_ | .ns,ty,_ | .uq,ty,_ | .zX,ty,_ | .d _ _,ty,_ | .ptr ..,ty,_ | .dN ..,ty,_ | .fn ..,ty,_ | .cons ..,ty,_ | .nil,ty,_ | .vec ..,ty,_ | .bx ..,ty,_ | .iy ..,ty,_ | .mp ..,ty,_ | .qu ..,ty,_ | .yl ..,ty,_ | .xU ..,ty,_ | .sb _,ty,_=>by cases ty <;> simp only[AS.im]
theorem sZ:∀(v:aE),∀id∈v.shared,id∈v.ids
 | .dj ..,id,h=>by simpa[aE.shared,aE.ids]using h
 | .pr a b,id,h=>by
  simp only[aE.shared,bt,aE.ids]at h ⊢;rcases h with h | h
  ·exact .inl (sZ a id h)
  ·exact .inr (sZ b id h)
 | .undef,_,h | .gone,_,h | .cX,_,h | .ns,_,h | .uq,_,h | .zX,_,h | .d _ _,_,h | .ptr ..,_,h | .dN ..,_,h | .fn ..,_,h | .cons ..,_,h | .nil,_,h | .vec ..,_,h | .bx ..,_,h | .iy ..,_,h | .mp ..,_,h | .qu ..,_,h | .yl ..,_,h | .xU ..,_,h | .sb _,_,h=>by simp[aE.shared]at h
theorem aeL{T:TypeId}{x:aE}(h:∀id∈x.ids,wM (t.bU id) (s.bU id)):Kx P t T x=Kx P s T x:=by
 unfold Kx;split
 ·rename_i id ver p n;rcases LI (h id (by simp[aE.ids])) with⟨h1,h2⟩ | ⟨v,f,f',c,h1,h2⟩ <;> rw[h1,h2]
 ·rfl
 ·rfl
 ·rfl
theorem Y9{n:Nat}{lo hi:Option bF}(hl:∀x,lo=av x->t.ev x=s.ev x)(hh:∀x,hi=av x->t.ev x=s.ev x):bounds t n lo hi=bounds s n lo hi:=by
 unfold bounds
 cases lo <;> cases hi <;> simp only[] <;> first
  |rfl
  | (rw[hl _ rfl,hh _ rfl])
  |rw[hl _ rfl]
  |rw[hh _ rfl]
theorem LM{T:TypeId}{x:aE}{lo hi:Option bF}(h:∀id∈x.ids,wM (t.bU id) (s.bU id))(hl:∀x,lo=av x->t.ev x=s.ev x)(hh:∀x,hi=av x->t.ev x=s.ev x):
  Fe P t T x lo hi=Fe P s T x lo hi:=by
 have hb:∀n,bounds t n lo hi=bounds s n lo hi:=λn=>Y9 hl hh
 unfold Fe
 split <;> first
  |rfl
  | (rw[Nu (h _ (by simp[aE.ids]))];simp only[hb];done)
  | (simp only[hb];done)
theorem Ws{T:TypeId}{x:aE}{lo:Option bF}{y m:bF}(h:∀id∈x.ids,wM (t.bU id) (s.bU id))(hl:∀x,lo=av x->t.ev x=s.ev x)(hh:t.ev y=s.ev y)(hm:t.ev m=s.ev m):
  LL P t T x lo y m=LL P s T x lo y m:=by
 unfold LL;rw[hh,hm,LM h hl λz hz=>by obtain rfl:=Option.some.inj hz;exact hh]
theorem MM{T:TypeId}{x:aE}{i:Int}(h:∀id∈x.ids,wM (t.bU id) (s.bU id)):pQ P t T x i=pQ P s T x i:=by
 unfold pQ
 split <;> first
  |rfl
  |rw[Nu (h _ (by simp[aE.ids]))]
theorem ac3{obj:Bool}{src dst:TypeId}{x:aE}(h:∀id∈x.ids,wM (t.bU id) (s.bU id)):Xd P t obj src dst x=Xd P s obj src dst x:=by
 unfold Xd;split
 ·rfl
 ·unfold auq
  split <;> first
   |rfl
   | (simp only[AS.aj2,nF _ _ h])
theorem apD{T:TypeId}{op:BinOp}{i:Id}{v:Nat}{j:Id}{w:Nat}(h:wM (t.bU i) (s.bU i)):aG6 P t T op i v j w=aG6 P s T op i v j w:=by unfold aG6;rcases LI h with⟨h1,h2⟩ | ⟨v,f,f',c,h1,h2⟩ <;> rw[h1,h2]
theorem ac5{src dst:TypeId}{id:Id}{ver:Nat}(h:wM (t.bU id) (s.bU id)):Xe P t src dst id ver=Xe P s src dst id ver:=by
 unfold Xe;rcases LI h with⟨h1,h2⟩ | ⟨v,f,f',c,h1,h2⟩
 ·rw[h1,h2]
 ·rw[h1,h2]
  cases c <;> first
   |rfl
   | (rename_i e z c;cases z <;> rfl)
theorem xZ{ty:Ty}:∀(ps:List (Nat×bF)) (l:List ty.den),(∀x∈ps,t.ev x.2=s.ev x.2/\∀id∈(s.ev x.2).ids,wM (t.bU id) (s.bU id))->iH ty t ps l=iH ty s ps l
 |[],_,_=>rfl
 | (i,x)::ps,l,h=>by obtain⟨h1,h2⟩:=h (i,x) (aM ..);simp only[iH];simp only at h1 h2;rw[h1,nF _ _ h2];congr 2;funext y;rw[xZ ps _ λz hz=>h z (aN _ hz)]
theorem u5{ty:Ty}:∀(ps:List (Nat×bF)) (l:List ty.den) (r:List ty.den×List Id),(iH ty s ps l).eval=av r->∀id∈r.2,∃x∈ps,id∈(s.ev x.2).ids
 |[],l,r,h,id,cR=>by obtain rfl:=aA.1 h;cases cR
 | (i,x)::ps,l,r,h,id,cR=>by
  simp only[iH]at h;obtain⟨h1,h2⟩:=aH.1 h;obtain⟨y,h3,h4⟩:=az.1 h2;obtain⟨r',h5,h6⟩:=az.1 h4;obtain rfl:=aA.1 h6;rcases bt.1 cR with cR | cR
  ·exact⟨(i,x),aM ..,sZ _ _ cR⟩
  ·obtain⟨z,hz,Kg⟩:=u5 ps _ r' h5 id cR;exact⟨z,aN _ hz,Kg⟩
theorem Dj{fs:Array Field}:∀(ps:List (Nat×bF)) (v:aE),(∀x∈ps,t.ev x.2=s.ev x.2)->ou P fs t ps v=ou P fs s ps v
 |[],_,_=>rfl
 | (i,x)::ps,v,h=>by
  have h1:=h (i,x) (aM ..);simp only at h1;simp only[ou,h1];have ih:∀v,ou P fs t ps v=ou P fs s ps v:=λv=>Dj ps v λz hz=>h z (aN _ hz)
  simp only[ih]
theorem Jv:∀(l:List bF),(∀x∈l,t.ev x=s.ev x)->pI t l=pI s l
 |[],_=>rfl
 |x::l,h=>by simp only[pI];rw[h x (aM ..),Jv l λy hy=>h y (aN _ hy)]
theorem OY{ty:Ty}{X:TypeId}{x:aE}(h:∀id∈x.ids,wM (t.bU id) (s.bU id)):Ev P t ty X x=Ev P s ty X x:=by
 unfold Ev;split
 ·rfl
 ·simp only[AS.aj2,nF _ _ h]
theorem kL{v:aE}(h:∀t,lh (fV Γ ops s o) s t->(oG P Γ bH o t).eval=av (t.put o.dst v)):Jh P Γ bH ops o s (s.put o.dst v):=
 ⟨⟨v,λ_=>aF,[]⟩,App.F0 _ _ _,⟨λ_ _ h=>by simp at h,λ_ h=>by simp at h⟩,λt ht=>⟨_,h t ht,App.F0 _ _ _⟩⟩
theorem mI{F:AS->Out aE}(ho:∀t,oG P Γ bH o t=(F t).bind λv=> .ok (t.put o.dst v))(hF:∀t,lh (fV Γ ops s o) s t->F t=F s){s':AS}(he:(oG P Γ bH o s).eval=av s'):Jh P Γ bH ops o s s':=by
 rw[ho]at he;obtain⟨v,h1,h2⟩:=az.1 he;obtain rfl:=aA.1 h2;refine kL λt ht=> ?_
 rw[ho,hF t ht,az];exact⟨v,h1,rfl⟩
theorem Qt{v:aE}{ids:List Id}(hi:∀id∈ids,id∈(fV Γ ops s o).rs)(h:∀t,lh (fV Γ ops s o) s t->(oG P Γ bH o t).eval=av ((t.bn ids).put o.dst v)):Jh P Γ bH ops o s ((s.bn ids).put o.dst v):=
 ⟨⟨v,λ_=>aF,ids⟩,App.Mw _ _ _ _,⟨λ_ _ h=>by simp at h,hi⟩,λt ht=>⟨_,h t ht,App.Mw _ _ _ _⟩⟩
theorem xD{v:aE}{ids:List Id}{q:Nat}{es:List dB}(hd:o.dst=av q)(hv:s.dM q=aS)(hi:∀id∈ids,id∈(fV Γ ops s o).rs)
  (h:∀t,lh (fV Γ ops s o) s t->t.dM q=aS->(oG P Γ bH o t).eval=av (((t.bn ids).born q es).put o.dst v)):Jh P Γ bH ops o s (((s.bn ids).born q es).put o.dst v):=by
 refine⟨⟨v,Mj q es,ids⟩,by rw[hd];exact App.amu hv _ _ _,⟨λid e h=> .inr ?_,hi⟩,λt ht=> ?_⟩
 ·cases id with
  |cl _=>simp[Mj]at h
  |new i j=>
   simp only[Mj]at h;split at h
   ·rename_i hq;exact⟨q,j,hd,by rw[hq]⟩
   ·cases h
 ·have hv':t.dM q=aS:=by rw[ht.dM q hd];exact hv
  exact⟨_,h t ht hv',by rw[hd];exact App.amu hv' _ _ _⟩
theorem BY{v:aE}{id:Id}{e0 e:dB}(hs:s.bU id=av e0)(hw:id∈(fV Γ ops s o).ws)(h:∀t,lh (fV Γ ops s o) s t->t.bU id=s.bU id->(oG P Γ bH o t).eval=av ((t.aY id e).put o.dst v)):
  Jh P Γ bH ops o s ((s.aY id e).put o.dst v):=by
 refine⟨⟨v,λi=>if i=id then av e else aF,[]⟩,App.ayN hs _ _ _,⟨λi e' h=> .inl ?_,λ_ h=>by simp at h⟩,λt ht=> ?_⟩
 ·simp only at h;split at h
  ·rename_i hi;subst hi;exact⟨hw,by rw[hs];simp⟩
  ·cases h
 ·have:=ht.ws id hw;exact⟨_,h t ht this,App.ayN (this.trans hs) _ _ _⟩
end
end Go.Ab
namespace Go.Ab
section
variable {P:aK} {Γ:sa} {bH:List Nat} {ops:Array Oper} {o:Oper} {s t:AS}
theorem abB{T:TypeId}{x v:aE}{s':AS}(h:(Fg P s T x v).eval=av s'):
  ∃id e0 e,x.ids=[id]/\s.bU id=av e0/\s'=s.aY id e/\∀t:AS,t.bU id=s.bU id->(Fg P t T x v).eval=av (t.aY id e):=by
 unfold Fg at h;split at h
 ·rename_i id ver p n;cases la:s.obj id with
  |none=>rw[la]at h;simp only[aw]at h
  |some r=>
   obtain⟨ve,fr,c⟩:=r;rw[la]at h;obtain⟨h1,h2⟩:=aH.1 h;obtain⟨r,h3,h4⟩:=az.1 h2;obtain⟨h5,h6⟩:=aH.1 h4;obtain⟨h7,h8⟩:=bQ.1 h6;obtain⟨c',h9,aFh⟩:=az.1 h8;obtain rfl:=aA.1 aFh;refine⟨id,_,_,rfl,dQ la,rfl,λt ht=> ?_⟩;have hob':t.obj id=av (ve,fr,c):=by simp only[AS.obj,ht];exact la
   unfold Fg;simp only[hob'];exact aH.2 ⟨h1,az.2 ⟨r,h3,aH.2 ⟨h5,bQ.2 ⟨h7,az.2 ⟨c',h9,aA.2 rfl⟩⟩⟩⟩⟩
 ·simp only[aw]at h
theorem ah8{c:Call}{x y:bF}{T X:TypeId}(cZ:o.op= .call c)(hc:c.callee= .builtin .copy)(ha:c.args.toList=[x,y])(ht:c.argTypes.toList=[T,X]){s':AS}
  (he:(Rm P s o.dst T X (s.ev x) (s.ev y)).eval=av s'):Jh P Γ bH ops o s s':=by
 have XF:∀t:AS,oG P Γ bH o t=Rm P t o.dst T X (t.ev x) (t.ev y):=λt=>by unfold oG;rw[cZ];simp only[hc,ha,ht]
 have BN:∀z,z=x\/z=y->z∈o.op.operands.toList:=λz hz=>by rw[cZ];simp only[bZ,dG,hc,aR,bT,ha];simpa using hz
 have hx:∀t,lh (fV Γ ops s o) s t->t.ev x=s.ev x:=λt h=>h.ev (BN x (.inl rfl))
 have hy:∀t,lh (fV Γ ops s o) s t->t.ev y=s.ev y:=λt h=>h.ev (BN y (.inr rfl))
 have hm:∀t,lh (fV Γ ops s o) s t->∀ty,Ev P t ty X (s.ev y)=Ev P s ty X (s.ev y):=λt h ty=>OY λid cR=>h.acd (X9 cZ rfl) (BN y (.inr rfl)) cR
 unfold Rm at he;split at he
 ·rename_i e t b id ver len Dz ahr;obtain⟨m,h1,he⟩:=az.1 he;split at he
  ·rename_i ve n t' l la;obtain⟨h2,Gu⟩:=aH.1 he;obtain⟨l',h3,U6⟩:=az.1 Gu;obtain⟨h4,aG9⟩:=bQ.1 U6;obtain rfl:=aA.1 aG9;have hw:id∈(fV Γ ops s o).ws:=by show id∈writes Γ s o;unfold writes;rw[cZ];simp only[hc,ha,ahr];simp[aE.ids]
   refine BY (dQ la) hw λt ht ap8=> ?_
   rw[XF t,hx t ht,hy t ht];have hob':t.obj id=av (ve,bq,.d (.arr n t') l):=by simp only[AS.obj,ap8];exact la
   unfold Rm;simp only[Dz,ahr];refine az.2 ⟨m,by rw[hm t ht];exact h1,?_⟩;simp only[hob'];exact aH.2 ⟨h2,az.2 ⟨l',h3,bQ.2 ⟨h4,aA.2 rfl⟩⟩⟩
  ·exact(aw.1 he).elim
 ·exact(aw.1 he).elim
theorem Y5{c:Call}{x y:bF}{T X:TypeId}(cZ:o.op= .call c)(hc:c.callee= .builtin .append)(ha:c.args.toList=[x,y])(ht:c.argTypes.toList=[T,X])(gW:∀k n,s.ev x= .cX->s.ev y= .d (.int k) n->False){s':AS}
  (he:(vo P s (aqb bH o.dst) (aiV bH o.dst) o.dst T X (s.ev x) (s.ev y)).eval=av s'):Jh P Γ bH ops o s s':=by
 have XF:∀t:AS,t.ev x=s.ev x->t.ev y=s.ev y->oG P Γ bH o t=vo P t (aqb bH o.dst) (aiV bH o.dst) o.dst T X (t.ev x) (t.ev y):=λt e1 e2=>by
  unfold oG;rw[cZ];simp only[hc,ha,ht];split
  ·rename_i k n hx hy;rw[e1]at hx;rw[e2]at hy;exact(gW k n hx hy).elim
  ·rfl
 have BN:∀z,z=x\/z=y->z∈o.op.operands.toList:=λz hz=>by rw[cZ];simp only[bZ,dG,hc,aR,bT,ha];simpa using hz
 have hx:∀t,lh (fV Γ ops s o) s t->t.ev x=s.ev x:=λt h=>h.ev (BN x (.inl rfl))
 have hy:∀t,lh (fV Γ ops s o) s t->t.ev y=s.ev y:=λt h=>h.ev (BN y (.inr rfl))
 have hm:∀t,lh (fV Γ ops s o) s t->∀ty,Ev P t ty X (s.ev y)=Ev P s ty X (s.ev y):=λt h ty=>OY λid cR=>h.acd (X9 cZ rfl) (BN y (.inr rfl)) cR
 unfold vo at he;split at he
 ·rename_i e ty b q Dz hd;obtain⟨m,h1,h2⟩:=az.1 he;split at h2
  ·rename_i aIy;cases aG8:aiV bH o.dst with
   |true=>
    rw[aG8]at h2;simp only at h2;obtain⟨h5,h6⟩:=bQ.1 h2;obtain rfl:=aA.1 h6;refine kL λt ht=> ?_
    rw[XF t (hx t ht) (hy t ht),hx t ht,hy t ht];unfold vo;simp only[hd]at aG8 Dz ⊢;simp only[Dz,aIy,aG8];refine az.2 ⟨m,by rw[hm t ht];exact h1,?_⟩;exact bQ.2 ⟨h5,aA.2 rfl⟩
   |false=>
   rw[aG8]at h2;simp only at h2;obtain⟨h3,h4⟩:=aH.1 h2;obtain⟨h5,h6⟩:=bQ.1 h4;obtain rfl:=aA.1 h6;refine xD (ids:=[]) hd h3 (λ_ h=>by cases h) λt ht hv=> ?_
   rw[XF t (hx t ht) (hy t ht),hx t ht,hy t ht];unfold vo;simp only[hd]at aG8 Dz ⊢;simp only[Dz,aIy,aG8];refine az.2 ⟨m,by rw[hm t ht];exact h1,?_⟩;exact aH.2 ⟨hv,bQ.2 ⟨h5,aA.2 rfl⟩⟩
  ·rename_i id ver len aIy;split at h2
   ·rename_i v fr e' t' l la;obtain⟨h3,h4⟩:=aH.1 h2;obtain⟨l',h5,h6⟩:=az.1 h4;obtain⟨h7,h8⟩:=bQ.1 h6;obtain⟨h9,aFh⟩:=bQ.1 h8;obtain⟨aHU,aHV⟩:=bQ.1 aFh;obtain rfl:=aA.1 aHV;have hw:id∈(fV Γ ops s o).ws:=by show id∈writes Γ s o;unfold writes;rw[cZ];simp only[hc,ha,aIy];simp[aE.ids]
    refine BY (dQ la) hw λt ht ap8=> ?_
    rw[XF t (hx t ht) (hy t ht),hx t ht,hy t ht];have hob':t.obj id=av (v,fr,.vec e' t' l):=by simp only[AS.obj,ap8];exact la
    unfold vo;simp only[hd]at Dz ⊢;simp only[Dz,aIy];refine az.2 ⟨m,by rw[hm t ht];exact h1,?_⟩;simp only[hob'];exact aH.2 ⟨h3,az.2 ⟨l',h5,bQ.2 ⟨h7,bQ.2 ⟨h9,bQ.2 ⟨aHU,aA.2 rfl⟩⟩⟩⟩⟩
   ·simp only[aw]at h2
  ·simp only[aw]at h2
 ·simp only[aw]at he
theorem Np:∀(n:Nat) (todo acc:List Id),∀id∈acc,id∈s.reach n todo acc
 | 0,_,_,id,h=>h
 |_+1,[],_,id,h=>h
 |n+1,x::todo,acc,id,h=>by
  rw[AS.reach];split
  ·exact Np n todo acc id h
  ·exact Np n _ _ id (bt.2 (.inl h))
theorem uA:∀(n:Nat) (todo acc:List Id),(∀id∈s.reach n todo acc,((t.bU id).getD .dead).ids=((s.bU id).getD .dead).ids)->t.reach n todo acc=s.reach n todo acc
 | 0,_,_,_=>rfl
 |_+1,[],_,_=>rfl
 |n+1,x::todo,acc,h=>by
  rw[AS.reach]at h;rw[AS.reach,AS.reach];split
  ·rename_i hc;rw[if_pos hc]at h;exact uA n todo acc h
  ·rename_i hc;rw[if_neg hc]at h;have hx:=h x (Np n _ _ x (bt.2 (.inr (List.mem_singleton.2 rfl))));rw[hx];exact uA n _ _ h
theorem aBE(e:Option dB):((e.map dB.am0).getD .dead).ids=(e.getD .dead).ids:=by
 cases e with
 |none=>rfl
 |some x=>cases x <;> rfl
theorem P2(ids:List Id)(n:Nat)(todo acc:List Id):(s.bn ids).reach n todo acc=s.reach n todo acc:=by
 refine uA n todo acc λid _=> ?_
 rw[eU];split
 ·exact aBE _
 ·rfl
theorem HM:∀(ps:List (Option Ty)) (vs:List aE),(∀v∈vs,∀id∈v.ids,wM (t.bU id) (s.bU id))->t.conv ps vs=s.conv ps vs
 |[],[],_=>rfl
 |[],_::_,_=>rfl
 |some _::_,[],_=>rfl
 |none::_,[],_=>rfl
 |some ty::ps,v::vs,h=>by simp only[AS.conv];rw[nF v ty (h v (aM ..)),HM ps vs λx hx=>h x (aN _ hx)]
 |none::ps,v::vs,h=>by simp only[AS.conv];rw[HM ps vs λx hx=>h x (aN _ hx)]
theorem HN:∀(ps:List (Option Ty)) (vs:List aE) (r:List aE×List Id),(s.conv ps vs).eval=av r->r.1.flatMap aE.ids=tq ps vs/\∀id∈r.2,∃v∈vs,id∈v.ids
 |[],[],r,h=>by simp only[AS.conv,aA]at h;subst h;exact⟨rfl,λ_ h=>by cases h⟩
 |some ty::ps,v::vs,r,h=>by
  simp only[AS.conv]at h;obtain⟨x,h1,h2⟩:=az.1 h;obtain⟨r',h3,h4⟩:=az.1 h2;obtain rfl:=aA.1 h4;obtain⟨i1,i2⟩:=HN ps vs r' h3;refine⟨by simp[tq,i1,aE.ids],λid cR=> ?_⟩;rcases bt.1 cR with cR | cR
  ·exact⟨v,aM ..,sZ v id cR⟩
  ·obtain⟨u,hu,ab8⟩:=i2 id cR;exact⟨u,aN _ hu,ab8⟩
 |none::ps,v::vs,r,h=>by simp only[AS.conv]at h;obtain⟨r',h3,h4⟩:=az.1 h;obtain rfl:=aA.1 h4;obtain⟨i1,i2⟩:=HN ps vs r' h3;refine⟨by simp[tq,i1],λid cR=> ?_⟩;obtain⟨u,hu,ab8⟩:=i2 id cR;exact⟨u,aN _ hu,ab8⟩
 |[],_::_,_,h=>by simp only[AS.conv,aw]at h
 |some _::_,[],_,h=>by simp only[AS.conv,aw]at h
 |none::_,[],_,h=>by simp only[AS.conv,aw]at h
theorem aeI:∀(c:aE),∀v∈c.list,∀id∈v.ids,id∈c.ids
 | .cons a b,v,hv,id,cR=>by
  simp only[aE.list,bI]at hv;simp only[aE.ids,bt];rcases hv with rfl | hv
  ·exact .inl cR
  ·exact .inr (aeI b v hv id cR)
 | .sb _,_,h,_,_ | .undef,_,h,_,_ | .gone,_,h,_,_ | .cX,_,h,_,_ | .ns,_,h,_,_ | .uq,_,h,_,_ | .zX,_,h,_,_ | .d _ _,_,h,_,_ | .ptr ..,_,h,_,_ | .dN ..,_,h,_,_
 | .fn ..,_,h,_,_ | .pr ..,_,h,_,_ | .nil,_,h,_,_ | .vec ..,_,h,_,_ | .bx ..,_,h,_,_ | .iy ..,_,h,_,_ | .mp ..,_,h,_,_ | .qu ..,_,h,_,_ | .yl ..,_,h,_,_ | .xU ..,_,h,_,_ | .dj ..,_,h,_,_=>by simp[aE.list]at h
theorem Pg{ids:List Id}(h:∀id∈ids,t.bU id=s.bU id):t.uC ids=s.uC ids:=by
 funext id ver;unfold AS.uC;cases hi:idxOf id ids with
 |none=>rfl
 |some k=>
  have:t.obj id=s.obj id:=by simp only[AS.obj,h id (cH (ni hi))]
  rw[this]
theorem PJ{id:Id}(h:t.bU id=s.bU id):t.zC id=s.zC id:=by simp only[AS.zC,AS.obj,h]
theorem K6{ids:List Id}(h:∀id∈ids,t.bU id=s.bU id)(q:Nat):t.sT ids q=s.sT ids q:=by
 funext id ver;cases id with
 |new i j=>rfl
 |cl k=>
  simp only[AS.sT];cases hk:ids[k]? with
  |none=>rfl
  |some id=>simp only[PJ (h id (cH hk))]
theorem JX{ids:List Id}(h:∀id∈ids,t.bU id=s.bU id)(q b:Nat):t.pM ids q b=s.pM ids q b:=by funext e;cases e <;> simp only[AS.pM,K6 h]
theorem ads{ids:List Id}(h:∀id∈ids,t.bU id=s.bU id){id:Id}(cR:id∈ids):t.lk ids id=s.lk ids id:=by unfold AS.lk;rw[h id cR,Pg h]
def mC(s:AS)(ids:List Id)(d:Option Tmp)(G:iJ):AS:=(AS.iR s ids (d.getD 0) (s.made ids (d.getD 0) G.news) ids G.bS).put d (G.val.gJ (s.sT ids (d.getD 0)))
theorem WZ{ids:List Id}{d:Option Tmp}{G:iJ}{s':AS}:(s.back ids d G).eval=av s'↔(G.bS.length=ids.length/\(G.news=[]\/∃q,d=av q/\s.dM q=aS))/\s'=mC s ids d G:=by
 unfold AS.back;cases d with
 |none=>
  rw[aH,aA];simp only[au,dk,List.isEmpty_iff,mC,AS.put,Option.getD_none];constructor
  ·rintro⟨⟨h1,h2⟩,rfl⟩;rw[h2];exact⟨⟨h1,.inl rfl⟩,rfl⟩
  ·rintro⟨⟨h1,h2⟩,rfl⟩;rcases h2 with h2 | ⟨q,hq,_⟩
   ·rw[h2];exact⟨⟨h1,rfl⟩,rfl⟩
   ·cases hq
 |some q=>
  rw[aH,aA];simp only[au,dk,gB,List.isEmpty_iff,mC,dE];constructor
  ·rintro⟨⟨h1,h2⟩,rfl⟩;exact⟨⟨h1,h2.imp id λh=>⟨q,rfl,h⟩⟩,rfl⟩
  ·rintro⟨⟨h1,h2⟩,rfl⟩;refine⟨⟨h1,h2.imp id λ⟨q',hq,h⟩=> ?_⟩,rfl⟩;obtain rfl:q=q':=by simpa using hq
   exact h
theorem OL(s0:AS)(all:List Id)(q:Nat):∀(ids:List Id) (es:List dB) (s:AS),(AS.iR s0 all q s ids es).news.length=s.news.length
 |[],_,_=>by simp[AS.iR]
 |_::_,[],_=>by simp[AS.iR]
 |id::ids,e::es,s=>by rw[AS.iR,OL s0 all q ids es,Is]
theorem awY(s:AS)(ids:List Id)(q:Nat)(es:List dB):(s.made ids q es).news.length=s.news.length:=by cases es <;> simp[AS.made,AS.born]
def Gj(ids:List Id)(d:Option Tmp)(G:iJ)(id:Id):Prop:=id∈ids\/(G.news≠ []/\∃q j,d=av q/\id= .new q j)
theorem QU{ids:List Id}{d:Option Tmp}{G:iJ}(hn:ids.Nodup)(hp:∀id∈ids,s.bU id≠aF)(hl:G.bS.length=ids.length)(hv:G.news=[]\/∃q,d=av q/\s.dM q=aS):
  (∀id,¬Gj ids d G id->(mC s ids d G).bU id=s.bU id)/\
  (∀(k:Nat) (id:Id) (e:dB),ids[k]? =av id->G.bS[k]? =av e->(mC s ids d G).bU id=av (s.pM ids (d.getD 0) (s.zC id) e))/\
  (∀q j,G.news≠ []->d=av q->(mC s ids d G).bU (.new q j)=(G.news[j]?).map (s.pM ids q 0))/\
  (∀q j,G.news≠ []->d=av q->s.bU (.new q j)=aF):=by
 have hv':G.news=[]\/s.dM (d.getD 0)=aS:=by
  rcases hv with h | ⟨q,rfl,h⟩
  ·exact .inl h
  ·exact .inr h
 obtain⟨m1,m2⟩:=adt s ids (d.getD 0) G.news hv';have aD4:∀q j,G.news≠ []->d=av q->s.bU (.new q j)=aF:=λq j h1 h2=>by
  rcases hv' with h | h
  ·exact absurd h h1
  ·subst h2;exact(yu.1 h).2 j
 have zQ:∀id,s.bU id≠aF->G.news=[]\/∀j,id≠ .new (d.getD 0) j:=λid cR=>by
  rcases hv with h | ⟨q,rfl,h⟩
  ·exact .inl h
  ·exact .inr λj e=>cR (by rw[e];exact(yu.1 h).2 j)
 obtain⟨n1,n2⟩:=DX s ids (d.getD 0) ids G.bS (s.made ids (d.getD 0) G.news) hn hl (λid cR=>by rw[m1 id (zQ id (hp id cR))];exact hp id cR);refine⟨λid cR=> ?_,λk id e h1 h2=> ?_,λq j h1 h2=> ?_,aD4⟩
 ·unfold Gj at cR;simp only[not_or]at cR;rw[mC,FM,n1 id cR.1];refine m1 id ?_
  by_cases gW:G.news=[]
  ·exact .inl gW
  ·right;intro j e;rcases hv with h | ⟨q,hq,_⟩
   ·exact gW h
   ·exact cR.2 ⟨gW,q,j,hq,by rw[e,hq];rfl⟩
 ·rw[mC,FM,n2 k id e h1 h2]
 ·subst h2;have aKF:Id.new q j ∉ ids:=λcR=>hp _ cR (aD4 q j h1 rfl)
  rw[mC,FM,n1 _ aKF];exact m2 h1 j
open Classical in
theorem ahT{c:Call}{F:bF}{f:gg}{caps:aE}{en:Entry}(cZ:o.op= .call c)(hc:c.callee= .value F)(hF:s.ev F= .fn f caps)(hΓ:Γ f (c.args.toList.map s.ev++caps.list)=av en)(iI:Nat.blt f yB=aS){s':AS}
  (he:(s.call en o.dst (c.args.toList.map s.ev++caps.list)).eval=av s'):Jh P Γ bH ops o s s':=by
 have BN:∀z,z=F\/z∈c.args.toList->z∈o.op.operands.toList:=λz hz=>by
  rw[cZ];simp only[bZ,dG,hc,bT,bt];rcases hz with rfl | hz
  ·exact .inl (by simp)
  ·exact .inr hz
 have avV:∀v∈c.args.toList.map s.ev++caps.list,∀id∈v.ids,id∈(fV Γ ops s o).rs:=λv hv id cR=>by
  rcases bt.1 hv with hv | hv
  ·obtain⟨x,hx,rfl⟩:=cT.1 hv;exact Ig (X9 cZ rfl) (BN x (.inr hx)) cR
  ·refine Ig (X9 cZ rfl) (BN F (.inl rfl)) ?_
   rw[hF];exact aeI caps v hv id cR
 generalize PW:c.args.toList.map s.ev++caps.list=vs at he avV hΓ;have aAc:(fV Γ ops s o).ws=s.reach 64 (tq en.params vs) []:=by show writes Γ s o=_;unfold writes;rw[cZ];simp only[hc,hF,PW,hΓ]
 have XF:∀t,lh (fV Γ ops s o) s t->oG P Γ bH o t=t.call en o.dst vs:=λt ht=>by
  unfold oG;rw[cZ];have h1:t.ev F= .fn f caps:=by rw[ht.ev (BN F (.inl rfl)),hF]
  have h2:c.args.toList.map t.ev=c.args.toList.map s.ev:=gv λx hx=>ht.ev (BN x (.inr hx))
  obtain⟨cal,args,tys⟩:=c;simp only at hc PW h2;subst hc;simp only[h1,h2,PW,hΓ,iI,Out.guard]
 unfold AS.call at he;obtain⟨r,h1,h2⟩:=az.1 he;obtain⟨aFC,aiE⟩:=HN _ _ r h1;have hlends:∀t:AS,(t.bn r.2).XZ r.1=t.reach 64 (tq en.params vs) []:=λt=>by unfold AS.XZ;rw[P2,aFC]
 rw[hlends]at h2;generalize hW:s.reach 64 (tq en.params vs) []=W at h2 aAc;have hWn:W.Nodup:=by rw[<-hW];exact ql s _ _ _ (by simp)
 unfold AS.enter at h2;obtain⟨zP,h3⟩:=aH.1 h2;obtain⟨x,hx,h4⟩:=uc.1 h3;obtain⟨x0,aFL,h4⟩:=az.1 h4;have aK3:=en.an4 _ _ aFL;rw[aK3]at h4 aFL;obtain⟨⟨hl,hv⟩,rfl⟩:=WZ.1 h4;generalize hG:en.out (r.1.map (aE.gJ ((s.bn r.2).uC W))) (W.map ((s.bn r.2).lk W)) x=G at hl hv h4 ⊢;have hp:∀id∈W,(s.bn r.2).bU id≠aF:=λid cR=>by have:=(au _ _▸cS.1 zP id cR).1;obtain⟨⟨v,fr,c⟩,hr⟩:=cd.1 this;rw[dQ hr];simp
 obtain⟨b1,b2,b3,b4⟩:=QU (s:=s.bn r.2) (d:=o.dst) hWn hp hl hv;have hfzent:∀(u:AS) id,u.bU id=aF↔(u.bn r.2).bU id=aF:=λu id=>by rw[eU];split <;> simp
 let E:aG1:=⟨G.val.gJ ((s.bn r.2).sT W (o.dst.getD 0)),λid=>if Gj W o.dst G id then(mC (s.bn r.2) W o.dst G).bU id else aF,r.2⟩
 have hslots:∀u:AS,(mC (u.bn r.2) W o.dst G).cj=(u.put o.dst (G.val.gJ ((u.bn r.2).sT W (o.dst.getD 0)))).cj:=λu=>by unfold mC;cases o.dst <;> simp[AS.put,Ak,Ul,ml]
 have hlen:∀u:AS,(mC (u.bn r.2) W o.dst G).news.length=u.news.length:=λu=>by unfold mC;cases o.dst <;> simp[AS.put,OL,awY,o6]
 refine⟨E,⟨hslots s,hlen s,λid=> ?_⟩,⟨λid e PV=> ?_,λid cR=> ?_⟩,λt ht=> ?_⟩
 ·by_cases yE:Gj W o.dst G id
  ·have PV:E.up id=(mC (s.bn r.2) W o.dst G).bU id:=if_pos yE;rw[PV];cases hb:(mC (s.bn r.2) W o.dst G).bU id with
   |some e=>rfl
   |none=>
    rcases yE with cR | ⟨gW,q,j,hq,rfl⟩
    ·obtain⟨k,hk⟩:=jz.1 cR;have iI:k < G.bS.length:=by rw[hl];exact(List.getElem?_eq_some_iff.1 hk).1
     rw[b2 k id _ hk (cm iI)]at hb;cases hb
    ·have:=(hfzent s _).2 (b4 q j gW hq);simp[this]
  ·have PV:E.up id=aF:=if_neg yE;rw[PV,b1 id yE,eU]
 ·by_cases yE:Gj W o.dst G id
  ·rcases yE with cR | ⟨_,q,j,hq,rfl⟩
   ·left;refine⟨by rw[aAc];exact cR,λh=>hp id cR ((hfzent s id).1 h)⟩
   ·exact .inr ⟨q,j,hq,rfl⟩
  ·have:E.up id=aF:=if_neg yE;rw[this]at PV;cases PV
 ·obtain⟨v,hv,cR⟩:=aiE id cR;exact avV v hv id cR
 ·have aH7:t.conv en.params vs=s.conv en.params vs:=HM _ _ λv hv id cR=>ht.rs id (avV v hv id cR)
  have I9:∀id∈W,t.bU id=s.bU id:=λid cR=>ht.ws id (by rw[aAc];exact cR)
  have adI:∀id∈W,(t.bn r.2).bU id=(s.bn r.2).bU id:=λid cR=>by rw[eU,eU,I9 id cR]
  have hWt:t.reach 64 (tq en.params vs) []=W:=by
   rw[<-hW];refine uA _ _ _ λid cR=> ?_
   rw[I9 id (by rw[<-hW];exact cR)]
  have aIJ:G.news=[]\/∃q,o.dst=av q/\(t.bn r.2).dM q=aS:=hv.imp id λ⟨q,hq,h⟩=>⟨q,hq,by
   rw[tf]at h ⊢;rw[ht.dM q hq];exact h⟩
  have aBq:∀id∈W,(t.bn r.2).bU id≠aF:=λid cR=>by rw[adI id cR];exact hp id cR
  obtain⟨d1,d2,d3,d4⟩:=QU (s:=t.bn r.2) (d:=o.dst) hWn aBq hl aIJ;refine⟨mC (t.bn r.2) W o.dst G,?_,⟨?_,hlen t,λid=> ?_⟩⟩
  ·rw[XF t ht];unfold AS.call;rw[aH7];refine az.2 ⟨r,h1,?_⟩;rw[hlends,hWt];unfold AS.enter;have hA:(t.bn r.2).uC W=(s.bn r.2).uC W:=Pg adI;have hO:W.map ((t.bn r.2).lk W)=W.map ((s.bn r.2).lk W):=gv λid cR=>ads adI cR
   refine aH.2 ⟨?_,uc.2 ⟨x,?_,az.2 ⟨x,aFL,?_⟩⟩⟩
   ·refine cS.2 λid cR=> ?_
    have:=cS.1 zP id cR;simp only[AS.obj,AS.M1]at this ⊢;rw[adI id cR];exact this
   ·rw[hA,hO,<-hx]
   ·rw[hA,hO,hG];exact WZ.2 ⟨⟨hl,aIJ⟩,rfl⟩
  ·rw[hslots t,K6 adI]
  ·by_cases yE:Gj W o.dst G id
   ·have PV:E.up id=(mC (s.bn r.2) W o.dst G).bU id:=if_pos yE;rw[PV];rcases yE with cR | ⟨gW,q,j,hq,rfl⟩
    ·obtain⟨k,hk⟩:=jz.1 cR;have iI:k < G.bS.length:=by rw[hl];exact(List.getElem?_eq_some_iff.1 hk).1
     rw[b2 k id _ hk (cm iI),d2 k id _ hk (cm iI),JX adI,PJ (adI id cR)]
    ·rw[b3 q j gW hq,d3 q j gW hq,JX adI];cases hn:G.news[j]? with
     |some e=>rfl
     |none=>
      have:=(hfzent t _).2 (d4 q j gW hq);simp[this]
   ·have PV:E.up id=aF:=if_neg yE;rw[PV,d1 id yE,eU]
end
end Go.Ab
namespace Go.Ab
section
variable {P:aK} {Γ:sa} {bH:List Nat} {ops:Array Oper} {o:Oper} {s t:AS}
theorem Out.bind_assoc{α β γ:Type}(o:Out α)(f:α->Out β)(g:β->Out γ):(o.bind f).bind g=o.bind λa=>(f a).bind g:=by
 induction o with
 |ok a=>rfl
 |fail=>rfl
 |pZ c r ih=>simp only[Out.bind,ih]
 |get x h ih=>simp only[Out.bind,ih]
 |br c x y ih1 ih2=>simp only[Out.bind,ih1,ih2]
theorem afm{parts:Array (Nat×bF)}{x:Nat×bF}(h:x∈parts.toList):x.2∈(parts.toList.map (·.2)).toArray.toList:=cT.2 ⟨x,h,rfl⟩
theorem aoO{T:TypeId}{x:bF}(cZ:o.op= .box T x){s':AS}(he:(acD P s (isObj bH o.dst) (aiV bH o.dst) o.dst T (s.ev x)).eval=av s'):Jh P Γ bH ops o s s':=by
 have XF:∀t,oG P Γ bH o t=acD P t (isObj bH o.dst) (aiV bH o.dst) o.dst T (t.ev x):=λt=>by unfold oG;rw[cZ]
 have hm:x∈o.op.operands.toList:=by rw[cZ];simp[bZ]
 unfold acD at he;split at he
 ·rename_i q hd;split at he
  ·rename_i ho;obtain⟨h1,h2⟩:=aH.1 he;obtain rfl:=aA.1 h2;simp only[au]at h1;refine xD (ids:=[]) hd h1.1 (λ_ h=>by cases h) λt ht hv=> ?_
   rw[XF,ht.ev hm];unfold acD;simp only[hd]at ho ⊢;simp only[ho];exact aH.2 ⟨by simp[hv,h1.2],aA.2 rfl⟩
  ·rename_i ho;split at he
   ·rename_i ty aIF;obtain⟨h1,h2⟩:=aH.1 he;obtain⟨y,h3,h4⟩:=az.1 h2;obtain rfl:=aA.1 h4;refine Qt (λid cR=>Ig (X9 cZ rfl) hm (sZ _ _ cR)) λt ht=> ?_
    rw[XF,ht.ev hm];unfold acD;simp only[hd]at ho ⊢;simp only[ho,aIF];refine aH.2 ⟨h1,az.2 ⟨y,?_,aA.2 rfl⟩⟩;rw[nF _ _ λid cR=>ht.acd (X9 cZ rfl) hm cR];exact h3
   ·simp only[aw]at he
 ·simp only[aw]at he
theorem ag1{T:TypeId}{x:bF}(cZ:o.op= .sliceToArrayPointer T x){s':AS}(he:(I0 P s o.dst T (s.ev x)).eval=av s'):Jh P Γ bH ops o s s':=by
 have XF:∀t,oG P Γ bH o t=I0 P t o.dst T (t.ev x):=λt=>by unfold oG;rw[cZ]
 have hm:x∈o.op.operands.toList:=by rw[cZ];simp[bZ]
 unfold I0 at he;split at he
 ·rename_i n e hT;split at he
  ·rename_i ty aIF;obtain⟨h1,h2⟩:=aH.1 he;obtain⟨l,h3,h4⟩:=az.1 h2;obtain⟨h5,h6⟩:=bQ.1 h4;obtain rfl:=aA.1 h6;refine Qt (λid cR=>Ig (X9 cZ rfl) hm (sZ _ _ cR)) λt ht=> ?_
   rw[XF,ht.ev hm];unfold I0;simp only[hT,aIF];refine aH.2 ⟨h1,az.2 ⟨l,?_,bQ.2 ⟨h5,aA.2 rfl⟩⟩⟩;rw[nF _ _ λid cR=>ht.acd (X9 cZ rfl) hm cR];exact h3
  ·simp only[aw]at he
 ·simp only[aw]at he
theorem acF{T:TypeId}{parts:Array (Nat×bF)}(cZ:o.op= .build T parts){s':AS}(he:(DL P s o.dst T parts.toList).eval=av s'):Jh P Γ bH ops o s s':=by
 have XF:∀t,oG P Γ bH o t=DL P t o.dst T parts.toList:=λt=>by unfold oG;rw[cZ]
 have hm:∀x∈parts.toList,x.2∈o.op.operands.toList:=λx hx=>by rw[cZ];exact afm hx
 unfold DL at he;split at he
 ·rename_i fs hT;split at he
  ·rename_i z hz;obtain⟨h1,h2⟩:=aH.1 he;obtain⟨v,h3,h4⟩:=az.1 h2;obtain rfl:=aA.1 h4;refine kL λt ht=> ?_
   rw[XF];unfold DL;simp only[hT,hz];refine aH.2 ⟨h1,az.2 ⟨v,?_,aA.2 rfl⟩⟩;rw[Dj _ _ λx hx=>ht.ev (hm x hx)];exact h3
  ·simp only[aw]at he
 ·rename_i n e hT;split at he
  ·rename_i ty aIF;obtain⟨h1,h2⟩:=aH.1 he;obtain⟨r,h3,h4⟩:=az.1 h2;obtain rfl:=aA.1 h4;refine Qt (λid cR=> ?_) λt ht=> ?_
   ·obtain⟨x,hx,hi⟩:=u5 _ _ _ h3 id cR;exact Ig (X9 cZ rfl) (hm x hx) hi
   ·rw[XF];unfold DL;simp only[hT,aIF];refine aH.2 ⟨h1,az.2 ⟨r,?_,aA.2 rfl⟩⟩;rw[xZ _ _ λx hx=>⟨ht.ev (hm x hx),λid cR=>ht.acd (X9 cZ rfl) (hm x hx) cR⟩];exact h3
  ·simp only[aw]at he
 ·simp only[aw]at he
theorem Mm{T:TypeId}{n:Nat}{parts:Array (Nat×bF)}(cZ:o.op= .buildSlice T n parts){s':AS}(he:(lj P s (aqb bH o.dst) (isObj bH o.dst) o.dst T n parts.toList).eval=av s'):Jh P Γ bH ops o s s':=by
 have XF:∀t,oG P Γ bH o t=lj P t (aqb bH o.dst) (isObj bH o.dst) o.dst T n parts.toList:=λt=>by unfold oG;rw[cZ]
 have hm:∀x∈parts.toList,x.2∈o.op.operands.toList:=λx hx=>by rw[cZ];exact afm hx
 unfold lj at he;split at he
 ·rename_i e ty b q Dz hd;obtain⟨h1,h2⟩:=aH.1 he;obtain⟨r,h3,h4⟩:=az.1 h2;have ahp:∀id∈r.2,id∈(fV Γ ops s o).rs:=λid cR=>by obtain⟨x,hx,hi⟩:=u5 _ _ _ h3 id cR;exact Ig (X9 cZ rfl) (hm x hx) hi
  have aH7:∀t,lh (fV Γ ops s o) s t->∀l,iH ty t parts.toList l=iH ty s parts.toList l:=λt ht l=>xZ _ _ λx hx=>⟨ht.ev (hm x hx),λid cR=>ht.acd (X9 cZ rfl) (hm x hx) cR⟩
  split at h4
  ·rename_i ho;obtain⟨h5,h6⟩:=aH.1 h4;obtain rfl:=aA.1 h6;refine xD hd h5 ahp λt ht hv=> ?_
   rw[XF];unfold lj;simp only[hd]at ho Dz ⊢;simp only[Dz,ho];refine aH.2 ⟨h1,az.2 ⟨r,by rw[aH7 t ht];exact h3,aH.2 ⟨hv,aA.2 rfl⟩⟩⟩
  ·rename_i ho;obtain rfl:=aA.1 h4;refine Qt ahp λt ht=> ?_
   rw[XF];unfold lj;simp only[hd]at ho Dz ⊢;simp only[Dz,ho];exact aH.2 ⟨h1,az.2 ⟨r,by rw[aH7 t ht];exact h3,aA.2 rfl⟩⟩
 ·simp only[aw]at he
theorem P0{T:TypeId}{x y:bF}(cZ:o.op= .makeSlice T x y){len cap:Int}(hx:(asInt (s.ev x)).eval=av len)(hy:(asInt (s.ev y)).eval=av cap){s':AS}(he:(pT P s o.dst T len cap).eval=av s'):Jh P Γ bH ops o s s':=by
 have XF:∀t,oG P Γ bH o t=(asInt (t.ev x)).bind λl=>(asInt (t.ev y)).bind λc=>pT P t o.dst T l c:=λt=>by unfold oG;rw[cZ]
 have hm:∀z,z=x\/z=y->z∈o.op.operands.toList:=λz hz=>by rw[cZ];simpa[bZ]using hz
 unfold pT at he;split at he
 ·rename_i e ty b q Dz hd;obtain⟨h1,h2⟩:=aH.1 he;obtain⟨h3,h4⟩:=bQ.1 h2;obtain rfl:=aA.1 h4;refine xD (ids:=[]) hd h1 (λ_ h=>by cases h) λt ht hv=> ?_
  rw[XF,ht.ev (hm x (.inl rfl)),ht.ev (hm y (.inr rfl))];refine az.2 ⟨len,hx,az.2 ⟨cap,hy,?_⟩⟩;unfold pT;simp only[Dz,hd];exact aH.2 ⟨hv,bQ.2 ⟨h3,aA.2 rfl⟩⟩
 ·simp only[aw]at he
theorem aaH{id:Id}{ver:Nat}{kt vt:Ty}(h:wM (t.bU id) (s.bU id)):t.qY id ver kt vt=s.qY id ver kt vt:=by
 unfold AS.qY;rcases LI h with⟨h1,h2⟩ | ⟨v,f,f',c,h1,h2⟩
 ·rw[h1,h2]
 ·rw[h1,h2];cases c <;> rfl
theorem VB{T:TypeId}{m k:aE}{ok:Bool}(h:∀id∈m.ids,wM (t.bU id) (s.bU id)):BZ P t T m k ok=BZ P s T m k ok:=by
 unfold BZ;split
 ·rename_i id ver hm;rw[aaH (h id (by simp[aE.ids]))]
 ·rfl
theorem X1{id:Id}{ver:Nat}{kt vt:Ty}{l:List (kt.den×vt.den)}(h:(s.qY id ver kt vt).eval=av l):∃e,s.bU id=av e:=by
 unfold AS.qY at h;split at h
 ·rename_i v fr k' v' l' la;exact⟨_,dQ la⟩
 ·simp only[aw]at h
theorem OS{id:Id}{ver:Nat}{kt vt:Ty}(h:t.bU id=s.bU id):t.qY id ver kt vt=s.qY id ver kt vt:=by unfold AS.qY AS.obj;rw[h]
theorem HD{id:Id}(h:t.bU id=s.bU id):t.r9 id=s.r9 id:=by unfold AS.r9 AS.obj;rw[h]
theorem VL{T:TypeId}{m k v:aE}{s':AS}(h:(B3 P s T m k v).eval=av s'):
  ∃id e0 e,m.ids=[id]/\s.bU id=av e0/\s'=s.aY id e/\∀t:AS,t.bU id=s.bU id->(B3 P t T m k v).eval=av (t.aY id e):=by
 unfold B3 at h;split at h
 ·rename_i K V kt vt id ver hm;obtain⟨l,h1,h⟩:=az.1 h;obtain⟨kx,h2,h⟩:=az.1 h;obtain⟨vx,h3,h⟩:=az.1 h;obtain⟨hu,h⟩:=aH.1 h;obtain rfl:=aA.1 h;obtain⟨e0,ZZ⟩:=X1 h1;refine⟨id,e0,_,rfl,ZZ,rfl,λt ht=> ?_⟩;unfold B3;simp only[hm];exact az.2 ⟨l,by rw[OS ht];exact h1,az.2 ⟨kx,h2,az.2 ⟨vx,h3,aH.2 ⟨by rw[HD ht];exact hu,aA.2 rfl⟩⟩⟩⟩
 ·simp only[aw]at h
theorem VK{T:TypeId}{m k:aE}{s':AS}(h:(B2 P s T m k).eval=av s'):
  ∃id e0 e,m.ids=[id]/\s.bU id=av e0/\s'=s.aY id e/\∀t:AS,t.bU id=s.bU id->(B2 P t T m k).eval=av (t.aY id e):=by
 unfold B2 at h;split at h
 ·rename_i K V kt vt id ver hm;obtain⟨l,h1,h⟩:=az.1 h;obtain⟨kx,h2,h⟩:=az.1 h;obtain⟨hu,h⟩:=aH.1 h;obtain rfl:=aA.1 h;obtain⟨e0,ZZ⟩:=X1 h1;refine⟨id,e0,_,rfl,ZZ,rfl,λt ht=> ?_⟩;unfold B2;simp only[hm];exact az.2 ⟨l,by rw[OS ht];exact h1,az.2 ⟨kx,h2,aH.2 ⟨by rw[HD ht];exact hu,aA.2 rfl⟩⟩⟩
 ·simp only[aw]at h
theorem WW{s':AS}(he:(oG P Γ bH o s).eval=av s'):Jh P Γ bH ops o s s':=by
 have ZZ:=he;have one:∀x,o.op.operands= #[x]->∀t,lh (fV Γ ops s o) s t->t.ev x=s.ev x/\(X3 o.op=bq->∀id∈(s.ev x).ids,wM (t.bU id) (s.bU id)):=λx hx t ht=>
  have hm:x∈o.op.operands.toList:=by rw[hx];simp
  ⟨ht.ev hm,λhn _ cR=>ht.acd hn hm cR⟩
 unfold oG at he;split at he
 ·rename_i x cZ;obtain rfl:=aA.1 he;refine kL λt ht=> ?_
  unfold oG;rw[cZ];simp only;rw[(one x (by rw[cZ];rfl) t ht).1];rfl
 ·rename_i x cZ;obtain rfl:=aA.1 he;refine kL λt ht=> ?_
  unfold oG;rw[cZ];simp only;rw[(one x (by rw[cZ];rfl) t ht).1];rfl
 ·rename_i c x y cZ;refine mI (F:=λt=>anO (t.ev c) (t.ev x) (t.ev y)) (λt=>by unfold oG;rw[cZ]) (λt ht=> ?_) ZZ;rw[ht.ev (by rw[cZ];simp[bZ]),ht.ev (by rw[cZ];simp[bZ]),ht.ev (by rw[cZ];simp[bZ])]
 ·rename_i T cZ;split at he
  ·rename_i z q hz hq;obtain⟨h1,h2⟩:=aH.1 he;obtain rfl:=aA.1 h2;simp only[au]at h1;refine xD (ids:=[]) hq h1.1 (λ_ h=>by cases h) λt ht hv=> ?_
   unfold oG;rw[cZ];simp only[hz,hq];exact aH.2 ⟨by simp[hv,h1.2],aA.2 rfl⟩
  ·exact(aw.1 he).elim
 ·rename_i T x cZ;exact aoO cZ he
 ·rename_i T parts cZ;exact acF cZ he
 ·rename_i T n parts cZ;exact Mm cZ he
 ·rename_i T x cZ;refine mI (F:=λt=>Kx P t T (t.ev x)) (λt=>by unfold oG;rw[cZ]) (λt ht=> ?_) ZZ;obtain⟨h1,h2⟩:=one x (by rw[cZ];rfl) t ht;rw[h1,aeL (h2 (X9 cZ rfl))]
 ·rename_i T x v cZ;obtain⟨s1,h1,h2⟩:=az.1 he;obtain rfl:=aA.1 h2;obtain⟨id,e0,e,cR,hs,rfl,hl⟩:=abB h1;refine BY hs ?_ λt ht ap8=> ?_
  ·show id∈writes Γ s o;unfold writes;rw[cZ];simp only[cR,List.mem_singleton]
  ·unfold oG;rw[cZ];simp only;rw[ht.ev (x:=x) (by rw[cZ];simp[bZ]),ht.ev (x:=v) (by rw[cZ];simp[bZ])];exact az.2 ⟨_,hl t ap8,aA.2 rfl⟩
 ·rename_i x cZ;split at he
  ·rename_i id v p n hx;obtain rfl:=aA.1 he;refine kL λt ht=> ?_
   unfold oG;rw[cZ];simp only[(one x (by rw[cZ];rfl) t ht).1,hx];rfl
  ·rename_i ty y hx;obtain rfl:=aA.1 he;refine kL λt ht=> ?_
   unfold oG;rw[cZ];simp only[(one x (by rw[cZ];rfl) t ht).1,hx];rfl
  ·rename_i ty y hx;obtain⟨z,e,he⟩:=uc.1 he;obtain rfl:=aA.1 he;refine kL λt ht=> ?_
   unfold oG;rw[cZ];simp only[(one x (by rw[cZ];rfl) t ht).1,hx];exact uc.2 ⟨z,e,aA.2 rfl⟩
  ·rename_i f c hx;obtain rfl:=aA.1 he;refine kL λt ht=> ?_
   unfold oG;rw[cZ];simp only[(one x (by rw[cZ];rfl) t ht).1,hx];rfl
  ·exact(aw.1 he).elim
 ·rename_i op T x y U cZ;have avI:x∈o.op.operands.toList:=by rw[cZ];simp[bZ]
  have aHc:y∈o.op.operands.toList:=by rw[cZ];simp[bZ]
  split at he
  ·rename_i i v1 j v2 hx hy;obtain⟨v,h1,h2⟩:=az.1 he;obtain rfl:=aA.1 h2;refine kL λt ht=> ?_
   unfold oG;rw[cZ];simp only[ht.ev avI,ht.ev aHc,hx,hy];exact az.2 ⟨v,by rw[apD (ht.acd (X9 cZ rfl) avI (by rw[hx];simp[aE.ids]))];exact h1,rfl⟩
  ·rename_i gW;obtain⟨v,h1,h2⟩:=az.1 he;obtain rfl:=aA.1 h2;refine kL λt ht=> ?_
   unfold oG;rw[cZ];simp only[ht.ev avI,ht.ev aHc];exact az.2 ⟨v,h1,rfl⟩
 ·rename_i op T x cZ;refine mI (F:=λt=>aJO op (t.ev x)) (λt=>by unfold oG;rw[cZ]) (λt ht=> ?_) ZZ;rw[(one x (by rw[cZ];rfl) t ht).1]
 ·rename_i T U x cZ;split at he
  ·rename_i id ver len hTU hx;unfold ac4 at he;split at he
   ·rename_i v e0 l e la hD;split at he
    ·rename_i hE;obtain⟨h1,h2⟩:=aH.1 he;obtain⟨h3,h4⟩:=bQ.1 h2;obtain rfl:=aA.1 h4;refine BY (dQ la) ?_ λt ht ap8=> ?_
     ·show id∈writes Γ s o;unfold writes;rw[cZ];simp only[hTU,hx];simp[aE.ids]
     ·have hob':t.obj id=av (v,bq,.vec e0 (.int .u8) l):=by simp only[AS.obj,ap8];exact la
      unfold oG;rw[cZ];simp only[hTU,(one x (by rw[cZ];rfl) t ht).1,hx];unfold ac4;simp only[hob',hD,hE];exact aH.2 ⟨h1,bQ.2 ⟨h3,aA.2 rfl⟩⟩
    ·exact(aw.1 he).elim
   ·exact(aw.1 he).elim
  ·rename_i id ver hx;obtain⟨v,h1,h2⟩:=az.1 he;obtain rfl:=aA.1 h2;refine kL λt ht=> ?_
   obtain⟨h3,h4⟩:=one x (by rw[cZ];rfl) t ht;unfold oG;rw[cZ];simp only[h3,hx];exact az.2 ⟨v,by rw[ac5 (h4 (X9 cZ rfl) _ (by rw[hx];simp[aE.ids]))];exact h1,rfl⟩
  ·rename_i gW;obtain⟨v,h1,h2⟩:=az.1 he;obtain rfl:=aA.1 h2;refine kL λt ht=> ?_
   obtain⟨h3,h4⟩:=one x (by rw[cZ];rfl) t ht;unfold oG;rw[cZ];simp only[h3];exact az.2 ⟨v,by rw[ac3 (h4 (X9 cZ rfl))];exact h1,rfl⟩
 ·rename_i T x cZ;exact ag1 cZ he
 ·rename_i f first caps cZ
  obtain⟨h1,h2⟩:=aH.1 he;obtain rfl:=aA.1 h2;refine kL λt ht=> ?_
  have hc:pI t caps.toList=pI s caps.toList:=Jv _ λx hx=>ht.ev (by rw[cZ];simp only[bZ,bT];exact bt.2 (.inr hx))
  unfold oG;rw[cZ];simp only[hc];exact aH.2 ⟨h1,aA.2 rfl⟩
 ·rename_i T l c cZ;obtain⟨n,h1,h2⟩:=az.1 he;obtain⟨m,h3,h4⟩:=az.1 h2;exact P0 cZ h1 h3 h4
 ·rename_i T x lo hi cZ;refine mI (F:=λt=>Fe P t T (t.ev x) lo hi) (λt=>by unfold oG;rw[cZ]) (λt ht=> ?_) ZZ;have hm:∀z,(z=x\/lo=av z\/hi=av z)->z∈o.op.operands.toList:=λz hz=>by
   rw[cZ];simp only[bZ,bT,bt];rcases hz with rfl | rfl | rfl
   ·left;left;left;simp
   ·left;left;right;simp
   ·left;right;simp
  have hx:=hm x (.inl rfl);rw[ht.ev hx];exact LM (λid cR=>ht.acd (X9 cZ rfl) hx cR) (λy hy=>ht.ev (hm y (.inr (.inl hy)))) (λy hy=>ht.ev (hm y (.inr (.inr hy))))
 ·rename_i T x lo y m cZ;refine mI (F:=λt=>LL P t T (t.ev x) lo y m) (λt=>by unfold oG;rw[cZ]) (λt ht=> ?_) ZZ;have hm:∀z,(z=x\/lo=av z\/y=z\/m=z)->z∈o.op.operands.toList:=λz hz=>by
   rw[cZ];simp only[bZ,bT,bt];rcases hz with rfl | rfl | rfl | rfl
   ·left;left;left;simp
   ·left;left;right;simp
   ·left;right;simp
   ·right;simp
  have hx:=hm x (.inl rfl);rw[ht.ev hx];exact Ws (λid cR=>ht.acd (X9 cZ rfl) hx cR) (λz hz=>ht.ev (hm z (.inr (.inl hz)))) (ht.ev (hm y (.inr (.inr (.inl rfl))))) (ht.ev (hm m (.inr (.inr (.inr rfl)))))
 ·rename_i T x f cZ;refine mI (F:=λt=>BJ P T (t.ev x) f) (λt=>by unfold oG;rw[cZ]) (λt ht=> ?_) ZZ;rw[(one x (by rw[cZ];rfl) t ht).1]
 ·rename_i T x f cZ;refine mI (F:=λt=>ZM P T (t.ev x) f) (λt=>by unfold oG;rw[cZ]) (λt ht=> ?_) ZZ;rw[(one x (by rw[cZ];rfl) t ht).1]
 ·rename_i T x i cZ;refine mI (F:=λt=>(asInt (t.ev i)).bind λi=>pQ P t T (t.ev x) i) (λt=>by unfold oG;rw[cZ,Out.bind_assoc]) (λt ht=> ?_) ZZ;have hx:x∈o.op.operands.toList:=by rw[cZ];simp[bZ]
  rw[ht.ev (x:=i) (by rw[cZ];simp[bZ]),ht.ev hx];congr 1;funext i;exact MM λid cR=>ht.acd (X9 cZ rfl) hx cR
 ·rename_i T x i cZ;refine mI (F:=λt=>(asInt (t.ev i)).bind λi=>aac P T (t.ev x) i) (λt=>by unfold oG;rw[cZ,Out.bind_assoc]) (λt ht=> ?_) ZZ;rw[ht.ev (x:=i) (by rw[cZ];simp[bZ]),ht.ev (x:=x) (by rw[cZ];simp[bZ])]
 ·rename_i x i cZ;refine mI (F:=λt=>Out.opt ((t.ev x).list[i]?)) (λt=>by unfold oG;rw[cZ]) (λt ht=> ?_) ZZ;rw[(one x (by rw[cZ];rfl) t ht).1]
 ·rename_i T cZ;have Gu:=he;unfold Et at Gu;split at Gu
  ·rename_i K V kt vt q hm hd;obtain⟨h1,h2⟩:=aH.1 Gu;obtain rfl:=aA.1 h2;refine xD (ids:=[]) hd h1 (λ_ h=>by cases h) λt ht hv=> ?_
   unfold oG;rw[cZ];simp only;unfold Et;simp only[hm,hd];exact aH.2 ⟨hv,aA.2 rfl⟩
  ·exact(aw.1 Gu).elim
 ·rename_i T x i ok cZ;refine mI (F:=λt=>BZ P t T (t.ev x) (t.ev i) ok) (λt=>by unfold oG;rw[cZ]) (λt ht=> ?_) ZZ;have hx:x∈o.op.operands.toList:=by rw[cZ];simp[bZ]
  rw[ht.ev (x:=i) (by rw[cZ];simp[bZ]),ht.ev hx];exact VB λid cR=>ht.acd (X9 cZ rfl) hx cR
 ·rename_i T m k x cZ;obtain⟨s1,h1,h2⟩:=az.1 he;obtain rfl:=aA.1 h2;obtain⟨id,e0,e,cR,hs,rfl,hl⟩:=VL h1;refine BY hs ?_ λt ht ap8=> ?_
  ·show id∈writes Γ s o;unfold writes;rw[cZ];simp only[cR,List.mem_singleton]
  ·unfold oG;rw[cZ];simp only;rw[ht.ev (x:=m) (by rw[cZ];simp[bZ]),ht.ev (x:=k) (by rw[cZ];simp[bZ]),ht.ev (x:=x) (by rw[cZ];simp[bZ])];exact az.2 ⟨_,hl t ap8,aA.2 rfl⟩
 ·rename_i c cZ;obtain⟨cal,args,tys⟩:=c;simp only at he;split at he
  ·split at he
   ·rename_i m k T T2 ha ht';have aKC:m∈o.op.operands.toList:=by rw[cZ];simp only[bZ,dG,aR,bT,ha];simp
    have atg:k∈o.op.operands.toList:=by rw[cZ];simp only[bZ,dG,aR,bT,ha];simp
    obtain⟨s1,h1,h2⟩:=az.1 he;obtain rfl:=aA.1 h2;obtain⟨id,e0,e,cR,hs,rfl,hl⟩:=VK h1;refine BY hs ?_ λt ht ap8=> ?_
    ·show id∈writes Γ s o;unfold writes;rw[cZ];simp only[ha,cR,List.mem_singleton]
    ·unfold oG;rw[cZ];simp only[ha,ht'];rw[ht.ev aKC,ht.ev atg];exact az.2 ⟨_,hl t ap8,aA.2 rfl⟩
   ·exact(aw.1 he).elim
  ·split at he
   ·rename_i x y T X ha ht';exact ah8 cZ rfl ha ht' he
   ·exact(aw.1 he).elim
  ·split at he
   ·rename_i x T ha ht';refine mI (F:=λt=>aCg P T (t.ev x)) (λt=>by unfold oG;rw[cZ];simp only[ha,ht']) (λt ht=> ?_) ZZ;rw[ht.ev (by rw[cZ];simp only[bZ,dG,aR,bT,ha];simp)]
   ·exact(aw.1 he).elim
  ·split at he
   ·rename_i x y T X ha ht';have avI:x∈o.op.operands.toList:=by rw[cZ];simp only[bZ,dG,aR,bT,ha];simp
    have aHc:y∈o.op.operands.toList:=by rw[cZ];simp only[bZ,dG,aR,bT,ha];simp
    split at he
    ·rename_i k n hx hy;have Gu:=he;unfold adH at Gu;split at Gu
     ·rename_i e t0 b q kn Dz hd hX;obtain⟨h1,h2⟩:=aH.1 Gu;obtain⟨h3,h4⟩:=bQ.1 h2;obtain rfl:=aA.1 h4;refine xD (ids:=[]) hd h1 (λ_ h=>by cases h) λt ht hv=> ?_
      unfold oG;rw[cZ];simp only[ha,ht',ht.ev avI,ht.ev aHc,hx,hy];unfold adH;simp only[Dz,hd,hX];exact aH.2 ⟨hv,bQ.2 ⟨h3,aA.2 rfl⟩⟩
     ·exact(aw.1 Gu).elim
    ·rename_i gW;exact Y5 cZ rfl ha ht' gW he
   ·exact(aw.1 he).elim
  ·split at he
   ·rename_i x T ha ht';have avI:x∈o.op.operands.toList:=by rw[cZ];simp only[bZ,dG,aR,bT,ha];simp
    split at he
    ·rename_i e hx hT;obtain rfl:=aA.1 he;refine kL λt ht=> ?_
     unfold oG;rw[cZ];simp only[ha,ht',ht.ev avI,hx,hT];rfl
    ·exact(aw.1 he).elim
   ·exact(aw.1 he).elim
  ·refine mI (F:=λt=>aqY aS (args.toList.map t.ev)) (λt=>by unfold oG;rw[cZ]) (λt ht=> ?_) ZZ;congr 1;exact gv λx hx=>ht.ev (by rw[cZ];simp only[bZ,dG,aR,bT];exact hx)
  ·refine mI (F:=λt=>aqY bq (args.toList.map t.ev)) (λt=>by unfold oG;rw[cZ]) (λt ht=> ?_) ZZ;congr 1;exact gv λx hx=>ht.ev (by rw[cZ];simp only[bZ,dG,aR,bT];exact hx)
  ·split at he
   ·rename_i x ha;have avI:x∈o.op.operands.toList:=by rw[cZ];simp only[bZ,dG,aR,bT,ha];simp
    split at he
    ·rename_i id ver len hx;obtain⟨h1,h2⟩:=bQ.1 he;obtain rfl:=aA.1 h2;refine kL λt ht=> ?_
     unfold oG;rw[cZ];simp only[ha,ht.ev avI,hx];exact bQ.2 ⟨h1,rfl⟩
    ·exact(aw.1 he).elim
   ·exact(aw.1 he).elim
  ·split at he
   ·rename_i x y T U ha ht';have avI:x∈o.op.operands.toList:=by rw[cZ];simp only[bZ,dG,aR,bT,ha];simp
    have aHc:y∈o.op.operands.toList:=by rw[cZ];simp only[bZ,dG,aR,bT,ha];simp
    split at he
    ·rename_i id ver n hx hy;have Gu:=he;unfold agW at Gu;split at Gu
     ·rename_i v e l u la hT;obtain⟨h1,h2⟩:=aH.1 Gu;obtain⟨h3,h4⟩:=bQ.1 h2;obtain rfl:=aA.1 h4;refine BY (dQ la) ?_ λt ht ap8=> ?_
      ·show id∈writes Γ s o;unfold writes;rw[cZ];simp only[ha,hx];simp[aE.ids]
      ·have hob':t.obj id=av (v,bq,.vec e (.int .u8) l):=by simp only[AS.obj,ap8];exact la
       unfold oG;rw[cZ];simp only[ha,ht',ht.ev avI,ht.ev aHc,hx,hy];unfold agW;simp only[hob',hT];exact aH.2 ⟨h1,bQ.2 ⟨h3,aA.2 rfl⟩⟩
     ·exact(aw.1 Gu).elim
    ·exact(aw.1 he).elim
   ·exact(aw.1 he).elim
  ·rename_i F _;split at he
   ·rename_i f caps hF;split at he
    ·rename_i en aiz;obtain⟨iI,he⟩:=aH.1 he;exact ahT cZ rfl hF aiz iI he
    ·exact(aw.1 he).elim
   ·exact(aw.1 he).elim
  ·exact(aw.1 he).elim
 ·exact(aw.1 he).elim
end
end Go.Ab
namespace Go.Ab
section
variable {P:aK} {Γ:sa} {bH:List Nat} {ops:Array Oper} {o:Oper} {s t:AS}
def Loc(P:aK)(Γ:sa)(bH:List Nat)(ops:Array Oper)(o:Oper)(s s':AS):Prop:=∃E,App o.dst E s s'/\Y0 (fV Γ ops s o) s E/\∀t,lh (fV Γ ops s o) s t->∃t',Gt P Γ bH ops o t=av t'/\App o.dst E t t'
theorem R5{s':AS}(he:Gt P Γ bH ops o s=av s'):Loc P Γ bH ops o s s':=by
 unfold Gt at he;split at he
 ·rename_i hg;obtain⟨E,h1,h2,h3⟩:=WW (ops:=ops) he;refine⟨E,h1,h2,λt ht=> ?_⟩;obtain⟨t',h4,h5⟩:=h3 t ht;exact⟨t',by unfold Gt;simp only[hg];exact h4,h5⟩
 ·rename_i j want hg;split at he
  ·rename_i q hq;split at he
   ·rename_i b hb;have Z5:∀t,lh (fV Γ ops s o) s t->t.slot q= .d .bool b:=λt ht=>by rw[ht.cj q (bt.2 (.inr (by unfold Mz;simp only[hg,hq];simp)))];exact hb
    by_cases e:b=want
    ·rw[if_pos e]at he;obtain⟨E,h1,h2,h3⟩:=WW (ops:=ops) he;refine⟨E,h1,h2,λt ht=> ?_⟩;obtain⟨t',h4,h5⟩:=h3 t ht;exact⟨t',by unfold Gt;simp only[hg,hq,Z5 t ht,if_pos e];exact h4,h5⟩
    ·rw[if_neg e]at he;simp only[aB]at he;subst he;exact⟨⟨.nil,λ_=>aF,[]⟩,App.F0 _ _ _,⟨λ_ _ h=>by simp at h,λ_ h=>by simp at h⟩,λt ht=>⟨_,by unfold Gt;simp only[hg,hq,Z5 t ht,if_neg e],App.F0 _ _ _⟩⟩
   ·rename_i hb;have Z5:∀t,lh (fV Γ ops s o) s t->t.slot q= .nil:=λt ht=>by rw[ht.cj q (bt.2 (.inr (by unfold Mz;simp only[hg,hq];simp)))];exact hb
    simp only[aB]at he;subst he;exact⟨⟨.nil,λ_=>aF,[]⟩,App.F0 _ _ _,⟨λ_ _ h=>by simp at h,λ_ h=>by simp at h⟩,λt ht=>⟨_,by unfold Gt;simp only[hg,hq,Z5 t ht],App.F0 _ _ _⟩⟩
   ·cases he
  ·cases he
theorem ab3(h:lh (fV Γ ops s o) s t):writes Γ t o=writes Γ s o:=by
 have aAc:∀id∈writes Γ s o,t.bU id=s.bU id:=h.ws;unfold writes at aAc ⊢;split
 ·rename_i x v cZ;rw[h.ev (by rw[cZ];simp[bZ])]
 ·rename_i m k v cZ;rw[h.ev (by rw[cZ];simp[bZ])]
 ·rename_i T U x cZ;rw[h.ev (by rw[cZ];simp[bZ])]
 ·rename_i c cZ;obtain⟨cal,args,tys⟩:=c;simp only[cZ]at aAc;simp only;split
  ·split
   ·rename_i x l ha;rw[h.ev (by rw[cZ];simp only[bZ,dG,aR,bT,ha];simp)]
   ·rfl
  ·split
   ·rename_i x l ha;rw[h.ev (by rw[cZ];simp only[bZ,dG,aR,bT,ha];simp)]
   ·rfl
  ·split
   ·rename_i x l ha;rw[h.ev (by rw[cZ];simp only[bZ,dG,aR,bT,ha];simp)]
   ·rfl
  ·split
   ·rename_i x l ha;rw[h.ev (by rw[cZ];simp only[bZ,dG,aR,bT,ha];simp)]
   ·rfl
  ·rename_i F;simp only at aAc;have hm:∀z,z=F\/z∈args.toList->z∈o.op.operands.toList:=λz hz=>by
    rw[cZ];simp only[bZ,dG,bT,bt];rcases hz with rfl | hz
    ·exact .inl (by simp)
    ·exact .inr hz
   have h1:t.ev F=s.ev F:=h.ev (hm F (.inl rfl));have h2:args.toList.map t.ev=args.toList.map s.ev:=gv λx hx=>h.ev (hm x (.inr hx))
   rw[h1];split
   ·rename_i f caps hF;simp only[hF]at aAc;rw[h2];split
    ·rename_i en aiz;simp only[aiz]at aAc;exact uA _ _ _ λid cR=>by rw[aAc id cR]
    ·rfl
   ·rfl
  ·rfl
 ·rfl
theorem RW(h:lh (fV Γ ops s o) s t):fV Γ ops t o=fV Γ ops s o:=by
 have h1:=ab3 h;have h2:afd t o=afd s o:=by
  unfold afd;split
  ·rfl
  unfold List.flatMap;congr 1;exact gv λi hi=>by rw[h.cj i (bt.2 (.inl hi))]
 unfold fV;rw[h1,h2]
theorem um{xs ys:List Id}(h:meets xs ys=bq){id:Id}(hx:id∈xs):id ∉ ys:=by
 intro hy;have:meets xs ys=aS:=by unfold meets;exact List.any_eq_true.2 ⟨id,hx,List.any_eq_true.2 ⟨id,hy,by simp⟩⟩
 rw[h]at this;cases this
theorem rJ{d:Option Tmp}{ids:List Id}(h:Uh d ids=bq){q:Nat}(hd:d=av q)(j:Nat):Id.new q j ∉ ids:=by
 intro hy;have:Uh d ids=aS:=by subst hd;exact List.any_eq_true.2 ⟨_,hy,by simp⟩
 rw[h]at this;cases this
theorem FP{f g:DB}(h:f.aIm g=bq){q:Nat}(hd:f.dst=av q):q ∉ g.cj/\g.dst≠av q:=by unfold DB.aIm at h;rw[hd]at h;simp only[Bool.or_eq_false_iff,fF,aP,decide_eq_false_iff_not]at h;exact⟨λhx=>h.1 q hx rfl,h.2⟩
theorem agq(s:AS)(d:Option Tmp)(v:aE)(i:Nat)(h:d≠av i):(s.put d v).slot i=s.slot i:=by
 cases d with
 |none=>rfl
 |some q=>rw[Uk,if_neg];rintro⟨rfl,_⟩;exact h rfl
theorem App.slot{d:Option Tmp}{E:aG1}{s s':AS}(h:App d E s s')(i:Nat)(hi:d≠av i):s'.slot i=s.slot i:=by rw[<-agq s d E.v i hi];simp only[AS.slot,h.cj]
theorem acj{f f':DB}{E:aG1}{s s1:AS}(ha:App f.dst E s s1)(hw:Y0 f s E)(aKS:∀id∈f'.ws,id∈f'.rs)(h1:f.aIm f'=bq)(h2:meets f.ws f'.rs=bq)(h3:meets f'.ws f.rs=bq)
  (h4:Uh f.dst f'.rs=bq):(∀i∈f'.cj,s1.slot i=s.slot i)/\(∀id∈f'.ws,s1.bU id=s.bU id)/\(∀id∈f'.rs,wM (s1.bU id) (s.bU id))/\∀q,f'.dst=av q->s1.dM q=s.dM q:=by
 have PV:∀id∈f'.rs,E.up id=aF:=λid cR=>by
  cases hu:E.up id with
  |none=>rfl
  |some e=>
   rcases hw.up id e hu with⟨h,_⟩ | ⟨q,j,hd,rfl⟩
   ·exact absurd cR (um h2 h)
   ·exact absurd cR (rJ h4 hd j)
 refine⟨λi hi=>ha.slot i λhd=>(FP h1 hd).1 hi,λid cR=> ?_,λid cR=> ?_,λq hq=> ?_⟩
 ·rw[ha.bU,PV id (aKS id cR)];have:id ∉ E.fz:=λhz=>um h3 cR (hw.fz id hz)
  simp only[if_neg this]
 ·rw[ha.bU,PV id cR];simp only;split
  ·exact asw _
  ·exact asx _
 ·have gW:∀j,(s1.bU (.new q j)=aF↔s.bU (.new q j)=aF):=λj=>by
   rw[ha.bU];cases hu:E.up (.new q j) with
   |none=>
    simp only;split <;> simp
   |some e=>
    rcases hw.up _ e hu with⟨_,h⟩ | ⟨q',j',hd,he⟩
    ·simp[h]
    ·simp only[Id.new.injEq]at he;obtain⟨rfl,_⟩:=he;exact absurd hq (FP h1 hd).2
  rw[Bool.eq_iff_iff,yu,yu,ha.len];exact and_congr Iff.rfl (forall_congr' gW)
theorem D1(s:AS)(o:Oper):∀id∈(fV Γ ops s o).ws,id∈(fV Γ ops s o).rs:=λ_ cR=>bt.2 (.inr cR)
theorem swap{o':Oper}{s1 s2:AS}(h1:Gt P Γ bH ops o s=av s1)(h2:Gt P Γ bH ops o' s1=av s2)(hi:(fV Γ ops s o).indep (fV Γ ops s1 o')=aS):
  ∃t1,Gt P Γ bH ops o' s=av t1/\Gt P Γ bH ops o t1=av s2/\fV Γ ops s o'=fV Γ ops s1 o'/\fV Γ ops t1 o=fV Γ ops s o:=by
 unfold DB.indep at hi;simp only[au,cr]at hi;obtain⟨⟨⟨⟨⟨i1,i2⟩,i3⟩,i4⟩,i5⟩,i6⟩:=hi;obtain⟨E,a1,w1,l1⟩:=R5 h1;obtain⟨E',a2,w2,l2⟩:=R5 h2;obtain⟨g1,g2,g3,g4⟩:=acj (f:=fV Γ ops s o) (f':=fV Γ ops s1 o') a1 w1 (D1 _ _) i1 i3 i4 i5;have I9:lh (fV Γ ops s1 o') s1 s:=⟨λi hi=>(g1 i hi).symm,λid cR=>(g2 id cR).symm,λid cR=>by
  have:=g3 id cR
  revert this
  cases s1.bU id <;> cases s.bU id <;> simp only[wM] <;> intro h <;> first | trivial | exact h | skip
  rename_i a b;cases a <;> cases b <;> simp_all [dB.acd],λq hq=>(g4 q hq).symm⟩
 obtain⟨t1,k1,k2⟩:=l2 s I9;have hf':=RW I9;have w2':Y0 (fV Γ ops s1 o') s E':=⟨λid e hu=>by
  rcases w2.up id e hu with⟨h,hn⟩ | h
  ·exact .inl ⟨h,by rw[<-g2 id h];exact hn⟩
  ·exact .inr h,w2.fz⟩
 obtain⟨m1,m2,m3,m4⟩:=acj (f:=fV Γ ops s1 o') (f':=fV Γ ops s o) k2 w2' (D1 _ _) i2 i4 i3 i6;have aHY:lh (fV Γ ops s o) s t1:=⟨m1,m2,m3,m4⟩;obtain⟨t2,k3,k4⟩:=l1 t1 aHY;refine⟨t1,k1,?_,hf',RW aHY⟩;rw[k3];congr 1;have aIG:∀id e,E.up id=av e->E'.up id=aF/\id ∉ E'.fz:=λid e hu=>by
  rcases w1.up id e hu with⟨h,hn⟩ | ⟨q,j,hd,rfl⟩
  ·refine⟨?_,λhz=>um i3 h (w2.fz id hz)⟩;cases hu':E'.up id with
   |none=>rfl
   |some e'=>
    rcases w2.up id e' hu' with⟨h',_⟩ | ⟨q,j,hd,rfl⟩
    ·exact absurd (D1 _ _ id h') (um i3 h)
    ·exact absurd (D1 _ _ _ h) (rJ i6 hd j)
  ·refine⟨?_,λhz=>rJ i5 hd j (w2.fz _ hz)⟩;cases hu':E'.up (.new q j) with
   |none=>rfl
   |some e'=>
    rcases w2.up _ e' hu' with⟨h',_⟩ | ⟨q',j',hd',he⟩
    ·exact absurd (D1 _ _ _ h') (rJ i5 hd j)
    ·simp only[Id.new.injEq]at he;obtain⟨rfl,_⟩:=he;exact absurd hd' (FP i1 hd).2
 have aKX:∀id e,E'.up id=av e->E.up id=aF/\id ∉ E.fz:=λid e hu=>by
  have hn:E.up id=aF:=by
   cases aKV:E.up id with
   |none=>rfl
   |some e1=>rw[(aIG id e1 aKV).1]at hu;cases hu
  refine⟨hn,λhz=> ?_⟩;rcases w2.up id e hu with⟨h,_⟩ | ⟨q,j,hd,rfl⟩
  ·exact um i4 h (w1.fz id hz)
  ·exact rJ i6 hd j (w1.fz _ hz)
 refine AS.ava ?_ (by rw[k4.len,k2.len,a2.len,a1.len]) λid=> ?_
 ·have e1:∀(u u':AS) (d:Option Tmp) (v:aE),u.cj=u'.cj->(u.put d v).cj=(u'.put d v).cj:=λu u' d v h=>by cases d <;> simp[AS.put,h]
  rw[k4.cj,a2.cj,e1 t1 (s.put o'.dst E'.v) _ _ k2.cj,e1 s1 (s.put o.dst E.v) _ _ a1.cj];cases hd:o.dst with
  |none=>cases o'.dst <;> rfl
  |some q=>
   cases hd':o'.dst with
   |none=>rfl
   |some q'=>
    have gW:q'≠q:=λe=>(FP (f:=fV Γ ops s o) i1 hd).2 (by show o'.dst=av q;rw[hd',e])
    simp only[AS.put];exact List.set_comm _ _ gW
 ·rw[k4.bU,k2.bU,a2.bU,a1.bU];cases hu:E.up id with
  |some e=>
   obtain⟨h3,h4⟩:=aIG id e hu;simp only[h3,if_neg h4]
  |none=>
   simp only;cases hu':E'.up id with
   |some e=>
    obtain⟨_,h4⟩:=aKX id e hu';simp only[if_neg h4]
   |none=>
    simp only;by_cases z1:id∈E.fz <;> by_cases z2:id∈E'.fz <;> simp only[if_pos,if_neg,z1,z2,not_false_eq_true]
end
end Go.Ab
namespace Go.Ab
section
variable {P:aK} {Γ:sa} {bH:List Nat} {ops:Array Oper}
def acg(P:aK)(Γ:sa)(bH:List Nat)(ops:Array Oper)(fs:Nat->DB):List Nat->AS->AS->Prop
 |[],s,sn=>s=sn
 |i::l,s,sn=>∃o,ops[i]? =av o/\fV Γ ops s o=fs i/\∃s',Gt P Γ bH ops o s=av s'/\acg P Γ bH ops fs l s' sn
theorem acg.atX{fs:Nat->DB}{i:Nat}{l2:List Nat}{sn:AS}:∀(l1:List Nat) {s:AS},acg P Γ bH ops fs (l1++i::l2) s sn->(∀j∈l1,(fs j).indep (fs i)=aS)->acg P Γ bH ops fs (i::(l1++l2)) s sn
 |[],_,h,_=>h
 |j::l1,s,h,hi=>by
  obtain⟨oj,h1,h2,s1,h3,h4⟩:=h;obtain⟨oi,h5,h6,s2,h7,h8⟩:=acg.atX l1 h4 λj hj=>hi j (aN _ hj)
  have hd:=hi j (aM ..);rw[<-h2,<-h6]at hd;obtain⟨t1,k1,k2,k3,k4⟩:=swap h3 h7 hd;exact⟨oi,h5,by rw[k3,h6],t1,k1,oj,h1,by rw[k4,h2],s2,k2,h8⟩
theorem XD{R:Type}{anc:List Nat}{k:AS->Option R}{r:R}:∀(l:List Oper) (i:Nat) (acc:List (Nat×DB)) (s:AS) (f0:Nat->DB),(∀n o,l[n]? =av o->ops[i+n]? =av o)->(∀x∈acc,f0 x.1=x.2/\x.1 < i)->
  XC P Γ bH ops anc i l acc s k=av r->∃fs sn,(∀j,j < i->fs j=f0 j)/\acg P Γ bH ops fs (List.range' i l.length) s sn/\k sn=av r/\
   (∀x∈acc,∀m,i<=m->m < i+l.length->(anc.getD m 0).testBit x.1=aS\/x.2.indep (fs m)=aS)/\(∀m1 m2,i<=m1->m1 < m2->m2 < i+l.length->(anc.getD m2 0).testBit m1=aS\/(fs m1).indep (fs m2)=aS)
 |[],i,acc,s,f0,_,_,h=>⟨f0,s,λ_ _=>rfl,rfl,h,λ_ _ m h1 h2=>by simp at h2;omega,λ_ _ h1 h2 h3=>by simp at h3;omega⟩
 |o::l,i,acc,s,f0,ho,hf,h=>by
  unfold XC at h;split at h
  ·rename_i zP;simp only[AS.Lv]at h;obtain⟨s',h1,h2⟩:=adG (k:=λs'=>XC P Γ bH ops anc (i+1) l ((i,fV Γ ops s o)::acc) s' k) h;have aJ5:∀x∈(i,fV Γ ops s o)::acc,(if x.1=i then fV Γ ops s o else f0 x.1)=x.2/\x.1 < i+1:=λx hx=>by
    rcases bI.1 hx with rfl | hx
    ·simp
    ·obtain⟨q1,q2⟩:=hf x hx;rw[if_neg ao];exact⟨q1,ao⟩
   obtain⟨fs,sn,g1,g2,g3,g4,g5⟩:=XD l (i+1) ((i,fV Γ ops s o)::acc) s' (λn=>if n=i then fV Γ ops s o else f0 n)
    (λn o' hn=>by have:=ho (n+1) o' (by simpa using hn);rw[<-this];congr 1;omega) aJ5 h2
   have gi:fs i=fV Γ ops s o:=by rw[g1 i ao,if_pos rfl]
   refine⟨fs,sn,λj hj=>by rw[g1 j ao,if_neg ao],?_,g3,λx hx m h3 h4=> ?_,λm1 m2 h3 h4 h5=> ?_⟩
   ·rw[aI,List.range'_succ];exact⟨o,ho 0 o rfl,gi.symm,s',h1,g2⟩
   ·rcases Nat.eq_or_lt_of_le h3 with rfl | h3
    ·have:=cS.1 zP x hx;simp only[gB]at this;rcases this with h | h
     ·exact .inl h
     ·right;rw[gi];exact h
    ·exact g4 x (aN _ hx) m ao (by simp only[aI]at h4;omega)
   ·rcases Nat.eq_or_lt_of_le h3 with rfl | h3
    ·rw[gi];exact g4 (i,fV Γ ops s o) (aM ..) m2 ao (by simp only[aI]at h5;omega)
    ·exact g5 m1 m2 ao h4 (by simp only[aI]at h5;omega)
  ·cases h
theorem acp{acc:List Nat}{j:Nat}:∀ {l:List Edge},(l.foldr (λe m=>Nat.lor (Nat.lor (Nat.pow 2 e.on) (acc.getD e.on 0)) m) 0).testBit j=aS->∃e∈l,j=e.on\/(acc.getD e.on 0).testBit j=aS
 |[],h=>by simp at h
 |e::l,h=>by
  rw[List.foldr_cons,show ∀x y,Nat.lor x y=x ||| y from λ_ _=>rfl,show ∀x y,Nat.lor x y=x ||| y from λ_ _=>rfl,Nat.testBit_or,Nat.testBit_or,show Nat.pow 2 e.on=2^e.on from rfl,Nat.testBit_two_pow]at h;simp only[gB,aP]at h;rcases h with(h | h) | h
  ·exact⟨e,aM ..,.inl h.symm⟩
  ·exact⟨e,aM ..,.inr h⟩
  ·obtain⟨e',h1,h2⟩:=acp h;exact⟨e',aN _ h1,h2⟩
theorem WV:∀(l:List Oper) (acc:List Nat),(∀i,i < acc.length->(l.foldl (λacc o=>acc++ [Y3 acc o]) acc)[i]? =acc[i]?)/\
  ∀i o,l[i]? =av o->(l.foldl (λacc o=>acc++ [Y3 acc o]) acc)[acc.length+i]? =av (Y3 ((l.foldl (λacc o=>acc++ [Y3 acc o]) acc).take (acc.length+i)) o)
 |[],acc=>⟨λ_ _=>rfl,λi o h=>by simp at h⟩
 |x::l,acc=>by
  obtain⟨h1,h2⟩:=WV l (acc++ [Y3 acc x]);simp only[dS];refine⟨λi hi=> ?_,λi o hi=> ?_⟩
  ·rw[h1 i (by simp;omega),gF hi]
  ·cases i with
   |zero=>
    simp only[fe,aB]at hi;subst hi;rw[cz,h1 _ (by simp)];have:(l.foldl (λacc o=>acc++ [Y3 acc o]) (acc++ [Y3 acc x])).take acc.length=acc:=by
     apply List.ext_getElem?;intro j;rw[de];split
     ·rename_i hj;rw[h1 j (by simp;omega),gF hj]
     ·rename_i hj;rw[dW ao]
    rw[this];simp
   |succ i=>
    have:=h2 i o (by simpa using hi);simp only[aq,aI,aU,Nat.zero_add]at this;rw[show acc.length+(i+1)=acc.length+1+i by omega];exact this
theorem atE{l:List Oper}{i:Nat}{o:Oper}(hi:l[i]? =av o){j:Nat}(hj:((acq l).getD i 0).testBit j=aS):∃e∈o.after.toList,Region.binds .any e=aS/\(j=e.on\/((acq l).getD e.on 0).testBit j=aS):=by
 have h:=(WV l []).2 i o hi;have e:acq l=l.foldl (λacc o=>acc++ [Y3 acc o]) []:=rfl;rw[<-e]at h;simp only[aU,Nat.zero_add]at h;rw[List.getD_eq_getElem?_getD,h]at hj;obtain⟨e,h1,h3⟩:=acp hj;obtain⟨h1,h2⟩:=fp.1 h1;refine⟨e,h1,h2,h3.imp id λh4=> ?_⟩;rw[List.getD_eq_getElem?_getD,de]at h4;split at h4
 ·rw[List.getD_eq_getElem?_getD];exact h4
 ·simp at h4
def YS(n:Nat)(listed:Array Bool):List Nat:=(List.range n).filter λi=> !listed.getD i aS
theorem KE{n:Nat}{listed:Array Bool}{i:Nat}:i∈YS n listed↔i < n/\listed.getD i aS=bq:=by simp[YS]
theorem I7(n:Nat)(listed:Array Bool):(YS n listed).Pairwise (· < ·):=(List.pairwise_lt_range).filter _
theorem R3{listed:Array Bool}{i j:Nat}(d:Bool)(hi:i < listed.size):(listed.setIfInBounds i aS).getD j d=if j=i then aS else listed.getD j d:=by
 simp only[cC,dI];by_cases h:i=j
 ·subst h;simp[hi]
 ·simp[h,Ne.symm h]
theorem aDD{listed:Array Bool}{i:Nat}(hi:i < listed.size){l1 l2:List Nat}(h:YS listed.size listed=l1++i::l2):YS listed.size (listed.setIfInBounds i aS)=l1++l2:=by
 have hs:=I7 listed.size listed;rw[h]at hs;obtain⟨p1,p2,p3⟩:=List.pairwise_append.1 hs;obtain⟨p4,_⟩:=fj.1 p2;have e:YS listed.size (listed.setIfInBounds i aS)=(YS listed.size listed).filter λj=>decide (j≠i):=by
  unfold YS;rw[List.filter_filter];refine List.filter_congr λj _=> ?_
  rw[R3 aS hi];by_cases hj:j=i
  ·simp[hj]
  ·simp[hj]
 rw[e,h,gM,eJ];have f1:l1.filter (λj=>decide (j≠i))=l1:=iC.2 λj hj=>by have:=p3 j hj i (aM ..);simp;omega
 have f2:l2.filter (λj=>decide (j≠i))=l2:=iC.2 λj hj=>by have:=p4 j hj;simp;omega
 rw[f1,f2];simp
theorem aoB{rd:Option Nat}{n:Nat}{C:Ctx}(hΓ:Sound P Γ){fs:Nat->DB}{sn:AS}{Q:Exit->Act->World->Prop}(hE:ZD ops.toList=aS)
  (aKo:∀m1 m2,m1 < m2->m2 < ops.size->((acq ops.toList).getD m2 0).testBit m1=aS\/(fs m1).indep (fs m2)=aS) (hQ:∀a w,gw C sn a w->Q .normal a w):
  ∀(fuel:Nat) (listed:Array Bool) (s:AS) (a:Act) (w:World),listed.size=ops.size->(YS ops.size listed).length=fuel->
   (∀i,i < ops.size->listed.getD i aS=aS->∀j,((acq ops.toList).getD i 0).testBit j=aS->listed.getD j bq=aS)->acg P Γ bH ops fs (YS ops.size listed) s sn->gw C s a w->wpAnyIn (Fr rd) n P .any ops Q fuel listed a w:=by
 have aDV:∀i o,ops[i]? =av o->∀e∈o.after.toList,Region.binds .any e=aS->e.on < i:=λi o hi e he hb=>by have:=cS.1 hE (o,i) (List.mem_zipIdx_iff_getElem?.2 (by simpa using hi));have:=cS.1 this e he;simpa[hb]using this
 have aFD:∀(listed:Array Bool),listed.size=ops.size->∀i,i∈Region.ready .any ops listed↔i∈YS ops.size listed/\∀o,ops[i]? =av o->∀e∈o.after.toList,Region.binds .any e=aS->listed.getD e.on bq=aS:=λlisted _ i=>by
  rw[KE];unfold Region.ready;simp only[fp,List.mem_range,au,cr];constructor
  ·rintro⟨h1,h2,h3⟩;refine⟨⟨h1,h2⟩,λo ho e he hb=> ?_⟩;rw[ho]at h3;simp only[da,dE,Array.all_eq_true',gB,cr]at h3;rcases h3 e (by simpa using he) with h | h
   ·rw[hb]at h;cases h
   ·exact h
  ·rintro⟨⟨h1,h2⟩,h3⟩;refine⟨h1,h2,?_⟩;obtain⟨o,ho⟩:∃o,ops[i]? =av o:=⟨ops[i],by simp[h1]⟩
   rw[ho];simp only[da,dE,Array.all_eq_true',gB,cr];intro e he;cases hb:Region.binds .any e with
   |false=>exact .inl rfl
   |true=>exact .inr (h3 o ho e (by simpa using he) hb)
 have oY:∀(listed:Array Bool),listed.size=ops.size->Region.ready .any ops listed=[]->YS ops.size listed=[]:=λlisted hs hr=>by
  cases hu:YS ops.size listed with
  |nil=>rfl
  |cons i l=>
   exfalso;have hi:i∈YS ops.size listed:=by rw[hu];exact aM ..
   have aIC:=I7 ops.size listed;rw[hu]at aIC;have:i∈Region.ready .any ops listed:=(aFD listed hs i).2 ⟨hi,λo ho e he hb=>by
    have iI:=aDV i o ho e he hb;have aIl:=(KE.1 hi).1;cases hl:listed.getD e.on aS with
    |false=>
     have hm:e.on∈YS ops.size listed:=KE.2 ⟨ao,hl⟩;rw[hu]at hm;rcases bI.1 hm with h | h
     ·omega
     ·have:=(fj.1 aIC).1 _ h;omega
    |true=>
     have:e.on < listed.size:=ao;simp only[cC,jF this,dE]at hl ⊢;exact hl⟩
   rw[hr]at this;cases this
 intro fuel
 induction fuel with
 |zero=>
  intro listed s a w hs hl _ hr pO;have hn:YS ops.size listed=[]:=bV hl;refine⟨?_,?_⟩
  ·cases aKO:Region.ready .any ops listed with
   |nil=>rfl
   |cons i l=>
    have:i∈Region.ready .any ops listed:=by rw[aKO];exact aM ..
    have:=((aFD listed hs i).1 this).1;rw[hn]at this;cases this
  ·rw[hn]at hr;have:s=sn:=hr;subst this;exact hQ a w pO
 |succ fuel ih=>
  intro listed s a w hs hl atc hr pO;refine⟨λaKO=> ?_,λi hi=> ?_⟩
  ·have:=oY listed hs aKO;rw[this]at hl;simp at hl
  ·obtain⟨hu,aIa⟩:=(aFD listed hs i).1 hi;obtain⟨aIl,aOb⟩:=KE.1 hu;obtain⟨o,ho⟩:∃o,ops[i]? =av o:=⟨ops[i],by simp[aIl]⟩
   obtain⟨l1,l2,avP⟩:=List.append_of_mem hu;have aIC:=I7 ops.size listed;rw[avP]at aIC;have aHZ:∀j,((acq ops.toList).getD i 0).testBit j=aS->listed.getD j bq=aS:=λj hj=>by
    obtain⟨e,he,hb,h | h⟩:=atE (by simpa using ho) hj
    ·rw[h];exact aIa o ho e he hb
    ·have h1:=aIa o ho e he hb;have h2:=aDV i o ho e he hb;refine atc e.on ao ?_ j h
     have:e.on < listed.size:=ao;simp only[cC,jF this,dE]at h1 ⊢;exact h1
   rw[avP]at hr;have hb:=acg.atX l1 hr λj hj=>by
    have iI:j < i:=(List.pairwise_append.1 aIC).2.2 j hj i (aM ..);rcases aKo j i iI aIl with h | h
    ·have h1:=aHZ j h;have aMG:j∈YS ops.size listed:=by rw[avP];exact bt.2 (.inl hj)
     have h2:=(KE.1 aMG).2;have:j < listed.size:=ao;simp only[cC,jF this,dE]at h1 h2;rw[h1]at h2;cases h2
    ·exact h
   obtain⟨o',ho',hf,s',hg,oX⟩:=hb;obtain rfl:o=o':=by rw[ho]at ho';simpa using ho'
   have Z4:YS ops.size (listed.setIfInBounds i aS)=l1++l2:=by rw[<-hs]at avP ⊢;exact aDD ao avP
   refine((XB hΓ pO hg).mono λa' w' hst'=>ih (listed.setIfInBounds i aS) s' a' w' (by simpa using hs) ?_ ?_ (by rw[Z4];exact oX) hst').wpOpIn ho
   ·rw[Z4];rw[avP]at hl;simp only[aq,aI]at hl ⊢;omega
   ·intro m hm aJz j hj;rw[R3 bq ao];split
    ·rfl
    ·rw[R3 aS ao]at aJz;split at aJz
     ·rename_i aMO;subst aMO;exact aHZ j hj
     ·exact atc m hm aJz j hj
theorem afG{rd:Option Nat}{n:Nat}{C:Ctx}(hm:P.follows .mixedOrders=aS)(hΓ:Sound P Γ){id:Nat}{R:Type}{Q:Exit->Act->World->Prop}{s:AS}{a:Act}{w:World}{k:AS->Option R}{r:R}(h:gw C s a w)(hE:ZD ops.toList=aS)
  (he:XC P Γ bH ops (acq ops.toList) 0 ops.toList [] s k=av r) (hk:∀s' a' w',gw C s' a' w'->k s'=av r->Q .normal a' w'):(Code.region id ops aS).wpIn (Fr rd) n P Q a w:=by
 obtain⟨fs,sn,_,g2,g3,_,g5⟩:=XD ops.toList 0 [] s (λ_=>⟨aF,[],[],[]⟩) (λn o hn=>by simpa using hn) (λ_ hx=>by cases hx) he;refine wpIn_region_any hm ?_
 obtain⟨g,β,h⟩:=h;have hu:YS ops.size (Array.replicate ops.size bq)=List.range' 0 ops.toList.length:=by
  unfold YS;rw[iC.2]
  ·simp[List.range_eq_range']
  ·intro i hi;have hi:i < ops.size:=by simpa using hi
   simp[cC,hi]
 refine aoB (bH:=bH) hΓ hE (fs:=fs) (sn:=sn) (λm1 m2 h1 h2=>g5 m1 m2 (aO _) h1 (by simpa using h2)) (λa' w' hs=>hk sn a' w' hs g3) ops.size _ s a _ (by simp) (by rw[hu];simp) (λi hi hl=> ?_) (by rw[hu];exact g2) ⟨g,β,h.drew⟩;simp[cC,hi]at hl
end
end Go.Ab
namespace Go.Ab
theorem uD{ρ:YW}{s:AS}(h:∀id,(s.obj id).isSome=aS->∀ver,ρ id ver=av (id,ver)):∀(v:aE),v.there s=aS->v.gJ ρ=v
 | .ptr id ver p n,ht=>by simp only[aE.gJ];rw[h id ht]
 | .dj id ver p c i len,ht=>by simp only[aE.gJ];rw[h id ht]
 | .pr a b,ht=>by simp only[aE.there,au]at ht;simp only[aE.gJ];rw[uD h a ht.1,uD h b ht.2]
 | .cons a b,ht=>by simp only[aE.there,au]at ht;simp only[aE.gJ];rw[uD h a ht.1,uD h b ht.2]
 | .fn f c,ht=>by simp only[aE.gJ];rw[uD h c ht]
 | .bx e z c,ht=>by simp only[aE.gJ];rw[uD h c ht]
 | .iy id ver,ht=>by simp only[aE.gJ];rw[h id ht]
 | .yl id ver,ht=>by simp only[aE.gJ];rw[h id ht]
 | .xU k f p,ht=>by simp only[aE.gJ];rw[uD h f ht]
 | .qu ..,ht=>by cases ht
 | .undef,_ | .gone,_ | .cX,_ | .ns,_ | .uq,_ | .zX,_ | .d _ _,_ | .dN _ _,_ | .nil,_ | .vec ..,_ | .mp ..,_ | .sb _,_=>rfl
theorem aEI.aX{E E':Env}(hm:qy E E')(hh:∀b:Nat,E'.w.heap[b]? =E.w.heap[b]?){i q:Id}{ver:Nat}{kt vt:Ty}{rest:List (kt.den×vt.den)}{cur:Option (kt.den×vt.den)}(h:aEI E i q ver kt vt rest cur)(hβ:E'.β i=E.β i)
  (hg:∀pl,E.β i=av pl->E.g pl.b= .own (.id i) 0->E'.g pl.b= .own (.id i) 0)
  (hq:∀vr,ver=vr+1->(E.CU q vr->E'.CU q vr/\(E'.cur q vr->E.cur q vr/\E'.β q=E.β q))/\(∀k v l,E.s q=av (.obj vr aS (.mp k v l))->E'.s q=av (.obj vr aS (.mp k v l)))/\
   ∀pl,E.β q=av pl->E.g pl.b= .own (.id q) 0->E'.g pl.b= .own (.id q) 0):aEI E' i q ver kt vt rest cur:=by
 obtain⟨pl,mb,since,seen,c0,h1,h2,h3,h4⟩:=h;refine⟨pl,mb,since,seen,c0,by rw[hβ,h1],by rw[hh,h2],hg pl h1 h3,λvr ahq=> ?_⟩;obtain⟨h5,h6⟩:=h4 vr ahq;obtain⟨q1,q2,q3⟩:=hq vr ahq;obtain⟨b1,b2⟩:=q1 h5;refine⟨b1,λhc=> ?_⟩;obtain⟨c1,c2⟩:=b2 hc;obtain⟨⟨k,v,l,k0⟩,plq,es,clock,k1,k2,k3,k4,k5,k6,k7,k8,k9⟩:=h6 c1;exact⟨⟨k,v,l,q2 _ _ _ k0⟩,plq,es,clock,by rw[c2,k1],k2,by rw[hh,k3],q3 _ k1 k4,k5,k6,k7,k8.mono hm,λx hx=>
  let⟨e,se,a1,a2,a3,a4⟩:=k9 x hx
  ⟨e,se,a1,a2,a3,a4.mono hm⟩⟩
theorem aiW(c:aE):(∃q ver k v l cu,c= .qu q ver k v l cu)\/(∀ρ kp,c.ar0 ρ kp=c.gJ ρ)/\∀s v fr,dB.there s (.obj v fr c)=c.there s:=by cases c <;> first | exact .inl ⟨_,_,_,_,_,_,rfl⟩ | exact .inr ⟨λ_ _=>rfl,λ_ _ _=>rfl⟩
section
variable {P:aK} {C:Ctx} {g:Nat->kI} {β:Id->Option Pl} {s:AS} {a:Act} {w:World}
theorem Inv.Nt(h:Inv C g β s a w)(hC:C.ok){s1:AS}{g1:Nat->kI}{β1:Id->Option Pl}(ρ:YW)(hlen:s1.cj.length=s.cj.length)(ht:Trans w w g g1)(hle:w9 ρ (s.env w g β) (s1.env w g1 β1))
  (Sb:∀i,VS (s1.env w g1 β1) (s1.slot i) (a.tmps.getD i undef))
  (cI:∀id ver fr c,s1.bU id=av (.obj ver fr c)->sk (s1.env w g1 β1) id fr c\/∃id0 v0 c0,s.bU id0=av (.obj v0 fr c0)/\c0.gJ ρ=c/\β1 id=β id0/\∀pl,β id0=av pl->(∀k,g pl.b= .own (.id id0) k->g1 pl.b= .own (.id id) k)/\(g pl.b= .free->g1 pl.b= .free))
  (hold:∀k,(s.bU (.cl k)≠aF->s1.bU (.cl k)≠aF)/\(∀v fr c,s1.bU (.cl k)=av (.obj v fr c)->∃c0,s.bU (.cl k)=av (.obj v fr c0))/\β1 (.cl k)=β (.cl k)):Inv C g1 β1 s1 a w:=by
 refine⟨h.defers.mono ht,by rw[hlen];exact h.size,Sb,⟨λid ver fr c cR=> ?_,h.bH.gl.mono hle.mem⟩,h.trans.trans ht,?_⟩
 ·rcases cI id ver fr c cR with ho | ⟨id0,v0,c0,h1,h2,h3,h4⟩
  ·exact ho
  have:=tX hle (h.bH id0 v0 fr c0 h1) (id':=id) h3 λpl hp=>⟨rfl,(h4 pl hp).1,(h4 pl hp).2⟩
  rw[h2]at this;exact this
 ·have hl:=h.le;have ho:∀id ver,C.E.CU id ver->∃k,id= .cl k:=λid ver hb=>by
   cases id with
   |cl k=>exact⟨k,rfl⟩
   |new i j=>exact absurd (hC.1 i j) hb.1
  refine⟨hl.mem.trans (Trans.mem (E:=s.env w g β) (E':=s1.env w g1 β1) ht),λid ver hb=> ?_,λid ver hb hc=> ?_⟩
  ·obtain⟨k,rfl⟩:=ho id ver hb;obtain⟨h1,h2⟩:=hl.CU _ ver hb;obtain⟨e1,e2,_⟩:=hold k;exact⟨e1 h1,λv fr c hh=>let⟨c0,Qi⟩:=e2 v fr c hh;h2 v fr c0 Qi⟩
  ·obtain⟨k,rfl⟩:=ho id ver hb;obtain⟨fr,c,hc⟩:=hc;obtain⟨_,e2,e3⟩:=hold k;obtain⟨c0,Qi⟩:=e2 _ _ _ hc;obtain⟨h1,h2⟩:=hl.cur _ ver hb ⟨fr,c0,Qi⟩;exact⟨h1,e3.trans h2⟩
theorem Inv.renamed(h:Inv C g β s a w)(hC:C.ok){s1:AS}{β1:Id->Option Pl}(ρ:YW)(hlen:s1.cj.length=s.cj.length)(hle:w9 ρ (s.env w g β) (s1.env w g β1))
  (Sb:∀i,VS (s1.env w g β1) (s1.slot i) (a.tmps.getD i undef)) (cI:∀id ver fr c,s1.bU id=av (.obj ver fr c)->sk (s1.env w g β1) id fr c\/∃v0,s.bU id=av (.obj v0 fr c)/\c.gJ ρ=c/\β1 id=β id)
  (hold:∀k,s1.bU (.cl k)=s.bU (.cl k)/\β1 (.cl k)=β (.cl k)):Inv C g β1 s1 a w:=
 h.Nt hC ρ hlen (Trans.refl w g) hle Sb (λid ver fr c cR=>(cI id ver fr c cR).imp (λh=>h) λ⟨v0,h1,h2,h3⟩=>⟨id,v0,c,h1,h2,h3,λ_ _=>⟨λ_ h=>h,λh=>h⟩⟩)
  λk=>⟨λhh=>by rw[(hold k).1];exact hh,λv fr c hh=>⟨c,(hold k).1.symm.trans hh⟩,(hold k).2⟩
theorem Inv.aI2(h:Inv C g β s a w)(j:Nat){v:aE}(hv:VS (s.env w g β) v (a.tmps.getD j undef)):Inv C g β (s.put (av j) v) a w:=by
 refine⟨h.defers,by simpa[AS.put]using h.size,λi=> ?_,by simpa using h.bH,h.trans,by simpa using h.le⟩;rw[ZF,Uk];split
 ·rename_i aKn;rw[aKn.1];exact hv
 ·exact h.cj i
theorem NK(aX:List Nat):∀(l:List aE) (n i:Nat),(eg aX n l).getD i .undef= .undef\/(eg aX n l).getD i .undef=l.getD i .undef
 |[],n,i=>by simp[eg]
 |v::l,n,0=>by
  simp only[eg,iD];split
  ·exact .inr rfl
  ·exact .inl rfl
 |v::l,n,i+1=>by simp only[eg,oD];exact NK aX l (n+1) i
theorem zU(aX:List Nat):∀(l:List aE) (n:Nat),(eg aX n l).length=l.length
 |[],n=>rfl
 |v::l,n=>by simp[eg,zU aX l]
theorem YC(aX:List Nat):∀(l:List (List dB)) (n i:Nat),(mu aX n l).getD i []=[]\/(mu aX n l).getD i []=l.getD i []
 |[],n,i=>by simp[mu]
 |v::l,n,0=>by
  simp only[mu,iD];split
  ·exact .inr rfl
  ·exact .inl rfl
 |v::l,n,i+1=>by simp only[mu,oD];exact YC aX l (n+1) i
theorem aqX{s:AS}(i:Nat):s.slot i= .undef\/s.slot i∈s.cj:=by
 unfold AS.slot;rw[List.getD_eq_getElem?_getD];cases h:s.cj[i]? with
 |none=>exact .inl rfl
 |some v=>exact .inr (cH h)
theorem aAU{s:AS}{id:Id}{e:dB}(h:s.bU id=av e):e∈s.bS\/∃es∈s.news,e∈es:=by
 cases id with
 |cl k=>exact .inl (cH h)
 |new i j=>
  simp only[AS.bU,List.getD_eq_getElem?_getD]at h;cases hi:s.news[i]? with
  |none=>rw[hi]at h;simp at h
  |some es=>rw[hi]at h;exact .inr ⟨es,cH hi,cH h⟩
theorem Inv.aX(h:Inv C g β s a w)(hC:C.ok){an:nP}(ht:(Kr an s).acn=aS):Inv C g β (Kr an s) a w:=by
 obtain⟨ks,kt,_,_,_⟩:=an;obtain⟨s1,A7⟩:∃s1:AS,s1= {cj:=eg ks 0 s.cj,bS:=s.bS,news:=mu kt 0 s.news}:=⟨_,rfl⟩;have e1:s1.cj=eg ks 0 s.cj:=by rw[A7]
 have e2:s1.bS=s.bS:=by rw[A7]
 have e3:s1.news=mu kt 0 s.news:=by rw[A7]
 have ht:(s1.cj.all (aE.there s1) && s1.bS.all (dB.there s1) && s1.news.all λes=>es.all (dB.there s1))=aS:=by rw[A7];exact ht
 show Inv C g β {cj:=eg ks 0 s.cj,bS:=s.bS,news:=mu kt 0 s.news} a w;rw[<-A7];rw[au,au]at ht;obtain⟨⟨t1,t2⟩,t3⟩:=ht;have cI:∀id,s1.bU id=aF\/s1.bU id=s.bU id:=λid=>by
  cases id with
  |cl k=>right;simp only[AS.bU,e2]
  |new i j=>
   simp only[AS.bU,e3];rcases YC kt s.news 0 i with h | h
   ·rw[h];exact .inl rfl
   ·rw[h];exact .inr rfl
 have aBn:∀id,(s1.obj id).isSome=aS->s1.bU id=s.bU id:=λid hi=>by
  rcases cI id with h | h
  ·simp[AS.obj,h]at hi
  ·exact h
 let ρ:YW:=λid ver=>if(s1.obj id).isSome=aS then av (id,ver) else aF
 have hρ:∀v:aE,v.there s1=aS->v.gJ ρ=v:=uD λid cR ver=>if_pos cR
 have hle:w9 ρ (s.env w g β) (s1.env w g β):=by
  refine⟨⟨λ_ _ _ h=>h,λ_ _ h h'=>⟨h,h'⟩⟩,λid ver r hr hb=> ?_⟩;by_cases hi:(s1.obj id).isSome=aS
  ·have:ρ id ver=av (id,ver):=if_pos hi;rw[this,aB]at hr;subst hr;have e:=aBn id hi;obtain⟨b1,b2⟩:=hb;exact⟨⟨by show s1.bU id≠aF;rw[e];exact b1,λv fr c hh=>b2 v fr c (e.symm.trans hh)⟩,λ⟨fr,c,hc⟩=>⟨⟨fr,c,e.symm.trans hc⟩,rfl⟩⟩
  ·have:ρ id ver=aF:=if_neg hi;rw[this]at hr;cases hr
 refine h.renamed hC ρ (by rw[e1,zU]) hle (λi=> ?_) (λid ver fr c cR=> ?_) λk=>⟨by simp only[AS.bU,e2],rfl⟩
 ·rcases aqX (s:=s1) i with hi | hi
  ·rw[hi];exact VS.undef
  ·have aKU:=cS.1 t1 _ hi;rcases NK ks s.cj 0 i with h1 | h1
   ·have:s1.slot i= .undef:=by simp only[AS.slot,e1,h1]
    rw[this];exact VS.undef
   ·have:s1.slot i=s.slot i:=by simp only[AS.slot,e1,h1]
    have hv:=DC hle (h.cj i);rw[<-this,hρ _ aKU]at hv;exact hv
 ·have:s1.bU id=s.bU id:=by
   rcases cI id with h | h
   ·rw[h]at cR;cases cR
   ·exact h
  have hc:dB.there s1 (.obj ver fr c)=aS:=by
   rcases aAU cR with h | ⟨es,h1,h2⟩
   ·exact cS.1 t2 _ h
   ·exact cS.1 (cS.1 t3 _ h1) _ h2
  rcases aiW c with⟨q,vq,k,v,l,cu,rfl⟩ | ⟨_,aKU⟩
  ·have e:=aBn q hc;refine .inl (aEI.aX hle.mem (λ_=>rfl) (h.bH id ver fr _ (this.symm.trans cR)) rfl (λ_ _ h=>h) λvr _=>⟨λhb=>hle.ref q vr (q,vr) (if_pos hc) hb,λk v l hk=>e.trans hk,λ_ _ h=>h⟩)
  ·rw[aKU]at hc;exact .inr ⟨ver,this.symm.trans cR,hρ c hc,rfl⟩
theorem Inv.drop(h:Inv C g β s a w)(ks:List Nat):Inv C g β (s.drop ks) a w:=by
 refine⟨h.defers,by simpa[AS.drop,zU]using h.size,λi=> ?_,h.bH,h.trans,h.le⟩;rcases NK ks s.cj 0 i with h1 | h1
 ·have:(s.drop ks).slot i= .undef:=h1;rw[this];exact VS.undef
 ·have:(s.drop ks).slot i=s.slot i:=h1;rw[this];exact h.cj i
def Ck(b q:Nat):kI->kI
 | .own (.id (.new x j)) k=>if x=b then .own (.id (.new q j)) k else .own (.id (.new x j)) k
 |l=>l
theorem Trans.aI1(w:World)(g:Nat->kI)(b q:Nat):Trans w w g λx=>Ck b q (g x):=by
 refine⟨rfl,rfl,⟨rfl,aC _⟩,aC _,λy _=> ?_⟩;cases hg:g y with
 |free=>exact⟨by simp[Ck],rfl⟩
 |own o k=>cases o with
  |dY=>exact⟨by simp[Ck],rfl⟩
  |id x=>
   refine⟨.inr ?_,λ_ _ _ h=>h⟩;cases x with
   |cl m=>exact⟨_,_,rfl,aC _⟩
   |new x j=>
    simp only[Ck];split
    ·exact⟨_,_,rfl,aC _⟩
    ·exact⟨_,_,rfl,aC _⟩
theorem Uj(f:aE->aE)(hf:f .undef= .undef)(l:List aE)(i:Nat):(l.map f).getD i .undef=f (l.getD i .undef):=by simp only[List.getD_eq_getElem?_getD,List.getElem?_map];cases l[i]? <;> simp[hf]
theorem Inv.ET(h:Inv C g β s a w)(hC:C.ok){b q:Nat}(aDS:b < s.news.length)(aKL:q < s.news.length):
  ∃g1 β1,Inv C g1 β1 (s.ET b q (s.news.getD b [])) a w:=by
 generalize aMx:s.news.getD b []=es;have aId:∀j,s.bU (.new b j)=es[j]? :=λj=>by rw[<-aMx];rfl
 let ρ:YW:=K9 es b q
 let s1:=s.ET b q es
 have ln:∀j',s1.bU (.new q j')=(es[j']?).map (dB.akD ρ):=λj'=>by simp[s1,AS.ET,AS.bU,List.getD_eq_getElem?_getD,aKL,ρ]
 have aIj:b≠q->∀j',s1.bU (.new b j')=aF:=λaFk j'=>by
  have hbq':¬q=b:=λe=>aFk e.symm
  simp only[s1,AS.ET,AS.bU,List.getD_eq_getElem?_getD];rw[dO hbq',List.getElem?_set,if_pos rfl];split <;> simp
 have PU:∀i,(∀j',i≠ .new q j')->(∀j',i≠ .new b j')->s1.bU i=(s.bU i).map (dB.We ρ (F1 b q)):=λi hi hi'=>by
  cases i with
  |cl k=>simp[s1,AS.ET,AS.bU,ρ]
  |new x y=>
   have h1:¬q=x:=λe=>hi y (by rw[e])
   have h2:¬b=x:=λe=>hi' y (by rw[e])
   simp only[s1,AS.ET,AS.bU,List.getD_eq_getElem?_getD];rw[dO h1,dO h2,List.getElem?_map];cases s.news[x]? <;> simp[ρ]
 let g1:Nat->kI:=λx=>Ck b q (g x)
 let β1:Id->Option Pl:=λi=>match i with | .new x j=>if x=q then β (.new b j) else β (.new x j) | .cl k=>β (.cl k)
 have hβ1:∀i,(∀j',i≠ .new q j')->β1 i=β i:=λi hi=>by
  cases i with
  |cl k=>rfl
  |new x y=>exact if_neg λe=>hi y (by rw[e])
 have ht:Trans w w g g1:=Trans.aI1 w g _ _;have hρ:∀i ver r,ρ i ver=av r->(∃j fr c,i= .new b j/\es[j]? =av (.obj ver fr c)/\r=(.new q j,0))\/((∀j',i≠ .new q j')/\(∀j',i≠ .new b j')/\r=(i,ver)):=λi ver r hr=>by
  replace hr:K9 es b q i ver=av r:=hr
  cases i with
  |cl k=>exact .inr ⟨λ_=>by simp,λ_=>by simp,(Option.some.inj hr).symm⟩
  |new x j=>
   unfold K9 at hr;simp only at hr;split at hr
   ·rename_i hx;have hx:x=b:=by simpa using hx
    subst hx;split at hr
    ·rename_i v fr c he;split at hr
     ·rename_i hv;have hv:ver=v:=by simpa using hv
      subst hv;exact .inl ⟨j,fr,c,rfl,he,(Option.some.inj hr).symm⟩
     ·cases hr
    ·cases hr
   ·rename_i hx;have hx:¬x=b:=by simpa using hx
    split at hr
    ·cases hr
    ·rename_i hx';have hx':¬x=q:=by simpa using hx'
     exact .inr ⟨λ_ e=>hx' (by injection e),λ_ e=>hx (by injection e),(Option.some.inj hr).symm⟩
 have hle:w9 ρ (s.env w g β) (s1.env w g1 β1):=by
  refine⟨Trans.mem (E:=s.env w g β) (E':=s1.env w g1 β1) ht,λi ver r hr aix=> ?_⟩;rcases hρ i ver r hr with⟨j,fr,c,rfl,he,rfl⟩ | ⟨hi,hi',rfl⟩
  ·refine⟨⟨by show s1.bU (.new q j)≠aF;rw[ln,he];simp,λ_ _ _ _=>aO _⟩,λ_=>⟨⟨fr,c,(aId j).trans he⟩,if_pos rfl⟩⟩
  ·obtain⟨k1,k2⟩:=aix;have k1:s.bU i≠aF:=k1;have e:s1.bU i=(s.bU i).map (dB.We ρ (F1 b q)):=PU i hi hi';have back:∀v' fr' c',s1.bU i=av (.obj v' fr' c')->∃c0,s.bU i=av (.obj v' fr' c0):=λv' fr' c' hh=>by
    rw[e]at hh;cases hs:s.bU i with
    |none=>exact absurd hs k1
    |some en=>
     rw[hs]at hh;cases en with
     |dead=>simp[dB.We]at hh
     |obj v0 fr0 c0=>
      simp only[da,dB.We,aB,dB.obj.injEq]at hh;obtain⟨rfl,rfl,_⟩:=hh;exact⟨c0,rfl⟩
   refine⟨⟨by
    show s1.bU i≠aF;rw[e];cases hs:s.bU i with
    |none=>exact absurd hs k1
    |some en=>simp,λv' fr' c' hh=> ?_⟩,λ⟨fr',c',hh⟩=> ?_⟩
   ·obtain⟨c0,Qi⟩:=back v' fr' c' hh;exact k2 v' fr' c0 Qi
   ·obtain⟨c0,Qi⟩:=back ver fr' c' hh;exact⟨⟨fr',c0,Qi⟩,hβ1 i hi⟩
 have aJv:∀(i:Id),(∀j',i≠ .new b j')->∀(x:Nat) (k:Nat),g x= .own (.id i) k->g1 x= .own (.id i) k:=λi hi x k hk=>by
  show Ck b q (g x)=_;rw[hk];cases i with
  |cl m=>rfl
  |new y j=>exact if_neg λe=>hi j (by rw[e])
 refine⟨g1,β1,h.Nt hC ρ (by simp[AS.ET]) ht hle (λi=> ?_) (λid ver fr' c' cR=> ?_) λk=>⟨λhk=> ?_,λv' fr' c' hh=> ?_,rfl⟩⟩
 ·have:(s.ET b q es).slot i=(s.slot i).gJ ρ:=Uj _ rfl _ _;rw[this];exact DC hle (h.cj i)
 ·have cR:s1.bU id=av (.obj ver fr' c'):=cR;by_cases hi:∃j',id= .new q j'
  ·obtain⟨j',rfl⟩:=hi;rw[ln]at cR;cases he:es[j']? with
   |none=>rw[he]at cR;cases cR
   |some en=>
    rw[he]at cR;cases en with
    |dead=>simp[dB.akD]at cR
    |obj v0 fr0 c0=>
     simp only[da,dB.akD,aB,dB.obj.injEq]at cR;obtain⟨_,rfl,rfl⟩:=cR;exact .inr ⟨.new b j',v0,c0,(aId j').trans he,rfl,if_pos rfl,λpl hp=>⟨λk hk=>by
      show Ck b q (g pl.b)=_;rw[hk];exact if_pos rfl,λhk=>by
      show Ck b q (g pl.b)=_;rw[hk];rfl⟩⟩
  ·by_cases hi':∃j',id= .new b j'
   ·obtain⟨j',rfl⟩:=hi';have aFk:b≠q:=λe=>hi ⟨j',by rw[e]⟩
    rw[aIj aFk]at cR;cases cR
   ·have aJB:∀j',id≠ .new q j':=λj' e=>hi ⟨j',e⟩
    have hni':∀j',id≠ .new b j':=λj' e=>hi' ⟨j',e⟩
    have e:=PU id aJB hni';rw[e]at cR;cases hs:s.bU id with
    |none=>rw[hs]at cR;cases cR
    |some en=>
     rw[hs]at cR;cases en with
     |dead=>simp[dB.We]at cR
     |obj v0 fr0 c0=>
      simp only[da,dB.We,aB,dB.obj.injEq]at cR;obtain⟨rfl,rfl,rfl⟩:=cR;rcases aiW c0 with⟨q2,vq,k,v2,l,cu,rfl⟩ | ⟨aFE,_⟩
      ·have h0:=h.bH id v0 fr0 _ hs;left;simp only[aE.ar0];cases aJy:F1 b q q2 with
       |true=>
        have adL:(∀j',q2≠ .new b j')/\(∀j',q2≠ .new q j')/\∀vr,ρ q2 vr=av (q2,vr):=by
         cases q2 with
         |cl k=>exact⟨λ_=>by simp,λ_=>by simp,λ_=>rfl⟩
         |new x y=>
          simp only[F1,au,cr,decide_eq_false_iff_not]at aJy;obtain⟨k1,k2⟩:=aJy;refine⟨λ_ e=>k1 (by injection e),λ_ e=>k2 (by injection e),λvr=> ?_⟩;show K9 es b q (.new x y) vr=_;unfold K9;simp only[decide_eq_false k1,decide_eq_false k2]
        obtain⟨adL,ahn,hρq⟩:=adL;refine aEI.aX hle.mem (λ_=>rfl) h0 (hβ1 id aJB) (λpl _ hk=>aJv id hni' _ _ hk) λvr _=>⟨λhb=>hle.ref q2 vr (q2,vr) (hρq vr) hb,λk v l hk=> ?_,λpl _ hk=>aJv q2 adL _ _ hk⟩
        have hk:s.bU q2=av (.obj vr aS (.mp k v l)):=hk;show s1.bU q2=_;rw[PU q2 ahn adL,hk];rfl
       |false=>
        obtain⟨pl,mb,since,seen,c0,h1,h2,h3,h4⟩:=h0;exact⟨pl,mb,since,seen,c0,(hβ1 id aJB).trans h1,h2,aJv id hni' _ _ h3,λvr ahq=>ao⟩
      rw[aFE];exact .inr ⟨id,v0,c0,hs,rfl,hβ1 id aJB,λpl hp=>⟨λk hk=>aJv id hni' _ _ hk,λhk=>by
       show Ck b q (g pl.b)=_;rw[hk];rfl⟩⟩
 ·have e:=PU (.cl k) (λ_=>by simp) (λ_=>by simp);show s1.bU (.cl k)≠aF;rw[e];cases hs:s.bU (.cl k) with
  |none=>exact absurd hs hk
  |some en=>simp
 ·have e:=PU (.cl k) (λ_=>by simp) (λ_=>by simp);have hh:s1.bU (.cl k)=av (.obj v' fr' c'):=hh;rw[e]at hh;cases hs:s.bU (.cl k) with
  |none=>rw[hs]at hh;cases hh
  |some en=>
   rw[hs]at hh;cases en with
   |dead=>simp[dB.We]at hh
   |obj v0 fr0 c0=>
    simp only[da,dB.We,aB,dB.obj.injEq]at hh;obtain⟨rfl,rfl,_⟩:=hh;exact⟨c0,rfl⟩
theorem U0{k t:Ty}{l:List (k.den×t.den)}:∀ {p:List Gm} {x c':aE},¬(vm (.mp k t l) p x).eval=av c'
 |[],x,c',h=>by simp only[vm,aw]at h
 | .arr::p,x,c',h=>by simp only[vm]at h;exact U0 h
 | .idx i::p,x,c',h=>by simp only[vm,aw]at h
 | .fst::p,x,c',h=>by simp only[vm,aw]at h
 | .snd::p,x,c',h=>by simp only[vm,aw]at h
theorem abY{q:Id}{vq:Nat}{k t:Ty}{l:List (k.den×t.den)}{cu:Option (k.den×t.den)}:∀ {p:List Gm} {x c':aE},¬(vm (.qu q vq k t l cu) p x).eval=av c'
 |[],x,c',h=>by simp only[vm,aw]at h
 | .arr::p,x,c',h=>by simp only[vm]at h;exact abY h
 | .idx i::p,x,c',h=>by simp only[vm,aw]at h
 | .fst::p,x,c',h=>by simp only[vm,aw]at h
 | .snd::p,x,c',h=>by simp only[vm,aw]at h
theorem abZ{k:sA}{f:aE}{m:Nat}:∀ {p:List Gm} {x c':aE},¬(vm (.xU k f m) p x).eval=av c'
 |[],x,c',h=>by simp only[vm,aw]at h
 | .arr::p,x,c',h=>by simp only[vm]at h;exact abZ h
 | .idx i::p,x,c',h=>by simp only[vm,aw]at h
 | .fst::p,x,c',h=>by simp only[vm,aw]at h
 | .snd::p,x,c',h=>by simp only[vm,aw]at h
theorem Pz{l:List Value}{n:Nat}{vs:List Value}(h:(l.drop n).take vs.length=vs):dm l n vs=l:=by
 unfold dm;have h2:l.drop n=vs++l.drop (n+vs.length):=by
  conv=>lhs;rw[<-dH vs.length (l.drop n)]
  rw[h,fi]
 have h3:=dH n l;rw[h2]at h3;simpa[bh]using h3
theorem Inv.aIV(h:Inv C g β s a w){j:Nat}{p:List Gm}(PT:(s.at j p).eval=av .cX){q:Nat}(hq:s.dM q=aS){e:TypeId}{t:Ty}(hz:0 < t.size){s':AS}
  (he:((s.born q [.obj 0 bq (.vec e t [])]).putAt j (.dj (.new q 0) 0 [] 0 0 0) p).eval=av s'):gw C s' a w:=by
 obtain⟨β',h1,h2,h3⟩:=h.axx hq (e:=e) hz;cases p with
 |nil=>
  simp only[AS.at]at PT;have hj:=aA.1 PT;simp only[AS.putAt]at he;obtain rfl:=aA.1 he;refine⟨g,β',h1.aI2 j ?_⟩;have:=h.cj j;rw[hj]at this;rw[j4 this];exact h3
 |cons st p=>
  simp only[AS.at]at PT;simp only[AS.putAt]at he;have Sb:(s.born q [.obj 0 bq (.vec e t [])]).slot j=s.slot j:=rfl;rw[Sb]at he;split at PT
  ·rename_i id ver p0 nn hj;split at PT
   ·rename_i v fr c la;obtain⟨hv,PT⟩:=aH.1 PT;obtain⟨⟨n,u⟩,hl,PT⟩:=az.1 PT;have hu:=aA.1 PT;simp only at hu;subst hu;have cI:=dQ la;have gW:id≠ .new q 0:=λe=>by rw[e,(ju hq).1 0]at cI;cases cI
    have hne':∀j',id≠ .new q j':=λj' e=>by rw[e,(ju hq).1 j']at cI;cases cI
    have vg:(s.born q [.obj 0 bq (.vec e t [])]).bU id=av (.obj v fr c):=(hZ _ hne').trans cI;have aFy:(s.born q [.obj 0 bq (.vec e t [])]).obj id=av (v,fr,c):=by simp only[AS.obj,vg]
    simp only[hj,aFy]at he;split at he
    ·simp only[aw]at he
    ·rename_i c1 aJ9;obtain⟨c',PV,he⟩:=az.1 he;obtain rfl:=aA.1 he;have hn:c.gI=bq:=by cases c <;> first | rfl | (exact(aJ9 _ _ _ rfl).elim) | (exact absurd PV U0) | (exact absurd PV abY) | (exact absurd PV abZ)
     have hO:=h1.bH id v fr c vg;obtain⟨pl,cur,e0,hp,hh,hg,hk,hV⟩:=hO.box hn;have ht:=Trans.refl w g;have hN:=P8 hk;have hle:=cE.aY (s:=s.born q [.obj 0 bq (.vec e t [])]) (β:=β') (v':=v) (fr':=fr) (c':=c.wrap c') vg (aC _) ht (λ_ _=>rfl) (λ_=>rfl);refine⟨g,β',h1.step (cY _ _ _) ht hle (gN.aY h1.bH (by rw[vg];simp) hle (λ_ _=>rfl) (λ_ _ _ _ _ _ _ _=>⟨rfl,rfl⟩) ?_ (nY vg λk v1 l e=>by subst e;exact absurd PV U0))⟩;obtain⟨cs,k1,k2⟩:=h3;have k2:cs=[.slice aF 0 0]:=k2;subst k2;obtain⟨u1,u2,u3⟩:=oB (p0++st::p) c.strip (cur.toList.take (c.uT cur.size)) n .cX _ c' [.slice aF 0 0] (VO.of hV) hl k1 PV;have u4:=u2.to (u3.ra hV.ra);have D7:((cur.toList.take (c.uT cur.size)).drop n).take 1=[.slice aF 0 0]:=by
      rcases qg (p0++st::p) c.strip (cur.toList.take (c.uT cur.size)) n .cX (VO.of hV) hl with⟨aFx,Qi⟩ | ⟨q1,q2⟩
      ·rw[<-Qi]at hV;simp only[V]at hV;rw[hV,aFx];rfl
      ·simpa only[V,aE.size]using q1
     rw[Pz (vs:=[.slice aF 0 0]) D7]at u4;have sh:c'.size=c.strip.size:=by have e1:=u4.size;have e2:=hV.size;omega
     exact Md.obj ⟨pl,cur,e0,hp,hh,hg,HH hk u4.xM sh,by rw[IX c u4.xM,Mk u4.xM sh];exact V.mono hle u4⟩
   ·simp only[aw]at PT
  ·simp only[aw]at PT
theorem GW:∀(ids:List Id) {s:AS} {i:Id} {v:Nat} {fr:Bool} {c:aE},s.bU i=av (.obj v fr c)->∃fr',(s.bn ids).bU i=av (.obj v fr' c)
 |[],s,i,v,fr,c,h=>⟨fr,h⟩
 |id::ids,s,i,v,fr,c,h=>by obtain⟨fr',h'⟩:=RN (id:=id) h;exact GW ids h'
theorem Inv.aHJ(h:Inv C g β s a w){j:Nat}{p:List Gm}{u:aE}(PT:(s.at j p).eval=av u){t:Ty}{x:t.den}(ht:(s.im t u).eval=av x){s':AS}
  (he:((s.bn u.shared).putAt j (.d t x) p).eval=av s'):gw C s' a w:=by
 cases p with
 |nil=>
  simp only[AS.at]at PT;have hj:=aA.1 PT;simp only[AS.putAt]at he;obtain rfl:=aA.1 he;have hs:=h.cj j;rw[hj]at hs;obtain⟨g',i1,_,_,cs,hR,hO⟩:=yq h hs ht;exact⟨g',β,i1.aI2 j (VS.of (a:= .d t x) (cs:=cs) (by simpa only[V]using hR) hO)⟩
 |cons st p=>
  simp only[AS.at]at PT;simp only[AS.putAt]at he;have Sb:(s.bn u.shared).slot j=s.slot j:=by simp only[AS.slot,ml]
  rw[Sb]at he;split at PT
  ·rename_i id ver p0 nn hj;split at PT
   ·rename_i v fr c la;obtain⟨hv,PT⟩:=aH.1 PT;obtain⟨⟨n,u'⟩,hl,PT⟩:=az.1 PT;have hu:=aA.1 PT;simp only at hu;subst hu;have cI:=dQ la;obtain⟨g',h1,h2,h3,h4⟩:=eS u'.shared h;obtain⟨fr',vg⟩:=GW u'.shared cI;have aFy:(s.bn u'.shared).obj id=av (v,fr',c):=by simp only[AS.obj,vg]
    simp only[hj,aFy]at he;split at he
    ·simp only[aw]at he
    ·rename_i c1 aJ9;obtain⟨c',PV,he⟩:=az.1 he;obtain rfl:=aA.1 he;have hn:c.gI=bq:=by cases c <;> first | rfl | (exact(aJ9 _ _ _ rfl).elim) | (exact absurd PV U0) | (exact absurd PV abY) | (exact absurd PV abZ)
     obtain⟨pl0,cur0,e00,aFA,aFq,aKg,aKr,hV0⟩:=(h.bH id v fr c cI).box hn;obtain⟨pl,cur,e0,hp,hh,hg,hk,hV⟩:=(h1.bH id v fr' c vg).box hn;have FQ:pl0=pl:=by have aFA:β id=av pl0:=aFA;have hp:β id=av pl:=hp;rw[aFA]at hp;exact Option.some.inj hp
     subst FQ;have ff:cur0=cur:=by
      have aFq:w.heap[pl0.b]? =_:=aFq
      have hh:w.heap[pl0.b]? =_:=hh
      rw[aFq]at hh;simpa using(cf (λo=>match o with | some (.cells x _ _)=>x | _=>cur0) hh)
     subst ff;obtain⟨cs,hVu,D7⟩:∃cs,V (s.env w g β) u' cs/\((cur0.toList.take (c.uT cur0.size)).drop n).take cs.length=cs:=by
      rcases qg (p0++st::p) c.strip (cur0.toList.take (c.uT cur0.size)) n u' (VO.of hV0) hl with⟨aFx,Qi⟩ | ⟨q1,q2⟩
      ·refine⟨cur0.toList.take (c.uT cur0.size),by rw[Qi];exact hV0,?_⟩;rw[aFx,aL,bK]
      ·refine⟨_,q1,?_⟩;rw[dD,eK];congr 1;omega
     have hR:=uK rfl h.bH h2 u' t x cs hVu ht h4;have hVx:V ((s.bn u'.shared).env w g' β) (.d t x) cs:=by simpa only[V]using hR
     have ht':=Trans.refl w g';have hle:=cE.aY (s:=s.bn u'.shared) (β:=β) (v':=v) (fr':=fr') (c':=c.wrap c') vg (aC _) ht' (λ_ _=>rfl) (λ_=>rfl);refine⟨g',β,h1.step (cY _ _ _) ht' hle (gN.aY h1.bH (by rw[vg];simp) hle (λ_ _=>rfl) (λ_ _ _ _ _ _ _ _=>⟨rfl,rfl⟩) ?_ (nY vg λk v1 l e=>by subst e;exact absurd PV U0))⟩;obtain⟨u1,u2,u3⟩:=oB (p0++st::p) c.strip (cur0.toList.take (c.uT cur0.size)) n u' _ c' cs (VO.of hV) hl hVx PV;have u4:=u2.to (u3.ra hV.ra);rw[Pz (vs:=cs) D7]at u4;have sh:c'.size=c.strip.size:=by have e1:=u4.size;have e2:=hV.size;omega
     exact Md.obj ⟨pl0,cur0,e0,hp,hh,hg,HH hk u4.xM sh,by rw[IX c u4.xM,Mk u4.xM sh];exact V.mono hle u4⟩
   ·simp only[aw]at PT
  ·simp only[aw]at PT
theorem H3{E:Env}:∀(t:Ty) (x:t.den) (u:aE),(JY t x).eval=av u->∀cs,cV E t cs x->V E u cs
 | .gE t,x,u,h,cs,hr=>by simp only[JY]at h;obtain⟨h1,h2⟩:=bQ.1 h;obtain rfl:=aA.1 h2;simp only[cV]at hr;simp only[V];exact hr.1 (Option.isNone_iff_eq_none.1 h1)
 | .pair a b,x,u,h,cs,hr=>by simp only[JY]at h;obtain⟨u1,h1,h2⟩:=az.1 h;obtain⟨u2,h3,h4⟩:=az.1 h2;obtain rfl:=aA.1 h4;simp only[cV]at hr;obtain⟨ca,cb,rfl,ha,hb⟩:=hr;exact ahy (H3 a x.1 u1 h1 ca ha) (H3 b x.2 u2 h3 cb hb)
 | .int k,x,u,h,cs,hr=>by simp only[JY]at h;obtain rfl:=aA.1 h;simpa only[V]using hr
 | .bool,x,u,h,cs,hr=>by simp only[JY]at h;obtain rfl:=aA.1 h;simpa only[V]using hr
 | .str,x,u,h,cs,hr=>by simp only[JY]at h;obtain rfl:=aA.1 h;simpa only[V]using hr
 | .slice t,x,u,h,cs,hr=>by simp only[JY]at h;obtain rfl:=aA.1 h;simpa only[V]using hr
 | .unit,x,u,h,cs,hr=>by simp only[JY]at h;obtain rfl:=aA.1 h;simpa only[V]using hr
 | .arr n t,x,u,h,cs,hr=>by simp only[JY]at h;obtain rfl:=aA.1 h;simpa only[V]using hr
 | .gm t,x,u,h,cs,hr=>by simp only[JY]at h;obtain rfl:=aA.1 h;simpa only[V]using hr
theorem aoN{e:TypeId}{z:Nat}{c:aE}{pl:Pl}{n:Nat}(hz:0 < z)(h1:n=pl.cap*z)(h2:pl.cap<=maxLen)(h3:c.size<=n):(aE.bx e z c).DK pl n e:=by
 cases z with
 |zero=>omega
 |succ z=>exact⟨rfl,h1,h2,h3⟩
theorem acE{e:TypeId}{z:Nat}{c:aE}{n:Nat}(hz:0 < z):(aE.bx e z c).uT n=c.size:=by
 cases z with
 |zero=>omega
 |succ z=>rfl
theorem aaV{e e':TypeId}{z:Nat}{c:aE}{pl:Pl}{n:Nat}(hz:0 < z)(h:(aE.bx e z c).DK pl n e'):e'=e/\n=pl.cap*z/\pl.cap<=maxLen/\c.size<=n:=by
 cases z with
 |zero=>omega
 |succ z=>exact h
theorem afv{E:Env}{id:Id}{ver n:Nat}{p p':List Gm}{y:Value}(h:VS E (.ptr id ver p n) y):VS E (.ptr id ver p' n) y:=by obtain⟨cs,h1,h2⟩:=h;exact⟨cs,by simpa only[V]using h1,h2⟩
theorem Inv.aHO(h:Inv C g β s a w){j:Nat}{id:Id}{ver n k v:Nat}{p p':List Gm}(hj:s.slot j= .ptr id ver p n){e:TypeId}{t:Ty}{r:List t.den}(la:s.obj id=av (v,bq,.vec e t r))
  (hk:k < r.length) {u:aE} (hu:(JY t (nth t r k)).eval=av u):
  gw C ((s.aY id (.obj v bq (.bx e t.size (.pr (.d (.arr k t) (r.take k)) (.pr u (.d (.arr (r.drop (k+1)).length t) (r.drop (k+1)))))))).put (av j) (.ptr id ver p' n)) a w:=by
 have cI:=dQ la;obtain⟨hz,hO⟩:sk (s.env w g β) id bq (.vec e t r):=h.bH id v bq _ cI;have hO:(match β id with
  |none=>r=[]
  |some pl=>∃cur k,w.heap[pl.b]? =av (.cells cur e (0,0))/\cur.size=pl.cap*t.size/\r.length<=pl.cap/\pl.cap<=maxLen/\g pl.b= .own (.id id) k/\
    k<=r.length*t.size/\(bq=bq->k=0)/\bp (cV (s.env w g β) t) (cur.toList.take (r.length*t.size)) r):=hO
 have ht:=Trans.refl w g
 have hle:cE (s.env w g β) ((s.aY id (.obj v bq (.bx e t.size (.pr (.d (.arr k t) (r.take k)) (.pr u (.d (.arr (r.drop (k+1)).length t) (r.drop (k+1)))))))).env w g β):=
  cE.aY cI (aC _) ht (λ_ _=>rfl) (λ_=>rfl)
 have hI:=h.step (cY _ _ _) ht hle (gN.aY h.bH (by rw[cI];simp) hle (λ_ _=>rfl) (λ_ _ _ _ _ _ _ _=>⟨rfl,rfl⟩) (avG:=Kw cI) (by
  cases hp:β id with
  |none=>rw[hp]at hO;simp only at hO;subst hO;simp at hk
  |some pl=>
   rw[hp]at hO;obtain⟨cur,k0,q1,q2,q3,q4,q5,q6,q7,q8⟩:=hO;have aKr:=q7 rfl;subst aKr;have aht:∀c x,cV (s.env w g β) t c x->c.length=t.size:=λc x hx=>hx.size
   have c1:=bp.take aht k q8;have c2:=(q8.get aht k hk);have c3:=bp.drop aht (k+1) q8;have ab8:V (s.env w g β) u (((cur.toList.take (r.length*t.size)).drop (k*t.size)).take t.size):=H3 t _ u (by rw[Tf hk]at hu;exact hu) _ c2;have aNb:=ab8.size;have hlen:(cur.toList.take (r.length*t.size)).length=r.length*t.size:=bp.length aht q8;have sh:r.length*t.size<=cur.size:=by rw[q2];exact cW _ q3
   have aN8:(k+1)*t.size<=r.length*t.size:=cW _ hk;have adL:(k+1)*t.size=k*t.size+t.size:=Nat.succ_mul k t.size;have aFH:u.size=t.size:=by rw[<-aNb,dD,eK,hlen];omega
   have hm:(r.drop (k+1)).length*t.size=r.length*t.size - (k+1)*t.size:=by rw[eK,Nat.sub_mul]
   have ap1:(aE.pr (.d (.arr k t) (r.take k)) (.pr u (.d (.arr (r.drop (k+1)).length t) (r.drop (k+1))))).size=r.length*t.size:=by simp only[aE.size,Ty.size,aFH,hm];omega
   refine Md.obj ⟨pl,cur,e,hp,q1,q5,aoN hz q2 q4 (by rw[ap1];exact sh),?_⟩;rw[acE hz,ap1];refine V.mono hle ?_
   show V _ (.pr (.d (.arr k t) (r.take k)) (.pr u (.d (.arr (r.drop (k+1)).length t) (r.drop (k+1))))) _;simp only[V];generalize cur.toList.take (r.length*t.size)=R at*;refine⟨R.take (k*t.size),R.drop (k*t.size),(dH _ _).symm,?_,(R.drop (k*t.size)).take t.size,R.drop ((k+1)*t.size),?_,ab8,?_⟩
   ·simp only[cV];exact⟨by rw[dD];omega,c1⟩
   ·rw[adL,<-fi,dH]
   ·simp only[cV];exact⟨trivial,c3⟩))
 refine⟨g,β,hI.aI2 j ?_⟩;have:=h.cj j;rw[hj]at this;exact afv (VS.mono hle this)
theorem Mv:∀(l:List Nat) {s s1:AS},gw C s a w->(apN s l).eval=av s1->gw C s1 a w
 |[],s,s1,h,he=>by simp only[apN]at he;obtain rfl:=aA.1 he;exact h
 |j::l,s,s1,h,he=>by
  obtain⟨g,β,h⟩:=h;simp only[apN]at he;split at he
  ·rename_i id ver k p n hj;split at he
   ·rename_i v e t r la;obtain⟨h1,he⟩:=aH.1 he;obtain⟨h2,he⟩:=bQ.1 he;obtain⟨u,h3,he⟩:=az.1 he;exact Mv l (h.aHO hj la (of_decide_eq_true h2) h3) he
   ·simp only[aw]at he
  ·exact Mv l ⟨g,β,h⟩ he
  ·simp only[aw]at he
theorem Ms{s:AS}{id i:Id}(h:i≠id):(s.freeze id).bU i=s.bU i:=by
 unfold AS.freeze;split
 ·exact cM s id i _ h
 ·rfl
theorem vd:∀(ids:List Id) {s:AS} {i:Id},i ∉ ids->(s.bn ids).bU i=s.bU i
 |[],_,_,_=>rfl
 |id::ids,s,i,h=>by
  have h1:i≠id:=λe=>h (by rw[e];exact aM)
  exact(vd ids λhi=>h (aN _ hi)).trans (Ms h1)
theorem Inv.aJc(h:Inv C g β s a w){j:Nat}{id:Id}{ver n k m v z:Nat}{p p':List Gm}(hj:s.slot j= .ptr id ver p n){e:TypeId}{t:Ty}{l1 l2:List t.den}{u:aE}
  (la:s.obj id=av (v,bq,.bx e z (.pr (.d (.arr k t) l1) (.pr u (.d (.arr m t) l2))))) (hz:z=t.size) (aBy:0 < z) (cR:id ∉ u.shared) {x:t.den} (hx:(s.im t u).eval=av x):
  gw C (((s.bn u.shared).aY id (.obj v bq (.vec e t (l1++x::l2)))).put (av j) (.ptr id ver p' n)) a w:=by
 have cI:=dQ la;obtain⟨pl0,cur0,e0,aFA,aFq,aKg,aKr,hV0⟩:=(h.bH id v bq _ cI).box rfl;obtain⟨g',h1,h2,h3,h4⟩:=eS u.shared h;have vg:(s.bn u.shared).bU id=av (.obj v bq (.bx e z (.pr (.d (.arr k t) l1) (.pr u (.d (.arr m t) l2))))):=(vd _ cR).trans cI;obtain⟨pl,cur,e1,hp,hh,hg,hk,hV⟩:=(h1.bH id v bq _ vg).box rfl;have hp:β id=av pl:=hp;have FQ:pl0=pl:=by have aFA:β id=av pl0:=aFA;rw[aFA]at hp;exact Option.some.inj hp
 subst FQ;have ff:cur0=cur:=by
  have aFq:w.heap[pl0.b]? =_:=aFq
  have hh:w.heap[pl0.b]? =_:=hh
  rw[aFq]at hh;simpa using(cf (λo=>match o with | some (.cells x _ _)=>x | _=>cur0) hh)
 subst ff;obtain⟨rfl,q2,q4,q3⟩:=aaV aBy hk;rw[acE aBy]at hV0;have hV0:V (s.env w g β) (.pr (.d (.arr k t) l1) (.pr u (.d (.arr m t) l2))) _:=hV0;have aM5:=hV0.size;simp only[V]at hV0;obtain⟨ca,cb,hR,hA,cu,cc,aFl,hU,hB⟩:=hV0;subst aFl;simp only[cV]at hA hB;have hX:=uK rfl h.bH h2 u t x cu hU hx h4;have aht:∀c x,cV ((s.bn u.shared).env w g' β) t c x->c.length=t.size:=λc x hx=>hx.size
 have cA:=hA.2.mono λ_ _ hx=>hx.mono h2.mem
 have cB:=hB.2.mono λ_ _ hx=>hx.mono h2.mem
 have dx:bp (cV ((s.bn u.shared).env w g' β) t) (ca++(cu++cc)) (l1++x::l2):=bp.append cA ⟨cu,cc,rfl,hX,cB⟩;have hlen:=bp.length aht dx;have ap1:(aE.pr (.d (.arr k t) l1) (.pr u (.d (.arr m t) l2))).size=(l1++x::l2).length*t.size:=by rw[<-hlen,<-hR];exact aM5.symm
 rw[ap1]at hR q3;rw[hz]at q2;have aiC:(l1++x::l2).length<=pl0.cap:=by rw[q2]at q3;exact Nat.le_of_mul_le_mul_right q3 ao
 have ht:=Trans.refl w g';have hle:cE ((s.bn u.shared).env w g' β) (((s.bn u.shared).aY id (.obj v bq (.vec e1 t (l1++x::l2)))).env w g' β):=cE.aY vg (aC _) ht (λ_ _=>rfl) (λ_=>rfl);have hI:=h1.step (cY _ _ _) ht hle (gN.aY h1.bH (by rw[vg];simp) hle (λ_ _=>rfl) (λ_ _ _ _ _ _ _ _=>⟨rfl,rfl⟩) (avG:=nY vg λ_ _ _ e=>by cases e) (by
  refine⟨ao,?_⟩;show(match β id with
   |none=>l1++x::l2=[]
   |some pl=>_)
  rw[hp];exact⟨cur0,0,hh,q2,aiC,q4,hg,aO _,λ_=>rfl,by rw[hR];exact dx.mono λ_ _ hx=>hx.mono hle.mem⟩))
 refine⟨g',β,hI.aI2 j ?_⟩;have:=h.cj j;rw[hj]at this;exact afv (VS.mono (h2.trans hle) this)
theorem YR:∀(l:List Nat) {s s1:AS},gw C s a w->(azT s l).eval=av s1->gw C s1 a w
 |[],s,s1,h,he=>by simp only[azT]at he;obtain rfl:=aA.1 he;exact h
 |j::l,s,s1,h,he=>by
  obtain⟨g,β,h⟩:=h;simp only[azT]at he;split at he
  ·rename_i id ver p n hj;split at he
   ·rename_i v e z k t l1 u m t' l2 la;obtain⟨h1,he⟩:=aH.1 he;obtain⟨l2',h2,he⟩:=az.1 he;obtain⟨x,h3,he⟩:=az.1 he;simp only[au,dk,cr,fC]at h1;obtain⟨⟨⟨h5,h6⟩,h7⟩,h8⟩:=h1;obtain⟨et,hl⟩:=iV (jo.1 h2);have et':t'=t:=by simpa using et
    subst et';simp only at hl;subst hl;refine YR l (h.aJc hj la h6 ao (λhi=> ?_) h3) he;have:(u.shared.any λi=>decide (i=id))=aS:=List.any_eq_true.2 ⟨id,hi,by simp⟩;rw[this]at h8;cases h8
   ·simp only[aw]at he
  ·simp only[aw]at he
theorem xp:∀(l:List aJl) {s s1:AS},gw C s a w->(Om s l).eval=av s1->gw C s1 a w
 |[],s,s1,h,he=>by simp only[Om]at he;obtain rfl:=aA.1 he;exact h
 |o::l,s,s1,h,he=>by
  obtain⟨g,β,h⟩:=h;unfold Om at he;split at he
  ·exact xp l ⟨g,β,h⟩ he
  obtain⟨u,hu,he⟩:=az.1 he;obtain⟨x,hx,he⟩:=az.1 he;obtain⟨s',hs,he⟩:=az.1 he;exact xp l (h.aHJ hu hx hs) he
theorem ko(hC:C.ok):∀(l:List atw) {s s1:AS},gw C s a w->(tE P s l).eval=av s1->gw C s1 a w
 |[],s,s1,h,he=>by simp only[tE]at he;obtain rfl:=aA.1 he;exact h
 |o::l,s,s1,h,he=>by
  obtain⟨g,β,h⟩:=h;unfold tE at he;split at he
  ·exact ko hC l ⟨g,β,h⟩ he
  obtain⟨u,hu,he⟩:=az.1 he;split at he
  ·split at he
   ·rename_i e t b Dz hv;obtain⟨s',h1,h2⟩:=az.1 he;exact ko hC l (h.aIV hu hv (Vq Dz) h1) h2
   ·simp only[aw]at he
  ·split at he
   ·rename_i b j ver aLH;split at he
    ·rename_i v fr c la hm;split at he
     ·have aDS:b < s.news.length:=by
       have:=dQ la;simp only[AS.bU,List.getD_eq_getElem?_getD]at this;cases hn:s.news[b]? with
       |none=>rw[hn]at this;simp at this
       |some es=>exact(List.getElem?_eq_some_iff.1 hn).1
      obtain⟨g1,β1,h1⟩:=h.ET hC aDS (by simpa using hm);exact ko hC l ⟨g1,β1,h1⟩ he
     ·simp only[aw]at he
    ·simp only[aw]at he
   ·simp only[aw]at he
theorem I4:∀(l:List Nat) {s s1:AS},gw C s a w->(YN s l).eval=av s1->gw C s1 a w
 |[],s,s1,h,he=>by simp only[YN]at he;obtain rfl:=aA.1 he;exact h
 |j::l,s,s1,h,he=>by
  obtain⟨g,β,h⟩:=h;simp only[YN]at he;split at he
  ·rename_i id ver len hj;split at he
   ·rename_i v e t r la;split at he
    ·obtain⟨h1,h2⟩:=bQ.1 he;have h1:len<=r.length:=by simpa using h1
     refine I4 l ?_ h2
     have cI:=dQ la;have hO:sk (s.env w g β) id bq (.vec e t r):=h.bH id v bq _ cI;have ht:=Trans.refl w g;have hle:cE (s.env w g β) ((s.aY id (.obj v bq (.vec e t (r.take len)))).env w g β):=cE.aY cI (aC _) ht (λ_ _=>rfl) (λ_=>rfl);refine⟨g,β,h.step (cY _ _ _) ht hle (gN.aY h.bH (by rw[cI];simp) hle (λ_ _=>rfl) (λ_ _ _ _ _ _ _ _=>⟨rfl,rfl⟩) ?_ (Kw cI))⟩;obtain⟨hz,hO⟩:=hO;refine⟨hz,?_⟩;have hO:(match β id with
      |none=>r=[]
      |some pl=>∃cur k,w.heap[pl.b]? =av (.cells cur e (0,0))/\cur.size=pl.cap*t.size/\r.length<=pl.cap/\pl.cap<=maxLen/\g pl.b= .own (.id id) k/\
        k<=r.length*t.size/\(bq=bq->k=0)/\bp (cV (s.env w g β) t) (cur.toList.take (r.length*t.size)) r):=hO
     show(match β id with
      |none=>r.take len=[]
      |some pl=>_)
     cases hp:β id with
     |none=>rw[hp]at hO;simp only at hO;subst hO;simp
     |some pl=>
      rw[hp]at hO;obtain⟨cur,k,q1,q2,q3,q4,q5,q6,q7,q8⟩:=hO;have hk:=q7 rfl;subst hk;have hlen:(r.take len).length=len:=by simp;omega
      refine⟨cur,0,q1,q2,ao,q4,q5,aO _,λ_=>rfl,?_⟩;have:=bp.take (λ_ _ hx=>cV.size hx) len q8;rw[kO,fN (cW _ h1)]at this;rw[hlen];exact this.mono λ_ _ hx=>hx.mono hle.mem
    ·simp only[aw]at he
   ·simp only[aw]at he
  ·simp only[aw]at he
theorem Jr:∀(l:List (Nat×Ty)) {s s1:AS},gw C s a w->(asData s l).eval=av s1->gw C s1 a w
 |[],s,s1,h,he=>by simp only[asData]at he;obtain rfl:=aA.1 he;exact h
 | (j,t)::l,s,s1,h,he=>by obtain⟨g,β,h⟩:=h;simp only[asData]at he;obtain⟨x,h1,h2⟩:=az.1 he;obtain⟨g',i1,_,_,cs,hR,hO⟩:=yq h (h.cj j) h1;exact Jr l ⟨g',β,i1.aI2 j (VS.of (a:= .d t x) (cs:=cs) (by simpa only[V]using hR) hO)⟩ h2
theorem Inv.still:∀(l:List Nat) {s:AS},Inv C g β s a w->Inv C g β (s.still l) a w
 |[],s,h=>h
 |q::l,s,h=>by
  simp only[AS.still];split
  ·rename_i v fr i ver k t r cu la;exact Inv.still l (h.aEa (dQ la) (.inr ⟨rfl,rfl,rfl⟩))
  ·exact Inv.still l h
theorem N3{α:Type}(l:List α):(ahU l).Perm l:=Quotient.exact (s:=axU α) (Quotient.exists_rep (Quotient.mk (axU α) l)).choose_spec
theorem Inv.canon:∀(l:List Id) {s:AS},Inv C g β s a w->Inv C g β (s.canon l) a w
 |[],s,h=>h
 |id::l,s,h=>by
  simp only[AS.canon];split
  ·rename_i v fr k t r la;have cI:=dQ la;have ht:=Trans.refl w g;have hle:cE (s.env w g β) ((s.aY id (.obj v fr (.mp k t (ahU r)))).env w g β):=cE.aY cI (aC _) ht (λ_ _=>rfl) (λ_=>rfl);obtain⟨pl,es,clock,h1,h2,h3,⟨⟨l',h4,h5⟩,h6⟩,h7⟩:=h.bH id v fr _ cI
   refine Inv.canon l (h.step (cY _ _ _) ht hle (gN.aY h.bH (by rw[cI];simp) hle (λ_ _=>rfl) (λ_ _ _ _ _ _ _ _=>⟨rfl,rfl⟩)
    ⟨pl,es,clock,h1,h2,h3,⟨⟨l',h4.mono λ_ _ he=>he.mono hle.mem,h5.trans (N3 r).symm⟩,(((N3 r).map _).nodup_iff).2 h6⟩,h7⟩ ?_))
   intro ver k' v' l2 hl;rw[cI]at hl;simp only[aB,dB.obj.injEq]at hl;obtain⟨rfl,rfl,_⟩:=hl;exact⟨rfl,rfl,⟨_,_,_,rfl⟩,λ_ _=>⟨rfl,rfl⟩⟩
  ·exact Inv.canon l h
theorem N1(k v n:Nat)(i:Id)(ver:Nat):(i= .cl k/\ver=v/\sq k v n i ver=av (.cl k,n))\/(i= .cl k/\sq k v n i ver=aF)\/(i≠ .cl k/\sq k v n i ver=av (i,ver)):=by
 cases i with
 |new x j=>exact .inr (.inr ⟨by simp,rfl⟩)
 |cl j=>
  simp only[sq];cases h1:gG j k with
  |false=>exact .inr (.inr ⟨λe=>by injection e with e;subst e;simp at h1,rfl⟩)
  |true=>
   obtain rfl:=eC h1;cases h2:gG ver v with
   |false=>exact .inr (.inl ⟨rfl,rfl⟩)
   |true=>exact .inl ⟨rfl,eC h2,rfl⟩
theorem acG(hC:C.ok){s s1:AS}(h:Inv C g β s a w){k n:Nat}(he:(s.atY k n).eval=av s1):Inv C g β s1 a w:=by
 unfold AS.atY at he;split at he;rotate_left
 ·exact(aw.1 he).elim
 rename_i v fr c hk;obtain⟨aLU,he⟩:=aH.1 he;have aLU:v<=n\/1<=n:=(Bool.or_eq_true_iff.1 aLU).imp bN bN;have hz:∀ver,C.E.CU (.cl k) ver->ver=0:=λver hb=>by
  obtain⟨h1,h2⟩:=hb;cases hs:C.E.s (.cl k) with
  |none=>exact absurd hs h1
  |some en=>
   cases en with
   |dead=>
    have:=(h.le.CU (.cl k) (v+1) ⟨h1,λv' fr' c' hh=>by rw[hs]at hh;cases hh⟩).2 _ _ _ hk;omega
   |obj v0 fr0 c0=>
    have:=hC.2 _ _ _ _ hs;have:=h2 _ _ _ hs;omega
 obtain rfl:=aA.1 he;have aIo:k < s.bS.length:=by
  rcases nQ k s.bS.length with h | h
  ·exact h
  ·simp[AS.bU,dW h]at hk
 generalize A7:({cj:=s.cj.map (aE.gJ (sq k v n)),bS:=(s.bS.map (dB.akE (sq k v n) (Ed k))).set k (.obj n fr (c.gJ (sq k v n))),news:=s.news.map λes=>es.map (dB.akE (sq k v n) (Ed k))}:AS)=s1;have e0:s1.bU (.cl k)=av (.obj n fr (c.gJ (sq k v n))):=by rw[<-A7];simp[AS.bU,aIo]
 have e1:∀i,i≠ .cl k->s1.bU i=(s.bU i).map (dB.akE (sq k v n) (Ed k)):=λi hi=>by
  rw[<-A7];cases i with
  |cl j=>
   have:¬k=j:=λe=>hi (by rw[e])
   simp only[AS.bU];rw[dO this,List.getElem?_map]
  |new x j=>
   simp only[AS.bU,List.getD_eq_getElem?_getD,List.getElem?_map];cases s.news[x]? <;> simp
 have e2:∀i v' fr' c',i≠ .cl k->s1.bU i=av (.obj v' fr' c')->∃c0,s.bU i=av (.obj v' fr' c0)/\c'=c0.ar0 (sq k v n) (Ed k):=λi v' fr' c' hi hh=>by
  rw[e1 i hi]at hh;cases hs:s.bU i with
  |none=>rw[hs]at hh;cases hh
  |some en=>
   rw[hs]at hh;cases en with
   |dead=>simp[dB.akE]at hh
   |obj v0 fr0 c0=>
    simp only[da,dB.akE,aB,dB.obj.injEq]at hh;obtain⟨rfl,rfl,rfl⟩:=hh;exact⟨c0,rfl,rfl⟩
 have e3:∀i,i≠ .cl k->s.bU i≠aF->s1.bU i≠aF:=λi hi hh=>by
  rw[e1 i hi];cases hs:s.bU i with
  |none=>exact absurd hs hh
  |some en=>simp
 have hle:w9 (sq k v n) (s.env w g β) (s1.env w g β):=by
  refine⟨Trans.mem (E:=s.env w g β) (E':=s1.env w g β) (Trans.refl w g),λi ver r hr aix=> ?_⟩;rcases N1 k v n i ver with⟨rfl,rfl,e⟩ | ⟨rfl,e⟩ | ⟨hi,e⟩
  ·rw[e]at hr;obtain rfl:=Option.some.inj hr;refine⟨⟨by show s1.bU (.cl k)≠aF;rw[e0];simp,λv' fr' c' hh=> ?_⟩,λ_=>⟨⟨fr,c,hk⟩,rfl⟩⟩;have hh:s1.bU (.cl k)=av (.obj v' fr' c'):=hh;rw[e0]at hh;simp only[aB,dB.obj.injEq]at hh;exact Nat.le_of_eq hh.1
  ·rw[e]at hr;cases hr
  ·rw[e]at hr;obtain rfl:=Option.some.inj hr;obtain⟨k1,k2⟩:=aix;have k1:s.bU i≠aF:=k1;have k2:∀v' fr' c',s.bU i=av (.obj v' fr' c')->ver<=v':=k2;refine⟨⟨e3 i hi k1,λv' fr' c' hh=> ?_⟩,λ⟨fr',c',hh⟩=> ?_⟩
   ·obtain⟨c0,Qi,_⟩:=e2 i v' fr' c' hi hh;exact k2 _ _ _ Qi
   ·obtain⟨c0,Qi,_⟩:=e2 i ver fr' c' hi hh;exact⟨⟨fr',c0,Qi⟩,rfl⟩
 refine⟨h.defers,by rw[<-A7];simpa using h.size,λi=> ?_,⟨λid ver fr' c' cR=> ?_,h.bH.gl⟩,h.trans,?_⟩
 ·have:s1.slot i=(s.slot i).gJ (sq k v n):=by rw[<-A7];exact Uj _ rfl _ _
  rw[this];exact DC hle (h.cj i)
 ·have cR:s1.bU id=av (.obj ver fr' c'):=cR;by_cases hi:id= .cl k
  ·subst hi;rw[e0]at cR;simp only[aB,dB.obj.injEq]at cR;obtain⟨rfl,rfl,rfl⟩:=cR;exact tX hle (h.bH (.cl k) v fr c hk) (id':= .cl k) rfl λpl _=>⟨rfl,λ_ h=>h,λh=>h⟩
  ·obtain⟨c0,Qi,rfl⟩:=e2 id ver fr' c' hi cR;have h0:=h.bH id ver fr' c0 Qi;rcases aiW c0 with⟨q2,vq,kt,vt,l,cu,rfl⟩ | ⟨aFE,_⟩
   ·simp only[aE.ar0];cases aJy:Ed k q2 with
    |true=>
     have gW:q2≠ .cl k:=λe=>by subst e;simp[Ed]at aJy
     have hρq:∀vr,sq k v n q2 vr=av (q2,vr):=λvr=>by
      rcases N1 k v n q2 vr with⟨e,_⟩ | ⟨e,_⟩ | ⟨_,e⟩
      ·exact absurd e gW
      ·exact absurd e gW
      ·exact e
     refine aEI.aX hle.mem (λ_=>rfl) h0 rfl (λ_ _ h=>h) λvr _=>⟨λhb=>hle.ref q2 vr (q2,vr) (hρq vr) hb,λkt vt l ahn=> ?_,λ_ _ h=>h⟩
     have ahn:s.bU q2=av (.obj vr aS (.mp kt vt l)):=ahn;show s1.bU q2=_;rw[e1 q2 gW,ahn];rfl
    |false=>
     obtain⟨pl,mb,since,seen,c0,h1,h2,h3,h4⟩:=h0;exact⟨pl,mb,since,seen,c0,h1,h2,h3,λvr ahq=>ao⟩
   ·rw[aFE];exact tX hle h0 (id':=id) rfl λpl _=>⟨rfl,λ_ h=>h,λh=>h⟩
 ·have hl:=h.le;refine⟨hl.mem.trans (Trans.mem (E:=s.env w g β) (E':=s1.env w g β) (Trans.refl w g)),λid ver hb=> ?_,λid ver hb hc=> ?_⟩
  ·obtain⟨h1,h2⟩:=hl.CU _ ver hb;have h1:s.bU id≠aF:=h1;have h2:∀v' fr' c',s.bU id=av (.obj v' fr' c')->ver<=v':=h2;by_cases hi:id= .cl k
   ·subst hi;obtain rfl:=hz ver hb;exact⟨by show s1.bU (.cl k)≠aF;rw[e0];simp,λv' fr' c' hh=>aO _⟩
   ·exact⟨e3 id hi h1,λv' fr' c' hh=>let⟨c0,Qi,_⟩:=e2 id v' fr' c' hi hh;h2 _ _ _ Qi⟩
  ·obtain⟨fr',c',hc⟩:=hc;have hc:s1.bU id=av (.obj ver fr' c'):=hc;by_cases hi:id= .cl k
   ·subst hi;obtain rfl:=hz ver hb;rw[e0]at hc;simp only[aB,dB.obj.injEq]at hc;have e4:=hc.1;obtain rfl:v=0:=ao;exact hl.cur _ _ hb ⟨fr,c,hk⟩
   ·obtain⟨c0,Qi,_⟩:=e2 id ver fr' c' hi hc;exact hl.cur _ _ hb ⟨fr',c0,Qi⟩
theorem Bl(hC:C.ok):∀(l:List (Nat×Nat)) {s s1:AS},Inv C g β s a w->(acH s l).eval=av s1->Inv C g β s1 a w
 |[],s,s1,h,he=>by obtain rfl:=aA.1 he;exact h
 |x::l,s,s1,h,he=>by obtain⟨s2,h1,h2⟩:=az.1 he;exact Bl hC l (acG hC h h1) h2
def PZ(ids:List Id)(q:Nat):kI->kI
 | .own (.id (.new x y)) k=>match idxOf (.new x y) ids with | some m=> .own (.id (.new q m)) k | none=> .free
 |l=>l
def aGh(β:Id->Option Pl)(ids:List Id)(q:Nat):Id->Option Pl
 | .cl k=>β (.cl k)
 | .new x y=>if x=q then(ids[y]?).bind β else aF
theorem Trans.PZ(w:World)(g:Nat->kI)(ids:List Id)(q:Nat):Trans w w g λx=>PZ ids q (g x):=by
 refine⟨rfl,rfl,⟨rfl,aC _⟩,aC _,λy _=> ?_⟩;cases hg:g y with
 |free=>exact⟨by simp[Ab.PZ],rfl⟩
 |own o k=>cases o with
  |dY=>exact⟨by simp[Ab.PZ],rfl⟩
  |id x=>
   refine⟨?_,λ_ _ _ h=>h⟩;cases x with
   |cl m=>exact .inr ⟨_,_,rfl,aC _⟩
   |new x j=>
    simp only[Ab.PZ];split
    ·exact .inr ⟨_,_,rfl,aC _⟩
    ·exact .inl rfl
theorem Inv.ZU(h:Inv C g β s a w)(hC:C.ok){ids:List Id}{q:Nat}(hn:ids.Nodup)(zQ:∀id∈ids,∃i j,id= .new i j)(aKL:q < s.news.length):
  ∃g1 β1,Inv C g1 β1 (s.D6 ids q) a w:=by
 let ρ:YW:=apV s ids q
 obtain⟨s1,A7⟩:∃s1,s1=s.D6 ids q:=⟨_,rfl⟩;have hold:∀k,s1.bU (.cl k)=(s.bU (.cl k)).map (dB.ayg ρ):=λk=>by
  rw[A7];show(s.bS.map (dB.ayg ρ))[k]? =_
  rw[List.getElem?_map];rfl
 have ln:∀j,s1.bU (.new q j)=(ids[j]?).map λid=>((s.bU id).getD .dead).akD ρ:=λj=>by rw[A7];simp[AS.D6,AS.bU,List.getD_eq_getElem?_getD,aKL,ρ]
 have PU:∀x j,x≠q->s1.bU (.new x j)=aF:=λx j hx=>by
  have hx':¬q=x:=λe=>hx e.symm
  rw[A7];simp only[AS.D6,AS.bU,List.getD_eq_getElem?_getD];rw[dO hx',List.getElem?_map];cases s.news[x]? <;> simp
 let g1:Nat->kI:=λx=>PZ ids q (g x)
 let β1:=aGh β ids q
 have ht:Trans w w g g1:=Trans.PZ w g ids q;have hβ:∀j,β1 (.new q j)=(ids[j]?).bind β:=λj=>if_pos rfl
 have hρ:∀i ver r,ρ i ver=av r->(∃k,i= .cl k/\r=(i,ver))\/∃j fr c,ids[j]? =av i/\s.bU i=av (.obj ver fr c)/\r=(.new q j,0):=λi ver r hr=>by
  replace hr:apV s ids q i ver=av r:=hr
  cases i with
  |cl k=>exact .inl ⟨k,rfl,(Option.some.inj hr).symm⟩
  |new x y=>
   unfold apV at hr;simp only at hr;split at hr
   ·rename_i j v fr c hj ho;split at hr
    ·rename_i hv;have hv:ver=v:=by simpa using hv
     subst hv;exact .inr ⟨j,fr,c,ni hj,dQ ho,(Option.some.inj hr).symm⟩
    ·cases hr
   ·cases hr
 have hrenA:∀e v fr c,dB.ayg ρ e= .obj v fr c->∃c0,e= .obj v fr c0/\c0.gJ ρ=c:=λe v fr c he=>by
  cases e with
  |dead=>cases he
  |obj v0 fr0 c0=>
   simp only[dB.ayg,dB.obj.injEq]at he;obtain⟨rfl,rfl,rfl⟩:=he;exact⟨c0,rfl,rfl⟩
 have hle:w9 ρ (s.env w g β) (s1.env w g1 β1):=by
  refine⟨Trans.mem (E:=s.env w g β) (E':=s1.env w g1 β1) ht,λi ver r hr aix=> ?_⟩;rcases hρ i ver r hr with⟨k,rfl,rfl⟩ | ⟨j,fr,c,hj,he,rfl⟩
  ·obtain⟨k1,k2⟩:=aix;have k1:s.bU (.cl k)≠aF:=k1;refine⟨⟨?_,λv' fr' c' hh=> ?_⟩,λ⟨fr',c',hh⟩=>⟨?_,rfl⟩⟩
   ·show s1.bU (.cl k)≠aF;rw[hold];cases hs:s.bU (.cl k) with
    |none=>exact absurd hs k1
    |some en=>simp
   ·have hh:s1.bU (.cl k)=av (.obj v' fr' c'):=hh;rw[hold,Option.map_eq_some_iff]at hh;obtain⟨e,he,hh⟩:=hh;obtain⟨c0,rfl,_⟩:=hrenA _ _ _ _ hh;exact k2 v' fr' c0 he
   ·have hh:s1.bU (.cl k)=av (.obj ver fr' c'):=hh;rw[hold,Option.map_eq_some_iff]at hh;obtain⟨e,he,hh⟩:=hh;obtain⟨c0,rfl,_⟩:=hrenA _ _ _ _ hh;exact⟨fr',c0,he⟩
  ·refine⟨⟨by show s1.bU (.new q j)≠aF;rw[ln,hj];simp,λ_ _ _ _=>aO _⟩,λ_=>⟨⟨fr,c,he⟩,?_⟩⟩;show β1 (.new q j)=β i;rw[hβ,hj];rfl
 have e1:s1.cj=s.cj.map (aE.gJ ρ):=by rw[A7];rfl
 rw[<-A7];refine⟨g1,β1,h.Nt hC ρ (by rw[e1];simp) ht hle (λi=> ?_) (λid ver fr c cR=> .inr ?_) λk=>⟨λhk=> ?_,λv' fr' c' hh=> ?_,rfl⟩⟩
 ·have:s1.slot i=(s.slot i).gJ ρ:=by unfold AS.slot;rw[e1];exact Uj _ rfl _ _
  rw[this];exact DC hle (h.cj i)
 ·cases id with
  |cl k=>
   rw[hold,Option.map_eq_some_iff]at cR;obtain⟨e,he,cR⟩:=cR;obtain⟨c0,rfl,hc⟩:=hrenA _ _ _ _ cR;exact⟨.cl k,ver,c0,he,hc,rfl,λpl _=>⟨λn hg=>by show PZ ids q (g pl.b)=_;rw[hg];rfl,λhg=>by show PZ ids q (g pl.b)=_;rw[hg];rfl⟩⟩
  |new x y=>
   by_cases hx:x=q
   ·subst hx;rw[ln,Option.map_eq_some_iff]at cR;obtain⟨i,hi,cR⟩:=cR;obtain⟨i0,j0,rfl⟩:=zQ i (cH hi);cases hs:s.bU (.new i0 j0) with
    |none=>rw[hs]at cR;cases cR
    |some e=>
     rw[hs]at cR;cases e with
     |dead=>cases cR
     |obj v0 fr0 c0=>
      simp only[dE,dB.akD,dB.obj.injEq]at cR;obtain⟨_,rfl,hc⟩:=cR;refine⟨.new i0 j0,v0,c0,hs,hc,by rw[hβ,hi];rfl,λpl _=>⟨λn hg=> ?_,λhg=>by show PZ ids _ (g pl.b)=_;rw[hg];rfl⟩⟩;show PZ ids _ (g pl.b)=_;rw[hg];simp only[PZ,uf hn hi]
   ·rw[PU x y hx]at cR;cases cR
 ·show s1.bU (.cl k)≠aF;rw[hold];cases hs:s.bU (.cl k) with
  |none=>exact absurd hs hk
  |some en=>simp
 ·have hh:s1.bU (.cl k)=av (.obj v' fr' c'):=hh;rw[hold,Option.map_eq_some_iff]at hh;obtain⟨e,he,hh⟩:=hh;obtain⟨c0,rfl,_⟩:=hrenA _ _ _ _ hh;exact⟨c0,he⟩
theorem ZV(hC:C.ok){s s1:AS}{o:Option Nat}(h:gw C s a w)(he:(s.ZU o).eval=av s1):gw C s1 a w:=by
 cases o with
 |none=>
  obtain rfl:=aA.1 he;exact h
 |some q=>
  obtain⟨h1,h2⟩:=aH.1 he;obtain rfl:=aA.1 h2;obtain⟨g,β,h⟩:=h;obtain⟨g1,β1,h3⟩:=h.ZU hC (ids:=s.aHP) ((ql s _ _ _ (by simp)).filter _) (λid cR=>by
   have:=(fp.1 cR).2;cases id with
   |cl k=>cases this
   |new i j=>exact⟨i,j,rfl⟩) (bN h1)
  exact⟨g1,β1,h3⟩
theorem nu(hC:C.ok){an:nP}{s1:AS}(h:gw C s a w)(he:(norm P an s).eval=av s1):gw C s1 a w:=by unfold norm at he;obtain⟨sb,aMm,he⟩:=az.1 he;obtain⟨su,aMn,he⟩:=az.1 he;obtain⟨sd,aJ2,he⟩:=az.1 he;obtain⟨s0,h1,h2⟩:=az.1 he;obtain⟨h3,h4⟩:=aH.1 h2;obtain⟨sf,h5,h6⟩:=az.1 h4;obtain⟨sg,h6,h7⟩:=az.1 h6;obtain⟨g0,β0,h0⟩:=h;obtain⟨g1,i1,_⟩:=eS an.am0 (Bl hC _ h0 aMm);obtain⟨g,β,h⟩:=Jr _ (xp _ (YR _ ⟨g1,β0,(i1.still an.aLY).canon an.aHG⟩ aMn) aJ2) h1;exact ZV hC (ko hC _ (Mv _ ⟨g,β,h.aX hC h3⟩ h5) h6) h7
end
end Go.Ab
end
