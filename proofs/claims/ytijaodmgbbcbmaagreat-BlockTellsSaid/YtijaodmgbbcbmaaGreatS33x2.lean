/-
  Made short by a program of mine (wip/tools/mini.py).
-/
import Derived.Test.YtijaodmgbbcbmaaGreatS33x1
import Derived.Lib.Builder
import Derived.Lib.UnsafeStr
import Derived.Lib.AppendZeros
import Derived.Maps.RangeRun
set_option linter.unusedVariables false
set_option linter.unusedSimpArgs false
set_option maxRecDepth 100000
set_option synthInstance.maxSize 5000
open Go renaming IntKind->lW,FuncId->gC,Operand->cr,Program->bj,World->cO,MapEntry->gl
open List renaming replicate->ai
open Nat renaming beq->mG
open Go.Sem renaming run_bind->cU,run_pure->eK
open Go.Result renaming andThen_ok->cm
open Go.Op renaming equalIn->dG,operands->cT
open Int renaming toNat_natCast->aa
open Option renaming some->av,none->aH
open Bool renaming true->bm,false->aZ
noncomputable section
namespace Go.Ab
section
variable {P:bj} {C:Ctx} {g:Nat->qs} {β:Id->Option Pl} {s:AS} {a:Act} {w:cO} {o:Oper}
theorem F9{b:Builtin}{args:Array cr}{ts:Array TypeId}{f:Sem Value}{x:Value}{w':cO}(ho:o.op= .call {callee:= .builtin b,args,argTypes:=ts})
  (hb:∀ty cs xs,xs=args.map a.eval->builtin b ts ty cs xs=(do pure (.value (<-f)))) (hf:f.run P w= .ok x w'):(execOp a.eval o).run P w= .ok (.value x) w':=by
 simp only[execOp,ho,resolve,cU,eK,cm,invoke];rw[hb _ _ _ rfl,cU,hf];rfl
theorem aKT(h:Inv C g β s a w){c:Call}{x:cr}{T:TypeId}(ho:o.op= .call c)(hc:c.callee= .builtin .len)(ha:c.args.toList=[x])(ht:c.argTypes.toList=[T]){v:aN}(he:(aQT P T (s.ev x)).eval=av v):
  il P o a w (ka C (s.put o.dst v)):=by
 obtain⟨cal,args,tys⟩:=c;simp only at hc ha ht;have ha':args= #[x]:=by apply hZ;simpa using ha
 have ht':tys= #[T]:=by apply hZ;simpa using ht
 subst hc ha' ht';have hx:=h.ev x;have fin:∀z,(Builtin.len_ #[T] 0 #[a.eval x]).run P w= .ok z w->VS (s.env w g β) v z->il P o a w (ka C (s.put o.dst v)):=by intro z h1 h2;refine h.value h2 (F9 ho (f:=Builtin.len_ #[T] 0 #[a.eval x]) (λty cs xs avF=> ?_) h1);subst avF;have e1:Builtin.len_ #[T] 0 #[a.eval x]=Builtin.len_ #[T] ty #[a.eval x]:=rfl;rw[e1];simp[builtin]
 unfold aQT at he;split at he
 ·rename_i st hT hl;rw[hl]at hx;obtain rfl:=aD.1 he;refine fin (.int .i64 (st.size:Int)) ?_ (nE _ _)
  rw[Nu hx];simp[Builtin.len_,run_underlying hT,goInt]
 ·rename_i e t l hT hl;rw[hl]at hx;obtain rfl:=aD.1 he;obtain⟨ad,cap,vs,hy,_⟩:=xL hx;refine fin (.int .i64 (l.length:Int)) ?_ (nE _ _)
  rw[hy];simp[Builtin.len_,run_underlying hT,goInt]
 ·rename_i e hT hl;rw[hl]at hx;obtain rfl:=aD.1 he;refine fin (.int .i64 0) ?_ (nE _ _)
  rw[mX hx];simp[Builtin.len_,run_underlying hT,goInt]
 ·rename_i e id ver p c i len hT hl;rw[hl]at hx;obtain rfl:=aD.1 he;obtain⟨ad,cap,hy,_⟩:=zQ hx;refine fin (.int .i64 (len:Int)) ?_ (nE _ _)
  rw[hy];simp[Builtin.len_,run_underlying hT,goInt]
 ·rename_i n e hT;obtain rfl:=aD.1 he;refine fin (.int .i64 (n:Int)) ?_ (nE _ _)
  simp[Builtin.len_,run_underlying hT,goInt]
 ·simp only[aG]at he
def Env.open(E:Env):Env:= {E with g:=λ_=> .free}
theorem YA{E:Env}{k:lW}:∀ {vs:List Value} {l:List Int},bH (c9 E (.int k)) vs l->vs=l.map (Value.int k)
 |vs,[],h=>h
 |_,x::xs,⟨c,cs',e,hx,hr⟩=>by
  have hx':c=[Value.int k x]:=by simpa only[c9]using hx
  rw[e,hx',YA hr];rfl
theorem Lt{E:Env}{k:lW}:∀(l:List Int),bH (c9 E (.int k)) (l.map (Value.int k)) l
 |[]=>rfl
 |x::xs=>⟨[.int k x],xs.map (Value.int k),rfl,by simp[c9],Lt xs⟩
theorem atu{α:Type}(xs:Array α)(x:α)(f:α->α):(xs.push x).modify xs.size f=xs.push (f x):=by
 apply Array.ext_getElem?;intro i;rw[Array.getElem?_modify,Array.getElem?_push,Array.getElem?_push];by_cases h:i=xs.size
 ·subst h;simp
 ·have h':¬xs.size=i:=λe=>h e.symm
  simp[h,h']
theorem ang(w:cO)(c:Array Value)(e:TypeId)(n:Nat):(w.alloc (.cells c e)).freeze ⟨w.heap.size,n,aH⟩ 1=w.alloc (.cells c e (n,n+1)):=by show({w with heap:=(w.heap.push (.cells c e)).modify w.heap.size _}:cO)= {w with heap:=w.heap.push (.cells c e (n,n+1))};rw[atu];rfl
theorem Vz(e:TypeId)(st:ByteArray)(w:cO):∃cap:Nat,st.size<=cap/\∃arr:Array Value,(∀(j:Nat) (v:Value),((bS st).map (Value.int .u8))[j]? =av v->arr[j]? =av v)/\
  (Conv.stringToBytes e st).run P w= .ok (.slice (av ⟨w.heap.size,0,aH⟩) st.size cap) (w.drew.alloc (.cells arr e (arr.size,arr.size+1))):=by
 refine⟨(Question.appendCap st.size 0 e).cut (w.tape w.drawn (.appendCap st.size 0 e)),by simp[Question.cut],
  (st.data.map λb=>Value.int .u8 b.toNat)++Array.replicate ((Question.appendCap st.size 0 e).cut (w.tape w.drawn (.appendCap st.size 0 e)) - st.size) (.int .u8 0),?_,?_⟩
 ·intro j v hj;have hl:j < st.data.size:=by have:=(ek.1 hj).1;simpa[bS]using this
  rw[lV,if_pos (by simpa using hl)];simpa[bS,hl]using hj
 ·have hs:∀(arr:Array Value),(markStringish ⟨w.heap.size,0,aH⟩).run P (w.drew.alloc (.cells arr e))= .ok () (w.drew.alloc (.cells arr e (arr.size,arr.size+1))):=by
   intro arr;have h1:(w.drew.alloc (.cells arr e)).shape? w.heap.size=av (e,arr.size):=by
    have h2:(w.drew.alloc (.cells arr e)).heap[w.heap.size]? =av (.cells arr e):=De w.drew _
    simp only[World.shape?,h2]
   have h3:=ang w.drew arr e arr.size;have h4:w.drew.heap.size=w.heap.size:=rfl;rw[h4]at h3;simp only[markStringish,cU,run_shape,h1,cm,run_freeze,h3]
  simp[Conv.stringToBytes,Question.forced,newRow,hs]
theorem amC(h:Inv C g β s a w){obj:Bool}{src dst:TypeId}{x:cr}(ho:o.op= .convert src dst x){v:aN}(he:(aq4 P s obj src dst (s.ev x)).eval=av v):il P o a w (ka C (s.put o.dst v)):=by
 have hx:=h.ev x;have fin:∀z,(convert src dst (a.eval x)).run P w= .ok z w->VS (s.env w g β) v z->il P o a w (ka C (s.put o.dst v)):=by intro z h1 h2;exact h.value h2 (fE (f:=convert src dst (a.eval x)) (by simp only[execOp,ho]) h1)
 unfold aq4 at he;unfold aS8 at he;split at he
 ·rename_i k n k' d hl hD hS;rw[hl]at hx;obtain rfl:=aD.1 he;refine fin (.int k' (k'.wrap n)) ?_ (nE _ _)
  rw[AT hx];simp[convert,run_underlying hD,run_underlying hS,Conv.intToInt]
 ·rename_i st d hl hD hS;rw[hl]at hx;obtain rfl:=aD.1 he;refine fin (.string st) ?_ (avR _)
  rw[Nu hx];simp[convert,run_underlying hD,run_underlying hS]
 ·rename_i st e d hl hD hS;rw[hl]at hx;split at he
  ·rename_i hE;obtain⟨cap,anj,arr,aQj,sr⟩:=Vz (P:=P) e st w;have i1:=(h.drew).NS (.cells arr e (arr.size,arr.size+1));have hlen:(bS st).length=st.size:=by simp only[bS,da,dv];rfl
   have h2:=De w.drew (.cells arr e (arr.size,arr.size+1));have hex:(execOp a.eval o).run P w= .ok (.value (.slice (av ⟨w.heap.size,0,aH⟩) st.size cap)) (w.drew.alloc (.cells arr e (arr.size,arr.size+1))):=by
    refine fE (f:=convert src dst (a.eval x)) (by simp only[execOp,ho]) ?_
    rw[Nu hx];simp[convert,run_underlying hD,run_underlying hS,run_underlying hE,sr]
   have aKl:yc g w.drew.heap.size .free w.heap.size= .free:=by rw[show w.drew.heap.size=w.heap.size from rfl,iG]
   obtain rfl:=aD.1 he;refine .inl ⟨_,_,hex,_,β,i1.put o.dst ⟨_,?_,rfl⟩⟩;simp only[V,c9];refine⟨_,cap,(bS st).map (Value.int .u8),by rw[hlen],aq,λ_=>rfl,λj v hj=>⟨_,_,rfl,?_,?_⟩,Lt (E:=s.env (w.drew.alloc (.cells arr e (arr.size,arr.size+1))) (yc g w.drew.heap.size .free) β) _⟩
   ·have:=aQj j v hj;rw[aV];show(w.drew.alloc (.cells arr e (arr.size,arr.size+1))).cell? ⟨w.drew.heap.size,j,aH⟩=av v;simp only[World.cell?,h2];simpa using this
   ·show Am (yc g w.drew.heap.size .free) w.heap.size (0+j);unfold Am;rw[aKl];trivial
  ·simp only[aG]at he
 ·simp only[aG]at he
end
end Go.Ab
namespace Go.Ab
section
variable {P:bj} {C:Ctx} {g:Nat->qs} {β:Id->Option Pl} {s:AS} {a:Act} {w:cO} {o:Oper}
theorem aj6(off:Nat):∀(vs:List Value) (k:Nat) (cells:Array Value),off+k+vs.length<=cells.size->
  ((vs.zipIdx k).foldl (λcs (c,j)=>cs.setIfInBounds (off+j) c) cells).toList=dV cells.toList (off+k) vs
 |[],k,cells,_=>by simp[dV]
 |v::vs,k,cells,h=>by simp only[aF]at h;rw[List.zipIdx_cons,bn,aj6 off vs (k+1) _ (by simpa using(by omega:off+(k+1)+vs.length<=cells.size))];rw[Array.toList_setIfInBounds];have:=list_seg_step cells.toList (off+k) v vs (by simp;omega);unfold dV;simpa[fB]using this
theorem aj5{place:Nat->Option (Nat×Nat)}{cells:Array Value}{i off:Nat}{v:Value}{vs:List Value}{rest:List (Nat×Value)}(hp:place i=av (off,vs.length))(hv:v.cells=vs.toArray)(hl:off+vs.length<=cells.size):
  Instr.fill place cells ((i,v)::rest)=Instr.fill place (dV cells.toList off vs).toArray rest:=by
 have h1:v.cells.size=vs.length:=by rw[hv];simp
 have h2:¬(v.cells.size≠vs.length || off+v.cells.size > cells.size)=bm:=by simp[h1];omega
 simp only[Instr.fill,hp];rw[if_neg h2];congr 1;apply hZ;have:=aj6 off vs 0 cells aq;simp only[cD]at this;rw[<-this,hv];rw[<-Array.foldl_toList];simp
theorem G4{E E':Env}(hs:E.s=s.cJ)(ho:ku E)(he:dI E E'){t:Ty}(aO0:∀x,VS E (s.ev x) (a.eval x)):
  ∀(ps:List (Nat×cr)) (l:List t.den) (r:List t.den×List Id) (cells:Array Value),(km t s ps l).eval=av r->aWE E E' r.2->bH (c9 E' t) cells.toList l->
   ∃cells',Instr.fill (λi=>av (i*t.size,t.size)) cells (ps.map λ(i,x)=>(i,a.eval x))=av cells'/\bH (c9 E' t) cells'.toList r.1
 |[],l,r,cells,h,_,hc=>by obtain rfl:=aD.1 h;exact⟨cells,rfl,hc⟩
 | (i,x)::ps,l,r,cells,h,hf,hc=>by
  simp only[km]at h;obtain⟨h1,h2⟩:=aR.1 h;obtain⟨y,h3,h4⟩:=aC.1 h2;obtain⟨r',h5,h6⟩:=aC.1 h4;obtain rfl:=aD.1 h6;have hi:i < l.length:=by simpa using h1
  obtain⟨cs,hV,hO⟩:=(aO0 x).fD (NB h3);have hR:=AG hs ho he _ t y cs hV h3 (λid dL=>hf id (by simp[dL]));have Lr:=hO.cells hV.one;have hlen:=hc.length (λ_ _ hx=>c9.size hx);have AL:=hR.size;have hle:i*t.size+cs.length<=cells.size:=by have:=dE t.size (show i+1<=l.length by omega);rw[fg,iV]at this;simp at hlen;omega
  have anq:=bH.set (λ_ _ hx=>c9.size hx) hc i hi hR;obtain⟨cells',q1,q2⟩:=G4 hs ho he aO0 ps (l.set i y) r' (dV cells.toList (i*t.size) cs).toArray h5 (λid dL=>hf id (by simp[dL])) anq;refine⟨cells',?_,q2⟩;rw[cj,aj5 (by rw[AL]) Lr hle];exact q1
theorem xE{E:Env}{t:Ty}{zc:Array Value}(hz:c9 E t zc.toList t.zero):∀n:Nat,bH (c9 E t) (madeCells zc (n*t.size)).toList (ai n t.zero):=by
 have AL:zc.size=t.size:=by have:=hz.size;simpa using this
 intro n
 induction n with
 |zero=>simp[madeCells,bH]
 |succ n ih=>
  have e:(madeCells zc ((n+1)*t.size)).toList=(madeCells zc (n*t.size)).toList++zc.toList:=by
   apply mE;intro j;rw[fg,iV];simp only[madeCells,Array.toList_map,Array.toList_range,gS,List.getElem?_append,da,List.length_range];by_cases hj:j < n*t.size
   ·have hj':j < n*t.size+t.size:=aq;simp[hj,hj',AL]
   ·by_cases hj':j < n*t.size+t.size
    ·have fF:j - n*t.size < zc.size:=aq;have hm:j%t.size=j - n*t.size:=by
      have:j=(j - n*t.size)+t.size*n:=by rw[sh t.size n];omega
      rw[this,Nat.add_mul_mod_self_left,lj aq];rw[sh t.size n];omega
     simp[hj,hj',AL,hm];rw[getElem?_pos zc _ fF,mP zc _ fF]
    ·have h1:¬j - n*t.size < zc.size:=aq;simp[hj,hj',h1]
  rw[e,List.replicate_succ'];exact bH.append ih (bH.one hz)
theorem tM{nl:Bool}{T:TypeId}{e:TypeId}{t:Ty}{b:Nat}(h:IM P nl T=av (e,t,b)):
  P.underlying T=av (.slice e)/\0 < t.size/\∃i zv,P.info? e=av i/\i.size=t.size/\i.bytes=b/\i.zero=av zv/\∀E,c9 E t zv.cells.toList t.zero:=by
 unfold IM at h;split at h
 ·rename_i e' hT;split at h
  ·rename_i t' ht;split at h
   ·rename_i hg;simp only[ax,de]at h;obtain⟨rfl,rfl,rfl⟩:=h;simp only[aw,di,eZ,tq]at hg;obtain⟨⟨h1,h2⟩,h3⟩:=hg;obtain⟨i,zv,hi,hz,_,_⟩:=yU h3 {w:=default,g:=λ_=> .free,β:=λ_=>aH,s:=λ_=>aH};refine⟨hT,aq,i,zv,hi,by rw[<-qP hi];exact h1,by simp[Program.bytesOf,hi],hz,λE=> ?_⟩;obtain⟨i',zv',hi',hz',hV,_⟩:=yU h3 E;rw[hi]at hi';obtain rfl:i=i':=by simpa using hi'
    rw[hz]at hz';obtain rfl:zv=zv':=by simpa using hz'
    simpa only[V]using hV
   ·cases h
  ·cases h
 ·cases h
theorem Gf{T:TypeId}{e:TypeId}{t:Ty}{b:Nat}(h:abC P T=av (e,t,b)):P.underlying T=av (.slice e)/\0 < t.size/\∃i zv,P.info? e=av i/\i.size=t.size/\i.bytes=b/\i.zero=av zv/\∀E,c9 E t zv.cells.toList t.zero:=tM h
theorem ahR{T:TypeId}{e:TypeId}{t:Ty}{b:Nat}(h:am3 P T=av (e,t,b)):0 < t.size:=by
 unfold am3 at h;split at h
 ·exact(tM h).2.1
 ·exact(tM h).2.1
theorem Inv.anV(h:Inv C g β s a w){q:Nat}(hq:s.eQ q=bm){e:TypeId}{t:Ty}{l:List t.den}{cur:Array Value}{cap:Nat}(hz:0 < t.size)(hc:bH (c9 (s.env w g β) t) (cur.toList.take (l.length*t.size)) l)
  (hs:cur.size=cap*t.size) (hl:l.length<=cap) (hm:cap<=maxLen):
  ∃g' β',Inv C g' β' (s.born q [.obj 0 aZ (.vec e t l)]) a (w.alloc (.cells cur e))/\
   VS ((s.born q [.obj 0 aZ (.vec e t l)]).env (w.alloc (.cells cur e)) g' β') (.bU (.new q 0) 0 [] 0 0 l.length) (.slice (av ⟨w.heap.size,0,aH⟩) l.length cap):=by
 have ht:=Trans.alloc w g (.cells cur e) (.own (.id (.new q 0)) 0);obtain⟨h1,h2⟩:=h.acq hq (c:= .vec e t l) (p:=av ⟨w.heap.size,cap⟩) ht (λb hb=>⟨z8 w _ hb,iR _ _ _ aq⟩) (λhe=>by
  refine⟨hz,?_⟩;show(match OU β (.new q 0) (av ⟨w.heap.size,cap⟩) (.new q 0) with
   |none=>l=[]
   |some pl=>_)
  rw[oF];exact⟨cur,0,De w _,hs,hl,hm,iG _ _ _,aL _,λ_=>rfl,hc.mono λ_ _ hx=>hx.mono he.mem⟩)
 refine⟨_,_,h1,_,?_,rfl⟩;simp only[V];refine⟨_,_,rfl,hl,λ_=>rfl,wW hq _ _ _ _,λ_=> ?_⟩;show(match OU β (.new q 0) (av ⟨w.heap.size,cap⟩) (.new q 0) with
   |some pl=>_
   |none=>_)
 rw[oF];exact⟨λ_=>rfl,λ_ _=>rfl⟩
theorem Inv.aLp(h:Inv C g β s a w){q:Nat}(hq:s.eQ q=bm){e:TypeId}{t:Ty}(hz:0 < t.size):
  ∃β',Inv C g β' (s.born q [.obj 0 aZ (.vec e t [])]) a w/\dI (s.env w g β) ((s.born q [.obj 0 aZ (.vec e t [])]).env w g β')/\
   VS ((s.born q [.obj 0 aZ (.vec e t [])]).env w g β') (.bU (.new q 0) 0 [] 0 0 0) (.slice aH 0 0):=by
 have ht:=Trans.refl w g;obtain⟨h1,h2⟩:=h.acq hq (c:= .vec e t []) (p:=aH) ht (λb hb=>⟨rfl,rfl⟩) (λhe=>by
  refine⟨hz,?_⟩;show(match OU β (.new q 0) aH (.new q 0) with
   |none=>([]:List t.den)=[]
   |some pl=>_)
  rw[oF])
 refine⟨_,h1,h2,_,?_,rfl⟩;simp only[V];refine⟨_,_,rfl,az _,λhh=>aq,wW hq _ _ _ _,λ_=> ?_⟩;simp[AS.env]
theorem W4(parts:Array (Nat×cr)):(parts.map λ(i,x)=>(i,a.eval x)).toList=parts.toList.map λ(i,x)=>(i,a.eval x):=by simp
theorem aaN(h:Inv C g β s a w){T:TypeId}{n:Nat}{parts:Array (Nat×cr)}{nl obj:Bool}(ho:o.op= .buildSlice T n parts){s':AS}(he:(oI P s nl obj o.dst T n parts.toList).eval=av s'):il P o a w (ka C s'):=by
 unfold oI at he;split at he
 ·rename_i e t b q OO hd;obtain⟨hT,hz,i,zv,hi,aEg,aQm,avG,aEl⟩:=tM OO;obtain⟨h1,h2⟩:=aR.1 he;obtain⟨r,h3,h4⟩:=aC.1 h2;simp only[bt]at h1;obtain⟨g1,i1,e1,t1,f1⟩:=gI r.2 h;have aWt:zv.cells.size=t.size:=by have:=(aEl (s.env w g β)).size;simpa using this
  obtain⟨cells',aXf,B4⟩:=G4 (a:=a) rfl h.cg e1 h.ev parts.toList _ r (madeCells zv.cells (n*t.size)) h3 f1 (xE (aEl _) n);have aXr:r.1.length=n:=by
   have:∀(ps:List (Nat×cr)) (l:List t.den) (r:List t.den×List Id),(km t s ps l).eval=av r->r.1.length=l.length:=by
    intro ps
    induction ps with
    |nil=>intro l r hh;obtain rfl:=aD.1 hh;rfl
    |cons p ps ih=>
     intro l r hh;obtain⟨i,x⟩:=p;simp only[km]at hh;obtain⟨_,h2⟩:=aR.1 hh;obtain⟨y,h3,h4⟩:=aC.1 h2;obtain⟨r',h5,h6⟩:=aC.1 h4;obtain rfl:=aD.1 h6;have:=ih _ _ h5;simpa using this
   rw[this _ _ _ h3];simp
  have aHP:=B4.length (λ_ _ hx=>c9.size hx);have sr:(execOp a.eval o).run P w= .ok (.value (.slice (av ⟨w.heap.size,0,aH⟩) n n)) (w.alloc (.cells cells' e)):=by
   refine fE (f:=Instr.buildSlice T n (parts.map λ(i,x)=>(i,a.eval x))) (by simp only[execOp,ho]) ?_
   have aW4:¬n*t.size > 2^24:=aq;have hfill':Instr.fill (λi=>av (i*t.size,t.size)) ((Array.range (n*t.size)).map (λx=>(zv.cells)[x%zv.cells.size]!)) (parts.map λ(i,x)=>(i,a.eval x)).toList=av cells':=by rw[W4];exact aXf
   by_cases hn:n*t.size=0
   ·have aUR:n=0:=by
     rcases Nat.mul_eq_zero.1 hn with h' | h'
     ·exact h'
     ·omega
    subst aUR;simp only[pf]at hfill' aW4;have h0:Array.range 0= #[]:=rfl;rw[h0,Array.map_empty]at hfill';simp at hfill';simp[Instr.buildSlice,run_underlying hT,run_sizeOf hi,aEg,newRow,h0,hfill']
   ·simp[Instr.buildSlice,run_underlying hT,run_sizeOf hi,aEg,newRow,hn,aW4,zeroValue,typeInfo,hi,avG];simp at hfill';simp[hfill']
  cases obj with
  |true=>
   simp only at h4;obtain⟨hq,h5⟩:=aR.1 h4;obtain rfl:=aD.1 h5;rw[<-yR r.2]at hq;have aXh:cells'.toList.take (r.1.length*t.size)=cells'.toList:=bu aq;obtain⟨g2,β2,i2,YZ⟩:=i1.anV hq (e:=e) (l:=r.1) (cur:=cells') (cap:=n) hz (by rw[aXh];exact B4) (by simp at aHP;rw[aHP,aXr]) aq (by
    have:n<=n*t.size:=Nat.le_mul_of_pos_right n hz;unfold maxLen;omega)
   refine .inl ⟨_,_,sr,g2,β2,?_⟩;rw[hd];rw[aXr]at YZ ⊢;exact i2.put (av q) YZ
  |false=>
   simp only at h4;obtain rfl:=aD.1 h4;have i2:=i1.NS (.cells cells' e);refine .inl ⟨_,_,sr,yc g1 w.heap.size .free,β,?_⟩;rw[hd];refine i2.put (av q) ⟨[.slice (av ⟨w.heap.size,0,aH⟩) n n],?_,rfl⟩;simp only[V,c9];refine⟨_,n,cells'.toList,by rw[aXr],aq,λ_=>rfl,λj v hj=>⟨_,_,rfl,?_,?_⟩,B4.mono λ_ _ hx=>hx.mono (Trans.mem (E:=(s.bF r.2).env w g1 β) (E':=(s.bF r.2).env (w.alloc (.cells cells' e)) (yc g1 w.heap.size .free) β) (Trans.alloc w g1 (.cells cells' e) .free))⟩
   ·show(w.alloc (.cells cells' e)).cell? ⟨w.heap.size,0+j,aH⟩=av v;rw[World.cell?_alloc_new,aV];simpa using hj
   ·show Am (yc g1 w.heap.size .free) w.heap.size (0+j);unfold Am;rw[iG];trivial
 ·simp only[aG]at he
theorem adP(h:Inv C g β s a w){T:TypeId}{x y:cr}(ho:o.op= .makeSlice T x y){len cap:Int}(hx:(asInt (s.ev x)).eval=av len)(hy:(asInt (s.ev y)).eval=av cap){s':AS}
  (he:(vo P s o.dst T len cap).eval=av s'):il P o a w (ka C s'):=by
 obtain⟨k,hx⟩:=Df (h.ev x) hx;obtain⟨k',hy⟩:=Df (h.ev y) hy;unfold vo at he;split at he
 ·rename_i e t b q OO hd;obtain⟨hT,hz,i,zv,hi,aEg,aQm,avG,aEl⟩:=Gf OO;obtain⟨hq,h2⟩:=aR.1 he;obtain⟨h3,h4⟩:=cW.1 h2;obtain rfl:=aD.1 h4;simp only[aw,bt,cZ]at h3;obtain⟨⟨h5,h6⟩,h7,h8⟩:=h3;have hbytes:(i.bytes:Int)*cap<=281474976710656:=by rw[aQm];have:((cap.toNat*b:Nat):Int)<=140737488355328:=aq;rw[mh,show((cap.toNat:Nat):Int)=cap by omega,rT]at this;omega
  have hr:=run_make (P:=P) w T e i zv hT hi avG k k' len cap h5 h6 hbytes aq;rw[aEg]at hr;have aWt:zv.cells.size=t.size:=by have:=(aEl (s.env w g β)).size;simpa using this
  have Ag:=xE (aEl (s.env w g β)) cap.toNat;have aUX:=bH.take (λ_ _ hx=>c9.size hx) len.toNat Ag;rw[List.take_replicate,iU aq]at aUX;obtain⟨g2,β2,i2,YZ⟩:=h.anV hq (e:=e) (l:=ai len.toNat t.zero) (cur:=madeCells zv.cells (cap.toNat*t.size)) (cap:=cap.toNat) hz (by rw[dd];exact aUX) (size_madeCells _ _) (by rw[dd];omega) (by unfold maxLen;omega);rw[dd]at YZ;refine .inl ⟨_,_,fE (f:=Instr.makeSlice T (a.eval x) (a.eval y)) (by simp only[execOp,ho]) (by rw[hx,hy];exact hr),g2,β2,?_⟩;rw[hd];exact i2.put (av q) YZ
 ·simp only[aG]at he
end
end Go.Ab
namespace Go.Ab
section
variable {P:bj} {C:Ctx} {g:Nat->qs} {β:Id->Option Pl} {s:AS} {a:Act} {w:cO} {o:Oper}
theorem axQ:∀(c:aN) (f off:Nat) (v:aN),partOf c f=av (off,v)->(loc c (qd f)).eval=av (off,v):=by
 intro c f
 induction f generalizing c with
 |zero=>
  intro off v h;cases c with
  |d t y=>
   cases t <;> simp only[partOf,reduceCtorEq]at h;simp only[ax,de]at h;obtain⟨rfl,rfl⟩:=h;rfl
  |pr b c=>
   simp only[partOf,ax,de]at h;obtain⟨rfl,rfl⟩:=h;simp only[qd,loc];cases b <;> rfl
  |_=>simp only[partOf,reduceCtorEq]at h
 |succ f ih=>
  intro off v h;cases c with
  |d t y=>
   cases t with
   |pair ta tb=>
    simp only[partOf]at h;cases hp:partOf (.d tb y.2) f with
    |none=>rw[hp]at h;cases h
    |some r=>
     rw[hp]at h;simp only[ax,de]at h;obtain⟨rfl,rfl⟩:=h;simp only[qd,loc,aC];exact⟨_,ih _ _ _ hp,rfl⟩
   |_=>simp only[partOf,reduceCtorEq]at h
  |pr b c=>
   simp only[partOf]at h;cases hp:partOf c f with
   |none=>rw[hp]at h;cases h
   |some r=>
    rw[hp]at h;simp only[ax,de]at h;obtain⟨rfl,rfl⟩:=h;simp only[qd,loc,aC];exact⟨_,ih _ _ _ hp,rfl⟩
  |_=>simp only[partOf,reduceCtorEq]at h
theorem asF(a b:aN):(T1 a b).agg=bm:=by unfold T1;split <;> rfl
theorem ajo{v x v':aN}{i:Nat}(h:(Hb v (qd i) x).eval=av v'):v'.agg=bm:=by
 have fin:∀ {o:Out aN} {f:aN->aN},(∀a,(f a).agg=bm)->(o.bind λa=>Out.ok (f a)).eval=av v'->v'.agg=bm:=by intro o f hf hh;obtain⟨_,_,h2⟩:=aC.1 hh;obtain rfl:=aD.1 h2;exact hf _
 cases i <;> simp only[qd]at h
 all_goals
  cases v with
  |d t y=>cases t <;> first | (simp only[Hb,aG]at h;done) | (simp only[Hb]at h;exact fin (λ_=>asF _ _) h)
  |pr b c=>simp only[Hb]at h;exact fin (λ_=>asF _ _) h
  |_=>simp only[Hb,aG]at h
theorem Nl{E:Env}(aO0:∀x,VS E (s.ev x) (a.eval x)){fs:Array Field}{places:Array (Nat×Nat)}(Sh:∀(i:Nat) (f:Field),fs[i]? =av f->places[i]? =av (f.offset,P.cellsOf f.type)):
  ∀(ps:List (Nat×cr)) (v v':aN) (cells:Array Value),(s5 P fs s ps v).eval=av v'->V E v cells.toList->v.agg=bm->
   ∃cells',Instr.fill (places[·]?) cells (ps.map λ(i,x)=>(i,a.eval x))=av cells'/\V E v' cells'.toList/\v'.agg=bm
 |[],v,v',cells,h,hV,Sf=>by obtain rfl:=aD.1 h;exact⟨cells,rfl,hV,Sf⟩
 | (i,x)::ps,v,v',cells,h,hV,Sf=>by
  simp only[s5]at h;split at h
  ·rename_i f off bP hf hp;obtain⟨h1,h2⟩:=aR.1 h;obtain⟨v1,h3,h4⟩:=aC.1 h2;simp only[aw,eZ]at h1;obtain⟨⟨rfl,aYA⟩,bbc⟩:=h1;obtain⟨awV,_⟩:=vg bbc;obtain⟨cs,hVx,hO⟩:=(aO0 x).fD awV;have hcells:=hO.cells hVx.one;have aZF:=axQ _ _ _ _ hp;obtain⟨u1,u2,u3⟩:=tf (qd i) v cells.toList f.offset bP (s.ev x) v1 cs (VO.of hV) aZF hVx h3;have aXv:v1.iW=aZ:=u3.xf hV.xf;have AL:P.cellsOf f.type=cs.length:=by rw[(Lm bbc).2.1];exact hVx.size.symm
   obtain⟨cells',q1,q2,q3⟩:=Nl aO0 Sh ps v1 v' (dV cells.toList f.offset cs).toArray h4 (by simpa using u2.to aXv) (ajo h3);refine⟨cells',?_,q2,q3⟩;rw[cj,aj5 (by rw[Sh i f hf,AL]) hcells (by simpa using u1)];exact q1
  ·simp only[aG]at h
theorem auM{α γ:Type}(f:α->Sem γ)(r:α->γ):∀(l:List α),(∀x∈l,(f x).run P w= .ok (r x) w)->(l.mapM f).run P w= .ok (l.map r) w
 |[],_=>by simp
 |x::xs,h=>by rw[List.mapM_cons];simp only[cU,h x (by simp),cm,auM f r xs (λy hy=>h y (by simp[hy])),eK,cj]
theorem awk(h:Inv C g β s a w){T:TypeId}{parts:Array (Nat×cr)}(ho:o.op= .build T parts){s':AS}(he:(KZ P s o.dst T parts.toList).eval=av s'):il P o a w (ka C s'):=by
 unfold KZ at he;split at he
 ·rename_i fs hT;split at he
  ·rename_i z bdc;obtain⟨h1,h2⟩:=aR.1 he;obtain⟨v,h3,h4⟩:=aC.1 h2;obtain rfl:=aD.1 h4;simp only[aw,dr]at h1;obtain⟨⟨hz,Sf⟩,aZC⟩:=h1;obtain⟨i,zv,hi,avG,hV,hO⟩:=yU hz (s.env w g β)
   let places:Array (Nat×Nat):=fs.map λf=>(f.offset,P.cellsOf f.type)
   have Sh:∀(i:Nat) (f:Field),fs[i]? =av f->places[i]? =av (f.offset,P.cellsOf f.type):=by intro i f hf;simp[places,hf]
   obtain⟨cells',q1,q2,q3⟩:=Nl (a:=a) h.ev Sh parts.toList z v zv.cells h3 hV Sf;have hm:(fs.mapM λf=>(do pure (f.offset,<-sizeOf f.type):Sem (Nat×Nat))).run P w= .ok places w:=by
    rw[Array.mapM_eq_mapM_toList];have:=auM (P:=P) (w:=w) (λf=>(do pure (f.offset,<-sizeOf f.type):Sem (Nat×Nat))) (λf=>(f.offset,P.cellsOf f.type)) fs.toList (by
     intro f hf;obtain⟨j,hj⟩:=bZ.1 (aZC f hf);rw[cU,run_sizeOf hj,qP hj];rfl)
    rw[Sem.run_map,this];show Result.ok _ w=Result.ok _ w;congr 1;apply hZ;simp[places]
   refine h.value (x:= .agg cells') (VS.of q2 (by rw[q3];simp[gY])) (fE (f:=Instr.build T (parts.map λ(i,x)=>(i,a.eval x))) (by simp only[execOp,ho]) ?_);have q1':Instr.fill (places[·]?) zv.cells (parts.map λ(i,x)=>(i,a.eval x)).toList=av cells':=by rw[W4];exact q1
   simp only[Instr.build,cU,zeroValue,typeInfo,run_program,hi,cm,eK,avG,run_underlying hT,hm,q1']
  ·simp only[aG]at he
 ·rename_i n e hT;split at he
  ·rename_i t ht;obtain⟨h1,h2⟩:=aR.1 he;obtain⟨r,h3,h4⟩:=aC.1 h2;obtain rfl:=aD.1 h4;simp only[aw,eZ]at h1;obtain⟨AL,hz⟩:=h1;obtain⟨g1,i1,e1,t1,f1⟩:=gI r.2 h;obtain⟨i,zv,hi,avG,hV,hO⟩:=yU hz ((s.bF r.2).env w g1 β);simp only[V,c9]at hV;obtain⟨cells',q1,q2⟩:=G4 (a:=a) rfl h.cg e1 h.ev parts.toList _ r zv.cells h3 f1 hV.2;have aXr:r.1.length=n:=by
    have:∀(ps:List (Nat×cr)) (l:List t.den) (r:List t.den×List Id),(km t s ps l).eval=av r->r.1.length=l.length:=by
     intro ps
     induction ps with
     |nil=>intro l r hh;obtain rfl:=aD.1 hh;rfl
     |cons p ps ih=>
      intro l r hh;obtain⟨i,x⟩:=p;simp only[km]at hh;obtain⟨_,h2⟩:=aR.1 hh;obtain⟨y,h3,h4⟩:=aC.1 h2;obtain⟨r',h5,h6⟩:=aC.1 h4;obtain rfl:=aD.1 h6;have:=ih _ _ h5;simpa using this
    rw[this _ _ _ h3];simp
   refine .inl ⟨.agg cells',w,fE (f:=Instr.build T (parts.map λ(i,x)=>(i,a.eval x))) (by simp only[execOp,ho]) ?_,g1,β,i1.put o.dst ⟨cells'.toList,?_,by simp[gY,aN.agg,Ty.agg]⟩⟩
   ·have q1':Instr.fill (λi=>av (i*t.size,t.size)) zv.cells (parts.map λ(i,x)=>(i,a.eval x)).toList=av cells':=by rw[W4];exact q1
    cases aZA:P.info? e with
    |none=>
     exfalso;unfold aAg ahv at ht;simp only[depth]at ht;have:P.underlying e=aH:=by simp[Program.underlying,aZA]
     rw[this]at ht;cases ht
    |some ie=>
     have bbo:=run_sizeOf aZA w;rw[<-qP aZA,AL]at bbo;simp only[Instr.build,cU,zeroValue,typeInfo,run_program,hi,cm,eK,avG,run_underlying hT,bbo,q1']
   ·simp only[V,c9];exact⟨aXr,q2⟩
  ·simp only[aG]at he
 ·simp only[aG]at he
theorem X5{T X ty e:TypeId}{i:TypeInfo}(hT:P.underlying T=av (.slice e))(hX:P.underlying X=av .string\/∃e',P.underlying X=av (.slice e'))(hi:P.info? e=av i)
  {b sLen sCap:Nat} {cur:Array Value} (hg:w.heap[b]? =av (.cells cur e (0,0))) {x:Value} {n:Nat} {news:List Value} (h1:∀u∈news,u.oneCell'=bm)
  (hlen:(Builtin.lenOf x).run P w= .ok n w) (hf:(Builtin.firstCells i.size n x).run P w= .ok news.toArray w) (Pr:sLen+n<=sCap) (anl:sLen*i.size+news.length<=cur.size):
  (Builtin.append_ #[T,X] ty #[.slice (av ⟨b,0,aH⟩) sLen sCap,x]).run P w= .ok (.slice (av ⟨b,0,aH⟩) (sLen+n) sCap) (w.setRow b (dV cur.toList (sLen*i.size) news).toArray):=by
 have xZ:=run_storeCells_at P b (sLen*i.size) e news 0 cur w hg (by simpa using anl) h1;simp only[cD]at xZ;rcases hX with hX | ⟨e',hX⟩ <;> simp[Builtin.append_,run_underlying hT,run_underlying hX,sizeOf,typeInfo,hi,hlen,Pr,hf,Addr.add_lit,xZ,dV]
theorem Kf{T X ty e:TypeId}{i:TypeInfo}(hT:P.underlying T=av (.slice e))(hX:P.underlying X=av .string\/∃e',P.underlying X=av (.slice e'))(hi:P.info? e=av i)
  {x:Value} (hlen:(Builtin.lenOf x).run P w= .ok 0 w) (hf:(Builtin.firstCells i.size 0 x).run P w= .ok #[] w):
  (Builtin.append_ #[T,X] ty #[.slice aH 0 0,x]).run P w= .ok (.slice aH 0 0) w:=by
 rcases hX with hX | ⟨e',hX⟩ <;> simp[Builtin.append_,run_underlying hT,run_underlying hX,sizeOf,typeInfo,hi,hlen,hf]
theorem X4{T X ty e:TypeId}{i:TypeInfo}{zv:Value}(hT:P.underlying T=av (.slice e))(hX:P.underlying X=av .string\/∃e',P.underlying X=av (.slice e'))(hi:P.info? e=av i)(avG:i.zero=av zv)
  {ad:Option Addr} {sLen sCap:Nat} {dh:List Value} (ho:(Builtin.firstCells i.size sLen (.slice ad sLen sCap)).run P w.drew= .ok dh.toArray w.drew) {x:Value} {n:Nat} {news:List Value}
  (hlen:(Builtin.lenOf x).run P w= .ok n w) (hf:(Builtin.firstCells i.size n x).run P w.drew= .ok news.toArray w.drew) (Pr:sCap < sLen+n)
  (bcY:((sLen+n:Nat):Int)<=9223372036854775807) (anl:(sLen+n)*i.bytes<=140737488355328):
  (Builtin.append_ #[T,X] ty #[.slice ad sLen sCap,x]).run P w= .ok (.slice (av ⟨w.heap.size,0,aH⟩) (sLen+n) (grownCap w (sLen+n) sCap e))
   (w.drew.alloc (.cells (dh.toArray++news.toArray++Builtin.zeroCells zv.cells (grownCap w (sLen+n) sCap e - (sLen+n))) e)):=by
 have hn:¬(sLen+n<=sCap):=aq;have h63':¬(9223372036854775807 < ((sLen:Int)+(n:Int))):=aq;have hfit':=growslice_fits (bytes:=i.bytes) Pr anl;have h48':¬(281474976710656 < Builtin.nextslicecap (sLen+n) sCap*i.bytes):=aq;rcases hX with hX | ⟨e',hX⟩
 all_goals
  simp[Builtin.append_,run_underlying hT,run_underlying hX,sizeOf,typeInfo,zeroValue,hi,avG,hlen,hn,h63',h48',Question.forced,hf,ho,newRow,grownCap];congr 2;apply hZ;simp[aO]
end
end Go.Ab
namespace Go.Ab
section
variable {P:bj} {C:Ctx} {g:Nat->qs} {β:Id->Option Pl} {s:AS} {a:Act} {w:cO} {o:Oper}
theorem aL5(h:Inv C g β s a w){v:aN}{y:Value}(hv:VS (s.env w g β) v y){t:Ty}{m:List t.den}(he:(s.aRr (.slice t) v).eval=av m):
  ∃ad cap vs,y= .slice ad m.length cap/\(0 < m.length->ad.isSome=bm)/\(∀j u,vs[j]? =av u->∃bb off,ad=av ⟨bb,off,aH⟩/\w.cell? ⟨bb,off+j,aH⟩=av u)/\bH (c9 (s.env w g β) t) vs m:=by
 have hp:(s.jU (.slice t) v).eval=av m:=he;cases v <;> first | (simp only[AS.jU,aG]at hp;done) | skip
 case dJ=>
  simp only[AS.jU,aD]at hp;subst hp;exact⟨aH,0,[],mX hv,by simp,λj u hj=>by simp at hj,rfl⟩
 case d t' x=>
  simp only[AS.jU]at hp;have hp:=jP.1 hp;have ha:(aN.d t' x).agg=aZ:=ajP hp;have hV:=hv.single rfl ha;simp only[V]at hV;have hv:VS (s.env w g β) (.d (.slice t) m) y:=VS.of (cs:=[y]) (by simp only[V];exact Iv hp hV) rfl;obtain⟨ad,cap,vs,hy,_,hs,hr,hc⟩:=xL hv;exact⟨ad,cap,vs,hy,hs,λj u hj=>let⟨bb,off,e,hh⟩:=hr j u hj;⟨bb,off,e,hh.1⟩,hc⟩
 case bU id ver p c i len=>
  simp only[AS.jU]at hp;obtain⟨⟨n,t',l⟩,h1,h2⟩:=aC.1 hp;obtain⟨h3,h4⟩:=cW.1 h2;obtain⟨aWk,bb8⟩:=aDx (E:=s.env w g β) (jP.1 h4);rw[aWk];simp only[bt]at h3;obtain⟨hc,hlen⟩:=h3
  suffices hg:∃ad cap vs,y= .slice ad (cut l i len).length cap/\(0 < (cut l i len).length->ad.isSome=bm)/\(∀j u,vs[j]? =av u->∃bb off,ad=av ⟨bb,off,aH⟩/\w.cell? ⟨bb,off+j,aH⟩=av u)/\bH (c9 (s.env w g β) t') vs (cut l i len) by obtain⟨ad,cap,vs,e1,e2,e3,e4⟩:=hg;exact⟨ad,cap,vs,e1,e2,e3,bb8 _ e4⟩
  obtain⟨fr,c0,dQ,vj⟩:=XU rfl h.cg h1;obtain⟨ad,cap,hy,hle,w6,hb,im⟩:=zQ hv;have im:=im ⟨fr,c0,dQ⟩;have aO4:(cut l i len).length=len:=IG hlen;rcases vj with⟨hp,hl,_⟩ | ⟨pl,cur,e,hp,hh,AL,B4,hbound⟩
  ·rw[hp]at im;simp only at im;obtain⟨rfl,rfl,rfl⟩:=im;have:cut l i 0=[]:=by simp[cut]
   refine⟨aH,0,[],by rw[aO4];exact hy,by rw[aO4];omega,λ_ _ hh=>by simp at hh,?_⟩;rw[this];rfl
  ·rw[hp]at im;simp only at im;have hmul:(i+len)*t'.size<=l.length*t'.size:=dE _ hlen;rw[fg]at hmul;refine⟨ad,cap,_,by rw[aO4];exact hy,by rw[aO4];exact w6,?_,Qw B4 i len⟩;rw[aeB _ _ _ _ _ hmul];intro j v hj;rw[dY]at hj;split at hj
   ·rename_i aXl;rw[fW,hc]at hj;have aZG:0 < len:=by
     rcases jn len with h0 | h0
     ·subst h0;simp at aXl
     ·exact h0
    refine⟨pl.b,c,im.1 (.inl aZG),?_⟩;have hh':w.heap[pl.b]? =av (.cells cur e (0,0)):=hh
    rw[cell_of_row w pl.b (c+j) cur e (0,0) hh'];simpa using hj
   ·cases hj
theorem Zh(h:Inv C g β s a w){t:Ty}{X:TypeId}{x:aN}{y:Value}(hx:VS (s.env w g β) x y){m:List t.den}(he:(LL P s t X x).eval=av m):
  (P.underlying X=av .string\/∃e',P.underlying X=av (.slice e'))/\∃news:List Value,bH (c9 (s.env w g β) t) news m/\(Builtin.lenOf y).run P w= .ok m.length w/\
   ∀w',w'.heap=w.heap->(Builtin.firstCells t.size m.length y).run P w'= .ok news.toArray w':=by
 have sl:∀(x:aN),VS (s.env w g β) x y->(match P.underlying X with
   |some (.slice _)=>s.aRr (.slice t) x
   |_=> .fail).eval=av m->(P.underlying X=av .string\/∃e',P.underlying X=av (.slice e'))/\∃news:List Value,bH (c9 (s.env w g β) t) news m/\(Builtin.lenOf y).run P w= .ok m.length w/\
   ∀w',w'.heap=w.heap->(Builtin.firstCells t.size m.length y).run P w'= .ok news.toArray w':=by
  intro x hx he;split at he
  ·rename_i e' hX;refine⟨.inr ⟨e',hX⟩,?_⟩;obtain⟨ad,cap,vs,rfl,w6,vj,B4⟩:=aL5 h hx he;have hlen:=bH.length (λ_ _ hx=>c9.size hx) B4;refine⟨vs,B4,rfl,λw' hw'=> ?_⟩;cases ad with
   |none=>
    have aWi:m.length=0:=by
     rcases jn m.length with h0 | h0
     ·exact h0
     ·have:=w6 h0;simp at this
    have:vs=[]:=bJ (by rw[hlen,aWi,pf]);subst this;rfl
   |some ad=>
    refine run_firstCells_some (P:=P) w' t.size _ ad _ _ vs hlen (λj v hj=> ?_);obtain⟨bb,off,e1,hh⟩:=vj j v hj;simp only[ax]at e1;subst e1;rw[Addr.add_lit];simpa[World.cell?,hw']using hh
  ·simp only[aG]at he
 unfold LL at he;split at he
 ·rename_i st;split at he
  ·rename_i hX;refine⟨.inl hX,?_⟩;obtain⟨e,hm⟩:=jN (jP.1 he);have e':Ty.int .u8=t:=by simpa using e
   subst e';simp only at hm;subst hm;have hy:=Nu hx;subst hy;have hlen:(bS st).length=st.size:=by simp only[bS,da,dv];rfl
   refine⟨(bS st).map (Value.int .u8),Lt _,by rw[hlen];rfl,λw' _=> ?_⟩;rw[hlen];simp only[Builtin.firstCells,eK];congr 1;apply hZ;rw[ByteArray.extract_zero_size];simp[bS]
  ·simp only[aG]at he
 ·exact sl _ hx he
theorem EC(z:Array Value)(n:Nat):(Builtin.zeroCells z n).size=n*z.size:=by simp[Builtin.zeroCells]
theorem aDy(h:Inv C g β s a w){c:Call}{x y:cr}{T X:TypeId}(ho:o.op= .call c)(hc:c.callee= .builtin .copy)(ha:c.args.toList=[x,y])(ht:c.argTypes.toList=[T,X]){s':AS}
  (he:(acE P s o.dst T X (s.ev x) (s.ev y)).eval=av s'):il P o a w (ka C s'):=by
 obtain⟨cal,args,tys⟩:=c;simp only at hc ha ht;have ha':args= #[x,y]:=by apply hZ;simpa using ha
 have ht':tys= #[T,X]:=by apply hZ;simpa using ht
 subst hc ha' ht';have hx:=h.ev x;have hy:=h.ev y;have fin:∀z w',(Builtin.copy_ #[T,X] 0 #[a.eval x,a.eval y]).run P w= .ok z w'->(∃g' β',Inv C g' β' s' (a.put o.dst z) w')->il P o a w (ka C s'):=by intro z w' h1 h2;refine .inl ⟨z,w',F9 ho (f:=Builtin.copy_ #[T,X] 0 #[a.eval x,a.eval y]) (λty cs xs avF=> ?_) h1,h2⟩;subst avF;have e1:Builtin.copy_ #[T,X] 0 #[a.eval x,a.eval y]=Builtin.copy_ #[T,X] ty #[a.eval x,a.eval y]:=rfl;rw[e1];simp[builtin]
 unfold acE at he;split at he
 ·rename_i e t b id ver len OO avF;obtain⟨hT,hz,i,zv,hi,aEg,aQm,avG,aEl⟩:=Gf OO;obtain⟨m,hm,he⟩:=aC.1 he;obtain⟨hX,news,B4,hlen,aTi⟩:=Zh h hy hm;have aQr:=B4.length (λ_ _ hx=>c9.size hx);have h1news:∀u∈news,u.oneCell'=bm:=bH.all (λ_ _ hx=>hx.one) B4;rw[<-aEg]at aTi;split at he
  ·rename_i ve n t' l qF;obtain⟨h1,Q4⟩:=aR.1 he;simp only[aw,eZ]at h1;obtain⟨aKt,bb5⟩:=h1;subst aKt bb5;obtain⟨l',hl',ahF⟩:=aC.1 Q4;obtain⟨et,hl'⟩:=jN (jP.1 hl');have et':t'=t:=by simpa using et
   subst et';simp only at hl';subst hl';obtain⟨aWk,aWf⟩:=cW.1 ahF;have aWk:m.length<=len:=by simpa using aWk
   obtain rfl:=aD.1 aWf;have dQ:=fT qF;rw[avF]at hx;obtain⟨ad,cap,aHR,aO1,w6,adj,im⟩:=zQ hx;have im:=im ⟨aZ,_,dQ⟩;obtain⟨pl,cur,e0,hp,hh,hg,hk,hV⟩:=(h.cg id ve aZ _ dQ).box rfl;have hp:β id=av pl:=hp;have hh:w.heap[pl.b]? =av (.cells cur e0 (0,0)):=hh
   have hg:g pl.b= .own (.id id) 0:=hg;have hcur':(match β id with
    |some pl=>(0 < len\/0=0->ad=av ⟨pl.b,0,aH⟩)/\(([.arr]:List Se)=[]->0=0->cap=pl.cap)
    |none=>ad=aH/\len=0/\cap=0):=im
   rw[hp]at hcur';simp only at hcur';have aEa:=hcur'.1 (.inr trivial);subst aEa;have hV:V (s.env w g β) (.d (.arr len t') l) (cur.toList.take cur.size):=hV;rw[<-dv,bN]at hV;simp only[V,c9]at hV;obtain⟨aTl,hVc⟩:=hV;have aHP:=hVc.length (λ_ _ hx=>c9.size hx);have anl:news.length<=cur.size:=by
    rw[aQr];have:cur.size=l.length*t'.size:=by simpa using aHP
    rw[this,aTl];exact dE _ aWk
   have xZ:=run_storeCells_at P pl.b 0 e0 news 0 cur w hh (by simpa using anl) h1news;have sr:(Builtin.copy_ #[T,X] 0 #[a.eval x,a.eval y]).run P w= .ok (goInt m.length) (w.setRow pl.b (dV cur.toList 0 news).toArray):=by have aZI:Nat.min m.length len=m.length:=iU aWk;rw[aHR];simp only[cD,aV]at xZ;simp[Builtin.copy_,run_underlying hT,hlen,sizeOf,typeInfo,hi,aZI,aTi w rfl,xZ,dV]
   have aw6:=Trans.setRow w hg (dV cur.toList 0 news).toArray;have hle:dI (s.env w g β) ((s.bI id (.obj ve aZ (.d (.arr len t') (m++l.drop m.length)))).env (w.setRow pl.b (dV cur.toList 0 news).toArray) g β):=dI.bI dQ (az _) aw6 (λ_ _=>rfl) (λ_=>rfl);have i1:=h.step (eo _ _ _) aw6 hle (ku.bI (ahU:=sB dQ λk v1 l e=>by cases e) h.cg (by rw[dQ];simp) hle (λ_ _=>rfl) (λi ver fr c pl2 hi ahW YT=>⟨setRow_other w pl.b pl2.b _ (h.apart hg hi ahW YT),rfl⟩) (Wg.obj ⟨pl,_,e0,hp,setRow_heap w pl.b cur _ e0 (0,0) hh,hg,trivial,by
    show V _ (.d (.arr len t') (m++l.drop m.length)) ((dV cur.toList 0 news).toArray.toList.take (dV cur.toList 0 news).toArray.size);rw[<-dv,bN];simp only[V,c9];refine⟨by rw[ak,du];omega,?_⟩;have e2:dV cur.toList 0 news=news++cur.toList.drop (m.length*t'.size):=by simp[dV,aQr]
    have q:bH (c9 (s.env w g β) t') (dV cur.toList 0 news) (m++l.drop m.length):=by rw[e2];exact bH.append B4 (bH.drop (λ_ _ hx=>c9.size hx) m.length hVc)
    exact q.mono λ_ _ hx=>hx.mono hle.mem⟩))
   exact fin _ _ sr ⟨g,β,i1.put o.dst ⟨[.int .i64 (m.length:Int)],by simp only[V,c9],rfl⟩⟩
  ·exact(aG.1 he).elim
 ·exact(aG.1 he).elim
theorem aqn(h:Inv C g β s a w){c:Call}{x y:cr}{T X:TypeId}(ho:o.op= .call c)(hc:c.callee= .builtin .append)(ha:c.args.toList=[x,y])(ht:c.argTypes.toList=[T,X]){s':AS}
  {nl dt:Bool} (he:(Bo P s nl dt o.dst T X (s.ev x) (s.ev y)).eval=av s'):il P o a w (ka C s'):=by
 obtain⟨cal,args,tys⟩:=c;simp only at hc ha ht;have ha':args= #[x,y]:=by apply hZ;simpa using ha
 have ht':tys= #[T,X]:=by apply hZ;simpa using ht
 subst hc ha' ht';have hx:=h.ev x;have hy:=h.ev y;have fin:∀z w',(Builtin.append_ #[T,X] 0 #[a.eval x,a.eval y]).run P w= .ok z w'->(∃g' β',Inv C g' β' s' (a.put o.dst z) w')->il P o a w (ka C s'):=by intro z w' h1 h2;refine .inl ⟨z,w',F9 ho (f:=Builtin.append_ #[T,X] 0 #[a.eval x,a.eval y]) (λty cs xs avF=> ?_) h1,h2⟩;subst avF;have e1:Builtin.append_ #[T,X] 0 #[a.eval x,a.eval y]=Builtin.append_ #[T,X] ty #[a.eval x,a.eval y]:=rfl;rw[e1];simp[builtin]
 unfold Bo at he;split at he
 ·rename_i e t b q OO hd;obtain⟨hT,hz,i,zv,hi,aEg,aQm,avG,aEl⟩:=tM OO;obtain⟨m,hm,he⟩:=aC.1 he;obtain⟨hX,news,B4,hlen,aTi⟩:=Zh h hy hm;have aQr:=B4.length (λ_ _ hx=>c9.size hx);have h1news:∀u∈news,u.oneCell'=bm:=bH.all (λ_ _ hx=>hx.one) B4;rw[<-aEg]at aTi;have aWt:zv.cells.size=t.size:=by have:=(aEl (s.env w g β)).size;simpa using this
  have aZ5:∀n,(Builtin.zeroCells zv.cells n).size=n*t.size:=λn=>by rw[EC,aWt]
  have grow:∀(ad:Option Addr) (sLen sCap:Nat) (dh:List Value) (l0:List t.den),a.eval x= .slice ad sLen sCap->dh.length=sLen*t.size->l0.length=sLen->bH (c9 (s.env w g β) t) dh l0->
    (Builtin.firstCells i.size sLen (.slice ad sLen sCap)).run P w.drew= .ok dh.toArray w.drew->sCap < sLen+m.length->cZ (sLen+m.length) b=bm->
    ∃(cur:Array Value) (cap:Nat),(Builtin.append_ #[T,X] 0 #[a.eval x,a.eval y]).run P w= .ok (.slice (av ⟨w.heap.size,0,aH⟩) (sLen+m.length) cap) (w.drew.alloc (.cells cur e))/\
     cur.size=cap*t.size/\sLen+m.length<=cap/\cap<=maxLen/\cur.toList.take ((sLen+m.length)*t.size)=dh++news:=by
   intro ad sLen sCap dh l0 aHR abF bbi aW7 aYA Pr avD;simp only[cZ,bt]at avD;have hr:=X4 (P:=P) (w:=w) (ty:=0) hT hX hi avG aYA hlen (aTi w.drew rfl) Pr aq (by rw[aQm];exact avD.1);rw[aHR];refine⟨_,_,hr,?_,grownCap_ge _ _ _ _,grownCap_le_maxLen _ _ _ _ (by unfold maxLen;omega),?_⟩
   ·have bc5:=grownCap_ge w (sLen+m.length) sCap e;simp only[Array.size_append,iM,aZ5,abF,aQr,<-fg];congr 1;omega
   ·have awW:(dh++news).length=(sLen+m.length)*t.size:=by rw[ak,abF,aQr,fg]
    simp only[cY];rw[<-awW];exact List.take_left
  split at he
  ·rename_i bcs;rw[bcs]at hx;have aHR:=mX hx;cases dt with
   |true=>
    simp only at he;obtain⟨avD,he⟩:=cW.1 he;obtain rfl:=aD.1 he;simp only[aw,bt]at avD;obtain⟨avD,aWi⟩:=avD;obtain⟨cur,cap,hr,q1,q2,q3,q4⟩:=grow aH 0 0 [] [] aHR (by simp) rfl rfl rfl aq (by simpa using avD);simp only[aV,aY]at hr q2 q4;have aZr:bH (c9 (s.env w.drew g β) t) news m:=B4.mono λ_ _ hx=>hx.mono (dI.same (s:=s) (β:=β) (Trans.drew w g)).mem
    refine fin _ _ hr ⟨yc g w.heap.size .free,β,(h.drew.NS (.cells cur e)).put o.dst ⟨[.slice (av ⟨w.heap.size,0,aH⟩) m.length cap],?_,rfl⟩⟩;simp only[V,c9];refine⟨λh0=>(by cases h0),λm' hm'=> ?_⟩;obtain rfl:m=m':=bf hm';refine⟨_,cap,cur.toList.take (m.length*t.size),rfl,q2,λ_=>rfl,λj v hj=>⟨_,_,rfl,?_,?_⟩,?_⟩
    ·show(w.drew.alloc (.cells cur e)).cell? ⟨w.drew.heap.size,0+j,aH⟩=av v;rw[World.cell?_alloc_new,aV];rw[dY]at hj;split at hj
     ·simpa using hj
     ·cases hj
    ·show Am (yc g w.heap.size .free) w.heap.size (0+j);unfold Am;rw[iG];trivial
    ·rw[q4];exact aZr.mono λ_ _ hx=>hx.mono (Trans.mem (E:=s.env w.drew g β) (E':=s.env (w.drew.alloc (.cells cur e)) (yc g w.drew.heap.size .free) β) (Trans.alloc w.drew g (.cells cur e) .free))
   |false=>
   simp only at he;obtain⟨hq,he⟩:=aR.1 he;obtain⟨avD,he⟩:=cW.1 he;obtain rfl:=aD.1 he;by_cases aWi:m.length=0
   ·have aZJ:m=[]:=bJ aWi;subst aZJ;have aZM:news=[]:=bJ (by rw[aQr];simp);subst aZM;obtain⟨β',i1,e1,v1⟩:=h.aLp hq (e:=e) hz;refine fin (.slice aH 0 0) w ?_ ⟨g,β',?_⟩
    ·rw[aHR];exact Kf (P:=P) hT hX hi hlen (aTi w rfl)
    ·exact i1.put o.dst v1
   ·obtain⟨cur,cap,hr,q1,q2,q3,q4⟩:=grow aH 0 0 [] [] aHR (by simp) rfl rfl rfl aq (by simpa using avD);simp only[aV,aY]at hr q2 q4;obtain⟨g2,β2,i2,v2⟩:=(h.drew).anV hq (e:=e) (l:=m) (cur:=cur) (cap:=cap) hz (by rw[q4];exact B4.mono λ_ _ hx=>hx.mono (dI.same (s:=s) (β:=β) (Trans.drew w g)).mem) q1 q2 q3;refine fin _ _ hr ⟨g2,β2,?_⟩;exact i2.put o.dst v2
  ·rename_i id ver len avF;rw[avF]at hx;obtain⟨ad,cap,aHR,aO1,w6,adj,im⟩:=zQ hx;split at he
   ·rename_i v fr e' t' l qF;obtain⟨h1,Q4⟩:=aR.1 he;clear he;simp only[aw,eZ]at h1;obtain⟨aKt,bbT⟩:=h1;subst aKt bbT;obtain⟨l',hl',ahF⟩:=aC.1 Q4;obtain⟨et,hl'⟩:=jN (jP.1 hl');have et':t'=t:=by simpa using et
    subst et';simp only at hl';subst hl';obtain⟨aQp,aXb⟩:=cW.1 ahF;have aQp:len<=l.length:=by simpa using aQp
    obtain⟨bbb,aWf⟩:=cW.1 aXb;obtain⟨avD,bba⟩:=cW.1 aWf;obtain rfl:=aD.1 bba;clear Q4 ahF aXb aWf bba;have dQ:=fT qF;have im:=im ⟨fr,_,dQ⟩;obtain⟨_,hO⟩:=h.cg id v fr _ dQ;have hO':(match β id with
     |none=>l=[]
     |some pl=>∃cur k,w.heap[pl.b]? =av (.cells cur e (0,0))/\cur.size=pl.cap*t'.size/\l.length<=pl.cap/\pl.cap<=maxLen/\g pl.b= .own (.id id) k/\
       k<=l.length*t'.size/\(fr=aZ->k=0)/\bH (c9 (s.env w g β) t') (cur.toList.take (l.length*t'.size)) l):=hO
    have hcur':(match β id with
     |some pl=>(0 < len\/0=0->ad=av ⟨pl.b,0,aH⟩)/\(([]:List Se)=[]->0=0->cap=pl.cap)
     |none=>ad=aH/\len=0/\cap=0):=im
    have aZw:fr=aZ\/len=l.length:=by simp only[iT,di,bt]at bbb;exact bbb
    have jk:s.cJ id≠aH:=by rw[dQ];simp
    have fresh:∀(cur:Array Value) (cp:Nat) (g0:Nat->qs),Trans w (w.drew.alloc (.cells cur e)) g (yc g0 w.heap.size (.own (.id (id)) 0))->
      (∀i ver fr c pl,i≠id->s.cJ i=av (.obj ver fr c)->β i=av pl->g0 pl.b=g pl.b)->cur.size=cp*t'.size->len+m.length<=cp->cp<=maxLen->
      bH (c9 (s.env w g β) t') (cur.toList.take ((len+m.length)*t'.size)) (l.take len++m)->len<=l.length->
      ∃g' β',Inv C g' β' ((s.bI id (.obj (v+1) fr (.vec e t' (l.take len++m)))).put o.dst (.bU id (v+1) [] 0 0 (len+m.length))) (a.put o.dst (.slice (av ⟨w.heap.size,0,aH⟩) (len+m.length) cp)) (w.drew.alloc (.cells cur e)):=by
     intro cur cp g0 ht aZx q1 q2 q3 q4 q5;have aTl:(l.take len++m).length=len+m.length:=by simp;omega
     have hle:dI (s.env w g β) ((s.bI id (.obj (v+1) fr (.vec e t' (l.take len++m)))).env (w.drew.alloc (.cells cur e)) (yc g0 w.heap.size (.own (.id id) 0)) (OU β id (av ⟨w.heap.size,cp⟩))):=
      dI.bI dQ aq ht (λi hi=>Ey _ _ _ hi) (λhh=>aq)
     have i1:=h.step (eo _ _ _) ht hle (ku.bI (ahU:=sB dQ λk v1 l e=>by cases e) h.cg jk hle (λi hi=>Ey _ _ _ hi) (λi ver fr' c' pl hi ahW YT=>by
       have fF:pl.b < w.heap.size:=((h.cg i ver fr' c' ahW).label (pl:=pl) YT).1;exact⟨z8 w.drew _ fF,by rw[iR _ _ _ aq];exact aZx i ver fr' c' pl hi ahW YT⟩) (by
      refine⟨hz,?_⟩;show(match OU β id (av ⟨w.heap.size,cp⟩) id with
       |none=>(l.take len++m)=[]
       |some pl=>_)
      rw[oF];refine⟨cur,0,De w.drew _,q1,by rw[aTl];exact q2,q3,iG _ _ _,aL _,λ_=>rfl,?_⟩;rw[aTl];exact q4.mono λ_ _ hx=>hx.mono hle.mem))
     refine⟨_,_,i1.put o.dst ⟨_,?_,rfl⟩⟩;simp only[V];have vU:=fu s id (.obj (v+1) fr (.vec e t' (l.take len++m))) jk;refine⟨_,_,rfl,q2,λ_=>rfl,⟨by show(s.bI id _).cJ id≠aH;rw[vU];simp,λv' fr' c' hh=> ?_⟩,λ_=> ?_⟩
     ·have hh':(s.bI id (.obj (v+1) fr (.vec e t' (l.take len++m)))).cJ id=av (.obj v' fr' c'):=hh;rw[vU]at hh';simp only[ax,eJ.obj.injEq]at hh';omega
     ·show(match OU β id (av ⟨w.heap.size,cp⟩) id with
       |some pl=>_
       |none=>_)
      rw[oF];exact⟨λ_=>rfl,λ_ _=>rfl⟩
    cases hp:β id with
    |none=>
     rw[hp]at hO' hcur';simp only at hO' hcur';obtain⟨rfl,rfl,rfl⟩:=hcur';subst hO';by_cases aWi:m.length=0
     ·have aZJ:m=[]:=bJ aWi;subst aZJ;have aZM:news=[]:=bJ (by rw[aQr];simp);subst aZM;have ht:=Trans.refl w g;have hle:dI (s.env w g β) ((s.bI id (.obj (v+1) fr (.vec e t' []))).env w g β):=dI.bI dQ aq ht (λ_ _=>rfl) (λ_=>rfl);have i1:=h.step (eo _ _ _) ht hle (ku.bI (ahU:=sB dQ λk v1 l e=>by cases e) h.cg jk hle (λ_ _=>rfl) (λ_ _ _ _ _ _ _ _=>⟨rfl,rfl⟩) (by
       refine⟨hz,?_⟩;show(match β id with
        |none=>([]:List t'.den)=[]
        |some pl=>_)
       rw[hp]))
      refine fin (.slice aH 0 0) w ?_ ⟨g,β,i1.put o.dst ⟨_,?_,rfl⟩⟩
      ·rw[aHR];exact Kf (P:=P) hT hX hi hlen (aTi w rfl)
      ·simp only[V];have vU:=fu s id (.obj (v+1) fr (.vec e t' [])) jk;refine⟨_,_,rfl,az _,λhh=>by simp at hh,⟨by show(s.bI id _).cJ id≠aH;rw[vU];simp,λv' fr' c' hh=> ?_⟩,λ_=> ?_⟩
       ·have hh':(s.bI id (.obj (v+1) fr (.vec e t' []))).cJ id=av (.obj v' fr' c'):=hh;rw[vU]at hh';simp only[ax,eJ.obj.injEq]at hh';omega
       ·show(match β id with
         |some pl=>_
         |none=>_)
        rw[hp];exact⟨rfl,by simp,rfl⟩
     ·obtain⟨cur,cp,hr,q1,q2,q3,q4⟩:=grow aH 0 0 [] [] aHR (by simp) rfl rfl rfl aq avD;refine fin _ _ hr (fresh cur cp g (Trans.trans (Trans.drew w g) (Trans.alloc w.drew g _ _)) (λ_ _ _ _ _ _ _ _=>rfl) q1 q2 q3 ?_ (by simp));rw[q4];simpa using B4
    |some pl=>
     rw[hp]at hO' hcur';simp only at hO' hcur';obtain⟨aEa,anj⟩:=hcur';have aEa:=aEa (.inr trivial);have anj:=anj trivial trivial;subst aEa anj;obtain⟨cur,k,p1,p2,p3,p4,p5,p6,p7,p8⟩:=hO';have hk:k<=len*t'.size:=by
      rcases aZw with hf | hf
      ·rw[p7 hf];exact aL _
      ·rw[hf];exact p6
     have hmul:len*t'.size<=l.length*t'.size:=dE _ aQp;have bbk:l.length*t'.size<=cur.size:=by rw[p2];exact dE _ p3
     have aUX:=bH.take (λ_ _ hx=>c9.size hx) len p8;rw[qL,iU hmul]at aUX;have abF:(cur.toList.take (len*t'.size)).length=len*t'.size:=by simp;omega
     by_cases Pr:len+m.length<=pl.cap
     ·have bcj:(len+m.length)*t'.size<=cur.size:=by rw[p2];exact dE _ Pr
      have anl:len*i.size+news.length<=cur.size:=by rw[aEg,aQr,<-fg];exact bcj
      have hr:=X5 (P:=P) (w:=w) (ty:=0) hT hX hi p1 h1news hlen (aTi w rfl) Pr anl;rw[aEg]at hr anl;have ht:Trans w (w.setRow pl.b (dV cur.toList (len*t'.size) news).toArray) g g:=by
       refine⟨by simp,by simp,by simp,by simp,λb' hb=> ?_⟩;by_cases ani:b'=pl.b
       ·subst ani;rw[p5];refine⟨.inr ⟨id,k,rfl,az _⟩,λoff u aQt hu=> ?_⟩;rw[cell_of_row w pl.b off cur e (0,0) p1]at hu;rw[cell_setRow_same w pl.b off cur _ e (0,0) p1];simp only[dV,aO,List.getElem?_toArray];rw[fV (by rw[abF];omega),dY,if_pos aq];simpa using hu
       ·rw[setRow_other w pl.b b' _ ani];cases adm:g b' with
        |free=>exact⟨rfl,rfl⟩
        |own o' k=>cases o' with
         |gf=>exact⟨rfl,rfl⟩
         |id i'=>exact⟨.inr ⟨i',k,rfl,az _⟩,λoff v _ hv=>by rw[cell_setRow_other w pl.b _ _ ani];exact hv⟩
      have hle:dI (s.env w g β) ((s.bI id (.obj (v+1) fr (.vec e t' (l.take len++m)))).env (w.setRow pl.b (dV cur.toList (len*t'.size) news).toArray) g β):=
       dI.bI dQ aq ht (λ_ _=>rfl) (λ_=>rfl)
      have aTl:(l.take len++m).length=len+m.length:=by simp;omega
      have aZW:(dV cur.toList (len*t'.size) news).length=cur.toList.length:=kY (by simpa using anl);have i1:=h.step (eo _ _ _) ht hle (ku.bI (ahU:=sB dQ λk v1 l e=>by cases e) h.cg jk hle (λ_ _=>rfl) (λi ver fr c pl2 hi ahW YT=>⟨setRow_other w pl.b pl2.b _ (h.apart p5 hi ahW YT),rfl⟩) (by
       refine⟨hz,?_⟩;show(match β id with
        |none=>(l.take len++m)=[]
        |some pl=>_)
       rw[hp];refine⟨_,k,setRow_heap w pl.b cur _ e (0,0) p1,by rw[iM,aZW];simpa using p2,by rw[aTl];exact Pr,p4,p5,?_,p7,?_⟩
       ·rw[aTl,fg];omega
       ·rw[aTl,show(dV cur.toList (len*t'.size) news).toArray.toList=dV cur.toList (len*t'.size) news from rfl];have e1:(dV cur.toList (len*t'.size) news).take ((len+m.length)*t'.size)=cur.toList.take (len*t'.size)++news:=by
         unfold dV;have awW:(cur.toList.take (len*t'.size)++news).length=(len+m.length)*t'.size:=by rw[ak,abF,aQr,fg]
         rw[<-awW];exact List.take_left
        rw[e1];exact(bH.append aUX B4).mono λ_ _ hx=>hx.mono hle.mem))
      rw[<-aHR]at hr;refine fin _ _ hr ⟨g,β,i1.put o.dst ⟨_,?_,rfl⟩⟩;simp only[V];have vU:=fu s id (.obj (v+1) fr (.vec e t' (l.take len++m))) jk;refine⟨_,_,rfl,Pr,λ_=>rfl,⟨by show(s.bI id _).cJ id≠aH;rw[vU];simp,λv' fr' c' hh=> ?_⟩,λ_=> ?_⟩
      ·have hh':(s.bI id (.obj (v+1) fr (.vec e t' (l.take len++m)))).cJ id=av (.obj v' fr' c'):=hh;rw[vU]at hh';simp only[ax,eJ.obj.injEq]at hh';omega
      ·show(match β id with
        |some pl=>_
        |none=>_)
       rw[hp];exact⟨λ_=>rfl,λ_ _=>rfl⟩
     ·have aYA:(Builtin.firstCells i.size len (.slice (av ⟨pl.b,0,aH⟩) len pl.cap)).run P w.drew= .ok (cur.toList.take (len*t'.size)).toArray w.drew:=by
       refine run_firstCells_some (P:=P) w.drew i.size _ _ _ _ _ (by rw[abF,aEg]) (λj u hj=> ?_);rw[Addr.add_lit,aV];show w.cell? ⟨pl.b,j,aH⟩=av u;rw[cell_of_row w pl.b j cur e (0,0) p1];rw[dY]at hj;split at hj
       ·simpa using hj
       ·cases hj
      obtain⟨cur2,cp,hr,q1,q2,q3,q4⟩:=grow (av ⟨pl.b,0,aH⟩) len pl.cap (cur.toList.take (len*t'.size)) (l.take len) aHR abF (by simp;omega) aUX aYA aq avD;have fF:pl.b < w.heap.size:=(cS.1 p1).1;have aKl:Trans w w.drew g (yc g pl.b .free):=by
       refine⟨rfl,rfl,⟨rfl,vH _⟩,az _,λb' hb=> ?_⟩;by_cases ani:b'=pl.b
       ·subst ani;rw[p5,iG];exact⟨.inl rfl,λ_ _ _ hh=>hh⟩
       ·rw[iR _ _ _ ani];exact(Trans.drew w g).BE b' hb
      refine fin _ _ hr (fresh cur2 cp (yc g pl.b .free) (Trans.trans aKl (Trans.alloc w.drew _ _ _)) (λi ver fr c pl2 hi ahW YT=>iR _ _ _ (h.apart p5 hi ahW YT)) q1 q2 q3 ?_ aQp);rw[q4];exact bH.append aUX B4
   ·simp only[aG]at he
  ·simp only[aG]at he
 ·simp only[aG]at he
end
end Go.Ab
namespace Go.Ab
abbrev Ren:=Id->Nat->Option (Id×Nat)
structure He(ρ:Ren)(E E':Env):Prop where
 mem:wH E E'
 ref:∀id ver r,ρ id ver=av r->E.KE id ver->E'.KE r.1 r.2/\(E'.cur r.1 r.2->E.cur id ver/\E'.β r.1=E.β id)
theorem aCa(ρ:Ren)(a:aN):(a.l7 ρ).agg=a.agg:=by
 cases a with
 |ptr id v p n=>simp only[aN.l7];cases ρ id v <;> rfl
 |bU id v p c i l=>simp only[aN.l7];cases ρ id v <;> rfl
 |c7 id v=>simp only[aN.l7];cases ρ id v <;> rfl
 |_=>rfl
mutual
theorem aqc{ρ:Ren}{E E':Env}(h:He ρ E E'):∀ {a:aN} {cs:List Value},V E a cs->V E' (a.l7 ρ) cs
 | .undef,_,hv=>by simp only[V]at hv
 | .gone,_,hv=>by simpa only[aN.l7,V]using hv
 | .dJ,_,hv=>by simpa only[aN.l7,V]using hv
 | .jW,_,hv=>by simpa only[aN.l7,V]using hv
 | .AV,_,hv=>by simpa only[aN.l7,V]using hv
 | .HB,_,hv=>by simpa only[aN.l7,V]using hv
 | .d t x,_,hv=>by simp only[aN.l7,V]at hv ⊢;exact hv.mono h.mem
 | .pr a b,_,hv=>by simp only[aN.l7,V]at hv ⊢;obtain⟨ca,cb,e,ha,hb⟩:=hv;exact⟨ca,cb,e,aqc h ha,aqc h hb⟩
 | .ptr id ver p n,_,hv=>by
  have h1:=hv.one;simp only[aN.l7];cases hr:ρ id ver with
  |none=>
   simp only[V]at hv ⊢;obtain⟨a,e,_⟩:=hv;exact⟨_,e,h1 _ (by simp[e])⟩
  |some r=>
   simp only[V]at hv ⊢;obtain⟨a,e,hb,hc⟩:=hv;obtain⟨b1,b2⟩:=h.ref id ver r hr hb;refine⟨a,e,b1,λc=> ?_⟩;obtain⟨c1,e1⟩:=b2 c;rw[e1];exact hc c1
 | .dz t x,_,hv=>by simp only[aN.l7,V]at hv ⊢;obtain⟨b,off,vs,e,hr,hx⟩:=hv;exact⟨b,off,vs,e,hr.mono h.mem,hx.mono h.mem⟩
 | .bU id ver p c i len,_,hv=>by
  have h1:=hv.one;simp only[aN.l7];cases hr:ρ id ver with
  |none=>
   simp only[V]at hv ⊢;obtain⟨a,cap,e,_⟩:=hv;exact⟨_,e,h1 _ (by simp[e])⟩
  |some r=>
   simp only[V]at hv ⊢;obtain⟨a,cap,e,hl,hs,hb,hc⟩:=hv;obtain⟨b1,b2⟩:=h.ref id ver r hr hb;refine⟨a,cap,e,hl,hs,b1,λc=> ?_⟩;obtain⟨c1,e1⟩:=b2 c;rw[e1];exact hc c1
 | .fn f c,_,hv=>by simp only[aN.l7,V]at hv ⊢;obtain⟨vs,e,hc⟩:=hv;exact⟨vs,e,avQ h hc⟩
 | .cons _ _,_,hv=>by simp only[V]at hv
 | .nil,_,hv=>by simp only[V]at hv
 | .vec ..,_,hv=>by simp only[V]at hv
 | .bx ..,_,hv=>by simp only[V]at hv
 | .c7 id ver,_,hv=>by
  have h1:=hv.one;simp only[aN.l7];cases hr:ρ id ver with
  |none=>
   simp only[V]at hv ⊢;obtain⟨b,e,_⟩:=hv;exact⟨_,e,h1 _ (by simp[e])⟩
  |some r=>
   simp only[V]at hv ⊢;obtain⟨b,e,hb,hc⟩:=hv;obtain⟨b1,b2⟩:=h.ref id ver r hr hb;refine⟨b,e,b1,λc=> ?_⟩;obtain⟨c1,e1⟩:=b2 c;rw[e1];exact hc c1
 | .mp ..,_,hv | .tP ..,_,hv=>by simp only[V]at hv
theorem avQ{ρ:Ren}{E E':Env}(h:He ρ E E'):∀ {a:aN} {vs:List Value},VC E a vs->VC E' (a.l7 ρ) vs
 | .nil,_,hv=>by simpa only[aN.l7,VC]using hv
 | .cons a b,_,hv=>by simp only[aN.l7,VC]at hv ⊢;obtain⟨v,vs',cs,e,ha,ho,hb⟩:=hv;exact⟨v,vs',cs,e,aqc h ha,by rw[aCa];exact ho,avQ h hb⟩
 | .undef,_,hv=>by simp only[VC]at hv
 | .gone,_,hv=>by simp only[VC]at hv
 | .dJ,_,hv=>by simp only[VC]at hv
 | .jW,_,hv=>by simp only[VC]at hv
 | .AV,_,hv=>by simp only[VC]at hv
 | .HB,_,hv=>by simp only[VC]at hv
 | .d t x,_,hv=>by simp only[VC]at hv
 | .pr a b,_,hv=>by simp only[VC]at hv
 | .ptr ..,_,hv=>by simp only[VC]at hv
 | .dz ..,_,hv=>by simp only[VC]at hv
 | .bU ..,_,hv=>by simp only[VC]at hv
 | .fn ..,_,hv=>by simp only[VC]at hv
 | .vec ..,_,hv=>by simp only[VC]at hv
 | .bx ..,_,hv=>by simp only[VC]at hv
 | .c7 ..,_,hv=>by simp only[VC]at hv
 | .mp ..,_,hv | .tP ..,_,hv=>by simp only[VC]at hv
end
theorem Wj{ρ:Ren}{E E':Env}(h:He ρ E E'){a:aN}{v:Value}(hv:VS E a v):VS E' (a.l7 ρ) v:=by
 by_cases hc:a.fD=bm
 ·obtain⟨cs,h1,h2⟩:=hv.fD hc;exact VS.of (aqc h h1) (by rw[aCa];exact h2)
 ·cases a <;> first | (exact absurd rfl hc) | skip
  ·trivial
  ·obtain⟨vs,e,aXG⟩:=hv;have:=avQ h aXG;simp only[aN.l7]at this ⊢;exact⟨vs,e,this⟩
  ·exact hv
  ·obtain⟨cs,h1,_⟩:=hv;simp only[V]at h1
  ·obtain⟨cs,h1,_⟩:=hv;simp only[V]at h1
  ·obtain⟨cs,h1,_⟩:=hv;simp only[V]at h1
  ·obtain⟨cs,h1,_⟩:=hv;simp only[V]at h1
theorem aGF(ρ:Ren)(c:aN):(c.l7 ρ).strip=c.strip.l7 ρ:=by
 cases c <;> first
  |rfl
  | (rename_i id ver p n;simp only[aN.strip,aN.l7];cases ρ id ver <;> rfl)
  | (rename_i id ver p c i len;simp only[aN.strip,aN.l7];cases ρ id ver <;> rfl)
  | (rename_i i v;simp only[aN.strip,aN.l7];cases ρ i v <;> rfl)
theorem VI(ρ:Ren):∀c:aN,(c.l7 ρ).size=c.size
 | .pr a b=>by simp only[aN.l7,aN.size,VI ρ a,VI ρ b]
 | .ptr id ver p n=>by simp only[aN.l7];cases ρ id ver <;> rfl
 | .bU id ver p c i len=>by simp only[aN.l7];cases ρ id ver <;> rfl
 | .c7 id ver=>by simp only[aN.l7];cases ρ id ver <;> rfl
 | .undef | .gone | .dJ | .jW | .AV | .HB | .d _ _ | .dz _ _ | .fn _ _ | .cons _ _ | .nil | .vec .. | .bx .. | .mp .. | .tP .. =>rfl
theorem aIA(ρ:Ren){c:aN}(n:Nat):(c.l7 ρ).Ac n=c.Ac n:=by
 cases c with
 |bx e z c=>cases z with
  |zero=>rfl
  |succ z=>exact VI ρ c
 |_=>first | rfl | (simp only[aN.l7];split <;> rfl)
theorem aC9(ρ:Ren){c:aN}{pl:Pl}{n:Nat}{e:TypeId}(h:c.KV pl n e):(c.l7 ρ).KV pl n e:=by
  cases c <;> first
    | (rename_i e' z c;cases z with
       |zero=>exact h
       |succ z=>exact⟨h.1,h.2.1,h.2.2.1,by rw[VI];exact h.2.2.2⟩)
    |exact h
    |trivial
    | (rename_i id ver p n;simp only[aN.l7];cases ρ id ver <;> trivial)
    | (rename_i id ver p c i len;simp only[aN.l7];cases ρ id ver <;> trivial)
    | (rename_i i v;simp only[aN.l7];cases ρ i v <;> trivial)
theorem zZ{ρ:Ren}{E E':Env}(h:He ρ E E'){id id':Id}{fr:Bool}{c:aN}(ho:Dc E id fr c)(hβ:E'.β id'=E.β id)
  (hb:∀pl,E.β id=av pl->E'.w.heap[pl.b]? =E.w.heap[pl.b]? /\(∀k,E.g pl.b= .own (.id id) k->E'.g pl.b= .own (.id id') k)/\(E.g pl.b= .free->E'.g pl.b= .free)):Dc E' id' fr (c.l7 ρ):=by
 by_cases hn:c.iW=aZ
 ·obtain⟨pl,cur,e,h1,h2,h3,h5,h4⟩:=ho.box hn;obtain⟨b1,b2,b3⟩:=hb pl h1;have h6:=aqc h h4;refine Wg.obj ⟨pl,cur,e,by rw[hβ,h1],by rw[b1,h2],?_,aC9 ρ h5,by rw[aGF,aIA];exact h6⟩;cases fr with
  |true=>exact b3 h3
  |false=>exact b2 0 h3
 ·cases c <;> first
   | (exact absurd rfl hn)
   |skip
  rotate_left;rotate_left
  ·obtain⟨pl,mb,since,seen,c0,h1,h2,h3,_⟩:=ho;obtain⟨b1,b2,_⟩:=hb pl h1;exact⟨pl,mb,since,seen,c0,by rw[hβ,h1],by rw[b1,h2],b2 0 h3,λvr avE=>by cases avE⟩
  rotate_left
  ·obtain⟨pl,es,clock,h1,h2,h3,h4⟩:=ho;obtain⟨b1,b2,_⟩:=hb pl h1;exact⟨pl,es,clock,by rw[hβ,h1],by rw[b1,h2],b2 0 h3,⟨h4.1.1.mono h.mem,h4.1.2⟩,h4.2⟩
  rename_i e t l;obtain⟨hz,ho⟩:=ho;refine⟨hz,?_⟩;rw[hβ];cases hp:E.β id with
  |none=>rw[hp]at ho;exact ho
  |some pl=>
   rw[hp]at ho;simp only at ho ⊢;obtain⟨b1,b2,_⟩:=hb pl hp;obtain⟨cur,k,h1,h2,h3,h4,h5,h6,h7,h8⟩:=ho;exact⟨cur,k,by rw[b1,h1],h2,h3,h4,b2 k h5,h6,h7,h8.mono λc x hx=>hx.mono h.mem⟩
def OX(E:Env):List aN->List Value->Prop
 |[],[]=>True
 |a::as,v::vs=>VS E a v/\OX E as vs
 |_,_=>False
def jf.st(G:jf):AS:= {dg:=[],dh:=G.dh,news:=[G.news]}
def iw(dh:List eJ):AS:= {dg:=[],dh,news:=[]}
def Bh(E:Env)(G:jf)(v:Value)(w':cO):Prop:=∃g' β',VS (G.st.env w' g' β') G.val v/\ku (G.st.env w' g' β')/\Trans E.w w' E.g g'/\dI E (G.st.env w' g' β')
def tD(P:bj)(f:gC)(en:Entry):Prop:=∀w g β args dh l9 x,OX ((iw dh).env w g β) args l9->ku ((iw dh).env w g β)->en.run args dh=av x->((callFunc f l9.toArray).run P w= .ok (.enter f l9.toArray) w/\Calls P f l9.toArray w λe w'=>∃v,e= .returned v/\Bh ((iw dh).env w g β) (en.out args dh x) v w')\/(∃v w',(callFunc f l9.toArray).run P w= .ok (.value v) w'/\Bh ((iw dh).env w g β) (en.out args dh x) v w')
def Sk(P:bj)(f:gC)(en:Entry):Prop:=∀w g β args dh l9,OX ((iw dh).env w g β) args l9->ku ((iw dh).env w g β)->(∃x,en.set args dh x)->(callFunc f l9.toArray).run P w= .ok (.enter f l9.toArray) w/\Calls P f l9.toArray w λe w'=>∃v x,e= .returned v/\en.set args dh x/\Bh ((iw dh).env w g β) (en.out args dh x) v w'
def OW(P:bj)(f:Nat)(en:Entry):Prop:=(Nat.blt f yB=bm->tD P f en)/\(Nat.blt f yB=bm->Sk P f en)
theorem OW.of{P:bj}{f:gC}{en:Entry}(h:tD P f en)(hf:Nat.blt f yB=bm)(hs:∀a o x,¬en.set a o x:=by exact λ_ _ _ h=>h):OW P f en:=
 ⟨λ_=>h,λ_ _ _ _ _ _ _ _ _ ⟨x,hx⟩=>(hs _ _ x hx).elim⟩
theorem OW.bcy{P:bj}{f:gC}{en:Entry}(h:Sk P f en)(hf:Nat.blt f yB=bm)(hs:∀a o,en.run a o=aH:=by exact λ_ _=>rfl):OW P f en:=
 ⟨λ_ _ _ _ _ _ _ _ _ _ hx=>(by rw[hs]at hx;cases hx),λ_=>h⟩
def Sound(P:bj)(Γ:tg):Prop:=∀f vs en,Γ f vs=av en->OW P f en
theorem OX.l7{ρ:Ren}{E E':Env}(h:He ρ E E'):∀ {as:List aN} {vs:List Value},OX E as vs->OX E' (as.map (aN.l7 ρ)) vs
 |[],[],_=>trivial
 |_::_,_::_,⟨h1,h2⟩=>⟨Wj h h1,OX.l7 h h2⟩
theorem OX.append{E:Env}:∀ {as:List aN} {vs:List Value} {bs:List aN} {us:List Value},OX E as vs->OX E bs us->OX E (as++bs) (vs++us)
 |[],[],_,_,_,h=>h
 |_::_,_::_,_,_,⟨h1,h2⟩,h=>⟨h1,OX.append h2 h⟩
theorem avP{E:Env}:∀ {c:aN} {vs:List Value},VC E c vs->OX E c.list vs
 | .cons a b,vs,h=>by simp only[VC]at h;obtain⟨v,vs',cs,rfl,ha,ho,hb⟩:=h;exact⟨VS.of ha ho,avP hb⟩
 | .nil,vs,h=>by simp only[VC]at h;subst h;trivial
 | .undef,_,hv=>by simp only[VC]at hv
 | .gone,_,hv=>by simp only[VC]at hv
 | .dJ,_,hv=>by simp only[VC]at hv
 | .jW,_,hv=>by simp only[VC]at hv
 | .AV,_,hv=>by simp only[VC]at hv
 | .HB,_,hv=>by simp only[VC]at hv
 | .d t x,_,hv=>by simp only[VC]at hv
 | .pr a b,_,hv=>by simp only[VC]at hv
 | .ptr ..,_,hv=>by simp only[VC]at hv
 | .dz ..,_,hv=>by simp only[VC]at hv
 | .bU ..,_,hv=>by simp only[VC]at hv
 | .fn ..,_,hv=>by simp only[VC]at hv
 | .vec ..,_,hv=>by simp only[VC]at hv
 | .bx ..,_,hv=>by simp only[VC]at hv
 | .c7 ..,_,hv=>by simp only[VC]at hv
 | .mp ..,_,hv | .tP ..,_,hv=>by simp only[VC]at hv
theorem Inv.aZh{C:Ctx}{g:Nat->qs}{β:Id->Option Pl}{s:AS}{a:Act}{w:cO}(h:Inv C g β s a w):∀l:List cr,OX (s.env w g β) (l.map s.ev) (l.map a.eval)
 |[]=>trivial
 |x::l=>⟨h.ev x,h.aZh l⟩
theorem SY{E E':Env}{s:AS}(hs:E.s=s.cJ)(ho:ku E)(he:dI E E'):∀(ps:List (Option Ty)) (vs:List aN) (ys:List Value) (r:List aN×List Id),OX E vs ys->(s.conv ps vs).eval=av r->aWE E E' r.2->OX E' r.1 ys
 |[],[],ys,r,hv,h,_=>by
  simp only[AS.conv,aD]at h;subst h;cases ys with
  |nil=>trivial
  |cons _ _=>exact hv.elim
 |some t::ps,v::vs,y::ys,r,⟨hv,ar8⟩,h,hf=>by
  simp only[AS.conv]at h;obtain⟨x,h1,h2⟩:=aC.1 h;obtain⟨r',h3,h4⟩:=aC.1 h2;obtain rfl:=aD.1 h4;obtain⟨cs,hV,hO⟩:=hv.fD (NB h1);refine⟨VS.of (cs:=cs) ?_ ?_,SY hs ho he ps vs ys r' ar8 h3 λid dL=>hf id (bR.2 (.inr dL))⟩
  ·simp only[V];exact AG hs ho he v t x cs hV h1 λid dL=>hf id (bR.2 (.inl dL))
  ·show gY t.agg cs y;rw[<-avj h1];exact hO
 |none::ps,v::vs,y::ys,r,⟨hv,ar8⟩,h,hf=>by simp only[AS.conv]at h;obtain⟨r',h3,h4⟩:=aC.1 h;obtain rfl:=aD.1 h4;exact⟨hv.mono he,SY hs ho he ps vs ys r' ar8 h3 hf⟩
 |[],_::_,_,_,_,h,_=>by simp only[AS.conv,aG]at h
 |some _::_,[],_,_,_,h,_=>by simp only[AS.conv,aG]at h
 |none::_,[],_,_,_,h,_=>by simp only[AS.conv,aG]at h
end Go.Ab
namespace Go.Ab
theorem vk{id:Id}:∀ {ids:List Id} {k:Nat},idxOf id ids=av k->ids[k]? =av id
 |[],_,h=>by simp[idxOf]at h
 |x::xs,k,h=>by
  simp only[idxOf]at h;split at h
  ·rename_i e;simp only[ax]at h;subst h e;rfl
  ·simp only[fX]at h;obtain⟨j,hj,rfl⟩:=h;simpa using vk hj
theorem EZ{id:Id}:∀ {ids:List Id} {k:Nat},ids.Nodup->ids[k]? =av id->idxOf id ids=av k
 |[],_,_,h=>by simp at h
 |x::xs,0,hn,h=>by simp only[gw,ax]at h;simp[idxOf,h]
 |x::xs,k+1,hn,h=>by
  simp only[nZ]at h;obtain⟨h1,h2⟩:=dx.1 hn;have jk:x≠id:=λe=>h1 (e▸dC h)
  simp[idxOf,jk,EZ h2 h]
theorem G6(s0:AS)(all:List Id)(t:Nat):∀(ids:List Id) (es:List eJ) (s:AS),(AS.kC s0 all t s ids es).dg=s.dg
 |[],_,_=>by simp[AS.kC]
 |_::_,[],_=>by simp[AS.kC]
 |id::ids,e::es,s=>by rw[AS.kC,G6 s0 all t ids es,eo]
theorem agR(s:AS)(ids:List Id)(t:Nat)(es:List eJ):(s.made ids t es).dg=s.dg:=by cases es <;> rfl
theorem Lh(s0:AS)(all:List Id)(t:Nat):∀(ids:List Id) (es:List eJ) (s:AS),ids.Nodup->es.length=ids.length->(∀id∈ids,s.cJ id≠aH)->
  (∀id,id ∉ ids->(AS.kC s0 all t s ids es).cJ id=s.cJ id)/\
  ∀(k:Nat) (id:Id) (e:eJ),ids[k]? =av id->es[k]? =av e->(AS.kC s0 all t s ids es).cJ id=av (s0.vd all t (s0.F1 id) e)
 |[],es,s,_,_,_=>⟨λ_ _=>by simp[AS.kC],λk id e h=>by simp at h⟩
 |_::_,[],s,_,hl,_=>by simp at hl
 |i::ids,e::es,s,hn,hl,hp=>by
  obtain⟨h1,h2⟩:=dx.1 hn;have hp':∀id∈ids,(s.bI i (s0.vd all t (s0.F1 i) e)).cJ id≠aH:=λid dL=>by rw[ee s i id _ (λe=>h1 (e▸dL))];exact hp id (aP _ dL)
  obtain⟨r1,r2⟩:=Lh s0 all t ids es (s.bI i (s0.vd all t (s0.F1 i) e)) h2 (by simpa using hl) hp';rw[AS.kC];refine⟨λid dL=> ?_,λk id e' hk he=> ?_⟩
  ·simp only[cq,not_or]at dL;rw[r1 id dL.2,ee s i id _ dL.1]
  ·cases k with
   |zero=>
    simp only[gw,ax]at hk he;subst hk he;rw[r1 i h1,fu s i _ (hp i (aU ..))]
   |succ k=>
    simp only[nZ]at hk he;exact r2 k id e' hk he
theorem arG(s:AS)(ids:List Id)(t:Nat)(es:List eJ)(hv:es=[]\/s.eQ t=bm):
  (∀id,(es=[]\/∀j,id≠ .new t j)->(s.made ids t es).cJ id=s.cJ id)/\(es≠ []->∀j,(s.made ids t es).cJ (.new t j)=(es[j]?).map (s.vd ids t 0)):=by
 cases es with
 |nil=>exact⟨λ_ _=>rfl,λh=>absurd rfl h⟩
 |cons e es=>
  have hv:s.eQ t=bm:=by
   rcases hv with h | h
   ·cases h
   ·exact h
  refine⟨λid h=> ?_,λ_ j=> ?_⟩
  ·rcases h with h | h
   ·cases h
   ·exact jO _ h
  ·rw[AS.made,BZ (lU hv).2,gS]
def pZ(ids:List Id):qs->qs
 | .free=> .free
 | .own .gf n=> .own .gf n
 | .own (.id i) n=>match idxOf i ids with | some k=> .own (.id (.bP k)) n | none=> .own .gf n
def E8(β:Id->Option Pl)(ids:List Id):Id->Option Pl
 | .bP k=>(ids[k]?).bind β
 | .new _ _=>aH
def qo(g:Nat->qs)(size:Nat)(ids:List Id)(t:Nat)(b:Nat):qs->qs
 | .free=> .free
 | .own .gf n=>if b < size then g b else .own .gf n
 | .own (.id i) n=> .own (.id (aTr ids t i)) n
def Ap(β β':Id->Option Pl)(ids:List Id)(t:Nat)(some?:Bool)(id:Id):Option Pl:=
 match idxOf id ids with
 |some k=>β' (.bP k)
 |none=>match id with
  | .new i j=>if i=t/\some?=bm then β' (.new 0 j) else β (.new i j)
  |id=>β id
theorem aKN{ids:List Id}{l:qs}{off:Nat}(h:Am (λ_=>l) 0 off):Am (λ_=>pZ ids l) 0 off:=by
 cases l with
 |free=>trivial
 |own o k=>cases o with
  |gf=>exact h
  |id i=>simp only[pZ];cases idxOf i ids <;> exact h
section
variable {P:bj} {C:Ctx} {g:Nat->qs} {β:Id->Option Pl} {s:AS} {a:Act} {w:cO} {o:Oper}
theorem aKy(ids:List Id):
  He (s.Az ids) (s.env w g β) ((iw (ids.map (s.oK ids))).env w (λb=>pZ ids (g b)) (E8 β ids)):=by
 refine⟨⟨λb off v ⟨h1,h2⟩=>⟨h1,?_⟩,λb ob h1 h2=>⟨by show pZ ids (g b)= .free;have h1:g b= .free:=h1;rw[h1];rfl,h2⟩⟩,λid ver r hr _=> ?_⟩
 ·exact aKN (l:=g b) h2
 ·unfold AS.Az at hr;split at hr
  ·rename_i k v fr c hk ho;split at hr
   ·rename_i aXH;simp only[ax]at hr;subst hr aXH;have dL:=vk hk;have dQ:=fT ho;refine⟨⟨?_,λ_ _ _ _=>aL _⟩,λ_=>⟨⟨fr,c,dQ⟩,?_⟩⟩
    ·show(ids.map (s.oK ids))[k]? ≠aH
     simp[dL]
    ·show(ids[k]?).bind β=β id;rw[dL];rfl
   ·cases hr
  ·cases hr
theorem aBe(ids:List Id)(hn:ids.Nodup)(h:ku (s.env w g β)):ku ((iw (ids.map (s.oK ids))).env w (λb=>pZ ids (g b)) (E8 β ids)):=by
 intro id ver fr c dL;have dL:(iw (ids.map (s.oK ids))).cJ id=av (.obj ver fr c):=dL;cases id with
 |new i j=>simp[iw,AS.cJ]at dL
 |bP k=>
  simp only[iw,AS.cJ,gS,fX]at dL;obtain⟨id1,hk,he⟩:=dL;unfold AS.oK at he;split at he
  ·rename_i v fr1 c1 dQ;simp only[eJ.obj.injEq]at he;obtain⟨rfl,rfl,rfl⟩:=he;refine zZ (aKy ids) (h id1 v fr1 c1 dQ) (by show(ids[k]?).bind β=β id1;rw[hk];rfl) λpl hp=>⟨rfl,λn hg=> ?_,λhg=> ?_⟩
   ·have hg:g pl.b= .own (.id id1) n:=hg;show pZ ids (g pl.b)=_;rw[hg];simp[pZ,EZ hn hk]
   ·have hg:g pl.b= .free:=hg;show pZ ids (g pl.b)=_;rw[hg];rfl
  ·cases he
theorem ab5(h:Inv C g β s a w){ids:List Id}(hn:ids.Nodup)(hp:∀id∈ids,∃r,s.obj id=av r)(abF:∀id∈ids,s.WY id=bm){G:jf}{t:Nat}(hl:G.dh.length=ids.length)(hv:G.news=[]\/s.eQ t=bm){v:Value}{w':cO}
  (ha:Bh ((iw (ids.map (s.oK ids))).env w (λb=>pZ ids (g b)) (E8 β ids)) G v w'):
  ∃g' β',Inv C g' β' (AS.kC s ids t (s.made ids t G.news) ids G.dh) a w'/\VS ((AS.kC s ids t (s.made ids t G.news) ids G.dh).env w' g' β') (G.val.l7 (s.yI ids t)) v:=by
 obtain⟨g1,β1,DG,aTo,aw6,hle⟩:=ha;have aw6:Trans w w' (λb=>pZ ids (g b)) g1:=aw6;obtain⟨m1,m2⟩:=arG s ids t G.news hv;have aZR:∀id∈ids,s.cJ id≠aH:=λid dL=>by obtain⟨⟨v,fr,c⟩,hr⟩:=hp id dL;rw[fT hr];simp
 have Ky:∀id,s.cJ id≠aH->G.news=[]\/∀j,id≠ .new t j:=λid dL=>by
  rcases hv with hv | hv
  ·exact .inl hv
  ·exact .inr λj e=>dL (by rw[e];exact(lU hv).1 j)
 obtain⟨n1,n2⟩:=Lh s ids t ids G.dh (s.made ids t G.news) hn hl (λid dL=>by rw[m1 id (Ky id (aZR id dL))];exact aZR id dL);have aU0:∀j,G.news≠ []->Id.new t j ∉ ids:=λj jk dL=>by
  rcases hv with hv | hv
  ·exact jk hv
  ·exact aZR _ dL ((lU hv).1 j)
 generalize ahW:AS.kC s ids t (s.made ids t G.news) ids G.dh=s2 at*;have hgO:∀(k:Nat) (id:Id),ids[k]? =av id->∃e,G.dh[k]? =av e/\s2.cJ id=av (s.vd ids t (s.F1 id) e):=λk id hk=>by
  have fF:k < G.dh.length:=by rw[hl];exact(ek.1 hk).1
  exact⟨_,cn fF,n2 k id _ hk (cn fF)⟩
 have hgN:G.news≠ []->∀j,s2.cJ (.new t j)=(G.news[j]?).map (s.vd ids t 0):=λjk j=>by rw[n1 _ (aU0 j jk),m2 jk j]
 have hgS:∀id,id ∉ ids->(G.news=[]\/∀j,id≠ .new t j)->s2.cJ id=s.cJ id:=λid h1 h2=>by rw[n1 id h1,m1 id h2]
 have hverOf:∀id∈ids,∃fr c,s.cJ id=av (.obj (s.F1 id) fr c):=λid dL=>by obtain⟨⟨v,fr,c⟩,hr⟩:=hp id dL;refine⟨fr,c,?_⟩;rw[fT hr];simp[AS.F1,hr]
 have aZv:∀b n,b < w.heap.size->g1 b= .own .gf n->(g b= .own .gf n\/∃i,g b= .own (.id i) n/\idxOf i ids=aH):=λb n hb hg=>by
  have h1:=aw6.BE b hb;cases adm:g b with
  |free=>simp only[adm,pZ]at h1;rw[h1.1]at hg;cases hg
  |own o k=>cases o with
   |gf=>simp only[adm,pZ]at h1;rw[h1.1]at hg;left;exact hg
   |id i=>
    cases hi:idxOf i ids with
    |none=>
     simp only[adm,pZ,hi]at h1;rw[h1.1]at hg;simp only[qs.own.injEq,lT]at hg;subst hg;exact .inr ⟨i,rfl,hi⟩
    |some k'=>
     simp only[adm,pZ,hi]at h1;rcases h1.1 with h2 | ⟨_,_,h2,_⟩ <;> (rw[h2]at hg;cases hg)
 let g2:Nat->qs:=λb=>qo g w.heap.size ids t b (g1 b)
 let β2:Id->Option Pl:=Ap β β1 ids t (!G.news.isEmpty)
 have hβO:∀k id,ids[k]? =av id->β2 id=β1 (.bP k):=λk id hk=>by show Ap _ _ _ _ _ id=_;simp[Ap,EZ hn hk]
 have hβN:G.news≠ []->∀j,β2 (.new t j)=β1 (.new 0 j):=λjk j=>by
  show Ap _ _ _ _ _ _=_;have:idxOf (.new t j) ids=aH:=by
   cases hi:idxOf (.new t j) ids with
   |none=>rfl
   |some k=>exact absurd (dC (vk hi)) (aU0 j jk)
  have hne':G.news.isEmpty=aZ:=by cases hh:G.news with
   |nil=>exact absurd hh jk
   |cons _ _=>rfl
  simp[Ap,this,hne']
 have hβS:∀id,id ∉ ids->(G.news=[]\/∀j,id≠ .new t j)->β2 id=β id:=λid h1 h2=>by
  show Ap _ _ _ _ _ _=_;have:idxOf id ids=aH:=by
   cases hi:idxOf id ids with
   |none=>rfl
   |some k=>exact absurd (dC (vk hi)) h1
  cases id with
  |bP k=>simp[Ap,this]
  |new i j=>
   have:¬(i=t/\(!G.news.isEmpty)=bm):=by
    rintro⟨rfl,h3⟩;rcases h2 with h2 | h2
    ·rw[h2]at h3;cases h3
    ·exact h2 j rfl
   simp only[Ap, *,bC]
 have aXE:Trans w w' g g2:=by
  refine⟨aw6.os,aw6.tape,aw6.output,aw6.size,λb hb=> ?_⟩;have h1:=aw6.BE b hb;show match g b with | .free=>qo g w.heap.size ids t b (g1 b)= .free/\_ | .own .gf k=>qo g w.heap.size ids t b (g1 b)= .own .gf k/\_ | .own (.id _) k=>(qo g w.heap.size ids t b (g1 b)= .free\/∃i k',qo g w.heap.size ids t b (g1 b)= .own (.id i) k'/\k<=k')/\_
  cases adm:g b with
  |free=>simp only[adm,pZ]at h1 ⊢;rw[h1.1];exact⟨rfl,h1.2⟩
  |own o k=>cases o with
   |gf=>simp only[adm,pZ]at h1 ⊢;rw[h1.1];simp only[qo,hb,bO,adm];exact⟨trivial,h1.2⟩
   |id i=>
    cases hi:idxOf i ids with
    |none=>
     simp only[adm,pZ,hi]at h1 ⊢;rw[h1.1];simp only[qo,hb,bO,adm];exact⟨.inr ⟨i,k,rfl,az _⟩,λoff v _ hv=>by simpa only[World.cell?,h1.2]using hv⟩
    |some k'=>
     simp only[adm,pZ,hi]at h1 ⊢;refine⟨?_,h1.2⟩;rcases h1.1 with h2 | ⟨i',k'',h2,h3⟩
     ·rw[h2];exact .inl rfl
     ·rw[h2];exact .inr ⟨_,k'',rfl,h3⟩
 have w5:wH (G.st.env w' g1 β1) (s2.env w' g2 β2):=by
  refine⟨λb off v ⟨h1,h2⟩=> ?_,λb ob h1 h2=>⟨by show qo g w.heap.size ids t b (g1 b)= .free;have h1:g1 b= .free:=h1;rw[h1];rfl,h2⟩⟩;refine⟨h1,?_⟩;have h2:Am g1 b off:=h2;show Am g2 b off;unfold Am at h2 ⊢;show match qo g w.heap.size ids t b (g1 b) with | .free=>True | .own _ k=>off < k
  cases adm:g1 b with
  |free=>simp[qo]
  |own o k=>
   rw[adm]at h2;cases o with
   |gf=>
    simp only[qo];by_cases hb:b < w.heap.size
    ·rw[if_pos hb];rcases aZv b k hb adm with h3 | ⟨i,h3,_⟩ <;> (rw[h3];exact h2)
    ·rw[if_neg hb];exact h2
   |id i=>exact h2
 have hentOut:∀(base:Nat) (e:eJ) (ver:Nat) (fr:Bool) (c:aN),s.vd ids t base e= .obj ver fr c->∃v0 c0,e= .obj v0 fr c0/\ver=base+v0/\c=c0.l7 (s.yI ids t):=λbase e ver fr c he=>by
  cases e with
  |dead=>cases he
  |obj v0 fr0 c0=>
   simp only[AS.vd,eJ.obj.injEq]at he;obtain⟨rfl,rfl,rfl⟩:=he;exact⟨v0,c0,rfl,rfl,rfl⟩
 have ahV:He (s.yI ids t) (G.st.env w' g1 β1) (s2.env w' g2 β2):=by
  refine⟨w5,λid ver r hr hb=> ?_⟩;cases id with
  |bP k=>
   obtain⟨Wc,AR⟩:=hb;have Wc:G.dh[k]? ≠aH:=Wc
   have hk:k < ids.length:=by
    rcases r0 k ids.length with h' | h'
    ·exact h'
    ·exact absurd (eB aq) Wc
   have dL:ids[k]? =av ids[k]:=cn hk
   simp only[AS.yI,dL,ax]at hr;subst hr;obtain⟨e,Q4,ahF⟩:=hgO k _ dL;refine⟨⟨by show s2.cJ _≠aH;rw[ahF];simp,λv fr c hh=> ?_⟩,λ⟨fr,c,hh⟩=>⟨?_,hβO k _ dL⟩⟩
   ·have hh:s2.cJ ids[k]=av (.obj v fr c):=hh;rw[ahF,ax]at hh;obtain⟨v0,c0,rfl,rfl,_⟩:=hentOut _ _ _ _ _ hh;have:=AR v0 fr c0 Q4;omega
   ·have hh:s2.cJ ids[k]=av (.obj (s.F1 ids[k]+ver) fr c):=hh;rw[ahF,ax]at hh;obtain⟨v0,c0,rfl,aWq,_⟩:=hentOut _ _ _ _ _ hh;obtain rfl:ver=v0:=aq;exact⟨fr,c0,Q4⟩
  |new i j=>
   simp only[AS.yI,ax]at hr;subst hr;obtain⟨Wc,AR⟩:=hb;have Wc:([G.news].getD i [])[j]? ≠aH:=Wc
   have AR:∀v fr c,([G.news].getD i [])[j]? =av (.obj v fr c)->ver<=v:=AR
   cases i with
   |succ i=>simp at Wc
   |zero=>
    simp only[nU]at Wc AR;have jk:G.news≠ []:=λe=>by rw[e]at Wc;simp at Wc
    obtain⟨e,he⟩:=Option.ne_none_iff_exists'.1 Wc;have ahF:=hgN jk j;rw[he,eN]at ahF;refine⟨⟨by show s2.cJ (.new t j)≠aH;rw[ahF];simp,λv fr c hh=> ?_⟩,λ⟨fr,c,hh⟩=>⟨?_,hβN jk j⟩⟩
    ·have hh:s2.cJ (.new t j)=av (.obj v fr c):=hh;rw[ahF,ax]at hh;obtain⟨v0,c0,rfl,rfl,_⟩:=hentOut _ _ _ _ _ hh;have:=AR v0 fr c0 he;simp only;omega
    ·have hh:s2.cJ (.new t j)=av (.obj ver fr c):=hh;rw[ahF,ax]at hh;obtain⟨v0,c0,rfl,aWq,_⟩:=hentOut _ _ _ _ _ hh;obtain rfl:ver=v0:=aq;exact⟨fr,c0,he⟩
 have aXp:dI (s.env w g β) (s2.env w' g2 β2):=by
  refine⟨Trans.mem aXE,λid ver hb=> ?_,λid ver hb hc=> ?_⟩
  ·obtain⟨Wc,AR⟩:=hb;have Wc:s.cJ id≠aH:=Wc;have AR:∀v fr c,s.cJ id=av (.obj v fr c)->ver<=v:=AR;by_cases dL:id∈ids
   ·obtain⟨k,hk⟩:=lX.1 dL;obtain⟨e,Q4,ahF⟩:=hgO k id hk;obtain⟨fr1,c1,akf⟩:=hverOf id dL;refine⟨by show s2.cJ _≠aH;rw[ahF];simp,λv fr c hh=> ?_⟩;have hh:s2.cJ id=av (.obj v fr c):=hh;rw[ahF,ax]at hh;obtain⟨v0,c0,rfl,rfl,_⟩:=hentOut _ _ _ _ _ hh;have:=AR _ _ _ akf;omega
   ·have:=hgS id dL (Ky id Wc);exact⟨by show s2.cJ _≠aH;rw[this];exact Wc,λv fr c hh=>AR v fr c (this.symm.trans hh)⟩
  ·obtain⟨Wc,AR⟩:=hb;have Wc:s.cJ id≠aH:=Wc;have AR:∀v fr c,s.cJ id=av (.obj v fr c)->ver<=v:=AR;obtain⟨fr,c,hh⟩:=hc;have hh:s2.cJ id=av (.obj ver fr c):=hh;by_cases dL:id∈ids
   ·obtain⟨k,hk⟩:=lX.1 dL;obtain⟨e,Q4,ahF⟩:=hgO k id hk;obtain⟨fr1,c1,akf⟩:=hverOf id dL;rw[ahF,ax]at hh;obtain⟨v0,c0,rfl,aWq,_⟩:=hentOut _ _ _ _ _ hh;have aXH:=AR _ _ _ akf;obtain rfl:v0=0:=aq;have hver':ver=s.F1 id:=aq;refine⟨⟨fr1,c1,by rw[hver'];exact akf⟩,?_⟩;show β2 id=β id;rw[hβO k id hk];have arY:s.oK ids id= .obj 0 fr1 (c1.l7 (s.Az ids)):=by simp[AS.oK,akf]
    have h0:((iw (ids.map (s.oK ids))).env w (λb=>pZ ids (g b)) (E8 β ids)).KE (.bP k) 0:=by
     refine⟨?_,λ_ _ _ _=>aL _⟩;show(ids.map (s.oK ids))[k]? ≠aH
     simp[hk]
    have:=(hle.cur (.bP k) 0 h0 ⟨fr,c0,Q4⟩).2;have this:β1 (.bP k)=(ids[k]?).bind β:=this;rw[this,hk];rfl
   ·have:=hgS id dL (Ky id Wc);exact⟨⟨fr,c,this.symm.trans hh⟩,hβS id dL (Ky id Wc)⟩
 have aXx:ku (s2.env w' g2 β2):=by
  intro id ver fr c hh;have hh:s2.cJ id=av (.obj ver fr c):=hh;by_cases dL:id∈ids
  ·obtain⟨k,hk⟩:=lX.1 dL;obtain⟨e,Q4,ahF⟩:=hgO k id hk;rw[ahF,ax]at hh;obtain⟨v0,c0,rfl,_,rfl⟩:=hentOut _ _ _ _ _ hh;refine zZ ahV (aTo (.bP k) v0 fr c0 Q4) (hβO k id hk) λpl _=>⟨rfl,λn hg=> ?_,λhg=> ?_⟩
   ·have hg:g1 pl.b= .own (.id (.bP k)) n:=hg;show qo g w.heap.size ids t pl.b (g1 pl.b)=_;rw[hg];simp[qo,aTr,bh,hk]
   ·have hg:g1 pl.b= .free:=hg;show qo g w.heap.size ids t pl.b (g1 pl.b)=_;rw[hg];rfl
  ·by_cases jk:G.news≠ []/\∃j,id= .new t j
   ·obtain⟨jk,j,rfl⟩:=jk;rw[hgN jk j,fX]at hh;obtain⟨e,he,hh⟩:=hh;obtain⟨v0,c0,rfl,_,rfl⟩:=hentOut _ _ _ _ _ hh;refine zZ ahV (aTo (.new 0 j) v0 fr c0 (by show([G.news].getD 0 [])[j]? =_;simpa using he)) (hβN jk j) λpl _=>⟨rfl,λn hg=> ?_,λhg=> ?_⟩
    ·have hg:g1 pl.b= .own (.id (.new 0 j)) n:=hg;show qo g w.heap.size ids t pl.b (g1 pl.b)=_;rw[hg];rfl
    ·have hg:g1 pl.b= .free:=hg;show qo g w.heap.size ids t pl.b (g1 pl.b)=_;rw[hg];rfl
   ·have bbm:G.news=[]\/∀j,id≠ .new t j:=by
     by_cases hh:G.news=[]
     ·exact .inl hh
     ·exact .inr λj e=>jk ⟨hh,j,e⟩
    rw[hgS id dL bbm]at hh;have same:∀id,id ∉ ids->∀ver fr c,s.cJ id=av (.obj ver fr c)->∀pl,β id=av pl->w'.heap[pl.b]? =w.heap[pl.b]? /\qo g w.heap.size ids t pl.b (g1 pl.b)=g pl.b:=by
     intro id dL ver fr c hh pl Sh;obtain⟨hb,aEh⟩:=(h.cg id ver fr c hh).label (pl:=pl) Sh;have hb:pl.b < w.heap.size:=hb;have h1:=aw6.BE pl.b hb;have aZz:idxOf id ids=aH:=by
      cases hi:idxOf id ids with
      |none=>rfl
      |some k=>exact absurd (dC (vk hi)) dL
     rcases aEh with⟨k,hk⟩ | ⟨_,hk⟩
     ·have hk:g pl.b= .own (.id id) k:=hk;simp only[hk,pZ,aZz]at h1;rw[h1.1];simp only[qo,hb,bO];exact⟨h1.2,trivial⟩
     ·have hk:g pl.b= .free:=hk;simp only[hk,pZ]at h1;rw[h1.1,hk];exact⟨h1.2,rfl⟩
    have ho:=h.cg id ver fr c hh;refine ho.mono aXp (hβS id dL bbm) (λpl Sh=>same id dL ver fr c hh pl Sh) λq2 vq k2 v2 l2 ake _=> ?_
    have ake:s.cJ q2=av (.obj vq bm (.mp k2 v2 l2)):=ake;have aTm:q2 ∉ ids:=λhm=>by
     have:=abF q2 hm;have e:s.obj q2=av (vq,bm,.mp k2 v2 l2):=by simp[AS.obj,ake]
     unfold AS.WY at this;rw[e]at this;cases this
    refine⟨⟨k2,v2,l2,?_⟩,λpl Sh=>same q2 aTm vq bm _ ake pl Sh⟩;show s2.cJ q2=_;rw[hgS q2 aTm (Ky q2 (by rw[ake];simp))];exact ake
 have aO2:s2.dg=s.dg:=by rw[<-ahW,G6,agR]
 exact⟨g2,β2,h.step aO2 aXE aXp aXx,Wj ahV DG⟩
end
end Go.Ab
namespace Go.Ab
theorem Ax(s:AS):∀(n:Nat) (todo acc:List Id),acc.Nodup->(s.reach n todo acc).Nodup
 | 0,_,acc,h=>by simpa[AS.reach]using h
 |_+1,[],acc,h=>by simpa[AS.reach]using h
 |n+1,id::todo,acc,h=>by
  rw[AS.reach];split
  ·exact Ax s n todo acc h
  ·rename_i hc;refine Ax s n _ _ ?_
   rw[List.nodup_append];refine⟨h,by simp,λx hx y hy e=> ?_⟩;simp only[bB]at hy;subst hy e;exact hc (by simpa using hx)
theorem Y4(s:AS)(vs:List aN):(s.akn vs).Nodup:=Ax s _ _ _ (by simp)
section
variable {P:bj} {C:Ctx} {g:Nat->qs} {β:Id->Option Pl} {s:AS} {a:Act} {w:cO} {o:Oper}
theorem aqo(h:Inv C g β s a w){ids:List Id}(hn:ids.Nodup)(Ag:s.aBk ids=bm){G:jf}{s':AS}(he:(s.back ids o.dst G).eval=av s'){v:Value}{w':cO}
  (ha:Bh ((iw (ids.map (s.oK ids))).env w (λb=>pZ ids (g b)) (E8 β ids)) G v w'):ka C s' (a.put o.dst v) w':=by
 have hp:∀id∈ids,∃r,s.obj id=av r:=λid dL=>by have:=dr.1 Ag id dL;rw[aw]at this;exact bZ.1 this.1
 have abF:∀id∈ids,s.WY id=bm:=λid dL=>by have:=dr.1 Ag id dL;rw[aw]at this;exact this.2
 unfold AS.back at he;cases aXa:o.dst with
 |some t=>
  rw[aXa]at he;obtain⟨hg,he⟩:=aR.1 he;obtain rfl:=aD.1 he;simp only[aw,eZ,iT]at hg;obtain⟨hl,hg⟩:=hg;have aZ3:G.news=[]\/s.eQ t=bm:=by
   rcases hg with hg | hg
   ·exact .inl (by simpa using hg)
   ·exact .inr hg
  obtain⟨g2,β2,h1,h2⟩:=ab5 h hn hp abF hl aZ3 ha;exact⟨g2,β2,h1.put (av t) h2⟩
 |none=>
  rw[aXa]at he;obtain⟨hg,he⟩:=aR.1 he;obtain rfl:=aD.1 he;simp only[aw,eZ]at hg;obtain⟨hl,hg⟩:=hg;have Ky:G.news=[]:=by simpa using hg
  obtain⟨g2,β2,h1,_⟩:=ab5 (t:=0) h hn hp abF hl (.inl Ky) ha;rw[Ky]at h1;exact⟨g2,β2,h1⟩
theorem aDT(h:Inv C g β s a w){en:Entry}{ids:List Id}(hn:ids.Nodup){vs:List aN}{ys:List Value}(hv:OX (s.env w g β) vs ys)
  {s':AS} (he:(s.enter en o.dst ids vs).eval=av s'):∃x,en.run (vs.map (aN.l7 (s.Az ids))) (ids.map (s.oK ids))=av x/\
   OX ((iw (ids.map (s.oK ids))).env w (λb=>pZ ids (g b)) (E8 β ids)) (vs.map (aN.l7 (s.Az ids))) ys/\
   ku ((iw (ids.map (s.oK ids))).env w (λb=>pZ ids (g b)) (E8 β ids))/\
   ∀v w',Bh ((iw (ids.map (s.oK ids))).env w (λb=>pZ ids (g b)) (E8 β ids)) (en.out (vs.map (aN.l7 (s.Az ids))) (ids.map (s.oK ids)) x) v w'->ka C s' (a.put o.dst v) w':=by
 unfold AS.enter at he;obtain⟨Ag,he⟩:=aR.1 he;obtain⟨x,hx,he⟩:=og.1 he;obtain⟨x0,aU1,he⟩:=aC.1 he;rw[en.aCi _ _ aU1]at he;exact⟨x,hx,OX.l7 (aKy ids) hv,aBe ids hn h.cg,λv w' ha=>aqo h hn Ag he ha⟩
theorem awH(h:Inv C g β s a w){f:gC}{en:Entry}(hd:tD P f en){ids:List Id}(hn:ids.Nodup){vs:List aN}{ys:List Value}(hv:OX (s.env w g β) vs ys)
  (hr:(execOp a.eval o).run P w=(callFunc f ys.toArray).run P w) {s':AS} (he:(s.enter en o.dst ids vs).eval=av s'):il P o a w (ka C s'):=by
 obtain⟨x,hx,h1,h2,key⟩:=aDT h hn hv he;rcases hd _ _ _ _ _ _ _ h1 h2 hx with⟨aKj,hc⟩ | ⟨v,w',bcr,ha⟩
 ·exact .inr (.inr (.inl ⟨f,ys.toArray,w,hr.trans aKj,hc.mono λe w' ⟨v,he,ha⟩=>⟨v,he,key v w' ha⟩⟩))
 ·exact .inl ⟨v,w',hr.trans bcr,key v w' ha⟩
theorem aDj(h:Inv C g β s a w){c:Call}{F:cr}{f:gC}{caps:aN}{en:Entry}(ho:o.op= .call c)(hc:c.callee= .value F)(hF:s.ev F= .fn f caps)(hd:tD P f en){s':AS}
  (he:(s.call en o.dst (c.args.toList.map s.ev++caps.list)).eval=av s'):il P o a w (ka C s'):=by
 obtain⟨cal,args,tys⟩:=c;simp only at hc he;subst hc;obtain⟨vs,hy,aXG⟩:=arP (hF▸h.ev F);have arW:=(h.aZh args.toList).append (avP aXG);have hr:(execOp a.eval o).run P w=(callFunc f (args.toList.map a.eval++vs).toArray).run P w:=by
  have e1:execOp a.eval o=(do let d <-resolve a.eval {callee:= .value F,args,argTypes:=tys} o.type;invoke d.target d.args):=by simp only[execOp,ho]
  rw[e1];simp only[resolve,hy,Deferred.ofValue,cU,eK,cm,invoke];congr 2;simp
 unfold AS.call at he;obtain⟨r,h1,h2⟩:=aC.1 he;obtain⟨g',i1,e1,_,f1⟩:=gI r.2 h;exact awH i1 hd (Y4 _ _) (SY rfl h.cg e1 _ _ _ r arW h1 f1) hr h2
theorem WC{X R:Type}{S:X->Prop}{k:X->Option R}{r:R}(h:aaR S k=av r):(∃x,S x)/\∀x,S x->k x=av r:=by
 unfold aaR at h;split at h
 ·rename_i hx;obtain rfl:=bf h;exact hx.choose_spec
 ·cases h
theorem aqX(h:Inv C g β s a w){f:gC}{en:Entry}(hd:Sk P f en){vs:List aN}{ys:List Value}(arW:OX (s.env w g β) vs ys){R:Type}{k:AS->Option R}{r:R}
  (he:s.acx en o.dst vs k=av r):(callFunc f ys.toArray).run P w= .ok (.enter f ys.toArray) w/\Calls P f ys.toArray w λe w'=>∃v,e= .returned v/\∃s',ka C s' (a.put o.dst v) w'/\k s'=av r:=by
 unfold AS.acx at he;obtain⟨r2,h0,he⟩:=kk.1 he;obtain⟨r3,h1,h3⟩:=aC.1 h0;obtain⟨Ag,h3⟩:=aR.1 h3;obtain rfl:=aD.1 h3;obtain⟨g',i1,e1,_,f1⟩:=gI r3.2 h;have hn:=Y4 (s.bF r3.2) r3.1;have hv:=SY rfl h.cg e1 _ _ _ r3 arW h1 f1;unfold AS.aJN at he;obtain⟨hx,hk⟩:=WC he;obtain⟨c1,c2⟩:=hd _ _ _ _ _ _ (OX.l7 (aKy _) hv) (aBe _ hn i1.cg) hx;refine⟨c1,c2.mono λe w' ⟨v,x,aO0,hs,ha⟩=>⟨v,aO0,?_⟩⟩;obtain⟨s',h4,h5⟩:=kk.1 (hk x hs);obtain⟨x0,aU1,h4⟩:=aC.1 h4;rw[en.aCi _ _ aU1]at h4;exact⟨s',aqo i1 hn Ag h4 ha,h5⟩
theorem acy(h:Inv C g β s a w){c:Call}{F:cr}{f:gC}{caps:aN}{en:Entry}(ho:o.op= .call c)(hc:c.callee= .value F)(hF:s.ev F= .fn f caps)(hd:Sk P f en){R:Type}{k:AS->Option R}{r:R}
  (he:s.acx en o.dst (c.args.toList.map s.ev++caps.list) k=av r):il P o a w λa' w'=>∃s',ka C s' a' w'/\k s'=av r:=by
 obtain⟨cal,args,tys⟩:=c;simp only at hc he;subst hc;obtain⟨vs,hy,aXG⟩:=arP (hF▸h.ev F);obtain⟨c1,c2⟩:=aqX h hd ((h.aZh args.toList).append (avP aXG)) he;refine .inr (.inr (.inl ⟨f,(args.toList.map a.eval++vs).toArray,w,Eq.trans ?_ c1,c2⟩));have e1:execOp a.eval o=(do let d <-resolve a.eval {callee:= .value F,args,argTypes:=tys} o.type;invoke d.target d.args):=by simp only[execOp,ho]
 rw[e1];simp only[resolve,hy,Deferred.ofValue,cU,eK,cm,invoke];congr 2;simp
end
end Go.Ab
namespace Go.Ab
section
variable {P:bj} {C:Ctx} {g:Nat->qs} {β:Id->Option Pl} {s:AS} {a:Act} {w:cO} {o:Oper}
theorem pv{b:Builtin}{args:Array cr}{ts:Array TypeId}{F:TypeId->Array Value->Sem Value}{x:Value}{w':cO}{s':AS}(ho:o.op= .call {callee:= .builtin b,args,argTypes:=ts})
  (hb:∀ty cs xs,builtin b ts ty cs xs=(do pure (.value (<-F ty xs)))) (hf:∀ty,(F ty (args.map a.eval)).run P w= .ok x w') (h2:∃g' β',Inv C g' β' s' (a.put o.dst x) w'):il P o a w (ka C s'):=by
 refine .inl ⟨x,w',?_,h2⟩;simp only[execOp,ho,resolve,cU,eK,cm,invoke];rw[hb,cU,hf];rfl
theorem aWJ{c:Call}{b:Builtin}{x:cr}(hc:c.callee= .builtin b)(ha:c.args.toList=[x]):c= {callee:= .builtin b,args:= #[x],argTypes:=c.argTypes}:=by
 obtain⟨cal,args,tys⟩:=c;simp only at hc ha;have ha':args= #[x]:=by apply hZ;simpa using ha
 subst hc ha';rfl
theorem aH7{c:Call}{b:Builtin}{x y:cr}(hc:c.callee= .builtin b)(ha:c.args.toList=[x,y]):c= {callee:= .builtin b,args:= #[x,y],argTypes:=c.argTypes}:=by
 obtain⟨cal,args,tys⟩:=c;simp only at hc ha;have ha':args= #[x,y]:=by apply hZ;simpa using ha
 subst hc ha';rfl
theorem baE{ts:Array TypeId}{T:TypeId}(h:ts.toList=[T]):ts= #[T]:=by apply hZ;simpa using h
theorem aYi{ts:Array TypeId}{T U:TypeId}(h:ts.toList=[T,U]):ts= #[T,U]:=by apply hZ;simpa using h
theorem aIN(h:Inv C g β s a w){c:Call}{x:cr}{T e:TypeId}(ho:o.op= .call c)(hc:c.callee= .builtin .cap)(ha:c.args.toList=[x])(ht:c.argTypes.toList=[T])(hx:s.ev x= .dJ)(hT:P.underlying T=av (.slice e)):
  il P o a w (ka C (s.put o.dst (.d (.int .i64) (0:Int)))):=by
 rw[aWJ hc ha,baE ht]at ho;have hv:=h.ev x;rw[hx]at hv;have hy:=mX hv;refine pv ho (F:=λty xs=>Builtin.cap_ #[T] ty xs) (λty cs xs=>rfl) (x:= .int .i64 0) (w':=w) (λty=> ?_) ⟨g,β,h.put o.dst (nE _ _)⟩;simp[Builtin.cap_,run_underlying hT,hy,goInt]
theorem asD(h:Inv C g β s a w){c:Call}{mx:Bool}(ho:o.op= .call c)(hc:c.callee= .builtin (if mx then .max else .min)){v:aN}(he:(aEP mx (c.args.toList.map s.ev)).eval=av v):il P o a w (ka C (s.put o.dst v)):=by
 unfold aEP at he;split at he
 ·rename_i k x k' y Wd;obtain⟨h1,h2⟩:=aR.1 he;obtain rfl:=aD.1 h2;have h1:k=k':=by simpa using h1
  subst h1;have aKf:∃p q,c.args.toList=[p,q]/\s.ev p= .d (.int k) x/\s.ev q= .d (.int k) y:=by
   match hh:c.args.toList,Wd with
   |[p,q],Wd=>simp only[cj,fK,cR]at Wd;exact⟨p,q,rfl,Wd.1,Wd.2.1⟩
   |[],Wd=>simp at Wd
   |[_],Wd=>simp at Wd
   |_::_::_::_,Wd=>simp at Wd
  obtain⟨p,q,ha,hp,hq⟩:=aKf;rw[aH7 hc ha]at ho;have aUZ:=h.ev p;have aXI:=h.ev q;rw[hp]at aUZ;rw[hq]at aXI;have ep:=AT aUZ;have eq:=AT aXI;cases mx with
  |true=>
   refine pv ho (F:=λty xs=>Builtin.max_ c.argTypes ty xs) (λty cs xs=>rfl) (x:= .int k (if x < y then y else x)) (w':=w) (λty=> ?_) ⟨g,β,h.put o.dst (nE _ _)⟩;rw[show(#[p,q].map a.eval)= #[a.eval p,a.eval q] by simp,ep,eq];simp[Builtin.max_,Builtin.max2]
  |false=>
   refine pv ho (F:=λty xs=>Builtin.min_ c.argTypes ty xs) (λty cs xs=>rfl) (x:= .int k (if y < x then y else x)) (w':=w) (λty=> ?_) ⟨g,β,h.put o.dst (nE _ _)⟩;rw[show(#[p,q].map a.eval)= #[a.eval p,a.eval q] by simp,ep,eq];simp[Builtin.min_,Builtin.min2]
 ·rename_i k x k' y k2 z Wd;obtain⟨h1,h2⟩:=aR.1 he;obtain rfl:=aD.1 h2;simp only[aw,bt]at h1;obtain⟨rfl,rfl⟩:=h1;have aKf:∃p q r,c.args.toList=[p,q,r]/\s.ev p= .d (.int k) x/\s.ev q= .d (.int k) y/\s.ev r= .d (.int k) z:=by
   match hh:c.args.toList,Wd with
   |[p,q,r],Wd=>simp only[cj,fK,cR]at Wd;exact⟨p,q,r,rfl,Wd.1,Wd.2.1,Wd.2.2.1⟩
   |[],Wd=>simp at Wd
   |[_],Wd=>simp at Wd
   |[_,_],Wd=>simp at Wd
   |_::_::_::_::_,Wd=>simp at Wd
  obtain⟨p,q,r,ha,hp,hq,hr⟩:=aKf;have bbP:c= {callee:= .builtin (if mx then .max else .min),args:= #[p,q,r],argTypes:=c.argTypes}:=by
   obtain⟨cal,args,tys⟩:=c;simp only at hc ha;have ha':args= #[p,q,r]:=by apply hZ;simpa using ha
   subst hc ha';rfl
  rw[bbP]at ho;have aUZ:=h.ev p;have aXI:=h.ev q;have avE:=h.ev r;rw[hp]at aUZ;rw[hq]at aXI;rw[hr]at avE;have ep:=AT aUZ;have eq:=AT aXI;have er:=AT avE;cases mx with
  |true=>
   refine pv ho (F:=λty xs=>Builtin.max_ c.argTypes ty xs) (λty cs xs=>rfl) (x:= .int k (if(if x < y then y else x) < z then z else(if x < y then y else x))) (w':=w) (λty=> ?_) ⟨g,β,h.put o.dst (nE _ _)⟩;rw[show(#[p,q,r].map a.eval)= #[a.eval p,a.eval q,a.eval r] by simp,ep,eq,er];simp[Builtin.max_,Builtin.max2]
  |false=>
   refine pv ho (F:=λty xs=>Builtin.min_ c.argTypes ty xs) (λty cs xs=>rfl) (x:= .int k (if z < (if y < x then y else x) then z else(if y < x then y else x))) (w':=w) (λty=> ?_) ⟨g,β,h.put o.dst (nE _ _)⟩;rw[show(#[p,q,r].map a.eval)= #[a.eval p,a.eval q,a.eval r] by simp,ep,eq,er];simp[Builtin.min_,Builtin.min2]
 ·simp only[aG]at he
theorem ahE(z:Array Value)(n:Nat):Builtin.zeroCells z n=madeCells z (n*z.size):=rfl
theorem aD9(h:Inv C g β s a w){c:Call}{x y:cr}{T X:TypeId}{k:lW}{n:Int}(ho:o.op= .call c)(hc:c.callee= .builtin .append)(ha:c.args.toList=[x,y])(ht:c.argTypes.toList=[T,X])(hx:s.ev x= .dJ)(hy:s.ev y= .d (.int k) n){s':AS}
  (he:(arT P s o.dst T X n).eval=av s'):il P o a w (ka C s'):=by
 rw[aH7 hc ha,aYi ht]at ho;have ar9:=h.ev x;have bbs:=h.ev y;rw[hx]at ar9;rw[hy]at bbs;have ex:=mX ar9;have ey:=AT bbs;unfold arT at he;split at he
 ·rename_i e t b q kn OO hd hX;obtain⟨hT,hz,i,zv,hi,aEg,aQm,avG,aEl⟩:=Gf OO;obtain⟨hq,h2⟩:=aR.1 he;obtain⟨h3,h4⟩:=cW.1 h2;obtain rfl:=aD.1 h4;simp only[aw,bt,cZ]at h3;obtain⟨h5,h7,h8⟩:=h3;obtain⟨m,rfl⟩:=Int.eq_ofNat_of_zero_le (Int.le_of_lt h5);simp only[aa]at h7 h8 ⊢;have aWt:zv.cells.size=t.size:=by have:=(aEl (s.env w g β)).size;simpa using this
  have hr:=λty=>Go.Lib.run_append_nil_zeros (P:=P) w T X ty e i zv k kn hT hX hi avG m aq (by rw[aEg];exact hz) aq (by rw[aQm];omega)
  obtain⟨cap,anj⟩:∃cap,grownCap w m 0 e=cap:=⟨_,rfl⟩;have c1:m<=cap:=by rw[<-anj];exact grownCap_ge _ _ _ _
  have c2:cap<=maxLen:=by rw[<-anj];exact grownCap_le_maxLen _ _ _ _ (by unfold maxLen;omega)
  rw[anj]at hr;obtain⟨cur,im⟩:∃cur,Builtin.zeroCells zv.cells m++Builtin.zeroCells zv.cells (cap - m)=cur:=⟨_,rfl⟩;rw[im]at hr;have s1:cur.size=cap*t.size:=by rw[<-im,Array.size_append,EC,EC,aWt,<-fg];congr 1;omega
  have Ag:=xE (aEl (s.env w.drew g β)) m;have s2:cur.toList.take (m*t.size)=(madeCells zv.cells (m*t.size)).toList:=by
   rw[<-im,cY,ahE,aWt];have hl:(madeCells zv.cells (m*t.size)).toList.length=m*t.size:=by simp[size_madeCells]
   rw[jI aq,bu aq]
  obtain⟨g2,β2,i2,YZ⟩:=(h.drew).anV hq (e:=e) (l:=ai m t.zero) (cur:=cur) (cap:=cap) hz (by rw[dd,s2];exact Ag) s1 (by rw[dd];exact c1) c2;rw[dd]at YZ;refine pv ho (F:=λty xs=>Builtin.append_ #[T,X] ty xs) (λty cs xs=>rfl) (λty=> ?_) ⟨g2,β2,i2.put o.dst YZ⟩;rw[show(#[x,y].map a.eval)= #[a.eval x,a.eval y] by simp,ex,ey];exact hr ty
 ·simp only[aG]at he
end
end Go.Ab
namespace Go.Ab
section
variable {P:bj} {C:Ctx} {g:Nat->qs} {β:Id->Option Pl} {s:AS} {a:Act} {w:cO} {o:Oper}
theorem asy(h:Inv C g β s a w){c:Call}{T T2:TypeId}{m k:cr}(dW:o.op= .call c)(hc:c.callee= .builtin .delete)(ha:c.args.toList=[m,k])(ht:c.argTypes.toList=[T,T2]){s':AS}(he:(I0 P s T (s.ev m) (s.ev k)).eval=av s'):il P o a w (ka C (s'.put o.dst .nil)):=by
 have dW:o.op= .call {callee:= .builtin .delete,args:= #[m,k],argTypes:= #[T,T2]}:=by rw[dW,aH7 hc ha,aYi ht]
 unfold I0 at he;split at he
 ·rename_i K V' kt vt id ver hm hx;obtain⟨l,h1,he⟩:=aC.1 he;obtain⟨kx,h2,he⟩:=aC.1 he;obtain⟨aUY,he⟩:=aR.1 he;obtain rfl:=aD.1 he;obtain⟨hT,hK,_⟩:=E2 hm;have ar9:=h.ev m;rw[hx]at ar9;obtain⟨fr,pl,es,clock,g1,g2,g3,g4,g5,g6,g7,gn⟩:=Ci h h1 ar9;obtain⟨l0,g6,gp⟩:=g6;have Pq:=DC depth K kt hK;have hk:=Jg (h.ev k) h2;have adk:=qQ (P:=P) (w:=w) es.isEmpty depth K kt hK 10000 eX _ _ hk;obtain⟨r,hf,hr⟩:=QZ (P:=P) (w:=w) hK hk rfl g6
  have fin:∀(es':Array gl) (clock':Nat),(∀ty,(Builtin.delete_ #[T,T2] ty (#[m,k].map a.eval)).run P w= .ok (.tuple #[]) {w with heap:=w.heap.setIfInBounds pl.b (.map es' clock')})->Alike (Im (s.env w g β) kt vt) es'.toList (kH kt kx l0)->qH es'.toList clock'->
    il P o a w (ka C ((s.bI id (.obj ver aZ (.mp kt vt (kH kt kx l)))).put o.dst .nil)):=λes' clock' sr aKf aW5=>
   pv (F:=λty xs=>Builtin.delete_ #[T,T2] ty xs) dW (λ_ _ _=>rfl) sr ⟨g,β,(h.aN1 g1 g2 g4 g5 ⟨_,aKf,adW Pq gn gp⟩ (LM Pq gn) aW5 aUY).put o.dst rfl⟩
  cases r with
  |none=>
   simp only at hr;refine fin es clock (λty=> ?_) (by simp only[kH,hr];exact g6) g7;simp[Builtin.delete_,run_underlying hT,g3,Go.MapKept.run_getObj_map g4,adk,hf,Go.MapKept.run_setObj_map _ g4]
  |some u=>
   obtain⟨j,u⟩:=u;obtain⟨e,m1,m2,rfl⟩:=hr;refine fin (es.eraseIdxIfInBounds j) clock (λty=> ?_) ?_ (by rw[Array.toList_eraseIdxIfInBounds];exact g7.erase j)
   ·simp[Builtin.delete_,run_underlying hT,g3,Go.MapKept.run_getObj_map g4,adk,hf,Go.MapKept.run_setObj_map _ g4]
   ·simp only[kH,m1,Array.toList_eraseIdxIfInBounds];exact g6.erase j
 ·simp only[aG]at he
theorem ajp{s:AS}{id:Id}{e:eJ}{q:Nat}(hq:s.eQ q=bm)(jk:s.cJ id≠aH):(s.bI id e).eQ q=bm:=by
 cases id with
 |bP k=>exact hq
 |new i j=>
  by_cases hi:i=q
  ·subst hi;exact absurd ((lU hq).1 j) jk
  ·unfold AS.eQ AS.bI;simp only[fy hi];exact hq
theorem afX(h:Inv C g β s a w){T:TypeId}{m:cr}(dW:o.op= .range T m){s':AS}(he:(Xx P s o.dst T (s.ev m)).eval=av s'):il P o a w (ka C s'):=by
 unfold Xx at he;split at he
 ·rename_i K V' kt vt id ver q hm hx hd;obtain⟨l,h1,he⟩:=aC.1 he;obtain⟨hq,he⟩:=aR.1 he;obtain rfl:=aD.1 he;rw[aw]at hq;obtain⟨hT,_,_⟩:=E2 hm;have ar9:=h.ev m;rw[hx]at ar9;obtain⟨fr,pl,es,clock,g1,g2,g3,g4,g5,g6,g7,gn⟩:=Ci h h1 ar9;obtain rfl:=Ex g1 hq.1;have jk:s.cJ id≠aH:=by rw[g1];simp
  have bbp:=Trans.refl w g;have awX:dI (s.env w g β) ((s.bI id (.obj ver bm (.mp kt vt l))).env w g β):=dI.bI g1 (az _) bbp (λ_ _=>rfl) (λ_=>rfl)
  have i0:Inv C g β (s.bI id (.obj ver bm (.mp kt vt l))) a w:=
   h.step (eo _ _ _) bbp awX (ku.bI h.cg jk awX (λ_ _=>rfl) (λ_ _ _ _ _ _ _ _=>⟨rfl,rfl⟩) ⟨pl,es,clock,g2,g4,g5,⟨g6.mono awX.mem,gn⟩,g7⟩ (anE g1))
  have dQ:=fu s id (.obj ver bm (.mp kt vt l)) jk;have hq':=ajp (e:= .obj ver bm (.mp kt vt l)) hq.2 jk;generalize bc9:s.bI id (.obj ver bm (.mp kt vt l))=s0 at i0 dQ hq' awX;have Ky:∀j,id≠ .new q j:=λj e=>by rw[e,(lU hq').1 j]at dQ;cases dQ
  have fF:pl.b < w.heap.size:=(cS.1 g4).1;have ht:=Trans.alloc w g (.mapIter (av pl.b) clock #[] clock) (.own (.id (.new q 0)) 0);obtain⟨h3,h4⟩:=i0.acq hq' (c:= .tP id (ver+1) kt vt l aH) (p:=av ⟨w.heap.size,0⟩) ht (λb hb=>⟨z8 w _ hb,iR _ _ _ aq⟩) (λhE=>
   ⟨⟨w.heap.size,0⟩,pl.b,clock,#[],clock,oF _ _ _,De w _,iG _ _ _,λvr avE=>by
    obtain rfl:ver=vr:=aq;have hb:(s0.env w g β).KE id ver:=⟨by show s0.cJ id≠aH;rw[dQ];simp,λv2 fr2 c2 h2=>by
     have h2:s0.cJ id=av (.obj v2 fr2 c2):=h2;rw[dQ]at h2;simp only[ax,eJ.obj.injEq]at h2;omega⟩
    refine⟨hE.KE _ _ hb,λ_=>⟨⟨kt,vt,l,?_⟩,pl,es,clock,?_,rfl,?_,?_,λx hx=>g7.2 x hx,⟨az _,az _⟩,g7.1,?_,λx hx=>by cases hx⟩⟩
    ·show(s0.born q _).cJ id=_;rw[jO _ Ky];exact dQ
    ·show OU β (.new q 0) _ id=_;rw[Ey _ _ _ (Ky 0)];exact g2
    ·exact(z8 w _ fF).trans g4
    ·show yc g w.heap.size _ pl.b=_;rw[iR _ _ _ aq];exact g5
    ·have:es.toList.filter (λe=> !(#[]:Array Nat).contains e.born)=es.toList:=kh.2 λx _=>by simp
     rw[this];exact(g6.mono awX.mem).mono hE.mem⟩)
  refine .inl ⟨.pointer (av ⟨w.heap.size,0,aH⟩),w.alloc (.mapIter (av pl.b) clock #[] clock),?_,_,_,h3.put o.dst (v:= .ptr (.new q 0) 0 [] 0) ⟨[.pointer (av ⟨w.heap.size,0,aH⟩)],?_,rfl⟩⟩
  ·refine fE (f:=Instr.range T (a.eval m)) (by simp only[execOp,dW]) ?_
   rw[g3];exact run_range_map w T K V' pl.b es clock hT g4
  ·simp only[V];exact⟨_,rfl,wW hq' _ _ _ _,λ_=>⟨_,oF _ _ _,rfl⟩⟩
 ·simp only[aG]at he
theorem aqm{Γ:tg}(hΓ:Sound P Γ){cg:List Nat}(h:Inv C g β s a w){s':AS}(he:(vJ P Γ cg o s).eval=av s'):il P o a w (ka C s'):=by
 unfold vJ at he;split at he
 ·rename_i x dW;obtain rfl:=aD.1 he;exact akt h (.inl dW)
 ·rename_i x dW;obtain rfl:=aD.1 he;exact akt h (.inr dW)
 ·rename_i c x y dW;obtain⟨v,h1,h2⟩:=aC.1 he;obtain rfl:=aD.1 h2;exact aFr h dW h1
 ·rename_i T dW;split at he
  ·rename_i z q hz hq;obtain⟨h1,h2⟩:=aR.1 he;obtain rfl:=aD.1 h2;simp only[aw]at h1;exact avU h dW h1.1 h1.2
  ·exact(aG.1 he).elim
 ·rename_i T x dW;exact aIB h dW he
 ·rename_i T parts dW;exact awk h dW he
 ·rename_i T n parts dW;exact aaN h dW he
 ·rename_i T x dW;obtain⟨v,h1,h2⟩:=aC.1 he;obtain rfl:=aD.1 h2;exact aED h dW h1
 ·rename_i T x v dW;obtain⟨v,h1,h2⟩:=aC.1 he;obtain rfl:=aD.1 h2;exact az0 h dW h1
 ·rename_i x dW;exact aid h dW he
 ·rename_i op T x y U dW;obtain⟨v,h1,h2⟩:=aC.1 he;obtain rfl:=aD.1 h2;exact av4 h dW h1
 ·rename_i op T x dW;obtain⟨v,h1,h2⟩:=aC.1 he;obtain rfl:=aD.1 h2;exact aHD h dW h1
 ·rename_i T U x dW;obtain⟨v,h1,h2⟩:=aC.1 he;obtain rfl:=aD.1 h2;exact amC h dW h1
 ·rename_i f first caps dW
  obtain⟨h1,h2⟩:=aR.1 he;obtain rfl:=aD.1 h2;simp only[aw]at h1;exact ah7 h dW h1.1 h1.2
 ·rename_i T l c dW;obtain⟨n,h1,h2⟩:=aC.1 he;obtain⟨m,h3,h4⟩:=aC.1 h2;exact adP h dW h1 h3 h4
 ·rename_i T x lo hi dW;obtain⟨v,h1,h2⟩:=aC.1 he;obtain rfl:=aD.1 h2;exact agP h dW (.inl rfl) h1
 ·rename_i T x lo y m dW;obtain⟨v',h0,h8⟩:=aC.1 he;obtain rfl:=aD.1 h8;obtain⟨hv,h1,h2⟩:=aC.1 h0;obtain⟨mv,h3,h4⟩:=aC.1 h2;obtain⟨h5,h6⟩:=cW.1 h4;obtain⟨v,h7,h9⟩:=aC.1 h6;obtain rfl:=aD.1 h9;simp only[bt]at h5;exact agP h dW (.inr ⟨m,y,hv,mv,rfl,rfl,h1,h3,h5.1,h5.2.1,h5.2.2⟩) h7
 ·rename_i T x f dW;obtain⟨v,h1,h2⟩:=aC.1 he;obtain rfl:=aD.1 h2;exact ac7 h dW h1
 ·rename_i T x f dW;obtain⟨v,h1,h2⟩:=aC.1 he;obtain rfl:=aD.1 h2;exact awL h dW h1
 ·rename_i T x i dW;obtain⟨n,h0,he⟩:=aC.1 he;obtain⟨v,h1,h2⟩:=aC.1 he;obtain rfl:=aD.1 h2;exact ads h dW h0 h1
 ·rename_i T x i dW;obtain⟨n,h0,he⟩:=aC.1 he;obtain⟨v,h1,h2⟩:=aC.1 he;obtain rfl:=aD.1 h2;exact aw9 h dW h0 h1
 ·rename_i x i dW;obtain⟨v,h1,h2⟩:=aC.1 he;obtain rfl:=aD.1 h2;exact am5 h dW h1
 ·rename_i T dW;exact anR h dW he
 ·rename_i T x i ok dW;obtain⟨v,h1,h2⟩:=aC.1 he;obtain rfl:=aD.1 h2;exact ast h dW h1
 ·rename_i T m k x dW;obtain⟨s1,h1,h2⟩:=aC.1 he;obtain rfl:=aD.1 h2;exact asA h dW h1
 ·rename_i T m dW;exact afX h dW he
 ·rename_i c dW;split at he
  ·rename_i hc;split at he
   ·rename_i m k T T2 ha ht;obtain⟨s1,h1,h2⟩:=aC.1 he;obtain rfl:=aD.1 h2;exact asy h dW hc ha ht h1
   ·exact(aG.1 he).elim
  ·rename_i hc;split at he
   ·rename_i x y T X ha ht;exact aDy h dW hc ha ht he
   ·exact(aG.1 he).elim
  ·rename_i hc;split at he
   ·rename_i x T ha ht;obtain⟨v,h1,h2⟩:=aC.1 he;obtain rfl:=aD.1 h2;exact aKT h dW hc ha ht h1
   ·exact(aG.1 he).elim
  ·rename_i hc;split at he
   ·rename_i x y T X ha ht;split at he
    ·rename_i k n hx hy;exact aD9 h dW hc ha ht hx hy he
    ·exact aqn h dW hc ha ht he
   ·exact(aG.1 he).elim
  ·rename_i hc;split at he
   ·rename_i x T ha ht;split at he
    ·rename_i e hx hT;obtain rfl:=aD.1 he;exact aIN h dW hc ha ht hx hT
    ·exact(aG.1 he).elim
   ·exact(aG.1 he).elim
  ·rename_i hc;obtain⟨v,h1,h2⟩:=aC.1 he;obtain rfl:=aD.1 h2;exact asD (mx:=bm) h dW hc h1
  ·rename_i hc;obtain⟨v,h1,h2⟩:=aC.1 he;obtain rfl:=aD.1 h2;exact asD (mx:=aZ) h dW hc h1
  ·rename_i F hc;split at he
   ·rename_i f caps hF;split at he
    ·rename_i en aKj;obtain⟨fF,he⟩:=aR.1 he;exact aDj h dW hc hF ((hΓ f _ en aKj).1 fF) he
    ·exact(aG.1 he).elim
   ·exact(aG.1 he).elim
  ·exact(aG.1 he).elim
 ·exact(aG.1 he).elim
end
end Go.Ab
namespace Go.Ab
def wJ(P:bj)(ops:Array Oper)(o:Oper)(a:Act)(w:cO)(K:Act->cO->Prop):Prop:=if Region.wanted o (yielded ops a.tmps) then il P o a w K else K (a.put o.dst undef) w
theorem wJ.mono{P:bj}{ops:Array Oper}{o:Oper}{a:Act}{w:cO}{K K':Act->cO->Prop}(h:wJ P ops o a w K)(hk:∀a w,K a w->K' a w):wJ P ops o a w K':=by
 unfold wJ at*;split
 ·rename_i hw;rw[if_pos hw]at h;exact h.mono hk
 ·rename_i hw;rw[if_neg hw]at h;exact hk _ _ h
theorem wJ.wpListIn{r:Option Nat}{n:Nat}{P:bj}{ops:Array Oper}{o:Oper}{a:Act}{w:cO}{Q:Exit->Act->cO->Prop}{l:List Oper}(h:wJ P ops o a w (wpListIn (Fr r) n P ops Q l)):Go.wpListIn (Fr r) n P ops Q (o::l) a w:=by
 unfold wJ at h;unfold Go.wpListIn;split
 ·rename_i hw;rw[if_pos hw]at h;exact h.wpIn
 ·rename_i hw;rw[if_neg hw]at h;exact⟨λ_ _=>trivial,h⟩
theorem wJ.wpOpIn{r:Option Nat}{n:Nat}{P:bj}{ops:Array Oper}{o:Oper}{i:Nat}{a:Act}{w:cO}{Q:Exit->Act->cO->Prop}{K:Act->cO->Prop}(ho:ops[i]? =Option.some o)(h:wJ P ops o a w K):Go.wpOpIn (Fr r) n P ops Q i K a w:=by
 unfold wJ at h;unfold Go.wpOpIn;simp only[ho];split
 ·rename_i hw;rw[if_pos hw]at h;exact h.wpIn
 ·rename_i hw;rw[if_neg hw]at h;exact⟨λ_ _=>trivial,h⟩
theorem atv{s:AS}{q:Nat}{v:aN}(h:s.slot q=v)(hq:q < s.dg.length):s.put (av q) v=s:=by
 have hv:s.dg[q]=v:=by simpa[AS.slot,bh,hq]using h
 simp only[AS.put];rw[<-hv,gU]
theorem aps{s:AS}{q:Nat}{t:Ty}{x:t.den}(h:s.slot q= .d t x):q < s.dg.length:=by
 rcases r0 q s.dg.length with h' | h'
 ·exact h'
 ·simp[AS.slot,bh,eB h']at h
def ON(P:bj)(Γ:tg)(cg:List Nat)(ops:Array Oper)(o:Oper)(s:AS):Option AS:=
 match o.guard with
 |none=>(vJ P Γ cg o s).eval
 |some (j,want)=>match(ops[j]?).bind (·.dst) with
  |some q=>match s.slot q with
   | .d .bool b=>if b=want then(vJ P Γ cg o s).eval else av (s.put o.dst .nil)
   | .nil=>av (s.put o.dst .nil)
   |_=>aH
  |none=>aH
theorem arS{R:Type}{P:bj}{Γ:tg}{cg:List Nat}{ops:Array Oper}{o:Oper}{s:AS}{k:AS->Option R}{r:R}(h:aKe P Γ cg ops o s k=av r):∃s',ON P Γ cg ops o s=av s'/\k s'=av r:=by
 unfold aKe at h;unfold ON;split at h
 ·rename_i hg;simp only[hg];exact kk.1 h
 ·rename_i j want hg;simp only[hg];split at h
  ·rename_i q hq;simp only[hq];split at h
   ·rename_i b hb;have e:=atv hb (aps hb);simp only[hb];cases want <;> cases b <;> simp only[aJ]at h <;> rw[e]at h
    ·obtain⟨s',h1,h2⟩:=kk.1 h;exact⟨s',by simpa using h1,h2⟩
    ·exact⟨_,by simp,h⟩
    ·exact⟨_,by simp,h⟩
    ·obtain⟨s',h1,h2⟩:=kk.1 h;exact⟨s',by simpa using h1,h2⟩
   ·rename_i hb;simp only[hb];exact⟨_,rfl,h⟩
   ·cases h
  ·cases h
section
variable {P:bj} {C:Ctx} {g:Nat->qs} {β:Id->Option Pl} {s:AS} {a:Act} {w:cO} {o:Oper}
theorem ahC(h:Inv C g β s a w){ops:Array Oper}{j q:Nat}{b:Bool}(hq:(ops[j]?).bind (·.dst)=av q)(hb:s.slot q= .d .bool b):yielded ops a.tmps j=av b:=by
 have hv:=h.dg q;rw[hb]at hv;have hv:=abx hv;have hl:=aps hb;rw[<-h.size]at hl;unfold yielded;rw[hq,Option.bind_some];have:a.tmps[q]? =av (.bool b):=by rw[fU hl];simpa[Array.getD,hl]using hv
 rw[this]
theorem aaK(h:Inv C g β s a w){ops:Array Oper}{j q:Nat}(hq:(ops[j]?).bind (·.dst)=av q)(hb:s.slot q= .nil):yielded ops a.tmps j=aH:=by
 have hv:=h.dg q;rw[hb]at hv;have hv:a.tmps.getD q undef= .tuple #[]:=hv;unfold yielded;rw[hq,Option.bind_some];split
 ·rename_i b hb;rw[eD,hb]at hv;cases hv
 ·rfl
theorem aka{Γ:tg}(hΓ:Sound P Γ){cg:List Nat}{ops:Array Oper}(h:ka C s a w){s':AS}(he:ON P Γ cg ops o s=av s'):wJ P ops o a w (ka C s'):=by
 obtain⟨g,β,h⟩:=h;unfold ON at he;unfold wJ;split at he
 ·rename_i hg;have:Region.wanted o (yielded ops a.tmps)=bm:=by simp[Region.wanted,hg]
  rw[if_pos this];exact aqm hΓ h he
 ·rename_i j want hg;split at he
  ·rename_i q hq;split at he
   ·rename_i b hb;have hy:=ahC h hq hb;have hw:Region.wanted o (yielded ops a.tmps)=(b==want):=by simp[Region.wanted,hg,hy]
    rw[hw];by_cases e:b=want
    ·rw[if_pos e]at he;rw[if_pos (by simp[e])];exact aqm hΓ h he
    ·rw[if_neg e]at he;rw[if_neg (by simp[e])];simp only[ax]at he;subst he;exact⟨g,β,h.put o.dst rfl⟩
   ·rename_i hb;have hy:=aaK h hq hb;have hw:Region.wanted o (yielded ops a.tmps)=aZ:=by simp[Region.wanted,hg,hy]
    rw[hw,if_neg (by simp)];simp only[ax]at he;subst he;exact⟨g,β,h.put o.dst rfl⟩
   ·cases he
  ·cases he
theorem aBs{R:Type}{x y:Option R}{r:R}(h:nd x y=av r):x=av r/\y=av r:=by
 unfold nd at h;split at h
 ·rename_i e;exact⟨h,e▸h⟩
 ·cases h
theorem axD(h:Inv C g β s a w){x y:cr}{n:Nat}(hn:aeq s x y=av n){T:TypeId}(hT:B1.isSl P T=bm):∃b,(0 < n->b=aZ)/\(Op.equal T (a.eval x) (a.eval y)).run P w= .ok b w/\
  vm (a.eval x)=aZ/\a.eval x≠ .nilIface/\∀op,binOp op T (a.eval x) (a.eval y)=(match op with | .eql=>do pure (.bool (<-Op.equal T (a.eval x) (a.eval y))) | .neq=>do pure (.bool (!(<-Op.equal T (a.eval x) (a.eval y)))) | _=>binOp op T (a.eval x) (a.eval y)):=by
 have hx:=h.ev x;have hy:=h.ev y;unfold B1.isSl at hT;split at hT <;> try (cases hT;done)
 rename_i e hU;unfold aeq at hn;split at hn
 ·rename_i t l h1 h2;rw[h1]at hx;rw[h2]at hy;obtain⟨ad,cap,vs,hv,_,hs,_⟩:=xL hx;have YZ:=mX hy;rw[hv,YZ];refine⟨ad.isNone,λhp=> ?_,?_,rfl,by simp,λop=>by cases op <;> rfl⟩
  ·obtain rfl:=bf hn;obtain⟨ad',rfl⟩:=bZ.1 (hs hp);rfl
  ·cases ad with
   |none=>exact fh λd=>by simp[dG,run_underlying hU]
   |some ad=>exact fh λd=>by simp[dG,run_underlying hU]
 ·rename_i t l h1 h2;rw[h1]at hx;rw[h2]at hy;obtain⟨ad,cap,vs,hv,_,hs,_⟩:=xL hy;have YZ:=mX hx;rw[hv,YZ];refine⟨ad.isNone,λhp=> ?_,?_,rfl,by simp,λop=>by cases op <;> rfl⟩
  ·obtain rfl:=bf hn;obtain⟨ad',rfl⟩:=bZ.1 (hs hp);rfl
  ·exact fh λd=>by simp[dG,run_underlying hU]
 ·rename_i id ver pp c i len h1 h2;rw[h1]at hx;rw[h2]at hy;obtain⟨ad,cap,hv,_,hs,_⟩:=zQ hx;have YZ:=mX hy;rw[hv,YZ];refine⟨ad.isNone,λhp=> ?_,?_,rfl,by simp,λop=>by cases op <;> rfl⟩
  ·obtain rfl:=bf hn;obtain⟨ad',rfl⟩:=bZ.1 (hs hp);rfl
  ·cases ad with
   |none=>exact fh λd=>by simp[dG,run_underlying hU]
   |some ad=>exact fh λd=>by simp[dG,run_underlying hU]
 ·rename_i id ver pp c i len h1 h2;rw[h1]at hx;rw[h2]at hy;obtain⟨ad,cap,hv,_,hs,_⟩:=zQ hy;have YZ:=mX hx;rw[hv,YZ];refine⟨ad.isNone,λhp=> ?_,?_,rfl,by simp,λop=>by cases op <;> rfl⟩
  ·obtain rfl:=bf hn;obtain⟨ad',rfl⟩:=bZ.1 (hs hp);rfl
  ·exact fh λd=>by simp[dG,run_underlying hU]
 ·cases hn
theorem Ua(h:Inv C g β s a w){x y:cr}{n:Nat}{T U:TypeId}(hn:aeq s x y=av n)(hT:B1.isSl P T=bm):
  (o.op= .binOp .eql T x y U->∃b,(0 < n->b=aZ)/\il P o a w (ka C (s.put o.dst (.d .bool b))))/\(o.op= .binOp .neq T x y U->∃b,(0 < n->b=bm)/\il P o a w (ka C (s.put o.dst (.d .bool b)))):=by
 obtain⟨b,h1,h2,h3,h4,h5⟩:=axD (w:=w) h hn hT;have hg:∀op,(eqGuard op T x y (a.eval x) (a.eval y)).run P w= .ok () w:=λop=>tN h4 h3
 refine⟨λho=>⟨b,h1,h.value (Io b) ?_⟩,λho=>⟨!b,λhp=>by rw[h1 hp];rfl,h.value (Io (!b)) ?_⟩⟩
 ·have h6:(binOp .eql T (a.eval x) (a.eval y)).run P w= .ok (.bool b) w:=by rw[h5 .eql];simp[h2]
  simp[execOp,ho,hg,h6]
 ·have h6:(binOp .neq T (a.eval x) (a.eval y)).run P w= .ok (.bool (!b)) w:=by rw[h5 .neq];simp[h2]
  simp[execOp,ho,hg,h6]
theorem VF{R:Type}{c:Bool}{x y:Option R}{r:R}(h:aJ c x y=av r):(c=bm/\x=av r)\/(c=aZ/\y=av r):=by
 cases c
 ·exact .inr ⟨rfl,h⟩
 ·exact .inl ⟨rfl,h⟩
theorem aJF{R:Type}{n:Nat}{k:Nat->Option R}{r:R}(h:ap3 n k=av r):0 < n/\∀j,j < n->k j=av r:=by
 unfold ap3 at h;split at h
 ·rename_i hx;obtain rfl:=bf h;exact hx.choose_spec
 ·cases h
theorem awD{R:Type}{n:Nat}{k:Nat->Option R}{x:Option R}(hn:0 < n)(h:∀j,j < n->k j=x):ap3 n k=x:=by
 unfold ap3;cases x with
 |none=>exact ET λ⟨r,_,hr⟩=>by have:=h 0 hn;rw[hr 0 hn]at this;cases this
 |some r=>
  have hx:∃r,0 < n/\∀j,j < n->k j=av r:=⟨r,hn,h⟩;rw[BX hx];have:=hx.choose_spec.2 0 hn;rw[h 0 hn]at this;exact this.symm
theorem Alike.len{α β:Type}{R:α->β->Prop}:∀ {xs:List α} {ys:List β},Alike R xs ys->xs.length=ys.length
 |[],[],_=>rfl
 |_::_,_::_,⟨_,h⟩=>by simp[h.len]
 |[],_::_,h=>h.elim
 |_::_,[],h=>h.elim
theorem axV{α:Type}:∀ {xs ys:List α} {i j:Nat} {x:α},xs.Perm ys->xs[i]? =av x->ys[j]? =av x->(xs.eraseIdx i).Perm (ys.eraseIdx j):=by
 have key:∀ {xs:List α} {i:Nat} {x:α},xs[i]? =av x->xs.Perm (x::xs.eraseIdx i):=by
  intro xs
  induction xs with
  |nil=>intro i x h;simp at h
  |cons y xs ih=>
   intro i x h;cases i with
   |zero=>simp at h;subst h;exact lE _
   |succ i=>
    have h:xs[i]? =av x:=by simpa using h
    exact((ih h).cons y).trans (List.Perm.swap x y _)
 intro xs ys i j x hp hi hj;exact((key hi).symm.trans (hp.trans (key hj))).cons_inv
theorem adB(h:Inv C g β s a w){x:cr}{t:aCD}(ht:s.aKJ (s.ev x)=av t):
  s.cJ t.i=av (.obj t.v t.fr (.tP t.q (t.vr+1) t.kt t.vt t.rest t.cur))/\(∃k v l,s.cJ t.q=av (.obj t.vr bm (.mp k v l)))/\
  ∃pl plq since seen c0 es clock,a.eval x= .pointer (av ⟨pl.b,0,aH⟩)/\β t.i=av pl/\w.heap[pl.b]? =av (.mapIter (av plq.b) since seen c0)/\g pl.b= .own (.id t.i) 0/\
   β t.q=av plq/\w.heap[plq.b]? =av (.map es clock)/\g plq.b= .own (.id t.q) 0/\(∀x∈es.toList,x.born < since)/\(since<=c0/\since<=clock)/\(es.toList.map (·.born)).Nodup/\
   al9 (s.env w g β) t.kt t.vt (es.toList.filter λe=> !seen.contains e.born) t.rest/\
   ∀x,t.cur=av x->∃(e:gl) (seen':Array Nat),e∈es.toList/\seen=seen'.push e.born/\c0=clock/\Im (s.env w g β) t.kt t.vt e x:=by
 have ar9:=h.ev x;generalize s.ev x=y at ht ar9;unfold AS.aKJ at ht;split at ht
 ·rename_i i ver;split at ht
  ·rename_i v fr q vr kt vt rest cur qF;split at ht
   ·rename_i hv hl;obtain rfl:=bf ht;have hv:v=ver:=by simpa using hv
    subst hv;have dQ:=fT qF;unfold AS.asr at hl;split at hl
    ·rename_i v2 k2 t2 l2 aZP;have hl:v2=vr:=by simpa using hl
     subst hl;have hq:=fT aZP;refine⟨dQ,⟨_,_,_,hq⟩,?_⟩;obtain⟨pl,mb,since,seen,c0,h1,h2,h3,h4⟩:=h.cg i v fr _ dQ;obtain⟨h5,h6⟩:=h4 v2 rfl;obtain⟨_,plq,es,clock,k1,k2,k3,k4,k5,k6,k7,k8,k9⟩:=h6 ⟨_,_,hq⟩;subst k2;obtain⟨ad,m1,m2,m3⟩:=Gw ar9;obtain⟨pl',m4,rfl⟩:=m3 ⟨_,_,dQ⟩;have h1:β i=av pl:=h1;have m4:β i=av pl':=m4;rw[h1]at m4;obtain rfl:pl=pl':=by simpa using m4
     exact⟨pl,plq,since,seen,c0,es,clock,m1,h1,h2,h3,k1,k3,k4,k5,k6,k7,k8,k9⟩
    ·cases hl
   ·cases ht
  ·cases ht
 ·cases ht
theorem Im.bcE{E:Env}{kt vt:Ty}{e:gl}{x:kt.den×vt.den}(h:Im E kt vt e x):VS E (.cons (.d kt x.1) (.cons (.d vt x.2) .nil)) (.tuple #[e.key,e.val]):=by obtain⟨⟨c1,a1,b1⟩,c2,a2,b2⟩:=h;refine⟨[e.key,e.val],rfl,?_⟩;simp only[VC];exact⟨_,_,c1,rfl,by simpa only[V]using a1,b1,_,_,c2,rfl,by simpa only[V]using a2,b2,rfl⟩
theorem Im.bcF{E:Env}{kt vt:Ty}{e:gl}{x:kt.den×vt.den}(h:Im E kt vt e x):VS E (.cons (.d .bool bm) (.cons (.d kt x.1) (.cons (.d vt x.2) .nil))) (.tuple #[.bool bm,e.key,e.val]):=by obtain⟨⟨c1,a1,b1⟩,c2,a2,b2⟩:=h;refine⟨[.bool bm,e.key,e.val],rfl,?_⟩;simp only[VC];exact⟨_,_,[.bool bm],rfl,by simp only[V,c9],rfl,_,_,c1,rfl,by simpa only[V]using a1,b1,_,_,c2,rfl,by simpa only[V]using a2,b2,rfl⟩
theorem awJ(h:Inv C g β s a w){x:cr}(dW:o.op= .entry x){v:aN}(he:(awI s (s.ev x)).eval=av v):il P o a w (ka C (s.put o.dst v)):=by
 unfold awI at he;split at he
 ·rename_i i v0 fr q vr kt vt rest c ht;obtain rfl:=aD.1 he;obtain⟨_,_,pl,plq,since,seen,c0,es,clock,m1,m2,m3,_,m5,m6,m7,_,_,m10,_,m12⟩:=adB h ht;obtain⟨e,seen',n1,rfl,rfl,n4⟩:=m12 c rfl;refine h.value n4.bcE (fE (f:=Instr.entry (a.eval x)) (by simp only[execOp,dW]) ?_);rw[m1];exact run_entry_at w pl.b plq.b since seen' es _ e m3 m6 n1 m10
 ·simp only[aG]at he
theorem heap_drew{w w1:cO}(hw:w1=w\/w1=w.drew):w1.heap=w.heap/\w1.os=w.os/\w1.tape=w.tape/\(w1.output=w.output/\w.drawn<=w1.drawn):=by
 rcases hw with rfl | rfl
 ·exact⟨rfl,rfl,rfl,rfl,az _⟩
 ·exact⟨rfl,rfl,rfl,rfl,vH _⟩
theorem Inv.aYc(h:Inv C g β s a w){i q:Id}{v vr:Nat}{fr:Bool}{kt vt:Ty}{rest:List (kt.den×vt.den)}{cur:Option (kt.den×vt.den)}(dQ:s.cJ i=av (.obj v fr (.tP q (vr+1) kt vt rest cur)))
  {k2 v2:Ty} {l2:List (k2.den×v2.den)} (hq:s.cJ q=av (.obj vr bm (.mp k2 v2 l2))) {pl plq:Pl} {m0:Option Nat} {since0 c00:Nat} {seen0:Array Nat} (hp:β i=av pl) (hb:w.heap[pl.b]? =av (.mapIter m0 since0 seen0 c00)) (hg:g pl.b= .own (.id i) 0)
  {w1:cO} (hw:w1=w\/w1=w.drew) {es:Array gl} {clock since c0:Nat} {seen:Array Nat} (bcg:β q=av plq) (aUG:w.heap[plq.b]? =av (.map es clock)) (bbX:g plq.b= .own (.id q) 0)
  (h1:∀x∈es.toList,x.born < since) (h2:since<=c0/\since<=clock) (h3:(es.toList.map (·.born)).Nodup) {rest':List (kt.den×vt.den)} {cur':Option (kt.den×vt.den)} (h4:al9 (s.env w g β) kt vt (es.toList.filter λe=> !seen.contains e.born) rest')
  (h5:∀x,cur'=av x->∃(e:gl) (seen':Array Nat),e∈es.toList/\seen=seen'.push e.born/\c0=clock/\Im (s.env w g β) kt vt e x):
  Inv C g β (s.bI i (.obj v fr (.tP q (vr+1) kt vt rest' cur'))) a (Go.ChangeMaps.setBlock w1 pl.b (.mapIter (av plq.b) since seen c0))/\
   wH (s.env w g β) ((s.bI i (.obj v fr (.tP q (vr+1) kt vt rest' cur'))).env (Go.ChangeMaps.setBlock w1 pl.b (.mapIter (av plq.b) since seen c0)) g β):=by
 obtain⟨d1,d2,d3,d4⟩:=heap_drew hw;have fF:pl.b < w.heap.size:=(cS.1 hb).1;have aA9:(Go.ChangeMaps.setBlock w1 pl.b (.mapIter (av plq.b) since seen c0)).heap=w.heap.setIfInBounds pl.b (.mapIter (av plq.b) since seen c0):=by show w1.heap.setIfInBounds _ _=_;rw[d1]
 have aQu:(Go.ChangeMaps.setBlock w1 pl.b (.mapIter (av plq.b) since seen c0)).os=w.os/\(Go.ChangeMaps.setBlock w1 pl.b (.mapIter (av plq.b) since seen c0)).tape=w.tape/\((Go.ChangeMaps.setBlock w1 pl.b (.mapIter (av plq.b) since seen c0)).output=w.output/\w.drawn<=(Go.ChangeMaps.setBlock w1 pl.b (.mapIter (av plq.b) since seen c0)).drawn):=⟨d2,d3,d4⟩;generalize Go.ChangeMaps.setBlock w1 pl.b (.mapIter (av plq.b) since seen c0)=w' at aA9 aQu;have hother:∀b',b'≠pl.b->w'.heap[b']? =w.heap[b']? :=λb' jk=>by rw[aA9,fZ,if_neg (λe=>jk e.symm)]
 have vU:w'.heap[pl.b]? =av (.mapIter (av plq.b) since seen c0):=by rw[aA9,fZ,if_pos rfl,if_pos fF]
 have ht:Trans w w' g g:=by
  refine⟨aQu.1,aQu.2.1,aQu.2.2,by rw[aA9];simp,λb' _=> ?_⟩;by_cases he:b'=pl.b
  ·subst he;rw[hg];exact⟨.inr ⟨i,0,rfl,az _⟩,λ_ _ hh=>aq⟩
  ·rw[hother b' he];cases adm:g b' with
   |free=>exact⟨rfl,rfl⟩
   |own o' k=>cases o' with
    |gf=>exact⟨rfl,rfl⟩
    |id i'=>exact⟨.inr ⟨i',k,rfl,az _⟩,λoff v _ hv=>by simpa only[World.cell?,hother b' he]using hv⟩
 have hle:dI (s.env w g β) ((s.bI i (.obj v fr (.tP q (vr+1) kt vt rest' cur'))).env w' g β):=dI.bI dQ (az _) ht (λ_ _=>rfl) (λ_=>rfl);have aXB:q≠i:=λe=>by rw[e,dQ]at hq;cases hq
 have bcf:plq.b≠pl.b:=λe=>by rw[e,hb]at aUG;cases aUG
 refine⟨h.step (eo _ _ _) ht hle (ku.bI h.cg (by rw[dQ];simp) hle (λ_ _=>rfl) (λi' ver' fr' c' pl2 hi ahW YT=>⟨hother _ (h.apart hg hi ahW YT),rfl⟩) ?_ (sB dQ λ_ _ _ e=>by cases e)),hle.mem⟩;refine⟨pl,plq.b,since,seen,c0,hp,vU,hg,λvr' avE=> ?_⟩;obtain rfl:vr=vr':=aq;have aEd:(s.env w g β).KE q vr:=⟨by show s.cJ q≠aH;rw[hq];simp,λv3 fr3 c3 h3=>by
  have h3:s.cJ q=av (.obj v3 fr3 c3):=h3;rw[hq]at h3;simp only[ax,eJ.obj.injEq]at h3;omega⟩
 refine⟨hle.KE _ _ aEd,λ_=>⟨⟨k2,v2,l2,?_⟩,plq,es,clock,bcg,rfl,(hother _ bcf).trans aUG,bbX,h1,h2,h3,h4.mono hle.mem,λx hx=> ?_⟩⟩
 ·show(s.bI i _).cJ q=_;rw[ee s i q _ aXB];exact hq
 ·obtain⟨e,se,a1,a2,a3,a4⟩:=h5 x hx;exact⟨e,se,a1,a2,a3,a4.mono hle.mem⟩
theorem Inv.aTs(h:Inv C g β s a w){i q:Id}{v ver ver':Nat}{fr:Bool}{kt vt:Ty}{rest rest':List (kt.den×vt.den)}{cur cur':Option (kt.den×vt.den)}(dQ:s.cJ i=av (.obj v fr (.tP q ver kt vt rest cur)))
  (hk:ver'=0\/(ver'=ver/\rest'=rest/\cur'=aH)):Inv C g β (s.bI i (.obj v fr (.tP q ver' kt vt rest' cur'))) a w:=by
 have ht:=Trans.refl w g;have hle:dI (s.env w g β) ((s.bI i (.obj v fr (.tP q ver' kt vt rest' cur'))).env w g β):=dI.bI dQ (az _) ht (λ_ _=>rfl) (λ_=>rfl);refine h.step (eo _ _ _) ht hle (ku.bI h.cg (by rw[dQ];simp) hle (λ_ _=>rfl) (λ_ _ _ _ _ _ _ _=>⟨rfl,rfl⟩) ?_ (sB dQ λ_ _ _ e=>by cases e));obtain⟨pl,mb,since,seen,c0,h1,h2,h3,h4⟩:=h.cg i v fr _ dQ;refine⟨pl,mb,since,seen,c0,h1,h2,h3,λvr avE=> ?_⟩;rcases hk with hk | ⟨rfl,rfl,rfl⟩
 ·omega
 ·obtain⟨h5,h6⟩:=h4 vr avE;refine⟨hle.KE _ _ h5,λhc=> ?_⟩;obtain⟨c1,_⟩:=hle.cur _ _ h5 hc;obtain⟨⟨k,v1,l,hq⟩,plq,es,clock,k1,k2,k3,k4,k5,k6,k7,k8,_⟩:=h6 c1;have aXB:q≠i:=λe=>by have hq:s.cJ q=_:=hq;rw[e,dQ]at hq;cases hq
  exact⟨⟨k,v1,l,by show(s.bI i _).cJ q=_;rw[ee s i q _ aXB];exact hq⟩,plq,es,clock,k1,k2,k3,k4,k5,k6,k7,k8.mono hle.mem,λx hx=>by cases hx⟩
theorem ay5{s:AS}{q i:Id}{e:eJ}(h:s.afY q=aZ)(hi:s.cJ i=av e):e.aKK q=aZ:=by
 unfold AS.afY at h;rw[Bool.or_eq_false_iff]at h;cases i with
 |bP k=>simpa using jY.1 h.1 _ (dC hi)
 |new a b=>
  have hi:(s.news.getD a [])[b]? =av e:=hi
  by_cases ha:a < s.news.length
  ·have h2:(s.news.getD a []).any (eJ.aKK q)=aZ:=by simpa using jY.1 h.2 (s.news.getD a []) (by simp[bh,cn ha])
   simpa using jY.1 h2 _ (dC hi)
  ·simp[bh,eB (Nat.le_of_not_lt ha)]at hi
theorem Inv.unlock(h:Inv C g β s a w){q:Id}{vr:Nat}{k v:Ty}{l:List (k.den×v.den)}(dQ:s.cJ q=av (.obj vr bm (.mp k v l)))(hr:s.afY q=aZ):Inv C g β (s.bI q (.obj vr aZ (.mp k v l))) a w:=by
 have ht:=Trans.refl w g;have hle:dI (s.env w g β) ((s.bI q (.obj vr aZ (.mp k v l))).env w g β):=dI.bI dQ (az _) ht (λ_ _=>rfl) (λ_=>rfl);refine h.step (eo _ _ _) ht hle λi ver fr c hi=> ?_
 have hi:(s.bI q (.obj vr aZ (.mp k v l))).cJ i=av (.obj ver fr c):=hi;by_cases bbg:i=q
 ·subst bbg;rw[fu s i _ (by rw[dQ];simp)]at hi;simp only[ax,eJ.obj.injEq]at hi;obtain⟨rfl,rfl,rfl⟩:=hi;obtain⟨pl,es,clock,h1,h2,h3,h4,h5⟩:=h.cg i vr bm _ dQ;exact⟨pl,es,clock,h1,h2,h3,⟨h4.1.mono hle.mem,h4.2⟩,h5⟩
 ·rw[ee s q i _ bbg]at hi;refine(h.cg i ver fr c hi).aTA hle rfl (λ_ _=>⟨rfl,rfl⟩) λq2 v2 k2 v3 l2 hc ake _=>⟨⟨k2,v3,l2,?_⟩,λ_ _=>⟨rfl,rfl⟩⟩
  obtain⟨kt,vt,rest,cu,rfl⟩:=hc;have hn:=ay5 hr hi;have jk:q2≠q:=λe=>by simp[eJ.aKK,e]at hn
  show(s.bI q _).cJ q2=_;rw[ee s q q2 _ jk];exact ake
theorem axf{es:List gl}{seen:Array Nat}(hn:(es.map (·.born)).Nodup){j:Nat}{e:gl}(hj:(es.filter λe=> !seen.contains e.born)[j]? =av e):
  es.filter (λx=> !(seen.push e.born).contains x.born)=(es.filter λe=> !seen.contains e.born).eraseIdx j:=by
 have h1:es.filter (λx=> !(seen.push e.born).contains x.born)=(es.filter λe=> !seen.contains e.born).filter λx=>x.born !=e.born:=by
  rw[List.filter_filter];refine List.filter_congr λx _=> ?_
  rw[contains_push];cases seen.contains x.born <;> cases hb:x.born==e.born <;> simp[bne,hb]
 rw[h1];have aTm:((es.filter λe=> !seen.contains e.born).map (·.born)).Nodup:=hn.sublist (List.filter_sublist.map _);generalize es.filter (λe=> !seen.contains e.born)=L at hj aTm
 induction L generalizing j with
 |nil=>simp at hj
 |cons x L ih=>
  rw[cj,dx]at aTm;cases j with
  |zero=>
   simp only[gw,ax]at hj;subst hj;have:L.filter (λy=>y.born !=x.born)=L:=kh.2 λy hy=>by
    have:y.born≠x.born:=λe=>aTm.1 (e▸dy.2 ⟨y,hy,rfl⟩)
    simpa using this
   simp[this]
  |succ j=>
   have hj:L[j]? =av e:=by simpa using hj
   have hx:(x.born !=e.born)=bm:=by
    have:x.born≠e.born:=λh=>aTm.1 (h▸dy.2 ⟨e,dC hj,rfl⟩)
    simpa using this
   rw[List.filter_cons,hx,List.eraseIdx_cons_succ];simp only[bO];rw[ih hj aTm.2]
theorem aEZ(h:Inv C g β s a w){x:cr}(dW:o.op= .next x aZ){t:aCD}(ht:s.aKJ (s.ev x)=av t){R:Type}{k:AS->Option R}{r:R}(he:aLo s o.dst t k=av r):
  il P o a w λa' w'=>∃s',ka C s' a' w'/\k s'=av r:=by
 obtain⟨hi,⟨k2,v2,l2,hq⟩,pl,plq,since,seen,c0,es,clock,m1,m2,m3,m4,m5,m6,m7,m8,m9,m10,m11,_⟩:=adB h ht;have hex:∀ {y:Value} {w':cO},(Instr.next (a.eval x) aZ o.type).run P w= .ok y w'->(execOp a.eval o).run P w= .ok (.value y) w':=λhr=>
  fE (f:=Instr.next (a.eval x) aZ o.type) (by simp only[execOp,dW]) hr
 have abF:(leftOf es seen).toList=es.toList.filter λe=> !seen.contains e.born:=by unfold leftOf;rw[Array.toList_filter]
 obtain⟨l',m11,ar0⟩:=m11;have hlen:=m11.len;rw[ar0.length_eq]at hlen;rw[<-abF,dv]at hlen;unfold aLo at he;rcases run_next_at (P:=P) w o.type pl.b plq.b since c0 seen es clock m3 m6 m8 m9.1 with⟨h0,sr⟩ | ⟨e,aWg,w1,hw,sr⟩
 ·rcases VF he with⟨hc,_⟩ | ⟨_,he⟩
  ·have:0 < t.rest.length:=by simpa using hc
   omega
  ·unfold AS.aRi at he;have i1:=h.aTs (rest':=[]) (cur':=aH) hi (.inl rfl);have aXB:t.q≠t.i:=λe=>by rw[e,hi]at hq;simp at hq
   have aWl:(s.bI t.i (.obj t.v t.fr (.tP t.q 0 t.kt t.vt [] aH))).cJ t.q=av (.obj t.vr bm (.mp k2 v2 l2)):=by rw[ee s t.i t.q _ aXB];exact hq
   generalize s.bI t.i (.obj t.v t.fr (.tP t.q 0 t.kt t.vt [] aH))=s1 at he i1 aWl;cases hr:s1.afY t.q with
   |true=>rw[hr]at he;cases he
   |false=>
    rw[hr]at he;simp only at he;have bcp:s1.unlock t.q=s1.bI t.q (.obj t.vr aZ (.mp k2 v2 l2)):=by simp only[AS.unlock,AS.obj,aWl]
    rw[bcp]at he;rw[<-m1]at sr;refine .inl ⟨_,w,hex sr,_,⟨g,β,(i1.unlock aWl hr).put o.dst (v:= .cons (.d .bool aZ) .nil) ⟨[.bool aZ],rfl,?_⟩⟩,he⟩;simp only[VC];exact⟨_,_,[.bool aZ],rfl,by simp only[V,c9],rfl,rfl⟩
 ·rcases VF he with⟨hc,he⟩ | ⟨hc,_⟩
  ·obtain⟨_,hd⟩:=aJF he;rw[abF]at aWg;obtain⟨i,aUM⟩:=List.getElem?_of_mem aWg;obtain⟨y,bbt,aYJ⟩:=m11.get aUM;obtain⟨j,hj⟩:=List.getElem?_of_mem (ar0.mem_iff.1 (dC bbt));have aXl:j < t.rest.length:=(ek.1 hj).1;have hy:sE t.kt t.vt t.rest j=y:=by simp[sE,bh,hj]
   have Ag:e∈es.toList:=(uj.1 aWg).1;have i1:=h.aYc (rest':=t.rest.eraseIdx j) (cur':=av (sE t.kt t.vt t.rest j)) (since:=since) (c0:=clock) (seen:=seen.push e.born) hi hq m2 m3 m4 hw m5 m6 m7 m8 ⟨m9.2,m9.2⟩ m10 ?_ ?_
   rotate_left
   ·rw[axf m10 aUM];exact⟨_,m11.erase i,axV ar0 bbt hj⟩
   ·intro z hz;obtain rfl:=bf hz;exact⟨e,seen,Ag,rfl,rfl,by rw[hy];exact aYJ⟩
   rw[<-m1]at sr;have hVS:=(hy▸aYJ:Im (s.env w g β) t.kt t.vt e (sE t.kt t.vt t.rest j));refine .inl ⟨_,_,hex sr,_,⟨g,β,i1.1.put o.dst (v:= .cons (.d .bool bm) (.cons (.d t.kt (sE t.kt t.vt t.rest j).1) (.cons (.d t.vt (sE t.kt t.vt t.rest j).2) .nil))) ?_⟩,hd j aXl⟩;exact Im.bcF (hVS.mono i1.2)
  ·have hc:¬0 < t.rest.length:=by simpa using hc
   have:0 < (leftOf es seen).toList.length:=List.length_pos_of_mem aWg;rw[dv]at this;omega
theorem aD8{Γ:tg}(hΓ:Sound P Γ){cg:List Nat}{ops:Array Oper}{R:Type}{k:AS->Option R}{r:R}(h:ka C s a w)(he:aQg P Γ cg ops o s k=av r):
  wJ P ops o a w λa' w'=>∃s',ka C s' a' w'/\k s'=av r:=by
 have plain:aKe P Γ cg ops o s k=av r->wJ P ops o a w λa' w'=>∃s',ka C s' a' w'/\k s'=av r:=λhe=>by obtain⟨s1,h1,h2⟩:=arS he;exact(aka hΓ h h1).mono λa' w' hs=>⟨s1,hs,h2⟩
 have stepK:∀(hg:o.guard=aH),(il P o a w λa' w'=>∃s',ka C s' a' w'/\k s'=av r)->wJ P ops o a w λa' w'=>∃s',ka C s' a' w'/\k s'=av r:=λhg hr=>by
  unfold wJ;have:Region.wanted o (yielded ops a.tmps)=bm:=by simp[Region.wanted,hg]
  rw[if_pos this];exact hr
 have step:∀(hg:o.guard=aH) (b:Bool),il P o a w (ka C (s.put o.dst (.d .bool b)))->k (s.put o.dst (.d .bool b))=av r->wJ P ops o a w λa' w'=>∃s',ka C s' a' w'/\k s'=av r:=λhg b hr hk=>by
  unfold wJ;have:Region.wanted o (yielded ops a.tmps)=bm:=by simp[Region.wanted,hg]
  rw[if_pos this];exact hr.mono λa' w' hs=>⟨_,hs,hk⟩
 unfold aQg at he;split at he
 ·rename_i T x y U hg ho;split at he
  ·rename_i n hn hT;obtain⟨g,β,hi⟩:=h;obtain⟨b,hb,hr⟩:=(Ua (o:=o) (U:=U) hi hn hT).1 ho;refine step hg b hr ?_
   rcases VF he with⟨hc,hk⟩ | ⟨_,hk⟩
   ·rw[hb (by simpa using hc)];exact hk
   ·obtain⟨k1,k2⟩:=aBs hk;cases b
    ·exact k2
    ·exact k1
  ·exact plain he
 ·rename_i T x y U hg ho;split at he
  ·rename_i n hn hT;obtain⟨g,β,hi⟩:=h;obtain⟨b,hb,hr⟩:=(Ua (o:=o) (U:=U) hi hn hT).2 ho;refine step hg b hr ?_
   rcases VF he with⟨hc,hk⟩ | ⟨_,hk⟩
   ·rw[hb (by simpa using hc)];exact hk
   ·obtain⟨k1,k2⟩:=aBs hk;cases b
    ·exact k2
    ·exact k1
  ·exact plain he
 ·rename_i T m hg ho;obtain⟨s1,h1,h2⟩:=kk.1 he;obtain⟨g,β,hi⟩:=h;exact stepK hg ((afX hi ho h1).mono λ_ _ hs=>⟨_,hs,h2⟩)
 ·rename_i x hg ho;obtain⟨s1,h1,h2⟩:=kk.1 he;obtain⟨v,h3,h4⟩:=aC.1 h1;obtain rfl:=aD.1 h4;obtain⟨g,β,hi⟩:=h;exact stepK hg ((awJ hi ho h3).mono λ_ _ hs=>⟨_,hs,h2⟩)
 ·rename_i x hg ho;split at he
  ·rename_i t ht;obtain⟨g,β,hi⟩:=h;exact stepK hg (aEZ hi ho ht he)
  ·cases he
 ·rename_i c hg ho;split at he
  ·rename_i F hc
   ·split at he
    ·rename_i en vs hr;unfold aB9 at hr;split at hr;rotate_left
     ·cases hr
     rename_i f caps hF;split at hr;rotate_left
     ·cases hr
     rename_i en' aKj;split at hr;rotate_left
     ·cases hr
     rename_i aKh;rw[aw]at aKh;simp only[ax,de]at hr;obtain⟨rfl,rfl⟩:=hr;obtain⟨g,β,hi⟩:=h;exact stepK hg (acy hi ho hc hF ((hΓ _ _ _ aKj).2 aKh.2) he)
    ·exact plain he
  ·exact plain he
 ·rename_i j want c hg ho;split at he;rotate_left
  ·exact plain he
  rename_i F hc;split at he;rotate_left
  ·exact plain he
  rename_i en vs q hr hq;unfold aB9 at hr;split at hr;rotate_left
  ·cases hr
  rename_i f caps hF;split at hr;rotate_left
  ·cases hr
  rename_i en' aKj;split at hr;rotate_left
  ·cases hr
  rename_i aKh;rw[aw]at aKh;simp only[ax,de]at hr;obtain⟨rfl,rfl⟩:=hr;obtain⟨g,β,hi⟩:=h;have call:s.acx en' o.dst (c.args.toList.map s.ev++caps.list) k=av r->il P o a w λa' w'=>∃s',ka C s' a' w'/\k s'=av r:=λhe=>acy hi ho hc hF ((hΓ _ _ _ aKj).2 aKh.2) he
  unfold wJ;split at he
  ·rename_i b hb;have hy:=ahC hi hq hb;have hw:Region.wanted o (yielded ops a.tmps)=(b==want):=by simp[Region.wanted,hg,hy]
   have e:=atv hb (aps hb);rw[hw];cases want <;> cases b <;> simp only[aJ]at he <;> rw[e]at he
   ·rw[if_pos (by rfl)];exact call he
   ·rw[if_neg eX];exact⟨_,⟨g,β,hi.put o.dst (v:= .nil) rfl⟩,he⟩
   ·rw[if_neg eX];exact⟨_,⟨g,β,hi.put o.dst (v:= .nil) rfl⟩,he⟩
   ·rw[if_pos (by rfl)];exact call he
  ·rename_i hb;have hy:=aaK hi hq hb;have hw:Region.wanted o (yielded ops a.tmps)=aZ:=by simp[Region.wanted,hg,hy]
   rw[hw,if_neg (by simp)];exact⟨_,⟨g,β,hi.put o.dst (v:= .nil) rfl⟩,he⟩
  ·cases he
 ·exact plain he
theorem YS{rd:Option Nat}{n:Nat}{Γ:tg}(hΓ:Sound P Γ){cg:List Nat}{ops:Array Oper}{R:Type}{Q:Exit->Act->cO->Prop}:∀(l:List Oper) {s:AS} {a:Act} {w:cO} {k:AS->Option R} {r:R},ka C s a w->aQh P Γ cg ops l s k=av r->
  (∀s' a' w',ka C s' a' w'->k s'=av r->Q .normal a' w')->wpListIn (Fr rd) n P ops Q l a w
 |[],s,a,w,k,r,h,he,hk=>hk s a w h he
 |o::l,s,a,w,k,r,h,he,hk=>by have he:aQg P Γ cg ops o s (λs'=>s'.seen λs'=>aQh P Γ cg ops l s' k)=av r:=he;simp only[AS.VE]at he;exact((aD8 hΓ h he).mono λa' w' ⟨s',hs,h2⟩=>YS hΓ l hs h2 hk).wpListIn
end
end Go.Ab
namespace Go.Ab
theorem AS.aUo{s t:AS}(h1:s.dg=t.dg)(h2:s.news.length=t.news.length)(h3:∀id,s.cJ id=t.cJ id):s=t:=by
 obtain⟨a,b,c⟩:=s;obtain⟨a',b',c'⟩:=t;simp only at h1 h2;subst h1;have hb:b=b':=mE λk=>h3 (.bP k)
 subst hb;have hc:c=c':=by apply rW h2;intro i h h';apply mE;intro j;have:=h3 (.new i j);simpa[AS.cJ,bh,h,h']using this
 rw[hc]
def eJ.avJ:eJ->eJ->Prop
 | .obj v _ c,.obj v' _ c'=>v=v'/\c=c'
 | .dead,.dead=>True
 |_,_=>False
def ED:Option eJ->Option eJ->Prop
 |some a,av b=>a.avJ b
 |none,aH=>True
 |_,_=>False
def eJ.aA3:eJ->eJ
 | .obj v _ c=> .obj v bm c
 | .dead=> .dead
theorem eJ.aN7(a:eJ):a.avJ a:=by cases a <;> simp[eJ.avJ]
theorem aG6(a:Option eJ):ED a a:=by cases a <;> simp[ED,eJ.aN7]
theorem aG5(a:Option eJ):ED (a.map eJ.aA3) a:=by
 cases a with
 |none=>trivial
 |some x=>cases x <;> simp[ED,eJ.avJ,eJ.aA3]
theorem eJ.aQe(a:eJ):a.aA3.aA3=a.aA3:=by cases a <;> rfl
structure oG(f:KJ)(s t:AS):Prop where
 dg:∀i∈f.dg,t.slot i=s.slot i
 ws:∀id∈f.ws,t.cJ id=s.cJ id
 rs:∀id∈f.rs,ED (t.cJ id) (s.cJ id)
 eQ:∀q,f.dst=av q->t.eQ q=s.eQ q
structure aWD where
 v:aN
 up:Id->Option eJ
 fz:List Id
structure App(d:Option Tmp)(E:aWD)(s s':AS):Prop where
 dg:s'.dg=(s.put d E.v).dg
 len:s'.news.length=s.news.length
 cJ:∀id,s'.cJ id=match E.up id with | some e=>av e | none=>if id∈E.fz then(s.cJ id).map eJ.aA3 else s.cJ id
structure ama(f:KJ)(s:AS)(E:aWD):Prop where
 up:∀id e,E.up id=av e->(id∈f.ws/\s.cJ id≠aH)\/∃q j,f.dst=av q/\id= .new q j
 fz:∀id∈E.fz,id∈f.rs
theorem Rb(s:AS)(id:Id)(e:eJ):(s.bI id e).news.length=s.news.length:=by cases id <;> simp[AS.bI]
theorem ahS(s:AS)(id i:Id):(s.freeze id).cJ i=if i=id then(s.cJ i).map eJ.aA3 else s.cJ i:=by
 unfold AS.freeze;cases hs:s.cJ id with
 |none=>
  by_cases hi:i=id
  ·subst hi;simp[hs]
  ·simp[hi]
 |some e=>
  cases e with
  |dead=>
   by_cases hi:i=id
   ·subst hi;simp[hs,eJ.aA3]
   ·simp[hi]
  |obj v fr c=>
   simp only;by_cases hi:i=id
   ·subst hi;rw[fu s i _ (by rw[hs];simp)];simp[hs,eJ.aA3]
   ·rw[ee s id i _ hi];simp[hi]
theorem gh(i:Id):∀(ids:List Id) (s:AS),(s.bF ids).cJ i=if i∈ids then(s.cJ i).map eJ.aA3 else s.cJ i
 |[],s=>by simp[AS.bF]
 |id::ids,s=>by
  rw[AS.bF,gh i ids,ahS];by_cases h1:i=id
  ·subst h1;by_cases h2:i∈ids
   ·simp[h2,Option.map_map,Function.comp_def,eJ.aQe]
   ·simp[h2]
  ·simp[h1]
theorem axg(s:AS)(id:Id):(s.freeze id).news.length=s.news.length:=by
 unfold AS.freeze;split
 ·exact Rb _ _ _
 ·rfl
theorem tQ:∀(ids:List Id) (s:AS),(s.bF ids).news.length=s.news.length
 |[],_=>rfl
 |id::ids,s=>by rw[AS.bF,tQ ids,axg]
theorem Ez{s:AS}{q:Nat}:s.eQ q=bm↔q < s.news.length/\∀j,s.cJ (.new q j)=aH:=by
 refine⟨λh=>⟨(lU h).2,(lU h).1⟩,λ⟨h1,h2⟩=> ?_⟩;unfold AS.eQ;rw[cn h1];have h0:=h2 0;simp only[AS.cJ,bh,cn h1,ed]at h0;cases hh:s.news[q]with
 |nil=>rfl
 |cons x xs=>rw[hh]at h0;simp at h0
theorem App.WH(d:Option Tmp)(v:aN)(ids:List Id)(s:AS):App d ⟨v,λ_=>aH,ids⟩ s ((s.bF ids).put d v):=by
 refine⟨?_,?_,λid=> ?_⟩
 ·cases d <;> simp[AS.put,qa]
 ·cases d <;> simp[AS.put,tQ]
 ·rw[N7,gh]
theorem App.Oh(d:Option Tmp)(v:aN)(s:AS):App d ⟨v,λ_=>aH,[]⟩ s (s.put d v):=App.WH d v [] s
def Wt(q:Nat)(es:List eJ):Id->Option eJ
 | .new i j=>if i=q then es[j]? else aH
 | .bP _=>aH
theorem aJM(s:AS){q:Nat}(hq:q < s.news.length)(es:List eJ)(id:Id):(s.born q es).cJ id=match id with | .new i j=>if i=q then es[j]? else s.cJ (.new i j) | .bP k=>s.cJ (.bP k):=by
 cases id with
 |bP k=>rfl
 |new i j=>
  simp only;by_cases h:i=q
  ·subst h;rw[if_pos rfl];exact BZ hq _ j
  ·rw[if_neg h];exact jO _ λj' e=>by simp only[Id.new.injEq]at e;exact h e.1
theorem App.aAF{s:AS}{q:Nat}(hv:s.eQ q=bm)(v:aN)(ids:List Id)(es:List eJ):App (av q) ⟨v,Wt q es,ids⟩ s (((s.bF ids).born q es).put (av q) v):=by
 obtain⟨h1,h2⟩:=Ez.1 hv;refine⟨?_,?_,λid=> ?_⟩
 ·simp[AS.put,qa]
 ·simp[AS.put,AS.born,tQ]
 ·rw[N7,aJM _ (by rw[tQ];exact h1)];cases id with
  |bP k=>simp only[Wt];exact gh _ _ _
  |new i j=>
   simp only[Wt];by_cases h:i=q
   ·subst h;rw[if_pos rfl];cases he:es[j]? with
    |none=>simp[h2]
    |some e=>simp
   ·rw[if_neg h];simp only[if_neg h];exact gh _ _ _
theorem App.aN2{s:AS}{id:Id}{e0:eJ}(hs:s.cJ id=av e0)(d:Option Tmp)(v:aN)(e:eJ):App d ⟨v,λi=>if i=id then av e else aH,[]⟩ s ((s.bI id e).put d v):=by
 refine⟨?_,?_,λi=> ?_⟩
 ·cases d <;> simp[AS.put]
 ·cases d <;> simp[AS.put,Rb]
 ·rw[N7];by_cases hi:i=id
  ·subst hi;rw[fu s i _ (by rw[hs];simp)];simp
  ·rw[ee s id i _ hi];simp[hi]
section
variable {P:bj} {Γ:tg} {cg:List Nat} {ops:Array Oper} {o:Oper} {s t:AS}
def Wh(P:bj)(Γ:tg)(cg:List Nat)(ops:Array Oper)(o:Oper)(s s':AS):Prop:=∃E,App o.dst E s s'/\ama (iu Γ ops s o) s E/\∀t,oG (iu Γ ops s o) s t->∃t',(vJ P Γ cg o t).eval=av t'/\App o.dst E t t'
theorem Zc{xs:Array cr}{i:Nat}(h:Operand.tmp i∈xs.toList):i∈abP xs:=by unfold abP;exact List.mem_filterMap.2 ⟨_,h,rfl⟩
theorem oG.ev(h:oG (iu Γ ops s o) s t){x:cr}(hx:x∈o.op.operands.toList):t.ev x=s.ev x:=by
 cases x with
 |tmp i=>exact h.dg i (bR.2 (.inl (Zc hx)))
 |_=>rfl
theorem asU(v:Value):(ofConst v).ids=[]:=by unfold ofConst;split <;> rfl
theorem avI{o:Oper}{x:Op}(h:o.op=x)(hx:aks x=aZ):aks o.op=aZ:=by rw[h];exact hx
theorem WT(hn:aks o.op=aZ){x:cr}(hx:x∈o.op.operands.toList){id:Id}(dL:id∈(s.ev x).ids):id∈(iu Γ ops s o).rs:=by
 refine bR.2 (.inl ?_);unfold asW;rw[hn];cases x with
 |tmp i=>exact jm.2 ⟨i,Zc hx,dL⟩
 |const v=>simp[AS.ev,asU]at dL
 |global _=>simp[AS.ev,aN.ids]at dL
 |func f=>simp[AS.ev,aN.ids]at dL
theorem oG.avJ(h:oG (iu Γ ops s o) s t)(hn:aks o.op=aZ){x:cr}(hx:x∈o.op.operands.toList){id:Id}(dL:id∈(s.ev x).ids):ED (t.cJ id) (s.cJ id):=h.rs id (WT hn hx dL)
theorem apq{id:Id}(h:ED (t.cJ id) (s.cJ id)):(t.obj id=aH/\s.obj id=aH)\/∃v f f' c,t.obj id=av (v,f,c)/\s.obj id=av (v,f',c):=by
 unfold AS.obj
 revert h
 cases t.cJ id with
 |none=>cases s.cJ id with
  |none=>intro _;simp
  |some b=>intro h;exact h.elim
 |some a=>cases s.cJ id with
  |none=>intro h;exact h.elim
  |some b=>cases a <;> cases b <;> intro h <;> first
    |exact h.elim
    | (left;exact⟨rfl,rfl⟩)
    | (obtain⟨rfl,rfl⟩:=h;right;exact⟨_,_,_,_,rfl,rfl⟩)
theorem XT{id:Id}(h:ED (t.cJ id) (s.cJ id))(ver:Nat)(p:List Se):t.row id ver p=s.row id ver p:=by unfold AS.row;rcases apq h with⟨h1,h2⟩ | ⟨v,f,f',c,h1,h2⟩ <;> rw[h1,h2]
theorem yQ:∀(v:aN) (ty:Ty),(∀id∈v.ids,ED (t.cJ id) (s.cJ id))->t.jU ty v=s.jU ty v
 | .bU id ver p c i len,ty,h=>by
  cases ty <;> first
   |rfl
   | (simp only[AS.jU];rw[XT (h id (by simp[aN.ids]))])
 | .pr a b,ty,h=>by
  cases ty <;> first
   |rfl
   | (simp only[AS.jU];rw[yQ a _ λid dL=>h id (by simp[aN.ids,dL]),yQ b _ λid dL=>h id (by simp[aN.ids,dL])])
 | .undef,ty,_ | .gone,ty,_ | .dJ,ty,_ | .jW,ty,_ | .AV,ty,_ | .HB,ty,_ | .d _ _,ty,_ | .ptr ..,ty,_ | .dz ..,ty,_ | .fn ..,ty,_ | .cons ..,ty,_ | .nil,ty,_ | .vec ..,ty,_ | .bx ..,ty,_ | .c7 ..,ty,_ | .mp ..,ty,_ | .tP ..,ty,_=>by cases ty <;> simp only[AS.jU]
theorem Eo:∀(v:aN),∀id∈v.shared,id∈v.ids
 | .bU ..,id,h=>by simpa[aN.shared,aN.ids]using h
 | .pr a b,id,h=>by
  simp only[aN.shared,bR,aN.ids]at h ⊢;rcases h with h | h
  ·exact .inl (Eo a id h)
  ·exact .inr (Eo b id h)
 | .undef,_,h | .gone,_,h | .dJ,_,h | .jW,_,h | .AV,_,h | .HB,_,h | .d _ _,_,h | .ptr ..,_,h | .dz ..,_,h | .fn ..,_,h | .cons ..,_,h | .nil,_,h | .vec ..,_,h | .bx ..,_,h | .c7 ..,_,h | .mp ..,_,h | .tP ..,_,h=>by simp[aN.shared]at h
theorem asq{T:TypeId}{x:aN}(h:∀id∈x.ids,ED (t.cJ id) (s.cJ id)):TU P t T x=TU P s T x:=by
 unfold TU;split
 ·rename_i id ver p n;rcases apq (h id (by simp[aN.ids])) with⟨h1,h2⟩ | ⟨v,f,f',c,h1,h2⟩ <;> rw[h1,h2]
 ·rfl
 ·rfl
 ·rfl
 ·rfl
theorem amm{n:Nat}{lo hi:Option cr}(hl:∀x,lo=av x->t.ev x=s.ev x)(hh:∀x,hi=av x->t.ev x=s.ev x):bounds t n lo hi=bounds s n lo hi:=by
 unfold bounds
 cases lo <;> cases hi <;> simp only[] <;> first
  |rfl
  | (rw[hl _ rfl,hh _ rfl])
  |rw[hl _ rfl]
  |rw[hh _ rfl]
theorem VK{T:TypeId}{x:aN}{lo hi:Option cr}(h:∀id∈x.ids,ED (t.cJ id) (s.cJ id))(hl:∀x,lo=av x->t.ev x=s.ev x)(hh:∀x,hi=av x->t.ev x=s.ev x):
  Nr P t T x lo hi=Nr P s T x lo hi:=by
 have hb:∀n,bounds t n lo hi=bounds s n lo hi:=λn=>amm hl hh
 unfold Nr
 split <;> first
  |rfl
  | (rw[XT (h _ (by simp[aN.ids]))];simp only[hb];done)
  | (simp only[hb];done)
theorem ai6{T:TypeId}{x:aN}{lo:Option cr}{y m:cr}(h:∀id∈x.ids,ED (t.cJ id) (s.cJ id))(hl:∀x,lo=av x->t.ev x=s.ev x)(hh:t.ev y=s.ev y)(hm:t.ev m=s.ev m):
  VJ P t T x lo y m=VJ P s T x lo y m:=by
 unfold VJ;rw[hh,hm,VK h hl λz hz=>by obtain rfl:=bf hz;exact hh]
theorem WU{T:TypeId}{x:aN}{i:Int}(h:∀id∈x.ids,ED (t.cJ id) (s.cJ id)):vl P t T x i=vl P s T x i:=by
 unfold vl
 split <;> first
  |rfl
  |rw[XT (h _ (by simp[aN.ids]))]
theorem aq5{obj:Bool}{src dst:TypeId}{x:aN}(h:∀id∈x.ids,ED (t.cJ id) (s.cJ id)):aq4 P t obj src dst x=aq4 P s obj src dst x:=by rfl
theorem En{ty:Ty}:∀(ps:List (Nat×cr)) (l:List ty.den),(∀x∈ps,t.ev x.2=s.ev x.2/\∀id∈(s.ev x.2).ids,ED (t.cJ id) (s.cJ id))->km ty t ps l=km ty s ps l
 |[],_,_=>rfl
 | (i,x)::ps,l,h=>by obtain⟨h1,h2⟩:=h (i,x) (aU ..);simp only[km];simp only at h1 h2;rw[h1,yQ _ _ h2];congr 2;funext y;rw[En ps _ λz hz=>h z (aP _ hz)]
theorem Be{ty:Ty}:∀(ps:List (Nat×cr)) (l:List ty.den) (r:List ty.den×List Id),(km ty s ps l).eval=av r->∀id∈r.2,∃x∈ps,id∈(s.ev x.2).ids
 |[],l,r,h,id,dL=>by obtain rfl:=aD.1 h;cases dL
 | (i,x)::ps,l,r,h,id,dL=>by
  simp only[km]at h;obtain⟨h1,h2⟩:=aR.1 h;obtain⟨y,h3,h4⟩:=aC.1 h2;obtain⟨r',h5,h6⟩:=aC.1 h4;obtain rfl:=aD.1 h6;rcases bR.1 dL with dL | dL
  ·exact⟨(i,x),aU ..,Eo _ _ dL⟩
  ·obtain⟨z,hz,TK⟩:=Be ps _ r' h5 id dL;exact⟨z,aP _ hz,TK⟩
theorem Ki{fs:Array Field}:∀(ps:List (Nat×cr)) (v:aN),(∀x∈ps,t.ev x.2=s.ev x.2)->s5 P fs t ps v=s5 P fs s ps v
 |[],_,_=>rfl
 | (i,x)::ps,v,h=>by
  have h1:=h (i,x) (aU ..);simp only at h1;simp only[s5,h1];have ih:∀v,s5 P fs t ps v=s5 P fs s ps v:=λv=>Ki ps v λz hz=>h z (aP _ hz)
  simp only[ih]
theorem SQ:∀(l:List cr),(∀x∈l,t.ev x=s.ev x)->u6 t l=u6 s l
 |[],_=>rfl
 |x::l,h=>by simp only[u6];rw[h x (aU ..),SQ l λy hy=>h y (aP _ hy)]
theorem Zg{ty:Ty}{X:TypeId}{x:aN}(h:∀id∈x.ids,ED (t.cJ id) (s.cJ id)):LL P t ty X x=LL P s ty X x:=by
 unfold LL;split
 ·rfl
 ·simp only[AS.aRr,yQ _ _ h]
theorem qw{v:aN}(h:∀t,oG (iu Γ ops s o) s t->(vJ P Γ cg o t).eval=av (t.put o.dst v)):Wh P Γ cg ops o s (s.put o.dst v):=
 ⟨⟨v,λ_=>aH,[]⟩,App.Oh _ _ _,⟨λ_ _ h=>by simp at h,λ_ h=>by simp at h⟩,λt ht=>⟨_,h t ht,App.Oh _ _ _⟩⟩
theorem qv{F:AS->Out aN}(ho:∀t,vJ P Γ cg o t=(F t).bind λv=> .ok (t.put o.dst v))(hF:∀t,oG (iu Γ ops s o) s t->F t=F s){s':AS}(he:(vJ P Γ cg o s).eval=av s'):Wh P Γ cg ops o s s':=by
 rw[ho]at he;obtain⟨v,h1,h2⟩:=aC.1 he;obtain rfl:=aD.1 h2;refine qw λt ht=> ?_
 rw[ho,hF t ht,aC];exact⟨v,h1,rfl⟩
theorem anG{v:aN}{ids:List Id}(hi:∀id∈ids,id∈(iu Γ ops s o).rs)(h:∀t,oG (iu Γ ops s o) s t->(vJ P Γ cg o t).eval=av ((t.bF ids).put o.dst v)):Wh P Γ cg ops o s ((s.bF ids).put o.dst v):=
 ⟨⟨v,λ_=>aH,ids⟩,App.WH _ _ _ _,⟨λ_ _ h=>by simp at h,hi⟩,λt ht=>⟨_,h t ht,App.WH _ _ _ _⟩⟩
theorem Ai{v:aN}{ids:List Id}{q:Nat}{es:List eJ}(hd:o.dst=av q)(hv:s.eQ q=bm)(hi:∀id∈ids,id∈(iu Γ ops s o).rs)
  (h:∀t,oG (iu Γ ops s o) s t->t.eQ q=bm->(vJ P Γ cg o t).eval=av (((t.bF ids).born q es).put o.dst v)):Wh P Γ cg ops o s (((s.bF ids).born q es).put o.dst v):=by
 refine⟨⟨v,Wt q es,ids⟩,by rw[hd];exact App.aAF hv _ _ _,⟨λid e h=> .inr ?_,hi⟩,λt ht=> ?_⟩
 ·cases id with
  |bP _=>simp[Wt]at h
  |new i j=>
   simp only[Wt]at h;split at h
   ·rename_i hq;exact⟨q,j,hd,by rw[hq]⟩
   ·cases h
 ·have hv':t.eQ q=bm:=by rw[ht.eQ q hd];exact hv
  exact⟨_,h t ht hv',by rw[hd];exact App.aAF hv' _ _ _⟩
theorem TV{v:aN}{id:Id}{e0 e:eJ}(hs:s.cJ id=av e0)(hw:id∈(iu Γ ops s o).ws)(h:∀t,oG (iu Γ ops s o) s t->t.cJ id=s.cJ id->(vJ P Γ cg o t).eval=av ((t.bI id e).put o.dst v)):
  Wh P Γ cg ops o s ((s.bI id e).put o.dst v):=by
 refine⟨⟨v,λi=>if i=id then av e else aH,[]⟩,App.aN2 hs _ _ _,⟨λi e' h=> .inl ?_,λ_ h=>by simp at h⟩,λt ht=> ?_⟩
 ·simp only at h;split at h
  ·rename_i hi;subst hi;exact⟨hw,by rw[hs];simp⟩
  ·cases h
 ·have:=ht.ws id hw;exact⟨_,h t ht this,App.aN2 (this.trans hs) _ _ _⟩
end
end Go.Ab
namespace Go.Ab
section
variable {P:bj} {Γ:tg} {cg:List Nat} {ops:Array Oper} {o:Oper} {s t:AS}
theorem apy{T:TypeId}{x v:aN}{s':AS}(h:(Nt P s T x v).eval=av s'):
  ∃id e0 e,x.ids=[id]/\s.cJ id=av e0/\s'=s.bI id e/\∀t:AS,t.cJ id=s.cJ id->(Nt P t T x v).eval=av (t.bI id e):=by
 unfold Nt at h;split at h
 ·rename_i id ver p n;cases qF:s.obj id with
  |none=>rw[qF]at h;simp only[aG]at h
  |some r=>
   obtain⟨ve,fr,c⟩:=r;rw[qF]at h;obtain⟨h1,h2⟩:=aR.1 h;obtain⟨r,h3,h4⟩:=aC.1 h2;obtain⟨h5,h6⟩:=aR.1 h4;obtain⟨h7,h8⟩:=cW.1 h6;obtain⟨c',h9,aWZ⟩:=aC.1 h8;obtain rfl:=aD.1 aWZ;refine⟨id,_,_,rfl,fT qF,rfl,λt ht=> ?_⟩;have hob':t.obj id=av (ve,fr,c):=by simp only[AS.obj,ht];exact qF
   unfold Nt;simp only[hob'];exact aR.2 ⟨h1,aC.2 ⟨r,h3,aR.2 ⟨h5,cW.2 ⟨h7,aC.2 ⟨c',h9,aD.2 rfl⟩⟩⟩⟩⟩
 ·simp only[aG]at h
theorem awu{c:Call}{x y:cr}{T X:TypeId}(dW:o.op= .call c)(hc:c.callee= .builtin .copy)(ha:c.args.toList=[x,y])(ht:c.argTypes.toList=[T,X]){s':AS}
  (he:(acE P s o.dst T X (s.ev x) (s.ev y)).eval=av s'):Wh P Γ cg ops o s s':=by
 have ap5:∀t:AS,vJ P Γ cg o t=acE P t o.dst T X (t.ev x) (t.ev y):=λt=>by unfold vJ;rw[dW];simp only[hc,ha,ht]
 have w5:∀z,z=x\/z=y->z∈o.op.operands.toList:=λz hz=>by rw[dW];simp only[cT,Call.operands,hc,aY,cY,ha];simpa using hz
 have hx:∀t,oG (iu Γ ops s o) s t->t.ev x=s.ev x:=λt h=>h.ev (w5 x (.inl rfl))
 have hy:∀t,oG (iu Γ ops s o) s t->t.ev y=s.ev y:=λt h=>h.ev (w5 y (.inr rfl))
 have hm:∀t,oG (iu Γ ops s o) s t->∀ty,LL P t ty X (s.ev y)=LL P s ty X (s.ev y):=λt h ty=>Zg λid dL=>h.avJ (avI dW rfl) (w5 y (.inr rfl)) dL
 unfold acE at he;split at he
 ·rename_i e t b id ver len OO avF;obtain⟨m,h1,he⟩:=aC.1 he;split at he
  ·rename_i ve n t' l qF;obtain⟨h2,Q4⟩:=aR.1 he;obtain⟨l',h3,ahF⟩:=aC.1 Q4;obtain⟨h4,aWf⟩:=cW.1 ahF;obtain rfl:=aD.1 aWf;have hw:id∈(iu Γ ops s o).ws:=by show id∈writes Γ s o;unfold writes;rw[dW];simp only[hc,ha,avF];simp[aN.ids]
   refine TV (fT qF) hw λt ht aEj=> ?_
   rw[ap5 t,hx t ht,hy t ht];have hob':t.obj id=av (ve,aZ,.d (.arr n t') l):=by simp only[AS.obj,aEj];exact qF
   unfold acE;simp only[OO,avF];refine aC.2 ⟨m,by rw[hm t ht];exact h1,?_⟩;simp only[hob'];exact aR.2 ⟨h2,aC.2 ⟨l',h3,cW.2 ⟨h4,aD.2 rfl⟩⟩⟩
  ·exact(aG.1 he).elim
 ·exact(aG.1 he).elim
theorem amd{c:Call}{x y:cr}{T X:TypeId}(dW:o.op= .call c)(hc:c.callee= .builtin .append)(ha:c.args.toList=[x,y])(ht:c.argTypes.toList=[T,X])(jk:∀k n,s.ev x= .dJ->s.ev y= .d (.int k) n->False){s':AS}
  (he:(Bo P s (aEs cg o.dst) (axa cg o.dst) o.dst T X (s.ev x) (s.ev y)).eval=av s'):Wh P Γ cg ops o s s':=by
 have ap5:∀t:AS,t.ev x=s.ev x->t.ev y=s.ev y->vJ P Γ cg o t=Bo P t (aEs cg o.dst) (axa cg o.dst) o.dst T X (t.ev x) (t.ev y):=λt e1 e2=>by
  unfold vJ;rw[dW];simp only[hc,ha,ht];split
  ·rename_i k n hx hy;rw[e1]at hx;rw[e2]at hy;exact(jk k n hx hy).elim
  ·rfl
 have w5:∀z,z=x\/z=y->z∈o.op.operands.toList:=λz hz=>by rw[dW];simp only[cT,Call.operands,hc,aY,cY,ha];simpa using hz
 have hx:∀t,oG (iu Γ ops s o) s t->t.ev x=s.ev x:=λt h=>h.ev (w5 x (.inl rfl))
 have hy:∀t,oG (iu Γ ops s o) s t->t.ev y=s.ev y:=λt h=>h.ev (w5 y (.inr rfl))
 have hm:∀t,oG (iu Γ ops s o) s t->∀ty,LL P t ty X (s.ev y)=LL P s ty X (s.ev y):=λt h ty=>Zg λid dL=>h.avJ (avI dW rfl) (w5 y (.inr rfl)) dL
 unfold Bo at he;split at he
 ·rename_i e ty b q OO hd;obtain⟨m,h1,h2⟩:=aC.1 he;split at h2
  ·rename_i aXw;cases aWe:axa cg o.dst with
   |true=>
    rw[aWe]at h2;simp only at h2;obtain⟨h5,h6⟩:=cW.1 h2;obtain rfl:=aD.1 h6;refine qw λt ht=> ?_
    rw[ap5 t (hx t ht) (hy t ht),hx t ht,hy t ht];unfold Bo;simp only[hd]at aWe OO ⊢;simp only[OO,aXw,aWe];refine aC.2 ⟨m,by rw[hm t ht];exact h1,?_⟩;exact cW.2 ⟨h5,aD.2 rfl⟩
   |false=>
   rw[aWe]at h2;simp only at h2;obtain⟨h3,h4⟩:=aR.1 h2;obtain⟨h5,h6⟩:=cW.1 h4;obtain rfl:=aD.1 h6;refine Ai (ids:=[]) hd h3 (λ_ h=>by cases h) λt ht hv=> ?_
   rw[ap5 t (hx t ht) (hy t ht),hx t ht,hy t ht];unfold Bo;simp only[hd]at aWe OO ⊢;simp only[OO,aXw,aWe];refine aC.2 ⟨m,by rw[hm t ht];exact h1,?_⟩;exact aR.2 ⟨hv,cW.2 ⟨h5,aD.2 rfl⟩⟩
  ·rename_i id ver len aXw;split at h2
   ·rename_i v fr e' t' l qF;obtain⟨h3,h4⟩:=aR.1 h2;obtain⟨l',h5,h6⟩:=aC.1 h4;obtain⟨h7,h8⟩:=cW.1 h6;obtain⟨h9,aWZ⟩:=cW.1 h8;obtain⟨bbM,wD⟩:=cW.1 aWZ;obtain rfl:=aD.1 wD;have hw:id∈(iu Γ ops s o).ws:=by show id∈writes Γ s o;unfold writes;rw[dW];simp only[hc,ha,aXw];simp[aN.ids]
    refine TV (fT qF) hw λt ht aEj=> ?_
    rw[ap5 t (hx t ht) (hy t ht),hx t ht,hy t ht];have hob':t.obj id=av (v,fr,.vec e' t' l):=by simp only[AS.obj,aEj];exact qF
    unfold Bo;simp only[hd]at OO ⊢;simp only[OO,aXw];refine aC.2 ⟨m,by rw[hm t ht];exact h1,?_⟩;simp only[hob'];exact aR.2 ⟨h3,aC.2 ⟨l',h5,cW.2 ⟨h7,cW.2 ⟨h9,cW.2 ⟨bbM,aD.2 rfl⟩⟩⟩⟩⟩
   ·simp only[aG]at h2
  ·simp only[aG]at h2
 ·simp only[aG]at he
theorem XI:∀(n:Nat) (todo acc:List Id),∀id∈acc,id∈s.reach n todo acc
 | 0,_,_,id,h=>h
 |_+1,[],_,id,h=>h
 |n+1,x::todo,acc,id,h=>by
  rw[AS.reach];split
  ·exact XI n todo acc id h
  ·exact XI n _ _ id (bR.2 (.inl h))
theorem Aw:∀(n:Nat) (todo acc:List Id),(∀id∈s.reach n todo acc,((t.cJ id).getD .dead).ids=((s.cJ id).getD .dead).ids)->t.reach n todo acc=s.reach n todo acc
 | 0,_,_,_=>rfl
 |_+1,[],_,_=>rfl
 |n+1,x::todo,acc,h=>by
  rw[AS.reach]at h;rw[AS.reach,AS.reach];split
  ·rename_i hc;rw[if_pos hc]at h;exact Aw n todo acc h
  ·rename_i hc;rw[if_neg hc]at h;have hx:=h x (XI n _ _ x (bR.2 (.inr (bB.2 rfl))));rw[hx];exact Aw n _ _ h
theorem aQI(e:Option eJ):((e.map eJ.aA3).getD .dead).ids=(e.getD .dead).ids:=by
 cases e with
 |none=>rfl
 |some x=>cases x <;> rfl
theorem abl(ids:List Id)(n:Nat)(todo acc:List Id):(s.bF ids).reach n todo acc=s.reach n todo acc:=by
 refine Aw n todo acc λid _=> ?_
 rw[gh];split
 ·exact aQI _
 ·rfl
theorem QA:∀(ps:List (Option Ty)) (vs:List aN),(∀v∈vs,∀id∈v.ids,ED (t.cJ id) (s.cJ id))->t.conv ps vs=s.conv ps vs
 |[],[],_=>rfl
 |[],_::_,_=>rfl
 |some _::_,[],_=>rfl
 |none::_,[],_=>rfl
 |some ty::ps,v::vs,h=>by simp only[AS.conv];rw[yQ v ty (h v (aU ..)),QA ps vs λx hx=>h x (aP _ hx)]
 |none::ps,v::vs,h=>by simp only[AS.conv];rw[QA ps vs λx hx=>h x (aP _ hx)]
theorem QB:∀(ps:List (Option Ty)) (vs:List aN) (r:List aN×List Id),(s.conv ps vs).eval=av r->r.1.flatMap aN.ids=y9 ps vs/\∀id∈r.2,∃v∈vs,id∈v.ids
 |[],[],r,h=>by simp only[AS.conv,aD]at h;subst h;exact⟨rfl,λ_ h=>by cases h⟩
 |some ty::ps,v::vs,r,h=>by
  simp only[AS.conv]at h;obtain⟨x,h1,h2⟩:=aC.1 h;obtain⟨r',h3,h4⟩:=aC.1 h2;obtain rfl:=aD.1 h4;obtain⟨i1,i2⟩:=QB ps vs r' h3;refine⟨by simp[y9,i1,aN.ids],λid dL=> ?_⟩;rcases bR.1 dL with dL | dL
  ·exact⟨v,aU ..,Eo v id dL⟩
  ·obtain⟨u,hu,ap7⟩:=i2 id dL;exact⟨u,aP _ hu,ap7⟩
 |none::ps,v::vs,r,h=>by simp only[AS.conv]at h;obtain⟨r',h3,h4⟩:=aC.1 h;obtain rfl:=aD.1 h4;obtain⟨i1,i2⟩:=QB ps vs r' h3;refine⟨by simp[y9,i1],λid dL=> ?_⟩;obtain⟨u,hu,ap7⟩:=i2 id dL;exact⟨u,aP _ hu,ap7⟩
 |[],_::_,_,h=>by simp only[AS.conv,aG]at h
 |some _::_,[],_,h=>by simp only[AS.conv,aG]at h
 |none::_,[],_,h=>by simp only[AS.conv,aG]at h
theorem asp:∀(c:aN),∀v∈c.list,∀id∈v.ids,id∈c.ids
 | .cons a b,v,hv,id,dL=>by
  simp only[aN.list,cq]at hv;simp only[aN.ids,bR];rcases hv with rfl | hv
  ·exact .inl dL
  ·exact .inr (asp b v hv id dL)
 | .undef,_,h,_,_ | .gone,_,h,_,_ | .dJ,_,h,_,_ | .jW,_,h,_,_ | .AV,_,h,_,_ | .HB,_,h,_,_ | .d _ _,_,h,_,_ | .ptr ..,_,h,_,_ | .dz ..,_,h,_,_
 | .fn ..,_,h,_,_ | .pr ..,_,h,_,_ | .nil,_,h,_,_ | .vec ..,_,h,_,_ | .bx ..,_,h,_,_ | .c7 ..,_,h,_,_ | .mp ..,_,h,_,_ | .tP ..,_,h,_,_ | .bU ..,_,h,_,_=>by simp[aN.list]at h
theorem aad{ids:List Id}(h:∀id∈ids,t.cJ id=s.cJ id):t.Az ids=s.Az ids:=by
 funext id ver;unfold AS.Az;cases hi:idxOf id ids with
 |none=>rfl
 |some k=>
  have:t.obj id=s.obj id:=by simp only[AS.obj,h id (dC (vk hi))]
  rw[this]
theorem aaI{id:Id}(h:t.cJ id=s.cJ id):t.F1 id=s.F1 id:=by simp only[AS.F1,AS.obj,h]
theorem Vb{ids:List Id}(h:∀id∈ids,t.cJ id=s.cJ id)(q:Nat):t.yI ids q=s.yI ids q:=by
 funext id ver;cases id with
 |new i j=>rfl
 |bP k=>
  simp only[AS.yI];cases hk:ids[k]? with
  |none=>rfl
  |some id=>simp only[aaI (h id (dC hk))]
theorem Tq{ids:List Id}(h:∀id∈ids,t.cJ id=s.cJ id)(q b:Nat):t.vd ids q b=s.vd ids q b:=by funext e;cases e <;> simp only[AS.vd,Vb h]
theorem arF{ids:List Id}(h:∀id∈ids,t.cJ id=s.cJ id){id:Id}(dL:id∈ids):t.oK ids id=s.oK ids id:=by unfold AS.oK;rw[h id dL,aad h]
def qn(s:AS)(ids:List Id)(d:Option Tmp)(G:jf):AS:=(AS.kC s ids (d.getD 0) (s.made ids (d.getD 0) G.news) ids G.dh).put d (G.val.l7 (s.yI ids (d.getD 0)))
theorem ajy{ids:List Id}{d:Option Tmp}{G:jf}{s':AS}:(s.back ids d G).eval=av s'↔(G.dh.length=ids.length/\(G.news=[]\/∃q,d=av q/\s.eQ q=bm))/\s'=qn s ids d G:=by
 unfold AS.back;cases d with
 |none=>
  rw[aR,aD];simp only[aw,eZ,List.isEmpty_iff,qn,AS.put,Option.getD_none];constructor
  ·rintro⟨⟨h1,h2⟩,rfl⟩;rw[h2];exact⟨⟨h1,.inl rfl⟩,rfl⟩
  ·rintro⟨⟨h1,h2⟩,rfl⟩;rcases h2 with h2 | ⟨q,hq,_⟩
   ·rw[h2];exact⟨⟨h1,rfl⟩,rfl⟩
   ·cases hq
 |some q=>
  rw[aR,aD];simp only[aw,eZ,iT,List.isEmpty_iff,qn,ed];constructor
  ·rintro⟨⟨h1,h2⟩,rfl⟩;exact⟨⟨h1,h2.imp id λh=>⟨q,rfl,h⟩⟩,rfl⟩
  ·rintro⟨⟨h1,h2⟩,rfl⟩;refine⟨⟨h1,h2.imp id λ⟨q',hq,h⟩=> ?_⟩,rfl⟩;obtain rfl:q=q':=by simpa using hq
   exact h
theorem Y3(s0:AS)(all:List Id)(q:Nat):∀(ids:List Id) (es:List eJ) (s:AS),(AS.kC s0 all q s ids es).news.length=s.news.length
 |[],_,_=>by simp[AS.kC]
 |_::_,[],_=>by simp[AS.kC]
 |id::ids,e::es,s=>by rw[AS.kC,Y3 s0 all q ids es,Rb]
theorem aKS(s:AS)(ids:List Id)(q:Nat)(es:List eJ):(s.made ids q es).news.length=s.news.length:=by cases es <;> simp[AS.made,AS.born]
def OH(ids:List Id)(d:Option Tmp)(G:jf)(id:Id):Prop:=id∈ids\/(G.news≠ []/\∃q j,d=av q/\id= .new q j)
theorem ab4{ids:List Id}{d:Option Tmp}{G:jf}(hn:ids.Nodup)(hp:∀id∈ids,s.cJ id≠aH)(hl:G.dh.length=ids.length)(hv:G.news=[]\/∃q,d=av q/\s.eQ q=bm):
  (∀id,¬OH ids d G id->(qn s ids d G).cJ id=s.cJ id)/\
  (∀(k:Nat) (id:Id) (e:eJ),ids[k]? =av id->G.dh[k]? =av e->(qn s ids d G).cJ id=av (s.vd ids (d.getD 0) (s.F1 id) e))/\
  (∀q j,G.news≠ []->d=av q->(qn s ids d G).cJ (.new q j)=(G.news[j]?).map (s.vd ids q 0))/\
  (∀q j,G.news≠ []->d=av q->s.cJ (.new q j)=aH):=by
 have hv':G.news=[]\/s.eQ (d.getD 0)=bm:=by
  rcases hv with h | ⟨q,rfl,h⟩
  ·exact .inl h
  ·exact .inr h
 obtain⟨m1,m2⟩:=arG s ids (d.getD 0) G.news hv';have aTn:∀q j,G.news≠ []->d=av q->s.cJ (.new q j)=aH:=λq j h1 h2=>by
  rcases hv' with h | h
  ·exact absurd h h1
  ·subst h2;exact(Ez.1 h).2 j
 have Ky:∀id,s.cJ id≠aH->G.news=[]\/∀j,id≠ .new (d.getD 0) j:=λid dL=>by
  rcases hv with h | ⟨q,rfl,h⟩
  ·exact .inl h
  ·exact .inr λj e=>dL (by rw[e];exact(Ez.1 h).2 j)
 obtain⟨n1,n2⟩:=Lh s ids (d.getD 0) ids G.dh (s.made ids (d.getD 0) G.news) hn hl (λid dL=>by rw[m1 id (Ky id (hp id dL))];exact hp id dL);refine⟨λid dL=> ?_,λk id e h1 h2=> ?_,λq j h1 h2=> ?_,aTn⟩
 ·unfold OH at dL;simp only[not_or]at dL;rw[qn,N7,n1 id dL.1];refine m1 id ?_
  by_cases jk:G.news=[]
  ·exact .inl jk
  ·right;intro j e;rcases hv with h | ⟨q,hq,_⟩
   ·exact jk h
   ·exact dL.2 ⟨jk,q,j,hq,by rw[e,hq];rfl⟩
 ·rw[qn,N7,n2 k id e h1 h2]
 ·subst h2;have aZN:Id.new q j ∉ ids:=λdL=>hp _ dL (aTn q j h1 rfl)
  rw[qn,N7,n1 _ aZN];exact m2 h1 j
open Classical in
theorem awp{c:Call}{F:cr}{f:gC}{caps:aN}{en:Entry}(dW:o.op= .call c)(hc:c.callee= .value F)(hF:s.ev F= .fn f caps)(hΓ:Γ f (c.args.toList.map s.ev++caps.list)=av en)(fF:Nat.blt f yB=bm){s':AS}
  (he:(s.call en o.dst (c.args.toList.map s.ev++caps.list)).eval=av s'):Wh P Γ cg ops o s s':=by
 have w5:∀z,z=F\/z∈c.args.toList->z∈o.op.operands.toList:=λz hz=>by
  rw[dW];simp only[cT,Call.operands,hc,cY,bR];rcases hz with rfl | hz
  ·exact .inl (by simp)
  ·exact .inr hz
 have aKu:∀v∈c.args.toList.map s.ev++caps.list,∀id∈v.ids,id∈(iu Γ ops s o).rs:=λv hv id dL=>by
  rcases bR.1 hv with hv | hv
  ·obtain⟨x,hx,rfl⟩:=dy.1 hv;exact WT (avI dW rfl) (w5 x (.inr hx)) dL
  ·refine WT (avI dW rfl) (w5 F (.inl rfl)) ?_
   rw[hF];exact asp caps v hv id dL
 generalize ar8:c.args.toList.map s.ev++caps.list=vs at he aKu hΓ;have aO3:(iu Γ ops s o).ws=s.reach 64 (y9 en.params vs) []:=by show writes Γ s o=_;unfold writes;rw[dW];simp only[hc,hF,ar8,hΓ]
 have ap5:∀t,oG (iu Γ ops s o) s t->vJ P Γ cg o t=t.call en o.dst vs:=λt ht=>by
  unfold vJ;rw[dW];have h1:t.ev F= .fn f caps:=by rw[ht.ev (w5 F (.inl rfl)),hF]
  have h2:c.args.toList.map t.ev=c.args.toList.map s.ev:=iS λx hx=>ht.ev (w5 x (.inr hx))
  obtain⟨cal,args,tys⟩:=c;simp only at hc ar8 h2;subst hc;simp only[h1,h2,ar8,hΓ,fF,Out.guard]
 unfold AS.call at he;obtain⟨r,h1,h2⟩:=aC.1 he;obtain⟨aUU,aBb⟩:=QB _ _ r h1;have hlends:∀t:AS,(t.bF r.2).akn r.1=t.reach 64 (y9 en.params vs) []:=λt=>by unfold AS.akn;rw[abl,aUU]
 rw[hlends]at h2;generalize hW:s.reach 64 (y9 en.params vs) []=W at h2 aO3;have hWn:W.Nodup:=by rw[<-hW];exact Ax s _ _ _ (by simp)
 unfold AS.enter at h2;obtain⟨Ag,h3⟩:=aR.1 h2;obtain⟨x,hx,h4⟩:=og.1 h3;obtain⟨x0,aU1,h4⟩:=aC.1 h4;have aEk:=en.aCi _ _ aU1;rw[aEk]at h4 aU1;obtain⟨⟨hl,hv⟩,rfl⟩:=ajy.1 h4;generalize hG:en.out (r.1.map (aN.l7 ((s.bF r.2).Az W))) (W.map ((s.bF r.2).oK W)) x=G at hl hv h4 ⊢;have hp:∀id∈W,(s.bF r.2).cJ id≠aH:=λid dL=>by have:=(aw _ _▸dr.1 Ag id dL).1;obtain⟨⟨v,fr,c⟩,hr⟩:=bZ.1 this;rw[fT hr];simp
 obtain⟨b1,b2,b3,b4⟩:=ab4 (s:=s.bF r.2) (d:=o.dst) hWn hp hl hv;have hfzent:∀(u:AS) id,u.cJ id=aH↔(u.bF r.2).cJ id=aH:=λu id=>by rw[gh];split <;> simp
 let E:aWD:=⟨G.val.l7 ((s.bF r.2).yI W (o.dst.getD 0)),λid=>if OH W o.dst G id then(qn (s.bF r.2) W o.dst G).cJ id else aH,r.2⟩
 have hslots:∀u:AS,(qn (u.bF r.2) W o.dst G).dg=(u.put o.dst (G.val.l7 ((u.bF r.2).yI W (o.dst.getD 0)))).dg:=λu=>by unfold qn;cases o.dst <;> simp[AS.put,G6,agR,qa]
 have hlen:∀u:AS,(qn (u.bF r.2) W o.dst G).news.length=u.news.length:=λu=>by unfold qn;cases o.dst <;> simp[AS.put,Y3,aKS,tQ]
 refine⟨E,⟨hslots s,hlen s,λid=> ?_⟩,⟨λid e ado=> ?_,λid dL=> ?_⟩,λt ht=> ?_⟩
 ·by_cases aHQ:OH W o.dst G id
  ·have ado:E.up id=(qn (s.bF r.2) W o.dst G).cJ id:=if_pos aHQ;rw[ado];cases hb:(qn (s.bF r.2) W o.dst G).cJ id with
   |some e=>rfl
   |none=>
    rcases aHQ with dL | ⟨jk,q,j,hq,rfl⟩
    ·obtain⟨k,hk⟩:=lX.1 dL;have fF:k < G.dh.length:=by rw[hl];exact(ek.1 hk).1
     rw[b2 k id _ hk (cn fF)]at hb;cases hb
    ·have:=(hfzent s _).2 (b4 q j jk hq);simp[this]
  ·have ado:E.up id=aH:=if_neg aHQ;rw[ado,b1 id aHQ,gh]
 ·by_cases aHQ:OH W o.dst G id
  ·rcases aHQ with dL | ⟨_,q,j,hq,rfl⟩
   ·left;refine⟨by rw[aO3];exact dL,λh=>hp id dL ((hfzent s id).1 h)⟩
   ·exact .inr ⟨q,j,hq,rfl⟩
  ·have:E.up id=aH:=if_neg aHQ;rw[this]at ado;cases ado
 ·obtain⟨v,hv,dL⟩:=aBb id dL;exact aKu v hv id dL
 ·have aW7:t.conv en.params vs=s.conv en.params vs:=QA _ _ λv hv id dL=>ht.rs id (aKu v hv id dL)
  have Sf:∀id∈W,t.cJ id=s.cJ id:=λid dL=>ht.ws id (by rw[aO3];exact dL)
  have arU:∀id∈W,(t.bF r.2).cJ id=(s.bF r.2).cJ id:=λid dL=>by rw[gh,gh,Sf id dL]
  have hWt:t.reach 64 (y9 en.params vs) []=W:=by
   rw[<-hW];refine Aw _ _ _ λid dL=> ?_
   rw[Sf id (by rw[<-hW];exact dL)]
  have aU0:G.news=[]\/∃q,o.dst=av q/\(t.bF r.2).eQ q=bm:=hv.imp id λ⟨q,hq,h⟩=>⟨q,hq,by
   rw[yR]at h ⊢;rw[ht.eQ q hq];exact h⟩
  have bch:∀id∈W,(t.bF r.2).cJ id≠aH:=λid dL=>by rw[arU id dL];exact hp id dL
  obtain⟨d1,d2,d3,d4⟩:=ab4 (s:=t.bF r.2) (d:=o.dst) hWn bch hl aU0;refine⟨qn (t.bF r.2) W o.dst G,?_,⟨?_,hlen t,λid=> ?_⟩⟩
  ·rw[ap5 t ht];unfold AS.call;rw[aW7];refine aC.2 ⟨r,h1,?_⟩;rw[hlends,hWt];unfold AS.enter;have hA:(t.bF r.2).Az W=(s.bF r.2).Az W:=aad arU;have hO:W.map ((t.bF r.2).oK W)=W.map ((s.bF r.2).oK W):=iS λid dL=>arF arU dL
   refine aR.2 ⟨?_,og.2 ⟨x,?_,aC.2 ⟨x,aU1,?_⟩⟩⟩
   ·refine dr.2 λid dL=> ?_
    have:=dr.1 Ag id dL;simp only[AS.obj,AS.WY]at this ⊢;rw[arU id dL];exact this
   ·rw[hA,hO,<-hx]
   ·rw[hA,hO,hG];exact ajy.2 ⟨⟨hl,aU0⟩,rfl⟩
  ·rw[hslots t,Vb arU]
  ·by_cases aHQ:OH W o.dst G id
   ·have ado:E.up id=(qn (s.bF r.2) W o.dst G).cJ id:=if_pos aHQ;rw[ado];rcases aHQ with dL | ⟨jk,q,j,hq,rfl⟩
    ·obtain⟨k,hk⟩:=lX.1 dL;have fF:k < G.dh.length:=by rw[hl];exact(ek.1 hk).1
     rw[b2 k id _ hk (cn fF),d2 k id _ hk (cn fF),Tq arU,aaI (arU id dL)]
    ·rw[b3 q j jk hq,d3 q j jk hq,Tq arU];cases hn:G.news[j]? with
     |some e=>rfl
     |none=>
      have:=(hfzent t _).2 (d4 q j jk hq);simp[this]
   ·have ado:E.up id=aH:=if_neg aHQ;rw[ado,d1 id aHQ,gh]
end
end Go.Ab
namespace Go.Ab
section
variable {P:bj} {Γ:tg} {cg:List Nat} {ops:Array Oper} {o:Oper} {s t:AS}
theorem Out.bind_assoc{α β γ:Type}(o:Out α)(f:α->Out β)(g:β->Out γ):(o.bind f).bind g=o.bind λa=>(f a).bind g:=by
 induction o with
 |ok a=>rfl
 |fail=>rfl
 |AK c r ih=>simp only[Out.bind,ih]
 |get x h ih=>simp only[Out.bind,ih]
 |br c x y ih1 ih2=>simp only[Out.bind,ih1,ih2]
theorem as6{parts:Array (Nat×cr)}{x:Nat×cr}(h:x∈parts.toList):x.2∈(parts.toList.map (·.2)).toArray.toList:=dy.2 ⟨x,h,rfl⟩
theorem aDb{T:TypeId}{x:cr}(dW:o.op= .box T x){s':AS}(he:(aqN P s (isObj cg o.dst) (axa cg o.dst) o.dst T (s.ev x)).eval=av s'):Wh P Γ cg ops o s s':=by
 have ap5:∀t,vJ P Γ cg o t=aqN P t (isObj cg o.dst) (axa cg o.dst) o.dst T (t.ev x):=λt=>by unfold vJ;rw[dW]
 have hm:x∈o.op.operands.toList:=by rw[dW];simp[cT]
 unfold aqN at he;split at he
 ·rename_i q hd;split at he
  ·rename_i ho;obtain⟨h1,h2⟩:=aR.1 he;obtain rfl:=aD.1 h2;simp only[aw]at h1;refine Ai (ids:=[]) hd h1.1 (λ_ h=>by cases h) λt ht hv=> ?_
   rw[ap5,ht.ev hm];unfold aqN;simp only[hd]at ho ⊢;simp only[ho];exact aR.2 ⟨by simp[hv,h1.2],aD.2 rfl⟩
  ·rename_i ho;split at he
   ·rename_i ty aZ0;obtain⟨h1,h2⟩:=aR.1 he;obtain⟨y,h3,h4⟩:=aC.1 h2;obtain rfl:=aD.1 h4;refine anG (λid dL=>WT (avI dW rfl) hm (Eo _ _ dL)) λt ht=> ?_
    rw[ap5,ht.ev hm];unfold aqN;simp only[hd]at ho ⊢;simp only[ho,aZ0];refine aR.2 ⟨h1,aC.2 ⟨y,?_,aD.2 rfl⟩⟩;rw[yQ _ _ λid dL=>ht.avJ (avI dW rfl) hm dL];exact h3
   ·simp only[aG]at he
 ·simp only[aG]at he
theorem aqT{T:TypeId}{parts:Array (Nat×cr)}(dW:o.op= .build T parts){s':AS}(he:(KZ P s o.dst T parts.toList).eval=av s'):Wh P Γ cg ops o s s':=by
 have ap5:∀t,vJ P Γ cg o t=KZ P t o.dst T parts.toList:=λt=>by unfold vJ;rw[dW]
 have hm:∀x∈parts.toList,x.2∈o.op.operands.toList:=λx hx=>by rw[dW];exact as6 hx
 unfold KZ at he;split at he
 ·rename_i fs hT;split at he
  ·rename_i z hz;obtain⟨h1,h2⟩:=aR.1 he;obtain⟨v,h3,h4⟩:=aC.1 h2;obtain rfl:=aD.1 h4;refine qw λt ht=> ?_
   rw[ap5];unfold KZ;simp only[hT,hz];refine aR.2 ⟨h1,aC.2 ⟨v,?_,aD.2 rfl⟩⟩;rw[Ki _ _ λx hx=>ht.ev (hm x hx)];exact h3
  ·simp only[aG]at he
 ·rename_i n e hT;split at he
  ·rename_i ty aZ0;obtain⟨h1,h2⟩:=aR.1 he;obtain⟨r,h3,h4⟩:=aC.1 h2;obtain rfl:=aD.1 h4;refine anG (λid dL=> ?_) λt ht=> ?_
   ·obtain⟨x,hx,hi⟩:=Be _ _ _ h3 id dL;exact WT (avI dW rfl) (hm x hx) hi
   ·rw[ap5];unfold KZ;simp only[hT,aZ0];refine aR.2 ⟨h1,aC.2 ⟨r,?_,aD.2 rfl⟩⟩;rw[En _ _ λx hx=>⟨ht.ev (hm x hx),λid dL=>ht.avJ (avI dW rfl) (hm x hx) dL⟩];exact h3
  ·simp only[aG]at he
 ·simp only[aG]at he
theorem Ww{T:TypeId}{n:Nat}{parts:Array (Nat×cr)}(dW:o.op= .buildSlice T n parts){s':AS}(he:(oI P s (aEs cg o.dst) (isObj cg o.dst) o.dst T n parts.toList).eval=av s'):Wh P Γ cg ops o s s':=by
 have ap5:∀t,vJ P Γ cg o t=oI P t (aEs cg o.dst) (isObj cg o.dst) o.dst T n parts.toList:=λt=>by unfold vJ;rw[dW]
 have hm:∀x∈parts.toList,x.2∈o.op.operands.toList:=λx hx=>by rw[dW];exact as6 hx
 unfold oI at he;split at he
 ·rename_i e ty b q OO hd;obtain⟨h1,h2⟩:=aR.1 he;obtain⟨r,h3,h4⟩:=aC.1 h2;have aWo:∀id∈r.2,id∈(iu Γ ops s o).rs:=λid dL=>by obtain⟨x,hx,hi⟩:=Be _ _ _ h3 id dL;exact WT (avI dW rfl) (hm x hx) hi
  have aW7:∀t,oG (iu Γ ops s o) s t->∀l,km ty t parts.toList l=km ty s parts.toList l:=λt ht l=>En _ _ λx hx=>⟨ht.ev (hm x hx),λid dL=>ht.avJ (avI dW rfl) (hm x hx) dL⟩
  split at h4
  ·rename_i ho;obtain⟨h5,h6⟩:=aR.1 h4;obtain rfl:=aD.1 h6;refine Ai hd h5 aWo λt ht hv=> ?_
   rw[ap5];unfold oI;simp only[hd]at ho OO ⊢;simp only[OO,ho];refine aR.2 ⟨h1,aC.2 ⟨r,by rw[aW7 t ht];exact h3,aR.2 ⟨hv,aD.2 rfl⟩⟩⟩
  ·rename_i ho;obtain rfl:=aD.1 h4;refine anG aWo λt ht=> ?_
   rw[ap5];unfold oI;simp only[hd]at ho OO ⊢;simp only[OO,ho];exact aR.2 ⟨h1,aC.2 ⟨r,by rw[aW7 t ht];exact h3,aD.2 rfl⟩⟩
 ·simp only[aG]at he
theorem aaV{T:TypeId}{x y:cr}(dW:o.op= .makeSlice T x y){len cap:Int}(hx:(asInt (s.ev x)).eval=av len)(hy:(asInt (s.ev y)).eval=av cap){s':AS}(he:(vo P s o.dst T len cap).eval=av s'):Wh P Γ cg ops o s s':=by
 have ap5:∀t,vJ P Γ cg o t=(asInt (t.ev x)).bind λl=>(asInt (t.ev y)).bind λc=>vo P t o.dst T l c:=λt=>by unfold vJ;rw[dW]
 have hm:∀z,z=x\/z=y->z∈o.op.operands.toList:=λz hz=>by rw[dW];simpa[cT]using hz
 unfold vo at he;split at he
 ·rename_i e ty b q OO hd;obtain⟨h1,h2⟩:=aR.1 he;obtain⟨h3,h4⟩:=cW.1 h2;obtain rfl:=aD.1 h4;refine Ai (ids:=[]) hd h1 (λ_ h=>by cases h) λt ht hv=> ?_
  rw[ap5,ht.ev (hm x (.inl rfl)),ht.ev (hm y (.inr rfl))];refine aC.2 ⟨len,hx,aC.2 ⟨cap,hy,?_⟩⟩;unfold vo;simp only[OO,hd];exact aR.2 ⟨hv,cW.2 ⟨h3,aD.2 rfl⟩⟩
 ·simp only[aG]at he
theorem anS{id:Id}{ver:Nat}{kt vt:Ty}(h:ED (t.cJ id) (s.cJ id)):t.tt id ver kt vt=s.tt id ver kt vt:=by
 unfold AS.tt;rcases apq h with⟨h1,h2⟩ | ⟨v,f,f',c,h1,h2⟩
 ·rw[h1,h2]
 ·rw[h1,h2];cases c <;> rfl
theorem ah4{T:TypeId}{m k:aN}{ok:Bool}(h:∀id∈m.ids,ED (t.cJ id) (s.cJ id)):IW P t T m k ok=IW P s T m k ok:=by
 unfold IW;split
 ·rename_i id ver hm;rw[anS (h id (by simp[aN.ids]))]
 ·rfl
theorem akq{id:Id}{ver:Nat}{kt vt:Ty}{l:List (kt.den×vt.den)}(h:(s.tt id ver kt vt).eval=av l):∃e,s.cJ id=av e:=by
 unfold AS.tt at h;split at h
 ·rename_i v fr k' v' l' qF;exact⟨_,fT qF⟩
 ·simp only[aG]at h
theorem axp{id:Id}{ver:Nat}{kt vt:Ty}{l:List (kt.den×vt.den)}(h:(s.tt id ver kt vt).eval=av l):∃fr,s.cJ id=av (.obj ver fr (.mp kt vt l)):=by
 unfold AS.tt at h;split at h
 ·rename_i v fr k' v' l' qF;obtain⟨aKt,aZO⟩:=aR.1 h;have aKt:v=ver:=by simpa using aKt
  obtain⟨rfl,rfl,rfl⟩:=Yy (jP.1 aZO);subst aKt;exact⟨fr,fT qF⟩
 ·simp only[aG]at h
theorem LJ{id:Id}{ver:Nat}{kt vt:Ty}(h:t.cJ id=s.cJ id):t.tt id ver kt vt=s.tt id ver kt vt:=by unfold AS.tt AS.obj;rw[h]
theorem Ha{id:Id}(h:t.cJ id=s.cJ id):t.xU id=s.xU id:=by unfold AS.xU AS.obj;rw[h]
theorem ah9{T:TypeId}{m k v:aN}{s':AS}(h:(I1 P s T m k v).eval=av s'):
  ∃id e0 e,m.ids=[id]/\s.cJ id=av e0/\s'=s.bI id e/\∀t:AS,t.cJ id=s.cJ id->(I1 P t T m k v).eval=av (t.bI id e):=by
 unfold I1 at h;split at h
 ·rename_i K V kt vt id ver hm;obtain⟨l,h1,h⟩:=aC.1 h;obtain⟨kx,h2,h⟩:=aC.1 h;obtain⟨vx,h3,h⟩:=aC.1 h;obtain⟨hu,h⟩:=aR.1 h;obtain rfl:=aD.1 h;obtain⟨e0,ank⟩:=akq h1;refine⟨id,e0,_,rfl,ank,rfl,λt ht=> ?_⟩;unfold I1;simp only[hm];exact aC.2 ⟨l,by rw[LJ ht];exact h1,aC.2 ⟨kx,h2,aC.2 ⟨vx,h3,aR.2 ⟨by rw[Ha ht];exact hu,aD.2 rfl⟩⟩⟩⟩
 ·simp only[aG]at h
theorem ah8{T:TypeId}{m k:aN}{s':AS}(h:(I0 P s T m k).eval=av s'):
  ∃id e0 e,m.ids=[id]/\s.cJ id=av e0/\s'=s.bI id e/\∀t:AS,t.cJ id=s.cJ id->(I0 P t T m k).eval=av (t.bI id e):=by
 unfold I0 at h;split at h
 ·rename_i K V kt vt id ver hm;obtain⟨l,h1,h⟩:=aC.1 h;obtain⟨kx,h2,h⟩:=aC.1 h;obtain⟨hu,h⟩:=aR.1 h;obtain rfl:=aD.1 h;obtain⟨e0,ank⟩:=akq h1;refine⟨id,e0,_,rfl,ank,rfl,λt ht=> ?_⟩;unfold I0;simp only[hm];exact aC.2 ⟨l,by rw[LJ ht];exact h1,aC.2 ⟨kx,h2,aR.2 ⟨by rw[Ha ht];exact hu,aD.2 rfl⟩⟩⟩
 ·simp only[aG]at h
theorem ajw{s':AS}(he:(vJ P Γ cg o s).eval=av s'):Wh P Γ cg ops o s s':=by
 have ank:=he;have one:∀x,o.op.operands= #[x]->∀t,oG (iu Γ ops s o) s t->t.ev x=s.ev x/\(aks o.op=aZ->∀id∈(s.ev x).ids,ED (t.cJ id) (s.cJ id)):=λx hx t ht=>
  have hm:x∈o.op.operands.toList:=by rw[hx];simp
  ⟨ht.ev hm,λhn _ dL=>ht.avJ hn hm dL⟩
 unfold vJ at he;split at he
 ·rename_i x dW;obtain rfl:=aD.1 he;refine qw λt ht=> ?_
  unfold vJ;rw[dW];simp only;rw[(one x (by rw[dW];rfl) t ht).1];rfl
 ·rename_i x dW;obtain rfl:=aD.1 he;refine qw λt ht=> ?_
  unfold vJ;rw[dW];simp only;rw[(one x (by rw[dW];rfl) t ht).1];rfl
 ·rename_i c x y dW;refine qv (F:=λt=>aBM (t.ev c) (t.ev x) (t.ev y)) (λt=>by unfold vJ;rw[dW]) (λt ht=> ?_) ank;rw[ht.ev (by rw[dW];simp[cT]),ht.ev (by rw[dW];simp[cT]),ht.ev (by rw[dW];simp[cT])]
 ·rename_i T dW;split at he
  ·rename_i z q hz hq;obtain⟨h1,h2⟩:=aR.1 he;obtain rfl:=aD.1 h2;simp only[aw]at h1;refine Ai (ids:=[]) hq h1.1 (λ_ h=>by cases h) λt ht hv=> ?_
   unfold vJ;rw[dW];simp only[hz,hq];exact aR.2 ⟨by simp[hv,h1.2],aD.2 rfl⟩
  ·exact(aG.1 he).elim
 ·rename_i T x dW;exact aDb dW he
 ·rename_i T parts dW;exact aqT dW he
 ·rename_i T n parts dW;exact Ww dW he
 ·rename_i T x dW;refine qv (F:=λt=>TU P t T (t.ev x)) (λt=>by unfold vJ;rw[dW]) (λt ht=> ?_) ank;obtain⟨h1,h2⟩:=one x (by rw[dW];rfl) t ht;rw[h1,asq (h2 (avI dW rfl))]
 ·rename_i T x v dW;obtain⟨s1,h1,h2⟩:=aC.1 he;obtain rfl:=aD.1 h2;obtain⟨id,e0,e,dL,hs,rfl,hl⟩:=apy h1;refine TV hs ?_ λt ht aEj=> ?_
  ·show id∈writes Γ s o;unfold writes;rw[dW];simp only[dL,bB]
  ·unfold vJ;rw[dW];simp only;rw[ht.ev (x:=x) (by rw[dW];simp[cT]),ht.ev (x:=v) (by rw[dW];simp[cT])];exact aC.2 ⟨_,hl t aEj,aD.2 rfl⟩
 ·rename_i x dW;split at he
  ·rename_i id v p n hx;obtain rfl:=aD.1 he;refine qw λt ht=> ?_
   unfold vJ;rw[dW];simp only[(one x (by rw[dW];rfl) t ht).1,hx];rfl
  ·rename_i ty y hx;obtain rfl:=aD.1 he;refine qw λt ht=> ?_
   unfold vJ;rw[dW];simp only[(one x (by rw[dW];rfl) t ht).1,hx];rfl
  ·rename_i ty y hx;obtain⟨z,e,he⟩:=og.1 he;obtain rfl:=aD.1 he;refine qw λt ht=> ?_
   unfold vJ;rw[dW];simp only[(one x (by rw[dW];rfl) t ht).1,hx];exact og.2 ⟨z,e,aD.2 rfl⟩
  ·rename_i ty y hx;obtain⟨z,e,he⟩:=og.1 he;obtain rfl:=aD.1 he;refine qw λt ht=> ?_
   unfold vJ;rw[dW];simp only[(one x (by rw[dW];rfl) t ht).1,hx];exact og.2 ⟨z,e,aD.2 rfl⟩
  ·rename_i f c hx;obtain rfl:=aD.1 he;refine qw λt ht=> ?_
   unfold vJ;rw[dW];simp only[(one x (by rw[dW];rfl) t ht).1,hx];rfl
  ·exact(aG.1 he).elim
 ·rename_i op T x y U dW;have aXt:x∈o.op.operands.toList:=by rw[dW];simp[cT]
  have aZK:y∈o.op.operands.toList:=by rw[dW];simp[cT]
  obtain⟨v,h1,h2⟩:=aC.1 he;obtain rfl:=aD.1 h2;refine qw λt ht=> ?_
  unfold vJ;rw[dW];simp only[ht.ev aXt,ht.ev aZK];exact aC.2 ⟨v,h1,rfl⟩
 ·rename_i op T x dW;refine qv (F:=λt=>aYW op (t.ev x)) (λt=>by unfold vJ;rw[dW]) (λt ht=> ?_) ank;rw[(one x (by rw[dW];rfl) t ht).1]
 ·rename_i T U x dW;obtain⟨v,h1,h2⟩:=aC.1 he;obtain rfl:=aD.1 h2;refine qw λt ht=> ?_
  obtain⟨h3,h4⟩:=one x (by rw[dW];rfl) t ht;unfold vJ;rw[dW];simp only[h3];exact aC.2 ⟨v,by rw[aq5 (h4 (avI dW rfl))];exact h1,rfl⟩
 ·rename_i f first caps dW
  obtain⟨h1,h2⟩:=aR.1 he;obtain rfl:=aD.1 h2;refine qw λt ht=> ?_
  have hc:u6 t caps.toList=u6 s caps.toList:=SQ _ λx hx=>ht.ev (by rw[dW];simp only[cT,cY];exact bR.2 (.inr hx))
  unfold vJ;rw[dW];simp only[hc];exact aR.2 ⟨h1,aD.2 rfl⟩
 ·rename_i T l c dW;obtain⟨n,h1,h2⟩:=aC.1 he;obtain⟨m,h3,h4⟩:=aC.1 h2;exact aaV dW h1 h3 h4
 ·rename_i T x lo hi dW;refine qv (F:=λt=>Nr P t T (t.ev x) lo hi) (λt=>by unfold vJ;rw[dW]) (λt ht=> ?_) ank;have hm:∀z,(z=x\/lo=av z\/hi=av z)->z∈o.op.operands.toList:=λz hz=>by
   rw[dW];simp only[cT,cY,bR];rcases hz with rfl | rfl | rfl
   ·left;left;left;simp
   ·left;left;right;simp
   ·left;right;simp
  have hx:=hm x (.inl rfl);rw[ht.ev hx];exact VK (λid dL=>ht.avJ (avI dW rfl) hx dL) (λy hy=>ht.ev (hm y (.inr (.inl hy)))) (λy hy=>ht.ev (hm y (.inr (.inr hy))))
 ·rename_i T x lo y m dW;refine qv (F:=λt=>VJ P t T (t.ev x) lo y m) (λt=>by unfold vJ;rw[dW]) (λt ht=> ?_) ank;have hm:∀z,(z=x\/lo=av z\/y=z\/m=z)->z∈o.op.operands.toList:=λz hz=>by
   rw[dW];simp only[cT,cY,bR];rcases hz with rfl | rfl | rfl | rfl
   ·left;left;left;simp
   ·left;left;right;simp
   ·left;right;simp
   ·right;simp
  have hx:=hm x (.inl rfl);rw[ht.ev hx];exact ai6 (λid dL=>ht.avJ (avI dW rfl) hx dL) (λz hz=>ht.ev (hm z (.inr (.inl hz)))) (ht.ev (hm y (.inr (.inr (.inl rfl))))) (ht.ev (hm m (.inr (.inr (.inr rfl)))))
 ·rename_i T x f dW;refine qv (F:=λt=>IS P T (t.ev x) f) (λt=>by unfold vJ;rw[dW]) (λt ht=> ?_) ank;rw[(one x (by rw[dW];rfl) t ht).1]
 ·rename_i T x f dW;refine qv (F:=λt=>ane P T (t.ev x) f) (λt=>by unfold vJ;rw[dW]) (λt ht=> ?_) ank;rw[(one x (by rw[dW];rfl) t ht).1]
 ·rename_i T x i dW;refine qv (F:=λt=>(asInt (t.ev i)).bind λi=>vl P t T (t.ev x) i) (λt=>by unfold vJ;rw[dW,Out.bind_assoc]) (λt ht=> ?_) ank;have hx:x∈o.op.operands.toList:=by rw[dW];simp[cT]
  rw[ht.ev (x:=i) (by rw[dW];simp[cT]),ht.ev hx];congr 1;funext i;exact WU λid dL=>ht.avJ (avI dW rfl) hx dL
 ·rename_i T x i dW;refine qv (F:=λt=>(asInt (t.ev i)).bind λi=>anu P T (t.ev x) i) (λt=>by unfold vJ;rw[dW,Out.bind_assoc]) (λt ht=> ?_) ank;rw[ht.ev (x:=i) (by rw[dW];simp[cT]),ht.ev (x:=x) (by rw[dW];simp[cT])]
 ·rename_i x i dW;refine qv (F:=λt=>Out.opt ((t.ev x).list[i]?)) (λt=>by unfold vJ;rw[dW]) (λt ht=> ?_) ank;rw[(one x (by rw[dW];rfl) t ht).1]
 ·rename_i T dW;have Q4:=he;unfold LI at Q4;split at Q4
  ·rename_i K V kt vt q hm hd;obtain⟨h1,h2⟩:=aR.1 Q4;obtain rfl:=aD.1 h2;refine Ai (ids:=[]) hd h1 (λ_ h=>by cases h) λt ht hv=> ?_
   unfold vJ;rw[dW];simp only;unfold LI;simp only[hm,hd];exact aR.2 ⟨hv,aD.2 rfl⟩
  ·exact(aG.1 Q4).elim
 ·rename_i T x i ok dW;refine qv (F:=λt=>IW P t T (t.ev x) (t.ev i) ok) (λt=>by unfold vJ;rw[dW]) (λt ht=> ?_) ank;have hx:x∈o.op.operands.toList:=by rw[dW];simp[cT]
  rw[ht.ev (x:=i) (by rw[dW];simp[cT]),ht.ev hx];exact ah4 λid dL=>ht.avJ (avI dW rfl) hx dL
 ·rename_i T m k x dW;obtain⟨s1,h1,h2⟩:=aC.1 he;obtain rfl:=aD.1 h2;obtain⟨id,e0,e,dL,hs,rfl,hl⟩:=ah9 h1;refine TV hs ?_ λt ht aEj=> ?_
  ·show id∈writes Γ s o;unfold writes;rw[dW];simp only[dL,bB]
  ·unfold vJ;rw[dW];simp only;rw[ht.ev (x:=m) (by rw[dW];simp[cT]),ht.ev (x:=k) (by rw[dW];simp[cT]),ht.ev (x:=x) (by rw[dW];simp[cT])];exact aC.2 ⟨_,hl t aEj,aD.2 rfl⟩
 ·rename_i T m dW;have Q4:=he;unfold Xx at Q4;split at Q4
  ·rename_i K V kt vt id ver q hm hv hd;obtain⟨l,h1,h2⟩:=aC.1 Q4;obtain⟨h3,h4⟩:=aR.1 h2;obtain rfl:=aD.1 h4;simp only[aw]at h3;obtain⟨hu,hq⟩:=h3;have dQ:=axp h1;obtain⟨fr,dQ⟩:=dQ;obtain rfl:=Ex dQ hu;have hf:∀t:AS,t.cJ id=s.cJ id->t.bF [id]=t.bI id (.obj ver bm (.mp kt vt l)):=λt ht=>by show t.freeze id=_;unfold AS.freeze;rw[ht,dQ]
   have aXs:m∈o.op.operands.toList:=by rw[dW];simp[cT]
   have hw:id∈writes Γ s o:=by unfold writes;rw[dW];simp only[hv,aN.ids,bB]
   rw[<-hf s rfl];refine Ai (ids:=[id]) hd hq (λi hi=> ?_) λt ht aU0=> ?_
   ·rw[bB.1 hi];exact bR.2 (.inr hw)
   ·have aEj:t.cJ id=s.cJ id:=ht.ws id hw;unfold vJ;rw[dW];simp only;unfold Xx;rw[ht.ev aXs];simp only[hm,hv,hd];rw[hf t aEj];exact aC.2 ⟨l,by rw[LJ aEj];exact h1,aR.2 ⟨by rw[Ha aEj,hu,aU0];rfl,aD.2 rfl⟩⟩
  ·simp only[aG]at Q4
 ·rename_i c dW;obtain⟨cal,args,tys⟩:=c;simp only at he;split at he
  ·split at he
   ·rename_i m k T T2 ha ht';have aXs:m∈o.op.operands.toList:=by rw[dW];simp only[cT,Call.operands,aY,cY,ha];simp
    have aKn:k∈o.op.operands.toList:=by rw[dW];simp only[cT,Call.operands,aY,cY,ha];simp
    obtain⟨s1,h1,h2⟩:=aC.1 he;obtain rfl:=aD.1 h2;obtain⟨id,e0,e,dL,hs,rfl,hl⟩:=ah8 h1;refine TV hs ?_ λt ht aEj=> ?_
    ·show id∈writes Γ s o;unfold writes;rw[dW];simp only[ha,dL,bB]
    ·unfold vJ;rw[dW];simp only[ha,ht'];rw[ht.ev aXs,ht.ev aKn];exact aC.2 ⟨_,hl t aEj,aD.2 rfl⟩
   ·exact(aG.1 he).elim
  ·split at he
   ·rename_i x y T X ha ht';exact awu dW rfl ha ht' he
   ·exact(aG.1 he).elim
  ·split at he
   ·rename_i x T ha ht';refine qv (F:=λt=>aQT P T (t.ev x)) (λt=>by unfold vJ;rw[dW];simp only[ha,ht']) (λt ht=> ?_) ank;rw[ht.ev (by rw[dW];simp only[cT,Call.operands,aY,cY,ha];simp)]
   ·exact(aG.1 he).elim
  ·split at he
   ·rename_i x y T X ha ht';have aXt:x∈o.op.operands.toList:=by rw[dW];simp only[cT,Call.operands,aY,cY,ha];simp
    have aZK:y∈o.op.operands.toList:=by rw[dW];simp only[cT,Call.operands,aY,cY,ha];simp
    split at he
    ·rename_i k n hx hy;have Q4:=he;unfold arT at Q4;split at Q4
     ·rename_i e t0 b q kn OO hd hX;obtain⟨h1,h2⟩:=aR.1 Q4;obtain⟨h3,h4⟩:=cW.1 h2;obtain rfl:=aD.1 h4;refine Ai (ids:=[]) hd h1 (λ_ h=>by cases h) λt ht hv=> ?_
      unfold vJ;rw[dW];simp only[ha,ht',ht.ev aXt,ht.ev aZK,hx,hy];unfold arT;simp only[OO,hd,hX];exact aR.2 ⟨hv,cW.2 ⟨h3,aD.2 rfl⟩⟩
     ·exact(aG.1 Q4).elim
    ·rename_i jk;exact amd dW rfl ha ht' jk he
   ·exact(aG.1 he).elim
  ·split at he
   ·rename_i x T ha ht';have aXt:x∈o.op.operands.toList:=by rw[dW];simp only[cT,Call.operands,aY,cY,ha];simp
    split at he
    ·rename_i e hx hT;obtain rfl:=aD.1 he;refine qw λt ht=> ?_
     unfold vJ;rw[dW];simp only[ha,ht',ht.ev aXt,hx,hT];rfl
    ·exact(aG.1 he).elim
   ·exact(aG.1 he).elim
  ·refine qv (F:=λt=>aEP bm (args.toList.map t.ev)) (λt=>by unfold vJ;rw[dW]) (λt ht=> ?_) ank;congr 1;exact iS λx hx=>ht.ev (by rw[dW];simp only[cT,Call.operands,aY,cY];exact hx)
  ·refine qv (F:=λt=>aEP aZ (args.toList.map t.ev)) (λt=>by unfold vJ;rw[dW]) (λt ht=> ?_) ank;congr 1;exact iS λx hx=>ht.ev (by rw[dW];simp only[cT,Call.operands,aY,cY];exact hx)
  ·rename_i F _;split at he
   ·rename_i f caps hF;split at he
    ·rename_i en aKj;obtain⟨fF,he⟩:=aR.1 he;exact awp dW rfl hF aKj fF he
    ·exact(aG.1 he).elim
   ·exact(aG.1 he).elim
  ·exact(aG.1 he).elim
 ·exact(aG.1 he).elim
end
end Go.Ab
namespace Go.Ab
section
variable {P:bj} {Γ:tg} {cg:List Nat} {ops:Array Oper} {o:Oper} {s t:AS}
def Loc(P:bj)(Γ:tg)(cg:List Nat)(ops:Array Oper)(o:Oper)(s s':AS):Prop:=∃E,App o.dst E s s'/\ama (iu Γ ops s o) s E/\∀t,oG (iu Γ ops s o) s t->∃t',ON P Γ cg ops o t=av t'/\App o.dst E t t'
theorem adh{s':AS}(he:ON P Γ cg ops o s=av s'):Loc P Γ cg ops o s s':=by
 unfold ON at he;split at he
 ·rename_i hg;obtain⟨E,h1,h2,h3⟩:=ajw (ops:=ops) he;refine⟨E,h1,h2,λt ht=> ?_⟩;obtain⟨t',h4,h5⟩:=h3 t ht;exact⟨t',by unfold ON;simp only[hg];exact h4,h5⟩
 ·rename_i j want hg;split at he
  ·rename_i q hq;split at he
   ·rename_i b hb;have aO2:∀t,oG (iu Γ ops s o) s t->t.slot q= .d .bool b:=λt ht=>by rw[ht.dg q (bR.2 (.inr (by unfold WK;simp only[hg,hq];simp)))];exact hb
    by_cases e:b=want
    ·rw[if_pos e]at he;obtain⟨E,h1,h2,h3⟩:=ajw (ops:=ops) he;refine⟨E,h1,h2,λt ht=> ?_⟩;obtain⟨t',h4,h5⟩:=h3 t ht;exact⟨t',by unfold ON;simp only[hg,hq,aO2 t ht,if_pos e];exact h4,h5⟩
    ·rw[if_neg e]at he;simp only[ax]at he;subst he;exact⟨⟨.nil,λ_=>aH,[]⟩,App.Oh _ _ _,⟨λ_ _ h=>by simp at h,λ_ h=>by simp at h⟩,λt ht=>⟨_,by unfold ON;simp only[hg,hq,aO2 t ht,if_neg e],App.Oh _ _ _⟩⟩
   ·rename_i hb;have aO2:∀t,oG (iu Γ ops s o) s t->t.slot q= .nil:=λt ht=>by rw[ht.dg q (bR.2 (.inr (by unfold WK;simp only[hg,hq];simp)))];exact hb
    simp only[ax]at he;subst he;exact⟨⟨.nil,λ_=>aH,[]⟩,App.Oh _ _ _,⟨λ_ _ h=>by simp at h,λ_ h=>by simp at h⟩,λt ht=>⟨_,by unfold ON;simp only[hg,hq,aO2 t ht],App.Oh _ _ _⟩⟩
   ·cases he
  ·cases he
theorem ap0(h:oG (iu Γ ops s o) s t):writes Γ t o=writes Γ s o:=by
 have aO3:∀id∈writes Γ s o,t.cJ id=s.cJ id:=h.ws;unfold writes at aO3 ⊢;split
 ·rename_i x v dW;rw[h.ev (by rw[dW];simp[cT])]
 ·rename_i m k v dW;rw[h.ev (by rw[dW];simp[cT])]
 ·rename_i m dW;rw[h.ev (by rw[dW];simp[cT])]
 ·rename_i c dW;obtain⟨cal,args,tys⟩:=c;simp only[dW]at aO3;simp only;split
  ·split
   ·rename_i x l ha;rw[h.ev (by rw[dW];simp only[cT,Call.operands,aY,cY,ha];simp)]
   ·rfl
  ·split
   ·rename_i x l ha;rw[h.ev (by rw[dW];simp only[cT,Call.operands,aY,cY,ha];simp)]
   ·rfl
  ·split
   ·rename_i x l ha;rw[h.ev (by rw[dW];simp only[cT,Call.operands,aY,cY,ha];simp)]
   ·rfl
  ·rename_i F;simp only at aO3;have hm:∀z,z=F\/z∈args.toList->z∈o.op.operands.toList:=λz hz=>by
    rw[dW];simp only[cT,Call.operands,cY,bR];rcases hz with rfl | hz
    ·exact .inl (by simp)
    ·exact .inr hz
   have h1:t.ev F=s.ev F:=h.ev (hm F (.inl rfl));have h2:args.toList.map t.ev=args.toList.map s.ev:=iS λx hx=>h.ev (hm x (.inr hx))
   rw[h1];split
   ·rename_i f caps hF;simp only[hF]at aO3;rw[h2];split
    ·rename_i en aKj;simp only[aKj]at aO3;exact Aw _ _ _ λid dL=>by rw[aO3 id dL]
    ·rfl
   ·rfl
  ·rfl
 ·rfl
theorem ac8(h:oG (iu Γ ops s o) s t):iu Γ ops t o=iu Γ ops s o:=by
 have h1:=ap0 h;have h2:asW t o=asW s o:=by
  unfold asW;split
  ·rfl
  unfold List.flatMap;congr 1;exact iS λi hi=>by rw[h.dg i (bR.2 (.inl hi))]
 unfold iu;rw[h1,h2]
theorem Ak{xs ys:List Id}(h:meets xs ys=aZ){id:Id}(hx:id∈xs):id ∉ ys:=by
 intro hy;have:meets xs ys=bm:=by unfold meets;exact List.any_eq_true.2 ⟨id,hx,List.any_eq_true.2 ⟨id,hy,by simp⟩⟩
 rw[h]at this;cases this
theorem xK{d:Option Tmp}{ids:List Id}(h:agO d ids=aZ){q:Nat}(hd:d=av q)(j:Nat):Id.new q j ∉ ids:=by
 intro hy;have:agO d ids=bm:=by subst hd;exact List.any_eq_true.2 ⟨_,hy,by simp⟩
 rw[h]at this;cases this
theorem N9{f g:KJ}(h:f.aXk g=aZ){q:Nat}(hd:f.dst=av q):q ∉ g.dg/\g.dst≠av q:=by unfold KJ.aXk at h;rw[hd]at h;simp only[Bool.or_eq_false_iff,jY,bt,gA]at h;exact⟨λhx=>h.1 q hx rfl,h.2⟩
theorem au4(s:AS)(d:Option Tmp)(v:aN)(i:Nat)(h:d≠av i):(s.put d v).slot i=s.slot i:=by
 cases d with
 |none=>rfl
 |some q=>rw[agQ,if_neg];rintro⟨rfl,_⟩;exact h rfl
theorem App.slot{d:Option Tmp}{E:aWD}{s s':AS}(h:App d E s s')(i:Nat)(hi:d≠av i):s'.slot i=s.slot i:=by rw[<-au4 s d E.v i hi];simp only[AS.slot,h.dg]
theorem aqf{f f':KJ}{E:aWD}{s s1:AS}(ha:App f.dst E s s1)(hw:ama f s E)(awZ:∀id∈f'.ws,id∈f'.rs)(h1:f.aXk f'=aZ)(h2:meets f.ws f'.rs=aZ)(h3:meets f'.ws f.rs=aZ)
  (h4:agO f.dst f'.rs=aZ):(∀i∈f'.dg,s1.slot i=s.slot i)/\(∀id∈f'.ws,s1.cJ id=s.cJ id)/\(∀id∈f'.rs,ED (s1.cJ id) (s.cJ id))/\∀q,f'.dst=av q->s1.eQ q=s.eQ q:=by
 have ado:∀id∈f'.rs,E.up id=aH:=λid dL=>by
  cases hu:E.up id with
  |none=>rfl
  |some e=>
   rcases hw.up id e hu with⟨h,_⟩ | ⟨q,j,hd,rfl⟩
   ·exact absurd dL (Ak h2 h)
   ·exact absurd dL (xK h4 hd j)
 refine⟨λi hi=>ha.slot i λhd=>(N9 h1 hd).1 hi,λid dL=> ?_,λid dL=> ?_,λq hq=> ?_⟩
 ·rw[ha.cJ,ado id (awZ id dL)];have:id ∉ E.fz:=λhz=>Ak h3 dL (hw.fz id hz)
  simp only[if_neg this]
 ·rw[ha.cJ,ado id dL];simp only;split
  ·exact aG5 _
  ·exact aG6 _
 ·have jk:∀j,(s1.cJ (.new q j)=aH↔s.cJ (.new q j)=aH):=λj=>by
   rw[ha.cJ];cases hu:E.up (.new q j) with
   |none=>
    simp only;split <;> simp
   |some e=>
    rcases hw.up _ e hu with⟨_,h⟩ | ⟨q',j',hd,he⟩
    ·simp[h]
    ·simp only[Id.new.injEq]at he;obtain⟨rfl,_⟩:=he;exact absurd hq (N9 h1 hd).2
  rw[Bool.eq_iff_iff,Ez,Ez,ha.len];exact and_congr Iff.rfl (forall_congr' jk)
theorem Lo(s:AS)(o:Oper):∀id∈(iu Γ ops s o).ws,id∈(iu Γ ops s o).rs:=λ_ dL=>bR.2 (.inr dL)
theorem swap{o':Oper}{s1 s2:AS}(h1:ON P Γ cg ops o s=av s1)(h2:ON P Γ cg ops o' s1=av s2)(hi:(iu Γ ops s o).indep (iu Γ ops s1 o')=bm):
  ∃t1,ON P Γ cg ops o' s=av t1/\ON P Γ cg ops o t1=av s2/\iu Γ ops s o'=iu Γ ops s1 o'/\iu Γ ops t1 o=iu Γ ops s o:=by
 unfold KJ.indep at hi;simp only[aw,di]at hi;obtain⟨⟨⟨⟨⟨i1,i2⟩,i3⟩,i4⟩,i5⟩,i6⟩:=hi;obtain⟨E,a1,w1,l1⟩:=adh h1;obtain⟨E',a2,w2,l2⟩:=adh h2;obtain⟨g1,g2,g3,g4⟩:=aqf (f:=iu Γ ops s o) (f':=iu Γ ops s1 o') a1 w1 (Lo _ _) i1 i3 i4 i5;have Sf:oG (iu Γ ops s1 o') s1 s:=⟨λi hi=>(g1 i hi).symm,λid dL=>(g2 id dL).symm,λid dL=>by
  have:=g3 id dL
  revert this
  cases s1.cJ id <;> cases s.cJ id <;> simp only[ED] <;> intro h <;> first | trivial | exact h | skip
  rename_i a b;cases a <;> cases b <;> simp_all [eJ.avJ],λq hq=>(g4 q hq).symm⟩
 obtain⟨t1,k1,k2⟩:=l2 s Sf;have hf':=ac8 Sf;have w2':ama (iu Γ ops s1 o') s E':=⟨λid e hu=>by
  rcases w2.up id e hu with⟨h,hn⟩ | h
  ·exact .inl ⟨h,by rw[<-g2 id h];exact hn⟩
  ·exact .inr h,w2.fz⟩
 obtain⟨m1,m2,m3,m4⟩:=aqf (f:=iu Γ ops s1 o') (f':=iu Γ ops s o) k2 w2' (Lo _ _) i2 i4 i3 i6;have aW1:oG (iu Γ ops s o) s t1:=⟨m1,m2,m3,m4⟩;obtain⟨t2,k3,k4⟩:=l1 t1 aW1;refine⟨t1,k1,?_,hf',ac8 aW1⟩;rw[k3];congr 1;have aXF:∀id e,E.up id=av e->E'.up id=aH/\id ∉ E'.fz:=λid e hu=>by
  rcases w1.up id e hu with⟨h,hn⟩ | ⟨q,j,hd,rfl⟩
  ·refine⟨?_,λhz=>Ak i3 h (w2.fz id hz)⟩;cases hu':E'.up id with
   |none=>rfl
   |some e'=>
    rcases w2.up id e' hu' with⟨h',_⟩ | ⟨q,j,hd,rfl⟩
    ·exact absurd (Lo _ _ id h') (Ak i3 h)
    ·exact absurd (Lo _ _ _ h) (xK i6 hd j)
  ·refine⟨?_,λhz=>xK i5 hd j (w2.fz _ hz)⟩;cases hu':E'.up (.new q j) with
   |none=>rfl
   |some e'=>
    rcases w2.up _ e' hu' with⟨h',_⟩ | ⟨q',j',hd',he⟩
    ·exact absurd (Lo _ _ _ h') (xK i5 hd j)
    ·simp only[Id.new.injEq]at he;obtain⟨rfl,_⟩:=he;exact absurd hd' (N9 i1 hd).2
 have aZ2:∀id e,E'.up id=av e->E.up id=aH/\id ∉ E.fz:=λid e hu=>by
  have hn:E.up id=aH:=by
   cases bco:E.up id with
   |none=>rfl
   |some e1=>rw[(aXF id e1 bco).1]at hu;cases hu
  refine⟨hn,λhz=> ?_⟩;rcases w2.up id e hu with⟨h,_⟩ | ⟨q,j,hd,rfl⟩
  ·exact Ak i4 h (w1.fz id hz)
  ·exact xK i6 hd j (w1.fz _ hz)
 refine AS.aUo ?_ (by rw[k4.len,k2.len,a2.len,a1.len]) λid=> ?_
 ·have e1:∀(u u':AS) (d:Option Tmp) (v:aN),u.dg=u'.dg->(u.put d v).dg=(u'.put d v).dg:=λu u' d v h=>by cases d <;> simp[AS.put,h]
  rw[k4.dg,a2.dg,e1 t1 (s.put o'.dst E'.v) _ _ k2.dg,e1 s1 (s.put o.dst E.v) _ _ a1.dg];cases hd:o.dst with
  |none=>cases o'.dst <;> rfl
  |some q=>
   cases hd':o'.dst with
   |none=>rfl
   |some q'=>
    have jk:q'≠q:=λe=>(N9 (f:=iu Γ ops s o) i1 hd).2 (by show o'.dst=av q;rw[hd',e])
    simp only[AS.put];exact List.set_comm _ _ jk
 ·rw[k4.cJ,k2.cJ,a2.cJ,a1.cJ];cases hu:E.up id with
  |some e=>
   obtain⟨h3,h4⟩:=aXF id e hu;simp only[h3,if_neg h4]
  |none=>
   simp only;cases hu':E'.up id with
   |some e=>
    obtain⟨_,h4⟩:=aZ2 id e hu';simp only[if_neg h4]
   |none=>
    simp only;by_cases z1:id∈E.fz <;> by_cases z2:id∈E'.fz <;> simp only[if_pos,if_neg,z1,z2,qz]
end
end Go.Ab
namespace Go.Ab
section
variable {P:bj} {Γ:tg} {cg:List Nat} {ops:Array Oper}
def aqb(P:bj)(Γ:tg)(cg:List Nat)(ops:Array Oper)(fs:Nat->KJ):List Nat->AS->AS->Prop
 |[],s,sn=>s=sn
 |i::l,s,sn=>∃o,ops[i]? =av o/\iu Γ ops s o=fs i/\∃s',ON P Γ cg ops o s=av s'/\aqb P Γ cg ops fs l s' sn
theorem aqb.aIF{fs:Nat->KJ}{i:Nat}{l2:List Nat}{sn:AS}:∀(l1:List Nat) {s:AS},aqb P Γ cg ops fs (l1++i::l2) s sn->(∀j∈l1,(fs j).indep (fs i)=bm)->aqb P Γ cg ops fs (i::(l1++l2)) s sn
 |[],_,h,_=>h
 |j::l1,s,h,hi=>by
  obtain⟨oj,h1,h2,s1,h3,h4⟩:=h;obtain⟨oi,h5,h6,s2,h7,h8⟩:=aqb.aIF l1 h4 λj hj=>hi j (aP _ hj)
  have hd:=hi j (aU ..);rw[<-h2,<-h6]at hd;obtain⟨t1,k1,k2,k3,k4⟩:=swap h3 h7 hd;exact⟨oi,h5,by rw[k3,h6],t1,k1,oj,h1,by rw[k4,h2],s2,k2,h8⟩
theorem akc{R:Type}{anc:List Nat}{k:AS->Option R}{r:R}:∀(l:List Oper) (i:Nat) (acc:List (Nat×KJ)) (s:AS) (f0:Nat->KJ),(∀n o,l[n]? =av o->ops[i+n]? =av o)->(∀x∈acc,f0 x.1=x.2/\x.1 < i)->
  akb P Γ cg ops anc i l acc s k=av r->∃fs sn,(∀j,j < i->fs j=f0 j)/\aqb P Γ cg ops fs (List.range' i l.length) s sn/\k sn=av r/\
   (∀x∈acc,∀m,i<=m->m < i+l.length->(anc.getD m 0).testBit x.1=bm\/x.2.indep (fs m)=bm)/\(∀m1 m2,i<=m1->m1 < m2->m2 < i+l.length->(anc.getD m2 0).testBit m1=bm\/(fs m1).indep (fs m2)=bm)
 |[],i,acc,s,f0,_,_,h=>⟨f0,s,λ_ _=>rfl,rfl,h,λ_ _ m h1 h2=>by simp at h2;omega,λ_ _ h1 h2 h3=>by simp at h3;omega⟩
 |o::l,i,acc,s,f0,ho,hf,h=>by
  unfold akb at h;split at h
  ·rename_i Ag;simp only[AS.VE]at h;obtain⟨s',h1,h2⟩:=arS (k:=λs'=>akb P Γ cg ops anc (i+1) l ((i,iu Γ ops s o)::acc) s' k) h;have aZl:∀x∈(i,iu Γ ops s o)::acc,(if x.1=i then iu Γ ops s o else f0 x.1)=x.2/\x.1 < i+1:=λx hx=>by
    rcases cq.1 hx with rfl | hx
    ·simp
    ·obtain⟨q1,q2⟩:=hf x hx;rw[if_neg aq];exact⟨q1,aq⟩
   obtain⟨fs,sn,g1,g2,g3,g4,g5⟩:=akc l (i+1) ((i,iu Γ ops s o)::acc) s' (λn=>if n=i then iu Γ ops s o else f0 n)
    (λn o' hn=>by have:=ho (n+1) o' (by simpa using hn);rw[<-this];congr 1;omega) aZl h2
   have gi:fs i=iu Γ ops s o:=by rw[g1 i aq,if_pos rfl]
   refine⟨fs,sn,λj hj=>by rw[g1 j aq,if_neg aq],?_,g3,λx hx m h3 h4=> ?_,λm1 m2 h3 h4 h5=> ?_⟩
   ·rw[aF,List.range'_succ];exact⟨o,ho 0 o rfl,gi.symm,s',h1,g2⟩
   ·rcases Nat.eq_or_lt_of_le h3 with rfl | h3
    ·have:=dr.1 Ag x hx;simp only[iT]at this;rcases this with h | h
     ·exact .inl h
     ·right;rw[gi];exact h
    ·exact g4 x (aP _ hx) m aq (by simp only[aF]at h4;omega)
   ·rcases Nat.eq_or_lt_of_le h3 with rfl | h3
    ·rw[gi];exact g4 (i,iu Γ ops s o) (aU ..) m2 aq (by simp only[aF]at h5;omega)
    ·exact g5 m1 m2 aq h4 (by simp only[aF]at h5;omega)
  ·cases h
theorem aqj{acc:List Nat}{j:Nat}:∀ {l:List Edge},(l.foldr (λe m=>Nat.lor (Nat.lor (Nat.pow 2 e.on) (acc.getD e.on 0)) m) 0).testBit j=bm->∃e∈l,j=e.on\/(acc.getD e.on 0).testBit j=bm
 |[],h=>by simp at h
 |e::l,h=>by
  rw[List.foldr_cons,show ∀x y,Nat.lor x y=x ||| y from λ_ _=>rfl,show ∀x y,Nat.lor x y=x ||| y from λ_ _=>rfl,Nat.testBit_or,Nat.testBit_or,show Nat.pow 2 e.on=2^e.on from rfl,Nat.testBit_two_pow]at h;simp only[iT,bt]at h;rcases h with(h | h) | h
  ·exact⟨e,aU ..,.inl h.symm⟩
  ·exact⟨e,aU ..,.inr h⟩
  ·obtain⟨e',h1,h2⟩:=aqj h;exact⟨e',aP _ h1,h2⟩
theorem ajv:∀(l:List Oper) (acc:List Nat),(∀i,i < acc.length->(l.foldl (λacc o=>acc++ [amb acc o]) acc)[i]? =acc[i]?)/\
  ∀i o,l[i]? =av o->(l.foldl (λacc o=>acc++ [amb acc o]) acc)[acc.length+i]? =av (amb ((l.foldl (λacc o=>acc++ [amb acc o]) acc).take (acc.length+i)) o)
 |[],acc=>⟨λ_ _=>rfl,λi o h=>by simp at h⟩
 |x::l,acc=>by
  obtain⟨h1,h2⟩:=ajv l (acc++ [amb acc x]);simp only[bn];refine⟨λi hi=> ?_,λi o hi=> ?_⟩
  ·rw[h1 i (by simp;omega),fV hi]
  ·cases i with
   |zero=>
    simp only[gw,ax]at hi;subst hi;rw[cD,h1 _ (by simp)];have:(l.foldl (λacc o=>acc++ [amb acc o]) (acc++ [amb acc x])).take acc.length=acc:=by
     apply mE;intro j;rw[dY];split
     ·rename_i hj;rw[h1 j (by simp;omega),fV hj]
     ·rename_i hj;rw[eB aq]
    rw[this];simp
   |succ i=>
    have:=h2 i o (by simpa using hi);simp only[ak,aF,bp,aV]at this;rw[show acc.length+(i+1)=acc.length+1+i by omega];exact this
theorem aH6{l:List Oper}{i:Nat}{o:Oper}(hi:l[i]? =av o){j:Nat}(hj:((aqk l).getD i 0).testBit j=bm):∃e∈o.after.toList,Region.binds .any e=bm/\(j=e.on\/((aqk l).getD e.on 0).testBit j=bm):=by
 have h:=(ajv l []).2 i o hi;have e:aqk l=l.foldl (λacc o=>acc++ [amb acc o]) []:=rfl;rw[<-e]at h;simp only[bp,aV]at h;rw[bh,h]at hj;obtain⟨e,h1,h3⟩:=aqj hj;obtain⟨h1,h2⟩:=uj.1 h1;refine⟨e,h1,h2,h3.imp id λh4=> ?_⟩;rw[bh,dY]at h4;split at h4
 ·rw[bh];exact h4
 ·simp at h4
def al0(n:Nat)(listed:Array Bool):List Nat:=(List.range n).filter λi=> !listed.getD i bm
theorem TZ{n:Nat}{listed:Array Bool}{i:Nat}:i∈al0 n listed↔i < n/\listed.getD i bm=aZ:=by simp[al0]
theorem Sb(n:Nat)(listed:Array Bool):(al0 n listed).Pairwise (· < ·):=(List.pairwise_lt_range).filter _
theorem adg{listed:Array Bool}{i j:Nat}(d:Bool)(hi:i < listed.size):(listed.setIfInBounds i bm).getD j d=if j=i then bm else listed.getD j d:=by
 simp only[eD,fZ];by_cases h:i=j
 ·subst h;simp[hi]
 ·simp[h,Ne.symm h]
theorem aSL{listed:Array Bool}{i:Nat}(hi:i < listed.size){l1 l2:List Nat}(h:al0 listed.size listed=l1++i::l2):al0 listed.size (listed.setIfInBounds i bm)=l1++l2:=by
 have hs:=Sb listed.size listed;rw[h]at hs;obtain⟨p1,p2,p3⟩:=List.pairwise_append.1 hs;obtain⟨p4,_⟩:=lF.1 p2;have e:al0 listed.size (listed.setIfInBounds i bm)=(al0 listed.size listed).filter λj=>decide (j≠i):=by
  unfold al0;rw[List.filter_filter];refine List.filter_congr λj _=> ?_
  rw[adg bm hi];by_cases hj:j=i
  ·simp[hj]
  ·simp[hj]
 rw[e,h,List.filter_append,List.filter_cons];have f1:l1.filter (λj=>decide (j≠i))=l1:=kh.2 λj hj=>by have:=p3 j hj i (aU ..);simp;omega
 have f2:l2.filter (λj=>decide (j≠i))=l2:=kh.2 λj hj=>by have:=p4 j hj;simp;omega
 rw[f1,f2];simp
theorem aCG{rd:Option Nat}{n:Nat}{C:Ctx}(hΓ:Sound P Γ){fs:Nat->KJ}{sn:AS}{Q:Exit->Act->cO->Prop}(hE:am2 ops.toList=bm)
  (aZB:∀m1 m2,m1 < m2->m2 < ops.size->((aqk ops.toList).getD m2 0).testBit m1=bm\/(fs m1).indep (fs m2)=bm) (hQ:∀a w,ka C sn a w->Q .normal a w):
  ∀(fuel:Nat) (listed:Array Bool) (s:AS) (a:Act) (w:cO),listed.size=ops.size->(al0 ops.size listed).length=fuel->
   (∀i,i < ops.size->listed.getD i bm=bm->∀j,((aqk ops.toList).getD i 0).testBit j=bm->listed.getD j aZ=bm)->aqb P Γ cg ops fs (al0 ops.size listed) s sn->ka C s a w->wpAnyIn (Fr rd) n P .any ops Q fuel listed a w:=by
 have aTh:∀i o,ops[i]? =av o->∀e∈o.after.toList,Region.binds .any e=bm->e.on < i:=λi o hi e he hb=>by have:=dr.1 hE (o,i) (List.mem_zipIdx_iff_getElem?.2 (by simpa using hi));have:=dr.1 this e he;simpa[hb]using this
 have aUV:∀(listed:Array Bool),listed.size=ops.size->∀i,i∈Region.ready .any ops listed↔i∈al0 ops.size listed/\∀o,ops[i]? =av o->∀e∈o.after.toList,Region.binds .any e=bm->listed.getD e.on aZ=bm:=λlisted _ i=>by
  rw[TZ];unfold Region.ready;simp only[uj,List.mem_range,aw,di];constructor
  ·rintro⟨h1,h2,h3⟩;refine⟨⟨h1,h2⟩,λo ho e he hb=> ?_⟩;rw[ho]at h3;simp only[eN,ed,Array.all_eq_true',iT,di]at h3;rcases h3 e (by simpa using he) with h | h
   ·rw[hb]at h;cases h
   ·exact h
  ·rintro⟨⟨h1,h2⟩,h3⟩;refine⟨h1,h2,?_⟩;obtain⟨o,ho⟩:∃o,ops[i]? =av o:=⟨ops[i],by simp[h1]⟩
   rw[ho];simp only[eN,ed,Array.all_eq_true',iT,di];intro e he;cases hb:Region.binds .any e with
   |false=>exact .inl rfl
   |true=>exact .inr (h3 o ho e (by simpa using he) hb)
 have w6:∀(listed:Array Bool),listed.size=ops.size->Region.ready .any ops listed=[]->al0 ops.size listed=[]:=λlisted hs hr=>by
  cases hu:al0 ops.size listed with
  |nil=>rfl
  |cons i l=>
   exfalso;have hi:i∈al0 ops.size listed:=by rw[hu];exact aU ..
   have aXD:=Sb ops.size listed;rw[hu]at aXD;have:i∈Region.ready .any ops listed:=(aUV listed hs i).2 ⟨hi,λo ho e he hb=>by
    have fF:=aTh i o ho e he hb;have arY:=(TZ.1 hi).1;cases hl:listed.getD e.on bm with
    |false=>
     have hm:e.on∈al0 ops.size listed:=TZ.2 ⟨aq,hl⟩;rw[hu]at hm;rcases cq.1 hm with h | h
     ·omega
     ·have:=(lF.1 aXD).1 _ h;omega
    |true=>
     have:e.on < listed.size:=aq;simp only[eD,fU this,ed]at hl ⊢;exact hl⟩
   rw[hr]at this;cases this
 intro fuel
 induction fuel with
 |zero=>
  intro listed s a w hs hl _ hr xZ;have hn:al0 ops.size listed=[]:=bJ hl;refine⟨?_,?_⟩
  ·cases aWm:Region.ready .any ops listed with
   |nil=>rfl
   |cons i l=>
    have:i∈Region.ready .any ops listed:=by rw[aWm];exact aU ..
    have:=((aUV listed hs i).1 this).1;rw[hn]at this;cases this
  ·rw[hn]at hr;have:s=sn:=hr;subst this;exact hQ a w xZ
 |succ fuel ih=>
  intro listed s a w hs hl aHP hr xZ;refine⟨λaWm=> ?_,λi hi=> ?_⟩
  ·have:=w6 listed hs aWm;rw[this]at hl;simp at hl
  ·obtain⟨hu,aW9⟩:=(aUV listed hs i).1 hi;obtain⟨arY,bc8⟩:=TZ.1 hu;obtain⟨o,ho⟩:∃o,ops[i]? =av o:=⟨ops[i],by simp[arY]⟩
   obtain⟨l1,l2,aEi⟩:=List.append_of_mem hu;have aXD:=Sb ops.size listed;rw[aEi]at aXD;have aW2:∀j,((aqk ops.toList).getD i 0).testBit j=bm->listed.getD j aZ=bm:=λj hj=>by
    obtain⟨e,he,hb,h | h⟩:=aH6 (by simpa using ho) hj
    ·rw[h];exact aW9 o ho e he hb
    ·have h1:=aW9 o ho e he hb;have h2:=aTh i o ho e he hb;refine aHP e.on aq ?_ j h
     have:e.on < listed.size:=aq;simp only[eD,fU this,ed]at h1 ⊢;exact h1
   rw[aEi]at hr;have hb:=aqb.aIF l1 hr λj hj=>by
    have fF:j < i:=(List.pairwise_append.1 aXD).2.2 j hj i (aU ..);rcases aZB j i fF arY with h | h
    ·have h1:=aW2 j h;have bb3:j∈al0 ops.size listed:=by rw[aEi];exact bR.2 (.inl hj)
     have h2:=(TZ.1 bb3).2;have:j < listed.size:=aq;simp only[eD,fU this,ed]at h1 h2;rw[h1]at h2;cases h2
    ·exact h
   obtain⟨o',ho',hf,s',hg,sr⟩:=hb;obtain rfl:o=o':=by rw[ho]at ho';simpa using ho'
   have anq:al0 ops.size (listed.setIfInBounds i bm)=l1++l2:=by rw[<-hs]at aEi ⊢;exact aSL aq aEi
   refine((aka hΓ xZ hg).mono λa' w' hst'=>ih (listed.setIfInBounds i bm) s' a' w' (by simpa using hs) ?_ ?_ (by rw[anq];exact sr) hst').wpOpIn ho
   ·rw[anq];rw[aEi]at hl;simp only[ak,aF]at hl ⊢;omega
   ·intro m hm aYF j hj;rw[adg aZ aq];split
    ·rfl
    ·rw[adg bm aq]at aYF;split at aYF
     ·rename_i bb9;subst bb9;exact aW2 j hj
     ·exact aHP m hm aYF j hj
theorem aum{rd:Option Nat}{n:Nat}{C:Ctx}(hm:P.follows .mixedOrders=bm)(hΓ:Sound P Γ){id:Nat}{R:Type}{Q:Exit->Act->cO->Prop}{s:AS}{a:Act}{w:cO}{k:AS->Option R}{r:R}(h:ka C s a w)(hE:am2 ops.toList=bm)
  (he:akb P Γ cg ops (aqk ops.toList) 0 ops.toList [] s k=av r) (hk:∀s' a' w',ka C s' a' w'->k s'=av r->Q .normal a' w'):(Code.region id ops bm).wpIn (Fr rd) n P Q a w:=by
 obtain⟨fs,sn,_,g2,g3,_,g5⟩:=akc ops.toList 0 [] s (λ_=>⟨aH,[],[],[]⟩) (λn o hn=>by simpa using hn) (λ_ hx=>by cases hx) he;refine wpIn_region_any hm ?_
 obtain⟨g,β,h⟩:=h;have hu:al0 ops.size (Array.replicate ops.size aZ)=List.range' 0 ops.toList.length:=by
  unfold al0;rw[kh.2]
  ·simp[List.range_eq_range']
  ·intro i hi;have hi:i < ops.size:=by simpa using hi
   simp[eD,hi]
 refine aCG (cg:=cg) hΓ hE (fs:=fs) (sn:=sn) (λm1 m2 h1 h2=>g5 m1 m2 (aL _) h1 (by simpa using h2)) (λa' w' hs=>hk sn a' w' hs g3) ops.size _ s a _ (by simp) (by rw[hu];simp) (λi hi hl=> ?_) (by rw[hu];exact g2) ⟨g,β,h.drew⟩;simp[eD,hi]at hl
end
end Go.Ab
namespace Go.Ab
theorem Ej{ρ:Ren}{s:AS}(h:∀id,(s.obj id).isSome=bm->∀ver,ρ id ver=av (id,ver)):∀(v:aN),v.there s=bm->v.l7 ρ=v
 | .ptr id ver p n,ht=>by simp only[aN.l7];rw[h id ht]
 | .bU id ver p c i len,ht=>by simp only[aN.l7];rw[h id ht]
 | .pr a b,ht=>by simp only[aN.there,aw]at ht;simp only[aN.l7];rw[Ej h a ht.1,Ej h b ht.2]
 | .cons a b,ht=>by simp only[aN.there,aw]at ht;simp only[aN.l7];rw[Ej h a ht.1,Ej h b ht.2]
 | .fn f c,ht=>by simp only[aN.l7];rw[Ej h c ht]
 | .bx e z c,ht=>by simp only[aN.l7];rw[Ej h c ht]
 | .c7 id ver,ht=>by simp only[aN.l7];rw[h id ht]
 | .tP ..,ht=>by cases ht
 | .undef,_ | .gone,_ | .dJ,_ | .jW,_ | .AV,_ | .HB,_ | .d _ _,_ | .dz _ _,_ | .nil,_ | .vec ..,_ | .mp ..,_=>rfl
theorem aTU.bg{E E':Env}(hm:wH E E')(hh:∀b:Nat,E'.w.heap[b]? =E.w.heap[b]?){i q:Id}{ver:Nat}{kt vt:Ty}{rest:List (kt.den×vt.den)}{cur:Option (kt.den×vt.den)}(h:aTU E i q ver kt vt rest cur)(hβ:E'.β i=E.β i)
  (hg:∀pl,E.β i=av pl->E.g pl.b= .own (.id i) 0->E'.g pl.b= .own (.id i) 0)
  (hq:∀vr,ver=vr+1->(E.KE q vr->E'.KE q vr/\(E'.cur q vr->E.cur q vr/\E'.β q=E.β q))/\(∀k v l,E.s q=av (.obj vr bm (.mp k v l))->E'.s q=av (.obj vr bm (.mp k v l)))/\
   ∀pl,E.β q=av pl->E.g pl.b= .own (.id q) 0->E'.g pl.b= .own (.id q) 0):aTU E' i q ver kt vt rest cur:=by
 obtain⟨pl,mb,since,seen,c0,h1,h2,h3,h4⟩:=h;refine⟨pl,mb,since,seen,c0,by rw[hβ,h1],by rw[hh,h2],hg pl h1 h3,λvr avE=> ?_⟩;obtain⟨h5,h6⟩:=h4 vr avE;obtain⟨q1,q2,q3⟩:=hq vr avE;obtain⟨b1,b2⟩:=q1 h5;refine⟨b1,λhc=> ?_⟩;obtain⟨c1,c2⟩:=b2 hc;obtain⟨⟨k,v,l,k0⟩,plq,es,clock,k1,k2,k3,k4,k5,k6,k7,k8,k9⟩:=h6 c1;exact⟨⟨k,v,l,q2 _ _ _ k0⟩,plq,es,clock,by rw[c2,k1],k2,by rw[hh,k3],q3 _ k1 k4,k5,k6,k7,k8.mono hm,λx hx=>
  let⟨e,se,a1,a2,a3,a4⟩:=k9 x hx
  ⟨e,se,a1,a2,a3,a4.mono hm⟩⟩
theorem axb(c:aN):(∃q ver k v l cu,c= .tP q ver k v l cu)\/(∀ρ kp,c.aGE ρ kp=c.l7 ρ)/\∀s v fr,eJ.there s (.obj v fr c)=c.there s:=by cases c <;> first | exact .inl ⟨_,_,_,_,_,_,rfl⟩ | exact .inr ⟨λ_ _=>rfl,λ_ _ _=>rfl⟩
section
variable {P:bj} {C:Ctx} {g:Nat->qs} {β:Id->Option Pl} {s:AS} {a:Act} {w:cO}
theorem Inv.alp(h:Inv C g β s a w)(hC:C.ok){s1:AS}{g1:Nat->qs}{β1:Id->Option Pl}(ρ:Ren)(hlen:s1.dg.length=s.dg.length)(ht:Trans w w g g1)(hle:He ρ (s.env w g β) (s1.env w g1 β1))
  (adn:∀i,VS (s1.env w g1 β1) (s1.slot i) (a.tmps.getD i undef))
  (dQ:∀id ver fr c,s1.cJ id=av (.obj ver fr c)->Dc (s1.env w g1 β1) id fr c\/∃id0 v0 c0,s.cJ id0=av (.obj v0 fr c0)/\c0.l7 ρ=c/\β1 id=β id0/\∀pl,β id0=av pl->(∀k,g pl.b= .own (.id id0) k->g1 pl.b= .own (.id id) k)/\(g pl.b= .free->g1 pl.b= .free))
  (hold:∀k,(s.cJ (.bP k)≠aH->s1.cJ (.bP k)≠aH)/\(∀v fr c,s1.cJ (.bP k)=av (.obj v fr c)->∃c0,s.cJ (.bP k)=av (.obj v fr c0))/\β1 (.bP k)=β (.bP k)):Inv C g1 β1 s1 a w:=by
 refine⟨h.defers.mono ht,by rw[hlen];exact h.size,adn,λid ver fr c dL=> ?_,h.trans.trans ht,?_⟩
 ·rcases dQ id ver fr c dL with ho | ⟨id0,v0,c0,h1,h2,h3,h4⟩
  ·exact ho
  have:=zZ hle (h.cg id0 v0 fr c0 h1) (id':=id) h3 λpl hp=>⟨rfl,(h4 pl hp).1,(h4 pl hp).2⟩
  rw[h2]at this;exact this
 ·have hl:=h.le;have ho:∀id ver,C.E.KE id ver->∃k,id= .bP k:=λid ver hb=>by
   cases id with
   |bP k=>exact⟨k,rfl⟩
   |new i j=>exact absurd (hC.1 i j) hb.1
  refine⟨hl.mem.trans (Trans.mem (E:=s.env w g β) (E':=s1.env w g1 β1) ht),λid ver hb=> ?_,λid ver hb hc=> ?_⟩
  ·obtain⟨k,rfl⟩:=ho id ver hb;obtain⟨h1,h2⟩:=hl.KE _ ver hb;obtain⟨e1,e2,_⟩:=hold k;exact⟨e1 h1,λv fr c hh=>let⟨c0,abE⟩:=e2 v fr c hh;h2 v fr c0 abE⟩
  ·obtain⟨k,rfl⟩:=ho id ver hb;obtain⟨fr,c,hc⟩:=hc;obtain⟨_,e2,e3⟩:=hold k;obtain⟨c0,abE⟩:=e2 _ _ _ hc;obtain⟨h1,h2⟩:=hl.cur _ ver hb ⟨fr,c0,abE⟩;exact⟨h1,e3.trans h2⟩
theorem Inv.renamed(h:Inv C g β s a w)(hC:C.ok){s1:AS}{β1:Id->Option Pl}(ρ:Ren)(hlen:s1.dg.length=s.dg.length)(hle:He ρ (s.env w g β) (s1.env w g β1))
  (adn:∀i,VS (s1.env w g β1) (s1.slot i) (a.tmps.getD i undef)) (dQ:∀id ver fr c,s1.cJ id=av (.obj ver fr c)->Dc (s1.env w g β1) id fr c\/∃v0,s.cJ id=av (.obj v0 fr c)/\c.l7 ρ=c/\β1 id=β id)
  (hold:∀k,s1.cJ (.bP k)=s.cJ (.bP k)/\β1 (.bP k)=β (.bP k)):Inv C g β1 s1 a w:=
 h.alp hC ρ hlen (Trans.refl w g) hle adn (λid ver fr c dL=>(dQ id ver fr c dL).imp (λh=>h) λ⟨v0,h1,h2,h3⟩=>⟨id,v0,c,h1,h2,h3,λ_ _=>⟨λ_ h=>h,λh=>h⟩⟩)
  λk=>⟨λhh=>by rw[(hold k).1];exact hh,λv fr c hh=>⟨c,(hold k).1.symm.trans hh⟩,(hold k).2⟩
theorem Inv.aWz(h:Inv C g β s a w)(j:Nat){v:aN}(hv:VS (s.env w g β) v (a.tmps.getD j undef)):Inv C g β (s.put (av j) v) a w:=by
 refine⟨h.defers,by simpa[AS.put]using h.size,λi=> ?_,by simpa using h.cg,h.trans,by simpa using h.le⟩;rw[aAZ,agQ];split
 ·rename_i aYD;rw[aYD.1];exact hv
 ·exact h.dg i
theorem X6(bg:List Nat):∀(l:List aN) (n i:Nat),(lk bg n l).getD i .undef= .undef\/(lk bg n l).getD i .undef=l.getD i .undef
 |[],n,i=>by simp[lk]
 |v::l,n,0=>by
  simp only[lk,nU];split
  ·exact .inr rfl
  ·exact .inl rfl
 |v::l,n,i+1=>by simp only[lk,tm];exact X6 bg l (n+1) i
theorem Gi(bg:List Nat):∀(l:List aN) (n:Nat),(lk bg n l).length=l.length
 |[],n=>rfl
 |v::l,n=>by simp[lk,Gi bg l]
theorem alO(bg:List Nat):∀(l:List (List eJ)) (n i:Nat),(qe bg n l).getD i []=[]\/(qe bg n l).getD i []=l.getD i []
 |[],n,i=>by simp[qe]
 |v::l,n,0=>by
  simp only[qe,nU];split
  ·exact .inr rfl
  ·exact .inl rfl
 |v::l,n,i+1=>by simp only[qe,tm];exact alO bg l (n+1) i
theorem aEO{s:AS}(i:Nat):s.slot i= .undef\/s.slot i∈s.dg:=by
 unfold AS.slot;rw[bh];cases h:s.dg[i]? with
 |none=>exact .inl rfl
 |some v=>exact .inr (dC h)
theorem aP0{s:AS}{id:Id}{e:eJ}(h:s.cJ id=av e):e∈s.dh\/∃es∈s.news,e∈es:=by
 cases id with
 |bP k=>exact .inl (dC h)
 |new i j=>
  simp only[AS.cJ,bh]at h;cases hi:s.news[i]? with
  |none=>rw[hi]at h;simp at h
  |some es=>rw[hi]at h;exact .inr ⟨es,dC hi,dC h⟩
theorem Inv.bg(h:Inv C g β s a w)(hC:C.ok){an:qt}(ht:(TR an s).aqg=bm):Inv C g β (TR an s) a w:=by
 obtain⟨ks,kt,_,_,_⟩:=an;obtain⟨s1,akf⟩:∃s1:AS,s1= {dg:=lk ks 0 s.dg,dh:=s.dh,news:=qe kt 0 s.news}:=⟨_,rfl⟩;have e1:s1.dg=lk ks 0 s.dg:=by rw[akf]
 have e2:s1.dh=s.dh:=by rw[akf]
 have e3:s1.news=qe kt 0 s.news:=by rw[akf]
 have ht:(s1.dg.all (aN.there s1) && s1.dh.all (eJ.there s1) && s1.news.all λes=>es.all (eJ.there s1))=bm:=by rw[akf];exact ht
 show Inv C g β {dg:=lk ks 0 s.dg,dh:=s.dh,news:=qe kt 0 s.news} a w;rw[<-akf];rw[aw,aw]at ht;obtain⟨⟨t1,t2⟩,t3⟩:=ht;have dQ:∀id,s1.cJ id=aH\/s1.cJ id=s.cJ id:=λid=>by
  cases id with
  |bP k=>right;simp only[AS.cJ,e2]
  |new i j=>
   simp only[AS.cJ,e3];rcases alO kt s.news 0 i with h | h
   ·rw[h];exact .inl rfl
   ·rw[h];exact .inr rfl
 have aQs:∀id,(s1.obj id).isSome=bm->s1.cJ id=s.cJ id:=λid hi=>by
  rcases dQ id with h | h
  ·simp[AS.obj,h]at hi
  ·exact h
 let ρ:Ren:=λid ver=>if(s1.obj id).isSome=bm then av (id,ver) else aH
 have hρ:∀v:aN,v.there s1=bm->v.l7 ρ=v:=Ej λid dL ver=>if_pos dL
 have hle:He ρ (s.env w g β) (s1.env w g β):=by
  refine⟨⟨λ_ _ _ h=>h,λ_ _ h h'=>⟨h,h'⟩⟩,λid ver r hr hb=> ?_⟩;by_cases hi:(s1.obj id).isSome=bm
  ·have:ρ id ver=av (id,ver):=if_pos hi;rw[this,ax]at hr;subst hr;have e:=aQs id hi;obtain⟨b1,b2⟩:=hb;exact⟨⟨by show s1.cJ id≠aH;rw[e];exact b1,λv fr c hh=>b2 v fr c (e.symm.trans hh)⟩,λ⟨fr,c,hc⟩=>⟨⟨fr,c,e.symm.trans hc⟩,rfl⟩⟩
  ·have:ρ id ver=aH:=if_neg hi;rw[this]at hr;cases hr
 refine h.renamed hC ρ (by rw[e1,Gi]) hle (λi=> ?_) (λid ver fr c dL=> ?_) λk=>⟨by simp only[AS.cJ,e2],rfl⟩
 ·rcases aEO (s:=s1) i with hi | hi
  ·rw[hi];exact VS.undef
  ·have aWp:=dr.1 t1 _ hi;rcases X6 ks s.dg 0 i with h1 | h1
   ·have:s1.slot i= .undef:=by simp only[AS.slot,e1,h1]
    rw[this];exact VS.undef
   ·have:s1.slot i=s.slot i:=by simp only[AS.slot,e1,h1]
    have hv:=Wj hle (h.dg i);rw[<-this,hρ _ aWp]at hv;exact hv
 ·have:s1.cJ id=s.cJ id:=by
   rcases dQ id with h | h
   ·rw[h]at dL;cases dL
   ·exact h
  have hc:eJ.there s1 (.obj ver fr c)=bm:=by
   rcases aP0 dL with h | ⟨es,h1,h2⟩
   ·exact dr.1 t2 _ h
   ·exact dr.1 (dr.1 t3 _ h1) _ h2
  rcases axb c with⟨q,vq,k,v,l,cu,rfl⟩ | ⟨_,aWp⟩
  ·have e:=aQs q hc;refine .inl (aTU.bg hle.mem (λ_=>rfl) (h.cg id ver fr _ (this.symm.trans dL)) rfl (λ_ _ h=>h) λvr _=>⟨λhb=>hle.ref q vr (q,vr) (if_pos hc) hb,λk v l hk=>e.trans hk,λ_ _ h=>h⟩)
  ·rw[aWp]at hc;exact .inr ⟨ver,this.symm.trans dL,hρ c hc,rfl⟩
theorem Inv.drop(h:Inv C g β s a w)(ks:List Nat):Inv C g β (s.drop ks) a w:=by
 refine⟨h.defers,by simpa[AS.drop,Gi]using h.size,λi=> ?_,h.cg,h.trans,h.le⟩;rcases X6 ks s.dg 0 i with h1 | h1
 ·have:(s.drop ks).slot i= .undef:=h1;rw[this];exact VS.undef
 ·have:(s.drop ks).slot i=s.slot i:=h1;rw[this];exact h.dg i
def Jw(b q:Nat):qs->qs
 | .own (.id (.new x j)) k=>if x=b then .own (.id (.new q j)) k else .own (.id (.new x j)) k
 |l=>l
theorem Trans.aX6(w:cO)(g:Nat->qs)(b q:Nat):Trans w w g λx=>Jw b q (g x):=by
 refine⟨rfl,rfl,⟨rfl,az _⟩,az _,λy _=> ?_⟩;cases hg:g y with
 |free=>exact⟨by simp[Jw],rfl⟩
 |own o k=>cases o with
  |gf=>exact⟨by simp[Jw],rfl⟩
  |id x=>
   refine⟨.inr ?_,λ_ _ _ h=>h⟩;cases x with
   |bP m=>exact⟨_,_,rfl,az _⟩
   |new x j=>
    simp only[Jw];split
    ·exact⟨_,_,rfl,az _⟩
    ·exact⟨_,_,rfl,az _⟩
theorem au3(f:aN->aN)(hf:f .undef= .undef)(l:List aN)(i:Nat):(l.map f).getD i .undef=f (l.getD i .undef):=by simp only[bh,gS];cases l[i]? <;> simp[hf]
theorem Inv.M5(h:Inv C g β s a w)(hC:C.ok){b q:Nat}(aUF:b < s.news.length)(bci:q < s.news.length):
  ∃g1 β1,Inv C g1 β1 (s.M5 b q (s.news.getD b [])) a w:=by
 generalize bbU:s.news.getD b []=es;have aXd:∀j,s.cJ (.new b j)=es[j]? :=λj=>by rw[<-bbU];rfl
 let ρ:Ren:=Ve es b q
 let s1:=s.M5 b q es
 have vU:∀j',s1.cJ (.new q j')=(es[j']?).map (eJ.aRV ρ):=λj'=>by simp[s1,AS.M5,AS.cJ,bh,bci,ρ]
 have aXi:b≠q->∀j',s1.cJ (.new b j')=aH:=λaUG j'=>by
  have hbq':¬q=b:=λe=>aUG e.symm
  simp only[s1,AS.M5,AS.cJ,bh];rw[fy hbq',List.getElem?_set,if_pos rfl];split <;> simp
 have anp:∀i,(∀j',i≠ .new q j')->(∀j',i≠ .new b j')->s1.cJ i=(s.cJ i).map (eJ.aiV ρ (Oi b q)):=λi hi hi'=>by
  cases i with
  |bP k=>simp[s1,AS.M5,AS.cJ,ρ]
  |new x y=>
   have h1:¬q=x:=λe=>hi y (by rw[e])
   have h2:¬b=x:=λe=>hi' y (by rw[e])
   simp only[s1,AS.M5,AS.cJ,bh];rw[fy h1,fy h2,gS];cases s.news[x]? <;> simp[ρ]
 let g1:Nat->qs:=λx=>Jw b q (g x)
 let β1:Id->Option Pl:=λi=>match i with | .new x j=>if x=q then β (.new b j) else β (.new x j) | .bP k=>β (.bP k)
 have hβ1:∀i,(∀j',i≠ .new q j')->β1 i=β i:=λi hi=>by
  cases i with
  |bP k=>rfl
  |new x y=>exact if_neg λe=>hi y (by rw[e])
 have ht:Trans w w g g1:=Trans.aX6 w g _ _;have hρ:∀i ver r,ρ i ver=av r->(∃j fr c,i= .new b j/\es[j]? =av (.obj ver fr c)/\r=(.new q j,0))\/((∀j',i≠ .new q j')/\(∀j',i≠ .new b j')/\r=(i,ver)):=λi ver r hr=>by
  replace hr:Ve es b q i ver=av r:=hr
  cases i with
  |bP k=>exact .inr ⟨λ_=>by simp,λ_=>by simp,(bf hr).symm⟩
  |new x j=>
   unfold Ve at hr;simp only at hr;split at hr
   ·rename_i hx;have hx:x=b:=by simpa using hx
    subst hx;split at hr
    ·rename_i v fr c he;split at hr
     ·rename_i hv;have hv:ver=v:=by simpa using hv
      subst hv;exact .inl ⟨j,fr,c,rfl,he,(bf hr).symm⟩
     ·cases hr
    ·cases hr
   ·rename_i hx;have hx:¬x=b:=by simpa using hx
    split at hr
    ·cases hr
    ·rename_i hx';have hx':¬x=q:=by simpa using hx'
     exact .inr ⟨λ_ e=>hx' (by injection e),λ_ e=>hx (by injection e),(bf hr).symm⟩
 have hle:He ρ (s.env w g β) (s1.env w g1 β1):=by
  refine⟨Trans.mem (E:=s.env w g β) (E':=s1.env w g1 β1) ht,λi ver r hr aEd=> ?_⟩;rcases hρ i ver r hr with⟨j,fr,c,rfl,he,rfl⟩ | ⟨hi,hi',rfl⟩
  ·refine⟨⟨by show s1.cJ (.new q j)≠aH;rw[vU,he];simp,λ_ _ _ _=>aL _⟩,λ_=>⟨⟨fr,c,(aXd j).trans he⟩,if_pos rfl⟩⟩
  ·obtain⟨k1,k2⟩:=aEd;have k1:s.cJ i≠aH:=k1;have e:s1.cJ i=(s.cJ i).map (eJ.aiV ρ (Oi b q)):=anp i hi hi';have back:∀v' fr' c',s1.cJ i=av (.obj v' fr' c')->∃c0,s.cJ i=av (.obj v' fr' c0):=λv' fr' c' hh=>by
    rw[e]at hh;cases hs:s.cJ i with
    |none=>exact absurd hs k1
    |some en=>
     rw[hs]at hh;cases en with
     |dead=>simp[eJ.aiV]at hh
     |obj v0 fr0 c0=>
      simp only[eN,eJ.aiV,ax,eJ.obj.injEq]at hh;obtain⟨rfl,rfl,_⟩:=hh;exact⟨c0,rfl⟩
   refine⟨⟨by
    show s1.cJ i≠aH;rw[e];cases hs:s.cJ i with
    |none=>exact absurd hs k1
    |some en=>simp,λv' fr' c' hh=> ?_⟩,λ⟨fr',c',hh⟩=> ?_⟩
   ·obtain⟨c0,abE⟩:=back v' fr' c' hh;exact k2 v' fr' c0 abE
   ·obtain⟨c0,abE⟩:=back ver fr' c' hh;exact⟨⟨fr',c0,abE⟩,hβ1 i hi⟩
 have aYB:∀(i:Id),(∀j',i≠ .new b j')->∀(x:Nat) (k:Nat),g x= .own (.id i) k->g1 x= .own (.id i) k:=λi hi x k hk=>by
  show Jw b q (g x)=_;rw[hk];cases i with
  |bP m=>rfl
  |new y j=>exact if_neg λe=>hi j (by rw[e])
 refine⟨g1,β1,h.alp hC ρ (by simp[AS.M5]) ht hle (λi=> ?_) (λid ver fr' c' dL=> ?_) λk=>⟨λhk=> ?_,λv' fr' c' hh=> ?_,rfl⟩⟩
 ·have:(s.M5 b q es).slot i=(s.slot i).l7 ρ:=au3 _ rfl _ _;rw[this];exact Wj hle (h.dg i)
 ·have dL:s1.cJ id=av (.obj ver fr' c'):=dL;by_cases hi:∃j',id= .new q j'
  ·obtain⟨j',rfl⟩:=hi;rw[vU]at dL;cases he:es[j']? with
   |none=>rw[he]at dL;cases dL
   |some en=>
    rw[he]at dL;cases en with
    |dead=>simp[eJ.aRV]at dL
    |obj v0 fr0 c0=>
     simp only[eN,eJ.aRV,ax,eJ.obj.injEq]at dL;obtain⟨_,rfl,rfl⟩:=dL;exact .inr ⟨.new b j',v0,c0,(aXd j').trans he,rfl,if_pos rfl,λpl hp=>⟨λk hk=>by
      show Jw b q (g pl.b)=_;rw[hk];exact if_pos rfl,λhk=>by
      show Jw b q (g pl.b)=_;rw[hk];rfl⟩⟩
  ·by_cases hi':∃j',id= .new b j'
   ·obtain⟨j',rfl⟩:=hi';have aUG:b≠q:=λe=>hi ⟨j',by rw[e]⟩
    rw[aXi aUG]at dL;cases dL
   ·have aYG:∀j',id≠ .new q j':=λj' e=>hi ⟨j',e⟩
    have hni':∀j',id≠ .new b j':=λj' e=>hi' ⟨j',e⟩
    have e:=anp id aYG hni';rw[e]at dL;cases hs:s.cJ id with
    |none=>rw[hs]at dL;cases dL
    |some en=>
     rw[hs]at dL;cases en with
     |dead=>simp[eJ.aiV]at dL
     |obj v0 fr0 c0=>
      simp only[eN,eJ.aiV,ax,eJ.obj.injEq]at dL;obtain⟨rfl,rfl,rfl⟩:=dL;rcases axb c0 with⟨q2,vq,k,v2,l,cu,rfl⟩ | ⟨aUW,_⟩
      ·have h0:=h.cg id v0 fr0 _ hs;left;simp only[aN.aGE];cases aYE:Oi b q q2 with
       |true=>
        have aWh:(∀j',q2≠ .new b j')/\(∀j',q2≠ .new q j')/\∀vr,ρ q2 vr=av (q2,vr):=by
         cases q2 with
         |bP k=>exact⟨λ_=>by simp,λ_=>by simp,λ_=>rfl⟩
         |new x y=>
          simp only[Oi,aw,di,gA]at aYE;obtain⟨k1,k2⟩:=aYE;refine⟨λ_ e=>k1 (by injection e),λ_ e=>k2 (by injection e),λvr=> ?_⟩;show Ve es b q (.new x y) vr=_;unfold Ve;simp only[hJ k1,hJ k2]
        obtain⟨aWh,avC,hρq⟩:=aWh;refine aTU.bg hle.mem (λ_=>rfl) h0 (hβ1 id aYG) (λpl _ hk=>aYB id hni' _ _ hk) λvr _=>⟨λhb=>hle.ref q2 vr (q2,vr) (hρq vr) hb,λk v l hk=> ?_,λpl _ hk=>aYB q2 aWh _ _ hk⟩
        have hk:s.cJ q2=av (.obj vr bm (.mp k v l)):=hk;show s1.cJ q2=_;rw[anp q2 avC aWh,hk];rfl
       |false=>
        obtain⟨pl,mb,since,seen,c0,h1,h2,h3,h4⟩:=h0;exact⟨pl,mb,since,seen,c0,(hβ1 id aYG).trans h1,h2,aYB id hni' _ _ h3,λvr avE=>aq⟩
      rw[aUW];exact .inr ⟨id,v0,c0,hs,rfl,hβ1 id aYG,λpl hp=>⟨λk hk=>aYB id hni' _ _ hk,λhk=>by
       show Jw b q (g pl.b)=_;rw[hk];rfl⟩⟩
 ·have e:=anp (.bP k) (λ_=>by simp) (λ_=>by simp);show s1.cJ (.bP k)≠aH;rw[e];cases hs:s.cJ (.bP k) with
  |none=>exact absurd hs hk
  |some en=>simp
 ·have e:=anp (.bP k) (λ_=>by simp) (λ_=>by simp);have hh:s1.cJ (.bP k)=av (.obj v' fr' c'):=hh;rw[e]at hh;cases hs:s.cJ (.bP k) with
  |none=>rw[hs]at hh;cases hh
  |some en=>
   rw[hs]at hh;cases en with
   |dead=>simp[eJ.aiV]at hh
   |obj v0 fr0 c0=>
    simp only[eN,eJ.aiV,ax,eJ.obj.injEq]at hh;obtain⟨rfl,rfl,_⟩:=hh;exact⟨c0,rfl⟩
theorem ahA{k t:Ty}{l:List (k.den×t.den)}:∀ {p:List Se} {x c':aN},¬(Hb (.mp k t l) p x).eval=av c'
 |[],x,c',h=>by simp only[Hb,aG]at h
 | .arr::p,x,c',h=>by simp only[Hb]at h;exact ahA h
 | .idx i::p,x,c',h=>by simp only[Hb,aG]at h
 | .fst::p,x,c',h=>by simp only[Hb,aG]at h
 | .snd::p,x,c',h=>by simp only[Hb,aG]at h
theorem apX{q:Id}{vq:Nat}{k t:Ty}{l:List (k.den×t.den)}{cu:Option (k.den×t.den)}:∀ {p:List Se} {x c':aN},¬(Hb (.tP q vq k t l cu) p x).eval=av c'
 |[],x,c',h=>by simp only[Hb,aG]at h
 | .arr::p,x,c',h=>by simp only[Hb]at h;exact apX h
 | .idx i::p,x,c',h=>by simp only[Hb,aG]at h
 | .fst::p,x,c',h=>by simp only[Hb,aG]at h
 | .snd::p,x,c',h=>by simp only[Hb,aG]at h
theorem aas{l:List Value}{n:Nat}{vs:List Value}(h:(l.drop n).take vs.length=vs):dV l n vs=l:=by
 unfold dV;have h2:l.drop n=vs++l.drop (n+vs.length):=by
  conv=>lhs;rw[<-eC vs.length (l.drop n)]
  rw[h,gE]
 have h3:=eC n l;rw[h2]at h3;simpa[aO]using h3
theorem Inv.aXX(h:Inv C g β s a w){j:Nat}{p:List Se}(Wb:(s.at j p).eval=av .dJ){q:Nat}(hq:s.eQ q=bm){e:TypeId}{t:Ty}(hz:0 < t.size){s':AS}
  (he:((s.born q [.obj 0 aZ (.vec e t [])]).putAt j (.bU (.new q 0) 0 [] 0 0 0) p).eval=av s'):ka C s' a w:=by
 obtain⟨β',h1,h2,h3⟩:=h.aLp hq (e:=e) hz;cases p with
 |nil=>
  simp only[AS.at]at Wb;have hj:=aD.1 Wb;simp only[AS.putAt]at he;obtain rfl:=aD.1 he;refine⟨g,β',h1.aWz j ?_⟩;have:=h.dg j;rw[hj]at this;rw[mX this];exact h3
 |cons st p=>
  simp only[AS.at]at Wb;simp only[AS.putAt]at he;have adn:(s.born q [.obj 0 aZ (.vec e t [])]).slot j=s.slot j:=rfl;rw[adn]at he;split at Wb
  ·rename_i id ver p0 nn hj;split at Wb
   ·rename_i v fr c qF;obtain⟨hv,Wb⟩:=aR.1 Wb;obtain⟨⟨n,u⟩,hl,Wb⟩:=aC.1 Wb;have hu:=aD.1 Wb;simp only at hu;subst hu;have dQ:=fT qF;have jk:id≠ .new q 0:=λe=>by rw[e,(lU hq).1 0]at dQ;cases dQ
    have hne':∀j',id≠ .new q j':=λj' e=>by rw[e,(lU hq).1 j']at dQ;cases dQ
    have w4:(s.born q [.obj 0 aZ (.vec e t [])]).cJ id=av (.obj v fr c):=(jO _ hne').trans dQ;have aUS:(s.born q [.obj 0 aZ (.vec e t [])]).obj id=av (v,fr,c):=by simp only[AS.obj,w4]
    simp only[hj,aUS]at he;split at he
    ·simp only[aG]at he
    ·rename_i c1 aTf;obtain⟨c',ado,he⟩:=aC.1 he;obtain rfl:=aD.1 he;have hn:c.iW=aZ:=by cases c <;> first | rfl | (exact(aTf _ _ _ rfl).elim) | (exact absurd ado ahA) | (exact absurd ado apX)
     have hO:=h1.cg id v fr c w4;obtain⟨pl,cur,e0,hp,hh,hg,hk,hV⟩:=hO.box hn;have ht:=Trans.refl w g;have hN:=aby hk;have hle:=dI.bI (s:=s.born q [.obj 0 aZ (.vec e t [])]) (β:=β') (v':=v) (fr':=fr) (c':=c.wrap c') w4 (az _) ht (λ_ _=>rfl) (λ_=>rfl);refine⟨g,β',h1.step (eo _ _ _) ht hle (ku.bI h1.cg (by rw[w4];simp) hle (λ_ _=>rfl) (λ_ _ _ _ _ _ _ _=>⟨rfl,rfl⟩) ?_ (sB w4 λk v1 l e=>by subst e;exact absurd ado ahA))⟩;obtain⟨cs,k1,k2⟩:=h3;have k2:cs=[.slice aH 0 0]:=k2;subst k2;obtain⟨u1,u2,u3⟩:=tf (p0++st::p) c.strip (cur.toList.take (c.Ac cur.size)) n .dJ _ c' [.slice aH 0 0] (VO.of hV) hl k1 ado;have u4:=u2.to (u3.xf hV.xf);have Lr:((cur.toList.take (c.Ac cur.size)).drop n).take 1=[.slice aH 0 0]:=by
      rcases vW (p0++st::p) c.strip (cur.toList.take (c.Ac cur.size)) n .dJ (VO.of hV) hl with⟨aUR,abE⟩ | ⟨q1,q2⟩
      ·rw[<-abE]at hV;simp only[V]at hV;rw[hV,aUR];rfl
      ·simpa only[V,aN.size]using q1
     rw[aas (vs:=[.slice aH 0 0]) Lr]at u4;have AL:c'.size=c.strip.size:=by have e1:=u4.size;have e2:=hV.size;omega
     exact Wg.obj ⟨pl,cur,e0,hp,hh,hg,Qt hk u4.DR AL,by rw[R1 c u4.DR,Wu u4.DR AL];exact V.mono hle u4⟩
   ·simp only[aG]at Wb
  ·simp only[aG]at Wb
theorem Pk:∀(ids:List Id) {s:AS} {i:Id} {v:Nat} {fr:Bool} {c:aN},s.cJ i=av (.obj v fr c)->∃fr',(s.bF ids).cJ i=av (.obj v fr' c)
 |[],s,i,v,fr,c,h=>⟨fr,h⟩
 |id::ids,s,i,v,fr,c,h=>by obtain⟨fr',h'⟩:=ac3 (id:=id) h;exact Pk ids h'
theorem Inv.aWR(h:Inv C g β s a w){j:Nat}{p:List Se}{u:aN}(Wb:(s.at j p).eval=av u){t:Ty}{x:t.den}(ht:(s.jU t u).eval=av x){s':AS}
  (he:((s.bF u.shared).putAt j (.d t x) p).eval=av s'):ka C s' a w:=by
 cases p with
 |nil=>
  simp only[AS.at]at Wb;have hj:=aD.1 Wb;simp only[AS.putAt]at he;obtain rfl:=aD.1 he;have hs:=h.dg j;rw[hj]at hs;obtain⟨g',i1,_,_,cs,hR,hO⟩:=JN h hs ht;exact⟨g',β,i1.aWz j (VS.of (a:= .d t x) (cs:=cs) (by simpa only[V]using hR) hO)⟩
 |cons st p=>
  simp only[AS.at]at Wb;simp only[AS.putAt]at he;have adn:(s.bF u.shared).slot j=s.slot j:=by simp only[AS.slot,qa]
  rw[adn]at he;split at Wb
  ·rename_i id ver p0 nn hj;split at Wb
   ·rename_i v fr c qF;obtain⟨hv,Wb⟩:=aR.1 Wb;obtain⟨⟨n,u'⟩,hl,Wb⟩:=aC.1 Wb;have hu:=aD.1 Wb;simp only at hu;subst hu;have dQ:=fT qF;obtain⟨g',h1,h2,h3,h4⟩:=gI u'.shared h;obtain⟨fr',w4⟩:=Pk u'.shared dQ;have aUS:(s.bF u'.shared).obj id=av (v,fr',c):=by simp only[AS.obj,w4]
    simp only[hj,aUS]at he;split at he
    ·simp only[aG]at he
    ·rename_i c1 aTf;obtain⟨c',ado,he⟩:=aC.1 he;obtain rfl:=aD.1 he;have hn:c.iW=aZ:=by cases c <;> first | rfl | (exact(aTf _ _ _ rfl).elim) | (exact absurd ado ahA) | (exact absurd ado apX)
     obtain⟨pl0,cur0,e00,aUT,aUK,aZx,aXm,hV0⟩:=(h.cg id v fr c dQ).box hn;obtain⟨pl,cur,e0,hp,hh,hg,hk,hV⟩:=(h1.cg id v fr' c w4).box hn;have Sh:pl0=pl:=by have aUT:β id=av pl0:=aUT;have hp:β id=av pl:=hp;rw[aUT]at hp;exact bf hp
     subst Sh;have im:cur0=cur:=by
      have aUK:w.heap[pl0.b]? =_:=aUK
      have hh:w.heap[pl0.b]? =_:=hh
      rw[aUK]at hh;simpa using(bW (λo=>match o with | some (.cells x _ _)=>x | _=>cur0) hh)
     subst im;obtain⟨cs,hVu,Lr⟩:∃cs,V (s.env w g β) u' cs/\((cur0.toList.take (c.Ac cur0.size)).drop n).take cs.length=cs:=by
      rcases vW (p0++st::p) c.strip (cur0.toList.take (c.Ac cur0.size)) n u' (VO.of hV0) hl with⟨aUR,abE⟩ | ⟨q1,q2⟩
      ·refine⟨cur0.toList.take (c.Ac cur0.size),by rw[abE];exact hV0,?_⟩;rw[aUR,ay,bN]
      ·refine⟨_,q1,?_⟩;rw[bV,du];congr 1;omega
     have hR:=AG rfl h.cg h2 u' t x cs hVu ht h4;have hVx:V ((s.bF u'.shared).env w g' β) (.d t x) cs:=by simpa only[V]using hR
     have ht':=Trans.refl w g';have hle:=dI.bI (s:=s.bF u'.shared) (β:=β) (v':=v) (fr':=fr') (c':=c.wrap c') w4 (az _) ht' (λ_ _=>rfl) (λ_=>rfl);refine⟨g',β,h1.step (eo _ _ _) ht' hle (ku.bI h1.cg (by rw[w4];simp) hle (λ_ _=>rfl) (λ_ _ _ _ _ _ _ _=>⟨rfl,rfl⟩) ?_ (sB w4 λk v1 l e=>by subst e;exact absurd ado ahA))⟩;obtain⟨u1,u2,u3⟩:=tf (p0++st::p) c.strip (cur0.toList.take (c.Ac cur0.size)) n u' _ c' cs (VO.of hV) hl hVx ado;have u4:=u2.to (u3.xf hV.xf);rw[aas (vs:=cs) Lr]at u4;have AL:c'.size=c.strip.size:=by have e1:=u4.size;have e2:=hV.size;omega
     exact Wg.obj ⟨pl0,cur0,e0,hp,hh,hg,Qt hk u4.DR AL,by rw[R1 c u4.DR,Wu u4.DR AL];exact V.mono hle u4⟩
   ·simp only[aG]at Wb
  ·simp only[aG]at Wb
theorem QV{E:Env}:∀(t:Ty) (x:t.den) (u:aN),(QU t x).eval=av u->∀cs,c9 E t cs x->V E u cs
 | .gG t,x,u,h,cs,hr=>by simp only[QU]at h;obtain⟨h1,h2⟩:=cW.1 h;obtain rfl:=aD.1 h2;simp only[c9]at hr;simp only[V];exact hr.1 (Option.isNone_iff_eq_none.1 h1)
 | .pair a b,x,u,h,cs,hr=>by simp only[QU]at h;obtain⟨u1,h1,h2⟩:=aC.1 h;obtain⟨u2,h3,h4⟩:=aC.1 h2;obtain rfl:=aD.1 h4;simp only[c9]at hr;obtain⟨ca,cb,rfl,ha,hb⟩:=hr;exact avS (QV a x.1 u1 h1 ca ha) (QV b x.2 u2 h3 cb hb)
 | .int k,x,u,h,cs,hr=>by simp only[QU]at h;obtain rfl:=aD.1 h;simpa only[V]using hr
 | .bool,x,u,h,cs,hr=>by simp only[QU]at h;obtain rfl:=aD.1 h;simpa only[V]using hr
 | .str,x,u,h,cs,hr=>by simp only[QU]at h;obtain rfl:=aD.1 h;simpa only[V]using hr
 | .slice t,x,u,h,cs,hr=>by simp only[QU]at h;obtain rfl:=aD.1 h;simpa only[V]using hr
 | .unit,x,u,h,cs,hr=>by simp only[QU]at h;obtain rfl:=aD.1 h;simpa only[V]using hr
 | .arr n t,x,u,h,cs,hr=>by simp only[QU]at h;obtain rfl:=aD.1 h;simpa only[V]using hr
 | .qE t,x,u,h,cs,hr=>by simp only[QU]at h;obtain rfl:=aD.1 h;simpa only[V]using hr
 | .iv t,x,u,h,cs,hr=>by simp only[QU]at h;obtain rfl:=aD.1 h;simpa only[V]using hr
theorem aDa{e:TypeId}{z:Nat}{c:aN}{pl:Pl}{n:Nat}(hz:0 < z)(h1:n=pl.cap*z)(h2:pl.cap<=maxLen)(h3:c.size<=n):(aN.bx e z c).KV pl n e:=by
 cases z with
 |zero=>omega
 |succ z=>exact⟨rfl,h1,h2,h3⟩
theorem aqO{e:TypeId}{z:Nat}{c:aN}{n:Nat}(hz:0 < z):(aN.bx e z c).Ac n=c.size:=by
 cases z with
 |zero=>omega
 |succ z=>rfl
theorem anY{e e':TypeId}{z:Nat}{c:aN}{pl:Pl}{n:Nat}(hz:0 < z)(h:(aN.bx e z c).KV pl n e'):e'=e/\n=pl.cap*z/\pl.cap<=maxLen/\c.size<=n:=by
 cases z with
 |zero=>omega
 |succ z=>exact h
theorem att{E:Env}{id:Id}{ver n:Nat}{p p':List Se}{y:Value}(h:VS E (.ptr id ver p n) y):VS E (.ptr id ver p' n) y:=by obtain⟨cs,h1,h2⟩:=h;exact⟨cs,by simpa only[V]using h1,h2⟩
theorem Inv.aWV(h:Inv C g β s a w){j:Nat}{id:Id}{ver n k v:Nat}{p p':List Se}(hj:s.slot j= .ptr id ver p n){e:TypeId}{t:Ty}{r:List t.den}(qF:s.obj id=av (v,aZ,.vec e t r))
  (hk:k < r.length) {u:aN} (hu:(QU t (nth t r k)).eval=av u):
  ka C ((s.bI id (.obj v aZ (.bx e t.size (.pr (.d (.arr k t) (r.take k)) (.pr u (.d (.arr (r.drop (k+1)).length t) (r.drop (k+1)))))))).put (av j) (.ptr id ver p' n)) a w:=by
 have dQ:=fT qF;obtain⟨hz,hO⟩:Dc (s.env w g β) id aZ (.vec e t r):=h.cg id v aZ _ dQ;have hO:(match β id with
  |none=>r=[]
  |some pl=>∃cur k,w.heap[pl.b]? =av (.cells cur e (0,0))/\cur.size=pl.cap*t.size/\r.length<=pl.cap/\pl.cap<=maxLen/\g pl.b= .own (.id id) k/\
    k<=r.length*t.size/\(aZ=aZ->k=0)/\bH (c9 (s.env w g β) t) (cur.toList.take (r.length*t.size)) r):=hO
 have ht:=Trans.refl w g
 have hle:dI (s.env w g β) ((s.bI id (.obj v aZ (.bx e t.size (.pr (.d (.arr k t) (r.take k)) (.pr u (.d (.arr (r.drop (k+1)).length t) (r.drop (k+1)))))))).env w g β):=
  dI.bI dQ (az _) ht (λ_ _=>rfl) (λ_=>rfl)
 have hI:=h.step (eo _ _ _) ht hle (ku.bI h.cg (by rw[dQ];simp) hle (λ_ _=>rfl) (λ_ _ _ _ _ _ _ _=>⟨rfl,rfl⟩) (ahU:=anE dQ) (by
  cases hp:β id with
  |none=>rw[hp]at hO;simp only at hO;subst hO;simp at hk
  |some pl=>
   rw[hp]at hO;obtain⟨cur,k0,q1,q2,q3,q4,q5,q6,q7,q8⟩:=hO;have aXm:=q7 rfl;subst aXm;have avH:∀c x,c9 (s.env w g β) t c x->c.length=t.size:=λc x hx=>hx.size
   have c1:=bH.take avH k q8;have c2:=(q8.get avH k hk);have c3:=bH.drop avH (k+1) q8;have ap7:V (s.env w g β) u (((cur.toList.take (r.length*t.size)).drop (k*t.size)).take t.size):=QV t _ u (by rw[aer hk]at hu;exact hu) _ c2;have bcq:=ap7.size;have hlen:(cur.toList.take (r.length*t.size)).length=r.length*t.size:=bH.length avH q8;have AL:r.length*t.size<=cur.size:=by rw[q2];exact dE _ q3
   have bc7:(k+1)*t.size<=r.length*t.size:=dE _ hk;have aWh:(k+1)*t.size=k*t.size+t.size:=Nat.succ_mul k t.size;have aUY:u.size=t.size:=by rw[<-bcq,bV,du,hlen];omega
   have hm:(r.drop (k+1)).length*t.size=r.length*t.size - (k+1)*t.size:=by rw[du,Nat.sub_mul]
   have aKi:(aN.pr (.d (.arr k t) (r.take k)) (.pr u (.d (.arr (r.drop (k+1)).length t) (r.drop (k+1))))).size=r.length*t.size:=by simp only[aN.size,Ty.size,aUY,hm];omega
   refine Wg.obj ⟨pl,cur,e,hp,q1,q5,aDa hz q2 q4 (by rw[aKi];exact AL),?_⟩;rw[aqO hz,aKi];refine V.mono hle ?_
   show V _ (.pr (.d (.arr k t) (r.take k)) (.pr u (.d (.arr (r.drop (k+1)).length t) (r.drop (k+1))))) _;simp only[V];generalize cur.toList.take (r.length*t.size)=R at*;refine⟨R.take (k*t.size),R.drop (k*t.size),(eC _ _).symm,?_,(R.drop (k*t.size)).take t.size,R.drop ((k+1)*t.size),?_,ap7,?_⟩
   ·simp only[c9];exact⟨by rw[bV];omega,c1⟩
   ·rw[aWh,<-gE,eC]
   ·simp only[c9];exact⟨trivial,c3⟩))
 refine⟨g,β,hI.aWz j ?_⟩;have:=h.dg j;rw[hj]at this;exact att (VS.mono hle this)
theorem WG:∀(l:List Nat) {s s1:AS},ka C s a w->(aD0 s l).eval=av s1->ka C s1 a w
 |[],s,s1,h,he=>by simp only[aD0]at he;obtain rfl:=aD.1 he;exact h
 |j::l,s,s1,h,he=>by
  obtain⟨g,β,h⟩:=h;simp only[aD0]at he;split at he
  ·rename_i id ver k p n hj;split at he
   ·rename_i v e t r qF;obtain⟨h1,he⟩:=aR.1 he;obtain⟨h2,he⟩:=cW.1 he;obtain⟨u,h3,he⟩:=aC.1 he;exact WG l (h.aWV hj qF (of_decide_eq_true h2) h3) he
   ·simp only[aG]at he
  ·exact WG l ⟨g,β,h⟩ he
  ·simp only[aG]at he
theorem WD{s:AS}{id i:Id}(h:i≠id):(s.freeze id).cJ i=s.cJ i:=by
 unfold AS.freeze;split
 ·exact ee s id i _ h
 ·rfl
theorem tr:∀(ids:List Id) {s:AS} {i:Id},i ∉ ids->(s.bF ids).cJ i=s.cJ i
 |[],_,_,_=>rfl
 |id::ids,s,i,h=>by
  have h1:i≠id:=λe=>h (by rw[e];exact aU)
  exact(tr ids λhi=>h (aP _ hi)).trans (WD h1)
theorem bH.mem{α:Type}{R:List Value->α->Prop}:∀ {cs:List Value} {l:List α},bH R cs l->∀x∈l,∃c,R c x
 |_,[],_,x,hx=>by cases hx
 |_,_::_,⟨c,cs',_,hc,hr⟩,x,hx=>by
  rcases cq.1 hx with rfl | hx
  ·exact⟨c,hc⟩
  ·exact bH.mem hr x hx
theorem c9.aaX{E:Env}:∀ {t:Ty} {cs:List Value} {x:t.den},c9 E t cs x->∀n∈iO t x,E.g n= .free
 | .int _,_,_,_,n,hn=>by simp[iO]at hn
 | .bool,_,_,_,n,hn=>by simp[iO]at hn
 | .str,_,_,_,n,hn=>by simp[iO]at hn
 | .unit,_,_,_,n,hn=>by simp[iO]at hn
 | .slice t,_,x,h,n,hn=>by simp only[c9]at h;obtain⟨_,_,_,_,_,_,_,hc⟩:=h;obtain⟨y,hy,hn⟩:=jm.1 (show n∈(x:List t.den).flatMap (iO t) from hn);obtain⟨c,hc⟩:=hc.mem y hy;exact c9.aaX hc n hn
 | .arr _ t,_,x,h,n,hn=>by simp only[c9]at h;obtain⟨y,hy,hn⟩:=jm.1 (show n∈(x:List t.den).flatMap (iO t) from hn);obtain⟨c,hc⟩:=h.2.mem y hy;exact c9.aaX hc n hn
 | .pair a b,_,x,h,n,hn=>by
  simp only[c9]at h;obtain⟨_,_,_,ha,hb⟩:=h;rcases bR.1 (show n∈iO a x.1++iO b x.2 from hn) with hn | hn
  ·exact c9.aaX ha n hn
  ·exact c9.aaX hb n hn
 | .gG t,_,x,h,n,hn=>by
  simp only[c9]at h;obtain⟨y,hy,hn⟩:=jm.1 (show n∈((x:Option (List t.den)).getD []).flatMap (iO t) from hn);cases hx:(x:Option (List t.den)) with
  |none=>rw[hx]at hy;cases hy
  |some l=>
   rw[hx]at hy;obtain⟨_,_,_,_,_,_,_,hc⟩:=h.2 l hx;obtain⟨c,hc⟩:=hc.mem y hy;exact c9.aaX hc n hn
 | .qE t,_,x,h,n,hn=>by
  simp only[c9]at h;cases hx:(x:Option t.den) with
  |none=>rw[hx]at hn;simp[iO]at hn
  |some y=>
   rw[hx]at hn;obtain⟨_,_,_,_,_,hc⟩:=h.2 y hx;exact c9.aaX hc n (by simpa only[iO]using hn)
 | .iv t,_,x,h,n,hn=>by
  simp only[c9]at h;cases hx:(x:Option (Nat×t.den)) with
  |none=>rw[hx]at hn;simp[iO]at hn
  |some y=>
   rw[hx]at hn;obtain⟨_,_,_,_,hf,_,hc⟩:=h.2 y hx;rcases cq.1 (show n∈y.1::iO t y.2 by simpa only[iO]using hn) with rfl | hn
   ·exact hf.1
   ·exact c9.aaX hc n hn
theorem Inv.Xa(h:Inv C g β s a w){v:aN}{y:Value}(hv:VS (s.env w g β) v y):∀n∈s.Xa v,g n= .free:=by
 intro n hn;unfold AS.Xa at hn;split at hn
 ·rename_i t x;obtain⟨cs,hV,_⟩:=hv.fD rfl;simp only[V]at hV;exact c9.aaX hV n hn
 ·rename_i id _ _ _ _ _;split at hn
  ·rename_i ve fr e t l qF;have hO:=h.cg id ve fr _ (fT qF);obtain⟨_,hO⟩:=(hO:aT0 (s.env w g β) id fr e t l);split at hO
   ·subst hO;simp at hn
   ·obtain⟨_,_,_,_,_,_,_,_,_,hc⟩:=hO;obtain⟨y,hy,hn⟩:=jm.1 hn;obtain⟨c,hc⟩:=hc.mem y hy;exact c9.aaX hc n hn
  ·cases hn
 ·cases hn
theorem asT{x:aWG}{R:Type}{r:R}{k:AS->Option R}(h:ka C s a w)(he:aLw s x k=av r):∃s',ka C s' a w/\k s'=av r:=by
 obtain⟨g,β,h⟩:=h;unfold aLw at he;split at he <;> try (cases he;done)
 rename_i id ver hj;split at he <;> try (cases he;done)
 rename_i v c qF;obtain⟨y,h1,Q4⟩:=kk.1 he;obtain⟨y',h2,h3⟩:=aC.1 h1;obtain⟨h4,h5⟩:=aR.1 h3;obtain rfl:=aD.1 h5;simp only[aw,eZ,di]at h4;obtain⟨⟨rfl,aZq⟩,aWo⟩:=h4;have aQB:c.iW=aZ:=by cases c <;> first | rfl | (simp[aN.aWM]at aZq)
 have aWo:id ∉ c.strip.shared:=by simpa using aWo
 obtain⟨_,Ag⟩:=WC Q4;have dQ:=fT qF;obtain⟨pl,cur,e,hp,hh,aEh,gX,hV⟩:=(h.cg id v aZ c dQ).box aQB;have hp:β id=av pl:=hp;have hh:w.heap[pl.b]? =av (.cells cur e (0,0)):=hh
 have aEh:g pl.b= .own (.id id) 0:=aEh;obtain⟨g1,i1,e1,t1,f1⟩:=gI c.strip.shared h;have hR1:=AG rfl h.cg e1 c.strip x.t y' _ hV h2 f1;have w4:(s.bF c.strip.shared).cJ id=av (.obj v aZ c):=(tr _ aWo).trans dQ;obtain⟨g2,i2,e2,t2,f2⟩:=Tv i1 id;have aXc:((s.bF c.strip.shared).freeze id).cJ id=av (.obj v bm c):=by unfold AS.freeze;rw[w4];exact fu _ id _ (by rw[w4];simp)
 obtain⟨pl2,cur2,e2',YT,aTk,aBa,_,_⟩:=(i2.cg id v bm c aXc).box aQB;have YT:β id=av pl2:=YT;rw[hp]at YT;obtain rfl:=bf YT;have aBa:g2 pl.b= .free:=aBa;have hfresh:pl.b ∉ s.Xa (s.slot x.r):=λhn=>by have:=h.Xa (h.dg x.r) _ hn;rw[aEh]at this;cases this
 refine⟨_,⟨g2,β,i2.aWz x.j ?_⟩,Ag pl.b hfresh⟩;have hs:=h.dg x.j;rw[hj]at hs;obtain⟨ad,hy,_,hc⟩:=Gw hs;obtain⟨pl',hp',aEa⟩:=hc ⟨aZ,c,dQ⟩;have hp':β id=av pl':=hp';rw[hp]at hp';obtain rfl:=bf hp';rw[hy,aEa];refine⟨[.pointer (av ⟨pl.b,0,aH⟩)],?_,rfl⟩;simp only[V,c9];refine⟨λhn=>by simp at hn,λz hz=> ?_⟩;have hz:(pl.b,y')=z:=bf hz;subst hz;refine⟨cur,e,cur.toList.take (c.Ac cur.size),rfl,⟨aBa,hh⟩,λi u hu=>⟨pl.b,0,rfl,?_,?_⟩,c9.mono e2.mem hR1⟩
 ·rw[dY]at hu;split at hu
  ·show w.cell? ⟨pl.b,0+i,aH⟩=av u;rw[aV];simp[World.cell?,hh];simpa using hu
  ·cases hu
 ·show Am g2 pl.b _;unfold Am;rw[aBa];trivial
theorem Zo:∀(l:List aWG) {s:AS} {R:Type} {r:R} {k:AS->Option R},ka C s a w->aLx l s k=av r->∃s',ka C s' a w/\k s'=av r
 |[],s,_,_,_,h,he=>⟨s,h,he⟩
 |x::l,s,_,_,_,h,he=>by obtain⟨s',h',he'⟩:=asT h he;exact Zo l h' he'
theorem Inv.aYj(h:Inv C g β s a w){j:Nat}{id:Id}{ver n k m v z:Nat}{p p':List Se}(hj:s.slot j= .ptr id ver p n){e:TypeId}{t:Ty}{l1 l2:List t.den}{u:aN}
  (qF:s.obj id=av (v,aZ,.bx e z (.pr (.d (.arr k t) l1) (.pr u (.d (.arr m t) l2))))) (hz:z=t.size) (aWs:0 < z) (dL:id ∉ u.shared) {x:t.den} (hx:(s.jU t u).eval=av x):
  ka C (((s.bF u.shared).bI id (.obj v aZ (.vec e t (l1++x::l2)))).put (av j) (.ptr id ver p' n)) a w:=by
 have dQ:=fT qF;obtain⟨pl0,cur0,e0,aUT,aUK,aZx,aXm,hV0⟩:=(h.cg id v aZ _ dQ).box rfl;obtain⟨g',h1,h2,h3,h4⟩:=gI u.shared h;have w4:(s.bF u.shared).cJ id=av (.obj v aZ (.bx e z (.pr (.d (.arr k t) l1) (.pr u (.d (.arr m t) l2))))):=(tr _ dL).trans dQ;obtain⟨pl,cur,e1,hp,hh,hg,hk,hV⟩:=(h1.cg id v aZ _ w4).box rfl;have hp:β id=av pl:=hp;have Sh:pl0=pl:=by have aUT:β id=av pl0:=aUT;rw[aUT]at hp;exact bf hp
 subst Sh;have im:cur0=cur:=by
  have aUK:w.heap[pl0.b]? =_:=aUK
  have hh:w.heap[pl0.b]? =_:=hh
  rw[aUK]at hh;simpa using(bW (λo=>match o with | some (.cells x _ _)=>x | _=>cur0) hh)
 subst im;obtain⟨rfl,q2,q4,q3⟩:=anY aWs hk;rw[aqO aWs]at hV0;have hV0:V (s.env w g β) (.pr (.d (.arr k t) l1) (.pr u (.d (.arr m t) l2))) _:=hV0;have bcl:=hV0.size;simp only[V]at hV0;obtain⟨ca,cb,hR,hA,cu,cc,aUH,hU,hB⟩:=hV0;subst aUH;simp only[c9]at hA hB;have hX:=AG rfl h.cg h2 u t x cu hU hx h4;have avH:∀c x,c9 ((s.bF u.shared).env w g' β) t c x->c.length=t.size:=λc x hx=>hx.size
 have cA:=hA.2.mono λ_ _ hx=>hx.mono h2.mem
 have cB:=hB.2.mono λ_ _ hx=>hx.mono h2.mem
 have B4:bH (c9 ((s.bF u.shared).env w g' β) t) (ca++(cu++cc)) (l1++x::l2):=bH.append cA ⟨cu,cc,rfl,hX,cB⟩;have hlen:=bH.length avH B4;have aKi:(aN.pr (.d (.arr k t) l1) (.pr u (.d (.arr m t) l2))).size=(l1++x::l2).length*t.size:=by rw[<-hlen,<-hR];exact bcl.symm
 rw[aKi]at hR q3;rw[hz]at q2;have awX:(l1++x::l2).length<=pl0.cap:=by rw[q2]at q3;exact Nat.le_of_mul_le_mul_right q3 aq
 have ht:=Trans.refl w g';have hle:dI ((s.bF u.shared).env w g' β) (((s.bF u.shared).bI id (.obj v aZ (.vec e1 t (l1++x::l2)))).env w g' β):=dI.bI w4 (az _) ht (λ_ _=>rfl) (λ_=>rfl);have hI:=h1.step (eo _ _ _) ht hle (ku.bI h1.cg (by rw[w4];simp) hle (λ_ _=>rfl) (λ_ _ _ _ _ _ _ _=>⟨rfl,rfl⟩) (ahU:=sB w4 λ_ _ _ e=>by cases e) (by
  refine⟨aq,?_⟩;show(match β id with
   |none=>l1++x::l2=[]
   |some pl=>_)
  rw[hp];exact⟨cur0,0,hh,q2,awX,q4,hg,aL _,λ_=>rfl,by rw[hR];exact B4.mono λ_ _ hx=>hx.mono hle.mem⟩))
 refine⟨g',β,hI.aWz j ?_⟩;have:=h.dg j;rw[hj]at this;exact att (VS.mono (h2.trans hle) this)
theorem alZ:∀(l:List Nat) {s s1:AS},ka C s a w->(aOK s l).eval=av s1->ka C s1 a w
 |[],s,s1,h,he=>by simp only[aOK]at he;obtain rfl:=aD.1 he;exact h
 |j::l,s,s1,h,he=>by
  obtain⟨g,β,h⟩:=h;simp only[aOK]at he;split at he
  ·rename_i id ver p n hj;split at he
   ·rename_i v e z k t l1 u m t' l2 qF;obtain⟨h1,he⟩:=aR.1 he;obtain⟨l2',h2,he⟩:=aC.1 he;obtain⟨x,h3,he⟩:=aC.1 he;simp only[aw,eZ,di,tq]at h1;obtain⟨⟨⟨h5,h6⟩,h7⟩,h8⟩:=h1;obtain⟨et,hl⟩:=jN (jP.1 h2);have et':t'=t:=by simpa using et
    subst et';simp only at hl;subst hl;refine alZ l (h.aYj hj qF h6 aq (λhi=> ?_) h3) he;have:(u.shared.any λi=>decide (i=id))=bm:=List.any_eq_true.2 ⟨id,hi,by simp⟩;rw[this]at h8;cases h8
   ·simp only[aG]at he
  ·simp only[aG]at he
theorem IH:∀(l:List aYp) {s s1:AS},ka C s a w->(acZ s l).eval=av s1->ka C s1 a w
 |[],s,s1,h,he=>by simp only[acZ]at he;obtain rfl:=aD.1 he;exact h
 |o::l,s,s1,h,he=>by
  obtain⟨g,β,h⟩:=h;unfold acZ at he;split at he
  ·exact IH l ⟨g,β,h⟩ he
  obtain⟨u,hu,he⟩:=aC.1 he;obtain⟨x,hx,he⟩:=aC.1 he;obtain⟨s',hs,he⟩:=aC.1 he;exact IH l (h.aWR hu hx hs) he
theorem tT(hC:C.ok):∀(l:List aHX) {s s1:AS},ka C s a w->(Fc P s l).eval=av s1->ka C s1 a w
 |[],s,s1,h,he=>by simp only[Fc]at he;obtain rfl:=aD.1 he;exact h
 |o::l,s,s1,h,he=>by
  obtain⟨g,β,h⟩:=h;unfold Fc at he;split at he
  ·exact tT hC l ⟨g,β,h⟩ he
  obtain⟨u,hu,he⟩:=aC.1 he;split at he
  ·split at he
   ·rename_i e t b OO hv;obtain⟨s',h1,h2⟩:=aC.1 he;exact tT hC l (h.aXX hu hv (ahR OO) h1) h2
   ·simp only[aG]at he
  ·split at he
   ·rename_i b j ver bbf;split at he
    ·rename_i v fr c qF hm;split at he
     ·have aUF:b < s.news.length:=by
       have:=fT qF;simp only[AS.cJ,bh]at this;cases hn:s.news[b]? with
       |none=>rw[hn]at this;simp at this
       |some es=>exact(ek.1 hn).1
      obtain⟨g1,β1,h1⟩:=h.M5 hC aUF (by simpa using hm);exact tT hC l ⟨g1,β1,h1⟩ he
     ·simp only[aG]at he
    ·simp only[aG]at he
   ·simp only[aG]at he
theorem Sr:∀(l:List (Nat×Ty)) {s s1:AS},ka C s a w->(asData s l).eval=av s1->ka C s1 a w
 |[],s,s1,h,he=>by simp only[asData]at he;obtain rfl:=aD.1 he;exact h
 | (j,t)::l,s,s1,h,he=>by obtain⟨g,β,h⟩:=h;simp only[asData]at he;obtain⟨x,h1,h2⟩:=aC.1 he;obtain⟨g',i1,_,_,cs,hR,hO⟩:=JN h (h.dg j) h1;exact Sr l ⟨g',β,i1.aWz j (VS.of (a:= .d t x) (cs:=cs) (by simpa only[V]using hR) hO)⟩ h2
theorem Inv.still:∀(l:List Nat) {s:AS},Inv C g β s a w->Inv C g β (s.still l) a w
 |[],s,h=>h
 |q::l,s,h=>by
  simp only[AS.still];split
  ·rename_i v fr i ver k t r cu qF;exact Inv.still l (h.aTs (fT qF) (.inr ⟨rfl,rfl,rfl⟩))
  ·exact Inv.still l h
theorem Ae{α:Type}(l:List α):(fC l).Perm l:=Quotient.exact (s:=akL α) (tp (Quotient.mk (akL α) l)).choose_spec
theorem aDk{α:Type}{l l':List α}(h:l.Perm l'):fC l=fC l':=by
 have e:Quotient.mk (akL α) l=Quotient.mk (akL α) l':=Quotient.sound h;unfold fC;have:∀q q':Quotient (akL α),q=q'->(tp q).choose=(tp q').choose:=λq q' h=>by subst h;rfl
 exact this _ _ e
theorem Inv.canon:∀(l:List Id) {s:AS},Inv C g β s a w->Inv C g β (s.canon l) a w
 |[],s,h=>h
 |id::l,s,h=>by
  simp only[AS.canon];split
  ·rename_i v fr k t r qF;have dQ:=fT qF;have ht:=Trans.refl w g;have hle:dI (s.env w g β) ((s.bI id (.obj v fr (.mp k t (fC r)))).env w g β):=dI.bI dQ (az _) ht (λ_ _=>rfl) (λ_=>rfl);obtain⟨pl,es,clock,h1,h2,h3,⟨⟨l',h4,h5⟩,h6⟩,h7⟩:=h.cg id v fr _ dQ
   refine Inv.canon l (h.step (eo _ _ _) ht hle (ku.bI h.cg (by rw[dQ];simp) hle (λ_ _=>rfl) (λ_ _ _ _ _ _ _ _=>⟨rfl,rfl⟩)
    ⟨pl,es,clock,h1,h2,h3,⟨⟨l',h4.mono λ_ _ he=>he.mono hle.mem,h5.trans (Ae r).symm⟩,(((Ae r).map _).nodup_iff).2 h6⟩,h7⟩ ?_))
   intro ver k' v' l2 hl;rw[dQ]at hl;simp only[ax,eJ.obj.injEq]at hl;obtain⟨rfl,rfl,_⟩:=hl;exact⟨rfl,rfl,⟨_,_,_,rfl⟩,λ_ _=>⟨rfl,rfl⟩⟩
  ·exact Inv.canon l h
theorem Yu(k v n:Nat)(i:Id)(ver:Nat):(i= .bP k/\ver=v/\ye k v n i ver=av (.bP k,n))\/(i= .bP k/\ye k v n i ver=aH)\/(i≠ .bP k/\ye k v n i ver=av (i,ver)):=by
 cases i with
 |new x j=>exact .inr (.inr ⟨by simp,rfl⟩)
 |bP j=>
  simp only[ye];cases h1:mG j k with
  |false=>exact .inr (.inr ⟨λe=>by injection e with e;subst e;simp at h1,rfl⟩)
  |true=>
   obtain rfl:=lY h1;cases h2:mG ver v with
   |false=>exact .inr (.inl ⟨rfl,rfl⟩)
   |true=>exact .inl ⟨rfl,lY h2,rfl⟩
theorem aqU(hC:C.ok){s s1:AS}(h:Inv C g β s a w){k n:Nat}(he:(s.aIG k n).eval=av s1):Inv C g β s1 a w:=by
 unfold AS.aIG at he;split at he;rotate_left
 ·exact(aG.1 he).elim
 rename_i v fr c hk;obtain⟨bbr,he⟩:=aR.1 he;have bbr:v<=n\/1<=n:=(Bool.or_eq_true_iff.1 bbr).imp fJ fJ;have hz:∀ver,C.E.KE (.bP k) ver->ver=0:=λver hb=>by
  obtain⟨h1,h2⟩:=hb;cases hs:C.E.s (.bP k) with
  |none=>exact absurd hs h1
  |some en=>
   cases en with
   |dead=>
    have:=(h.le.KE (.bP k) (v+1) ⟨h1,λv' fr' c' hh=>by rw[hs]at hh;cases hh⟩).2 _ _ _ hk;omega
   |obj v0 fr0 c0=>
    have:=hC.2 _ _ _ _ hs;have:=h2 _ _ _ hs;omega
 obtain rfl:=aD.1 he;have aQn:k < s.dh.length:=by
  rcases r0 k s.dh.length with h | h
  ·exact h
  ·simp[AS.cJ,eB h]at hk
 generalize akf:({dg:=s.dg.map (aN.l7 (ye k v n)),dh:=(s.dh.map (eJ.azi (ye k v n) (Lw k))).set k (.obj n fr (c.l7 (ye k v n))),news:=s.news.map λes=>es.map (eJ.azi (ye k v n) (Lw k))}:AS)=s1;have e0:s1.cJ (.bP k)=av (.obj n fr (c.l7 (ye k v n))):=by rw[<-akf];simp[AS.cJ,aQn]
 have e1:∀i,i≠ .bP k->s1.cJ i=(s.cJ i).map (eJ.azi (ye k v n) (Lw k)):=λi hi=>by
  rw[<-akf];cases i with
  |bP j=>
   have:¬k=j:=λe=>hi (by rw[e])
   simp only[AS.cJ];rw[fy this,gS]
  |new x j=>
   simp only[AS.cJ,bh,gS];cases s.news[x]? <;> simp
 have e2:∀i v' fr' c',i≠ .bP k->s1.cJ i=av (.obj v' fr' c')->∃c0,s.cJ i=av (.obj v' fr' c0)/\c'=c0.aGE (ye k v n) (Lw k):=λi v' fr' c' hi hh=>by
  rw[e1 i hi]at hh;cases hs:s.cJ i with
  |none=>rw[hs]at hh;cases hh
  |some en=>
   rw[hs]at hh;cases en with
   |dead=>simp[eJ.azi]at hh
   |obj v0 fr0 c0=>
    simp only[eN,eJ.azi,ax,eJ.obj.injEq]at hh;obtain⟨rfl,rfl,rfl⟩:=hh;exact⟨c0,rfl,rfl⟩
 have e3:∀i,i≠ .bP k->s.cJ i≠aH->s1.cJ i≠aH:=λi hi hh=>by
  rw[e1 i hi];cases hs:s.cJ i with
  |none=>exact absurd hs hh
  |some en=>simp
 have hle:He (ye k v n) (s.env w g β) (s1.env w g β):=by
  refine⟨Trans.mem (E:=s.env w g β) (E':=s1.env w g β) (Trans.refl w g),λi ver r hr aEd=> ?_⟩;rcases Yu k v n i ver with⟨rfl,rfl,e⟩ | ⟨rfl,e⟩ | ⟨hi,e⟩
  ·rw[e]at hr;obtain rfl:=bf hr;refine⟨⟨by show s1.cJ (.bP k)≠aH;rw[e0];simp,λv' fr' c' hh=> ?_⟩,λ_=>⟨⟨fr,c,hk⟩,rfl⟩⟩;have hh:s1.cJ (.bP k)=av (.obj v' fr' c'):=hh;rw[e0]at hh;simp only[ax,eJ.obj.injEq]at hh;exact Nat.le_of_eq hh.1
  ·rw[e]at hr;cases hr
  ·rw[e]at hr;obtain rfl:=bf hr;obtain⟨k1,k2⟩:=aEd;have k1:s.cJ i≠aH:=k1;have k2:∀v' fr' c',s.cJ i=av (.obj v' fr' c')->ver<=v':=k2;refine⟨⟨e3 i hi k1,λv' fr' c' hh=> ?_⟩,λ⟨fr',c',hh⟩=> ?_⟩
   ·obtain⟨c0,abE,_⟩:=e2 i v' fr' c' hi hh;exact k2 _ _ _ abE
   ·obtain⟨c0,abE,_⟩:=e2 i ver fr' c' hi hh;exact⟨⟨fr',c0,abE⟩,rfl⟩
 refine⟨h.defers,by rw[<-akf];simpa using h.size,λi=> ?_,λid ver fr' c' dL=> ?_,h.trans,?_⟩
 ·have:s1.slot i=(s.slot i).l7 (ye k v n):=by rw[<-akf];exact au3 _ rfl _ _
  rw[this];exact Wj hle (h.dg i)
 ·have dL:s1.cJ id=av (.obj ver fr' c'):=dL;by_cases hi:id= .bP k
  ·subst hi;rw[e0]at dL;simp only[ax,eJ.obj.injEq]at dL;obtain⟨rfl,rfl,rfl⟩:=dL;exact zZ hle (h.cg (.bP k) v fr c hk) (id':= .bP k) rfl λpl _=>⟨rfl,λ_ h=>h,λh=>h⟩
  ·obtain⟨c0,abE,rfl⟩:=e2 id ver fr' c' hi dL;have h0:=h.cg id ver fr' c0 abE;rcases axb c0 with⟨q2,vq,kt,vt,l,cu,rfl⟩ | ⟨aUW,_⟩
   ·simp only[aN.aGE];cases aYE:Lw k q2 with
    |true=>
     have jk:q2≠ .bP k:=λe=>by subst e;simp[Lw]at aYE
     have hρq:∀vr,ye k v n q2 vr=av (q2,vr):=λvr=>by
      rcases Yu k v n q2 vr with⟨e,_⟩ | ⟨e,_⟩ | ⟨_,e⟩
      ·exact absurd e jk
      ·exact absurd e jk
      ·exact e
     refine aTU.bg hle.mem (λ_=>rfl) h0 rfl (λ_ _ h=>h) λvr _=>⟨λhb=>hle.ref q2 vr (q2,vr) (hρq vr) hb,λkt vt l avC=> ?_,λ_ _ h=>h⟩
     have avC:s.cJ q2=av (.obj vr bm (.mp kt vt l)):=avC;show s1.cJ q2=_;rw[e1 q2 jk,avC];rfl
    |false=>
     obtain⟨pl,mb,since,seen,c0,h1,h2,h3,h4⟩:=h0;exact⟨pl,mb,since,seen,c0,h1,h2,h3,λvr avE=>aq⟩
   ·rw[aUW];exact zZ hle h0 (id':=id) rfl λpl _=>⟨rfl,λ_ h=>h,λh=>h⟩
 ·have hl:=h.le;refine⟨hl.mem.trans (Trans.mem (E:=s.env w g β) (E':=s1.env w g β) (Trans.refl w g)),λid ver hb=> ?_,λid ver hb hc=> ?_⟩
  ·obtain⟨h1,h2⟩:=hl.KE _ ver hb;have h1:s.cJ id≠aH:=h1;have h2:∀v' fr' c',s.cJ id=av (.obj v' fr' c')->ver<=v':=h2;by_cases hi:id= .bP k
   ·subst hi;obtain rfl:=hz ver hb;exact⟨by show s1.cJ (.bP k)≠aH;rw[e0];simp,λv' fr' c' hh=>aL _⟩
   ·exact⟨e3 id hi h1,λv' fr' c' hh=>let⟨c0,abE,_⟩:=e2 id v' fr' c' hi hh;h2 _ _ _ abE⟩
  ·obtain⟨fr',c',hc⟩:=hc;have hc:s1.cJ id=av (.obj ver fr' c'):=hc;by_cases hi:id= .bP k
   ·subst hi;obtain rfl:=hz ver hb;rw[e0]at hc;simp only[ax,eJ.obj.injEq]at hc;have e4:=hc.1;obtain rfl:v=0:=aq;exact hl.cur _ _ hb ⟨fr,c,hk⟩
   ·obtain⟨c0,abE,_⟩:=e2 id ver fr' c' hi hc;exact hl.cur _ _ hb ⟨fr',c0,abE⟩
theorem Qu(hC:C.ok):∀(l:List (Nat×Nat)) {s s1:AS},Inv C g β s a w->(aAH s l).eval=av s1->Inv C g β s1 a w
 |[],s,s1,h,he=>by obtain rfl:=aD.1 he;exact h
 |x::l,s,s1,h,he=>by obtain⟨s2,h1,h2⟩:=aC.1 he;exact Qu hC l (aqU hC h h1) h2
theorem rp(hC:C.ok){an:qt}{s1:AS}(h:ka C s a w)(he:(norm P an s).eval=av s1):ka C s1 a w:=by unfold norm at he;obtain⟨sb,bbK,he⟩:=aC.1 he;obtain⟨su,bbL,he⟩:=aC.1 he;obtain⟨sd,aZi,he⟩:=aC.1 he;obtain⟨s0,h1,h2⟩:=aC.1 he;obtain⟨h3,h4⟩:=aR.1 h2;obtain⟨sf,h5,h6⟩:=aC.1 h4;obtain⟨g0,β0,h0⟩:=h;obtain⟨g1,i1,_⟩:=gI an.aA3 (Qu hC _ h0 bbK);obtain⟨g,β,h⟩:=Sr _ (IH _ (alZ _ ⟨g1,β0,(i1.still an.aU5).canon an.aUh⟩ bbL) aZi) h1;exact tT hC _ (WG _ ⟨g,β,h.bg hC h3⟩ h5) h6
end
end Go.Ab
end
