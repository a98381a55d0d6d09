/-
  Made short by a program of mine (wip/tools/mini.py).
-/
import Derived.Test.YtipnkibclflleaaGreatS34x4
import Derived.Test.YtipnkibclflleaaGreatProg
import Derived.Shelf.SlSortCmp.NoneTotal
set_option linter.unusedVariables false
set_option linter.unusedSimpArgs false
set_option maxRecDepth 100000
set_option synthInstance.maxSize 5000
open List renaming replicate->ai,set->fW,length->ae,take->bk,drop->dr
open BitVec renaming ofInt->aX
open Nat renaming beq->ia
open Int renaming toNat_natCast->aa,toNat->ab,toNat_zero->bO
open Or renaming inr->fj,inl->kQ
open Option renaming some->au,none->aH
open Bool renaming true->aO,false->aV
noncomputable section
variable {R:Type}
namespace Go.Ab
open Go.Proofs
def JW:gJ:=([],aO,())
def pU(r:gJ):Prop:=r.1.length<=1000000000/\Bytes r.1
def lP(n:Nat)(r:gJ):List Int×gJ:=if r.2.1=aO\/r.1.length < n then([],JW) else(r.1.take n,(r.1.drop n,r.2))
def Iu(l:List Int):Int:=l.foldl (λn b=>n*256+b) 0
def qf(r:gJ):Int×gJ:=(Iu (lP 8 r).1,(lP 8 r).2)
theorem ZQ:pU JW:=⟨aS _,λx hx=>by cases hx⟩
theorem xJ{n:Nat}{r:gJ}(h:pU r):(lP n r).1.length<=n/\Bytes (lP n r).1/\pU (lP n r).2:=by
 unfold lP;split
 ·exact⟨aS _,λx hx=>(by cases hx),ZQ⟩
 ·refine⟨by rw[bZ];omega,λx hx=>h.2 x (kk hx),?_,λx hx=>h.2 x (List.mem_of_mem_drop hx)⟩;show(r.1.drop n).length<=_;rw[cv];have:=h.1;omega
theorem aoJ(l:List Int)(b:Int):Iu (l++ [b])=Iu l*256+b:=by unfold Iu;rw[List.foldl_append];rfl
theorem aeL:∀(l:List Int) (n:Int) (k:Nat),Bytes l->0<=n->n < 256^k->0<=l.foldl (λn b=>n*256+b) n/\l.foldl (λn b=>n*256+b) n < 256^(k+l.length)
 |[],n,k,_,h0,h1=>⟨h0,h1⟩
 |b::l,n,k,hb,h0,h1=>by obtain⟨aGa,aGb⟩:=hb b aG;have e:(256:Int)^(k+1)=256^k*256:=gg 256 k;have:=aeL l (n*256+b) (k+1) (λx hx=>hb x (aD _ hx)) aq (by rw[e];omega);rw[show k+(b::l).length=k+1+l.length by rw[aB];omega];exact this
theorem alA{l:List Int}(h:Bytes l):0<=Iu l/\Iu l < 256^l.length:=by have:=aeL l 0 0 h (dp 0) eR;rw[aU]at this;exact this
theorem Yk{a b:Nat}(h:a<=b):(256:Int)^a<=256^b:=by have:((256^a:Nat):Int)<=((256^b:Nat):Int):=Int.ofNat_le.2 (Nat.pow_le_pow_right eR h);rw[j9,j9]at this;exact this
theorem aCH{l:List Int}(h:Bytes l)(h8:l.length<=8):mm (Iu l):=by have e:=alA h;have e2:=Yk h8;have e3:(256:Int)^8=18446744073709551616:=rfl;exact⟨e.1,aq⟩
theorem NQ{r:gJ}(h:pU r):mm (qf r).1/\pU (qf r).2:=⟨aCH (xJ h).2.1 (xJ h).1,(xJ h).2.2⟩
theorem aFB{n b:Int}(h0:0<=n)(h1:n < 72057594037927936)(hb:YX b):di .or .u64 (nM .u64 n 8) (dP .u64 b)=n*256+b:=by have e:=(OB (n:=n) (b:=b) ⟨h0,aq⟩ hb).1;rw[uQ 56 (by rfl) aq]at e;have p:(2:Int)^56=72057594037927936:=rfl;rw[p]at e;omega
def apI:gJ->Prop:=λ_=>True
def azy:gJ->gJ:=λ_=>JW
def Ln:Fs Tryz.prog apI bG azy:=gf 145 Tryz.f145 (λo0=>([.ptr (.bF 0) 0 [] 0],[.obj 0 aV (.d rJ o0)])) (λx=>⟨.nil,[.obj 0 aV (.d rJ x)],[]⟩) [aH] [] {JP:=[⟨0,[.arr],rJ⟩]}
theorem avA(o0)(k:K1 R):Ln.A o0 k=k (Ln.out (([]:List Int),(aO,o0.2.2))):=cW
theorem avB:Ln.Ok:=by intro o _;rw[avA];rfl
theorem Nw:Ln.RS:=rE [.d rJ] Ln
def aft:=Ln.gr avB
def Ys:gJ->Int->((gJ)×(Int)):=λo0 y=>(o0,y)
def apL:gJ->Prop:=λ_=>True
def al2:gJ->Int:=λo=>(o.1.length:Int)
def Uf:Fs Tryz.prog apL Ys al2:=gf 120 Tryz.f120 (λo0=>([.ptr (.bF 0) 0 [] 0],[.obj 0 aV (.d rJ o0)])) (λx=>⟨.d ti x.2,[.obj 0 aV (.d rJ x.1)],[]⟩) [aH]
theorem avF(o0)(k:K1 R):Uf.A o0 k=k (Uf.out (o0,(o0.1.length:Int))):=cW
theorem avG:Uf.Ok:=by intro o _;rw[avF];rfl
theorem apM:Uf.RS:=rE [.d rJ] Uf
def avH:=Uf.gr avG
def afv:gJ->Bool->((gJ)×(Bool)):=λo0 y=>(o0,y)
def avK:gJ->Prop:=λ_=>True
def avJ:gJ->Bool:=λo=> !o.2.1
def ajp:Fs Tryz.prog avK afv avJ:=gf 119 Tryz.f119 (λo0=>([.ptr (.bF 0) 0 [] 0],[.obj 0 aV (.d rJ o0)])) (λx=>⟨.d .bool x.2,[.obj 0 aV (.d rJ x.1)],[]⟩) [aH]
theorem azB(o0)(k:K1 R):ajp.A o0 k=k (ajp.out (o0,(!o0.2.1))):=cW
theorem azC:ajp.Ok:=by intro o _;rw[azB];rfl
theorem avL:ajp.RS:=rE [.d rJ] ajp
def azD:=ajp.gr azC
def apR:(Int×gJ)->Prop:=λ(n,o)=>0<=n/\o.1.length<=1000000000
def QJ:(Int×gJ)->(Bs×gJ):=λ(n,o)=>lP n.toNat o
def Fg:Fs Tryz.prog apR bG QJ:=gf 146 Tryz.f146 (λ(n,o0)=>([.ptr (.bF 0) 0 [] 0,.d ti n],[.obj 0 aV (.d rJ o0)])) (λx=>⟨.d tB x.1,[.obj 0 aV (.d rJ x.2)],[]⟩) [aH,au ti] [aft,Mt] {res:=[au tB],JP:=[⟨0,[.arr],rJ⟩]}
theorem avR(n o0)(k:K1 R):Fg.A (n,o0) k=aP (o0.2.1) (ax (Ln.call o0) λx1=>k (Fg.out (([]:List Int),x1))) (aP (wC n (o0.1.length:Int)) (ax (Ln.call o0) λx2=>k (Fg.out (([]:List Int),x2))) (aP (inc n (o0.1.length:Int)) (ax (yn.call (cut o0.1 0 ((ab n) - 0))) λx3=>aP (inc n (o0.1.length:Int)) (aP (decide (0=0/\(0+x3.1)<=(ae x3.2))) (k (Fg.out ((cut x3.2 0 x3.1),((cut o0.1 (ab n) ((ae o0.1) - (ab n))),o0.2)))) aH) aH) aH)):=cW
theorem avS:Fg.Ok:=by
 rintro⟨n,o⟩ ⟨h0,hl⟩;have h0:0<=n:=h0;have hl:o.1.length<=1000000000:=hl;obtain⟨k,rfl⟩:∃k:Nat,n=k:=⟨n.toNat,aq⟩;rw[avR];simp only[bG,QJ,lP,aa,Nat.sub_zero];cases h2:o.2.1
 ·by_cases hn:o.1.length < k
  ·rw[dy aq,if_pos (fj hn),Nw (d:=o) trivial];rfl
  ·have e1:cut o.1 0 k=o.1.take k:=rfl;have e2:cut o.1 k (o.1.length - k)=o.1.drop k:=by unfold cut;rw[bH];rw[cv];omega
   rw[cY aq,if_neg (by intro x;rcases x with x | x;exact absurd x eR;exact hn x),lJ aq aq,e1,e2,HG (d:=o.1.take k) (by show(o.1.take k).length<=_;rw[bZ];omega)];simp only[ao,aj,ag,bG,D7,aU,aC,lH,cQ,fA]
 ·rw[aj,if_pos (kQ rfl),Nw (d:=o) trivial];rfl
theorem ND:Fg.RS:=rE [.d ti,.d rJ] Fg
def Ul:=Fg.gr avS
abbrev NG:=Int×Bs×Int×Int×gJ
def afy:NG->Int->((gJ)×(Int)):=λ(n,t7,t8,t9,nC) y=>(nC,y)
def afx:NG->Prop:=λ(n,l,m,i,o)=>Bytes l/\l.length<=8/\m=l.length/\∃k:Nat,k<=l.length/\i=k/\n=Iu (l.take k)
def apS:NG->Int:=λ(n,l,m,i,o)=>Iu l
def avT:gJ->Prop:=λo=>pU o
def NF:gJ->(Int×gJ):=λo=>qf o
def xE:Ls afx afy apS:=wh (λ(n,t7,t8,t9,nC)=>⟨([cj,cj,cj,.d tu n,cj,cj,cj,.d tB t7,.d ti t8,.d ti t9]++ba 10 []),dz (.d rJ nC),(ai 20 [])⟩) (λx=>(.exit 0,⟨([cj,cj,cj,.d tu x.2]++ba 16 []),dz (.d rJ x.1),(ai 20 [])⟩))
def Lt:Fs Tryz.prog avT bG NF:=gf 118 Tryz.f118 (λo0=>([.ptr (.bF 0) 0 [] 0],[.obj 0 aV (.d rJ o0)])) (λx=>⟨.d tu x.1,[.obj 0 aV (.d rJ x.2)],[]⟩) [aH] [Ul] {loops:=th [(3,{bz:=[3,7,8,9]})],outs:=tg [(3,{bz:=[3]},{bz:=[2]})],iE:=uA [(3,xE.E)]}
theorem afz:xE.RS:=rL [.d tu,.d tB,.d ti,.d ti,.d rJ] xE
theorem Lu(n t7 t8 t9 nC)(kn:K2 R)(kx:K3 R):Lt.R 0 xE (n,t7,t8,t9,nC) kn kx=aP (iG t9 t8) (aP (iO t9 (t7.length:Int)) (kn (xE.st ((di .or .u64 (nM .u64 n 8) (dP .u64 (nth tb t7 (ab t9)))),t7,t8,(bT .i64 t9 1),nC))) aH) (xE.go kx (nC,n)):=cW
theorem azE(o0)(k:K1 R):Lt.A o0 k=ax (Fg.call (8,o0)) λx1=>ax (xE.call (0,x1.1,(x1.1.length:Int),0,x1.2)) λx2=>k (Lt.out (x2.2,x2.1)):=cW
theorem ajr:(Lt.mN 0 xE):=by
 refine(Lt.px 0 xE) (λ(n,l,m,i,o)=>l.length - i.toNat) ?_
 rintro⟨n,l,m,i,o⟩ ⟨hb,h8,rfl,k,hk,rfl,rfl⟩;have h8:l.length<=8:=h8;have hk:k<=l.length:=hk;by_cases h:k < l.length
 ·left;have hx:=hb _ (aZ h);have n1:nth (.int .u8) l k=l[k]:=db (t:= .int .u8) h;have ht:(l.take k).length=k:=by rw[bZ];omega
  have b0:=alA (l:=l.take k) λx hx=>hb x (kk hx)
  rw[ht]at b0;have b1:=Yk (show k<=7 by omega);have b2:(256:Int)^7=72057594037927936:=rfl;refine⟨(Iu (l.take (k+1)),l,l.length,((k+1:Nat):Int),o),⟨hb,h8,rfl,k+1,aq,rfl,rfl⟩,by simp only[aa];omega,rfl,λkn kx=> ?_⟩;rw[Lu,bh aq,bB aq aq,aa,n1,N.pV aq,aFB b0.1 aq hx,List.take_succ_eq_append_getElem h,aoJ];rfl
 ·right;obtain rfl:k=l.length:=aq;intro R kn kx;rw[Lu,aW aq,ao,bU];rfl
theorem azF:Lt.Ok:=by intro o h;have h:pU o:=h;have t:=xJ (n:=8) h;rw[azE,ND (d:=(8,o)) ⟨eR,h.1⟩];simp only[ag,bG,QJ];rw[show ab 8=8 from rfl,afz (d:=(0,(lP 8 o).1,(lP 8 o).1.length,0,(lP 8 o).2)) ⟨t.2.1,t.1,rfl,0,aS _,rfl,rfl⟩];rfl
theorem Fh:Lt.RS:=rE [.d rJ] Lt
def al5:=Lt.gr azF 1 ⟨.iB ajr,trivial⟩
def apN:Bs->Prop:=λb=>b.length<=1000000000
def abk:Bs->gJ:=λb=>(b,aV,())
def PC:Fs Tryz.prog apN bG abk:=gf 112 Tryz.f112 (λb=>([.d tB b],[])) (λx=>⟨.ptr (.new 0 0) 0 [] 0,[],[.obj 0 aV (.d rJ x)]⟩) [au tB] [Mt] {bM:=[6],JP:=[⟨2,[.arr],rJ⟩]}
theorem avM(b)(k:K1 R):PC.A b k=ax (yn.call b) λx1=>aP (decide (0=0/\(0+x1.1)<=(ae x1.2))) (k (PC.out ((cut x1.2 0 x1.1),(aV,())))) aH:=cW
theorem avN:PC.Ok:=by intro b hb;have hb:b.length<=1000000000:=hb;rw[avM,HG (d:=b) (by show b.length<=_;omega)];simp only[ag,bG,D7,aU,aC,lH,cQ,aj,fA];rfl
theorem Yv:PC.RS:=rE [.d tB] PC
def afw:=PC.gr avN
abbrev Uo:=Int×gJ
def CP:Uo->Bool->((Int×gJ)×(Bool)):=λ(o0,o2) y=>((o0,o2),y)
def ajs:Uo->Prop:=λ(a,o)=>0<=a
def Lw:Uo->Bool:=λ(a,o)=>decide (o.1.length<=a.toNat\/8 < a.toNat\/(0 < a.toNat/\nth (.int .u8) o.1 a.toNat=0))
def AW:Fs Tryz.prog ajs CP Lw:=gf 144 Tryz.f144 (λ(o0,o2)=>([.ptr (.bF 0) 0 [] 0,.ptr (.bF 1) 0 [] 0],[.obj 0 aV (.d ti o0),.obj 0 aV (.ptr (.bF 2) 0 [] 0),.obj 0 aV (.d rJ o2)])) (λx=>⟨.d .bool x.2,[.obj 0 aV (.d ti x.1.1),.obj 0 aV (.ptr (.bF 2) 0 [] 0),.obj 0 aV (.d rJ x.1.2)],[]⟩) [aH,aH]
theorem apU(o0 o2)(k:K1 R):AW.A (o0,o2) k=aP (zP o0 (o2.1.length:Int)) (k (AW.out ((o0,o2),aO))) (aP (wC o0 8) (k (AW.out ((o0,o2),aO))) (aP (wC o0 0) (aP (iO o0 (o2.1.length:Int)) (k (AW.out ((o0,o2),(Qw (nth tb o2.1 (ab o0)) 0)))) aH) (k (AW.out ((o0,o2),aV))))):=cW
theorem apV:AW.Ok:=by
 rintro⟨a,o⟩ h0;obtain⟨k,rfl⟩:∃k:Nat,a=k:=⟨a.toNat,by have h0:0<=a:=h0;omega⟩;rw[apU];simp only[CP,Lw,aa];by_cases h1:o.1.length<=k
 ·rw[ik aq,aM (kQ h1)];rfl
 by_cases h2:8 < k
 ·rw[eN aq,dy aq,aM (fj (kQ h2))];rfl
 by_cases h3:0 < k
 ·rw[eN aq,cY aq,dy aq,bB aq aq];simp only[ao,aj];by_cases h4:nth (.int .u8) o.1 k=0
  ·rw[jV h4,aM (fj (fj ⟨h3,h4⟩))]
  ·rw[gQ h4,cz (by rintro(x | x | x);exact h1 x;exact h2 x;exact h4 x.2)]
 ·rw[eN aq,cY aq,cY aq,cz (by rintro(x | x | x);exact h1 x;exact h2 x;exact h3 x.1)];rfl
theorem Up:AW.RS:=rE [.d ti,.d rJ] AW
def apW:=AW.gr apV
def yS:List Int->Nat->Int->(Int×Nat)⊕Unit
 |[],_,_=> .inr ()
 |d::l,a,n=>if 8 < a\/(0 < a/\d=0) then .inr () else if d < 128 then .inl (n+d%128*128^a,a+1) else yS l (a+1) (n+d%128*128^a)
def dB(r:gJ):Int×gJ:=match yS r.1 0 0 with | .inl v=>(v.1,(r.1.drop v.2,r.2)) | .inr _=>(0,JW)
theorem ai6(k:Nat):(128:Int)^k=((128^k:Nat):Int):=by rw[j9];rfl
theorem ado{n d k:Nat}(hk:k<=8)(hn:n < 128^k)(hd:d < 128):di .or .i64 (n:Int) (nM .i64 (d:Int) ((7*k:Nat):Int))=((n+d*128^k:Nat):Int)/\n+d*128^k < 128^(k+1)/\128^(k+1)<=9223372036854775808:=by
 have p:128^k<=128^8:=Nat.pow_le_pow_right eR hk;have p8:128^8=72057594037927936:=rfl;have e1:128^(k+1)=128^k*128:=Nat.pow_succ (n:=128) (m:=k);have e2:2^(7*k)=128^k:=by rw[Nat.pow_mul]
 have e3:d*128^k<=127*128^k:=cT _ aq;refine⟨?_,aq,aq⟩;have s:nM .i64 (d:Int) ((7*k:Nat):Int)=((d*128^k:Nat):Int):=by
  rw[nM];have e:min (ab ((7*k:Nat):Int)) IntKind.i64.bits=7*k:=by simp only[IntKind.bits,aa];omega
  rw[e,show(2:Int)^(7*k)=((2^(7*k):Nat):Int) by rw[j9];rfl,e2,<-j8];exact pZ aq aq
 rw[s];have e:(aX 64 (n:Int) ||| aX 64 ((d*128^k:Nat):Int)).toNat=n+d*128^k:=by
  rw[BitVec.toNat_or];have a:(aX 64 ((d*128^k:Nat):Int)).toNat=2^(7*k)*d:=by rw[iZ,jQ,e2,oW];exact jN (by rw[oW];omega)
  have b:(aX 64 (n:Int)).toNat=n:=by rw[iZ,jQ];exact jN aq
  rw[a,b,Nat.or_comm,<-Nat.two_pow_add_eq_or_of_lt (by rw[e2];exact hn),e2,oW];omega
 show IntKind.i64.wrap ((aX 64 (n:Int) ||| aX 64 ((d*128^k:Nat):Int)).toNat:Int)=_;rw[e];exact pZ aq aq
theorem aaJ:∀(l:List Int) (a:Nat) (n:Int) (v:Int×Nat),Bytes l->a<=9->0<=n->n < 128^a->yS l a n= .inl v->0<=v.1/\v.1 < 9223372036854775808/\a < v.2/\v.2<=a+l.length/\v.2<=9
 |[],a,n,v,_,_,_,_,h=>by cases h
 |d::l,a,n,v,hb,ha,h0,h1,h=>by
  have hx:=hb d aG;obtain⟨x1,x2⟩:=hx;rw[yS]at h;split at h
  ·cases h
  ·rename_i hc;have aIh:a<=8:=aq;rw[ai6]at h1 h;obtain⟨nn,rfl⟩:∃m:Nat,n=m:=⟨n.toNat,aq⟩;obtain⟨dn,aFV⟩:∃m:Nat,d%128=m:=⟨(d%128).toNat,aq⟩;have g:=(ado (n:=nn) (d:=dn) aIh aq aq).2;rw[aFV]at h;have ec:((nn:Int)+(dn:Int)*((128^a:Nat):Int))=((nn+dn*128^a:Nat):Int):=by rw[Int.natCast_add,j8]
   rw[ec]at h;split at h
   ·cases h;simp only[aB];exact⟨aq,aq,aq,aq,aq⟩
   ·have:=aaJ l (a+1) _ v (λx hx=>hb x (aD _ hx)) aq aq (by rw[ai6];omega) h;simp only[aB];exact⟨this.1,this.2.1,aq,aq,this.2.2.2.2⟩
theorem qk{r:gJ}(h:pU r):0<=(dB r).1/\(dB r).1<=9223372036854775807/\pU (dB r).2:=by
 unfold dB;cases hf:yS r.1 0 0 with
 |inl v=>
  have:=aaJ r.1 0 0 v h.2 eR eR eR hf;refine⟨this.1,by have:=this.2.1;show v.1<=_;omega,?_,λx hx=>h.2 x (List.mem_of_mem_drop hx)⟩;show(r.1.drop v.2).length<=_;rw[cv];have:=h.1;omega
 |inr _=>exact⟨dp 0,(show(0:Int)<=9223372036854775807 by decide),ZQ⟩
theorem aeN:∀(f:Nat) (n:Int) (a:Nat) (m:Int) (rest:List Int),0<=n->n < 128^(f+1)->a+f<=8->(a=0\/0 < n)->
  yS ((gH f n).1++(gH f n).2::rest) a m= .inl (m+n*128^a,a+(gH f n).1.length+1)
 | 0,n,a,m,rest,h0,h1,ha,hp=>by have h1:n < 128:=h1;show yS (n::rest) a m=_;rw[yS,if_neg aq,if_pos h1,ff h0 h1];rfl
 |f+1,n,a,m,rest,h0,h1,ha,hp=>by
  rw[gH];have e:(128:Int)^(f+1+1)=128^(f+1)*128:=gg 128 (f+1);split
  ·rename_i h;show yS ((n%128+128)::((gH f (n / 128)).1++(gH f (n / 128)).2::rest)) a m=_;rw[yS,if_neg aq,if_neg aq,aeN f (n / 128) (a+1) _ rest aq aq aq (fj aq)];have e2:(128:Int)^(a+1)=128^a*128:=gg 128 a;have e3:(n%128+128)%128=n%128:=aq;have e4:m+n%128*128^a+n / 128*(128^a*128)=m+n*128^a:=by
    have:n*128^a=(n%128+n / 128*128)*128^a:=by rw[show n%128+n / 128*128=n by omega]
    rw[this,Int.add_mul,Int.mul_assoc (n / 128),rP 128 (128^a),Int.add_assoc]
   rw[e3,e2,e4];simp only[aB];rw[show a+1+(gH f (n / 128)).1.length+1=a+((gH f (n / 128)).1.length+1)+1 by omega]
  ·rename_i h;show yS (n::rest) a m=_;rw[yS,if_neg aq,if_pos aq,ff h0 aq];rfl
theorem EK(n:Int)(h:Dv n)(rest:List Int)(u:Bool×Unit):dB (iD n++rest,u)=(n,(rest,u)):=by
 have h0:=h.1;have h1:=h.2;have e8:(128:Int)^(8+1)=9223372036854775808:=rfl;have e10:(128:Int)^(10+1)=151115727451828646838272:=rfl;have er:gH 10 n=gH 8 n:=Gl 10 8 n (by rw[e10];omega) (by rw[e8];omega);have el:iD n++rest=(gH 8 n).1++(gH 8 n).2::rest:=by unfold iD;rw[er,aK];rfl
 have e:=aeN 8 n 0 0 rest h0 (by rw[e8];omega) eR (kQ rfl);unfold dB;show(match yS (iD n++rest) 0 0 with | .inl v=>(v.1,((iD n++rest).drop v.2,u)) | .inr _=>(0,JW))=_;rw[el,e];show(0+n*128^0,(((gH 8 n).1++(gH 8 n).2::rest).drop (0+(gH 8 n).1.length+1),u))=_;rw[kh,Int.mul_one,Int.zero_add,aU,List.append_cons,ka (by rw[ak];rfl)]
theorem aui(n:Int)(h:mm n):Iu (lS n)=n:=by obtain⟨h0,h1⟩:=h;unfold Iu lS;simp only[bJ,eB];omega
theorem FN(n:Int)(h:mm n)(rest:List Int):qf (lS n++rest,aV,())=(n,(rest,aV,())):=by
 unfold qf lP;have l8:=dv n;rw[if_neg (by
  intro x;rcases x with x | x
  ·have x:aV=aO:=x;cases x
  ·have x:(lS n++rest).length < 8:=x;rw[ak]at x;omega)]
 show(Iu ((lS n++rest).take 8),((lS n++rest).drop 8,aV,()))=_;rw[ke l8,ka l8,aui n h]
abbrev BL:=Int×gJ×Int
def qS:BL->AS:=λ(n,nC,n4)=>⟨([.ptr (.bF 0) 0 [] 0,fa 1,cj,.d ti n,fa 4,.fn 144 (.cons (fa 4) (.cons (fa 1) (.nil)))]++ba 35 []),dz (.d rJ nC),([[],dz (.ptr (.bF 0) 0 [] 0),[],[],dz (.d ti n4)]++bC 36 [])⟩
def Af:gJ->Exit×AS:=λx=>(.ret,⟨([.ptr (.bF 0) 0 [] 0,cj,.d ti (0:Int)]++ba 38 []),dz (.d rJ x),(ai 41 [])⟩)
def rA:(Int×gJ×Int)->Exit×AS:=λ(a,b,c)=>(.exit 0,⟨([.ptr (.bF 0) 0 [] 0,fa 1,cj,.d ti a,fa 4]++ba 36 []),dz (.d rJ b),([[],dz (.ptr (.bF 0) 0 [] 0),[],[],dz (.d ti c)]++bC 36 [])⟩)
abbrev Nz:=(gJ)⊕((Int×gJ×Int))
abbrev Yu:=(gJ)⊕((Int×gJ×Int))
def Ff:Nz->Out (Exit×AS):=λx=> .br x.isLeft (.get x.getLeft? λa=> .ok (Af a)) (.get x.getRight? λb=> .ok (rA b))
def me:BL->Yu->Nz:=λ(n,nC,n4) y=>match y with | .inl y=> .inl y | .inr z=> .inr (z)
def Ae:BL->Prop:=λ(n,o,i)=>pU o/\∃(k m:Nat),k<=9/\i=k/\n=m/\m < 128^k
def rz:BL->Yu:=λ(n,o,i)=>match yS (o.1.drop i.toNat) i.toNat n with | .inl v=> .inr (v.1,o,(v.2:Int)) | .inr _=> .inl JW
def avI:gJ->Prop:=λo=>pU o
def tQ:gJ->(Int×gJ):=λo=>dB o
def Yt:=eA.iB qS Ae me rz Ff
def Lo:BL->Option Nz:=lg Yt qS
def AV:Fs Tryz.prog avI bG tQ:=gf 114 Tryz.f114 (λo0=>([.ptr (.bF 0) 0 [] 0],[.obj 0 aV (.d rJ o0)])) (λx=>⟨.d ti x.1,[.obj 0 aV (.d rJ x.2)],[]⟩) [aH] [apW,aft] {bM:=[1],loops:=th [(3,{bz:=[0,1,3,4,5],sites:=[1,4]})],outs:=tg [(3,{bz:=[0,1,3,4],sites:=[1,4]},{bz:=[0,2]})],iE:=uA [(3,Yt)],JP:=[⟨0,[.arr],rJ⟩]}
def Ny:= @gw Tryz.prog (pS AV.G) AV.an 0 Tryz.f114 0 _ qS
abbrev Ug:=qu Tryz.prog (pS AV.G) AV.an 0 Tryz.f114 0 qS Ae me rz Ff
theorem afu:nK Lo Ae me rz:=tR (sy [.d ti,.d rJ,.d ti] λ_=>cW)
theorem NA:yd @Ny qS Ae me rz Ff Ug:=zr
theorem Lp(n nC n4)(kn:K2 R)(kx:K3 R):Ny (n,nC,n4) kn kx=ax (AW.call (n4,nC)) λx1=>aP (x1.2) (ax (Ln.call x1.1.2) λx2=>kx (Af x2).1 (Af x2).2) (aP (iO x1.1.1 (((ae x1.1.2.1):Nat):Int)) (aP (qN (iT .i64 (7:Int) x1.1.1)) (aP (iG (nth tb x1.1.2.1 (ab x1.1.1)) (128:Int)) (kx (rA ((di .or .i64 n (nM .i64 (dP .i64 (tC (nth tb x1.1.2.1 (ab x1.1.1)) (128:Int))) (iT .i64 (7:Int) x1.1.1))),x1.1.2,(bT .i64 x1.1.1 (1:Int)))).1 (rA ((di .or .i64 n (nM .i64 (dP .i64 (tC (nth tb x1.1.2.1 (ab x1.1.1)) (128:Int))) (iT .i64 (7:Int) x1.1.1))),x1.1.2,(bT .i64 x1.1.1 (1:Int)))).2) (kn (qS ((di .or .i64 n (nM .i64 (dP .i64 (tC (nth tb x1.1.2.1 (ab x1.1.1)) (128:Int))) (iT .i64 (7:Int) x1.1.1))),x1.1.2,(bT .i64 x1.1.1 (1:Int)))))) aH) aH):=cW
theorem azz(o0)(k:K1 R):AV.A o0 k=ax (Lo (0,o0,0)) λx3=>aP x3.isLeft (ax x3.getLeft? λa4=>k (AV.out (0,a4))) (ax x3.getRight? λb5=>aP (inc b5.2.2 (b5.2.1.1.length:Int)) (k (AV.out (b5.1,((cut b5.2.1.1 (ab b5.2.2) ((ae b5.2.1.1) - (ab b5.2.2))),b5.2.1.2)))) aH):=cW
theorem ajo:Ug:=by
 refine NA (λ(n,o,i)=>9 - i.toNat) ?_
 rintro⟨n,o,i⟩ ⟨hr,k,m,hk,rfl,rfl,hm⟩;have hk:k<=9:=hk;have hr:pU o:=hr;by_cases hw:o.1.length<=k\/8 < k\/(0 < k/\nth (.int .u8) o.1 k=0)
 ·right;have hf:yS (o.1.drop k) k (m:Int)= .inr ():=by
   by_cases h:k < o.1.length
   ·have n1:nth (.int .u8) o.1 k=o.1[k]:=db (t:= .int .u8) h;rw[aA h,yS,if_pos (by rw[n1]at hw;rcases hw with x | x | x;exact absurd x aq;exact kQ x;exact fj x)]
   ·rw[gh aq];rfl
  refine⟨Af JW,?_,λkn kx=> ?_⟩
  ·simp only[me,rz,aa,hf];rfl
  ·rw[Lp,Up (d:=((k:Int),o)) (gI k)];simp only[ag,CP,Lw,aa];rw[aM hw,aj,Nw (d:=o) trivial];rfl
 ·have h:k < o.1.length:=aq;have hx:=hr.2 _ (aZ h);obtain⟨x1,x2⟩:=hx;have n1:nth (.int .u8) o.1 k=o.1[k]:=db (t:= .int .u8) h;have hc:¬(8 < k\/(0 < k/\o.1[k]=0)):=λx=>hw (x.elim (λy=> .inr (.inl y)) λy=> .inr (.inr ⟨y.1,n1.trans y.2⟩))
  obtain⟨dn,aFV⟩:∃d:Nat,o.1[k]=d:=⟨o.1[k].toNat,aq⟩;have g:=ado (n:=m) (d:=dn%128) (k:=k) aq hm aq;have step:∀ {R:Type} (kn:AS->Option R) (kx:Exit->AS->Option R),Ny ((m:Int),o,(k:Int)) kn kx=aP (iG o.1[k] 128) (kx (rA (((m+dn%128*128^k:Nat):Int),o,((k+1:Nat):Int))).1 (rA (((m+dn%128*128^k:Nat):Int),o,((k+1:Nat):Int))).2) (kn (qS (((m+dn%128*128^k:Nat):Int),o,((k+1:Nat):Int)))):=by intro R kn kx;rw[Lp,Up (d:=((k:Int),o)) (gI k)];simp only[ag,CP,Lw,aa];rw[cz hw,ao,bB aq aq,n1,aFV,N.aFj aq,vC aq,N.aHI,N.cN aq,g.1,N.pV aq];rfl
  have ef:yS (o.1.drop k) k (m:Int)=if o.1[k] < 128 then .inl (((m+dn%128*128^k:Nat):Int),k+1) else yS (o.1.drop (k+1)) (k+1) ((m+dn%128*128^k:Nat):Int):=by
   have ec:(m:Int)+o.1[k]%128*128^k=((m+dn%128*128^k:Nat):Int):=by rw[aFV,ai6,Int.natCast_add,j8];rfl
   rw[aA h,yS,if_neg hc,ec]
  by_cases hl:o.1[k] < 128
  ·right;refine⟨rA (((m+dn%128*128^k:Nat):Int),o,((k+1:Nat):Int)),?_,λkn kx=> ?_⟩
   ·simp only[me,rz,aa,ef,if_pos hl];rfl
   ·rw[step,bh hl,aj]
  ·left;refine⟨(((m+dn%128*128^k:Nat):Int),o,((k+1:Nat):Int)),⟨hr,k+1,_,aq,rfl,rfl,g.2.1⟩,by simp only[aa];omega,?_,λkn kx=> ?_⟩
   ·simp only[me,rz,aa,ef,if_neg hl]
   ·rw[step,aW hl,ao]
theorem azA:AV.Ok:=by
 intro o h;have h:pU o:=h;rw[azz,afu (d:=(0,o,0)) ⟨h,0,0,eR,rfl,rfl,eR⟩];simp only[ag,me,rz,bO,aN,bG,tQ,dB];cases hf:yS o.1 0 0 with
 |inl v=>
  have g:=aaJ o.1 0 0 v h.2 eR eR eR hf;have e2:cut o.1 v.2 (o.1.length - v.2)=o.1.drop v.2:=by unfold cut;rw[bH];rw[cv];omega
  simp only[ig,fP,ao,ag,aa];rw[lJ aq aq,aj,e2]
 |inr _=>rfl
theorem oE:AV.RS:=rE [.d rJ] AV
def QI:=AV.gr azA 1 ⟨.iB ajo,trivial⟩
theorem gj{a b:List Int}(ha:Bytes a)(hb:Bytes b):Bytes (a++b):=λx hx=>by
 rcases bp.1 hx with h | h
 ·exact ha x h
 ·exact hb x h
theorem Ui:∀(f:Nat) (n:Int),0<=n->n < 128^(f+1)->Bytes (gH f n).1/\YX (gH f n).2
 | 0,n,h0,h1=>by have h1:n < 128:=h1;exact⟨λx hx=>(by cases hx),h0,by show n < 256;omega⟩
 |f+1,n,h0,h1=>by
  have e:(128:Int)^(f+1+1)=128^(f+1)*128:=gg 128 (f+1);rw[gH];split
  ·have ih:=Ui f (n / 128) aq aq;refine⟨λx hx=> ?_,ih.2⟩;rcases bA.1 hx with rfl | hx
   ·exact⟨aq,aq⟩
   ·exact ih.1 x hx
  ·exact⟨λx hx=>(by cases hx),h0,by show n < 256;omega⟩
theorem kg{n:Int}(h:Dv n):Bytes (iD n):=by have e10:(128:Int)^(10+1)=151115727451828646838272:=rfl;obtain⟨h0,h1⟩:=h;have:=Ui 10 n h0 (by rw[e10];omega);unfold iD;exact gj this.1 λx hx=>by rw[bf]at hx;subst hx;exact this.2
theorem aef:∀(ks:List Int) (o:List Int),tf o ks=o++ks.flatMap lS
 |[],o=>by rw[oS,bo];rfl
 |k::ks,o=>by show tf (o++lS k) ks=_;rw[aef ks,dg,aK]
theorem aih(ks:List Int):Bytes (ks.flatMap lS):=λx hx=>by obtain⟨k,_,hk⟩:=iP.1 hx;exact Bg k x hk
def awP(b:rI):List Int:=iD b.1.length++(b.1.flatMap lS++(iD b.2.1++(iD b.2.2.1++lS b.2.2.2.1)))
theorem QH(o:List Int){n:Int}(h:0<=n):eX o n=o++iD n:=by rw[eX,if_neg aq]
structure aA6(b:rI):Prop where
 len:b.1.length<=12
 af:Dv b.2.1
 dl:Dv b.2.2.1
theorem aBp{b:rI}(h:Dw b=aO):aA6 b:=by unfold Dw MT at h;simp only[al,aR]at h;obtain⟨h1,_,h2,h3,_⟩:=h;exact⟨h1,⟨h2.1,aq⟩,⟨h3.1,aq⟩⟩
theorem sD{n:Nat}(h:n<=1000000000):Dv (n:Int):=⟨aq,aq⟩
theorem aBn(o:List Int){b:rI}(h:aA6 b):awO o b=o++awP b:=by unfold awO awP;rw[QH _ (gI _),aef,QH _ h.af.1,QH _ h.dl.1];simp only[aK]
theorem akA:∀(bs:List rI) (o:List Int),(∀b∈bs,aA6 b)->bs.foldl awO o=o++bs.flatMap awP
 |[],o,_=>by rw[oS,bo];rfl
 |b::bs,o,h=>by rw[bJ,aBn o (h b aG),akA bs _ λx hx=>h x (aD _ hx),dg,aK]
theorem aiq{l:Lk}(h:ju l=aO):(∀b∈l.1,aA6 b)/\0 < l.1.length/\l.1.length<=4:=by unfold ju at h;simp only[al,dj,aR]at h;exact⟨λb hb=>aBp (h.1 b hb),h.2⟩
theorem atG{l:Lk}(h:ju l=aO):M3 l=iD l.1.length++l.1.flatMap awP:=by unfold M3;rw[if_pos h,akA _ _ (aiq h).1,QH _ (gI _),aT]
theorem amR{b:rI}(h:aA6 b):Bytes (awP b):=
 have aqT:=h.len
 gj (kg (sD aq)) (gj (aih _) (gj (kg h.af) (gj (kg h.dl) (Bg _))))
theorem aoh(l:Lk):Bytes (M3 l):=by
 cases h:ju l
 ·unfold M3;rw[h,if_neg eR];exact λx hx=>(by cases hx)
 ·have hk:=aiq h;rw[atG h];refine gj (kg (sD aq)) λx hx=> ?_
  obtain⟨b,hb,hx⟩:=iP.1 hx;exact amR (hk.1 b hb) x hx
theorem ajj{b:List Int}(h:Bytes b)(hl:b.length<=1000000000)(u:Bool×Unit):pU (b,u):=⟨hl,h⟩
abbrev Ba:=Bs×Bs×Int×Int
def qz:Ba->AS:=λ(ajt,aju,t12,t13)=>⟨([.d tB ajt,.d tB aju]++ba 10 ([.d ti t12,.d ti t13]++ba 12 [])),[],(ai 26 [])⟩
def qU:Unit->Exit×AS:=λx=>(.ret,⟨(ba 4 ([.d .bool aV]++ba 21 [])),[],(ai 26 [])⟩)
def zu:Unit->Exit×AS:=λx=>(.exit 0,⟨(ba 26 []),[],(ai 26 [])⟩)
abbrev Ml:=(Unit)⊕(Unit)
abbrev W2:=(Unit)⊕(Unit)
def DN:Ml->Out (Exit×AS):=λx=> .br x.isLeft (.get x.getLeft? λa=> .ok (qU a)) (.get x.getRight? λb=> .ok (zu b))
def lU:Ba->W2->Ml:=λ(ajt,aju,t12,t13) y=>match y with | .inl y=> .inl y | .inr z=> .inr (z)
def zt:Ba->Prop:=λ(a,b,m,i)=>a.length<=1000000000/\a.length=b.length/\m=a.length/\∃k:Nat,k<=a.length/\i=k
def qT:Ba->W2:=λ(a,b,m,i)=>if a.drop i.toNat=b.drop i.toNat then .inr () else .inl ()
def aro:(Bs×Bs)->Prop:=λ(a,b)=>a.length<=1000000000
def agW:(Bs×Bs)->Bool:=λ(a,b)=>decide (a=b)
def W1:=eA.iB qz zt lU qT DN
def Jk:Ba->Option Ml:=lg W1 qz
def Mi:Fs Tryz.prog aro bG agW:=gf 147 Tryz.f147 (λ(s1,s2)=>([.d tB s1,.d tB s2],[])) (λx=>⟨.d .bool x,[],[]⟩) [au tB,au tB] [] {loops:=th [(4,{bz:=[0,1,12,13]})],outs:=tg [(4,{},{bz:=[4]})],iE:=uA [(4,W1)]}
def Mj:= @gw Tryz.prog (pS Mi.G) Mi.an 0 Tryz.f147 0 _ qz
abbrev Q2:=qu Tryz.prog (pS Mi.G) Mi.an 0 Tryz.f147 0 qz zt lU qT DN
theorem acB:nK Jk zt lU qT:=tR (sy [.d tB,.d tB,.d ti,.d ti] λ_=>cW)
theorem Mm:yd @Mj qz zt lU qT DN Q2:=zr
theorem Jl(ajt aju t12 t13)(kn:K2 R)(kx:K3 R):Mj (ajt,aju,t12,t13) kn kx=aP (iG t13 t12) (aP (iO t13 (((ae ajt):Nat):Int)) (aP (iO t13 (((ae aju):Nat):Int)) (aP (DF (nth tb ajt (ab t13)) (nth tb aju (ab t13))) (kx (qU ()).1 (qU ()).2) (kn (qz (ajt,aju,t12,(bT .i64 t13 (1:Int)))))) aH) aH) (kx (zu ()).1 (zu ()).2):=cW
theorem axb(s1 s2)(k:K1 R):Mi.A (s1,s2) k=aP (DF (s1.length:Int) (s2.length:Int)) (k (Mi.out aV)) (ax (Jk (s1,s2,(s1.length:Int),0)) λx1=>aP x1.isLeft (ax x1.getLeft? λa2=>k (Mi.out aV)) (ax x1.getRight? λb3=>k (Mi.out aO))):=cW
theorem agX:Q2:=by
 refine Mm (λ(a,b,m,i)=>a.length - i.toNat) ?_
 rintro⟨a,b,m,i⟩ ⟨hl,anP,rfl,k,hk,rfl⟩;have hl:a.length<=1000000000:=hl;have anP:a.length=b.length:=anP;have hk:k<=a.length:=hk;by_cases h:k < a.length
 ·have h2:k < b.length:=aq;have n1:nth (.int .u8) a k=a[k]:=db (t:=(.int .u8)) h;have n2:nth (.int .u8) b k=b[k]:=db (t:=(.int .u8)) h2;have hd:(a.drop k=b.drop k)=(a[k]=b[k]/\a.drop (k+1)=b.drop (k+1)):=by rw[aA h,aA h2,cD]
  have step:∀ {R:Type} (kn:AS->Option R) (kx:Exit->AS->Option R),Mj (a,b,(a.length:Int),(k:Int)) kn kx=if a[k]=b[k] then kn (qz (a,b,(a.length:Int),((k+1:Nat):Int))) else kx (qU ()).1 (qU ()).2:=by
   intro R kn kx;rw[Jl,bh aq,bB aq aq,bB aq aq,aa,n1,n2,N.pV aq];simp only[aj];by_cases hx:a[k]=b[k]
   ·rw[dX hx,if_pos hx];rfl
   ·rw[fY hx,if_neg hx];rfl
  by_cases hx:a[k]=b[k]
  ·left;refine⟨(a,b,(a.length:Int),((k+1:Nat):Int)),⟨hl,anP,rfl,k+1,aq,rfl⟩,by simp only[aa];omega,?_,λkn kx=> ?_⟩
   ·simp only[lU,qT,aa,hd,hx,true_and]
   ·rw[step,if_pos hx]
  ·right;refine⟨qU (),?_,λkn kx=> ?_⟩
   ·simp only[lU,qT,aa,hd,hx,false_and,cK];rfl
   ·rw[step,if_neg hx]
 ·right;obtain rfl:k=a.length:=aq;refine⟨zu (),?_,λkn kx=> ?_⟩
  ·simp only[lU,qT,aa,bj];rw[anP,bj,if_pos rfl];rfl
  ·rw[Jl,aW aq,ao]
theorem axc:Mi.Ok:=by
 rintro⟨a,b⟩ hl;have hl:a.length<=1000000000:=hl;rw[axb];simp only[bG,agW];by_cases h:a.length=b.length
 ·rw[dX aq,ao,acB (d:=(a,b,(a.length:Int),0)) ⟨hl,h,rfl,0,aS _,rfl⟩];simp only[ag,lU,qT,bO,aN];by_cases hx:a=b
  ·rw[if_pos hx,aM hx];rfl
  ·rw[if_neg hx,cz hx];rfl
 ·rw[fY aq,cz (λx=>h (by rw[x]))];rfl
theorem arp:Mi.RS:=rE [.d tB,.d tB] Mi
def axd:=Mi.gr axc 1 ⟨.iB agX,trivial⟩
def rh:Nat->gJ->List Int×gJ
 | 0,r=>([],r)
 |k+1,r=>((qf r).1::(rh k (qf r).2).1,(rh k (qf r).2).2)
def Be(k:Nat)(r:gJ):rI×gJ:=(((rh k r).1,(dB (rh k r).2).1,(dB (dB (rh k r).2).2).1,(qf (dB (dB (rh k r).2).2).2).1,()),(qf (dB (dB (rh k r).2).2).2).2)
def Bf:Nat->Int->gJ->List rI
 | 0,_,_=> []
 |f+1,n,r=>if 0 < n then(if f=0\/12 < (dB r).1 then [] else(Be (dB r).1.toNat (dB r).2).1::Bf f (n - 1) (Be (dB r).1.toNat (dB r).2).2) else []
def rv(b:List Int):List rI:=Bf 5 (dB (b,aV,())).1 (dB (b,aV,())).2
theorem aak:∀(k:Nat) (r:gJ),pU r->A8 (rh k r).1/\(rh k r).1.length=k/\pU (rh k r).2
 | 0,r,h=>⟨λx hx=>(by cases hx),rfl,h⟩
 |k+1,r,h=>by
  have e:=NQ h;have ih:=aak k _ e.2;refine⟨λx hx=> ?_,by rw[rh,aB,ih.2.1],ih.2.2⟩;rcases bA.1 hx with rfl | hx
  ·exact e.1
  ·exact ih.1 x hx
theorem akx(k:Nat)(r:gJ)(h:pU r):aAg (Be k r).1/\(Be k r).1.1.length=k/\pU (Be k r).2:=by have h1:=aak k r h;have h2:=qk h1.2.2;have h3:=qk h2.2.2;have h4:=NQ h3.2.2;exact⟨⟨h1.1,h4.1⟩,h1.2.1,h4.2⟩
theorem arD:∀(f:Nat) (n:Int) (r:gJ),pU r->(∀b∈Bf f n r,aAg b)/\(Bf f n r).length<=f
 | 0,n,r,h=>⟨λx hx=>(by cases hx),aC _⟩
 |f+1,n,r,h=>by
  have h1:=qk h;have h2:=akx (dB r).1.toNat _ h1.2.2;have ih:=arD f (n - 1) _ h2.2.2;rw[Bf];split
  ·split
   ·exact⟨λx hx=>(by cases hx),aS _⟩
   ·refine⟨λx hx=> ?_,by rw[aB];omega⟩;rcases bA.1 hx with rfl | hx
    ·exact h2.1
    ·exact ih.1 x hx
  ·exact⟨λx hx=>(by cases hx),aS _⟩
theorem alY{b:List Int}(h:Bytes b)(hl:b.length<=1000000000):amm (rv b,())/\(rv b).length<=5:=by have e:=arD 5 (dB (b,aV,())).1 _ (qk (ajj h hl (aV,()))).2.2;exact⟨e.1,e.2⟩
theorem XR:∀(ks:List Int) (rest:List Int),A8 ks->rh ks.length (ks.flatMap lS++rest,aV,())=(ks,(rest,aV,()))
 |[],rest,_=>rfl
 |k::ks,rest,h=>by
  have e:qf ((k::ks).flatMap lS++rest,aV,())=(k,(ks.flatMap lS++rest,aV,())):=by rw[dg,aK];exact FN k (h k aG) _
  have ih:=XR ks rest λx hx=>h x (aD _ hx)
  rw[aB,rh,e,ih]
theorem amG(b:rI)(hb:aAg b)(hk:aA6 b)(rest:List Int):Be b.1.length (b.1.flatMap lS++(iD b.2.1++(iD b.2.2.1++(lS b.2.2.2.1++rest))),aV,())=(b,(rest,aV,())):=by unfold Be;rw[XR _ _ hb.1];simp only[];rw[EK _ hk.af,EK _ hk.dl,FN _ hb.2]
theorem arC(b:rI)(rest:List Int):awP b++rest=iD b.1.length++(b.1.flatMap lS++(iD b.2.1++(iD b.2.2.1++(lS b.2.2.2.1++rest)))):=by unfold awP;simp only[aK]
theorem acL:∀(bs:List rI) (f:Nat) (rest:List Int),(∀b∈bs,aAg b)->(∀b∈bs,aA6 b)->bs.length+1<=f->Bf f bs.length (bs.flatMap awP++rest,aV,())=bs
 |[],0,rest,_,_,h=>absurd h (by simp)
 |[],f+1,rest,_,_,_=>by rw[Bf,if_neg (by show ¬(0:Int) < ((0:Nat):Int);omega)]
 |b::bs,0,rest,_,_,h=>absurd h (by simp)
 |b::bs,f+1,rest,hu,hk,h=>by
  have ub:=hu b aG;have kb:=hk b aG;have h:bs.length+1+1<=f+1:=h;have e:(b::bs).flatMap awP++rest=iD b.1.length++(b.1.flatMap lS++(iD b.2.1++(iD b.2.2.1++(lS b.2.2.2.1++(bs.flatMap awP++rest))))):=by rw[dg,aK,arC]
  have aqT:=kb.len;rw[Bf,if_pos (by rw[aB];omega),e,EK _ (sD aq)];simp only[aa];rw[if_neg aq,amG b ub kb];simp only[];rw[show((b::bs).length:Int) - 1=(bs.length:Int) by rw[aB];omega,acL bs f rest (λx hx=>hu x (aD _ hx)) (λx hx=>hk x (aD _ hx)) aq]
theorem apE{l:Lk}(hu:amm l)(iS:ju l=aO)(rest:List Int):rv (M3 l++rest)=l.1:=by have hk:=aiq iS;unfold rv;rw[atG iS,aK,EK _ (sD aq)];exact acL l.1 5 rest hu hk.1 aq
def Dh(b:List Int):Lk×Bool:=if ju (rv b,())=aO/\M3 (rv b,())=b then((rv b,()),aO) else(([],()),aV)
theorem Yq{l:Lk}(hu:amm l)(iS:ju l=aO):Dh (M3 l)=(l,aO):=by
 have e:rv (M3 l)=l.1:=by have e:=apE hu iS [];rw[bo]at e;exact e
 unfold Dh;rw[e];have e2:((l.1,()):Lk)=l:=rfl;rw[e2,if_pos ⟨iS,rfl⟩]
theorem avs{b:List Int}(h:(Dh b).2=aO):∃l:Lk,ju l=aO/\M3 l=b/\Dh b=(l,aO)/\l=(rv b,()):=by
 unfold Dh at h ⊢;split at h
 ·rename_i hc;exact⟨(rv b,()),hc.1,hc.2,by rw[if_pos hc],rfl⟩
 ·cases h
abbrev SC:=Bs×Int×Int×Nat×gJ×(List rI)
abbrev Ij:=Bs×Int×Int×Int×Int×Nat×Nat×(Int×(Int×(Int×Unit)))×gJ×(List Int)×(List rI)
abbrev SD:=Nat×gJ×(List Int)
def xn:Ij->SD->((Bs×Int×Int×Nat×(Int×(Int×(Int×Unit)))×(List rI))×(Nat×gJ×(List Int))):=λ(Qk,G4,ak8,t27,t28,Te,ayM,n8,X2,n35,Tc) y=>((Qk,G4,ak8,Te,n8,Tc),y)
def aav:Ij->Prop:=λ(b,n,i,t,j,m1,m2,x,r,ks,bs)=>pU r/\ks.length=m2/\m2<=1000/\∃k c:Nat,j=k/\t=c/\k<=c/\c<=12/\m2=k
def Cs:Ij->SD:=λ(b,n,i,t,j,m1,m2,x,r,ks,bs)=>(m2+(t - j).toNat,(rh (t - j).toNat r).2,ks++(rh (t - j).toNat r).1)
def aat:SC->Prop:=λ(b,n,i,m,r,bs)=>pU r/\n<=9223372036854775807/\bs.length=m/\∃k:Nat,i=k/\k<=4/\m=k
def yL:SC->(Bs×Nat×(List rI)):=λ(b,n,i,m,r,bs)=>(b,m+(Bf (5 - i.toNat) (n - i) r).length,bs++Bf (5 - i.toNat) (n - i) r)
def aoo:Bs->Prop:=λb=>Bytes b/\b.length<=1000000000
def aas:Bs->(Lk×Bool):=λb=>Dh b
def ot:Ls aat bG yL:=wh (λ(yh,n,i,aCz,n11,n51)=>⟨([.d tB yh,cj,fa 2,cj,fa 11,fa 5,.d ti n,.d ti i]++ba 57 []),[],([[],[],dz (.pr (.dd) oc),[],[],dz (.pr (lq 51 aCz) oc)]++bC 5 ([dz (.d rJ n11)]++bC 39 ([dz (.vec 121 pT n51)]++bC 13 [])))⟩) (λx=>(.exit 0,⟨([.d tB x.1,cj,fa 2,cj,cj,fa 5]++ba 59 []),[],([[],[],dz (.pr (.dd) oc),[],[],dz (.pr (lq 51 x.2.1) oc)]++bC 45 ([dz (.vec 121 pT x.2.2)]++bC 13 []))⟩))
def sA:Ls aav xn Cs:=wh (λ(Qk,G4,ak8,t27,t28,Te,ayM,n8,X2,n35,Tc)=>⟨([.d tB Qk,cj,fa 2,cj,fa 11,fa 5,.d ti G4,.d ti ak8,fa 8]++ba 18 ([.d ti t27,.d ti t28]++ba 36 [])),[],([[],[],dz (.pr (.dd) oc),[],[],dz (.pr (lq 51 Te) oc),[],[],dz (.pr (lq 35 ayM) (.d (.pair ti (.pair ti (.pair tu .unit))) n8)),[],[],dz (.d rJ X2)]++bC 23 ([dz (.vec 59 tu n35)]++bC 15 ([dz (.vec 121 pT Tc)]++bC 13 [])))⟩) (λx=>(.exit 2,⟨([.d tB x.1.1,cj,fa 2,cj,fa 11,fa 5,.d ti x.1.2.1,.d ti x.1.2.2.1,fa 8]++ba 56 []),[],([[],[],dz (.pr (.dd) oc),[],[],dz (.pr (lq 51 x.1.2.2.2.1) oc),[],[],dz (.pr (lq 35 x.2.1) (.d (.pair ti (.pair ti (.pair tu .unit))) x.1.2.2.2.2.1)),[],[],dz (.d rJ x.2.2.1)]++bC 23 ([dz (.vec 59 tu x.2.2.2)]++bC 15 ([dz (.vec 121 pT x.1.2.2.2.2.2)]++bC 13 [])))⟩))
def yK:Fs Tryz.prog aoo bG aas:=gf 116 Tryz.f116 (λb=>([.d tB b],[])) (λx=>⟨.cons (.d I9 x.1) (.cons (.d .bool x.2) (.nil)),[],[]⟩) [au tB] [afw,QI,al5,xX,XU,axd] {loops:=th [(5,{bz:=[0,2,4,5,6,7],sites:=[2,5,11,51],owns:=[⟨5,[.fst],51,32⟩]}),(11,{bz:=[0,2,4,5,6,7,8,27,28],sites:=[2,5,8,11,35,51],owns:=[⟨8,[.fst],35,98⟩]})],outs:=tg [(5,{bz:=[0,2,5],sites:=[2,5,51]},{bz:=[2,3]}),(11,{bz:=[0,2,4,5,6,7,8],sites:=[2,5,8,11,35,51]},{bz:=[2,3]})],iE:=uA [(5,ot.E),(11,sA.E)],res:=[au I9,aH]}
theorem aau:ot.RS:=rL [.d tB,.d ti,.d ti,.n,.d rJ,.d (.slice pT)] ot
theorem AG(yh n i aCz n11 n51)(kn:K2 R)(kx:K3 R):yK.R 0 ot (yh,n,i,aCz,n11,n51) kn kx=aP (iG i n) (ax (AV.call n11) λu5=>aP (Qw i 4) (ot.go kx (yh,aCz,n51)) (aP (wC u5.1 12) (ot.go kx (yh,aCz,n51)) (ax (sA.call (yh,n,i,u5.1,0,aCz,0,(0,(0,(0,()))),u5.2,([]:List Int),n51)) λL4=>ax (AV.call L4.2.2.1) λaFI=>ax (AV.call aFI.2) λaH4=>ax (Lt.call aH4.2) λaH6=>aP (decide (0=0/\(0+L4.2.1)<=(ae L4.2.2.2))) (aP (decide (L4.1.2.2.2.1<=(ae L4.1.2.2.2.2.2))) (aP (dI (L4.1.2.2.2.1+1) 48) (kn (ot.st (L4.1.1,L4.1.2.1,(bT .i64 L4.1.2.2.1 1),(L4.1.2.2.2.1+1),aH6.2,((bk L4.1.2.2.2.1 L4.1.2.2.2.2.2)++ [((cut L4.2.2.2 0 L4.2.1),(aFI.1,(aH4.1,(aH6.1,L4.1.2.2.2.2.1.2.2.2))))])))) aH) aH) aH))) (ot.go kx (yh,aCz,n51)):=cW
theorem aaw:sA.RS:=rL [.d tB,.d ti,.d ti,.d ti,.d ti,.n,.n,.d (.pair ti (.pair ti (.pair tu .unit))),.d rJ,.d tU,.d (.slice pT)] sA
theorem G2(Qk G4 ak8 t27 t28 Te ayM n8 X2 n35 Tc)(kn:K2 R)(kx:K3 R):yK.R 1 sA (Qk,G4,ak8,t27,t28,Te,ayM,n8,X2,n35,Tc) kn kx=aP (iG t28 t27) (ax (Lt.call X2) λx4=>aP (decide (ayM<=(ae n35))) (aP (dI (ayM+1) 8) (kn (sA.st (Qk,G4,ak8,t27,(bT .i64 t28 1),Te,(ayM+1),n8,x4.2,((bk ayM n35)++ [x4.1]),Tc))) aH) aH) (sA.go kx ((Qk,G4,ak8,Te,n8,Tc),(ayM,X2,n35))):=cW
theorem atT(b)(k:K1 R):yK.A b k=ax (PC.call b) λx4=>ax (AV.call x4) λx6=>ax (ot.call (b,x6.1,0,0,x6.2,([]:List rI))) λaqO=>aP (decide (0=0/\(0+aqO.2.1)<=(ae aqO.2.2))) (ax (nB.call ((cut aqO.2.2 0 aqO.2.1),())) λaHX=>aP (!aHX) (k (yK.out ((([]:List rI),()),aV))) (aP (decide (0=0/\(0+aqO.2.1)<=(ae aqO.2.2))) (ax (qK.call ((cut aqO.2.2 0 aqO.2.1),())) λaHY=>ax (Mi.call (aHY,aqO.1)) λaHZ=>aP (!aHZ) (k (yK.out ((([]:List rI),()),aV))) (aP (decide (0=0/\(0+aqO.2.1)<=(ae aqO.2.2))) (k (yK.out (((cut aqO.2.2 0 aqO.2.1),()),aO))) aH)) aH)) aH:=cW
theorem aer:(yK.mN 1 sA):=by
 refine(yK.px 1 sA) (λ(b,n,i,t,j,m1,m2,x,r,ks,bs)=>(t - j).toNat) ?_
 rintro⟨b,n,i,t,j,m1,m2,x,r,ks,bs⟩ ⟨hr,aB6,hm,k,c,rfl,rfl,aKf,hc,ata⟩;have hr:pU r:=hr;have aB6:ks.length=m2:=aB6;have ata:m2=k:=ata;by_cases h:k < c
 ·left;have e1:((c:Int) - (k:Int)).toNat=(c - (k+1))+1:=aq;have e2:((c:Int) - ((k+1:Nat):Int)).toNat=c - (k+1):=aq;refine⟨(b,n,i,(c:Int),((k+1:Nat):Int),m1,m2+1,x,(qf r).2,ks++ [(qf r).1],bs),⟨(NQ hr).2,by rw[ak];show ks.length+1=_;omega,aq,k+1,c,rfl,rfl,aq,hc,aq⟩,by show((c:Int) - ((k+1:Nat):Int)).toNat < ((c:Int) - (k:Int)).toNat;omega,?_,λkn kx=> ?_⟩
  ·simp only[xn,Cs,e1,e2,rh,aK,cC];rw[show m2+1+(c - (k+1))=m2+(c - (k+1)+1) by omega]
  ·rw[G2,bh aq,Fh (d:=r) hr];simp only[ag,aj,bG,NF];rw[aM aq,dN aq aq,N.pV aq,bH aq];rfl
 ·right;obtain rfl:k=c:=aq;intro R kn kx;rw[G2,aW aq,ao];simp only[xn,Cs,Int.sub_self,bO,rh,bo,ct]
theorem aeq:(yK.mN 0 ot):=by
 refine(yK.px 0 ot) (λ(b,n,i,m,r,bs)=>5 - i.toNat) ?_
 rintro⟨b,n,i,m,r,bs⟩ ⟨hr,hn,aIk,k,rfl,hk,ata⟩;have hr:pU r:=hr;have hn:n<=9223372036854775807:=hn;have aIk:bs.length=m:=aIk;have ata:m=k:=ata;have e0:5 - (k:Int).toNat=(4 - k)+1:=by rw[aa];omega
 have g1:=qk hr;by_cases h:(k:Int) < n
 ·have hp:0 < n - (k:Int):=aq;by_cases hc:4 - k=0\/12 < (dB r).1
  ·right;intro R kn kx;have eb:Bf ((4 - k)+1) (n - (k:Int)) r=[]:=by rw[Bf,if_pos hp,if_pos hc]
   rw[AG,bh h,oE (d:=r) hr];simp only[ag,aj,bG,tQ,bG,yL,e0,eb,bw,ct,bo];by_cases h4:(k:Int)=4
   ·rw[jV h4,aj]
   ·rw[gQ h4,ao,dy aq,aj]
  ·left;have h4:¬(k:Int)=4:=aq;have aJj:¬(dB r).1 > 12:=aq;obtain⟨c,aIm⟩:∃c:Nat,(dB r).1=c:=⟨(dB r).1.toNat,aq⟩;have adO:=akx c _ g1.2.2;have gk:=aak c _ g1.2.2;have ga:=qk gk.2.2;have gd:=qk ga.2.2;have eb:Bf ((4 - k)+1) (n - (k:Int)) r=(Be c (dB r).2).1::Bf (4 - k) (n - (k:Int) - 1) (Be c (dB r).2).2:=by rw[Bf,if_pos hp,if_neg hc,aIm,aa]
   have e1:5 - ((k+1:Nat):Int).toNat=4 - k:=by rw[aa];omega
   refine⟨(b,n,((k+1:Nat):Int),m+1,(Be c (dB r).2).2,bs++ [(Be c (dB r).2).1]),⟨adO.2.2,hn,by rw[ak];show bs.length+1=_;omega,k+1,rfl,aq,aq⟩,by simp only[aa];omega,?_,λkn kx=> ?_⟩
   ·simp only[bG,yL,e0,e1,eb,aK,cC,aB];rw[show n - ((k+1:Nat):Int)=n - (k:Int) - 1 by omega,show m+1+(Bf (4 - k) (n - (k:Int) - 1) (Be c (dB r).2).2).length=m+((Bf (4 - k) (n - (k:Int) - 1) (Be c (dB r).2).2).length+1) by omega]
   ·rw[AG,bh h,oE (d:=r) hr];simp only[ag,aj,bG,tQ];rw[gQ h4,ao,cY aJj,ao,aIm,aaw (d:=(b,n,(k:Int),(c:Int),0,m,0,(0,0,0,()),(dB r).2,[],bs)) ⟨g1.2.2,rfl,eR,0,c,rfl,rfl,aS _,aq,rfl⟩];simp only[ag,xn,Cs,oP,aa,aU,aT];rw[oE (d:=(rh c (dB r).2).2) gk.2.2];simp only[ag,bG,tQ];rw[oE (d:=(dB (rh c (dB r).2).2).2) ga.2.2];simp only[ag,bG,tQ];rw[Fh (d:=(dB (dB (rh c (dB r).2).2).2).2) gd.2.2];simp only[ag,bG,NF];rw[aM ⟨by trivial,by rw[gk.2.1];exact aC _⟩,aM aq,dN aq aq,N.pV aq,bH aq,fA gk.2.1];rfl
 ·right;intro R kn kx;have eb:Bf ((4 - k)+1) (n - (k:Int)) r=[]:=by rw[Bf,if_neg aq]
  rw[AG,aW h,ao];simp only[bG,yL,e0,eb,bw,ct,bo]
theorem atU:yK.Ok:=by
 rintro b ⟨hb,hl⟩;have hb:Bytes b:=hb;have hl:b.length<=1000000000:=hl;have g0:=ajj hb hl (aV,());have g1:=qk g0;have gu:=alY hb hl;rw[atT,Yv (d:=b) hl];simp only[ag,bG,abk];rw[oE (d:=(b,aV,())) g0];simp only[ag,bG,tQ];rw[aau (d:=(b,(dB (b,aV,())).1,0,0,(dB (b,aV,())).2,[])) ⟨g1.2.2,g1.2.1,rfl,0,rfl,eR,rfl⟩];simp only[ag,bG,yL,bO,Nat.sub_zero,oP,aU,aT,aC,lH,cQ,aj,fA];rw[show Bf 5 (dB (b,aV,())).1 (dB (b,aV,())).2=rv b from rfl];have hL1:((rv b,()):Lk).1.length<=1000000000:=by show(rv b).length<=_;omega
 rw[tE (d:=(rv b,())) ⟨gu.1,ko hL1 eR⟩];simp only[ag,bG,yM,bG,aas,Dh];cases iS:ju (rv b,())
 ·rw[if_neg (by rintro⟨x,_⟩;cases x)];rfl
 ·rw[Sq (d:=(rv b,())) ⟨gu.1,ko hL1 eR⟩];simp only[bR,ao,ag,bG,Kk];rw[arp (d:=(M3 (rv b,()),b)) (by show(M3 _).length<=_;have:=Km (rv b,());omega)];simp only[ag,bG,agW];by_cases hx:M3 (rv b,())=b
  ·rw[aM hx,if_pos ⟨by trivial,hx⟩];rfl
  ·rw[cz hx,if_neg (λy=>hx y.2)];rfl
theorem aoq:yK.RS:=rE [.d tB] yK
def atV:=yK.gr atU 2 ⟨.iB aeq,⟨.iB aer,trivial⟩⟩
def Em(r:gJ):List Int×gJ:=((lP 32 r).1++dr (lP 32 r).1.length (ai 32 (0:Int)),(lP 32 r).2)
def Dx(r:gJ):List Int×gJ:=if(dB r).2.2.1=aO then([],(dB r).2) else lP (dB r).1.toNat (dB r).2
def I5(most:Int)(r:gJ):Int×gJ:=(if(dB r).1 > most then -1 else(dB r).1,(dB r).2)
def aAQ(r:gJ):dC×gJ:=(((Em r).1,(dB (Em r).2).1,()),(dB (Em r).2).2)
def Gx:Nat->gJ->List dC×gJ
 | 0,r=>([],r)
 |k+1,r=>((aAQ r).1::(Gx k (aAQ r).2).1,(Gx k (aAQ r).2).2)
def Tu(r:gJ):jo×gJ:=(((dB r).1,(Dh (Dx (dB r).2).1).1,()),(Dx (dB r).2).2)
def Dg:Nat->gJ->Option (List jo×gJ)
 | 0,r=>au ([],r)
 |k+1,r=>if(Dh (Dx (dB r).2).1).2=aO then(match Dg k (Tu r).2 with
  |some x=>au ((Tu r).1::x.1,x.2)
  |none=>aH) else aH
def aAW(r:gJ):Sg×gJ:=(((qf r).1,(qf (qf r).2).1,()),(qf (qf r).2).2)
def CS:Nat->gJ->List Sg×gJ
 | 0,r=>([],r)
 |k+1,r=>((aAW r).1::(CS k (aAW r).2).1,(CS k (aAW r).2).2)
def tX(r:gJ):List Sg×gJ:=CS (I5 12 (dB r).2).1.toNat (I5 12 (dB r).2).2
def akc(r:gJ):Option (QQ×gJ):=if(I5 12 (dB r).2).1 < 0 then aH else au (((dB r).1,(tX r).1,(qf (tX r).2).1,()),(qf (tX r).2).2)
def Du:List dC->gJ->Option (List gU×gJ)
 |[],r=>au ([],r)
 |o::l,r=>match akc r with
  |none=>aH
  |some w=>match Du l w.2 with
   |none=>aH
   |some x=>au ((o,w.1,())::x.1,x.2)
def aCF:fN×Bool:=(([],[],0,()),aV)
def asD(n m:Int)(t:fN)(r:gJ):fN×Bool:=if n < 0\/m < 0\/r.2.1=aO\/0 < r.1.length\/iF t=aV then aCF else(t,aO)
def at4(n m:Int)(ops:List dC)(os:List jo)(r:gJ):fN×Bool:=match Du ops (dB r).2 with
 |none=>aCF
 |some x=>asD n m (x.1,os,(dB r).1,()) x.2
def abi(b:List Int):fN×Bool:=
 let n:=I5 64 (b,aV,())
 let ops:=Gx n.1.toNat n.2
 let m:=I5 64 ops.2
 match Dg m.1.toNat m.2 with
 |none=>aCF
 |some x=>at4 n.1 m.1 ops.1 x.1 x.2
def aiG(o:dC):List Int:=o.1++iD o.2.1
def BH(o:jo):List Int:=iD o.1++(iD (M3 o.2.1).length++M3 o.2.1)
def aqZ(s:Sg):List Int:=lS s.1++lS s.2.1
def A6(w:QQ):List Int:=iD w.1++(iD w.2.1.length++(w.2.1.flatMap aqZ++lS w.2.2.1))
def aGj(t:fN):List Int:=iD t.1.length++(t.1.flatMap (λx=>aiG x.1)++(iD t.2.1.length++(t.2.1.flatMap BH++(iD t.2.2.1++t.1.flatMap λx=>A6 x.2.1))))
theorem Bo{α:Type}(f:List Int->α->List Int)(w:α->List Int):∀(l:List α) (b:List Int),(∀x∈l,∀b,f b x=b++w x)->l.foldl f b=b++l.flatMap w
 |[],b,_=>by simp
 |x::l,b,h=>by rw[bJ,h x aG,Bo f w l _ λy hy=>h y (aD _ hy),dg,aK]
theorem y7(b:List Int){n:Int}(h:0<=n):eX b n=b++iD n:=by unfold eX;rw[if_neg aq]
theorem awy{t:fN}(iS:iF t=aO):az1 t=aGj t:=by
 obtain⟨⟨_,a2,a3,a4⟩,b1,b2⟩:=lQ iS;have e1:∀b,t.1.foldl Qx b=b++t.1.flatMap λx=>aiG x.1:=λb=>Bo _ _ _ _ λx hx b=>by have:=Cn (om _ _ b1 x hx);unfold Qx aiG;rw[y7 _ this.1,aK]
 have e2:∀b,t.2.1.foldl Qf b=b++t.2.1.flatMap BH:=λb=>Bo _ _ _ _ λo ho b=>by have:=(mC _ _ b2 o ho).1;unfold Qf BH;rw[y7 _ this.1,aK]
 have e3:∀(l:List Sg) b,l.foldl Ur b=b++l.flatMap aqZ:=λl b=>Bo _ _ _ _ λs _ b=>by unfold Ur aqZ;rw[aK]
 have e4:∀b,t.1.foldl akb b=b++t.1.flatMap λx=>A6 x.2.1:=λb=>Bo _ _ _ _ λx hx b=>by have:=Cn (om _ _ b1 x hx);unfold akb A6;rw[e3,y7 _ this.2.2.1,y7 _ aq];simp only[aK]
 unfold az1 wm aGj;rw[if_pos iS,e4,y7 _ a4,e2,y7 _ aq,e1,y7 _ aq,aT];simp only[aK]
theorem YN{n:Nat}(a rest:List Int)(h:a.length=n):lP n (a++rest,aV,())=(a,(rest,aV,())):=by
 unfold lP;rw[if_neg (by
  intro x;rcases x with x | x
  ·cases x
  ·have x:(a++rest).length < n:=x;rw[ak]at x;omega)]
 show((a++rest).take n,((a++rest).drop n,aV,()))=_;rw[ke h,ka h]
theorem anQ(a rest:List Int)(h:a.length=32):Em (a++rest,aV,())=(a,(rest,aV,())):=by unfold Em;rw[YN a rest h];simp only[h];rw[show dr 32 (ai 32 (0:Int))=[] from rfl,bo]
theorem BE(n:Int)(h:Dv n)(rest:List Int):dB (iD n++rest,aV,())=(n,(rest,aV,())):=EK n h rest _
theorem arG(a rest:List Int)(h:a.length<=1000000000):Dx (iD a.length++(a++rest),aV,())=(a,(rest,aV,())):=by unfold Dx;rw[BE _ (sD aq)];simp only[cd,cK,aa];exact YN a rest rfl
theorem abW{n m:Int}(h:Dv n)(hm:n<=m)(rest:List Int):I5 m (iD n++rest,aV,())=(n,(rest,aV,())):=by unfold I5;rw[BE n h];simp only[if_neg (show ¬n > m by omega)]
theorem aeV:∀(l:List dC) (rest:List Int),(∀o∈l,o.1.length=32/\Dv o.2.1)->Gx l.length (l.flatMap aiG++rest,aV,())=(l,(rest,aV,()))
 |[],rest,_=>rfl
 |o::l,rest,h=>by
  obtain⟨h1,h2⟩:=h o aG;have e:aAQ ((o::l).flatMap aiG++rest,aV,())=(o,(l.flatMap aiG++rest,aV,())):=by unfold aAQ aiG;rw[dg,aK,aK,anQ _ _ h1];simp only[];rw[BE _ h2]
  rw[aB,Gx,e,aeV l rest λx hx=>h x (aD _ hx)]
theorem Yf:∀(l:List jo) (rest:List Int),(∀o∈l,Dv o.1/\ju o.2.1=aO/\amm o.2.1)->Dg l.length (l.flatMap BH++rest,aV,())=au (l,(rest,aV,()))
 |[],rest,_=>rfl
 |o::l,rest,h=>by
  obtain⟨h1,h2,h3⟩:=h o aG;have hl:=Km o.2.1;have e0:dB ((o::l).flatMap BH++rest,aV,())=(o.1,(iD (M3 o.2.1).length++(M3 o.2.1++(l.flatMap BH++rest)),aV,())):=by rw[dg];unfold BH;simp only[aK];exact BE _ h1 _
  have e1:Dx (dB ((o::l).flatMap BH++rest,aV,())).2=(M3 o.2.1,(l.flatMap BH++rest,aV,())):=by rw[e0];exact arG _ _ aq
  have e2:Tu ((o::l).flatMap BH++rest,aV,())=(o,(l.flatMap BH++rest,aV,())):=by unfold Tu;rw[e1,e0,Yq h3 h2]
  rw[aB,Dg,e1,Yq h3 h2,if_pos rfl,e2,Yf l rest λx hx=>h x (aD _ hx)]
theorem afK:∀(l:List Sg) (rest:List Int),(∀s∈l,mm s.1/\mm s.2.1)->CS l.length (l.flatMap aqZ++rest,aV,())=(l,(rest,aV,()))
 |[],rest,_=>rfl
 |s::l,rest,h=>by
  obtain⟨h1,h2⟩:=h s aG;have e:aAW ((s::l).flatMap aqZ++rest,aV,())=(s,(l.flatMap aqZ++rest,aV,())):=by unfold aAW aqZ;rw[dg,aK,aK,FN _ h1];simp only[];rw[FN _ h2]
  rw[aB,CS,e,afK l rest λx hx=>h x (aD _ hx)]
theorem awI(w:QQ)(rest:List Int)(hw:Vm w)(hb:Dv w.1)(aqT:w.2.1.length<=12):akc (A6 w++rest,aV,())=au (w,(rest,aV,())):=by
 have e0:dB (A6 w++rest,aV,())=(w.1,(iD w.2.1.length++(w.2.1.flatMap aqZ++(lS w.2.2.1++rest)),aV,())):=by unfold A6;simp only[aK];exact BE _ hb _
 have e1:I5 12 (dB (A6 w++rest,aV,())).2=((w.2.1.length:Int),(w.2.1.flatMap aqZ++(lS w.2.2.1++rest),aV,())):=by rw[e0];exact abW (sD aq) aq _
 have e2:tX (A6 w++rest,aV,())=(w.2.1,(lS w.2.2.1++rest,aV,())):=by unfold tX;rw[e1];exact afK _ _ hw.1
 unfold akc;rw[e1,if_neg (by show ¬(w.2.1.length:Int) < 0;omega),e2,e0];simp only[];rw[FN _ hw.2]
theorem YV:∀(l:List gU) (rest:List Int),(∀x∈l,Vm x.2.1/\Dv x.2.1.1/\x.2.1.2.1.length<=12)->Du (l.map (·.1)) (l.flatMap (λx=>A6 x.2.1)++rest,aV,())=au (l,(rest,aV,()))
 |[],rest,_=>rfl
 |x::l,rest,h=>by obtain⟨h1,h2,h3⟩:=h x aG;rw[dg,aK,bn,Du,awI _ _ h1 h2 h3];simp only[];rw[YV l rest λy hy=>h y (aD _ hy)]
theorem ajl{t:fN}(hv:A7 t)(iS:iF t=aO):abi (az1 t)=(t,aO):=by
 obtain⟨⟨a1,a2,a3,a4⟩,b1,b2⟩:=lQ iS;have ak3:∀x∈t.1,_:=λx hx=>Cn (om _ _ b1 x hx)
 have aJs:=hv.2.2;rw[awy iS];have e1:=abW (n:=(t.1.length:Int)) (m:=64) (sD aq) aq (t.1.flatMap (λx=>aiG x.1)++(iD t.2.1.length++(t.2.1.flatMap BH++(iD t.2.2.1++t.1.flatMap λx=>A6 x.2.1))));have ef:t.1.flatMap (λx=>aiG x.1)=(t.1.map (·.1)).flatMap aiG:=by rw[List.flatMap_map]
 have e2:=aeV (t.1.map (·.1)) (iD t.2.1.length++(t.2.1.flatMap BH++(iD t.2.2.1++t.1.flatMap λx=>A6 x.2.1))) λo ho=>by obtain⟨x,hx,rfl⟩:=cr.1 ho;exact⟨(hv.2.1 x hx).1.1,(ak3 x hx).1,by have:=(ak3 x hx).2.1;omega⟩
 rw[<-ef,bg]at e2;have e3:=abW (n:=(t.2.1.length:Int)) (m:=64) (sD aq) aq (t.2.1.flatMap BH++(iD t.2.2.1++t.1.flatMap λx=>A6 x.2.1));have e4:=Yf t.2.1 (iD t.2.2.1++t.1.flatMap λx=>A6 x.2.1) λo ho=>by have:=mC _ _ b2 o ho;exact⟨⟨this.1.1,aq⟩,this.2,(hv.1.1 o ho).1⟩
 have e5:=BE t.2.2.1 ⟨a4,aJs⟩ (t.1.flatMap λx=>A6 x.2.1);have e6:=YV t.1 [] λx hx=>⟨(hv.2.1 x hx).2.1,⟨(ak3 x hx).2.2.1,by have:=(ak3 x hx).2.2.2.1;omega⟩,(ak3 x hx).2.2.2.2⟩
 rw[bo]at e6;unfold abi aGj;simp only[e1,aa,e2,e3,e4];unfold at4;simp only[e5,e6];unfold asD;rw[if_neg];rintro(x | x | x | x | x)
 ·omega
 ·omega
 ·cases x
 ·simp at x
 ·rw[show((t.1,t.2.1,t.2.2.1,()):fN)=t from rfl,iS]at x;cases x
def rT(r:gJ):Prop:=pU r/\(r.2.1=aO->r.1=[])
def Ov(r r':gJ)(e:List Int):Prop:=rT r'/\(r'.2.1=aV->r.2.1=aV/\r.1=e++r'.1)
theorem Ov.trans{r r1 r2:gJ}{e1 e2:List Int}(h1:Ov r r1 e1)(h2:Ov r1 r2 e2):Ov r r2 (e1++e2):=
 ⟨h2.1,λh=>⟨(h1.2 (h2.2 h).1).1,by rw[(h1.2 (h2.2 h).1).2,(h2.2 h).2,aK]⟩⟩
theorem Ov.of{r r':gJ}{e e':List Int}(h:Ov r r' e)(he:r'.2.1=aV->e=e'):Ov r r' e':=⟨h.1,λh'=>by rw[<-he h'];exact h.2 h'⟩
theorem Ov.refl{r:gJ}(h:rT r):Ov r r []:=⟨h,λh'=>⟨h',rfl⟩⟩
theorem axQ:rT JW:=⟨ZQ,λ_=>rfl⟩
theorem adw(r:gJ)(e:List Int):Ov r JW e:=⟨axQ,λh=>by cases h⟩
theorem azx{b:List Int}(hb:Bytes b)(hl:b.length<=1000000000):rT (b,aV,()):=⟨ajj hb hl (aV,()),λh=>by cases h⟩
theorem UJ{r:gJ}(h:rT r)(n:Nat):Ov r (lP n r).2 (lP n r).1/\((lP n r).2.2.1=aV->(lP n r).1.length=n):=by
 have hb:=(xJ (n:=n) h.1).2.2
 revert hb
 unfold lP;split
 ·exact λ_=>⟨adw _ _,λh=>by cases h⟩
 ·rename_i hc;intro hb;have h1:r.2.1=aV:=by cases hr:r.2.1 with | false=>rfl | true=>exact absurd (kQ hr) hc
  have h2:¬r.1.length < n:=λx=>hc (fj x)
  exact⟨⟨⟨hb,λ(hx:r.2.1=aO)=>by rw[h1]at hx;cases hx⟩,λ_=>⟨h1,(da n r.1).symm⟩⟩,λ_=>by show(r.1.take n).length=n;rw[bZ];omega⟩
theorem Uk(f:Nat){d:Int}(h:d < 128):gH f d=([],d):=by
 cases f with
 |zero=>rfl
 |succ f=>rw[gH,if_neg aq]
theorem aeM:∀(l:List Int) (a:Nat) (n:Int) (v:Int×Nat),Bytes l->a<=9->yS l a n= .inl v->
  ∃w rest,v.1=n+w*128^a/\0<=w/\(a=0\/0 < w)/\w < 128^(9 - a)/\l=(gH (8 - a) w).1++(gH (8 - a) w).2::rest/\v.2=a+(gH (8 - a) w).1.length+1
 |[],a,n,v,_,_,h=>by cases h
 |d::l,a,n,v,hb,ha,h=>by
  obtain⟨x1,x2⟩:=hb d aG;rw[yS]at h;split at h
  ·cases h
  rename_i hc;have aIh:a<=8:=aq;have e9:(128:Int)^(9 - a)=128^(8 - a)*128:=by rw[show 9 - a=(8 - a)+1 by omega];exact gg 128 (8 - a)
  have p8:(0:Int) < 128^(8 - a):=Int.pow_pos eR;split at h
  ·rename_i hd;cases h;refine⟨d,l,by rw[ff x1 hd],x1,aq,aq,?_,?_⟩
   ·rw[Uk _ hd];rfl
   ·rw[Uk _ hd];rfl
  ·rename_i hd;obtain⟨w,rest,e1,w0,w1,w2,e2,e3⟩:=aeM l (a+1) _ v (λx hx=>hb x (aD _ hx)) aq h;have w1:0 < w:=aq;rw[show 9 - (a+1)=8 - a by omega]at w2;have aKb:a<=7:=by
    by_cases h8:a=8
    ·rw[h8]at w2;have:(128:Int)^(8 - 8)=1:=rfl;omega
    ·omega
   have er:gH (8 - a) (d%128+128*w)=((d%128+128)::(gH (8 - (a+1)) w).1,(gH (8 - (a+1)) w).2):=by rw[show 8 - a=(8 - (a+1))+1 by omega,gH,if_pos aq,show(d%128+128*w)%128=d%128 by omega,show(d%128+128*w) / 128=w by omega]
   refine⟨d%128+128*w,rest,?_,aq,aq,aq,?_,?_⟩
   ·rw[e1,gg,Int.add_mul,Int.add_assoc,rP 128 w,Int.mul_assoc w,rP 128]
   ·rw[er,e2,show d%128+128=d by omega];rfl
   ·rw[er,e3];simp only[aB];omega
theorem ql{r:gJ}(h:rT r):Ov r (dB r).2 (iD (dB r).1)/\((dB r).2.2.1=aV->Dv (dB r).1):=by
 have hk:=qk h.1
 revert hk
 unfold dB;cases hf:yS r.1 0 0 with
 |inr _=>exact λ_=>⟨adw _ _,λh=>by cases h⟩
 |inl v=>
  intro hk;obtain⟨w,rest,e1,w0,_,w2,e2,e3⟩:=aeM r.1 0 0 v h.1.2 eR hf;have h1:r.2.1=aV:=by
   cases hr:r.2.1 with
   |false=>rfl
   |true=>rw[h.2 hr]at hf;cases hf
  have ew:v.1=w:=by rw[e1,kh];omega
  have e9:(128:Int)^(9 - 0)=9223372036854775808:=rfl;have e8:(128:Int)^(8+1)=9223372036854775808:=rfl;have e10:(128:Int)^(10+1)=151115727451828646838272:=rfl;have er:gH 10 w=gH 8 w:=Gl 10 8 w (by rw[e10];omega) (by rw[e8];omega);have en:iD v.1=(gH 8 w).1++ [(gH 8 w).2]:=by rw[ew];unfold iD;rw[er]
  refine⟨⟨⟨hk.2.2,λ(hx:r.2.1=aO)=>by rw[h1]at hx;cases hx⟩,λ_=>⟨h1,?_⟩⟩,λ_=>⟨hk.1,hk.2.1⟩⟩;show r.1=iD v.1++r.1.drop v.2;rw[en,e3,aK]
  conv=>rhs;rw[e2]
  rw[List.append_cons,aU,ka (by rw[ak];rfl)];exact e2
theorem arn{l:List Int}(h:l.length=8)(hb:Bytes l):lS (Iu l)=l:=by
 match l,h with
 |[a,b,c,d,e,f,g,i],_=>
  have h0:=hb a (by simp);have h1:=hb b (by simp);have h2:=hb c (by simp);have h3:=hb d (by simp);have h4:=hb e (by simp);have h5:=hb f (by simp);have h6:=hb g (by simp);have h7:=hb i (by simp);unfold YX at h0 h1 h2 h3 h4 h5 h6 h7;unfold lS Iu;simp only[bJ,eB];congr 1
  ·omega
  congr 1
  ·omega
  congr 1
  ·omega
  congr 1
  ·omega
  congr 1
  ·omega
  congr 1
  ·omega
  congr 1
  ·omega
  congr 1;omega
theorem Gq{r:gJ}(h:rT r):Ov r (qf r).2 (lS (qf r).1):=by have e:=UJ h 8;exact e.1.of λhk=>(arn (e.2 hk) (xJ h.1).2.1).symm
theorem adN{r:gJ}(h:rT r):Ov r (Em r).2 (Em r).1:=by
 have e:=UJ h 32;refine e.1.of λhk=> ?_
 unfold Em;simp only[e.2 hk];rw[show dr 32 (ai 32 (0:Int))=[] from rfl,bo]
theorem as6{r:gJ}(h:pU r):Sm (Em r).1:=by
 have e:=xJ (n:=32) h;refine⟨?_,gj e.2.1 λx hx=> ?_⟩
 ·show((lP 32 r).1++dr (lP 32 r).1.length (ai 32 (0:Int))).length=32;rw[ak,cv,cq];have:=e.1;omega
 ·obtain rfl:=(mi.1 (List.mem_of_mem_drop hx)).2;exact⟨eR,eR⟩
theorem Zj{r:gJ}(h:rT r):Ov r (Dx r).2 (iD (Dx r).1.length++(Dx r).1)/\Bytes (Dx r).1/\(Dx r).1.length<=1000000000:=by
 have e:=ql h;unfold Dx;split
 ·rename_i hc;exact⟨⟨e.1.1,λhk=>by rw[hc]at hk;cases hk⟩,λx hx=>(by cases hx),aS _⟩
 ·rename_i hc;have hc:(dB r).2.2.1=aV:=by simpa using hc
  have t:=UJ e.1.1 (dB r).1.toNat;have tb:=xJ (n:=(dB r).1.toNat) e.1.1.1;have n0:=(e.2 hc).1;refine⟨(e.1.trans t.1).of λhk=> ?_,tb.2.1,?_⟩
  ·rw[t.2 hk,Int.toNat_of_nonneg n0]
  ·have hl:(lP (dB r).1.toNat (dB r).2).1.length<=(dB r).2.1.length:=by
    unfold lP;split
    ·exact aS _
    ·show((dB r).2.1.take _).length<=_;rw[bZ];omega
   have:=e.1.1.1.1;omega
theorem aDh{r:gJ}(h:rT r){m:Int}(h0:0<=(I5 m r).1):Ov r (I5 m r).2 (iD (I5 m r).1)/\(I5 m r).1<=m:=by
 have e:=ql h;unfold I5 at h0 ⊢;by_cases hc:(dB r).1 > m
 ·simp only[if_pos hc]at h0;omega
 ·simp only[if_neg hc];exact⟨e.1,aq⟩
theorem amg{r:gJ}(h:rT r)(m:Int):rT (I5 m r).2:=(ql h).1.1
theorem amf{r:gJ}(h:pU r){m:Int}(hm:0<=m): -1<=(I5 m r).1/\(I5 m r).1<=m:=by
 have:=(qk h).1;unfold I5;split
 ·exact⟨aq,by show(-1:Int)<=m;omega⟩
 ·rename_i hc;have hc:¬(dB r).1 > m:=hc;exact⟨by show -1<=(dB r).1;omega,by show(dB r).1<=m;omega⟩
theorem alF:∀(k:Nat) {r:gJ},rT r->Ov r (Gx k r).2 ((Gx k r).1.flatMap aiG)/\(Gx k r).1.length=k/\∀o∈(Gx k r).1,Sm o.1
 | 0,r,h=>⟨Ov.refl h,rfl,λx hx=>by cases hx⟩
 |k+1,r,h=>by
  have e1:=adN h;have e2:=ql e1.1;have ih:=alF k (r:=(aAQ r).2) e2.1.1;refine⟨?_,by rw[Gx,aB,ih.2.1],λo ho=> ?_⟩
  ·have:=(e1.trans e2.1).trans ih.1;rw[Gx,dg];exact this
  ·rcases bA.1 ho with rfl | ho
   ·exact as6 h.1
   ·exact ih.2.2 o ho
theorem aCO{r:gJ}(h:rT r):rT (Tu r).2:=(Zj (ql h).1.1).1.1
theorem aeX:∀(k:Nat) {r:gJ} {x:List jo×gJ},rT r->Dg k r=au x->Ov r x.2 (x.1.flatMap BH)/\x.1.length=k/\∀o∈x.1,o.1<=9223372036854775807/\ju o.2.1=aO/\agE o.2.1
 | 0,r,x,h,hx=>by cases hx;exact⟨Ov.refl h,rfl,λx hx=>by cases hx⟩
 |k+1,r,x,h,hx=>by
  rw[Dg]at hx;split at hx
  ·rename_i hr;split at hx
   ·rename_i y hy;cases hx;have e1:=ql h;have e2:=Zj e1.1.1;have ih:=aeX k (aCO h) hy;obtain⟨l,hl,aB7,he,hle⟩:=avs hr;have hu:=alY e2.2.1 e2.2.2;have el:(Tu r).1.2.1=l:=by show(Dh (Dx (dB r).2).1).1=l;rw[he]
    refine⟨?_,by rw[aB,ih.2.1],λo ho=> ?_⟩
    ·have:=(e1.1.trans e2.1).trans ih.1;rw[dg];unfold BH;rw[el,aB7];exact this
    ·rcases bA.1 ho with rfl | ho
     ·refine⟨(qk h.1).2.1,by rw[el];exact hl,?_⟩;rw[el,hle];exact⟨hu.1,by show(rv _).length<=_;omega⟩
     ·exact ih.2.2 o ho
   ·cases hx
  ·cases hx
theorem abp:∀(k:Nat) {r:gJ},rT r->Ov r (CS k r).2 ((CS k r).1.flatMap aqZ)/\(CS k r).1.length=k/\∀s∈(CS k r).1,aBc s
 | 0,r,h=>⟨Ov.refl h,rfl,λx hx=>by cases hx⟩
 |k+1,r,h=>by
  have e1:=Gq h;have e2:=Gq e1.1;have ih:=abp k (r:=(aAW r).2) e2.1;refine⟨?_,by rw[CS,aB,ih.2.1],λo ho=> ?_⟩
  ·have:=(e1.trans e2).trans ih.1;rw[CS,dg];exact this
  ·rcases bA.1 ho with rfl | ho
   ·exact⟨(NQ h.1).1,(NQ e1.1.1).1⟩
   ·exact ih.2.2 o ho
theorem ami{r:gJ}(h:rT r):rT (tX r).2/\(tX r).1.length<=12/\∀s∈(tX r).1,aBc s:=by have e1:=ql h;have ih:=abp (I5 12 (dB r).2).1.toNat (amg e1.1.1 12);have:=amf e1.1.1.1 (m:=12) eR;exact⟨ih.1.1,by show(CS _ _).1.length<=12;rw[ih.2.1];omega,ih.2.2⟩
theorem aAc{r:gJ}{w:QQ×gJ}(h:rT r)(hw:akc r=au w):Ov r w.2 (A6 w.1)/\Vm w.1/\w.1.2.1.length<=12:=by
 unfold akc at hw;split at hw
 ·cases hw
 ·rename_i hc;cases hw;have e1:=ql h;have hc:0<=(I5 12 (dB r).2).1:=aq;have e2:=aDh e1.1.1 hc;have e3:=abp (I5 12 (dB r).2).1.toNat e2.1.1;have g:=ami h;have e4:=Gq g.1;have hl:((tX r).1.length:Int)=(I5 12 (dB r).2).1:=by show((CS _ _).1.length:Int)=_;rw[e3.2.1];omega
  have:=((e1.1.trans e2.1).trans e3.1).trans e4;refine⟨this.of λ_=> ?_,⟨g.2.2,(NQ g.1.1).1⟩,g.2.1⟩;unfold A6;simp only[hl,aK];rfl
theorem agq:∀(l:List dC) {r:gJ} {x:List gU×gJ},rT r->Du l r=au x->Ov r x.2 (x.1.flatMap λy=>A6 y.2.1)/\x.1.map (·.1)=l/\∀y∈x.1,Vm y.2.1/\y.2.1.2.1.length<=12
 |[],r,x,h,hx=>by cases hx;exact⟨Ov.refl h,rfl,λx hx=>by cases hx⟩
 |o::l,r,x,h,hx=>by
  rw[Du]at hx;split at hx
  ·cases hx
  ·rename_i w hw;have e:=aAc h hw;split at hx
   ·cases hx
   ·rename_i y hy;cases hx;have ih:=agq l e.1.1 hy;refine⟨?_,by rw[bn,ih.2.1],λz hz=> ?_⟩
    ·have:=e.1.trans ih.1;rw[dg];exact this
    ·rcases bA.1 hz with rfl | hz
     ·exact e.2
     ·exact ih.2.2 z hz
def awY(o:dC):Am:=(o,(0,aH,0,()),())
def aGc(x:gU):Am:=(x.1,(x.2.1.1,au x.2.1.2.1,x.2.1.2.2),())
def aHV(x:Am):gU:=(x.1,(x.2.1.1,x.2.1.2.1.getD [],x.2.1.2.2),())
theorem aBv(l:List Am):aDt (.slice qe) (.slice gB) l=l.map aHV:=cW
theorem aDe(l:List gU):(l.map aGc).map aHV=l:=by rw[oT];have:(aHV∘aGc)=id:=rfl;rw[this,List.map_id]
theorem ayT{t:Ty}{l:List t.den}{k:Nat}{y:t.den}(h:k < l.length):nth t (l.set k y) k=y:=by simp[nth,h]
theorem ayS{t:Ty}{a b:List t.den}{k:Nat}{y:t.den}(h:a.length=k):nth t (a++y::b) k=y:=by subst h;simp[nth]
theorem azI{α:Type}{a b:List α}{k:Nat}{y z:α}(h:a.length=k):(a++y::b).set k z=a++z::b:=by subst h;simp
theorem aqj{α:Type}{l:List α}{k:Nat}{y:α}:(l.set k y).take k=l.take k:=by rw[List.take_set,List.set_eq_of_length_le (by rw[bZ];omega)]
theorem ans{α:Type}{l:List α}{k:Nat}{y:α}:(l.set k y).drop (k+1)=l.drop (k+1):=List.drop_set_of_lt aq
def apJ:gJ->Prop:=λr=>pU r
def al1:gJ->(Bs×gJ):=λr=>Em r
def Uc:Fs Tryz.prog apJ bG al1:=gf 115 Tryz.f115 (λo0=>([.ptr (.bF 0) 0 [] 0],[.obj 0 aV (.d rJ o0)])) (λx=>⟨.d tH x.1,[.obj 0 aV (.d rJ x.2)],[]⟩) [aH] [Ul]
theorem avC(o0)(k:K1 R):Uc.A o0 k=ax (Fg.call (32,o0)) λx1=>aP (decide ((ae x1.1)<=32)) (k (Uc.out ((x1.1++(dr (ae x1.1) (ai 32 0))),x1.2))) aH:=cW
theorem avD:Uc.Ok:=by intro r h;have h:pU r:=h;have e:=(xJ (n:=32) h).1;rw[avC,ND (d:=(32,r)) ⟨eR,h.1⟩];simp only[ag,bG,QJ];rw[show ab 32=32 from rfl,aM e];rfl
theorem apK:Uc.RS:=rE [.d rJ] Uc
def avE:=Uc.gr avD
def ajh:gJ->Prop:=λr=>pU r
def T6:gJ->(Bs×gJ):=λr=>Dx r
def Fb:Fs Tryz.prog ajh bG T6:=gf 117 Tryz.f117 (λo0=>([.ptr (.bF 0) 0 [] 0],[.obj 0 aV (.d rJ o0)])) (λx=>⟨.d tB x.1,[.obj 0 aV (.d rJ x.2)],[]⟩) [aH] [QI,Ul] {res:=[au tB],JP:=[⟨0,[.arr],rJ⟩]}
theorem apB(o0)(k:K1 R):Fb.A o0 k=ax (AV.call o0) λx1=>aP (x1.2.2.1) (k (Fb.out (([]:List Int),x1.2))) (ax (Fg.call (x1.1,x1.2)) λx2=>k (Fb.out (x2.1,x2.2))):=cW
theorem apC:Fb.Ok:=by
 intro r h;have h:pU r:=h;have e:=qk h;rw[apB,oE (d:=r) h];simp only[ag,bG,tQ,bG,T6,Dx];cases hc:(dB r).2.2.1
 ·rw[ao,ND (d:=((dB r).1,(dB r).2)) ⟨e.1,e.2.2.1⟩];rfl
 ·rfl
theorem aji:Fb.RS:=rE [.d rJ] Fb
def apD:=Fb.gr apC
def aqB:(Int×gJ)->Prop:=λ(m,r)=>pU r
def LX:(Int×gJ)->(Int×gJ):=λ(m,r)=>I5 m r
def Hu:Fs Tryz.prog aqB bG LX:=gf 113 Tryz.f113 (λ(most,o1)=>([.d ti most,.ptr (.bF 0) 0 [] 0],[.obj 0 aV (.ptr (.bF 1) 0 [] 0),.obj 0 aV (.d rJ o1)])) (λx=>⟨.d ti x.1,[.obj 0 aV (.ptr (.bF 1) 0 [] 0),.obj 0 aV (.d rJ x.2)],[]⟩) [au ti,aH] [QI]
theorem awu(most o1)(k:K1 R):Hu.A (most,o1) k=ax (AV.call o1) λx1=>aP (wC x1.1 most) (k (Hu.out ((-1),x1.2))) (k (Hu.out (x1.1,x1.2))):=cW
theorem awv:Hu.Ok:=by
 rintro⟨m,r⟩ h;have h:pU r:=h;rw[awu,oE (d:=r) h];simp only[ag,bG,tQ,bG,LX,I5];by_cases hc:(dB r).1 > m
 ·rw[dy hc,if_pos hc];rfl
 ·rw[cY hc,if_neg hc];rfl
theorem NN:Hu.RS:=rE [.d ti,.d rJ] Hu
def aww:=Hu.gr awv
abbrev IT:=Int×Int×Int×(Int×Unit)×Nat×(Int×Unit)×gJ×(List Am)
abbrev UZ:=Nat×gJ×(List Am)
def xK:IT->UZ->((Int×(Int×Unit)×(Int×Unit))×(Nat×gJ×(List Am))):=λ(n,t20,t21,n2,ayL,n4,n16,n32) y=>((n,n2,n4),y)
abbrev zf:=Int×Int×Int×Int×(Int×Unit)×Nat×Nat×(Int×Unit)×gJ×(List Am)×(List jo)
def oJ:zf->AS:=λ(G4,m,t37,t38,rF,O6,G3,yP,SY,tj,aaF)=>⟨([cj,cj,fa 2,cj,fa 4,fa 5,.fn 113 (.cons (fa 5) (.nil)),.d ti G4,.d ti m]++ba 28 ([.d ti t37,.d ti t38]++ba 93 [])),[],([[],[],dz (.pr (.dd) (.pr (.dd) (.d (.pair ti .unit) rF))),[],dz (.pr (lq 32 O6) (.pr (lq 58 G3) (.d (.pair ti .unit) yP))),dz (fa 16)]++bC 10 ([dz (.d rJ SY)]++bC 15 ([dz (.vec 143 qe tj)]++bC 25 ([dz (.vec 36 nu aaF)]++bC 73 []))))⟩
def pF:(Int×Unit)->Exit×AS:=λx=>(.ret,⟨([cj,cj,fa 2,.d .bool aV]++ba 128 []),[],([[],[],dz (.pr (.dd) (.pr (.dd) (.d (.pair ti .unit) x)))]++bC 129 [])⟩)
abbrev PK:=(Int×Int×(Int×Unit)×Nat×(Int×Unit)×(List Am))×(Nat×gJ×(List jo))
def xM:PK->Exit×AS:=λ((a,b,c,e,f,g),h,i,j)=>(.exit 2,⟨([cj,cj,fa 2,cj,fa 4,fa 5,.fn 113 (.cons (fa 5) (.nil)),.d ti a,.d ti b]++ba 123 []),[],([[],[],dz (.pr (.dd) (.pr (.dd) (.d (.pair ti .unit) c))),[],dz (.pr (lq 32 e) (.pr (lq 58 h) (.d (.pair ti .unit) f))),dz (fa 16)]++bC 10 ([dz (.d rJ i)]++bC 15 ([dz (.vec 143 qe g)]++bC 25 ([dz (.vec 36 nu j)]++bC 73 []))))⟩)
abbrev IV:=((Int×Unit))⊕(PK)
abbrev U1:=((Int×Unit))⊕((Nat×gJ×(List jo)))
def CY:IV->Out (Exit×AS):=λx=> .br x.isLeft (.get x.getLeft? λa=> .ok (pF a)) (.get x.getRight? λb=> .ok (xM b))
def kO:zf->U1->IV:=λ(G4,m,t37,t38,rF,O6,G3,yP,SY,tj,aaF) y=>match y with | .inl y=> .inl y | .inr z=> .inr (((G4,m,rF,O6,yP,tj),z))
abbrev zg:=Int×Int×Int×Int×(Int×Unit)×Nat×Nat×(Int×Unit)×gJ×(List Am)×(List jo)
def oM:zg->AS:=λ(aCB,alq,t66,t67,qM,O7,S7,Ky,SZ,fi,yQ)=>⟨([cj,cj,fa 2,cj,fa 4,fa 5,.fn 113 (.cons (fa 5) (.nil)),.d ti aCB,.d ti alq]++ba 57 ([.d ti t66,.d ti t67]++ba 64 [])),[],([[],[],dz (.pr (.dd) (.pr (.dd) (.d (.pair ti .unit) qM))),[],dz (.pr (lq 32 O7) (.pr (lq 58 S7) (.d (.pair ti .unit) Ky))),dz (fa 16)]++bC 10 ([dz (.d rJ SZ)]++bC 15 ([dz (.vec 143 qe fi)]++bC 25 ([dz (.vec 36 nu yQ)]++bC 73 []))))⟩
def pG:(Int×Unit)->Exit×AS:=λx=>(.ret,⟨([cj,cj,fa 2,.d .bool aV]++ba 128 []),[],([[],[],dz (.pr (.dd) (.pr (.dd) (.d (.pair ti .unit) x)))]++bC 129 [])⟩)
abbrev PM:=Int×Int×(Int×Unit)×Nat×Nat×(Int×Unit)×gJ×(List Am)×(List jo)
def xO:PM->Exit×AS:=λ(a,b,c,e,f,g,h,i,j)=>(.exit 4,⟨([cj,cj,fa 2,cj,fa 4,fa 5,cj,.d ti a,.d ti b]++ba 123 []),[],([[],[],dz (.pr (.dd) (.pr (.dd) (.d (.pair ti .unit) c))),[],dz (.pr (lq 32 e) (.pr (lq 58 f) (.d (.pair ti .unit) g))),dz (fa 16)]++bC 10 ([dz (.d rJ h)]++bC 15 ([dz (.vec 143 qe i)]++bC 25 ([dz (.vec 36 nu j)]++bC 73 []))))⟩)
abbrev IX:=((Int×Unit))⊕(PM)
abbrev U3:=((Int×Unit))⊕((Int×Int×(Int×Unit)×Nat×Nat×(Int×Unit)×gJ×(List Am)×(List jo)))
def CZ:IX->Out (Exit×AS):=λx=> .br x.isLeft (.get x.getLeft? λa=> .ok (pG a)) (.get x.getRight? λb=> .ok (xO b))
def kP:zg->U3->IX:=λ(aCB,alq,t66,t67,qM,O7,S7,Ky,SZ,fi,yQ) y=>match y with | .inl y=> .inl y | .inr z=> .inr (z)
abbrev IY:=Int×Int×Int×Int×Int×Int×(Int×Unit)×Nat×Nat×(Int×Unit)×gJ×(List Am)×dC×Int×Nat×(Int×Unit)×(List Am)×(List jo)×(List Sg)
abbrev U4:=gJ×(List Am)×(List Sg)
def xP:IY->U4->((Int×Int×Int×Int×(Int×Unit)×Nat×Nat×(Int×Unit)×(List jo))×(gJ×(List Am)×(List Sg))):=λ(aCC,aCv,UH,BQ,t85,t86,Iq,S8,S9,aiA,X4,X6,X7,X8,VX,X9,S6,Td,n99) y=>((aCC,aCv,UH,BQ,Iq,S8,S9,aiA,Td),y)
def abH:IT->Prop:=λ(n,m,i,u,L,v,r,l)=>rT r/\m<=64/\∃k:Nat,i=k/\k<=64/\L=l.length/\l.length=k
def CX:IT->UZ:=λ(n,m,i,u,L,v,r,l)=>(L+(m - i).toNat,(Gx (m - i).toNat r).2,l++(Gx (m - i).toNat r).1.map awY)
def xL:zf->Prop:=λ(n,m1,m,i,u,L,L2,v,r,l,os)=>rT r/\m<=64/\∃k:Nat,i=k/\k<=64/\L2=os.length/\os.length=k
def oI:zf->U1:=λ(n,m1,m,i,u,L,L2,v,r,l,os)=>match Dg (m - i).toNat r with | none=> .inl (0,()) | some x=> .inr (L2+x.1.length,x.2,os++x.1)
def abL:IY->Prop:=λ(n,m1,mo,io,m,i,u,L,L2,v,r,la,op,br,Ls,sc,lb,os,sg)=>rT r/\m<=12/\∃k:Nat,i=k/\k<=12/\Ls=sg.length/\sg.length=k
def C0:IY->U4:=λ(n,m1,mo,io,m,i,u,L,L2,v,r,la,op,br,Ls,sc,lb,os,sg)=>((CS (m - i).toNat r).2,la++(op,(br,au (sg++(CS (m - i).toNat r).1),sc),())::lb,sg++(CS (m - i).toNat r).1)
def xN:zg->Prop:=λ(n,m1,m,i,u,L,L2,v,r,l,os)=>rT r/\l.length<=64/\∃k:Nat,i=k/\k<=l.length/\m=l.length/\L=l.length/\∀x∈l.drop k,x=awY x.1
def oK:zg->U3:=λ(n,m1,m,i,u,L,L2,v,r,l,os)=>match Du ((l.drop i.toNat).map (·.1)) r with | none=> .inl (0,()) | some x=> .inr (n,m1,u,L,L2,v,x.2,l.take i.toNat++x.1.map aGc,os)
def aqs:Bs->Prop:=λb=>Bytes b/\b.length<=1000000000
def abG:Bs->(fN×Bool):=λb=>abi b
def sQ:Ls abH xK CX:=wh (λ(n,t20,t21,n2,ayL,n4,n16,n32)=>⟨([cj,cj,fa 2,cj,fa 4,fa 5,.fn 113 (.cons (fa 5) (.nil)),.d ti n]++ba 12 ([.d ti t20,.d ti t21]++ba 110 [])),[],([[],[],dz (.pr (.dd) (.pr (.dd) (.d (.pair ti .unit) n2))),[],dz (.pr (lq 32 ayL) (.pr (.dd) (.d (.pair ti .unit) n4))),dz (fa 16)]++bC 10 ([dz (.d rJ n16)]++bC 15 ([dz (.vec 143 qe n32)]++bC 99 [])))⟩) (λx=>(.exit 0,⟨([cj,cj,fa 2,cj,fa 4,fa 5,.fn 113 (.cons (fa 5) (.nil)),.d ti x.1.1]++ba 124 []),[],([[],[],dz (.pr (.dd) (.pr (.dd) (.d (.pair ti .unit) x.1.2.1))),[],dz (.pr (lq 32 x.2.1) (.pr (.dd) (.d (.pair ti .unit) x.1.2.2))),dz (fa 16)]++bC 10 ([dz (.d rJ x.2.2.1)]++bC 15 ([dz (.vec 143 qe x.2.2.2)]++bC 99 [])))⟩))
def U0:=eA.iB oJ xL kO oI CY
def Hn:zf->Option IV:=lg U0 oJ
def U2:=eA.iB oM xN kP oK CZ
def Hp:zg->Option IX:=lg U2 oM
def sR:Ls abL xP C0:=wh (λ(aCC,aCv,UH,BQ,t85,t86,Iq,S8,S9,aiA,X4,X6,X7,X8,VX,X9,S6,Td,n99)=>⟨([cj,cj,fa 2,cj,fa 4,fa 5,.fn 113 (.cons (fa 5) (.nil)),.d ti aCC,.d ti aCv]++ba 4 ([.ptr (.new 32 0) 0 [.snd,.fst,.snd,.fst] ((0+((ab BQ)*36))+33)]++ba 52 ([.d ti UH,.d ti BQ]++ba 17 ([.d ti t85,.d ti t86]++ba 45 [])))),[],([[],[],dz (.pr (.dd) (.pr (.dd) (.d (.pair ti .unit) Iq))),[],dz (.pr (lq 32 S8) (.pr (lq 58 S9) (.d (.pair ti .unit) aiA))),dz (fa 16)]++bC 10 ([dz (.d rJ X4)]++bC 15 ([dz (.bx 143 36 (.pr (.d (.arr (0+(ab BQ)) qe) X6) (.pr (.pr (.d cV X7) (.pr (.pr (.d ti X8) (.pr (lq 99 VX) (.d (.pair tu .unit) X9))) oc)) (.d (.arr (ae S6) qe) S6))))]++bC 25 ([dz (.vec 36 nu Td)]++bC 40 ([dz (.vec 182 LK n99)]++bC 32 [])))))⟩) (λx=>(.exit 6,⟨([cj,cj,fa 2,cj,fa 4,fa 5,.fn 113 (.cons (fa 5) (.nil)),.d ti x.1.1,.d ti x.1.2.1]++ba 4 ([.ptr (.new 32 0) 0 [.idx (0+(ab x.1.2.2.2.1)),.snd,.fst] ((0+((ab x.1.2.2.2.1)*36))+33)]++ba 52 ([.d ti x.1.2.2.1,.d ti x.1.2.2.2.1]++ba 64 []))),[],([[],[],dz (.pr (.dd) (.pr (.dd) (.d (.pair ti .unit) x.1.2.2.2.2.1))),[],dz (.pr (lq 32 x.1.2.2.2.2.2.1) (.pr (lq 58 x.1.2.2.2.2.2.2.1) (.d (.pair ti .unit) x.1.2.2.2.2.2.2.2.1))),dz (fa 16)]++bC 10 ([dz (.d rJ x.2.1)]++bC 15 ([dz (.vec 143 qe x.2.2.1)]++bC 25 ([dz (.vec 36 nu x.1.2.2.2.2.2.2.2.2)]++bC 40 ([[.obj 0 aO (.vec 182 LK x.2.2.2)]]++bC 32 [])))))⟩))
def lj:Fs Tryz.prog aqs bG abG:=gf 75 Tryz.f75 (λb=>([.d tB b],[])) (λx=>⟨.cons (.d jk x.1) (.cons (.d .bool x.2) (.nil)),[],[]⟩) [au tB] [afw,aww,avE,QI,apD,atV,al5,azD,avH,pH] {bM:=[100031,100032],loops:=th [(6,{bz:=[2,4,5,6,7,20,21],sites:=[2,4,5,16,32],owns:=[⟨4,[.fst],32,100053⟩]}),(11,{bz:=[2,4,5,6,7,8,37,38],sites:=[2,4,5,16,32,58],owns:=[⟨4,[.snd,.fst],58,27⟩]}),(21,{bz:=[2,4,5,6,7,8,66,67],sites:=[2,4,5,16,32,58]}),(29,{bz:=[2,4,5,6,7,8,13,66,67,85,86],sites:=[2,4,5,16,32,58,99],owns:=[⟨13,[.snd,.fst],99,139⟩],aId:=[13]})],outs:=tg [(6,{bz:=[2,4,5,6,7],sites:=[2,4,5,16,32]},{bz:=[2,3]}),(11,{bz:=[2,4,5,6,7,8],sites:=[2,4,5,16,32,58]},{bz:=[2,3],sites:=[2]}),(21,{bz:=[2,4,5,7,8],sites:=[2,4,5,16,32,58]},{bz:=[2,3],sites:=[2]}),(29,{bz:=[2,4,5,6,7,8,13,66,67],sites:=[2,4,5,16,32,58,99],aIM:=[13]},{bz:=[2,3]})],iE:=uA [(6,sQ.E),(11,U0),(21,U2),(29,sR.E)],res:=[au jk,aH]}
def IU:= @gw Tryz.prog (pS lj.G) lj.an 0 Tryz.f75 1 _ oJ
abbrev PJ:=qu Tryz.prog (pS lj.G) lj.an 0 Tryz.f75 1 oJ xL kO oI CY
def IW:= @gw Tryz.prog (pS lj.G) lj.an 0 Tryz.f75 2 _ oM
abbrev PL:=qu Tryz.prog (pS lj.G) lj.an 0 Tryz.f75 2 oM xN kP oK CZ
theorem abI:sQ.RS:=rL [.d ti,.d ti,.d ti,.d (.pair ti .unit),.n,.d (.pair ti .unit),.d rJ,.d (.slice qe)] sQ
theorem Hm(n t20 t21 n2 ayL n4 n16 n32)(kn:K2 R)(kx:K3 R):lj.R 0 sQ (n,t20,t21,n2,ayL,n4,n16,n32) kn kx=aP (iG t21 t20) (ax (Uc.call n16) λx7=>ax (AV.call x7.2) λx8=>aP (decide (ayL<=(ae n32))) (aP (dI (ayL+1) 80) (kn (sQ.st (n,t20,(bT .i64 t21 1),n2,(ayL+1),n4,x8.2,((bk ayL n32)++ [((x7.1,(x8.1,())),((0,(aH,(0,()))),()))])))) aH) aH) (sQ.go kx ((n,n2,n4),(ayL,n16,n32))):=cW
theorem abJ:nK Hn xL kO oI:=tR (sy [.d ti,.d ti,.d ti,.d ti,.d (.pair ti .unit),.n,.n,.d (.pair ti .unit),.d rJ,.d (.slice qe),.d (.slice nu)] λ_=>cW)
theorem LR:yd @IU oJ xL kO oI CY PJ:=zr
theorem Ho(G4 m t37 t38 rF O6 G3 yP SY tj aaF)(kn:K2 R)(kx:K3 R):IU (G4,m,t37,t38,rF,O6,G3,yP,SY,tj,aaF) kn kx=aP (iG t38 t37) (ax (AV.call SY) λsY=>ax (Fb.call sY.2) λagB=>ax (yK.call agB.1) λL4=>aP (!L4.2) (kx (pF ((0:Int),())).1 (pF ((0:Int),())).2) (aP (decide (G3<=(ae aaF))) (aP (dI (G3+1) 32) (kn (oJ (G4,m,t37,(bT .i64 t38 (1:Int)),rF,O6,(G3+1),yP,agB.2,tj,((bk G3 aaF)++ [(sY.1,(L4.1,()))])))) aH) aH)) (kx (xM ((G4,m,rF,O6,yP,tj),(G3,SY,aaF))).1 (xM ((G4,m,rF,O6,yP,tj),(G3,SY,aaF))).2):=cW
theorem abK:nK Hp xN kP oK:=tR (sy [.d ti,.d ti,.d ti,.d ti,.d (.pair ti .unit),.n,.n,.d (.pair ti .unit),.d rJ,.d (.slice qe),.d (.slice nu)] λ_=>cW)
theorem LS:yd @IW oM xN kP oK CZ PL:=zr
theorem Hq(aCB alq t66 t67 qM O7 S7 Ky SZ fi yQ)(kn:K2 R)(kx:K3 R):IW (aCB,alq,t66,t67,qM,O7,S7,Ky,SZ,fi,yQ) kn kx=aP (iG t67 t66) (aP (iO t67 ((O7:Nat):Int)) (ax (AV.call SZ) λsY=>aP (decide ((0+(ab t67)) < (ae fi))) (aP (decide ((((0+(ab t67))*36)+33)=(((0+((ab t67)*36))+33)+0))) (aP (decide ((0+(ab t67)) < (ae fi))) (ax (Hu.call ((12:Int),sY.2)) λaA0=>aP (iG aA0.1 (0:Int)) (kx (pG ((0:Int),())).1 (pG ((0:Int),())).2) (aP (decide ((0+(ab t67)) < (ae (fW fi (0+(ab t67)) ((nth qe fi (0+(ab t67))).1,((sY.1,(nth qe fi (0+(ab t67))).2.1.2),(nth qe fi (0+(ab t67))).2.2)))))) (aP (Option.isNone (nth qe (fW fi (0+(ab t67)) ((nth qe fi (0+(ab t67))).1,((sY.1,(nth qe fi (0+(ab t67))).2.1.2),(nth qe fi (0+(ab t67))).2.2))) (0+(ab t67))).2.1.2.1) (ax (sR.call (aCB,alq,t66,t67,aA0.1,(0:Int),qM,O7,S7,Ky,aA0.2,(bk (0+(ab t67)) (fW fi (0+(ab t67)) ((nth qe fi (0+(ab t67))).1,((sY.1,(nth qe fi (0+(ab t67))).2.1.2),(nth qe fi (0+(ab t67))).2.2)))),((nth qe (fW fi (0+(ab t67)) ((nth qe fi (0+(ab t67))).1,((sY.1,(nth qe fi (0+(ab t67))).2.1.2),(nth qe fi (0+(ab t67))).2.2))) (0+(ab t67))).1.1,((nth qe (fW fi (0+(ab t67)) ((nth qe fi (0+(ab t67))).1,((sY.1,(nth qe fi (0+(ab t67))).2.1.2),(nth qe fi (0+(ab t67))).2.2))) (0+(ab t67))).1.2.1,(nth qe (fW fi (0+(ab t67)) ((nth qe fi (0+(ab t67))).1,((sY.1,(nth qe fi (0+(ab t67))).2.1.2),(nth qe fi (0+(ab t67))).2.2))) (0+(ab t67))).1.2.2)),(nth qe (fW fi (0+(ab t67)) ((nth qe fi (0+(ab t67))).1,((sY.1,(nth qe fi (0+(ab t67))).2.1.2),(nth qe fi (0+(ab t67))).2.2))) (0+(ab t67))).2.1.1,0,((nth qe (fW fi (0+(ab t67)) ((nth qe fi (0+(ab t67))).1,((sY.1,(nth qe fi (0+(ab t67))).2.1.2),(nth qe fi (0+(ab t67))).2.2))) (0+(ab t67))).2.1.2.2.1,(nth qe (fW fi (0+(ab t67)) ((nth qe fi (0+(ab t67))).1,((sY.1,(nth qe fi (0+(ab t67))).2.1.2),(nth qe fi (0+(ab t67))).2.2))) (0+(ab t67))).2.1.2.2.2),(dr ((0+(ab t67))+1) (fW fi (0+(ab t67)) ((nth qe fi (0+(ab t67))).1,((sY.1,(nth qe fi (0+(ab t67))).2.1.2),(nth qe fi (0+(ab t67))).2.2)))),yQ,([]:List Sg))) λu5=>ax (Lt.call u5.2.1) λL4=>aP (decide ((0+(ab u5.1.2.2.2.1)) < (ae u5.2.2.1))) (aP (decide ((((0+(ab u5.1.2.2.2.1))*36)+35)=(((0+((ab u5.1.2.2.2.1)*36))+33)+2))) (aP (decide ((0+(ab u5.1.2.2.2.1)) < (ae u5.2.2.1))) (kn (oM (u5.1.1,u5.1.2.1,u5.1.2.2.1,(bT .i64 u5.1.2.2.2.1 (1:Int)),u5.1.2.2.2.2.1,u5.1.2.2.2.2.2.1,u5.1.2.2.2.2.2.2.1,u5.1.2.2.2.2.2.2.2.1,L4.2,(fW u5.2.2.1 (0+(ab u5.1.2.2.2.1)) ((nth qe u5.2.2.1 (0+(ab u5.1.2.2.2.1))).1,(((nth qe u5.2.2.1 (0+(ab u5.1.2.2.2.1))).2.1.1,((nth qe u5.2.2.1 (0+(ab u5.1.2.2.2.1))).2.1.2.1,(L4.1,(nth qe u5.2.2.1 (0+(ab u5.1.2.2.2.1))).2.1.2.2.2))),(nth qe u5.2.2.1 (0+(ab u5.1.2.2.2.1))).2.2))),u5.1.2.2.2.2.2.2.2.2))) aH) aH) aH) aH) aH)) aH) aH) aH) aH) (kx (xO (aCB,alq,qM,O7,S7,Ky,SZ,fi,yQ)).1 (xO (aCB,alq,qM,O7,S7,Ky,SZ,fi,yQ)).2):=cW
theorem abM:sR.RS:=rL [.d ti,.d ti,.d ti,.d ti,.d ti,.d ti,.d (.pair ti .unit),.n,.n,.d (.pair ti .unit),.d rJ,.d (.slice qe),.d cV,.d ti,.n,.d (.pair tu .unit),.d (.slice qe),.d (.slice nu),.d (.slice LK)] sR
theorem Hr(aCC aCv UH BQ t85 t86 Iq S8 S9 aiA X4 X6 X7 X8 VX X9 S6 Td n99)(kn:K2 R)(kx:K3 R):lj.R 3 sR (aCC,aCv,UH,BQ,t85,t86,Iq,S8,S9,aiA,X4,X6,X7,X8,VX,X9,S6,Td,n99) kn kx=aP (iG t86 t85) (aP (decide ((((0+(ab BQ))*36)+34)=(((0+((ab BQ)*36))+33)+1))) (ax (Lt.call X4) λx7=>ax (Lt.call x7.2) λx8=>aP (decide (VX<=(ae n99))) (aP (dI (VX+1) 16) (aP (decide ((((0+(ab BQ))*36)+34)=(((0+((ab BQ)*36))+33)+1))) (kn (sR.st (aCC,aCv,UH,BQ,t85,(bT .i64 t86 1),Iq,S8,S9,aiA,x8.2,X6,X7,X8,(VX+1),X9,S6,Td,((bk VX n99)++ [(x7.1,(x8.1,()))])))) aH) aH) aH) aH) (aP (decide (0=0/\(0+VX)<=(ae n99))) (sR.go kx ((aCC,aCv,UH,BQ,Iq,S8,S9,aiA,Td),(X4,(X6++(X7,((X8,((au (cut n99 0 VX)),X9)),()))::S6),n99))) aH):=cW
theorem awl(b)(k:K1 R):lj.A b k=ax (PC.call b) λx4=>ax (Hu.call (64,x4)) λx8=>ax (sQ.call (x8.1,x8.1,0,(0,()),0,(0,()),x8.2,([]:List Am))) λNT=>ax (Hu.call (64,NT.2.2.1)) λYW=>ax (Hn (NT.1.1,YW.1,YW.1,0,NT.1.2.1,NT.2.1,0,NT.1.2.2,YW.2,NT.2.2.2,([]:List jo))) λaH7=>aP aH7.isLeft (ax aH7.getLeft? λa83=>k (lj.out ((([]:List gU),(([]:List jo),a83)),aV))) (ax aH7.getRight? λb84=>ax (AV.call b84.2.2.1) λaIO=>ax (Hp (b84.1.1,b84.1.2.1,((b84.1.2.2.2.1:Nat):Int),0,b84.1.2.2.1,b84.1.2.2.2.1,b84.2.1,(aIO.1,b84.1.2.2.2.2.1.2),aIO.2,b84.1.2.2.2.2.2,b84.2.2.2)) λaDl=>aP aDl.isLeft (ax aDl.getLeft? λa125=>k (lj.out ((([]:List gU),(([]:List jo),a125)),aV))) (ax aDl.getRight? λb126=>aP (iG b126.1 0) (k (lj.out ((([]:List gU),(([]:List jo),(0,()))),aV))) (aP (iG b126.2.1 0) (k (lj.out ((([]:List gU),(([]:List jo),(0,()))),aV))) (ax (ajp.call b126.2.2.2.2.2.2.1) λaFF=>aP (!aFF.2) (k (lj.out ((([]:List gU),(([]:List jo),(0,()))),aV))) (ax (Uf.call aFF.1) λaH0=>aP (wC aH0.2 0) (k (lj.out ((([]:List gU),(([]:List jo),(0,()))),aV))) (aP (decide (0=0/\(0+b126.2.2.2.1)<=(ae b126.2.2.2.2.2.2.2.1))) (aP (decide (0=0/\(0+b126.2.2.2.2.1)<=(ae b126.2.2.2.2.2.2.2.2))) (ax (il.call ((aDt (.slice qe) (.slice gB) (cut b126.2.2.2.2.2.2.2.1 0 b126.2.2.2.1)),((cut b126.2.2.2.2.2.2.2.2 0 b126.2.2.2.2.1),b126.2.2.2.2.2.1))) λaH1=>aP (!aH1) (k (lj.out ((([]:List gU),(([]:List jo),(0,()))),aV))) (aP (decide (0=0/\(0+b126.2.2.2.1)<=(ae b126.2.2.2.2.2.2.2.1))) (aP (decide (0=0/\(0+b126.2.2.2.2.1)<=(ae b126.2.2.2.2.2.2.2.2))) (k (lj.out (((aDt (.slice qe) (.slice gB) (cut b126.2.2.2.2.2.2.2.1 0 b126.2.2.2.1)),((cut b126.2.2.2.2.2.2.2.2 0 b126.2.2.2.2.1),b126.2.2.2.2.2.1)),aO))) aH) aH)) aH) aH)))))):=cW
theorem aga:(lj.mN 0 sQ):=by
 refine(lj.px 0 sQ) (λ(n,m,i,u,L,v,r,l)=>(m - i).toNat) ?_
 rintro⟨n,m,i,u,L,v,r,l⟩ ⟨hr,hm,k,rfl,hk,rfl,ab3⟩;have hr:rT r:=hr;have hm:m<=64:=hm;have ab3:l.length=k:=ab3;by_cases h:(k:Int) < m
 ·left;have e1:(m - (k:Int)).toNat=(m - ((k+1:Nat):Int)).toNat+1:=aq;have h1:=adN hr;refine⟨(n,m,((k+1:Nat):Int),u,l.length+1,v,(aAQ r).2,l++ [awY (aAQ r).1]),⟨(ql h1.1).1.1,hm,k+1,rfl,aq,by rw[ak];rfl,by rw[ak];show l.length+1=_;omega⟩,by show(m - ((k+1:Nat):Int)).toNat < (m - (k:Int)).toNat;omega,?_,λkn kx=> ?_⟩
  ·simp only[xK,CX,e1,Gx,bn,aK,cC];rw[show ∀a c:Nat,a+1+c=a+(c+1) from λa c=>aq]
  ·rw[Hm,bh h,apK (d:=r) hr.1];simp only[aj,ag,bG,al1];rw[oE (d:=(Em r).2) h1.1.1];simp only[ag,bG,tQ];rw[aM (aC _),dN aq aq,N.pV aq,bU];rfl
 ·right;intro R kn kx;have e1:(m - (k:Int)).toNat=0:=aq;rw[Hm,aW h,ao];simp only[xK,CX,e1,Gx,eF,bo,ct]
theorem agb:PJ:=by
 refine LR (λ(n,m1,m,i,u,L,L2,v,r,l,os)=>(m - i).toNat) ?_
 rintro⟨n,m1,m,i,u,L,L2,v,r,l,os⟩ ⟨hr,hm,k,rfl,hk,rfl,ab3⟩;have hr:rT r:=hr;have hm:m<=64:=hm;have ab3:os.length=k:=ab3;by_cases h:(k:Int) < m
 ·have e1:(m - (k:Int)).toNat=(m - ((k+1:Nat):Int)).toNat+1:=aq;have h1:=ql hr;have h2:=Zj h1.1.1;have step:∀ {R:Type} (kn:AS->Option R) (kx:Exit->AS->Option R),IU (n,m1,m,(k:Int),u,L,os.length,v,r,l,os) kn kx=aP (!(Dh (Dx (dB r).2).1).2) (kx (pF (0,())).1 (pF (0,())).2) (kn (oJ (n,m1,m,((k+1:Nat):Int),u,L,os.length+1,v,(Tu r).2,l,os++ [(Tu r).1]))):=by intro R kn kx;rw[Ho,bh h,oE (d:=r) hr.1];simp only[aj,ag,bG,tQ];rw[aji (d:=(dB r).2) h1.1.1.1];simp only[ag,bG,T6];rw[aoq (d:=(Dx (dB r).2).1) ⟨h2.2.1,h2.2.2⟩];simp only[ag,bG,aas];rw[aM (aC _),dN aq aq,N.pV aq,bU];rfl
  cases hp:(Dh (Dx (dB r).2).1).2
  ·right;refine⟨pF (0,()),?_,λkn kx=> ?_⟩
   ·simp only[kO,oI,e1,Dg,hp,cd,cK];rfl
   ·rw[step,hp];rfl
  ·left;refine⟨(n,m1,m,((k+1:Nat):Int),u,L,os.length+1,v,(Tu r).2,l,os++ [(Tu r).1]),⟨h2.1.1,hm,k+1,rfl,aq,by rw[ak];rfl,by rw[ak];show os.length+1=_;omega⟩,by show(m - ((k+1:Nat):Int)).toNat < (m - (k:Int)).toNat;omega,?_,λkn kx=> ?_⟩
   ·simp only[kO,oI,e1,Dg,hp,cZ];cases Dg (m - ((k+1:Nat):Int)).toNat (Tu r).2 with
    |none=>rfl
    |some x=>
     simp only[aB,aK,cC];rw[show ∀a c:Nat,a+1+c=a+(c+1) from λa c=>aq]
   ·rw[step,hp];rfl
 ·right;have e1:(m - (k:Int)).toNat=0:=aq;refine⟨xM ((n,m1,u,L,v,l),(os.length,r,os)),?_,λkn kx=> ?_⟩
  ·simp only[kO,oI,e1,Dg,bw,ct,bo];rfl
  ·rw[Ho,aW h,ao]
theorem agd:(lj.mN 3 sR):=by
 refine(lj.px 3 sR) (λ(n,m1,mo,io,m,i,u,L,L2,v,r,la,op,br,Ls,sc,lb,os,sg)=>(m - i).toNat) ?_
 rintro⟨n,m1,mo,io,m,i,u,L,L2,v,r,la,op,br,Ls,sc,lb,os,sg⟩ ⟨hr,hm,k,rfl,hk,rfl,ab3⟩;have hr:rT r:=hr;have hm:m<=12:=hm;have ab3:sg.length=k:=ab3;by_cases h:(k:Int) < m
 ·left;have e1:(m - (k:Int)).toNat=(m - ((k+1:Nat):Int)).toNat+1:=aq;have h1:=Gq hr;have h2:=Gq h1.1;refine⟨(n,m1,mo,io,m,((k+1:Nat):Int),u,L,L2,v,(aAW r).2,la,op,br,sg.length+1,sc,lb,os,sg++ [(aAW r).1]),⟨h2.1,hm,k+1,rfl,aq,by rw[ak];rfl,by rw[ak];show sg.length+1=_;omega⟩,by show(m - ((k+1:Nat):Int)).toNat < (m - (k:Int)).toNat;omega,?_,λkn kx=> ?_⟩
  ·simp only[xP,C0,e1,CS,aK,cC]
  ·rw[Hr,bh h,aM aq,Fh (d:=r) hr.1];simp only[aj,ag,bG,NF];rw[Fh (d:=(qf r).2) h1.1.1];simp only[ag,bG,NF];rw[aM (aC _),dN aq aq,N.pV aq,bU];rfl
 ·right;intro R kn kx;have e1:(m - (k:Int)).toNat=0:=aq;rw[Hr,aW h,ao];simp only[xP,C0,e1,CS,bo,aU,aC,lH,cQ,aj,fA]
theorem agc:PL:=by
 refine LS (λ(n,m1,m,i,u,L,L2,v,r,l,os)=>l.length - i.toNat) ?_
 rintro⟨n,m1,m,i,u,L,L2,v,r,l,os⟩ ⟨hr,hl,k,rfl,hk,rfl,rfl,hg⟩;have hr:rT r:=hr;have hl:l.length<=64:=hl;have hk:k<=l.length:=hk;by_cases h:k < l.length
 ·have n1:nth qe l k=l[k]:=db (t:=qe) h;have hd:l.drop k=l[k]::l.drop (k+1):=aA h;have de:l[k]=awY l[k].1:=hg _ (by rw[hd];exact aG);obtain⟨op,aEY⟩:∃op,l[k].1=op:=⟨_,rfl⟩;rw[aEY]at de;have h1:=ql hr;have h2:=amg h1.1.1 12;have h3:=amf h1.1.1.1 (m:=12) eR;have hw:=ami hr;have hu:=Gq hw.1;have L7:(l.take k).length=k:=by rw[bZ];omega
  have step:∀ {R:Type} (kn:AS->Option R) (kx:Exit->AS->Option R),IW (n,m1,(l.length:Int),(k:Int),u,l.length,L2,v,r,l,os) kn kx=aP (iG (I5 12 (dB r).2).1 0) (kx (pG (0,())).1 (pG (0,())).2) (kn (oM (n,m1,(l.length:Int),((k+1:Nat):Int),u,l.length,L2,v,(qf (tX r).2).2,l.take k++(op,((dB r).1,au (tX r).1,(qf (tX r).2).1,()),())::l.drop (k+1),os))):=by
   intro R kn kx;rw[Hq,bh aq,bB aq aq,oE (d:=r) hr.1];have ns:∀y:Am,nth qe (l.set k y) k=y:=λy=>ayT (t:=qe) h
   have nm:∀(y:Am) (b:List Am),nth qe (l.take k++y::b) k=y:=λy b=>ayS (t:=qe) L7
   simp only[aj,ag,bG,tQ,aa,aU,ct,n1,de,aM h,cQ];rw[NN (d:=(12,(dB r).2)) h1.1.1.1];simp only[aj,ag,bG,LX];refine bK (λz=>aP _ _ z) ?_
   simp only[kc,aM h,aj,awY,ns,aqj,ans,Option.isNone_none];rw[abM (d:=(n,m1,(l.length:Int),(k:Int),(I5 12 (dB r).2).1,0,u,l.length,L2,v,(I5 12 (dB r).2).2,l.take k,op,(dB r).1,0,(0,()),l.drop (k+1),os,[])) ⟨h2,h3.2,0,rfl,eR,rfl,rfl⟩];simp only[ag,xP,C0,oP,aT];rw[show CS (I5 12 (dB r).2).1.toNat (I5 12 (dB r).2).2=tX r from rfl,Fh (d:=(tX r).2) hw.1.1];simp only[ag,bG,NF,aa,nm,azI L7,aM (show k < (l.take k++(op,((dB r).1,au (tX r).1,0,()),())::l.drop (k+1)).length by rw[ak,aB];omega),dZ,Nat.reduceAdd,cQ,aj];rw[N.pV aq]
  by_cases hp:(I5 12 (dB r).2).1 < 0
  ·right;refine⟨pG (0,()),?_,λkn kx=> ?_⟩
   ·simp only[kP,oK,aa,hd,bn,Du,akc,if_pos hp];rfl
   ·rw[step,bh hp,aj]
  ·left;have XM:(l.take k++(op,((dB r).1,au (tX r).1,(qf (tX r).2).1,()),())::l.drop (k+1)).length=l.length:=by rw[ak,aB,cv];omega
   have ax5:(l.take k++(op,((dB r).1,au (tX r).1,(qf (tX r).2).1,()),())::l.drop (k+1)).drop (k+1)=l.drop (k+1):=by rw[List.append_cons,ka (by rw[ak];show(l.take k).length+1=_;omega)]
   have aHp:(l.take k++(op,((dB r).1,au (tX r).1,(qf (tX r).2).1,()),())::l.drop (k+1)).take (k+1)=l.take k++ [(op,((dB r).1,au (tX r).1,(qf (tX r).2).1,()),())]:=by rw[List.append_cons,ke (by rw[ak];show(l.take k).length+1=_;omega)]
   refine⟨(n,m1,(l.length:Int),((k+1:Nat):Int),u,l.length,L2,v,(qf (tX r).2).2,l.take k++(op,((dB r).1,au (tX r).1,(qf (tX r).2).1,()),())::l.drop (k+1),os),⟨hu.1,by rw[XM];exact hl,k+1,rfl,by rw[XM];omega,by rw[XM],by rw[XM],by rw[ax5];exact λx hx=>hg x (by rw[hd];exact aD _ hx)⟩,by simp only[aa,XM];omega,?_,λkn kx=> ?_⟩
   ·simp only[kP,oK,aa,ax5,aHp,hd,bn,Du,akc,if_neg hp,aEY];cases Du ((l.drop (k+1)).map (·.1)) (qf (tX r).2).2 with
    |none=>rfl
    |some x=>
     simp only[bn,aK,cC];rfl
   ·rw[step,aW hp,ao]
 ·right;obtain rfl:k=l.length:=aq;refine⟨xO (n,m1,u,l.length,L2,v,r,l,os),?_,λkn kx=> ?_⟩
  ·simp only[kP,oK,aa,bj,eF,Du,bU,bo];rfl
  ·rw[Hq,aW aq,ao]
theorem ayJ(l:List dC):(l.map awY).map (·.1)=l:=by rw[oT];have:((λx:Am=>x.1)∘awY)=id:=rfl;rw[this,List.map_id]
theorem awm:lj.Ok:=by
 rintro b ⟨hb,hl⟩;have hb:Bytes b:=hb;have hl:b.length<=1000000000:=hl;have k0:=azx hb hl;have k1:=amg k0 64;have u1:=amf k0.1 (m:=64) eR;rw[awl,Yv (d:=b) hl];simp only[ag,bG,abk,bG,abG,abi];rw[NN (d:=(64,(b,aV,()))) k0.1];simp only[ag,bG,LX];generalize I5 64 (b,aV,())=n at*;have o2:=alF n.1.toNat k1;rw[abI (d:=(n.1,n.1,0,(0,()),0,(0,()),n.2,[])) ⟨k1,u1.2,0,rfl,eR,rfl,rfl⟩];simp only[ag,xK,CX,oP,aT,aU];generalize Gx n.1.toNat n.2=ops at*;have k3:=amg o2.1.1 64;have u3:=amf o2.1.1.1 (m:=64) eR;rw[NN (d:=(64,ops.2)) o2.1.1.1];simp only[ag,bG,LX];generalize I5 64 ops.2=m at*;rw[abJ (d:=(n.1,m.1,m.1,0,(0,()),n.1.toNat,0,(0,()),m.2,ops.1.map awY,[])) ⟨k3,u3.2,0,rfl,eR,rfl,rfl⟩];simp only[ag,kO,oI,oP,aT,aU];cases hx:Dg m.1.toNat m.2 with
 |none=>rfl
 |some x=>
  have o4:=aeX _ k3 hx;have o5:=ql o4.1.1;have ol:(ops.1.map awY).length=n.1.toNat:=by rw[bg];exact o2.2.1
  simp only[ig,fP,ao,ag];rw[oE (d:=x.2) o4.1.1.1];simp only[ag,bG,tQ];rw[abK (d:=(n.1,m.1,(n.1.toNat:Int),0,(0,()),n.1.toNat,x.1.length,((dB x.2).1,()),(dB x.2).2,ops.1.map awY,x.1)) ⟨o5.1.1,by rw[ol];omega,0,rfl,aS _,by rw[ol],by rw[ol],λz hz=>by
   rw[aN]at hz;obtain⟨o,_,rfl⟩:=cr.1 hz;rfl⟩]
  simp only[ag,kP,oK,bO,aN,fb,aT,ayJ,at4];cases hy:Du ops.1 (dB x.2).2 with
  |none=>rfl
  |some y=>
   have o6:=agq _ o5.1.1 hy;have yl:y.1.length=n.1.toNat:=by rw[<-o2.2.1,<-o6.2.1,bg]
   have yl2:(y.1.map aGc).length=n.1.toNat:=by rw[bg];exact yl
   simp only[ig,fP,ao,ag,asD];by_cases c1:n.1 < 0
   ·rw[bh c1,aj,if_pos (kQ c1)];rfl
   rw[aW c1,ao];by_cases c2:m.1 < 0
   ·rw[bh c2,aj,if_pos (fj (kQ c2))];rfl
   rw[aW c2,ao,avL (d:=y.2) trivial];simp only[ag,afv,avJ,Bool.not_not];cases c3:y.2.2.1
   ·rw[ao,apM (d:=y.2) trivial];simp only[ag,Ys,al2];by_cases c4:0 < y.2.1.length
    ·rw[dy aq,aj,if_pos (fj (fj (fj (kQ c4))))];rfl
    ·rw[cY aq,ao,aM ⟨by trivial,aq⟩,aM ⟨by trivial,aq⟩,fA yl2,fA rfl,aBv,aDe];simp only[aj];rw[mK (d:=(y.1,x.1,(dB x.2).1,())) ⟨λo ho=>(o4.2.2 o ho).2.2,by show y.1.length<=_;omega,by show x.1.length<=_;have:=o4.2.1;omega⟩];simp only[ag,bG,oN];cases c5:iF (y.1,x.1,(dB x.2).1,())
     ·rw[if_pos (fj (fj (fj (fj (by trivial)))))];rfl
     ·rw[if_neg (by
       rintro(z | z | z | z | z)
       ·exact c1 z
       ·exact c2 z
       ·cases z
       ·exact c4 z
       ·cases z)]
      rfl
   ·rw[aj,if_pos (fj (fj (kQ (by trivial))))];rfl
theorem aqt:lj.RS:=rE [.d tB] lj
def awn:=lj.gr awm 4 ⟨.iB aga,⟨.iB agb,⟨.iB agc,⟨.iB agd,trivial⟩⟩⟩⟩
theorem BZ{α:Type}{f:α->List Int}{l:List α}(h:∀x∈l,Bytes (f x)):Bytes (l.flatMap f):=λb hb=>by obtain⟨x,hx,hb⟩:=iP.1 hb;exact h x hx b hb
theorem Ey{α:Type}{f:α->List Int}{n:Nat}:∀ {l:List α},(∀x∈l,(f x).length<=n)->(l.flatMap f).length<=n*l.length
 |[],_=>aS _
 |x::l,h=>by
  rw[dg,ak,aB,Nat.mul_add,jy];have h1:=h x aG;have h2:=Ey (l:=l) λy hy=>h y (aD _ hy)
  omega
theorem aqD{t:fN}(hv:A7 t):Bytes (az1 t)/\(az1 t).length<=1000000:=by
 cases iS:iF t
 ·unfold az1;rw[iS];exact⟨λx hx=>(by cases hx),aS _⟩
 obtain⟨⟨a1,a2,a3,a4⟩,b1,b2⟩:=lQ iS;have ak3:∀x∈t.1,_:=λx hx=>Cn (om _ _ b1 x hx)
 rw[awy iS];have n0:∀ {n:Nat},n<=1000->Dv (n:Int):=λh=>sD aq
 have e1:∀x∈t.1,Bytes (aiG x.1)/\(aiG x.1).length<=43:=λx hx=>by have hi:=ak3 x hx;have hr:=mV x.1.2.1;have hs:=(hv.2.1 x hx).1;exact⟨gj hs.2 (kg ⟨hi.1,aq⟩),by unfold aiG;rw[ak,hs.1];omega⟩
 have e2:∀o∈t.2.1,Bytes (BH o)/\(BH o).length<=1022:=λo ho=>by have hi:=(mC _ _ b2 o ho).1;have hr:=mV o.1;have adT:=mV (M3 o.2.1).length;have hl:=Km o.2.1;exact⟨gj (kg ⟨hi.1,aq⟩) (gj (kg (n0 hl)) (aoh _)),by unfold BH;rw[ak,ak];omega⟩
 have e3:∀x∈t.1,Bytes (A6 x.2.1)/\(A6 x.2.1).length<=300:=λx hx=>by
  have hi:=ak3 x hx;have hr:=mV x.2.1.1;have adT:=mV x.2.1.2.1.length;have hf:=Ey (f:=aqZ) (n:=16) (l:=x.2.1.2.1) λs _=>by unfold aqZ;rw[ak,dv,dv];omega
  refine⟨gj (kg ⟨hi.2.2.1,aq⟩) (gj (kg (n0 aq)) (gj (BZ λs _=>gj (Bg _) (Bg _)) (Bg _))),?_⟩;unfold A6;simp only[ak,dv];omega
 have f1:=Ey (f:=λx:gU=>aiG x.1) (n:=43) (l:=t.1) λx hx=>(e1 x hx).2
 have f2:=Ey (f:=BH) (n:=1022) (l:=t.2.1) λx hx=>(e2 x hx).2
 have f3:=Ey (f:=λx:gU=>A6 x.2.1) (n:=300) (l:=t.1) λx hx=>(e3 x hx).2
 have r1:=mV t.1.length;have r2:=mV t.2.1.length;have r3:=mV t.2.2.1;refine⟨gj (kg (n0 aq)) (gj (BZ λx hx=>(e1 x hx).1) (gj (kg (n0 aq)) (gj (BZ λx hx=>(e2 x hx).1) (gj (kg ⟨a4,hv.2.2⟩) (BZ λx hx=>(e3 x hx).1))))),?_⟩;unfold aGj;simp only[ak];omega
section
section
variable {β:Type} {kt:Ty}
theorem J0(hc:kt.comp=aO)(o o':kt.den)(v:β):∀l:List (kt.den×β),cE kt o (eM kt o' v l)=if kt.beq o o'=aO then au v else cE kt o l
 |[]=>by rw[M9,eE,xY]
 |p::l=>by
  rw[yN];by_cases h:kt.beq o' p.1=aO
  ·rw[if_pos h,eE,eE];have e:=beq_eq kt _ _ hc h;by_cases h2:kt.beq o o'=aO
   ·rw[if_pos h2,if_pos h2]
   ·rw[if_neg h2,if_neg h2,if_neg (by rw[<-e];exact h2)]
  ·rw[if_neg h,eE,eE,J0 hc o o' v l];by_cases h3:kt.beq o p.1=aO
   ·rw[if_pos h3,if_pos h3,if_neg];intro h4;apply h;rw[<-beq_eq kt _ _ hc h4];exact h3
   ·rw[if_neg h3,if_neg h3]
theorem akY(hc:kt.comp=aO)(o o':kt.den):∀ {l:List (kt.den×β)},(l.map (·.1)).Nodup->cE kt o (lK kt o' l)=if kt.beq o o'=aO then aH else cE kt o l
 |[],_=>by rw[aoz,xY];split <;> rfl
 |p::l,hn=>by
  rw[bn,df]at hn;rw[Im];by_cases h:kt.beq o' p.1=aO
  ·rw[if_pos h,eE];have e:=beq_eq kt _ _ hc h;by_cases h2:kt.beq o o'=aO
   ·rw[if_pos h2];have e2:=beq_eq kt _ _ hc h2;cases hg:cE kt o l with
    |none=>rfl
    |some v=>exact absurd (cr.2 ⟨_,(kf hc hn.2).1 hg,rfl⟩) (by rw[e2,e];exact hn.1)
   ·rw[if_neg h2,if_neg (by rw[<-e];exact h2)]
  ·rw[if_neg h,eE,eE,akY hc o o' hn.2];by_cases h3:kt.beq o p.1=aO
   ·rw[if_pos h3,if_pos h3,if_neg];intro h4;apply h;rw[<-beq_eq kt _ _ hc h4];exact h3
   ·rw[if_neg h3,if_neg h3]
theorem get_none(hc:kt.comp=aO){o:kt.den}{l:List (kt.den×β)}(hn:(l.map (·.1)).Nodup):cE kt o l=aH↔o ∉ l.map (·.1):=by
 constructor
 ·intro h hm;obtain⟨p,hp,e⟩:=cr.1 hm;have e:p.1=o:=e;have:=(kf hc hn (x:=o) (v:=p.2)).2 (by rw[<-e];exact hp);rw[h]at this;cases this
 ·intro h;cases hg:cE kt o l with
  |none=>rfl
  |some v=>exact absurd (cr.2 ⟨_,(kf hc hn).1 hg,rfl⟩) h
theorem G5{l:List (kt.den×β)}(hn:(l.map (·.1)).Nodup):l.Nodup:=by
 induction l with
 |nil=>exact ja
 |cons p l ih=>
  rw[bn,df]at hn;exact df.2 ⟨λh=>hn.1 (cr.2 ⟨p,h,rfl⟩),ih hn.2⟩
theorem ae5(hc:kt.comp=aO){l l':List (kt.den×β)}(hn:(l.map (·.1)).Nodup)(hn':(l'.map (·.1)).Nodup)(h:∀o,cE kt o l=cE kt o l'):l.Perm l':=by rw[List.perm_ext_iff_of_nodup (G5 hn) (G5 hn')];rintro⟨o,v⟩;rw[<-kf hc hn,<-kf hc hn',h]
end
theorem Bb(a b:dC):(Ty.beq cV a b=aO)↔a=b:=⟨beq_eq cV a b rfl,λh=>by rw[h];exact beq_refl cV b rfl⟩
abbrev At:=List (dC×gZ)
abbrev jB(a:At):List dC:=a.map (·.1)
theorem as4(o o':dC)(v:gZ)(a:At):cE cV o (eM cV o' v a)=if o=o' then au v else cE cV o a:=by
 rw[J0 iM];by_cases h:o=o'
 ·rw[if_pos ((Bb _ _).2 h),if_pos h]
 ·rw[if_neg (λe=>h ((Bb _ _).1 e)),if_neg h]
theorem axZ(o o':dC){a:At}(hn:(jB a).Nodup):cE cV o (lK cV o' a)=if o=o' then aH else cE cV o a:=by
 rw[akY iM _ _ hn];by_cases h:o=o'
 ·rw[if_pos ((Bb _ _).2 h),if_pos h]
 ·rw[if_neg (λe=>h ((Bb _ _).1 e)),if_neg h]
theorem RY{o:dC}{v:gZ}{a:At}(hn:(jB a).Nodup):(jB (eM cV o v a)).Nodup:=O4 iM hn
theorem yF{o:dC}{a:At}(hn:(jB a).Nodup):(jB (lK cV o a)).Nodup:=EI iM hn
theorem aAs{a a':At}(hn:(jB a).Nodup)(hn':(jB a').Nodup)(h:∀o,cE cV o a=cE cV o a'):a.Perm a':=ae5 iM hn hn' h
theorem auN{a a':At}(hn:(jB a).Nodup)(h:a'.Perm a)(o:dC):cE cV o a'=cE cV o a:=SP iM hn h
theorem ajZ{o:dC}{c:gZ}{a:At}(hn:(jB a).Nodup)(hg:cE cV o a=au c):a.Perm ((o,c)::lK cV o a):=by
 refine aAs hn ?_ λx=> ?_
 ·show(o::jB (lK cV o a)).Nodup;refine df.2 ⟨?_,yF hn⟩;have:=(get_none iM (yF (o:=o) hn)).1 (by rw[axZ o o hn,if_pos rfl]);exact this
 ·rw[eE,axZ x o hn];by_cases h:x=o
  ·subst h;rw[if_pos ((Bb _ _).2 rfl),hg]
  ·rw[if_neg (λe=>h ((Bb _ _).1 e)),if_neg h]
theorem ME(o:dC)(l:List dC)(a:At):JQ (o::l) a=JQ l (lK cV o a):=rfl
theorem HT:∀(l:List dC) {a:At},(jB a).Nodup->(jB (JQ l a)).Nodup
 |[],_,h=>h
 |o::l,a,h=>by rw[ME];exact HT l (yF h)
theorem XA(x:dC):∀(l:List dC) {a:At},(jB a).Nodup->cE cV x (JQ l a)=if x∈l then aH else cE cV x a
 |[],a,_=>by rw[if_neg (by simp)];rfl
 |o::l,a,h=>by
  rw[ME,XA x l (yF h),axZ x o h];by_cases h1:x∈l
  ·rw[if_pos h1,if_pos (aD _ h1)]
  ·rw[if_neg h1];by_cases h2:x=o
   ·rw[if_pos h2,if_pos (by rw[h2];exact aG ..)]
   ·rw[if_neg h2,if_neg (by simp[h1,h2])]
theorem xU(h:Int)(o:dC)(l:List dC)(x:jo)(xs:List jo)(a:At):Hw h (o::l) (x::xs) a=Hw h l xs (eM cV o (x,(h,())) a):=rfl
theorem QR(h:Int):∀(l:List dC) (xs:List jo) {a:At},(jB a).Nodup->(jB (Hw h l xs a)).Nodup
 |[],[],_,hn=>hn
 |[],_::_,_,hn=>hn
 |_::_,[],_,hn=>hn
 |o::l,x::xs,a,hn=>by rw[xU];exact QR h l xs (RY hn)
theorem akV(h:Int)(x:dC):∀(l:List dC) (xs:List jo) (a:At),x ∉ l->cE cV x (Hw h l xs a)=cE cV x a
 |[],[],_,_=>rfl
 |[],_::_,_,_=>rfl
 |_::_,[],_,_=>rfl
 |o::l,y::xs,a,hx=>by rw[xU,akV h x l xs _ (λe=>hx (aD _ e)),as4,if_neg (λe=>hx (by rw[e];exact aG ..))]
theorem adF(h:Int):∀(l:List dC) (xs:List jo) (a:At),l.Nodup->∀(k:Nat) (hk:k < l.length) (Vk:k < xs.length),cE cV l[k] (Hw h l xs a)=au (xs[k],(h,()))
 |[],_,_,_,k,hk,_=>by simp at hk
 |_::_,[],_,_,k,_,hk=>by simp at hk
 |o::l,y::xs,a,hn,k,hk,Vk=>by
  rw[df]at hn;rw[xU];cases k with
  |zero=>
   show cE cV o _=au (y,(h,()));rw[akV h o l xs _ hn.1,as4,if_pos rfl]
  |succ k=>
   simp only[List.getElem_cons_succ];exact adF h l xs _ hn.2 k (by simpa using hk) (by simpa using Vk)
def wx(a:At)(l:List dC):Int:=(l.map λo=>((cE cV o a).getD awM).1.1).sum
theorem adn:∀(l:List dC) {a:At},(jB a).Nodup->l.Nodup->(∀o∈l,(cE cV o a).isSome=aO)->yf (JQ l a)=yf a - wx a l/\(JQ l a).length+l.length=a.length
 |[],a,_,_,_=>by simp[JQ,wx]
 |o::l,a,hn,hl,ht=>by
  rw[df]at hl;obtain⟨c,hc⟩:=bD.1 (ht o (aG ..));have hg:∀x∈l,cE cV x (lK cV o a)=cE cV x a:=λx hx=>by rw[axZ x o hn,if_neg (λe=>hl.1 (by rw[<-e];exact hx))]
  obtain⟨h1,h2⟩:=adn l (yF (o:=o) hn) hl.2 λx hx=>by rw[hg x hx];exact ht x (aD _ hx)
  have hp:=ajZ hn hc;have h3:=WW hp;have h4:=hp.length_eq;have h5:wx (lK cV o a) l=wx a l:=by unfold wx;congr 1;exact im λx hx=>by rw[hg x hx]
  rw[oY]at h3;rw[aB]at h4;rw[ME,h1,h5,aB];have h6:wx a (o::l)=c.1.1+wx a l:=by simp[wx,hc]
  rw[h6];exact⟨by have h3:yf a=c.1.1+yf (lK cV o a):=h3;omega,aq⟩
theorem EM(x:jo)(xs:List jo):kV (x::xs)=x.1+kV xs:=by simp[kV]
theorem acd(h:Int):∀(l:List dC) (xs:List jo) {a:At},(jB a).Nodup->l.Nodup->l.length=xs.length->(∀o∈l,cE cV o a=aH)->yf (Hw h l xs a)=yf a+kV xs/\(Hw h l xs a).length=a.length+l.length
 |[],[],a,_,_,_,_=>by simp[Hw,kV]
 |[],_::_,_,_,_,he,_=>by simp at he
 |_::_,[],_,_,_,he,_=>by simp at he
 |o::l,x::xs,a,hn,hl,he,ht=>by
  rw[df]at hl;have h0:=(get_none iM hn).1 (ht o (aG ..));have e:eM cV o (x,(h,())) a=a++ [(o,(x,(h,())))]:=zU iM h0;obtain⟨h1,h2⟩:=acd h l xs (RY (o:=o) (v:=(x,(h,()))) hn) hl.2 (by simpa using he) λy hy=>by rw[as4,if_neg (λe=>hl.1 (by rw[<-e];exact hy))];exact ht y (aD _ hy)
  rw[xU,h1,h2,e,acj,EM,ak];simp only[yf,bn,eF,mZ,List.sum_nil,aB,bw];omega
theorem Sf:∀(l:List gU) (m:List (dC×Bool)),By m l=aO->(l.map (·.1)).Nodup/\∀x∈l,cE cV x.1 m≠au aO
 |[],_,_=>⟨ja,λ_ h=>by cases h⟩
 |x::l,m,h=>by
  rw[By,al,al]at h;obtain⟨⟨h1,_⟩,h2⟩:=h;obtain⟨h3,h4⟩:=Sf l _ h2;have hs:∀y∈l,cE cV y.1 (eM cV x.1 aO m)≠au aO:=h4;have gV:∀y∈l,y.1≠x.1:=λy hy e=>hs y hy (by rw[J0 iM,if_pos ((Bb _ _).2 e)])
  refine⟨?_,λy hy=> ?_⟩
  ·rw[bn,df];refine⟨λhm=> ?_,h3⟩;obtain⟨y,hy,e⟩:=cr.1 hm;exact gV y hy e
  ·rcases bA.1 hy with rfl | hy
   ·intro e;unfold GW at h1;rw[e]at h1;cases h1
   ·have:=hs y hy;rw[J0 iM,if_neg (λe=>gV y hy ((Bb _ _).1 e))]at this;exact this
theorem abv(t:fN):(dJ t).Nodup:=by
 unfold dJ;split
 ·rename_i h;exact(Sf _ _ (lQ h).2.1).1
 ·exact ja
theorem SF(t:fN):(iK t).Nodup:=by
 unfold iK;split
 ·unfold BC;refine List.Pairwise.map _ (λa b gV e=> ?_) (List.nodup_range' (s:=0) (n:=t.2.1.length) (step:=1));have:(a:Int)=b:=bK (λo:dC=>o.2.1) e;exact gV aq
 ·exact ja
theorem Sd{h:Int}{id:List Int}{a:At}:∀(l:List gU) (f0 f:Int),wg h id a l f0= .inr f->(∀o∈l.map (·.1),(cE cV o a).isSome=aO)/\f=f0+wx a (l.map (·.1))
 |[],f0,f,e=>by simp only[wg,Sum.inr.injEq]at e;subst e;simp[wx]
 |x::l,f0,f,e=>by
  simp only[wg]at e;cases hg:cE cV x.1 a with
  |none=>rw[hg]at e;cases e
  |some c=>
   rw[hg]at e;simp only at e;split at e
   ·cases e
   ·obtain⟨h1,h2⟩:=Sd l _ _ e;refine⟨λo ho=> ?_,?_⟩
    ·rw[bn]at ho;rcases bA.1 ho with rfl | ho
     ·rw[hg];rfl
     ·exact h1 o ho
    ·rw[h2];simp only[wx,bn,mZ,hg,dQ];omega
structure vX(t:fN)(h:Int)(a:At)(dL:Int):Prop where
 ok:iF t=aO
 h1:1<=h
 h2:h<=1048576
 ins:∃f,wg h (tl t) a t.1 0= .inr f/\dL=f - kV t.2.1
 there:∀o∈dJ t,(cE cV o a).isSome=aO
 made:∀o∈iK t,cE cV o a=aH
 aEd:dL=wx a (dJ t) - kV t.2.1
 pos:0<=dL
theorem akF{t:fN}{h:Int}{a:At}(e:(fy t h a).2=0):vX t h a (fy t h a).1:=by
 obtain⟨iS,h1,h2,f,hi,hm,hp,hc⟩:=W6 e;obtain⟨i1,i2⟩:=Sd _ _ _ hi;have hs:dJ t=t.1.map (·.1):=by unfold dJ;rw[if_pos iS]
 rw[hc];refine⟨iS,h1,h2,⟨f,hi,rfl⟩,by rw[hs];exact i1,λo ho=> ?_,by rw[hs,i2];show 0+_ - _=_;omega,hp⟩;have:=fg.1 hm o ho;unfold pc at this;cases hg:cE cV o a with
 |none=>rfl
 |some c=>rw[hg]at this;simp at this
section
variable {t:fN} {h dL:Int} {a:At}
theorem vX.aFA(hc:vX t h a dL)(ha:(jB a).Nodup){o:dC}(ho:o∈dJ t):cE cV o (nS t h a)=aH:=by
 have hm:o ∉ iK t:=λe=>by have:=hc.there o ho;rw[hc.made o e]at this;cases this
 unfold nS;rw[akV h o _ _ _ hm,XA o _ ha,if_pos ho]
theorem vX.new(hc:vX t h a dL){k:Nat}(hk:k < (iK t).length)(Vk:k < t.2.1.length):cE cV (iK t)[k] (nS t h a)=au (t.2.1[k],(h,())):=by unfold nS;exact adF h _ _ _ (SF t) k hk Vk
theorem Y7(ha:(jB a).Nodup){o:dC}(h1:o ∉ dJ t)(h2:o ∉ iK t):cE cV o (nS t h a)=cE cV o a:=by unfold nS;rw[akV h o _ _ _ h2,XA o _ ha,if_neg h1]
theorem Je(ha:(jB a).Nodup):(jB (nS t h a)).Nodup:=QR h _ _ (HT _ ha)
theorem vX.sum(hc:vX t h a dL)(ha:(jB a).Nodup):yf (nS t h a)=yf a - dL/\(nS t h a).length+t.1.length=a.length+t.2.1.length:=by
 obtain⟨d1,d2⟩:=adn (dJ t) ha (abv t) hc.there;obtain⟨e1,e2⟩:=acd h (iK t) t.2.1 (HT (dJ t) ha) (SF t) (tG hc.ok) λo ho=>by
  rw[XA o _ ha];split
  ·rfl
  ·exact hc.made o ho
 have hf:=hc.aEd;have hl:=Se hc.ok;have hm:=tG hc.ok;unfold nS;rw[e1,e2,d1];exact⟨aq,aq⟩
theorem vX.RW(hc:vX t h a dL)(ha:ags a)(hv:A7 t):ags (nS t h a):=by
 refine⟨Je ha.1,λp hp=> ?_⟩;have hg:=(kf iM (Je (t:=t) (h:=h) ha.1) (x:=p.1) (v:=p.2)).2 hp;by_cases h2:p.1∈iK t
 ·obtain⟨k,hk,e⟩:=List.getElem_of_mem h2;have Vk:k < t.2.1.length:=by rw[<-tG hc.ok];exact hk
  rw[<-e,hc.new hk Vk]at hg;have hg:=(aQ hg).symm;have ho:=mC _ _ (lQ hc.ok).2.2 _ (aZ Vk);have hu:=hv.1.1 _ (aZ Vk);have h1:=hc.h1;have h3:=hc.h2;refine⟨?_,?_⟩
  ·rw[<-e];have hm:iK t=BC (tl t) 0 t.2.1.length:=by unfold iK;rw[if_pos hc.ok]
   simp only[hm,BC,List.getElem_map];have:=(aj8 (t:=t));exact⟨this.1,λx hx=>this.2 x hx⟩
  ·rw[hg];exact⟨ho.2,hu.1,ho.1.1,ho.1.2,by show 0<=h;omega,h3⟩
 ·by_cases h1:p.1∈dJ t
  ·rw[hc.aFA ha.1 h1]at hg;cases hg
  ·rw[Y7 ha.1 h1 h2]at hg;exact ha.2 p ((kf iM ha.1).1 hg)
end
end
theorem akr(k:Int):mm (eQ k):=(afp _ _).u
def mT:List Int:=[152,45,158,62,185,150,245,89,230,51,244,209,148,222,243,118,29,144,159,90,59,100,125,26,133,31,234,214,124,50,201,209]
theorem s3:nG 3 mT=(2066670005889522986,1913675330412042729,()):=by decide+kernel
theorem s5:nG 5 mT=(1601457595092860225,1871270319440231866,()):=by decide+kernel
theorem u0:mm 0:=⟨dp 0,eR⟩
theorem Sn{x:Int}{l:List Int}(h:mm x)(hl:A8 l):A8 (x::l):=λp hp=>by
 rcases bA.1 hp with rfl | hp
 ·exact h
 ·exact hl p hp
theorem XS:A8 []:=λp hp=>by cases hp
theorem ayD{ks:List Int}(h:A8 ks):amm (iy ks):=λb hb=>by have hb:b∈ [(ks,(0:Int),(0:Int),(0:Int),())]:=hb;rw[bf]at hb;subst hb;exact⟨h,u0⟩
theorem aF7:MT 0=aO:=rfl
theorem axi(ks:List Int)(a d:Int)(h:ks.length<=12):Dw (ks,a,d,0,())=(ks.all yI && (MT a && MT d)):=by have e:Dw (ks,a,d,0,())=(decide (ks.length<=12) && (ks.all yI && (MT a && (MT d && aO)))):=rfl;rw[e,aM h,dD,jx]
theorem Kn(ks:List Int)(h:ks.length<=12):ju (iy ks)=ks.all yI:=by have e:ju (iy ks)=((Dw (ks,0,0,0,()) && aO) && aO):=rfl;rw[e,axi _ _ _ h,aF7,jx,jx,jx,jx]
def auv(b:rI)(sg:List Sg)(s:Int)(m:List Int)(height age:Int):Int:=if height < b.2.1\/age < b.2.2.1 then 11 else if b.2.2.2.1≠0/\eQ s≠b.2.2.2.1 then 23 else if sg.length≠b.1.length then 7 else if wy m b.1 sg then 0 else 7
theorem ayZ{l:Lk}{i:Nat}{b:rI}(iS:ju l=aO)(hi:i < l.1.length)(hb:l.1[i]=b)(sg:List Sg)(s:Int)(m:List Int)(h a:Int):zX l ((i:Int),sg,s,()) m h a=auv b sg s m h a:=by
 have n1:nth (.pair (.slice (.int .u64)) (.pair (.int .i64) (.pair (.int .i64) (.pair (.int .u64) .unit)))) l.1 i=l.1[i]:=db (t:=(.pair (.slice (.int .u64)) (.pair (.int .i64) (.pair (.int .i64) (.pair (.int .u64) .unit))))) hi;unfold zX;rw[if_neg (by
  intro hh;rcases hh with hh | hh | hh
  ·rw[iS]at hh;cases hh
  ·have hh:(i:Int) < 0:=hh;omega
  ·have hh:(i:Int)>=l.1.length:=hh;omega)]
 show(if h < (nth (.pair (.slice (.int .u64)) (.pair (.int .i64) (.pair (.int .i64) (.pair (.int .u64) .unit)))) l.1 i).2.1\/a < (nth (.pair (.slice (.int .u64)) (.pair (.int .i64) (.pair (.int .i64) (.pair (.int .u64) .unit)))) l.1 i).2.2.1 then 11 else if(nth (.pair (.slice (.int .u64)) (.pair (.int .i64) (.pair (.int .i64) (.pair (.int .u64) .unit)))) l.1 i).2.2.2.1≠0/\eQ s≠(nth (.pair (.slice (.int .u64)) (.pair (.int .i64) (.pair (.int .i64) (.pair (.int .u64) .unit)))) l.1 i).2.2.2.1 then 23 else if sg.length≠(nth (.pair (.slice (.int .u64)) (.pair (.int .i64) (.pair (.int .i64) (.pair (.int .u64) .unit)))) l.1 i).1.length then 7 else if wy m (nth (.pair (.slice (.int .u64)) (.pair (.int .i64) (.pair (.int .i64) (.pair (.int .u64) .unit)))) l.1 i).1 sg then 0 else 7)=_;rw[n1,hb];rfl
theorem Vd(m:List Int):∀ks:List Int,(∀k∈ks,0 < k/\k < 2305843009213688669)->wy m (ks.map eQ) (ks.map λk=>nG k m)=aO
 |[],_=>rfl
 |k::ks,h=>by have hk:=h k aG;show(ym (eQ k) m 1 (nG k m) && wy m (ks.map eQ) (ks.map λk=>nG k m))=aO;rw[azM k m hk.1 hk.2,Vd m ks λx hx=>h x (aD _ hx)];rfl
theorem aaO(ks:List Int)(hk:∀k∈ks,0 < k/\k < 2305843009213688669)(af dl sc s:Int)(m:List Int)(h a:Int)(hs:sc=0\/eQ s=sc):
  auv (ks.map eQ,af,dl,sc,()) (ks.map λk=>nG k m) s m h a=if h < af\/a < dl then 11 else 0:=by
 have e:auv (ks.map eQ,af,dl,sc,()) (ks.map λk=>nG k m) s m h a=if h < af\/a < dl then 11 else if sc≠0/\eQ s≠sc then 23 else if(ks.map λk=>nG k m).length≠(ks.map eQ).length then 7 else if wy m (ks.map eQ) (ks.map λk=>nG k m) then 0 else 7:=rfl
 rw[e,Vd m ks hk,if_neg (c:=sc≠0/\eQ s≠sc) (by rintro⟨h1,h2⟩;exact hs.elim h1 h2),if_neg (c:=(ks.map λk=>nG k m).length≠(ks.map eQ).length) (by rw[bg,bg];exact λx=>x rfl)];rfl
theorem aFr{k:Int}(h:0 < k/\k < 2305843009213688669):∀x∈ [k],0 < x/\x < 2305843009213688669:=λx hx=>by rw[bf]at hx;subst hx;exact h
def z32:List Int:=ai 32 0
def aIQ:Lk:=iy [eQ 7]
def aH8:At:=[GI 0 ((100:Int),(aIQ,()))]
theorem b7:mm (eQ 7):=akr 7
theorem agm:mm 0:=⟨eR,eR⟩
theorem n14(m:List Int)(hm:¬m=z32):cE cV (m,((0:Int),())) aH8=aH:=by unfold aH8 GI;rw[eE,if_neg,xY];intro e;have:=(Bb _ _).1 e;exact hm (bK (λo:dC=>o.1) this)
section
structure QP(m n:Nat)(a:At)(s:List eT):Prop where
 RW:ags a
 le:n<=s.length
 len:s.length<=m
 aHT:∀st∈s,aBd st
 sum:yf a<=1125899906842624
 aGz:a.length<=256+64*m
theorem QP.mono{m m' n:Nat}{a:At}{s:List eT}(h:QP m n a s)(hm:m<=m'):QP m' n a s:=⟨h.RW,h.le,ko h.len hm,h.aHT,h.sum,by have:=h.aGz;omega⟩
theorem arh{a:At}(h:∀p∈a,0<=p.2.1.1):0<=yf a:=by
 induction a with
 |nil=>exact dp 0
 |cons p a ih=>
  rw[oY];have:=h p aG;have:=ih λq hq=>h q (aD _ hq)
  omega
theorem ags.pos{a:At}(h:ags a):0<=yf a:=arh λp hp=>(h.2 p hp).2.2.2.1
theorem Yb:∀(l:List jo) (sum:Int) (k:Nat) {a:At},0<=sum->sum<=1125899906842624->(∀o∈l,amo o)->It sum k l=au a->
  a.length=l.length/\yf a=kV l/\sum+kV l<=1125899906842624/\(∀o∈l,0<=o.1)/\(∀p∈a,ab9 p.1/\aD2 p.2/\(k:Int)<=p.1.2.1)/\(jB a).Nodup
 |[],sum,k,a,h0,h1,_,e=>by obtain rfl:=aQ e;exact⟨rfl,rfl,by show sum+0<=_;omega,λo ho=>(by cases ho),λp hp=>(by cases hp),ja⟩
 |o::l,sum,k,a,h0,h1,hg,e=>by
  rw[It]at e;cases ho:CC sum o with
  |false=>rw[ho]at e;cases e
  |true=>
   rw[ho]at e;simp only at e;cases hr:It (sum+o.1) (k+1) l with
   |none=>rw[hr]at e;cases e
   |some r=>
    rw[hr]at e;obtain rfl:=aQ e;have ho':=ho;unfold CC at ho';simp only[al,aR]at ho';obtain⟨k1,k2,k3⟩:=ho';obtain⟨i1,i2,i3,i4,i5,i6⟩:=Yb l (sum+o.1) (k+1) aq aq (λx hx=>hg x (aD _ hx)) hr;have hu:=hg o aG;refine⟨by rw[aB,aB,i1],?_,by rw[EM];omega,λx hx=> ?_,λp hp=> ?_,?_⟩
    ·rw[oY,EM,i2];rfl
    ·rcases bA.1 hx with rfl | hx
     ·exact k2
     ·exact i4 x hx
    ·rcases bA.1 hp with rfl | hp
     ·refine⟨⟨by show(ai 32 (0:Int)).length=32;rw[cq],λx hx=> ?_⟩,⟨k1,hu.1,k2,by show o.1<=_;omega,dp 0,by show(0:Int)<=_;decide⟩,by show(k:Int)<=k;omega⟩;have hx:x∈ai 32 (0:Int):=hx;obtain rfl:=(mi.1 hx).2;exact⟨eR,eR⟩
     ·have:=i5 p hp;exact⟨this.1,this.2.1,aq⟩
    ·show((GI k o).1::jB r).Nodup;refine df.2 ⟨λhm=> ?_,i6⟩;obtain⟨p,hp,he⟩:=cr.1 hm;have:=(i5 p hp).2.2;have he:p.1=(GI k o).1:=he;rw[he]at this;have this:((k+1:Nat):Int)<=(k:Int):=this;omega
theorem aoD{outs:List jo}{a:At}(hg:∀o∈outs,amo o)(e:aeH outs=au a):QP 0 0 a []/\yf a=kV outs/\a.length=outs.length/\outs.length<=256/\(∀o∈outs,0<=o.1)/\kV outs<=1125899906842624:=by
 unfold aeH at e;by_cases hl:outs.length<=256
 ·rw[if_pos hl]at e;obtain⟨i1,i2,i3,i4,i5,i6⟩:=Yb outs 0 0 eR eR hg e;exact⟨⟨⟨i6,λp hp=>⟨(i5 p hp).1,(i5 p hp).2.1⟩⟩,aC _,aC _,λst nw=>(by cases nw),aq,aq⟩,i2,i1,hl,i4,aq⟩
 ·rw[if_neg hl]at e;cases e
theorem ayR{outs:List jo}(hg:∀o∈outs,amo o):HS outs=au (match aeH outs with | none=> .inl () | some r=> .inr (r,[])):=by rw[anr (d:=outs) hg];simp only[Bl,JN];cases aeH outs <;> rfl
theorem XD:∀(l:List dC) (a:At),(GV a l).length=l.length
 |[],_=>rfl
 |o::l,a=>by rw[GV,aB,aB,XD l]
theorem av8{t:fN}{h dL:Int}{a:At}(hc:vX t h a dL):aBd (stepOf t a):=by have h1:=(lQ hc.ok).1;have h2:=tG hc.ok;have h3:=Se hc.ok;unfold aBd stepOf;rw[XD];exact⟨aq,by show(iK t).length<=1000;omega⟩
section
variable {m n:Nat} {t:fN} {h:Int} {a:At} {s:List eT}
theorem QP.app(hg:QP m n a s)(hc:vX t h a (fy t h a).1)(hv:A7 t):QP (m+1) (n+1) (nS t h a) (s.take n++ [stepOf t a]):=by
 have hl:=hg.le;have hm:=hg.len;have hs:=hc.sum hg.RW.1;have hp:=hc.pos;have h1:=(lQ hc.ok).1;have e:(s.take n).length=n:=by rw[bZ];omega
 refine⟨hc.RW hg.RW hv,by rw[ak,e];exact aC _,by rw[ak,e];show n+1<=_;omega,λst nw=> ?_,?_,?_⟩
 ·rcases bp.1 nw with nw | nw
  ·exact hg.aHT st (kk nw)
  ·rw[bf.1 nw];exact av8 hc
 ·have:=hg.sum;omega
 ·have:=hg.aGz;omega
theorem QP.apply(hg:QP m n a s)(hm:m<=1000)(hv:A7 t):((fy t h a).2≠0/\B8 (t,h,n,a,s)=au (.inl ((fy t h a).2,n,a,s)))\/
  (vX t h a (fy t h a).1/\(fy t h a).2=0/\B8 (t,h,n,a,s)=au (.inr (0,n+1,nS t h a,s.take n++ [stepOf t a]))/\QP (m+1) (n+1) (nS t h a) (s.take n++ [stepOf t a])):=by
 have hr:=ann (d:=(t,h,n,a,s)) ⟨hv,hg.RW,hg.le,by have:=hg.len;show s.length<=_;omega⟩;by_cases he:(fy t h a).2=0
 ·right;refine⟨akF he,he,?_,hg.app (akF he) hv⟩;rw[hr];simp only[xW,FZ,he,ne_eq,not_true_eq_false,cK]
 ·left;refine⟨he,?_⟩;rw[hr];simp only[xW,FZ,ne_eq,he,not_false_eq_true,cZ]
theorem QP.check(hg:QP m n a s)(hv:A7 t):lY.call (t,h,n,a,s)=au ((fy t h a).1,(fy t h a).2,n,a,s):=Xl (d:=(t,h,n,a,s)) ⟨hv,hg.RW⟩
theorem QP.copy(hg:QP m n a s)(hm:m<=1000):wa.call (n,a,s)=au (n,a,s,(s.take n).length,fK a,s.take n):=ahx (d:=(n,a,s)) ⟨hg.le,by have:=hg.len;show s.length<=_;omega,hg.RW.1⟩
theorem ags.perm{a':At}(h:ags a)(hp:a.Perm a'):ags a':=⟨(hp.map _).nodup_iff.1 h.1,λp hm=>h.2 p (hp.mem_iff.2 hm)⟩
theorem QP.canon(hg:QP m n a s):QP m n (fK a) (s.take n)/\(s.take n).length=n:=by
 have hp:=vi a;have e:(s.take n).length=n:=by rw[bZ];have:=hg.le;omega
 exact⟨⟨hg.RW.perm hp.symm,aq,by have:=hg.le;have:=hg.len;omega,λst nw=>hg.aHT st (kk nw),by rw[WW hp];exact hg.sum,by rw[hp.length_eq];exact hg.aGz⟩,e⟩
end
end
theorem axM(x y:List Int):Ty.beq tH x y=decide (x=y):=by
 by_cases h:x=y
 ·rw[h,eC rfl];exact beq_refl tH y rfl
 ·rw[eY h];cases hb:Ty.beq tH x y with
  |false=>rfl
  |true=>exact absurd (beq_eq tH x y rfl hb) h
abbrev UI:Ty:=(.pair jk (.pair tH (.pair ti (.pair ti .unit))))
abbrev Mc:=(fN×(Bs×(Int×(Int×Unit))))
abbrev fk:Ty:=(.gR UI)
abbrev gG:=(Option (Nat×Mc))
abbrev Mk:=List (gG×Bool)
abbrev aFN:=List (Bs×gG)
def GB:Bs:=ai 32 (0:Int)
def Dc(m:Mk)(x:gG):Bool:=(cE fk x m).getD aV
def WU(t:fN):Prop:=t.1.length<=64/\∀i∈t.1,i.1.1=GB
def awQ(v o:dC):Bool:=Ty.beq cV v o
abbrev IG:=(List gU)×Int×Int×(List (Bs×gG))×(List (gG×Bool))
def abd:IG->Unit->((List (Bs×gG))×(List (gG×Bool))):=λ(t9,t10,t11,iC,gm) y=>(iC,gm)
abbrev alT:=fN×(List (Bs×gG))×(List (gG×Bool))
def abc:IG->Prop:=λ(l,n,i,q,_)=>l.length<=64/\(∀x∈l,(cE tH x.1.1 q).getD aH=aH)/\n=(l.length:Int)/\∃k:Nat,k<=l.length/\i=k
def ai1:IG->Unit:=λ_=>()
def apm:alT->Prop:=λ(t,q,_)=>t.1.length<=64/\∀x∈t.1,(cE tH x.1.1 q).getD aH=aH
def azh:alT->((List (Bs×gG))×(List (gG×Bool))):=λ(_,q,m)=>(q,m)
def mU:Ls abc abd ai1:=wh (λ(t9,t10,t11,iC,gm)=>⟨([cj,.ptr (.bF 0) 0 [] 0,.ptr (.bF 2) 0 [] 0,.ptr (.bF 4) 0 [] 0]++ba 5 ([.d (.slice gB) t9,.d ti t10,.d ti t11]++ba 42 [])),[eL (.dM (.bF 1) 0),eL (.mp tH fk iC),eL (.dM (.bF 3) 0),eL (.mp fk .bool gm),eL (.fn 79 (.cons (.ptr (.bF 0) 0 [] 0) (.cons (.ptr (.bF 2) 0 [] 0) (.cons (.ptr (.bF 4) 0 [] 0) (.nil)))))],(ai 54 [])⟩) (λx=>(.exit 0,⟨(ba 54 []),[eL (.dM (.bF 1) 0),eL (.mp tH fk x.1),eL (.dM (.bF 3) 0),eL (.mp fk .bool x.2),eL (.fn 79 (.cons (.ptr (.bF 0) 0 [] 0) (.cons (.ptr (.bF 2) 0 [] 0) (.cons (.ptr (.bF 4) 0 [] 0) (.nil)))))],(ai 54 [])⟩))
def Hf:Fs Tryz.prog apm bG azh:=gf 79 Tryz.f79 (λ(t,o1,o3)=>([.d jk t,.ptr (.bF 0) 0 [] 0,.ptr (.bF 2) 0 [] 0,.ptr (.bF 4) 0 [] 0],[.obj 0 aV (.dM (.bF 1) 0),.obj 0 aV (.mp tH fk o1),.obj 0 aV (.dM (.bF 3) 0),.obj 0 aV (.mp fk .bool o3),.obj 0 aV (.fn 79 (.cons (.ptr (.bF 0) 0 [] 0) (.cons (.ptr (.bF 2) 0 [] 0) (.cons (.ptr (.bF 4) 0 [] 0) (.nil)))))])) (λx=>⟨.nil,[.obj 0 aV (.dM (.bF 1) 0),.obj 0 aV (.mp tH fk x.1),.obj 0 aV (.dM (.bF 3) 0),.obj 0 aV (.mp fk .bool x.2),.obj 0 aV (.fn 79 (.cons (.ptr (.bF 0) 0 [] 0) (.cons (.ptr (.bF 2) 0 [] 0) (.cons (.ptr (.bF 4) 0 [] 0) (.nil)))))],[]⟩) [au jk,aH,aH,aH] [] {loops:=th [(2,{bz:=[1,2,3,9,10,11]})],outs:=tg [(2,{},{})],iE:=uA [(2,mU.E)]}
theorem abe:mU.RS:=rL [.d (.slice gB),.d ti,.d ti,.d (.slice (.pair tH fk)),.d (.slice (.pair fk .bool))] mU
theorem Hg(t9 t10 t11 iC gm)(kn:K2 R)(kx:K3 R):Hf.R 0 mU (t9,t10,t11,iC,gm) kn kx=aP (iG t11 t10) (aP (iO t11 (t9.length:Int)) (aP (Option.isNone ((cE tH (nth gB t9 (ab t11)).1.1 iC).getD aH)) (kn (mU.st (t9,t10,(bT .i64 t11 1),iC,gm))) (aP ((cE fk ((cE tH (nth gB t9 (ab t11)).1.1 iC).getD aH) gm).getD aV) (kn (mU.st (t9,t10,(bT .i64 t11 1),iC,gm))) (aP (iG (nth gB t9 (ab t11)).1.2.1 0) (kn (mU.st (t9,t10,(bT .i64 t11 1),iC,gm))) (ax (((cE tH (nth gB t9 (ab t11)).1.1 iC).getD aH)) λx1=>aP (zP (nth gB t9 (ab t11)).1.2.1 (x1.2.1.2.1.length:Int)) (kn (mU.st (t9,t10,(bT .i64 t11 1),iC,gm))) (ax (((cE tH (nth gB t9 (ab t11)).1.1 iC).getD aH)) λx2=>aH))))) aH) (mU.go kx (iC,gm)):=cW
theorem au8(t o1 o3)(k:K1 R):Hf.A (t,o1,o3) k=ax (mU.call (t.1,(t.1.length:Int),0,o1,o3)) λx3=>k (Hf.out (x3.1,x3.2)):=cW
theorem afe:(Hf.mN 0 mU):=by
 refine(Hf.px 0 mU) (λ(l,_,i,_,_)=>l.length - i.toNat) ?_
 rintro⟨l,n,i,q,m⟩ ⟨hl,hx,rfl,k,hk,rfl⟩;have hl:l.length<=64:=hl;have hk:k<=l.length:=hk;by_cases h:k < l.length
 ·left;have n1:nth gB l k=l[k]:=db (t:=gB) h;refine⟨(l,(l.length:Int),((k+1:Nat):Int),q,m),⟨hl,hx,rfl,k+1,h,rfl⟩,by simp only[aa];omega,rfl,λkn kx=> ?_⟩;have e:=hx _ (aZ h);rw[Hg,bh aq,aj,bB aq aq,aj,aa,n1,e,N.pV aq];rfl
 ·right;obtain rfl:k=l.length:=aq;intro R kn kx;rw[Hg,aW aq,ao];rfl
theorem au9:Hf.Ok:=by rintro⟨t,q,m⟩ ⟨hl,hx⟩;rw[au8,abe (d:=(t.1,(t.1.length:Int),0,q,m)) ⟨hl,hx,rfl,0,aS _,rfl⟩];rfl
theorem apn:Hf.RS:=rE [.d jk,.d (.slice (.pair tH fk)),.d (.slice (.pair fk .bool))] Hf
def ava:=Hf.gr au9 1 ⟨.iB afe,trivial⟩
abbrev EO:=fN×(List gG)×Int×Int×(List (Bs×gG))
abbrev Pd:=(List (Bs×gG))
def uE:EO->Pd->((fN)×((List (Bs×gG)))):=λ(rC,t11,t12,t13,n10) y=>(rC,y)
abbrev aeY:=(List gG)×fN
def Y0(row:List gG):Prop:=∀x∈row,x.isSome=aO
def amp(m:aFN)(x:gG):aFN:=match x with | none=>m | some w=>eM tH w.2.2.1 (au w) m
def aGp(row:List gG):Prop:=∀w,au w∈row->¬w.2.2.1=GB
theorem aBg{m:aFN}{x:gG}(hm:cE tH GB m=aH)(hx:∀w,x=au w->¬w.2.2.1=GB):cE tH GB (amp m x)=aH:=by
 cases x with
 |none=>exact hm
 |some w=>
  have gV:¬Ty.beq tH GB w.2.2.1=aO:=by rw[axM];intro e;exact hx w rfl (of_decide_eq_true e).symm
  show cE tH GB (eM tH w.2.2.1 (au w) m)=aH
  induction m with
  |nil=>
   rw[M9,eE,if_neg gV,xY]
  |cons p m ih=>
   rw[eE]at hm;split at hm
   ·cases hm
   ·rename_i h0;rw[yN];split
    ·rw[eE,if_neg gV];exact hm
    ·rw[eE,if_neg h0];exact ih hm
theorem avQ:∀(l:List gG) (m:aFN),cE tH GB m=aH->aGp l->cE tH GB (l.foldl amp m)=aH
 |[],_,hm,_=>hm
 |x::l,m,hm,hl=>avQ l _ (aBg hm λw hw=>hl w (by rw[<-hw];exact aG)) λw hw=>hl w (aD _ hw)
def aGn(row:List gG)(t:fN):Prop:=Y0 row/\row.length<=1000/\WU t/\aGp row
def aiI:aeY->Prop:=λ(row,t)=>aGn row t
def KK:aeY->((List (gG×Bool))):=λ_=> []
def V1:EO->Prop:=λ(t,l,n,i,m)=>(l).length<=1000000000/\∃k:Nat,k<=(l).length/\i=k/\n=(l).length/\(∀x∈l,x.isSome=aO)
def zY:EO->Pd:=λ(t,l,n,i,m)=>(dr (ab i) l).foldl amp m
def pk:Ls V1 uE zY:=wh (λ(rC,t11,t12,t13,n10)=>⟨([cj,cj,cj,.eG jk rC,cj,fa 5]++ba 5 ([.d (.slice fk) t11,.d ti t12,.d ti t13]++ba 16 [])),[],(bC 5 ([dz (.dM (.new 10 0) 0)]++bC 4 ([dz (.mp tH fk n10)]++bC 19 [])))⟩) (λx=>(.exit 0,⟨([cj,cj,cj,.eG jk x.1,cj,fa 5]++ba 24 []),[],(bC 5 ([dz (.dM (.new 10 0) 0)]++bC 4 ([dz (.mp tH fk x.2)]++bC 19 [])))⟩))
def tK:Fs Tryz.prog aiI bG KK:=gf 44 Tryz.f44 (λ(row,t)=>([.d (.slice fk) row,.d jk t],[])) (λx=>⟨.dM (.new 0 0) 0,[],[.obj 0 aV (.mp fk .bool x)]⟩) [au (.slice fk),au jk] [ava] {loops:=th [(3,{bz:=[3,5,11,12,13],sites:=[5,10]})],outs:=tg [(3,{bz:=[3,5],sites:=[5,10]},{bz:=[4]})],iE:=uA [(3,pk.E)]}
theorem V2:pk.RS:=rL [.d jk,.d (.slice fk),.d ti,.d ti,.d (.slice (.pair tH fk))] pk
theorem EP(rC t11 t12 t13 n10)(kn:K2 R)(kx:K3 R):tK.R 0 pk (rC,t11,t12,t13,n10) kn kx=aP (iG t13 t12) (aP (iO t13 (t11.length:Int)) (ax ((nth fk t11 (ab t13))) λx1=>kn (pk.st (rC,t11,t12,(bT .i64 t13 1),(eM tH x1.2.2.1 (nth fk t11 (ab t13)) n10)))) aH) (pk.go kx (rC,n10)):=cW
theorem aoT(row t)(k:K1 R):tK.A (row,t) k=ax (pk.call (t,row,(row.length:Int),0,([]:List (Bs×gG)))) λx2=>ax (Hf.call (x2.1,x2.2,([]:List (gG×Bool)))) λx3=>k (tK.out x3.2):=cW
theorem aaR:(tK.mN 0 pk):=by
 refine(tK.px 0 pk) (λ(t,l,n,i,m)=>(l).length - ab i) ?_
 rintro⟨t,l,n,i,m⟩ ⟨hlen,k,hk,rfl,rfl,hs⟩;have hlen:(l).length<=1000000000:=hlen;have hk:k<=(l).length:=hk;have hs:∀x∈l,x.isSome=aO:=hs;by_cases h:k < (l).length
 ·left;have n1:nth fk l k=l[k]:=db (t:=fk) h;have hd:dr k l=l[k]::dr (k+1) l:=aA h;refine⟨(t,l,((l).length:Int),((k+1:Nat):Int),(amp m l[k])),⟨hlen,k+1,aq,rfl,rfl,hs⟩,by simp only[aa];omega,?_,λkn kx=> ?_⟩
  ·simp only[uE,zY,aa,hd,bJ]
  ·rw[EP,bh aq,bB aq aq,aa,n1];simp only[aj];obtain⟨w,hw⟩:=bD.1 (hs _ (aZ h));simp only[hw,ag,amp];rw[N.pV aq]
 ·right;obtain rfl:k=(l).length:=aq;intro R kn kx;rw[EP,aW aq,ao];simp only[uE,zY,aa,bj,eB]
theorem aoU:tK.Ok:=by rintro⟨row,t⟩ ⟨hs,hl,hr,hz⟩;have hl:row.length<=1000:=hl;rw[aoT,V2 (d:=(t,row,(row.length:Int),0,[])) ⟨by show row.length<=_;omega,0,aS _,rfl,rfl,hs⟩];simp only[ag,uE,zY,bO,aN];rw[apn (d:=(t,List.foldl amp [] row,[])) ⟨hr.1,λx hx=>by rw[hr.2 x hx,avQ row [] rfl hz];rfl⟩];rfl
theorem Iy:tK.RS:=rE [.d (.slice fk),.d jk] tK
def Ng:=tK.gr aoU 1 ⟨.iB aaR,trivial⟩
abbrev Iz:=(List gG)×Int×(List (gG×Bool))×(List (gG×Bool))
def aaX:Iz->Unit->Int:=λ(al3,n,n9,n10) y=>n
abbrev alH:=(List gG)×fN
def aaW:Iz->Prop:=λ(_,_,_,m)=>m=[]
def aiP:Iz->Unit:=λ_=>()
def ao1:alH->Prop:=λ(row,t)=>aGn row t
def alI:alH->Int:=λ_=>1
def vG:Ls aaW aaX aiP:=wh (λ(al3,n,n9,n10)=>⟨([.d (.slice fk) al3]++ba 4 ([.d ti n]++ba 4 ([fa 10]++ba 14 []))),[],(bC 9 ([[.obj 0 aO (.mp fk .bool n9)],dz (.qa (.new 9 0) 1 fk .bool n10 aH)]++bC 14 []))⟩) (λx=>(.exit 0,⟨(ba 5 ([.d ti x]++ba 19 [])),[],(ai 25 [])⟩))
def G9:Fs Tryz.prog ao1 bG alI:=gf 45 Tryz.f45 (λ(row,t)=>([.d (.slice fk) row,.d jk t],[])) (λx=>⟨.d ti x,[],[]⟩) [au (.slice fk),au jk] [Ng] {loops:=th [(3,{bz:=[0,5,10],sites:=[9,10],aDR:=[10]})],outs:=tg [(3,{bz:=[5]},{bz:=[4]})],iE:=uA [(3,vG.E)]}
theorem aaY:vG.RS:=rL [.d (.slice fk),.d ti,.d (.slice (.pair fk .bool)),.d (.slice (.pair fk .bool))] vG
theorem V7(al3 n n9 n10)(kn:K2 R)(kx:K3 R):G9.R 0 vG (al3,n,n9,n10) kn kx=aP (decide (0 < (ae n10))) (asw (ae n10) λj1=>ax ((tJ fk .bool n10 j1).1) λx2=>aH) (vG.go kx n):=cW
theorem auJ(row t)(k:K1 R):G9.A (row,t) k=ax (tK.call (row,t)) λx1=>ax (vG.call (row,0,x1,x1)) λx4=>k (G9.out (bT .i64 x4 1)):=cW
theorem ae4:(G9.mN 0 vG):=by
 refine(G9.aFu 0 vG) (λ_=>0) ?_
 rintro⟨row,n,m,m'⟩ rfl;right;intro R kn kx;rw[V7,show decide (0 < (ae ([]:Mk)))=aV from rfl,ao];rfl
theorem auK:G9.Ok:=by rintro⟨row,t⟩ h;rw[auJ,Iy (d:=(row,t)) h];simp only[ag,bG,KK];rw[aaY (d:=(row,0,[],[])) rfl];rfl
theorem ao2:G9.RS:=rE [.d (.slice fk),.d jk] G9
def auL:=G9.gr auK 1 ⟨.iB ae4,trivial⟩
def ap8(l:List dC)(x:gU):Bool:=l.any (awQ x.1)
def nH(t:fN)(l:List dC):Bool:=t.1.any (ap8 l)
abbrev yU:=(List dC)×dC×Int×Int
def oz:yU->AS:=λ(lr,aD0,t7,t8)=>⟨([.d (.slice cV) lr,cj,cj,.eG cV aD0,cj,cj,cj,.d ti t7,.d ti t8]++ba 10 []),[],(ai 19 [])⟩
def pj:Int->Exit×AS:=λx=>(.ret,⟨(ba 4 ([.d ti x]++ba 14 [])),[],(ai 19 [])⟩)
def xr:Unit->Exit×AS:=λx=>(.exit 0,⟨(ba 19 []),[],(ai 19 [])⟩)
abbrev Ix:=(Int)⊕(Unit)
abbrev Tt:=(Int)⊕(Unit)
def CB:Ix->Out (Exit×AS):=λx=> .br x.isLeft (.get x.getLeft? λa=> .ok (pj a)) (.get x.getRight? λb=> .ok (xr b))
def kI:yU->Tt->Ix:=λ(lr,aD0,t7,t8) y=>match y with | .inl y=> .inl y | .inr z=> .inr (z)
abbrev alE:=(List dC)×dC
def xq:yU->Prop:=λ(l,v,n,i)=>l.length<=1000000000/\(True)/\n=l.length/\∃k:Nat,k<=l.length/\i=k
def ow:yU->Tt:=λ(l,v,n,i)=>AA (awQ v) (l.drop i.toNat) i
def aoR:alE->Prop:=λ(l,v)=>l.length<=1000000000/\(True)
def aaP:alE->Int:=λ(l,v)=>VJ (awQ v) l
def Tr:=eA.iB oz xq kI ow CB
def G6:yU->Option Ix:=lg Tr oz
def Df:Fs Tryz.prog aoR bG aaP:=gf 121 Tryz.f121 (λ(sv,v)=>([.d (.slice cV) sv,.d cV v],[])) (λx=>⟨.d ti x,[],[]⟩) [au (.slice cV),au cV] [] {loops:=th [(2,{bz:=[0,3,7,8]})],outs:=tg [(2,{},{bz:=[4]})],iE:=uA [(2,Tr)]}
def Iw:= @gw Tryz.prog (pS Df.G) Df.an 0 Tryz.f121 0 _ oz
abbrev Pc:=qu Tryz.prog (pS Df.G) Df.an 0 Tryz.f121 0 oz xq kI ow CB
theorem aaQ:nK G6 xq kI ow:=tR (sy [.d (.slice cV),.d cV,.d ti,.d ti] λ_=>cW)
theorem KH:yd @Iw oz xq kI ow CB Pc:=zr
theorem G7(lr aD0 t7 t8)(kn:K2 R)(kx:K3 R):Iw (lr,aD0,t7,t8) kn kx=aP (iG t8 t7) (aP (iO t8 (((ae lr):Nat):Int)) (aP (Ty.beq cV aD0 (nth cV lr (ab t8))) (kx (pj t8).1 (pj t8).2) (kn (oz (lr,aD0,t7,(bT .i64 t8 (1:Int)))))) aH) (kx (xr ()).1 (xr ()).2):=cW
theorem auw(sv v)(k:K1 R):Df.A (sv,v) k=ax (G6 (sv,v,(sv.length:Int),0)) λx1=>aP x1.isLeft (ax x1.getLeft? λa2=>k (Df.out a2)) (ax x1.getRight? λb3=>k (Df.out (-1))):=cW
theorem aeU:Pc:=by
 refine KH (λ(l,v,n,i)=>l.length - i.toNat) ?_
 rintro⟨l,v,n,i⟩ ⟨hb,hv,rfl,k,hk,rfl⟩;have hb:l.length<=1000000000:=hb;have hk:k<=l.length:=hk;by_cases h:k < l.length
 ·have n1:nth cV l k=l[k]:=db (t:=cV) h;have hd:AA (awQ v) (l.drop k) k=if awQ v l[k] then .inl (k:Int) else AA (awQ v) (l.drop (k+1)) ((k+1:Nat):Int):=by rw[aA h];rfl
  have step:∀ {R:Type} (kn:AS->Option R) (kx:Exit->AS->Option R),Iw (l,v,(l.length:Int),(k:Int)) kn kx=aP (awQ v l[k]) (kx (pj (k:Int)).1 (pj (k:Int)).2) (kn (oz (l,v,(l.length:Int),((k+1:Nat):Int)))):=by intro R kn kx;rw[G7,bh aq,bB aq aq,aa,n1,N.pV aq];rfl
  cases hp:awQ v l[k]
  ·left;refine⟨(l,v,l.length,((k+1:Nat):Int)),⟨hb,hv,rfl,k+1,aq,rfl⟩,by simp only[aa];omega,?_,λkn kx=> ?_⟩
   ·simp only[kI,ow,aa,hd,hp,cd,cK]
   ·rw[step,hp,ao]
  ·right;refine⟨pj (k:Int),?_,λkn kx=> ?_⟩
   ·simp only[kI,ow,aa,hd,hp,cZ];rfl
   ·rw[step,hp,aj]
 ·right;obtain rfl:k=l.length:=aq;refine⟨xr (),?_,λkn kx=> ?_⟩
  ·simp only[kI,ow,aa,bj];rfl
  ·rw[G7,aW aq,ao]
theorem auy:Df.Ok:=by rintro⟨l,v⟩ ⟨hb,hv⟩;rw[auw,aaQ (d:=(l,v,l.length,0)) ⟨hb,hv,rfl,0,aq,rfl⟩];simp only[ag,kI,ow,bO,aN,bG,aaP,VJ];cases AA (awQ v) l 0 <;> rfl
theorem aoS:Df.RS:=rE [.d (.slice cV),.d cV] Df
def auz:=Df.gr auy 1 ⟨.iB aeU,trivial⟩
abbrev alD:=(List dC)×dC
def aoP:alD->Prop:=λ(l,_)=>l.length<=1000000000
def ayX:alD->Bool:=λ(l,v)=>l.any (awQ v)
def Tq:Fs Tryz.prog aoP bG ayX:=gf 78 Tryz.f78 (λ(sv,v)=>([.d (.slice cV) sv,.d cV v],[])) (λx=>⟨.d .bool x,[],[]⟩) [au (.slice cV),au cV] [auz]
theorem aus(sv v)(k:K1 R):Tq.A (sv,v) k=ax (Df.call (sv,v)) λx1=>k (Tq.out (zP x1 0)):=cW
theorem aut:Tq.Ok:=by rintro⟨l,v⟩ hb;rw[aus,aoS (d:=(l,v)) ⟨hb,trivial⟩];simp only[ag,bG,aaP,Kb];rfl
theorem aoQ:Tq.RS:=rE [.d (.slice cV),.d cV] Tq
def auu:=Tq.gr aut
abbrev alW:=gU×(List dC)
def apv:alW->Prop:=λ(_,l)=>l.length<=1000000
def azt:alW->Bool:=λ(x,l)=>ap8 l x
def T1:Fs Tryz.prog apv bG azt:=gf 77 Tryz.f77 (λ(i,t1)=>([.d gB i,.eG (.slice cV) t1],[])) (λx=>⟨.d .bool x,[],[]⟩) [au gB,aH] [auu]
theorem avk(i t1)(k:K1 R):T1.A (i,t1) k=ax (Tq.call (t1,i.1)) λx1=>k (T1.out x1):=cW
theorem avl:T1.Ok:=by rintro⟨x,l⟩ hl;have hl:l.length<=1000000:=hl;rw[avk,aoQ (d:=(l,x.1)) (by show l.length<=_;omega)];rfl
theorem apw:T1.RS:=rE [.d gB,.d (.slice cV)] T1
def avm:=T1.gr avl
abbrev vI:=(List gU)×(List dC)×Int×Int
def mD:vI->AS:=λ(lr,f,t7,t8)=>⟨([.d (.slice gB) lr,.fn 77 (.cons (.eG (.slice cV) f) (.nil))]++ba 5 ([.d ti t7,.d ti t8]++ba 10 [])),[],(ai 19 [])⟩
def ni:Int->Exit×AS:=λx=>(.ret,⟨(ba 4 ([.d ti x]++ba 14 [])),[],(ai 19 [])⟩)
def uJ:Unit->Exit×AS:=λx=>(.exit 0,⟨(ba 19 []),[],(ai 19 [])⟩)
abbrev EY:=(Int)⊕(Unit)
abbrev Pr:=(Int)⊕(Unit)
def AP:EY->Out (Exit×AS):=λx=> .br x.isLeft (.get x.getLeft? λa=> .ok (ni a)) (.get x.getRight? λb=> .ok (uJ b))
def jE:vI->Pr->EY:=λ(lr,f,t7,t8) y=>match y with | .inl y=> .inl y | .inr z=> .inr (z)
abbrev ae8:=(List gU)×(List dC)
def uI:vI->Prop:=λ(l,v,n,i)=>l.length<=1000000000/\(v.length<=1000000)/\n=l.length/\∃k:Nat,k<=l.length/\i=k
def mc:vI->Pr:=λ(l,v,n,i)=>AA (ap8 v) (l.drop i.toNat) i
def aiX:ae8->Prop:=λ(l,v)=>l.length<=1000000000/\(v.length<=1000000)
def TJ:ae8->Int:=λ(l,v)=>VJ (ap8 v) l
def Pq:=eA.iB mD uI jE mc AP
def EZ:vI->Option EY:=lg Pq mD
def wk:Fs Tryz.prog aiX bG TJ:=gf 100 Tryz.f100 (λ(sv,fc)=>([.d (.slice gB) sv,.fn 77 (.cons (.eG (.slice cV) fc) (.nil))],[])) (λx=>⟨.d ti x,[],[]⟩) [au (.slice gB),aH] [avm] {loops:=th [(2,{bz:=[0,1,7,8]})],outs:=tg [(2,{},{bz:=[4]})],iE:=uA [(2,Pq)]}
def EX:= @gw Tryz.prog (pS wk.G) wk.an 0 Tryz.f100 0 _ mD
abbrev KU:=qu Tryz.prog (pS wk.G) wk.an 0 Tryz.f100 0 mD uI jE mc AP
theorem V9:nK EZ uI jE mc:=tR (sy [.d (.slice gB),.d (.slice cV),.d ti,.d ti] λ_=>cW)
theorem ID:yd @EX mD uI jE mc AP KU:=zr
theorem E0(lr f t7 t8)(kn:K2 R)(kx:K3 R):EX (lr,f,t7,t8) kn kx=aP (iG t8 t7) (aP (iO t8 (((ae lr):Nat):Int)) (ax (T1.call ((nth gB lr (ab t8)),f)) λx1=>aP (x1) (kx (ni t8).1 (ni t8).2) (kn (mD (lr,f,t7,(bT .i64 t8 (1:Int)))))) aH) (kx (uJ ()).1 (uJ ()).2):=cW
theorem apb(sv fc)(k:K1 R):wk.A (sv,fc) k=ax (EZ (sv,fc,(sv.length:Int),0)) λx2=>aP x2.isLeft (ax x2.getLeft? λa3=>k (wk.out a3)) (ax x2.getRight? λb4=>k (wk.out (-1))):=cW
theorem aa3:KU:=by
 refine ID (λ(l,v,n,i)=>l.length - i.toNat) ?_
 rintro⟨l,v,n,i⟩ ⟨hb,hv,rfl,k,hk,rfl⟩;have hb:l.length<=1000000000:=hb;have hk:k<=l.length:=hk;by_cases h:k < l.length
 ·have n1:nth gB l k=l[k]:=db (t:=gB) h;have hd:AA (ap8 v) (l.drop k) k=if ap8 v l[k] then .inl (k:Int) else AA (ap8 v) (l.drop (k+1)) ((k+1:Nat):Int):=by rw[aA h];rfl
  have step:∀ {R:Type} (kn:AS->Option R) (kx:Exit->AS->Option R),EX (l,v,(l.length:Int),(k:Int)) kn kx=aP (ap8 v l[k]) (kx (ni (k:Int)).1 (ni (k:Int)).2) (kn (mD (l,v,(l.length:Int),((k+1:Nat):Int)))):=by intro R kn kx;rw[E0,bh aq,bB aq aq,aa,n1,apw (d:=(l[k],v)) hv,N.pV aq];rfl
  cases hp:ap8 v l[k]
  ·left;refine⟨(l,v,l.length,((k+1:Nat):Int)),⟨hb,hv,rfl,k+1,aq,rfl⟩,by simp only[aa];omega,?_,λkn kx=> ?_⟩
   ·simp only[jE,mc,aa,hd,hp,cd,cK]
   ·rw[step,hp,ao]
  ·right;refine⟨ni (k:Int),?_,λkn kx=> ?_⟩
   ·simp only[jE,mc,aa,hd,hp,cZ];rfl
   ·rw[step,hp,aj]
 ·right;obtain rfl:k=l.length:=aq;refine⟨uJ (),?_,λkn kx=> ?_⟩
  ·simp only[jE,mc,aa,bj];rfl
  ·rw[E0,aW aq,ao]
theorem apc:wk.Ok:=by rintro⟨l,v⟩ ⟨hb,hv⟩;rw[apb,V9 (d:=(l,v,l.length,0)) ⟨hb,hv,rfl,0,aq,rfl⟩];simp only[ag,jE,mc,bO,aN,bG,TJ,VJ];cases AA (ap8 v) l 0 <;> rfl
theorem aiY:wk.RS:=rE [.d (.slice gB),.d (.slice cV)] wk
def apd:=wk.gr apc 1 ⟨.iB aa3,trivial⟩
abbrev ae7:=(List gU)×(List dC)
def aiT:ae7->Prop:=λ(l,v)=>l.length<=1000000000/\v.length<=1000000
def auU:ae7->Bool:=λ(l,v)=>l.any (ap8 v)
def IB:Fs Tryz.prog aiT bG auU:=gf 64 Tryz.f64 (λ(sv,fc)=>([.d (.slice gB) sv,.fn 77 (.cons (.eG (.slice cV) fc) (.nil))],[])) (λx=>⟨.d .bool x,[],[]⟩) [au (.slice gB),aH] [apd]
theorem ao5(sv fc)(k:K1 R):IB.A (sv,fc) k=ax (wk.call (sv,fc)) λx1=>k (IB.out (zP x1 0)):=cW
theorem ao6:IB.Ok:=by rintro⟨l,v⟩ ⟨hb,hv⟩;rw[ao5,aiY (d:=(l,v)) ⟨hb,hv⟩];simp only[ag,bG,TJ,Kb];rfl
theorem aiU:IB.RS:=rE [.d (.slice gB),.d (.slice cV)] IB
def ao7:=IB.gr ao6
abbrev Ym:=fN×(List dC)
def afj:Ym->Prop:=λ(t,l)=>t.1.length<=1000000000/\l.length<=1000000
def Yn:Ym->Bool:=λ(t,l)=>nH t l
def CJ:Fs Tryz.prog afj bG Yn:=gf 42 Tryz.f42 (λ(t,l)=>([.d jk t,.d (.slice cV) l],[])) (λx=>⟨.d .bool x,[],[]⟩) [au jk,au (.slice cV)] [ao7]
theorem aja(t l)(k:K1 R):CJ.A (t,l) k=ax (IB.call (t.1,l)) λx1=>k (CJ.out x1):=cW
theorem ajb:CJ.Ok:=by rintro⟨t,l⟩ ⟨hb,hv⟩;rw[aja,aiU (d:=(t.1,l)) ⟨hb,hv⟩];rfl
theorem afk:CJ.RS:=rE [.d jk,.d (.slice cV)] CJ
def ajc:=CJ.gr ajb
def awB:Int->Prop:=λ_=>True
def abV:Int->Bool:=λ_=>aV
def ago:Fs Tryz.prog awB bG abV:=gf 124 Tryz.f124 (λx=>([.d tu x],[])) (λx=>⟨.d .bool x,[],[]⟩) [au tu]
theorem az6(x)(k:K1 R):ago.A x k=k (ago.out (DF x x)):=cW
theorem az7:ago.Ok:=by intro x _;rw[az6];simp only[bG,abV,dX rfl]
theorem agp:ago.RS:=rE [.d tu] ago
def az8:=ago.gr az7
def awA:(Int×Int)->Prop:=λ_=>True
def abU:(Int×Int)->Int:=λ(x,y)=>v7 x y
def NR:Fs Tryz.prog awA bG abU:=gf 83 Tryz.f83 (λ(x,yv)=>([.d tu x,.d tu yv],[])) (λx=>⟨.d ti x,[],[]⟩) [au tu,au tu] [az8]
theorem az3(x yv)(k:K1 R):NR.A (x,yv) k=ax (ago.call x) λx1=>ax (ago.call yv) λx2=>aP (x1) (aP (x2) (k (NR.out 0)) (k (NR.out (-1)))) (aP (x2) (k (NR.out 1)) (aP (iG x yv) (k (NR.out (-1))) (aP (wC x yv) (k (NR.out 1)) (k (NR.out 0))))):=cW
theorem az4:NR.Ok:=by
 rintro⟨x,y⟩ _;rw[az3,agp (d:=x) trivial];simp only[ag,bG,abV];rw[agp (d:=y) trivial];simp only[ag,bG,abV,ao,bG,abU,v7];by_cases h:x < y
 ·rw[bh h,aj,if_pos h]
 ·rw[aW h,ao,if_neg h];by_cases h2:x > y
  ·rw[dy h2,aj,if_pos h2]
  ·rw[cY h2,ao,if_neg h2]
theorem agn:NR.RS:=rE [.d tu,.d tu] NR
def az5:=NR.gr az4
theorem abT(x:Int):0<=dP .u64 x/\dP .u64 x < 18446744073709551616:=by rw[alb,lR];omega
def axy(a b c d:Int):Int:=ay0 [v7 (dP .u64 a*dP .u64 b / 18446744073709551616) (dP .u64 c*dP .u64 d / 18446744073709551616),v7 (dP .u64 a*dP .u64 b%18446744073709551616) (dP .u64 c*dP .u64 d%18446744073709551616)]
abbrev auF:=Int×Int×Int×Int
def auH:auF->Prop:=λ_=>True
def auG:auF->Int:=λ(a,b,c,d)=>axy a b c d
def aiO:Fs Tryz.prog auH bG auG:=gf 47 Tryz.f47 (λ(a,b,c,d)=>([.d ti a,.d ti b,.d ti c,.d ti d],[])) (λx=>⟨.d ti x,[],[]⟩) [au ti,au ti,au ti,au ti] [Kv,az5,ahr]
theorem ay9(a b c d)(k:K1 R):aiO.A (a,b,c,d) k=ax (Dd.call ((dP .u64 a),(dP .u64 b))) λx1=>ax (Dd.call ((dP .u64 c),(dP .u64 d))) λx2=>ax (NR.call (x1.1,x2.1)) λx3=>ax (NR.call (x1.2,x2.2)) λx4=>ax (akG.call [x3,x4]) λx5=>k (aiO.out x5):=cW
theorem aza:aiO.Ok:=by rintro⟨a,b,c,d⟩ _;rw[ay9,BD (d:=(dP .u64 a,dP .u64 b)) ⟨abT a,abT b⟩,BD (d:=(dP .u64 c,dP .u64 d)) ⟨abT c,abT d⟩];simp only[ag,bG,Gf];rw[agn (d:=(dP .u64 a*dP .u64 b / 18446744073709551616,dP .u64 c*dP .u64 d / 18446744073709551616)) trivial];simp only[ag,bG,abU];rw[agn (d:=(dP .u64 a*dP .u64 b%18446744073709551616,dP .u64 c*dP .u64 d%18446744073709551616)) trivial];simp only[ag,bG,abU];rw[Zt (d:=[v7 (dP .u64 a*dP .u64 b / 18446744073709551616) (dP .u64 c*dP .u64 d / 18446744073709551616),v7 (dP .u64 a*dP .u64 b%18446744073709551616) (dP .u64 c*dP .u64 d%18446744073709551616)]) (by show 2<=_;decide)];rfl
theorem auI:aiO.RS:=rE [.d ti,.d ti,.d ti,.d ti] aiO
def azb:=aiO.gr aza
def ape:fN->Prop:=λt=>A7 t/\iF t=aO
def aa4:fN->fN:=λt=>t
def TK:Fs Tryz.prog ape bG aa4:=gf 40 Tryz.f40 (λt=>([.d jk t],[])) (λx=>⟨.d jk x,[],[]⟩) [au jk] [aqm,awn]
theorem auV(t)(k:K1 R):TK.A t k=ax (sM.call t) λx1=>ax (lj.call x1) λx2=>k (TK.out x2.1):=cW
theorem auW:TK.Ok:=by rintro t ⟨hv,iS⟩;have bl:=aqD hv;rw[auV,ajV (d:=t) hv];simp only[ag,bG,UK];rw[aqt (d:=az1 t) ⟨bl.1,by have:=bl.2;omega⟩];simp only[ag,bG,abG,bG,aa4];rw[ajl hv iS]
theorem apf:TK.RS:=rE [.d jk] TK
def auX:=TK.gr auW
abbrev ai2:=Int×Nat×(List (dC×gZ))×(List eT)
def TX:ai2->Bool->((Nat×(List (dC×gZ))×(List eT))×(Bool)):=λ(height,o0baL,o1,o2) y=>((o0baL,o1,o2),y)
def avb:ai2->Prop:=λ_=>True
def ai3:ai2->Bool:=λ(h,_)=>decide (1<=h/\h<=1048576)
def aff:Fs Tryz.prog avb TX ai3:=gf 31 Tryz.f31 (λ(height,o0baL,o1,o2)=>([.ptr (.bF 0) 0 [] 0,.d ti height],[.obj 0 aV (.pr (.dM (.bF 1) 0) (.pr (.cM (.bF 2) 0 [] 0 0 o0baL) (.d .unit ()))),.obj 0 aV (.mp cV jn o1),.obj 0 aV (.vec 134 eP o2)])) (λx=>⟨.d .bool x.2,[.obj 0 aV (.pr (.dM (.bF 1) 0) (.pr (.cM (.bF 2) 0 [] 0 0 x.1.1) (.d .unit ()))),.obj 0 aV (.mp cV jn x.1.2.1),.obj 0 aV (.vec 134 eP x.1.2.2)],[]⟩) [aH,au ti]
theorem azi(height o0baL o1 o2)(k:K1 R):aff.A (height,o0baL,o1,o2) k=aP (zP height 1) (k (aff.out ((o0baL,o1,o2),(aad height 1048576)))) (k (aff.out ((o0baL,o1,o2),aV))):=cW
theorem azj:aff.Ok:=by
 rintro⟨h,n,a,s⟩ _;rw[azi];simp only[TX,ai3];by_cases h1:1<=h
 ·rw[ik h1,aj];by_cases h2:h<=1048576
  ·rw[p9 h2,aM ⟨h1,h2⟩]
  ·rw[jO h2,cz λe=>h2 e.2]
 ·rw[eN h1,ao,cz λe=>h1 e.1]
theorem avc:aff.RS:=rE [.d ti,.n,.d (.slice (.pair cV jn)),.d (.slice eP)] aff
def azk:=aff.gr azj
abbrev TY:=Int×Nat×(List (dC×gZ))×(List eT)
def abf:TY->SA:=λ(height,o0baL,o1,o2)=>([.ptr (.bF 0) 0 [] 0,.d ti height],[eL (.pr (.dM (.bF 1) 0) (.pr (.cM (.bF 2) 0 [] 0 0 o0baL) oc)),eL (.mp cV jn o1),eL (.vec 134 eP o2)])
abbrev avi:=(Nat×(List (dC×gZ))×(List eT))⊕(Nat×(List (dC×gZ))×(List eT)×(Int×((List gG)×Unit))×Nat×(List (dC×gZ))×(List eT))
abbrev ai5:=(Nat×(List (dC×gZ))×(List eT))⊕(Nat×(List (dC×gZ))×(List eT)×(Int×((List gG)×Unit))×Nat×(List (dC×gZ))×(List eT))
def K8:ai5->iq:=λx=>match x with | .inl x=>⟨.jW,[eL (.pr (.dM (.bF 1) 0) (.pr (.cM (.bF 2) 0 [] 0 0 x.1) oc)),eL (.mp cV jn x.2.1),eL (.vec 134 eP x.2.2)],[]⟩ | .inr x=>⟨fa 0,[eL (.pr (.dM (.bF 1) 0) (.pr (.cM (.bF 2) 0 [] 0 0 x.1) oc)),eL (.mp cV jn x.2.1),eL (.vec 134 eP x.2.2.1)],[eL (.pr (.ptr (.new 0 1) 0 [] 0) (.d (.pair ti (.pair (.slice fk) .unit)) x.2.2.2.1)),eL (.pr (.dM (.new 0 2) 0) (.pr (.cM (.new 0 3) 0 [] 0 0 x.2.2.2.2.1) oc)),eL (.mp cV jn x.2.2.2.2.2.1),eL (.vec 134 eP x.2.2.2.2.2.2)]⟩
def E7:TY->avi->ai5:=λ(height,o0baL,o1,o2) y=>match y with | .inl y=> .inl y | .inr y=> .inr y
abbrev aIb:=Int×((List gG)×Unit)
def TZ:TY->Prop:=λ(_,n,a,s)=>QP 500 n a s
def Nl:TY->avi:=λ(h,n,a,s)=>if 1<=h/\h<=1048576 then .inr (n,a,s,(h,([],())),n,fK a,s.take n) else .inl (n,a,s)
def aCR:qh:=pS (P:=Tryz.prog) [azk,Xm]
def azp:zp:= {bM:=[13],JP:=[⟨4,[.snd,.snd,.fst],(.slice fk)⟩]}
def avg:= @QO Tryz.prog aCR azp 0 Tryz.f8 _ abf
abbrev azo:=amj @avg TZ E7 Nl K8
theorem azq(height o0baL o1 o2)(k:K1 R):avg (height,o0baL,o1,o2) k=ax (aff.call (height,o0baL,o1,o2)) λx1=>aP (!x1.2) (k (K8 (.inl (x1.1.1,x1.1.2.1,x1.1.2.2)))) (ax (wa.call (x1.1.1,x1.1.2.1,x1.1.2.2)) λx2=>k (K8 (.inr (x2.1,x2.2.1,x2.2.2.1,(height,(([]:List gG),())),x2.2.2.2.1,x2.2.2.2.2.1,x2.2.2.2.2.2)))):=cW
theorem azr:azo:=by
 rintro⟨h,n,a,s⟩ hg;have hg:QP 500 n a s:=hg;obtain⟨hc,hl⟩:=hg.canon;rw[azq,avc (d:=(h,n,a,s)) trivial];simp only[ag,TX,ai3,E7,Nl];by_cases hh:1<=h/\h<=1048576
 ·rw[aM hh,if_pos hh,bR,ao,hg.copy aq];simp only[ag,hl]
 ·rw[cz hh,if_neg hh,dA,aj]
def avh:=Entry.aix [aH,au ti] abf TZ E7 Nl K8
def Yj:TY->Option ai5:=W4 avh abf
theorem avj:nK Yj TZ E7 Nl:=al6 (an7 [.d ti,.n,.d (.slice (.pair cV jn)),.d (.slice eP)] λ_=>cW)
def azs:SG Tryz.prog:=⟨8,wI,avh,.of (.aFC (.fn 0 cW azr trivial)) (by rfl)⟩
abbrev yW:=Bs×(List gG)×Int×Int×(Int×((List gG)×Unit))×Nat×(List (dC×gZ))×(List eT)
def rn:yW->AS:=λ(an0,t10,t11,t12,o0,o1L,gq,gm)=>⟨([cj,cj,cj,.eG tH an0]++ba 6 ([.d (.slice fk) t10,.d ti t11,.d ti t12]++ba 11 [])),[eL (.pr (.ptr (.bF 1) 0 [] 0) (.d (.pair ti (.pair (.slice fk) .unit)) o0)),eL (.pr (.dM (.bF 2) 0) (.pr (.cM (.bF 3) 0 [] 0 0 o1L) oc)),eL (.mp cV jn gq),eL (.vec 134 eP gm)],(ai 24 [])⟩
abbrev Pj:=((Int×((List gG)×Unit))×Nat×(List (dC×gZ))×(List eT))×(gG)
def xw:Pj->Exit×AS:=λ((a,b,c,e),f)=>(.ret,⟨(ba 4 ([.d fk f]++ba 19 [])),[eL (.pr (.ptr (.bF 1) 0 [] 0) (.d (.pair ti (.pair (.slice fk) .unit)) a)),eL (.pr (.dM (.bF 2) 0) (.pr (.cM (.bF 3) 0 [] 0 0 b) oc)),eL (.mp cV jn c),eL (.vec 134 eP e)],(ai 24 [])⟩)
abbrev Pk:=(Int×((List gG)×Unit))×Nat×(List (dC×gZ))×(List eT)
def xx:Pk->Exit×AS:=λ(a,b,c,e)=>(.exit 0,⟨(ba 24 []),[eL (.pr (.ptr (.bF 1) 0 [] 0) (.d (.pair ti (.pair (.slice fk) .unit)) a)),eL (.pr (.dM (.bF 2) 0) (.pr (.cM (.bF 3) 0 [] 0 0 b) oc)),eL (.mp cV jn c),eL (.vec 134 eP e)],(ai 24 [])⟩)
abbrev IA:=(Pj)⊕(Pk)
abbrev TD:=(gG)⊕(Unit)
def CE:IA->Out (Exit×AS):=λx=> .br x.isLeft (.get x.getLeft? λa=> .ok (xw a)) (.get x.getRight? λb=> .ok (xx b))
def kJ:yW->TD->IA:=λ(an0,t10,t11,t12,o0,o1L,gq,gm) y=>match y with | .inl y=> .inl ((o0,o1L,gq,gm),y) | .inr z=> .inr ((o0,o1L,gq,gm))
abbrev KP:=Bs×(Int×((List gG)×Unit))×Nat×(List (dC×gZ))×(List eT)
def TG:KP->SA:=λ(id,o0b,o1baL,o2,o3)=>([.ptr (.bF 0) 0 [] 0,.d tH id],[eL (.pr (.ptr (.bF 1) 0 [] 0) (.d (.pair ti (.pair (.slice fk) .unit)) o0b)),eL (.pr (.dM (.bF 2) 0) (.pr (.cM (.bF 3) 0 [] 0 0 o1baL) oc)),eL (.mp cV jn o2),eL (.vec 134 eP o3)])
abbrev alL:=(gG×(Int×((List gG)×Unit))×Nat×(List (dC×gZ))×(List eT))⊕((Int×((List gG)×Unit))×Nat×(List (dC×gZ))×(List eT))
abbrev aa1:=(gG×(Int×((List gG)×Unit))×Nat×(List (dC×gZ))×(List eT))⊕((Int×((List gG)×Unit))×Nat×(List (dC×gZ))×(List eT))
def Gh:aa1->iq:=λx=>match x with | .inl x=>⟨.d fk x.1,[eL (.pr (.ptr (.bF 1) 0 [] 0) (.d (.pair ti (.pair (.slice fk) .unit)) x.2.1)),eL (.pr (.dM (.bF 2) 0) (.pr (.cM (.bF 3) 0 [] 0 0 x.2.2.1) oc)),eL (.mp cV jn x.2.2.2.1),eL (.vec 134 eP x.2.2.2.2)],[]⟩ | .inr x=>⟨.jW,[eL (.pr (.ptr (.bF 1) 0 [] 0) (.d (.pair ti (.pair (.slice fk) .unit)) x.1)),eL (.pr (.dM (.bF 2) 0) (.pr (.cM (.bF 3) 0 [] 0 0 x.2.1) oc)),eL (.mp cV jn x.2.2.1),eL (.vec 134 eP x.2.2.2)],[]⟩
def BJ:KP->alL->aa1:=λ(id,o0b,o1baL,o2,o3) y=>match y with | .inl y=> .inl y | .inr y=> .inr y
def aHy(id:Bs)(x:gG):Bool:=match x with | none=>aV | some w=>decide (w.2.2.1=id)
def tc(id:Bs)(row:List gG):Option gG:=row.find? (aHy id)
def xv:yW->Prop:=λ(_,l,n,i,_)=>(Y0 l/\l.length<=1000)/\n=(l.length:Int)/\∃k:Nat,k<=l.length/\i=k
def oA:yW->TD:=λ(id,l,_,i,_)=>match tc id (l.drop i.toNat) with | some x=> .inl x | none=> .inr ()
def Ni:KP->Prop:=λ(_,p,_)=>Y0 p.2.1/\p.2.1.length<=1000
def KQ:KP->alL:=λ(id,p,n,a,s)=>match tc id p.2.1 with | some x=> .inl (x,p,n,a,s) | none=> .inr (p,n,a,s)
def aaZ:qh:=pS (P:=Tryz.prog) []
def TB:=eA.iB rn xv kJ oA CE
def Ha:yW->Option IA:=lg TB rn
def TE:zp:= {loops:=th [(2,{bz:=[3,10,11,12]})],outs:=tg [(2,{},{bz:=[4]})],iE:=uA [(2,TB)]}
def alJ:= @QO Tryz.prog aaZ TE 0 Tryz.f36 _ TG
abbrev auO:=amj @alJ Ni BJ KQ Gh
def TC:= @gw Tryz.prog aaZ TE 0 Tryz.f36 0 _ rn
abbrev Ph:=qu Tryz.prog aaZ TE 0 Tryz.f36 0 rn xv kJ oA CE
theorem aa0:nK Ha xv kJ oA:=tR (sy [.d tH,.d (.slice fk),.d ti,.d ti,.d (.pair ti (.pair (.slice fk) .unit)),.n,.d (.slice (.pair cV jn)),.d (.slice eP)] λ_=>cW)
theorem KR:yd @TC rn xv kJ oA CE Ph:=zr
theorem AN(an0 t10 t11 t12 o0 o1L gq gm)(kn:K2 R)(kx:K3 R):TC (an0,t10,t11,t12,o0,o1L,gq,gm) kn kx=aP (iG t12 t11) (aP (iO t12 (((ae t10):Nat):Int)) (ax ((nth fk t10 (ab t12))) λx1=>aP (Ty.beq tH x1.2.2.1 an0) (kx (xw ((o0,o1L,gq,gm),(nth fk t10 (ab t12)))).1 (xw ((o0,o1L,gq,gm),(nth fk t10 (ab t12)))).2) (kn (rn (an0,t10,t11,(bT .i64 t12 (1:Int)),o0,o1L,gq,gm)))) aH) (kx (xx (o0,o1L,gq,gm)).1 (xx (o0,o1L,gq,gm)).2):=cW
theorem auP(id o0b o1baL o2 o3)(k:K1 R):alJ (id,o0b,o1baL,o2,o3) k=ax (Ha (id,o0b.2.1,(((ae o0b.2.1):Nat):Int),(0:Int),o0b,o1baL,o2,o3)) λx2=>aP x2.isLeft (ax x2.getLeft? λa3=>k (Gh (.inl (a3.2,a3.1.1,a3.1.2.1,a3.1.2.2.1,a3.1.2.2.2)))) (ax x2.getRight? λb4=>k (Gh (.inr (b4.1,b4.2.1,b4.2.2.1,b4.2.2.2)))):=cW
theorem ae6:Ph:=by
 refine KR (λ(_,l,_,i,_)=>l.length - i.toNat) ?_
 rintro⟨id,l,n,i,p,c,a,s⟩ ⟨⟨hs,hl⟩,rfl,k,hk,rfl⟩;have hl:l.length<=1000:=hl;have hk:k<=l.length:=hk;by_cases h:k < l.length
 ·have n1:nth fk l k=l[k]:=db (t:=fk) h;have hd:l.drop k=l[k]::l.drop (k+1):=aA h;obtain⟨w,hw⟩:=bD.1 (hs _ (aZ h));rw[hw]at n1 hd;by_cases hi:w.2.2.1=id
  ·right;refine⟨xw ((p,c,a,s),au w),?_,λkn kx=> ?_⟩;rotate_left
   ·rw[AN,bh aq,aj,bB aq aq,aj,aa,n1,ag,axM,aM hi,aj]
   ·have e:tc id (l.drop k)=au (au w):=by rw[hd,tc,List.find?_cons_of_pos (by show decide _=aO;exact aM hi)]
    simp only[kJ,oA,aa,e];rfl
  ·left;refine⟨(id,l,(l.length:Int),((k+1:Nat):Int),p,c,a,s),⟨⟨hs,hl⟩,rfl,k+1,h,rfl⟩,by simp only[aa];omega,?_,λkn kx=> ?_⟩
   ·have e:tc id (l.drop k)=tc id (l.drop (k+1)):=by rw[hd,tc,List.find?_cons_of_neg (by show ¬decide _=aO;rw[cz hi];decide)];rfl
    simp only[kJ,oA,aa,e]
   ·rw[AN,bh aq,aj,bB aq aq,aj,aa,n1,ag,axM,cz hi,ao,N.pV aq]
 ·right;obtain rfl:k=l.length:=aq;refine⟨xx (p,c,a,s),?_,λkn kx=> ?_⟩;rotate_left
  ·rw[AN,aW aq,ao]
  ·simp only[kJ,oA,aa,bj];rfl
theorem auQ:auO:=by
 rintro⟨id,p,n,a,s⟩ ⟨hs,hl⟩;rw[auP,aa0 (d:=(id,p.2.1,(p.2.1.length:Int),0,p,n,a,s)) ⟨⟨hs,hl⟩,rfl,0,aS _,rfl⟩];simp only[ag,kJ,oA,bO,aN,BJ,KQ];cases tc id p.2.1 with
 |none=>rfl
 |some x=>rfl
def alK:=Entry.aix [aH,au tH] TG Ni BJ KQ Gh
def TF:KP->Option aa1:=W4 alK TG
theorem ao3:nK TF Ni BJ KQ:=al6 (an7 [.d tB,.d (.pair ti (.pair (.slice fk) .unit)),.n,.d (.slice (.pair cV jn)),.d (.slice eP)] λ_=>cW)
def auR:SG Tryz.prog:=⟨36,wI,alK,.of (.aFC (.fn 1 cW auQ (And.intro (.iB ae6 cW) trivial))) (by rfl)⟩
abbrev auS:=Bs×(Int×((List gG)×Unit))×Nat×(List (dC×gZ))×(List eT)
def auT:auS->Prop:=λ(_,p,_)=>Y0 p.2.1/\p.2.1.length<=1000
def Nj:auS->(Bool×(Int×((List gG)×Unit))×Nat×(List (dC×gZ))×(List eT)):=λ(id,p,n,a,s)=>((tc id p.2.1).isSome,p,n,a,s)
def TH:Fs Tryz.prog auT bG Nj:=gf 11 Tryz.f11 (λ(id,o0b,o1baL,o2,o3)=>([.ptr (.bF 0) 0 [] 0,.d tH id],[.obj 0 aV (.pr (.ptr (.bF 1) 0 [] 0) (.d (.pair ti (.pair (.slice fk) .unit)) o0b)),.obj 0 aV (.pr (.dM (.bF 2) 0) (.pr (.cM (.bF 3) 0 [] 0 0 o1baL) (.d .unit ()))),.obj 0 aV (.mp cV jn o2),.obj 0 aV (.vec 134 eP o3)])) (λx=>⟨.d .bool x.1,[.obj 0 aV (.pr (.ptr (.bF 1) 0 [] 0) (.d (.pair ti (.pair (.slice fk) .unit)) x.2.1)),.obj 0 aV (.pr (.dM (.bF 2) 0) (.pr (.cM (.bF 3) 0 [] 0 0 x.2.2.1) (.d .unit ()))),.obj 0 aV (.mp cV jn x.2.2.2.1),.obj 0 aV (.vec 134 eP x.2.2.2.2)],[]⟩) [aH,au tH] [auR]
theorem azc(id o0b o1baL o2 o3)(k:K1 R):TH.A (id,o0b,o1baL,o2,o3) k=ax (TF (id,o0b,o1baL,o2,o3)) λx1=>aP x1.isLeft (ax x1.getLeft? λaFG=>k (TH.out ((!(Option.isNone aFG.1)),aFG.2.1,aFG.2.2.1,aFG.2.2.2.1,aFG.2.2.2.2))) (ax x1.getRight? λaGl=>k (TH.out (aV,aGl.1,aGl.2.1,aGl.2.2.1,aGl.2.2.2))):=cW
theorem azd:TH.Ok:=by
 rintro⟨id,p,n,a,s⟩ ⟨hs,hl⟩;rw[azc,ao3 (d:=(id,p,n,a,s)) ⟨hs,hl⟩];simp only[ag,BJ,KQ,bG,Nj];cases h:tc id p.2.1 with
 |none=>rfl
 |some x=>
  have hx:x.isSome=aO:=hs _ (List.mem_of_find?_eq_some h);obtain⟨w,rfl⟩:=bD.1 hx;rfl
theorem KS:TH.RS:=rE [.d tB,.d (.pair ti (.pair (.slice fk) .unit)),.n,.d (.slice (.pair cV jn)),.d (.slice eP)] TH
def alM:=TH.gr azd
def amn(w:Nat×Mc):Prop:=A7 w.2.1/\w.2.1.1.length<=64/\WU w.2.1/\¬w.2.2.1=GB
def Me(row:List gG):Prop:=row.length<=90/\∀x∈row,∃w,x=au w/\amn w
theorem Me.some{row:List gG}(h:Me row):Y0 row:=λx hx=>by obtain⟨w,rfl,_⟩:=h.2 x hx;rfl
theorem Me.nz{row:List gG}(h:Me row):aGp row:=λw hw=>by obtain⟨v,e,hv⟩:=h.2 _ hw;obtain rfl:=aQ e;exact hv.2.2.2
theorem Me.ah{row:List gG}(h:Me row){t:fN}(ht:WU t):aGn row t:=⟨h.some,by have:=h.1;omega,ht,h.nz⟩
abbrev ES:=fN×(List gG)×Int×Int×(Int×((List gG)×Unit))×Nat×(List (dC×gZ))×(List eT)×(List (gG×Bool))×Nat×(List (dC×gZ))×(List eT)
abbrev Pf:=Nat×(List (dC×gZ))×(List eT)
def G8:ES->Pf->((fN×(Int×((List gG)×Unit))×Nat×(List (dC×gZ))×(List eT))×(Nat×(List (dC×gZ))×(List eT))):=λ(rC,t20,t21,t22,o0,o1L,gq,gm,n14,aiz,n19,S0) y=>((rC,o0,o1L,gq,gm),y)
abbrev ae3:=(List gG)×fN×(Int×((List gG)×Unit))×Nat×(List (dC×gZ))×(List eT)
def V3:ES->Prop:=λ(_,l,m,i,_,_,_,_,k0,_,_,_)=>Y0 l/\l.length<=90/\k0=[]/\m=(l.length:Int)/\∃k:Nat,k<=l.length/\i=k
def Pe:ES->Pf:=λ(_,_,_,_,_,_,_,_,_,n,a,s)=>(n,a,s)
def aiL:ae3->Prop:=λ(row,t,_,n,a,s)=>Me row/\WU t/\A7 t/\QP 300 n a s
def TA:ae3->(Int×Int×(Int×((List gG)×Unit))×Nat×(List (dC×gZ))×(List eT)):=λ(_,t,p,n,a,s)=>((fy t p.1 (fK a)).1,(fy t p.1 (fK a)).2,p,n,a,s)
def lN:Ls V3 G8 Pe:=wh (λ(rC,t20,t21,t22,o0,o1L,gq,gm,n14,aiz,n19,S0)=>⟨([.ptr (.bF 0) 0 [] 0]++ba 4 ([.eG jk rC,cj,cj,.dM (.new 14 0) 0,fa 19]++ba 10 ([.d (.slice fk) t20,.d ti t21,.d ti t22]++ba 26 []))),[eL (.pr (.ptr (.bF 1) 0 [] 0) (.d (.pair ti (.pair (.slice fk) .unit)) o0)),eL (.pr (.dM (.bF 2) 0) (.pr (.cM (.bF 3) 0 [] 0 0 o1L) oc)),eL (.mp cV jn gq),eL (.vec 134 eP gm)],(bC 14 ([dz (.mp fk .bool n14)]++bC 4 ([[eL (.pr (.dM (.new 19 1) 0) (.pr (.cM (.new 19 2) 0 [] 0 0 aiz) oc)),eL (.mp cV jn n19),eL (.vec 134 eP S0)]]++bC 29 [])))⟩) (λx=>(.exit 0,⟨([.ptr (.bF 0) 0 [] 0]++ba 4 ([.eG jk x.1.1,cj,cj,cj,fa 19]++ba 39 [])),[eL (.pr (.ptr (.bF 1) 0 [] 0) (.d (.pair ti (.pair (.slice fk) .unit)) x.1.2.1)),eL (.pr (.dM (.bF 2) 0) (.pr (.cM (.bF 3) 0 [] 0 0 x.1.2.2.1) oc)),eL (.mp cV jn x.1.2.2.2.1),eL (.vec 134 eP x.1.2.2.2.2)],(bC 19 ([[eL (.pr (.dM (.new 19 1) 0) (.pr (.cM (.new 19 2) 0 [] 0 0 x.2.1) oc)),eL (.mp cV jn x.2.2.1),eL (.vec 134 eP x.2.2.2)]]++bC 29 []))⟩))
def AM:Fs Tryz.prog aiL bG TA:=gf 46 Tryz.f46 (λ(row,t,o0b,o1baL,o2,o3)=>([.ptr (.bF 0) 0 [] 0,.d (.slice fk) row,.d jk t],[.obj 0 aV (.pr (.ptr (.bF 1) 0 [] 0) (.d (.pair ti (.pair (.slice fk) .unit)) o0b)),.obj 0 aV (.pr (.dM (.bF 2) 0) (.pr (.cM (.bF 3) 0 [] 0 0 o1baL) (.d .unit ()))),.obj 0 aV (.mp cV jn o2),.obj 0 aV (.vec 134 eP o3)])) (λx=>⟨.cons (.d ti x.1) (.cons (.d ti x.2.1) (.nil)),[.obj 0 aV (.pr (.ptr (.bF 1) 0 [] 0) (.d (.pair ti (.pair (.slice fk) .unit)) x.2.2.1)),.obj 0 aV (.pr (.dM (.bF 2) 0) (.pr (.cM (.bF 3) 0 [] 0 0 x.2.2.2.1) (.d .unit ()))),.obj 0 aV (.mp cV jn x.2.2.2.2.1),.obj 0 aV (.vec 134 eP x.2.2.2.2.2)],[]⟩) [aH,au (.slice fk),au jk] [Ng,Xm,aso,adh] {loops:=th [(4,{bz:=[0,5,8,9,20,21,22],sites:=[14,19],owns:=[⟨9,[.snd,.fst],19,42⟩]})],outs:=tg [(4,{bz:=[0,5,9],sites:=[19]},{bz:=[6,7]})],iE:=uA [(4,lN.E)]}
theorem V4:lN.RS:=rL [.d jk,.d (.slice fk),.d ti,.d ti,.d (.pair ti (.pair (.slice fk) .unit)),.n,.d (.slice (.pair cV jn)),.d (.slice eP),.d (.slice (.pair fk .bool)),.n,.d (.slice (.pair cV jn)),.d (.slice eP)] lN
theorem ET(rC t20 t21 t22 o0 o1L gq gm n14 aiz n19 S0)(kn:K2 R)(kx:K3 R):AM.R 0 lN (rC,t20,t21,t22,o0,o1L,gq,gm,n14,aiz,n19,S0) kn kx=aP (iG t22 t21) (aP (iO t22 (t20.length:Int)) (aP ((cE fk (nth fk t20 (ab t22)) n14).getD aV) (ax ((nth fk t20 (ab t22))) λx1=>ax (B8 (x1.2.1,o0.1,aiz,n19,S0)) λx2=>aP x2.isLeft (ax x2.getLeft? λaH2=>kn (lN.st (rC,t20,t21,(bT .i64 t22 1),o0,o1L,gq,gm,n14,aH2.2.1,aH2.2.2.1,aH2.2.2.2))) (ax x2.getRight? λaH3=>kn (lN.st (rC,t20,t21,(bT .i64 t22 1),o0,o1L,gq,gm,n14,aH3.2.1,aH3.2.2.1,aH3.2.2.2)))) (kn (lN.st (rC,t20,t21,(bT .i64 t22 1),o0,o1L,gq,gm,n14,aiz,n19,S0)))) aH) (lN.go kx ((rC,o0,o1L,gq,gm),(aiz,n19,S0))):=cW
theorem aoW(row t o0b o1baL o2 o3)(k:K1 R):AM.A (row,t,o0b,o1baL,o2,o3) k=ax (tK.call (row,t)) λx1=>ax (wa.call (o1baL,o2,o3)) λx2=>ax (lN.call (t,row,(row.length:Int),0,o0b,x2.1,x2.2.1,x2.2.2.1,x1,x2.2.2.2.1,x2.2.2.2.2.1,x2.2.2.2.2.2)) λx7=>ax (lY.call (x7.1.1,x7.1.2.1.1,x7.2.1,x7.2.2.1,x7.2.2.2)) λx8=>k (AM.out (x8.1,x8.2.1,x7.1.2.1,x7.1.2.2.1,x7.1.2.2.2.1,x7.1.2.2.2.2)):=cW
theorem aaS:(AM.mN 0 lN):=by
 refine(AM.px 0 lN) (λ(_,l,_,i,_)=>l.length - i.toNat) ?_
 rintro⟨t,l,m,i,p,c,a0,s0,mk,n,a,s⟩ ⟨hs,hl,rfl,rfl,k,hk,rfl⟩;have hl:l.length<=90:=hl;have hk:k<=l.length:=hk;by_cases h:k < l.length
 ·left;refine⟨(t,l,(l.length:Int),((k+1:Nat):Int),p,c,a0,s0,[],n,a,s),⟨hs,hl,rfl,rfl,k+1,h,rfl⟩,by simp only[aa];omega,rfl,λkn kx=> ?_⟩;rw[ET,bh aq,aj,bB aq aq,aj,show ∀x,(cE fk x ([]:Mk)).getD aV=aV from λ_=>rfl,ao,N.pV aq]
 ·right;obtain rfl:k=l.length:=aq;intro R kn kx;rw[ET,aW aq,ao];rfl
theorem aoX:AM.Ok:=by rintro⟨row,t,p,n,a,s⟩ ⟨hr,ht,hv,hg⟩;have hl:row.length<=90:=hr.1;have hg:QP 300 n a s:=hg;obtain⟨hc,hn⟩:=hg.canon;rw[aoW,Iy (d:=(row,t)) (hr.ah ht),hg.copy aq];simp only[ag,bG,KK,hn];rw[V4 (d:=(t,row,(row.length:Int),0,p,n,a,s,[],n,fK a,s.take n)) ⟨hr.some,hl,rfl,rfl,0,aS _,rfl⟩];simp only[ag,G8,Pe];rw[hc.check hv];simp only[ag,bG,TA]
theorem aiM:AM.RS:=rE [.d (.slice fk),.d jk,.d (.pair ti (.pair (.slice fk) .unit)),.n,.d (.slice (.pair cV jn)),.d (.slice eP)] AM
def aoY:=AM.gr aoX 1 ⟨.iB aaS,trivial⟩
abbrev yY:=fN×Nat×(List gG)×Int×Int×(Int×((List gG)×Unit))×Nat×(List (dC×gZ))×(List eT)×Mc×(List (gG×Bool))×(List gG)
def kK:yY->AS:=λ(rC,restL,t36,t37,t38,o0,o1L,gq,gm,n25,n32,aAN)=>⟨([.ptr (.bF 0) 0 [] 0,cj,cj,.eG jk rC,cj,fa 25,.dM (.new 32 0) 0,lq 77 restL]++ba 28 ([.d (.slice fk) t36,.d ti t37,.d ti t38]++ba 104 [])),[eL (.pr (.ptr (.bF 1) 0 [] 0) (.d (.pair ti (.pair (.slice fk) .unit)) o0)),eL (.pr (.dM (.bF 2) 0) (.pr (.cM (.bF 3) 0 [] 0 0 o1L) oc)),eL (.mp cV jn gq),eL (.vec 134 eP gm)],(bC 25 ([dz (.d UI n25)]++bC 6 ([dz (.mp fk .bool n32)]++bC 44 ([dz (.vec 99 fk aAN)]++bC 65 []))))⟩
abbrev z6:=fN×Nat×(Int×((List gG)×Unit))×Nat×(List (dC×gZ))×(List eT)×Mc×(List (gG×Bool))×(List gG)
def xz:z6->Exit×AS:=λ(a,b,c,e,f,g,h,i,j)=>(.exit 0,⟨([.ptr (.bF 0) 0 [] 0,cj,cj,.eG jk a,cj,fa 25,.dM (.new 32 0) 0,lq 77 b]++ba 135 []),[eL (.pr (.ptr (.bF 1) 0 [] 0) (.d (.pair ti (.pair (.slice fk) .unit)) c)),eL (.pr (.dM (.bF 2) 0) (.pr (.cM (.bF 3) 0 [] 0 0 e) oc)),eL (.mp cV jn f),eL (.vec 134 eP g)],(bC 25 ([dz (.d UI h)]++bC 6 ([dz (.mp fk .bool i)]++bC 44 ([dz (.vec 99 fk j)]++bC 65 []))))⟩)
def KX:z6->Out (Exit×AS):=λx=> .ok (xz x)
def mE:yY->(fN×Nat×(Int×((List gG)×Unit))×Nat×(List (dC×gZ))×(List eT)×Mc×(List (gG×Bool))×(List gG))->z6:=λ(rC,restL,t36,t37,t38,o0,o1L,gq,gm,n25,n32,aAN) y=>y
abbrev yZ:=fN×Nat×gG×(List gG)×Int×Int×(Int×((List gG)×Unit))×Nat×(List (dC×gZ))×(List eT)×Mc×(List (gG×Bool))×(List (gG×Bool))×(List (gG×Bool))×(List gG)
def oB:yZ->AS:=λ(Gm,kN,yv,LI,LJ,vT,nC,wE,rG,aaK,Kw,tj,n59,n60,Kz)=>⟨([.ptr (.bF 0) 0 [] 0,cj,cj,.eG jk Gm,cj,fa 25,.dM (.new 32 0) 0,lq 77 kN,cj,.d fk yv]++ba 26 ([.d (.slice fk) LI,.d ti LJ,.d ti vT]++ba 21 ([fa 60]++ba 82 []))),[eL (.pr (.ptr (.bF 1) 0 [] 0) (.d (.pair ti (.pair (.slice fk) .unit)) nC)),eL (.pr (.dM (.bF 2) 0) (.pr (.cM (.bF 3) 0 [] 0 0 wE) oc)),eL (.mp cV jn rG),eL (.vec 134 eP aaK)],(bC 25 ([dz (.d UI Kw)]++bC 6 ([dz (.mp fk .bool tj)]++bC 26 ([[.obj 0 aO (.mp fk .bool n59)],dz (.qa (.new 59 0) 1 fk .bool n60 aH)]++bC 16 ([dz (.vec 99 fk Kz)]++bC 65 [])))))⟩
abbrev z7:=(fN×Nat×gG×(List gG)×Int×Int×(Int×((List gG)×Unit))×Nat×(List (dC×gZ))×(List eT)×Mc×(List gG))×((List (gG×Bool)))
def xB:z7->Exit×AS:=λ((a,b,c,e,f,g,h,i,j,k,l,m),n)=>(.exit 2,⟨([.ptr (.bF 0) 0 [] 0,cj,cj,.eG jk a,cj,fa 25,.dM (.new 32 0) 0,lq 77 b,cj,.d fk c]++ba 26 ([.d (.slice fk) e,.d ti f,.d ti g]++ba 104 [])),[eL (.pr (.ptr (.bF 1) 0 [] 0) (.d (.pair ti (.pair (.slice fk) .unit)) h)),eL (.pr (.dM (.bF 2) 0) (.pr (.cM (.bF 3) 0 [] 0 0 i) oc)),eL (.mp cV jn j),eL (.vec 134 eP k)],(bC 25 ([dz (.d UI l)]++bC 6 ([dz (.mp fk .bool n)]++bC 44 ([dz (.vec 99 fk m)]++bC 65 []))))⟩)
def KZ:z7->Out (Exit×AS):=λx=> .ok (xB x)
def po:yZ->((List (gG×Bool)))->z7:=λ(Gm,kN,yv,LI,LJ,vT,nC,wE,rG,aaK,Kw,tj,n59,n60,Kz) y=>((Gm,kN,yv,LI,LJ,vT,nC,wE,rG,aaK,Kw,Kz),y)
abbrev y3:=Nat×Int×Int×(Int×((List gG)×Unit))×Nat×(List (dC×gZ))×(List eT)×Mc×(List (gG×Bool))×(List gG)×(List (gG×Bool))
def rp:y3->AS:=λ(Ad,dL,least,Tm,EL,CA,Tn,Kx,fi,O8,n107)=>⟨([.ptr (.bF 0) 0 [] 0]++ba 4 ([fa 25,cj,lq 77 Ad,cj,cj,cj,.d ti dL,cj,.d ti least]++ba 93 ([fa 107]++ba 35 []))),[eL (.pr (.ptr (.bF 1) 0 [] 0) (.d (.pair ti (.pair (.slice fk) .unit)) Tm)),eL (.pr (.dM (.bF 2) 0) (.pr (.cM (.bF 3) 0 [] 0 0 EL) oc)),eL (.mp cV jn CA),eL (.vec 134 eP Tn)],(bC 25 ([dz (.d UI Kx)]++bC 6 ([[.obj 0 aO (.mp fk .bool fi)]]++bC 44 ([[.obj 0 aO (.vec 99 fk O8)]]++bC 29 ([dz (.qa (.new 32 0) 1 fk .bool n107 aH)]++bC 35 [])))))⟩
abbrev Pv:=(Int×((List gG)×Unit))×Nat×(List (dC×gZ))×(List eT)
def CG:Pv->Exit×AS:=λ(a,b,c,e)=>(.ret,⟨([.ptr (.bF 0) 0 [] 0,cj,cj,cj,.d ti (13:Int)]++ba 138 []),[eL (.pr (.ptr (.bF 1) 0 [] 0) (.d (.pair ti (.pair (.slice fk) .unit)) a)),eL (.pr (.dM (.bF 2) 0) (.pr (.cM (.bF 3) 0 [] 0 0 b) oc)),eL (.mp cV jn c),eL (.vec 134 eP e)],(ai 143 [])⟩)
abbrev Pw:=(Nat×Int×(Int×((List gG)×Unit))×Nat×(List (dC×gZ))×(List eT)×Mc×(List gG))×(Int)
def xD:Pw->Exit×AS:=λ((a,b,c,e,f,g,h,i),j)=>(.exit 5,⟨([.ptr (.bF 0) 0 [] 0]++ba 4 ([fa 25,cj,lq 77 a,cj,cj,cj,.d ti b,cj,.d ti j]++ba 129 [])),[eL (.pr (.ptr (.bF 1) 0 [] 0) (.d (.pair ti (.pair (.slice fk) .unit)) c)),eL (.pr (.dM (.bF 2) 0) (.pr (.cM (.bF 3) 0 [] 0 0 e) oc)),eL (.mp cV jn f),eL (.vec 134 eP g)],(bC 25 ([dz (.d UI h)]++bC 51 ([[.obj 0 aO (.vec 99 fk i)]]++bC 65 [])))⟩)
abbrev IE:=(Pv)⊕(Pw)
abbrev TR:=(Unit)⊕(Int)
def CH:IE->Out (Exit×AS):=λx=> .br x.isLeft (.get x.getLeft? λa=> .ok (CG a)) (.get x.getRight? λb=> .ok (xD b))
def mF:y3->TR->IE:=λ(Ad,dL,least,Tm,EL,CA,Tn,Kx,fi,O8,n107) y=>match y with | .inl y=> .inl (Tm,EL,CA,Tn) | .inr z=> .inr (((Ad,dL,Tm,EL,CA,Tn,Kx,O8),z))
abbrev KV:=fN×(Int×((List gG)×Unit))×Nat×(List (dC×gZ))×(List eT)
def TS:KV->SA:=λ(t,o0b,o1baL,o2,o3)=>([.ptr (.bF 0) 0 [] 0,.d jk t],[eL (.pr (.ptr (.bF 1) 0 [] 0) (.d (.pair ti (.pair (.slice fk) .unit)) o0b)),eL (.pr (.dM (.bF 2) 0) (.pr (.cM (.bF 3) 0 [] 0 0 o1baL) oc)),eL (.mp cV jn o2),eL (.vec 134 eP o3)])
abbrev alQ:=Int×(Int×((List gG)×Unit))×Nat×(List (dC×gZ))×(List eT)
abbrev aa7:=Int×(Int×((List gG)×Unit))×Nat×(List (dC×gZ))×(List eT)
def nj:aa7->iq:=λx=>⟨.d ti x.1,[eL (.pr (.ptr (.bF 1) 0 [] 0) (.d (.pair ti (.pair (.slice fk) .unit)) x.2.1)),eL (.pr (.dM (.bF 2) 0) (.pr (.cM (.bF 3) 0 [] 0 0 x.2.2.1) oc)),eL (.mp cV jn x.2.2.2.1),eL (.vec 134 eP x.2.2.2.2)],[]⟩
def Gi:KV->alQ->aa7:=λ(t,o0b,o1baL,o2,o3) y=>y
def NL(t:fN)(S:Mk×List gG)(x:gG):Mk×List gG:=match x with
 |none=>S
 |some w=>if nH w.2.1 (dJ t)=aO then(eM fk (au w) aO S.1,if Dc (eM fk (au w) aO S.1) (au w)=aO then S.2 else S.2++ [au w])
  else(S.1,if Dc S.1 (au w)=aO then S.2 else S.2++ [au w])
def axR(x:gG):Int:=match x with | none=>0 | some w=>w.2.2.2.1
def aaN(t:fN)(f:Int)(x:gG):Prop:=∃w,x=au w/\axy f w.2.2.2.2.1 w.2.2.2.1 (jY t) > 0/\0<=w.2.2.2.1/\w.2.2.2.1<=1125899906842624
def xy:yY->Prop:=λ(t,rL,l,m,i,p,_,_,_,_,_,rest)=>(aD7 t/\Me p.2.1)/\l=p.2.1/\rL=rest.length/\m=(l.length:Int)/\∃k:Nat,k<=l.length/\i=k/\rest.length<=k
def qP:yY->(fN×Nat×(Int×((List gG)×Unit))×Nat×(List (dC×gZ))×(List eT)×Mc×(List (gG×Bool))×(List gG)):=λ(t,_,l,_,i,p,n,a,s,x,gone,rest)=>(t,((l.drop i.toNat).foldl (NL t) (gone,rest)).2.length,p,n,a,s,x,((l.drop i.toNat).foldl (NL t) (gone,rest)).1,((l.drop i.toNat).foldl (NL t) (gone,rest)).2)
def xA:yZ->Prop:=λ(_,_,_,_,_,_,_,_,_,_,_,_,_,rest,_)=>rest=[]
def tN:yZ->((List (gG×Bool))):=λ(_,_,_,_,_,_,_,_,_,_,_,gone,_,_,_)=>gone
def xC:y3->Prop:=λ(_,dL,least,_,_,_,_,x,_,_,gone)=>(∃t,x.2.2.2.1=jY t/\∀y∈gone,aaN t dL y.1)/\gone.length<=1/\0<=least/\(0 < gone.length->least<=1000000)
def qQ:y3->TR:=λ(_,_,least,_,_,_,_,_,_,_,gone)=> .inr (least+(gone.map λy=>axR y.1).sum)
structure aA4(t:fN)(p:aIb)(n:Nat)(a:At)(s:List eT)(G:Mk)(L:List gG):Prop where
 tv:A7 t
 tok:iF t=aO
 root:WU t
 row:Me p.2.1
 new:tc (tl t) p.2.1=aH
 gl:p.2.1.foldl (NL t) ([],[])=(G,L)
 sub:Me L
 one:G.length<=1
 gone:∀y∈G,aaN t (fy t p.1 (fK a)).1 y.1
 st:QP 300 n a s
 ck:(fy t p.1 (fK a)).2=0
 fe:jY t+(G.map λy=>axR y.1).sum<=(fy t p.1 (fK a)).1
def Tp(p:aIb)(t:fN)(a:At):Mc:=(t,(tl t,((fy t p.1 (fK a)).1,(jY t,()))))
theorem Xy:∀l:List Nat,∃b,∀x∈l,x < b
 |[]=>⟨0,λx hx=>by cases hx⟩
 |y::l=>by
  obtain⟨b,hb⟩:=Xy l;refine⟨b+y+1,λx hx=> ?_⟩;rcases bA.1 hx with rfl | hx
  ·omega
  ·have:=hb x hx;omega
def Nk:KV->Prop:=λ(t,p,n,a,s)=>∃G L,aA4 t p n a s G L
def IF:KV->alQ->Prop:=λ(t,p,n,a,s) y=>∃k,y=(0,(p.1,((p.2.1.foldl (NL t) ([],[])).2++ [au (k,Tp p t a)],())),n,a,s)
def CF:qh:=pS (P:=Tryz.prog) [pH,auX,US,aj7,alM,U7,ajc,Ng,auL,aoY,azb]
def TL:=eA.iB kK xy mE qP KX
def Hb:yY->Option z6:=lg TL kK
def TN:=eA.iB oB xA po tN KZ
def AQ:yZ->Option z7:=lg TN oB
def TP:=eA.iB rp xC mF qQ CH
def Hd:y3->Option IE:=lg TP rp
def y4:zp:= {bM:=[25],loops:=th [(9,{bz:=[0,3,5,6,7,36,37,38],sites:=[25,32,77],owns:=[⟨7,[],77,91⟩]}),(14,{bz:=[0,3,5,6,7,9,36,37,38,60],sites:=[25,32,59,60,77],aDR:=[60]}),(31,{bz:=[0,5,7,11,13,107],sites:=[25,32,77,107],aDR:=[107]})],outs:=tg [(9,{bz:=[0,3,5,6,7],sites:=[25,32,77]},{bz:=[0,4]}),(14,{bz:=[0,3,5,6,7,9,36,37,38],sites:=[25,32,77]},{bz:=[0,4]}),(31,{bz:=[0,5,7,11,13],sites:=[25,77]},{bz:=[0,4]})],iE:=uA [(9,TL),(14,TN),(31,TP)],JP:=[⟨0,[.snd,.snd,.fst],(.slice fk)⟩],Qe:=λq=>(uA [(38,[⟨5,UI,7⟩])] q).getD []}
def alO:= @QO Tryz.prog CF y4 0 Tryz.f13 _ TS
abbrev auZ:=aAh @alO Nk Gi IF nj
def TM:= @gw Tryz.prog CF y4 0 Tryz.f13 0 _ kK
abbrev Ps:=qu Tryz.prog CF y4 0 Tryz.f13 0 kK xy mE qP KX
def TO:= @gw Tryz.prog CF y4 0 Tryz.f13 1 _ oB
abbrev Pt:=qu Tryz.prog CF y4 0 Tryz.f13 1 oB xA po tN KZ
def TQ:= @gw Tryz.prog CF y4 0 Tryz.f13 2 _ rp
abbrev Pu:=qu Tryz.prog CF y4 0 Tryz.f13 2 rp xC mF qQ CH
theorem aa5:nK Hb xy mE qP:=tR (sy [.d jk,.n,.d (.slice fk),.d ti,.d ti,.d (.pair ti (.pair (.slice fk) .unit)),.n,.d (.slice (.pair cV jn)),.d (.slice eP),.d UI,.d (.slice (.pair fk .bool)),.d (.slice fk)] λ_=>cW)
theorem KW:aq0 @TM kK xy mE qP xz Ps:=aBq
theorem Hc(rC restL t36 t37 t38 o0 o1L gq gm n25 n32 aAN)(kn:K2 R)(kx:K3 R):TM (rC,restL,t36,t37,t38,o0,o1L,gq,gm,n25,n32,aAN) kn kx=aP (iG t38 t37) (aP (iO t38 (((ae t36):Nat):Int)) (ax ((nth fk t36 (ab t38))) λx1=>ax (qo.call rC) λx2=>ax (CJ.call (x1.2.1,x2)) λx3=>aP (x3) (ax ((nth fk t36 (ab t38))) λx4=>ax (tK.call (o0.2.1,x4.2.1)) λx5=>ax (AQ (rC,restL,(nth fk t36 (ab t38)),t36,t37,t38,o0,o1L,gq,gm,n25,(eM fk (nth fk t36 (ab t38)) aO n32),x5,x5,aAN)) λx6=>aP (!((cE fk x6.1.2.2.1 x6.2).getD aV)) (aP (decide (x6.1.2.1<=(ae x6.1.2.2.2.2.2.2.2.2.2.2.2))) (aP (dI (x6.1.2.1+1) 8) (kn (kK (x6.1.1,(x6.1.2.1+1),x6.1.2.2.2.1,x6.1.2.2.2.2.1,(bT .i64 x6.1.2.2.2.2.2.1 (1:Int)),x6.1.2.2.2.2.2.2.1,x6.1.2.2.2.2.2.2.2.1,x6.1.2.2.2.2.2.2.2.2.1,x6.1.2.2.2.2.2.2.2.2.2.1,x6.1.2.2.2.2.2.2.2.2.2.2.1,x6.2,((bk x6.1.2.1 x6.1.2.2.2.2.2.2.2.2.2.2.2)++ [x6.1.2.2.1])))) aH) aH) (kn (kK (x6.1.1,x6.1.2.1,x6.1.2.2.2.1,x6.1.2.2.2.2.1,(bT .i64 x6.1.2.2.2.2.2.1 (1:Int)),x6.1.2.2.2.2.2.2.1,x6.1.2.2.2.2.2.2.2.1,x6.1.2.2.2.2.2.2.2.2.1,x6.1.2.2.2.2.2.2.2.2.2.1,x6.1.2.2.2.2.2.2.2.2.2.2.1,x6.2,x6.1.2.2.2.2.2.2.2.2.2.2.2)))) (ax ((nth fk t36 (ab t38))) λx7=>ax (tK.call (o0.2.1,x7.2.1)) λx8=>ax (AQ (rC,restL,(nth fk t36 (ab t38)),t36,t37,t38,o0,o1L,gq,gm,n25,n32,x8,x8,aAN)) λx9=>aP (!((cE fk x9.1.2.2.1 x9.2).getD aV)) (aP (decide (x9.1.2.1<=(ae x9.1.2.2.2.2.2.2.2.2.2.2.2))) (aP (dI (x9.1.2.1+1) 8) (kn (kK (x9.1.1,(x9.1.2.1+1),x9.1.2.2.2.1,x9.1.2.2.2.2.1,(bT .i64 x9.1.2.2.2.2.2.1 (1:Int)),x9.1.2.2.2.2.2.2.1,x9.1.2.2.2.2.2.2.2.1,x9.1.2.2.2.2.2.2.2.2.1,x9.1.2.2.2.2.2.2.2.2.2.1,x9.1.2.2.2.2.2.2.2.2.2.2.1,x9.2,((bk x9.1.2.1 x9.1.2.2.2.2.2.2.2.2.2.2.2)++ [x9.1.2.2.1])))) aH) aH) (kn (kK (x9.1.1,x9.1.2.1,x9.1.2.2.2.1,x9.1.2.2.2.2.1,(bT .i64 x9.1.2.2.2.2.2.1 (1:Int)),x9.1.2.2.2.2.2.2.1,x9.1.2.2.2.2.2.2.2.1,x9.1.2.2.2.2.2.2.2.2.1,x9.1.2.2.2.2.2.2.2.2.2.1,x9.1.2.2.2.2.2.2.2.2.2.2.1,x9.2,x9.1.2.2.2.2.2.2.2.2.2.2.2))))) aH) (kx (xz (rC,restL,o0,o1L,gq,gm,n25,n32,aAN)).1 (xz (rC,restL,o0,o1L,gq,gm,n25,n32,aAN)).2):=cW
theorem K4:nK AQ xA po tN:=tR (sy [.d jk,.n,.d fk,.d (.slice fk),.d ti,.d ti,.d (.pair ti (.pair (.slice fk) .unit)),.n,.d (.slice (.pair cV jn)),.d (.slice eP),.d UI,.d (.slice (.pair fk .bool)),.d (.slice (.pair fk .bool)),.d (.slice (.pair fk .bool)),.d (.slice fk)] λ_=>cW)
theorem KY:aA7 @TO oB xA po tN xB Pt:=aEa
theorem Wa(Gm kN yv LI LJ vT nC wE rG aaK Kw tj n59 n60 Kz)(kn:K2 R)(kx:K3 R):TO (Gm,kN,yv,LI,LJ,vT,nC,wE,rG,aaK,Kw,tj,n59,n60,Kz) kn kx=aP (decide (0 < (ae n60))) (asw (ae n60) λj1=>aP ((cE fk (tJ fk .bool n60 j1).1 tj).getD aV) (kn (oB (Gm,kN,yv,LI,LJ,vT,nC,wE,rG,aaK,Kw,(eM fk yv aO tj),n59,(List.eraseIdx n60 j1),Kz))) (kn (oB (Gm,kN,yv,LI,LJ,vT,nC,wE,rG,aaK,Kw,tj,n59,(List.eraseIdx n60 j1),Kz)))) (kx (xB ((Gm,kN,yv,LI,LJ,vT,nC,wE,rG,aaK,Kw,Kz),tj)).1 (xB ((Gm,kN,yv,LI,LJ,vT,nC,wE,rG,aaK,Kw,Kz),tj)).2):=cW
theorem aa6:nK Hd xC mF qQ:=tR (sy [.n,.d ti,.d ti,.d (.pair ti (.pair (.slice fk) .unit)),.n,.d (.slice (.pair cV jn)),.d (.slice eP),.d UI,.d (.slice (.pair fk .bool)),.d (.slice fk),.d (.slice (.pair fk .bool))] λ_=>cW)
theorem K5:yd @TQ rp xC mF qQ CH Pu:=zr
theorem He(Ad dL least Tm EL CA Tn Kx fi O8 n107)(kn:K2 R)(kx:K3 R):TQ (Ad,dL,least,Tm,EL,CA,Tn,Kx,fi,O8,n107) kn kx=aP (decide (0 < (ae n107))) (asw (ae n107) λj1=>ax ((tJ fk .bool n107 j1).1) λx2=>ax ((tJ fk .bool n107 j1).1) λx3=>ax (aiO.call (dL,x2.2.2.2.2.1,x3.2.2.2.1,Kx.2.2.2.1)) λx4=>aP (aad x4 (0:Int)) (kx (CG (Tm,EL,CA,Tn)).1 (CG (Tm,EL,CA,Tn)).2) (ax ((tJ fk .bool n107 j1).1) λx5=>kn (rp (Ad,dL,(bT .i64 least x5.2.2.2.1),Tm,EL,CA,Tn,Kx,fi,O8,(List.eraseIdx n107 j1))))) (kx (xD ((Ad,dL,Tm,EL,CA,Tn,Kx,O8),least)).1 (xD ((Ad,dL,Tm,EL,CA,Tn,Kx,O8),least)).2):=cW
theorem au0(t o0b o1baL o2 o3)(k:K1 R):alO (t,o0b,o1baL,o2,o3) k=ax (il.call t) λx1=>aP (!x1) (k (nj ((1:Int),(o0b.1,(o0b.2.1,o0b.2.2)),o1baL,o2,o3))) (ax (TK.call t) λx2=>ax (tid.call t) λx3=>ax (sT.call t) λx4=>ax (TH.call (x3,o0b,o1baL,o2,o3)) λx5=>aP (x5.1) (k (nj ((4:Int),(x5.2.1.1,(x5.2.1.2.1,x5.2.1.2.2)),x5.2.2.1,x5.2.2.2.1,x5.2.2.2.2))) (ax (Hb (t,0,x5.2.1.2.1,(((ae x5.2.1.2.1):Nat):Int),(0:Int),x5.2.1,x5.2.2.1,x5.2.2.2.1,x5.2.2.2.2,(x2,(x3,((0:Int),(x4,())))),([]:List (gG×Bool)),([]:List gG))) λsY=>aP (zP ((sY.2.1:Nat):Int) (100:Int)) (k (nj ((3:Int),(sY.2.2.1.1,(sY.2.2.1.2.1,sY.2.2.1.2.2)),sY.2.2.2.1,sY.2.2.2.2.1,sY.2.2.2.2.2.1))) (aP (decide (0=0/\(0+sY.2.1)<=(ae sY.2.2.2.2.2.2.2.2))) (ax (G9.call ((cut sY.2.2.2.2.2.2.2.2 0 sY.2.1),sY.1)) λagA=>aP (wC agA (4:Int)) (k (nj ((25:Int),(sY.2.2.1.1,(sY.2.2.1.2.1,sY.2.2.1.2.2)),sY.2.2.2.1,sY.2.2.2.2.1,sY.2.2.2.2.2.1))) (aP (decide (0=0/\(0+sY.2.1)<=(ae sY.2.2.2.2.2.2.2.2))) (ax (AM.call ((cut sY.2.2.2.2.2.2.2.2 0 sY.2.1),sY.1,sY.2.2.1,sY.2.2.2.1,sY.2.2.2.2.1,sY.2.2.2.2.2.1)) λWQ=>aP (DF WQ.2.1 (0:Int)) (k (nj (WQ.2.1,(WQ.2.2.1.1,(WQ.2.2.1.2.1,WQ.2.2.1.2.2)),WQ.2.2.2.1,WQ.2.2.2.2.1,WQ.2.2.2.2.2))) (ax (Hd (sY.2.1,WQ.1,sY.2.2.2.2.2.2.1.2.2.2.1,WQ.2.2.1,WQ.2.2.2.1,WQ.2.2.2.2.1,WQ.2.2.2.2.2,(sY.2.2.2.2.2.2.1.1,(sY.2.2.2.2.2.2.1.2.1,(WQ.1,sY.2.2.2.2.2.2.1.2.2.2))),sY.2.2.2.2.2.2.2.1,sY.2.2.2.2.2.2.2.2,sY.2.2.2.2.2.2.2.1)) λL4=>aP L4.isLeft (ax L4.getLeft? λa25=>k (nj ((13:Int),(a25.1.1,(a25.1.2.1,a25.1.2.2)),a25.2.1,a25.2.2.1,a25.2.2.2))) (ax L4.getRight? λb26=>aP (iG b26.1.2.1 b26.2) (k (nj ((13:Int),(b26.1.2.2.1.1,(b26.1.2.2.1.2.1,b26.1.2.2.1.2.2)),b26.1.2.2.2.1,b26.1.2.2.2.2.1,b26.1.2.2.2.2.2.1))) (P2 (λn=>n ∉ (List.flatMap (je fk) b26.1.2.2.2.2.2.2.2)) λaA1=>aP (decide (b26.1.1<=(ae b26.1.2.2.2.2.2.2.2))) (aP (decide (b26.1.1=(ae b26.1.2.2.2.2.2.2.2))) (aP (dI (b26.1.1+1) 8) (aP (decide (0=0/\(0+(b26.1.1+1))<=(ae ((bk b26.1.1 b26.1.2.2.2.2.2.2.2)++ [(au (aA1,b26.1.2.2.2.2.2.2.1))])))) (k (nj ((0:Int),(b26.1.2.2.1.1,((cut ((bk b26.1.1 b26.1.2.2.2.2.2.2.2)++ [(au (aA1,b26.1.2.2.2.2.2.2.1))]) 0 (b26.1.1+1)),b26.1.2.2.1.2.2)),b26.1.2.2.2.1,b26.1.2.2.2.2.1,b26.1.2.2.2.2.2.1))) aH) aH) aH) aH)))) aH)) aH))):=cW
theorem azQ(t:fN):(dJ t).length<=64:=by
 unfold dJ;split
 ·rename_i h;rw[bg];exact(lQ h).1.2.1
 ·simp
theorem aka(t:fN):0<=jY t/\jY t<=100000:=by
 unfold jY;split
 ·rename_i iS;obtain⟨⟨_,a2,a3,_⟩,b1,b2⟩:=lQ iS;have key:∀(l:List gU) (n:Int),(∀x∈l,x.2.1.2.1.length<=12)->n<=l.foldl sV n/\l.foldl sV n<=n+110*l.length:=by
   intro l
   induction l with
   |nil=>intro n _;simp
   |cons x l ih=>
    intro n h;have h1:=ih (sV n x) λy hy=>h y (aD _ hy)
    have h2:=h x (aG ..);have h3:n<=sV n x/\sV n x<=n+110:=by unfold sV;split <;> omega
    rw[bJ,aB];omega
  have:=key t.1 (10+8*t.2.1.length) λx hx=>(Cn (om _ _ b1 x hx)).2.2.2.2
  omega
 ·omega
theorem afa:Pt:=by
 refine KY (λ_=>0) ?_
 rintro⟨t,rL,y,l,m,i,p,n,a,s,x,gone,all,rest,row⟩ rfl;right;intro T kn kx;rw[Wa,show decide (0 < (ae ([]:Mk)))=aV from rfl,ao];rfl
theorem av9(t:fN)(S:Mk×List gG)(x:gG):(NL t S x).2.length<=S.2.length+1:=by
 unfold NL;split
 ·omega
 ·split
  ·show(if _ then S.2 else _).length<=_;split
   ·omega
   ·simp
  ·show(if _ then S.2 else _).length<=_;split
   ·omega
   ·simp
theorem ae9:Ps:=by
 refine KW (λ(_,_,l,_,i,_)=>l.length - i.toNat) ?_
 rintro⟨t,rL,l,m,i,p,n,a,s,x,gone,rest⟩ ⟨⟨hu,hr⟩,rfl,rfl,rfl,k,hk,rfl,aDK⟩;have hl:p.2.1.length<=90:=hr.1;have hk:k<=p.2.1.length:=hk;have aDK:rest.length<=k:=aDK;by_cases h:k < p.2.1.length
 ·left;have n1:nth fk p.2.1 k=p.2.1[k]:=db (t:=fk) h;have hd:p.2.1.drop k=p.2.1[k]::p.2.1.drop (k+1):=aA h;have rD:=aZ h;obtain⟨w,hw,hv,aJl,OE,aKi⟩:=hr.2 _ rD;rw[hw]at n1 hd rD;have hlen:=av9 t (gone,rest) (au w);have adU:=afk (d:=(w.2.1,dJ t)) ⟨by show w.2.1.1.length<=_;omega,by have:=azQ t;show(dJ t).length<=_;omega⟩;simp only[bG,Yn]at adU;have aGH:=Iy (d:=(p.2.1,w.2.1)) (hr.ah OE);simp only[bG,KK]at aGH;obtain⟨⟨G,R⟩,hS⟩:∃S,NL t (gone,rest) (au w)=S:=⟨_,rfl⟩;rw[hS]at hlen;have hlen:R.length<=rest.length+1:=hlen;refine⟨(t,R.length,p.2.1,(p.2.1.length:Int),((k+1:Nat):Int),p,n,a,s,x,G,R),⟨⟨hu,hr⟩,rfl,rfl,rfl,k+1,h,rfl,by show R.length<=_;omega⟩,by simp only[aa];omega,?_,λkn kx=> ?_⟩
  ·simp only[mE,qP,aa,hd,bJ,hS]
  ·rw[Hc,bh aq,aj,bB aq aq,aj,aa,n1,PT (d:=t) hu];simp only[ag,bG,Gp];rw[adU];simp only[ag];have hS':(if nH w.2.1 (dJ t)=aO then(eM fk (au w) aO gone,if Dc (eM fk (au w) aO gone) (au w)=aO then rest else rest++ [au w]) else(gone,if Dc gone (au w)=aO then rest else rest++ [au w]))=(G,R):=hS;cases hc:nH w.2.1 (dJ t) with
   |true=>
    rw[hc,if_pos rfl]at hS';obtain⟨rfl,hR⟩:=Prod.mk.inj hS';rw[aj,aGH,ag,K4 (d:=(t,rest.length,au w,p.2.1,(p.2.1.length:Int),(k:Int),p,n,a,s,x,eM fk (au w) aO gone,[],[],rest)) rfl];simp only[ag,po,tN];rw[show(cE fk (au w) (eM fk (au w) aO gone)).getD aV=Dc (eM fk (au w) aO gone) (au w) from rfl];cases hm:Dc (eM fk (au w) aO gone) (au w) with
    |true=>
     rw[hm,if_pos rfl]at hR;subst hR;rw[bR,ao,N.pV aq]
    |false=>
     rw[hm,if_neg eR]at hR;subst hR;rw[dA,aj,aM (aC _),aj,dN aq aq,aj,N.pV aq,bU,ak];rfl
   |false=>
    rw[hc,if_neg eR]at hS';obtain⟨rfl,hR⟩:=Prod.mk.inj hS';rw[ao,aGH,ag,K4 (d:=(t,rest.length,au w,p.2.1,(p.2.1.length:Int),(k:Int),p,n,a,s,x,gone,[],[],rest)) rfl];simp only[ag,po,tN];rw[show(cE fk (au w) gone).getD aV=Dc gone (au w) from rfl];cases hm:Dc gone (au w) with
    |true=>
     rw[hm,if_pos rfl]at hR;subst hR;rw[bR,ao,N.pV aq]
    |false=>
     rw[hm,if_neg eR]at hR;subst hR;rw[dA,aj,aM (aC _),aj,dN aq aq,aj,N.pV aq,bU,ak];rfl
 ·right;obtain rfl:k=p.2.1.length:=aq;intro T kn kx;rw[Hc,aW aq,ao];simp only[mE,qP,aa,bj,eB]
theorem afb:Pu:=by
 refine K5 (λ(_,_,_,_,_,_,_,_,_,_,gone)=>gone.length) ?_
 rintro⟨rL,dL,least,p,n,a,s,x,g,row,gone⟩ ⟨⟨t,hx,hg⟩,h1,h0,h2⟩;have h1:gone.length<=1:=h1;have h0:0<=least:=h0;have h2:0 < gone.length->least<=1000000:=h2;have hx:x.2.2.2.1=jY t:=hx
 match gone,h1,h2,hg with
 |[],_,_,_=>
  right;refine⟨xD ((rL,dL,p,n,a,s,x,row),least),?_,λkn kx=> ?_⟩
  ·simp only[mF,qQ,eF,List.sum_nil,rN];rfl
  ·rw[He,show decide (0 < ([]:Mk).length)=aV from rfl,ao]
 |[(y,bb)],_,h2,hg=>
  obtain⟨w,hw,hc,aKc,aDB⟩:=hg _ aG;have hw:y=au w:=hw;subst hw;left;have h2:least<=1000000:=h2 Nat.one_pos;refine⟨(rL,dL,least+w.2.2.2.1,p,n,a,s,x,g,row,[]),⟨⟨t,hx,λy hy=>(by cases hy)⟩,aS _,by show 0<=least+w.2.2.2.1;omega,λh=>absurd h (gX 0)⟩,Nat.one_pos,?_,λkn kx=> ?_⟩
  ·simp only[mF,qQ,bn,eF,mZ,List.sum_nil,axR,rN]
  ·rw[He,show decide (0 < [((au w:gG),bb)].length)=aO from rfl,aj];refine asx Nat.one_pos λj hj=> ?_
   obtain rfl:j=0:=by have hj:j < 1:=hj;omega
   rw[show(tJ fk .bool [((au w:gG),bb)] 0).1=au w from rfl];simp only[ag];rw[auI (d:=(dL,w.2.2.2.2.1,w.2.2.2.1,x.2.2.2.1)) trivial];simp only[ag,bG,auG];rw[hx,jO aq,ao,eU aq aq];rfl
 |_::_::_,h1,_,_=>exact absurd h1 (by simp)
theorem au1:auZ:=by
 rintro⟨t,p,n,a,s⟩ ⟨G,L,hA⟩ k hk;obtain⟨hv,iS,OE,hr,Bw,aEK,ath,Z4,as8,hg,agu,aBV⟩:=hA;have hl:p.2.1.length<=90:=hr.1;have hL:L.length<=90:=ath.1;have hw:=aka t;rw[au0,mK (d:=t) hv.1];simp only[ag,bG,oN,iS,bR,ao];rw[apf (d:=t) ⟨hv,iS⟩,LQ (d:=t) hv,agj (d:=t) hv];simp only[ag,bG,aa4,bG,UR,bG,NO];rw[KS (d:=(tl t,p,n,a,s)) ⟨hr.some,by show p.2.1.length<=_;omega⟩];simp only[ag,bG,Nj,Bw,ml,ao];rw[aa5 (d:=(t,0,p.2.1,(p.2.1.length:Int),0,p,n,a,s,(t,(tl t,(0,(jY t,())))),[],[])) ⟨⟨hv.1,hr⟩,rfl,rfl,rfl,0,aS _,rfl,aS _⟩];simp only[ag,mE,qP,bO,aN,aEK,aU];rw[eN aq,ao,aM ⟨trivial,aC _⟩,aj,fA rfl];rw[ao2 (d:=(L,t)) (ath.ah OE)];simp only[ag,bG,alI];rw[cY eR,ao,aiM (d:=(L,t,p,n,a,s)) ⟨ath,OE,hv,hg⟩];simp only[ag,bG,TA,agu];rw[dX rfl,ao,aa6 (d:=(L.length,(fy t p.1 (fK a)).1,jY t,p,n,a,s,(t,(tl t,((fy t p.1 (fK a)).1,(jY t,())))),G,L,G)) ⟨⟨t,rfl,as8⟩,Z4,hw.1,λ_=>by show jY t<=_;omega⟩];simp only[ag,mF,qQ,ig,ao,fP];rw[aW aq,ao];obtain⟨b,hb⟩:=Xy (L.flatMap (je fk));refine ZI ⟨b,λhm=>absurd (hb b hm) (gX b)⟩ λy hy=> ?_
 rw[aM (aC _),aj,aM trivial,aj,dN aq aq,aj,bU];have e1:(L++ [(au (y,(t,(tl t,((fy t p.1 (fK a)).1,(jY t,()))))):gG)]).length=L.length+1:=by rw[ak];rfl
 rw[fA e1,e1,aM ⟨trivial,aq⟩,aj];exact hk _ ⟨y,by rw[aEK];rfl⟩
def alP:=Entry.Qc [aH,au jk] TS Nk Gi IF nj
def Yi:KV->aa7->Prop:=aFy alP TS
theorem apg:aq6 Yi Nk Gi IF:=aFw (an7 [.d jk,.d (.pair ti (.pair (.slice fk) .unit)),.n,.d (.slice (.pair cV jn)),.d (.slice eP)] λ_=>cW)
def au2:SG Tryz.prog:=⟨13,wI,alP,.aJP (.fn 3 cW au1 (And.intro (.iB ae9 cW) (And.intro (.iB afa cW) (And.intro (.iB afb cW) trivial)))) (by rfl)⟩
end Go.Ab
namespace Go.Proofs
open Go.Shelf
def Tryz.ajJ:Go.Shelf.Ren:=⟨λ | 6=>24 | 15=>57 | 14=>56 | 28=>95 | 29=>96 | 20=>87 | 21=>88 | 22=>89 | 23=>90 | 24=>91 | 25=>92 | 26=>93 | 27=>94 | 46=>126 | 47=>127 | 48=>128 | 49=>129 | 50=>130 | 57=>150 | n=>n,λ | 22=>26 | 24=>40 | 25=>83 | 3=>3 | 39=>129 | 0=>0 | 53=>175 | 55=>37 | 4=>4 | 46=>169 | 45=>168 | 50=>135 | 5=>5 | 9=>9 | 66=>209 | 70=>212 | 76=>232 | 77=>233 | n=>n,λ | n=>n⟩
theorem Tryz.av0:Go.Proofs.SlLaysF0.n6 Tryz.prog Tryz.ajJ:= {
 mixed:=by kernel_rfl
 f6:=⟨Tryz.f24.name,by decide,Tryz.func24.trans (congrArg au (by kernel_rfl))⟩
 f14:=⟨Tryz.f56.name,by decide,Tryz.func56.trans (congrArg au (by kernel_rfl))⟩
 f15:=Tryz.func57.trans (congrArg au (by kernel_rfl))
 f20:=⟨Tryz.f87.name,by decide,Tryz.func87.trans (congrArg au (by kernel_rfl))⟩
 f21:=⟨Tryz.f88.name,by decide,Tryz.func88.trans (congrArg au (by kernel_rfl))⟩
 f22:=⟨Tryz.f89.name,by decide,Tryz.func89.trans (congrArg au (by kernel_rfl))⟩
 f23:=⟨Tryz.f90.name,by decide,Tryz.func90.trans (congrArg au (by kernel_rfl))⟩
 f24:=⟨Tryz.f91.name,by decide,Tryz.func91.trans (congrArg au (by kernel_rfl))⟩
 f25:=⟨Tryz.f92.name,by decide,Tryz.func92.trans (congrArg au (by kernel_rfl))⟩
 f26:=⟨Tryz.f93.name,by decide,Tryz.func93.trans (congrArg au (by kernel_rfl))⟩
 f27:=⟨Tryz.f94.name,by decide,Tryz.func94.trans (congrArg au (by kernel_rfl))⟩
 f28:=Tryz.func95.trans (congrArg au (by kernel_rfl))
 f29:=Tryz.func96.trans (congrArg au (by kernel_rfl))
 f46:=⟨Tryz.f126.name,by decide,Tryz.func126.trans (congrArg au (by kernel_rfl))⟩
 f47:=Tryz.func127.trans (congrArg au (by kernel_rfl))
 f48:=Tryz.func128.trans (congrArg au (by kernel_rfl))
 f49:=⟨Tryz.f129.name,by decide,Tryz.func129.trans (congrArg au (by kernel_rfl))⟩
 f50:=⟨Tryz.f130.name,by decide,Tryz.func130.trans (congrArg au (by kernel_rfl))⟩
 f57:=⟨Tryz.f150.name,by decide,Tryz.func150.trans (congrArg au (by kernel_rfl))⟩
 t0:=Tryz.underlying0
 a0:=Tryz.isAgg0
 z0:=Tryz.sizeOf0
 v0:=Tryz.zeroValue0
 t3:=Tryz.underlying3
 a3:=Tryz.isAgg3
 z3:=Tryz.sizeOf3
 v3:=Tryz.zeroValue3
 t4:=Tryz.underlying4
 a4:=Tryz.isAgg4
 z4:=Tryz.sizeOf4
 v4:=Tryz.zeroValue4
 t5:=Tryz.underlying5
 a5:=Tryz.isAgg5
 z5:=Tryz.sizeOf5
 v5:=Tryz.zeroValue5
 t9:=Tryz.underlying9
 a9:=Tryz.isAgg9
 z9:=Tryz.sizeOf9
 v9:=Tryz.zeroValue9
 t22:=Tryz.underlying26
 a22:=Tryz.isAgg26
 z22:=Tryz.sizeOf26
 v22:=Tryz.zeroValue26
 t25:=Tryz.underlying83
 a25:=Tryz.isAgg83
 z25:=Tryz.sizeOf83
 v25:=Tryz.zeroValue83
 t39:=Tryz.underlying129
 a39:=Tryz.isAgg129
 z39:=Tryz.sizeOf129
 v39:=Tryz.zeroValue129
 t45:=Tryz.underlying168
 a45:=Tryz.isAgg168
 z45:=Tryz.sizeOf168
 v45:=Tryz.zeroValue168
 t46:=Tryz.underlying169
 a46:=Tryz.isAgg169
 z46:=Tryz.sizeOf169
 v46:=Tryz.zeroValue169
 t50:=Tryz.underlying135
 a50:=Tryz.isAgg135
 z50:=Tryz.sizeOf135
 v50:=Tryz.zeroValue135
 t53:=Tryz.underlying175
 a53:=Tryz.isAgg175
 z53:=Tryz.sizeOf175
 v53:=Tryz.zeroValue175
 t55:=Tryz.underlying37
 a55:=Tryz.isAgg37
 z55:=Tryz.sizeOf37
 v55:=Tryz.zeroValue37
 t66:=Tryz.underlying209
 a66:=Tryz.isAgg209
 z66:=Tryz.sizeOf209
 v66:=Tryz.zeroValue209
 t70:=Tryz.underlying212
 a70:=Tryz.isAgg212
 z70:=Tryz.sizeOf212
 v70:=Tryz.zeroValue212
 t76:=Tryz.underlying232
 a76:=Tryz.isAgg232
 z76:=Tryz.sizeOf232
 v76:=Tryz.zeroValue232
 t77:=Tryz.underlying233
 a77:=Tryz.isAgg233
 z77:=Tryz.sizeOf233
 v77:=Tryz.zeroValue233}
end Go.Proofs
namespace Go.Ab
open Go.Proofs
abbrev yc:Ty:=(.pair ti (.pair ti (.pair ti .unit)))
abbrev vY:=(Int×(Int×(Int×Unit)))
abbrev fp:Ty:=(.pair cV (.pair nu (.pair ti (.pair tu (.pair ti (.pair ti .unit))))))
abbrev eK:=(dC×(jo×(Int×(Int×(Int×(Int×Unit))))))
abbrev ir:Ty:=(.pair (.slice fp) yc)
abbrev iI:=((List eK)×vY)
def qR(b:vY):Bool:=decide (0<=AB b.1 b.2.1/\1<=b.2.2.1/\imax (imax b.1 b.2.1) b.2.2.1<=1000)
theorem Ud{b:vY}(h:qR b=aO):(0<=b.1/\b.1<=1000)/\(0<=b.2.1/\b.2.1<=1000)/\1<=b.2.2.1/\b.2.2.1<=1000:=by have h:=of_decide_eq_true h;unfold AB imax at h;split at h <;> split at h <;> split at h <;> omega
def ajk(b:vY):Int:=if qR b then b.2.2.1+b.1+b.2.1+1 else 0
def mX(b:vY):Int:=if qR b then b.2.2.1+b.1+b.2.1+1+12 else 0
theorem abu(b:vY):0<=mX b/\mX b<=3013/\(qR b=aO->14<=mX b):=by
 unfold mX;split
 ·rename_i h;have:=Ud h;exact⟨aq,aq,λ_=>aq⟩
 ·rename_i h;exact⟨aq,aq,λe=>absurd e h⟩
def akf:vY->Prop:=λ_=>True
def BR:vY->Bool:=λb=>qR b
def wA:Fs Tryz.prog akf bG BR:=gf 19 Tryz.f19 (λb=>([.d yc b],[])) (λx=>⟨.d .bool x,[],[]⟩) [au yc]
theorem aqJ(b)(k:K1 R):wA.A b k=aP (zP (AB b.1 b.2.1) 0) (aP (zP b.2.2.1 1) (k (wA.out (aad (imax (imax b.1 b.2.1) b.2.2.1) 1000))) (k (wA.out aV))) (k (wA.out aV)):=cW
theorem aqK:wA.Ok:=by
 intro b _;rw[aqJ];simp only[bG,BR,qR];by_cases a1:0<=AB b.1 b.2.1
 ·rw[ik a1,aj];by_cases a2:1<=b.2.2.1
  ·rw[ik a2,aj];by_cases a3:imax (imax b.1 b.2.1) b.2.2.1<=1000
   ·rw[p9 a3,eC ⟨a1,a2,a3⟩]
   ·rw[jO aq,eY (λe=>a3 e.2.2)]
  ·rw[eN aq,ao,eY (λe=>a2 e.2.1)]
 ·rw[eN aq,ao,eY (λe=>a1 e.1)]
theorem C2:wA.RS:=rE [.d yc] wA
def Gr:=wA.gr aqK
def akd:vY->Prop:=λ_=>True
def Ve:vY->Int:=λb=>ajk b
def FQ:Fs Tryz.prog akd bG Ve:=gf 48 Tryz.f48 (λb=>([.d yc b],[])) (λx=>⟨.d ti x,[],[]⟩) [au yc] [Gr]
theorem aqG(b)(k:K1 R):FQ.A b k=ax (wA.call b) λx1=>aP (!x1) (k (FQ.out 0)) (k (FQ.out (bT .i64 (bT .i64 (bT .i64 b.2.2.1 b.1) b.2.1) 1))):=cW
theorem aqH:FQ.Ok:=by
 intro b _;rw[aqG,C2 (d:=b) trivial];simp only[ag,bG,BR,bG,Ve,ajk];cases h:qR b with
 |false=>rfl
 |true=>
  obtain⟨⟨h1,h2⟩,⟨h3,h4⟩,h5,h6⟩:=Ud h;rw[bR,ao,eU (x:=b.2.2.1) aq aq,eU (x:=b.2.2.1+b.1) aq aq,eU aq aq];rfl
theorem ake:FQ.RS:=rE [.d yc] FQ
def aqI:=FQ.gr aqH
def aqM:vY->Prop:=λ_=>True
def QN:vY->Int:=λb=>mX b
def BS:Fs Tryz.prog aqM bG QN:=gf 14 Tryz.f14 (λb=>([.d yc b],[])) (λx=>⟨.d ti x,[],[]⟩) [au yc] [Gr,aqI]
theorem awK(b)(k:K1 R):BS.A b k=ax (wA.call b) λx1=>aP (!x1) (k (BS.out 0)) (ax (FQ.call b) λx2=>k (BS.out (bT .i64 x2 12))):=cW
theorem awL:BS.Ok:=by
 intro b _;rw[awK,C2 (d:=b) trivial];simp only[ag,bG,BR,bG,QN,mX];cases h:qR b with
 |false=>rfl
 |true=>
  obtain⟨⟨h1,h2⟩,⟨h3,h4⟩,h5,h6⟩:=Ud h;rw[bR,ao,ake (d:=b) trivial];simp only[ag,bG,Ve,ajk,h,cZ];rw[eU aq aq]
theorem NS:BS.RS:=rE [.d yc] BS
def Vf:=BS.gr awL
def Mg(x:eK)(h:Int):Bool:=decide (x.2.2.2.2.1<=h/\(x.2.2.2.2.2.1=0\/h < x.2.2.2.2.2.1))
def abZ(n:Int)(x:eK):Int:=if x.2.2.2.1≠0 then n+18+4 else n+18
def sX(l:List eK):Int:=if l.length=0 then 0 else l.foldl abZ 18
theorem ab0:∀(l:List eK) (n:Int),n+18*(l.length:Int)<=l.foldl abZ n/\l.foldl abZ n<=n+22*(l.length:Int)
 |[],n=>by simp
 |x::l,n=>by
  have h1:=ab0 l (abZ n x);have h2:n+18<=abZ n x/\abZ n x<=n+22:=by unfold abZ;split <;> omega
  rw[bJ,aB];omega
theorem wz(l:List eK):0<=sX l/\sX l<=18+22*(l.length:Int):=by unfold sX;have:=ab0 l 18;split <;> omega
def amr:(eK×Int)->Prop:=λ_=>True
def Jd:(eK×Int)->Bool:=λ(x,h)=>Mg x h
def alone:Fs Tryz.prog amr bG Jd:=gf 22 Tryz.f22 (λ(x,atv)=>([.d fp x,.d ti atv],[])) (λx=>⟨.d .bool x,[],[]⟩) [au fp,au ti]
theorem ard(x atv)(k:K1 R):alone.A (x,atv) k=aP (aad x.2.2.2.2.1 atv) (aP (Qw x.2.2.2.2.2.1 0) (k (alone.out aO)) (k (alone.out (iG atv x.2.2.2.2.2.1)))) (k (alone.out aV)):=cW
theorem are:alone.Ok:=by
 rintro⟨x,h⟩ _;rw[ard];simp only[bG,Jd,Mg];by_cases a1:x.2.2.2.2.1<=h
 ·rw[p9 a1,aj];by_cases a2:x.2.2.2.2.2.1=0
  ·rw[jV a2,aj,eC ⟨a1,.inl a2⟩]
  ·rw[gQ a2,ao];by_cases a3:h < x.2.2.2.2.2.1
   ·rw[bh a3,eC ⟨a1,.inr a3⟩]
   ·rw[aW a3,eY (λe=>e.2.elim a2 a3)]
 ·rw[jO a1,ao,eY (λe=>a1 e.1)]
theorem ams:alone.RS:=rE [.d fp,.d ti] alone
def arf:=alone.gr are
abbrev Jr:=Int×(List eK)×Int×Int
def Q8:Jr->Prop:=λ(n,l,m,i)=>(l).length<=1000000000/\∃k:Nat,k<=(l).length/\i=k/\m=(l).length/\(0<=n)/\(n<=18+22*(k:Int))
def wO:Jr->Int:=λ(n,l,m,i)=>(dr (ab i) l).foldl abZ n
def acP:(List eK)->Prop:=λl=>l.length<=1000000000
def tp:(List eK)->Int:=λl=>sX l
def kU:Ls Q8 bG wO:=wh (λ(n,t9,t10,t11)=>⟨([cj,cj,cj,.d ti n]++ba 5 ([.d (.slice fp) t9,.d ti t10,.d ti t11]++ba 12 [])),[],(ai 24 [])⟩) (λx=>(.exit 0,⟨([cj,cj,cj,.d ti x]++ba 20 []),[],(ai 24 [])⟩))
def lv:Fs Tryz.prog acP bG tp:=gf 15 Tryz.f15 (λl=>([.d (.slice fp) l],[])) (λx=>⟨.d ti x,[],[]⟩) [au (.slice fp)] [] {loops:=th [(5,{bz:=[3,9,10,11]})],outs:=tg [(5,{bz:=[3]},{bz:=[2]})],iE:=uA [(5,kU.E)]}
theorem Q9:kU.RS:=rL [.d ti,.d (.slice fp),.d ti,.d ti] kU
theorem C9(n t9 t10 t11)(kn:K2 R)(kx:K3 R):lv.R 0 kU (n,t9,t10,t11) kn kx=aP (iG t11 t10) (aP (iO t11 (t9.length:Int)) (aP (DF (nth fp t9 (ab t11)).2.2.2.1 0) (kn (kU.st ((bT .i64 (bT .i64 n 18) 4),t9,t10,(bT .i64 t11 1)))) (kn (kU.st ((bT .i64 n 18),t9,t10,(bT .i64 t11 1))))) aH) (kU.go kx n):=cW
theorem ahb(l)(k:K1 R):lv.A l k=aP (Qw (l.length:Int) 0) (k (lv.out 0)) (ax (kU.call (18,l,(l.length:Int),0)) λx1=>k (lv.out x1)):=cW
theorem Vz:(lv.mN 0 kU):=by
 refine(lv.px 0 kU) (λ(n,l,m,i)=>(l).length - ab i) ?_
 rintro⟨n,l,m,i⟩ ⟨hlen,k,hk,rfl,rfl,h1,h2⟩;have hlen:(l).length<=1000000000:=hlen;have hk:k<=(l).length:=hk;have h1:0<=n:=h1;have h2:n<=18+22*(k:Int):=h2;by_cases h:k < (l).length
 ·left;have n1:nth fp l k=l[k]:=db (t:=fp) h;have hd:dr k l=l[k]::dr (k+1) l:=aA h;refine⟨((abZ n l[k]),l,((l).length:Int),((k+1:Nat):Int)),⟨hlen,k+1,aq,rfl,rfl,by have:=(ab0 [l[k]] n).1;simp only[bJ,eB,aB,bw]at this;omega,by have:=(ab0 [l[k]] n).2;simp only[bJ,eB,aB,bw]at this;omega⟩,by simp only[aa];omega,?_,λkn kx=> ?_⟩
  ·simp only[bG,wO,aa,hd,bJ]
  ·rw[C9,bh aq,bB aq aq,aa,n1];simp only[aj];rw[N.pV aq,eU (x:=n) aq aq,eU (x:=n+18) aq aq];unfold abZ;by_cases hs:l[k].2.2.2.1=0
   ·rw[dX hs,ao,if_neg (λe=>e hs)]
   ·rw[fY hs,aj,if_pos hs]
 ·right;obtain rfl:k=(l).length:=aq;intro R kn kx;rw[C9,aW aq,ao];simp only[bG,wO,aa,bj,eB]
theorem ahc:lv.Ok:=by
 intro l (h:l.length<=1000000000);have z1:((0:Int)).toNat=0:=rfl;rw[ahb];simp only[bG,tp,sX];by_cases h0:l.length=0
 ·rw[jV aq,aj,if_pos h0]
 ·rw[gQ aq,ao,if_neg h0,Q9 (d:=(18,l,(l.length:Int),0)) ⟨h,0,aS _,rfl,rfl,eR,eR⟩];simp only[ag,bG,wO,z1,aN]
theorem zz:lv.RS:=rE [.d (.slice fp)] lv
def BY:=lv.gr ahc 1 ⟨.iB Vz,trivial⟩
abbrev BW:=Nat×Int×Int×dC×Int×Nat×(Int×(Int×(Int×(Int×Unit))))×dC×Int×(Int×(Int×(Int×(Int×Unit))))×(List rI)
def DM:BW->(List rI)->((dC×Int×Nat×(Int×(Int×(Int×(Int×Unit))))×dC×Int×(Int×(Int×(Int×(Int×Unit)))))×((List rI))):=λ(aqf,t17,t18,n1,Nb,ab6,Ip,n2,rF,qM,n9) y=>((n1,Nb,ab6,Ip,n2,rF,qM),y)
def Q0:BW->Prop:=λ(m,t,i,_,_,n,_,_,_,_,l)=>(l.length<=1000/\∀b∈l,b.1.length<=1000000)/\∃k:Nat,k<=l.length/\i=k/\n=l.length/\m=l.length/\t=l.length
def Jj:BW->(List rI):=λ(_,_,_,_,_,_,_,_,_,_,l)=>l
def acy:eK->Prop:=λx=>aD4 x.2.1.2.1
def FV:eK->eK:=λx=>x
def kT:Ls Q0 DM Jj:=wh (λ(aqf,t17,t18,n1,Nb,ab6,Ip,n2,rF,qM,n9)=>⟨([cj,fa 1,fa 2]++ba 13 ([lq 9 aqf,.d ti t17,.d ti t18]++ba 16 [])),[],([[],dz (.pr (.d cV n1) (.pr (.pr (.d ti Nb) (.pr (.pr (lq 9 ab6) oc) oc)) (.d (.pair ti (.pair tu (.pair ti (.pair ti .unit)))) Ip))),dz (.pr (.d cV n2) (.pr (.pr (.d ti rF) (.pr (.pr (.dd) oc) oc)) (.d (.pair ti (.pair tu (.pair ti (.pair ti .unit)))) qM)))]++bC 6 ([dz (.vec 121 pT n9)]++bC 25 []))⟩) (λx=>(.exit 0,⟨([cj,fa 1,fa 2]++ba 32 []),[],([[],dz (.pr (.d cV x.1.1) (.pr (.pr (.d ti x.1.2.1) (.pr (.pr (lq 9 x.1.2.2.1) oc) oc)) (.d (.pair ti (.pair tu (.pair ti (.pair ti .unit)))) x.1.2.2.2.1))),dz (.pr (.d cV x.1.2.2.2.2.1) (.pr (.pr (.d ti x.1.2.2.2.2.2.1) (.pr (.pr (.dd) oc) oc)) (.d (.pair ti (.pair tu (.pair ti (.pair ti .unit)))) x.1.2.2.2.2.2.2)))]++bC 6 ([dz (.vec 121 pT x.2)]++bC 25 []))⟩))
def rX:Fs Tryz.prog acy bG FV:=gf 23 Tryz.f23 (λx=>([.d fp x],[])) (λx=>⟨.d fp x,[],[]⟩) [au fp] [Zm,Gg] {bM:=[1],loops:=th [(3,{bz:=[1,2,16,17,18],sites:=[1,2,9]})],outs:=tg [(3,{bz:=[1,2],sites:=[1,2,9]},{bz:=[2]})],iE:=uA [(3,kT.E)],res:=[au fp]}
theorem Q1:kT.RS:=rL [.n,.d ti,.d ti,.d cV,.d ti,.n,.d (.pair ti (.pair tu (.pair ti (.pair ti .unit)))),.d cV,.d ti,.d (.pair ti (.pair tu (.pair ti (.pair ti .unit)))),.d (.slice pT)] kT
theorem C7(aqf t17 t18 n1 Nb ab6 Ip n2 rF qM n9)(kn:K2 R)(kx:K3 R):rX.R 0 kT (aqf,t17,t18,n1,Nb,ab6,Ip,n2,rF,qM,n9) kn kx=aP (iG t18 t17) (aP (iO t18 ((aqf:Nat):Int)) (aP (decide ((0+(ab t18)) < (ae n9))) (aP (decide ((((0+(ab t18))*4)+0)=(0+((ab t18)*4)))) (ax (wi.call (nth pT n9 (0+(ab t18))).1) λx1=>aP (iO t18 ((ab6:Nat):Int)) (aP (decide ((0+(ab t18)) < (ae n9))) (aP (decide ((((0+(ab t18))*4)+0)=((0+((ab t18)*4))+0))) (aP (decide ((0+(ab t18)) < (ae n9))) (kn (kT.st (aqf,t17,(bT .i64 t18 1),n1,Nb,ab6,Ip,n2,rF,qM,(fW n9 (0+(ab t18)) (x1,(nth pT n9 (0+(ab t18))).2))))) aH) aH) aH) aH) aH) aH) aH) (kT.go kx ((n1,Nb,ab6,Ip,n2,rF,qM),n9)):=cW
theorem agS(x)(k:K1 R):rX.A x k=ax (Re.call x.2.1.2.1.1) λx1=>ax (kT.call (x1.1,((x1.1:Nat):Int),0,x.1,x.2.1.1,x1.1,x.2.2,((ai 32 0),(0,())),0,(0,(0,(0,(0,())))),x1.2)) λx3=>aP (decide (0=0/\(0+x3.1.2.2.1)<=(ae x3.2))) (k (rX.out (x3.1.1,((x3.1.2.1,(((cut x3.2 0 x3.1.2.2.1),()),())),x3.1.2.2.2.1)))) aH:=cW
theorem Vr:(rX.mN 0 kT):=by
 refine(rX.px 0 kT) (λ(_,_,i,_,_,_,_,_,_,_,l)=>l.length - i.toNat) ?_
 rintro⟨m,t,i,a1,a2,n,a3,a4,a5,a6,l⟩ ⟨⟨hlen,hx⟩,k,hk,rfl,rfl,rfl,rfl⟩;have hlen:l.length<=1000:=hlen;have hk:k<=l.length:=hk;by_cases h:k < l.length
 ·left;have n1:nth pT l k=l[k]:=db (t:=pT) h;have hs:l.set k l[k]=l:=fJ h;have e:=hx _ (aZ h);refine⟨(l.length,(l.length:Int),((k+1:Nat):Int),a1,a2,l.length,a3,a4,a5,a6,l),⟨⟨hlen,hx⟩,k+1,aq,rfl,rfl,rfl,rfl⟩,by simp only[aa];omega,rfl,λkn kx=> ?_⟩;rw[C7,bh aq,bB aq aq];simp only[aa,aU,ct,aj,aM h,cQ,n1];rw[CD (d:=l[k].1) e];simp only[ag,bG,EU];rw[N.pV aq];exact bK (λz=>kn (kT.st (_,_,_,_,_,_,_,_,_,_,z))) hs
 ·right;obtain rfl:k=l.length:=aq;intro R kn kx;rw[C7,aW aq,ao];rfl
theorem agT:rX.Ok:=by rintro⟨a,⟨am,⟨l,u⟩,u2⟩,r⟩ ⟨h1,h2⟩;have h1:l.length<=1000:=h1;rw[agS,Rg (d:=l) (by show l.length<=_;omega)];simp only[ag,bG,Rf];rw[Q1 (d:=(l.length,(l.length:Int),0,a,am,l.length,r,(ai 32 0,0,()),0,(0,0,0,0,()),l)) ⟨⟨h1,h2⟩,0,aS _,rfl,rfl,rfl,rfl⟩];simp only[ag,DM,Jj,bG,FV];rw[aM ⟨trivial,aq⟩,aj,fA rfl]
theorem acz:rX.RS:=rE [.d fp] rX
def agU:=rX.gr agT 1 ⟨.iB Vr,trivial⟩
def Y9:(eK×eK)->Prop:=λ(x,y)=>x.1.1.length=32/\y.1.1.length=32
def QW:(eK×eK)->Int:=λ(x,y)=>HH x.1 y.1
def u9:Fs Tryz.prog Y9 bG QW:=gf 28 Tryz.f28 (λ(x,yv)=>([.d fp x,.d fp yv],[])) (λx=>⟨.d ti x,[],[]⟩) [au fp,au fp] [axa,ak9,ahr]
theorem acv(x yv)(k:K1 R):u9.A (x,yv) k=ax (agP.call ((cut x.1.1 0 32),(cut yv.1.1 0 32))) λx1=>ax (MV.call (x.1.2.1,yv.1.2.1)) λx2=>ax (akG.call [x1,x2]) λx3=>k (u9.out x3):=cW
theorem acw:u9.Ok:=by rintro⟨x,y⟩ ⟨h1,h2⟩;have h1:x.1.1.length=32:=h1;have h2:y.1.1.length=32:=h2;rw[acv,arl (d:=(cut x.1.1 0 32,cut y.1.1 0 32)) trivial,fA h1,fA h2];simp only[ag,bG,arj];rw[ad4 (d:=(x.1.2.1,y.1.2.1)) trivial];simp only[ag,bG,aab];rw[Zt (d:=[VB x.1.1 y.1.1,v7 x.1.2.1 y.1.2.1]) (by show 2<=_;decide)];rfl
theorem Jh:u9.RS:=rE [.d fp,.d fp] u9
def NV:=u9.gr acw
def yo(x y:eK):Int:=ay0 [v7 x.2.2.2.2.2.1 y.2.2.2.2.2.1,HH x.1 y.1]
def VD(x y:eK):Int:=HH x.1 y.1
def ag4:(eK×eK)->Prop:=λ(x,y)=>x.1.1.length=32/\y.1.1.length=32
def arB:(eK×eK)->Int:=λ(x,y)=>yo x y
def HB:Fs Tryz.prog ag4 bG arB:=gf 25 Tryz.f25 (λ(x,yv)=>([.d fp x,.d fp yv],[])) (λx=>⟨.d ti x,[],[]⟩) [au fp,au fp] [ak9,NV,ahr]
theorem amO(x yv)(k:K1 R):HB.A (x,yv) k=ax (MV.call (x.2.2.2.2.2.1,yv.2.2.2.2.2.1)) λx1=>ax (u9.call (x,yv)) λx2=>ax (akG.call [x1,x2]) λx3=>k (HB.out x3):=cW
theorem amP:HB.Ok:=by rintro⟨x,y⟩ h;rw[amO,ad4 (d:=(x.2.2.2.2.2.1,y.2.2.2.2.2.1)) trivial];simp only[ag,bG,aab];rw[Jh (d:=(x,y)) h];simp only[ag,bG,QW];rw[Zt (d:=[v7 x.2.2.2.2.2.1 y.2.2.2.2.2.1,HH x.1 y.1]) (by show 2<=_;decide)];rfl
theorem ag5:HB.RS:=rE [.d fp,.d fp] HB
def amQ:=HB.gr amP
def ab8(x:eK):Prop:=ab9 x.1
def zi(x:eK):List Int:=x.2.2.2.2.2.1::xp x.1
theorem qg{x:eK}(h:ab8 x):(zi x).length=34:=by unfold zi;rw[aB,ov h]
theorem sk{x y:eK}(hx:ab8 x)(hy:ab8 y):yo x y=lx (zi x) (zi y):=by
 unfold yo zi;rw[sj hx hy];simp only[ay0];by_cases h:x.2.2.2.2.2.1=y.2.2.2.2.2.1
 ·have e:v7 x.2.2.2.2.2.1 y.2.2.2.2.2.1=0:=by unfold v7;rw[if_neg aq,if_neg aq]
  rw[e,if_neg (λe=>e rfl),h,QE];split
  ·rfl
  ·rename_i h0;exact(Classical.not_not.1 h0).symm
 ·rw[Gd h];by_cases h1:x.2.2.2.2.2.1 < y.2.2.2.2.2.1
  ·have e:v7 x.2.2.2.2.2.1 y.2.2.2.2.2.1= -1:=by unfold v7;rw[if_pos h1]
   rw[e,if_pos h1,if_pos eR]
  ·have e:v7 x.2.2.2.2.2.1 y.2.2.2.2.2.1=1:=by unfold v7;rw[if_neg h1,if_pos aq]
   rw[e,if_neg h1,if_pos eR]
theorem Rn:aA8 Tryz.prog fp 28 ab8 VD:= {
 bS:=⟨u9.E,NV.h.1 (by rfl),λx y hx hy=>⟨_,Jh (d:=(x,y)) ⟨hx.1,hy.1⟩,rfl⟩⟩
 enters:=enters_of Tryz.func28 cW rfl
 irrefl:=λx hx=>acU hx
 trans:=λx y z hx hy hz=>ahm hx hy hz
 ntrans:=λx y z hx hy hz=>acV hx hy hz}
theorem MA:aA8 Tryz.prog fp 25 ab8 yo:= {
 bS:=⟨HB.E,amQ.h.1 (by rfl),λx y hx hy=>⟨_,ag5 (d:=(x,y)) ⟨hx.1,hy.1⟩,rfl⟩⟩
 enters:=enters_of Tryz.func25 cW rfl
 irrefl:=λx hx=>by rw[sk hx hx,aay];decide
 trans:=λx y z hx hy hz h1 h2=>by
  rw[sk hx hy]at h1;rw[sk hy hz]at h2;rw[sk hx hz];have:=EE (by rw[qg hx,qg hy]) (by rw[qg hy,qg hz]) (by omega:lx (zi x) (zi y)<=0) (by omega:lx (zi y) (zi z)<=0);have h3:=this.1;by_cases h4:lx (zi x) (zi z)=0
  ·have:=(this.2 h4).1;omega
  ·omega
 ntrans:=λx y z hx hy hz h1 h2=>by
  rw[sk hx hy]at h1;rw[sk hy hz]at h2;rw[sk hx hz];have e1:=Ct (zi x) (zi y);have e2:=Ct (zi y) (zi z);have e3:=Ct (zi x) (zi z);have:=(EE (by rw[qg hz,qg hy]) (by rw[qg hy,qg hx]) (by omega:lx (zi z) (zi y)<=0) (by omega:lx (zi y) (zi x)<=0)).1;omega}
theorem Oh{x y:eK}(hx:ab8 x)(hy:ab8 y)(h1:¬yo x y < 0)(h2:¬yo y x < 0):x.1=y.1:=by rw[sk hx hy]at h1;rw[sk hy hx,Ct]at h2;have:=atY (by rw[qg hx,qg hy]) (by omega:lx (zi x) (zi y)=0);exact aeR hx hy (List.cons.inj this).2
def aEe(g:Nat):List aF->Bool:=λvs=>match vs with | [_,.fn f _]=>ia f g | _=>aV
def aC4:Entry:=av3 28 40 fp ab8 VD
def YI:Nat×List eK->Option (Nat×List eK):=QL 28 40 fp ab8 VD
theorem av2{d:Nat×List eK}(h:NK (t:=fp) ab8 VD d):YI d=au (d.1,Gz (t:=fp) VD d.2):=abx h
def azR:SG Tryz.prog:=⟨24,aEe 28,aC4,.of (afW Tryz.av0 (by rfl) (λw=>Tryz.isAgg40 w) (λw=>Tryz.sizeOf40 w) Rn) (by rfl)⟩
def aC6:Entry:=av3 25 40 fp ab8 yo
def YJ:Nat×List eK->Option (Nat×List eK):=QL 25 40 fp ab8 yo
theorem av4{d:Nat×List eK}(h:NK (t:=fp) ab8 yo d):YJ d=au (d.1,Gz (t:=fp) yo d.2):=abx h
def azS:SG Tryz.prog:=⟨24,aEe 25,aC6,.of (afW Tryz.av0 (by rfl) (λw=>Tryz.isAgg40 w) (λw=>Tryz.sizeOf40 w) MA) (by rfl)⟩
abbrev An:=(List eK)×Int×Int×vY×iI
def qi:An->iI->((vY)×(iI)):=λ(t12,t13,t14,n2,n3) y=>(n2,y)
def aj9(u:Int)(x:eK):Int:=if x.2.2.2.2.2.1≠0/\(u=0\/x.2.2.2.2.2.1 < u) then x.2.2.2.2.2.1 else u
def aHW(l:List eK):Int:=l.foldl aj9 0
def gA(l:List eK):iI:=(l,(sX l,(sX l,(aHW l,()))))
def ax3(g:iI)(x:eK):iI:=(g.1,(g.2.1,(g.2.2.1,(aj9 g.2.2.2.1 x,g.2.2.2.2))))
theorem XJ:∀(l:List eK) (g:iI),l.foldl ax3 g=(g.1,(g.2.1,(g.2.2.1,(l.foldl aj9 g.2.2.2.1,g.2.2.2.2))))
 |[],g=>rfl
 |x::l,g=>by rw[bJ,XJ l];rfl
def PX:An->Prop:=λ(l,n,i,z,g)=>(l).length<=1000000000/\∃k:Nat,k<=(l).length/\i=k/\n=(l).length
def uc:An->iI:=λ(l,n,i,z,g)=>(dr (ab i) l).foldl ax3 g
def Za:(List eK)->Prop:=λl=>l.length<=1000000000
def Hy:(List eK)->iI:=λl=>gA l
def iw:Ls PX qi uc:=wh (λ(t12,t13,t14,n2,n3)=>⟨([cj,cj,fa 2,fa 3]++ba 8 ([.d (.slice fp) t12,.d ti t13,.d ti t14]++ba 23 [])),[],([[],[],dz (.pr (.dd) (.d yc n2)),dz (.d ir n3)]++bC 34 [])⟩) (λx=>(.exit 0,⟨([cj,cj,fa 2,fa 3]++ba 34 []),[],([[],[],dz (.pr (.dd) (.d yc x.1)),dz (.d ir x.2)]++bC 34 [])⟩))
def nT:Fs Tryz.prog Za bG Hy:=gf 29 Tryz.f29 (λl=>([.d (.slice fp) l],[])) (λx=>⟨.d ir x,[],[]⟩) [au (.slice fp)] [BY] {loops:=th [(3,{bz:=[2,3,12,13,14],sites:=[2,3]})],outs:=tg [(3,{bz:=[2,3],sites:=[2,3]},{bz:=[2]})],iE:=uA [(3,iw.E)]}
theorem PY:iw.RS:=rL [.d (.slice fp),.d ti,.d ti,.d yc,.d ir] iw
theorem Bc(t12 t13 t14 n2 n3)(kn:K2 R)(kx:K3 R):nT.R 0 iw (t12,t13,t14,n2,n3) kn kx=aP (iG t14 t13) (aP (iO t14 (t12.length:Int)) (aP (DF (nth fp t12 (ab t14)).2.2.2.2.2.1 0) (aP (Qw n3.2.2.2.1 0) (kn (iw.st (t12,t13,(bT .i64 t14 1),n2,(n3.1,(n3.2.1,(n3.2.2.1,((nth fp t12 (ab t14)).2.2.2.2.2.1,n3.2.2.2.2))))))) (aP (iG (nth fp t12 (ab t14)).2.2.2.2.2.1 n3.2.2.2.1) (kn (iw.st (t12,t13,(bT .i64 t14 1),n2,(n3.1,(n3.2.1,(n3.2.2.1,((nth fp t12 (ab t14)).2.2.2.2.2.1,n3.2.2.2.2))))))) (kn (iw.st (t12,t13,(bT .i64 t14 1),n2,n3))))) (kn (iw.st (t12,t13,(bT .i64 t14 1),n2,n3)))) aH) (iw.go kx (n2,n3)):=cW
theorem acC(l)(k:K1 R):nT.A l k=ax (lv.call l) λx1=>ax (lv.call l) λx2=>ax (iw.call (l,(l.length:Int),0,(0,(0,(0,()))),(l,(x1,(x2,(0,())))))) λx3=>k (nT.out x3.2):=cW
theorem Q4:(nT.mN 0 iw):=by
 refine(nT.px 0 iw) (λ(l,n,i,z,g)=>(l).length - ab i) ?_
 rintro⟨l,n,i,z,g⟩ ⟨hlen,k,hk,rfl,rfl⟩;have hlen:(l).length<=1000000000:=hlen;have hk:k<=(l).length:=hk;by_cases h:k < (l).length
 ·left;have n1:nth fp l k=l[k]:=db (t:=fp) h;have hd:dr k l=l[k]::dr (k+1) l:=aA h;refine⟨(l,((l).length:Int),((k+1:Nat):Int),z,(ax3 g l[k])),⟨hlen,k+1,aq,rfl,rfl⟩,by simp only[aa];omega,?_,λkn kx=> ?_⟩
  ·simp only[qi,uc,aa,hd,bJ]
  ·rw[Bc,bh aq,bB aq aq,aa,n1];simp only[aj];rw[N.pV aq];unfold ax3 aj9;by_cases h1:l[k].2.2.2.2.2.1=0
   ·rw[dX h1,ao,if_neg (λe=>e.1 h1)]
   ·rw[fY h1,aj];by_cases h2:g.2.2.2.1=0
    ·rw[jV h2,aj,if_pos ⟨h1,.inl h2⟩]
    ·rw[gQ h2,ao];by_cases h3:l[k].2.2.2.2.2.1 < g.2.2.2.1
     ·rw[bh h3,aj,if_pos ⟨h1,.inr h3⟩]
     ·rw[aW h3,ao,if_neg (λe=>e.2.elim h2 h3)]
 ·right;obtain rfl:k=(l).length:=aq;intro R kn kx;rw[Bc,aW aq,ao];simp only[qi,uc,aa,bj,eB]
theorem acD:nT.Ok:=by intro l (h:l.length<=1000000000);have z1:((0:Int)).toNat=0:=rfl;rw[acC,zz (d:=l) h];simp only[ag,bG,tp];rw[PY (d:=(l,(l.length:Int),0,(0,(0,(0,()))),(l,(sX l,(sX l,(0,())))))) ⟨h,0,aS _,rfl,rfl⟩];simp only[ag,qi,uc,z1,aN,XJ];rfl
theorem Jm:nT.RS:=rE [.d (.slice fp)] nT
def NX:=nT.gr acD 1 ⟨.iB Q4,trivial⟩
section
def ako(x:eK):Bool:=decide (0<=x.2.1.1/\x.2.1.1<=1099511627776)
def y8:List (dC×Bool)->List eK->Bool
 |_,[]=>aO
 |m,x::l=>if((cE cV x.1 m).getD aV)=aO then aV else if ako x=aO then y8 (eM cV x.1 aO m) l else aV
def Nx(l:List eK):Bool:=decide (l.length<=64) && y8 [] l
theorem Ue:∀(l:List eK) (m:List (dC×Bool)),y8 m l=aO↔(l.map (·.1)).Nodup/\(∀x∈l,(cE cV x.1 m).getD aV=aV)/\∀x∈l,ako x=aO
 |[],m=>by simp[y8]
 |x::l,m=>by
  have ih:=Ue l (eM cV x.1 aO m);have hg:∀y:eK,(cE cV y.1 (eM cV x.1 aO m)).getD aV=if y.1=x.1 then aO else(cE cV y.1 m).getD aV:=λy=>by
   rw[J0 (kt:=cV) iM];by_cases e:y.1=x.1
   ·rw[if_pos ((Bb _ _).2 e),if_pos e];rfl
   ·rw[if_neg (λh=>e ((Bb _ _).1 h)),if_neg e]
  simp only[y8,bn,df,bA,forall_eq_or_imp];by_cases h1:(cE cV x.1 m).getD aV=aO
  ·rw[if_pos h1];refine⟨λh=>(by cases h),λh=> ?_⟩;rw[h.2.1.1]at h1;cases h1
  ·rw[if_neg h1];have h1':(cE cV x.1 m).getD aV=aV:=by simpa using h1
   by_cases h2:ako x=aO
   ·rw[if_pos h2,ih];constructor
    ·rintro⟨a1,a2,a3⟩;have hx:∀y∈l,y.1≠x.1:=λy hy e=>by have:=a2 y hy;rw[hg,if_pos e]at this;cases this
     refine⟨⟨λhm=> ?_,a1⟩,⟨h1',λy hy=> ?_⟩,h2,a3⟩
     ·obtain⟨y,hy,e⟩:=cr.1 hm;exact hx y hy e
     ·have:=a2 y hy;rwa[hg,if_neg (hx y hy)]at this
    ·rintro⟨⟨b0,b1⟩,⟨_,b2⟩,_,b3⟩;refine⟨b1,λy hy=> ?_,b3⟩;rw[hg,if_neg (λe=>b0 (by rw[<-e];exact dV hy))];exact b2 y hy
   ·rw[if_neg h2];exact⟨λh=>(by cases h),λh=>absurd h.2.2.1 h2⟩
theorem IL(l:List eK):Nx l=aO↔l.length<=64/\(l.map (·.1)).Nodup/\∀x∈l,0<=x.2.1.1/\x.2.1.1<=1099511627776:=by unfold Nx;rw[al,aR,Ue];refine and_congr Iff.rfl ⟨λh=>⟨h.1,λx hx=>of_decide_eq_true (h.2.2 x hx)⟩,λh=>⟨h.1,λx _=>rfl,λx hx=>eC (h.2 x hx)⟩⟩
abbrev vg:=(List eK)×Int×Int×(List (dC×Bool))
def o8:vg->AS:=λ(t10,t11,t12,n9)=>⟨([cj,cj,cj,.dM (.new 9 0) 0]++ba 6 ([.d (.slice fp) t10,.d ti t11,.d ti t12]++ba 23 [])),[],(bC 9 ([dz (.mp cV .bool n9)]++bC 26 []))⟩
def iX:Unit->Exit×AS:=λx=>(.ret,⟨([cj,cj,.d .bool aV]++ba 33 []),[],(ai 36 [])⟩)
def uj:Unit->Exit×AS:=λx=>(.exit 0,⟨(ba 36 []),[],(ai 36 [])⟩)
abbrev D1:=(Unit)⊕(Unit)
abbrev Oa:=(Unit)⊕(Unit)
def Ar:D1->Out (Exit×AS):=λx=> .br x.isLeft (.get x.getLeft? λa=> .ok (iX a)) (.get x.getRight? λb=> .ok (uj b))
def iW:vg->Oa->D1:=λ(t10,t11,t12,n9) y=>match y with | .inl y=> .inl y | .inr z=> .inr (z)
def ui:vg->Prop:=λ(l,n,i,_)=>l.length<=64/\n=(l.length:Int)/\∃k:Nat,k<=l.length/\i=k
def kr:vg->Oa:=λ(l,_,i,m)=>if y8 m (l.drop i.toNat)=aO then .inr () else .inl ()
def ag8:(List eK)->Prop:=λ_=>True
def Q7:(List eK)->Bool:=λl=>Nx l
def N8:=eA.iB o8 ui iW kr Ar
def D3:vg->Option D1:=lg N8 o8
def tn:Fs Tryz.prog ag8 bG Q7:=gf 20 Tryz.f20 (λl=>([.d (.slice fp) l],[])) (λx=>⟨.d .bool x,[],[]⟩) [au (.slice fp)] [] {loops:=th [(5,{bz:=[3,10,11,12],sites:=[9]})],outs:=tg [(5,{},{bz:=[2]})],iE:=uA [(5,N8)]}
def N9:= @gw Tryz.prog (pS tn.G) tn.an 0 Tryz.f20 0 _ o8
abbrev Jq:=qu Tryz.prog (pS tn.G) tn.an 0 Tryz.f20 0 o8 ui iW kr Ar
theorem Vy:nK D3 ui iW kr:=tR (sy [.d (.slice fp),.d ti,.d ti,.d (.slice (.pair cV .bool))] λ_=>cW)
theorem HC:yd @N9 o8 ui iW kr Ar Jq:=zr
theorem sa(t10 t11 t12 n9)(kn:K2 R)(kx:K3 R):N9 (t10,t11,t12,n9) kn kx=aP (iG t12 t11) (aP (iO t12 (((ae t10):Nat):Int)) (aP ((cE cV (nth fp t10 (ab t12)).1 n9).getD aV) (kx (iX ()).1 (iX ()).2) (aP (iG (nth fp t10 (ab t12)).2.1.1 (0:Int)) (kx (iX ()).1 (iX ()).2) (aP (wC (nth fp t10 (ab t12)).2.1.1 (1099511627776:Int)) (kx (iX ()).1 (iX ()).2) (kn (o8 (t10,t11,(bT .i64 t12 (1:Int)),(eM cV (nth fp t10 (ab t12)).1 aO n9))))))) aH) (kx (uj ()).1 (uj ()).2):=cW
theorem amV(l)(k:K1 R):tn.A l k=aP (wC (l.length:Int) 64) (k (tn.out aV)) (ax (D3 (l,(l.length:Int),0,([]:List (dC×Bool)))) λx1=>aP x1.isLeft (ax x1.getLeft? λa2=>k (tn.out aV)) (ax x1.getRight? λb3=>k (tn.out aO))):=cW
theorem Zi:Jq:=by
 refine HC (λ(l,_,i,_)=>l.length - i.toNat) ?_
 rintro⟨l,n,i,m⟩ ⟨hl,rfl,k,hk,rfl⟩;have hl:l.length<=64:=hl;have hk:k<=l.length:=hk;by_cases h:k < l.length
 ·have n1:nth fp l k=l[k]:=db (t:=fp) h;have hd:l.drop k=l[k]::l.drop (k+1):=aA h;by_cases h1:(cE cV l[k].1 m).getD aV=aO
  ·right;refine⟨iX (),?_,λkn kx=> ?_⟩
   ·simp only[iW,kr,aa,hd,y8,if_pos h1,cd,cK];rfl
   ·rw[sa,bh aq,aj,bB aq aq,aj,aa,n1,h1,aj]
  ·have h1':(cE cV l[k].1 m).getD aV=aV:=by simpa using h1
   by_cases h2:ako l[k]=aO
   ·left;have h3:=of_decide_eq_true h2;refine⟨(l,(l.length:Int),((k+1:Nat):Int),eM cV l[k].1 aO m),⟨hl,rfl,k+1,aq,rfl⟩,by simp only[aa];omega,?_,λkn kx=> ?_⟩
    ·simp only[iW,kr,aa,hd,y8,if_neg h1,if_pos h2]
    ·rw[sa,bh aq,aj,bB aq aq,aj,aa,n1,h1',ao,aW aq,ao,cY aq,ao,N.pV aq]
   ·right;refine⟨iX (),?_,λkn kx=> ?_⟩
    ·simp only[iW,kr,aa,hd,y8,if_neg h1,if_neg h2,cd,cK];rfl
    ·rw[sa,bh aq,aj,bB aq aq,aj,aa,n1,h1',ao];by_cases h3:l[k].2.1.1 < 0
     ·rw[bh h3,aj]
     ·rw[aW h3,ao,dy,aj];refine Classical.byContradiction λh4=>h2 (eC ⟨aq,aq⟩)
 ·right;obtain rfl:k=l.length:=aq;refine⟨uj (),?_,λkn kx=> ?_⟩
  ·simp only[iW,kr,aa,bj,y8,cZ];rfl
  ·rw[sa,aW aq,ao]
theorem amW:tn.Ok:=by
 intro l _;have z1:((0:Int)).toNat=0:=rfl;rw[amV];simp only[bG,Q7,Nx];by_cases h:l.length<=64
 ·rw[cY aq,ao,Vy (d:=(l,(l.length:Int),0,[])) ⟨h,rfl,0,aS _,rfl⟩,aM h];simp only[ag,iW,kr,z1,aN];cases y8 [] l <;> rfl
 ·rw[dy aq,aj,cz h];rfl
theorem ag9:tn.RS:=rE [.d (.slice fp)] tn
def amX:=tn.gr amW 1 ⟨.iB Zi,trivial⟩
def mR(h:Int)(x:eK):Bool:=Mg x h && !decide (x.2.1.1 < sX [x])
def lO(b:vY)(h:Int)(x:eK):Bool:=decide (x.2.2.2.2.2.1≠0/\x.2.2.2.2.2.1 - h<=2*mX b)
def ag2:(eK×Int×vY)->Prop:=λ(x,h,_)=>(1<=h/\h<=1048576)/\(x.2.2.2.2.2.1=0\/h < x.2.2.2.2.2.1)/\x.2.2.2.2.2.1<=9223372036854775807
def Jo:(eK×Int×vY)->Bool:=λ(x,h,b)=>lO b h x
def DR:Fs Tryz.prog ag2 bG Jo:=gf 21 Tryz.f21 (λ(x,t1,t2)=>([.d fp x,.eG ti t1,.eG yc t2],[])) (λx=>⟨.d .bool x,[],[]⟩) [au fp,aH,aH] [Vf]
theorem amL(x t1 t2)(k:K1 R):DR.A (x,t1,t2) k=aP (DF x.2.2.2.2.2.1 0) (ax (BS.call t2) λx1=>k (DR.out (aad (ed .i64 x.2.2.2.2.2.1 t1) (iT .i64 2 x1)))) (k (DR.out aV)):=cW
theorem amM:DR.Ok:=by
 rintro⟨x,h,b⟩ ⟨⟨h1,h2⟩,h3,h4⟩;have h3:x.2.2.2.2.2.1=0\/h < x.2.2.2.2.2.1:=h3;have h4:x.2.2.2.2.2.1<=9223372036854775807:=h4;have h1:1<=h:=h1;have hs:=abu b;rw[amL];simp only[bG,Jo,lO];by_cases a1:x.2.2.2.2.2.1=0
 ·rw[dX a1,ao,eY (λe=>e.1 a1)]
 ·rw[fY a1,aj,NS (d:=b) trivial];simp only[ag,bG,QN];rw[eV aq aq,Bx aq aq];by_cases a2:x.2.2.2.2.2.1 - h<=2*mX b
  ·rw[p9 a2,eC ⟨a1,a2⟩]
  ·rw[jO a2,eY (λe=>a2 e.2)]
theorem ag3:DR.RS:=rE [.d fp,.d ti,.d yc] DR
def amN:=DR.gr amM
abbrev QU:=(List eK)×Int
def QV:QU->Unit->((List eK)×Int):=λ(sv,n) y=>(sv,n)
def agN:QU->Prop:=λ(_,n)=>1<=n
def acs:QU->Unit:=λ_=>()
def Hx:Fs Tryz.prog agN QV acs:=gf 30 Tryz.f30 (λ(sv,n)=>([.d (.slice fp) sv,.d ti n],[])) (λx=>⟨.fn 60 (.cons (.ptr (.new 0 0) 0 [] 0) (.cons (.ptr (.new 0 1) 0 [] 0) (.nil))),[],[.obj 0 aV (.d (.slice fp) x.1),.obj 0 aV (.d ti x.2)]⟩) [au (.slice fp),au ti] [] {bM:=[2,3]}
theorem amw(sv n)(k:K1 R):Hx.A (sv,n) k=aP (iG n 1) (aH) (k (Hx.out (sv,n))):=cW
theorem amx:Hx.Ok:=by rintro⟨l,n⟩ h;have h:1<=n:=h;rw[amw,aW aq,ao];rfl
theorem agO:Hx.RS:=rE [.d (.slice fp),.d ti] Hx
def amy:=Hx.gr amx
abbrev alR:=(List eK)×Nat×(List iI)
def apk:alR->Prop:=λ(c,n,l)=>c.length<=1000000/\n=l.length/\n<=1000000
def alS:alR->(Nat×(List iI)):=λ(c,n,l)=>(n+1,l++ [gA c])
noncomputable def TV:Fs Tryz.prog apk bG alS:=gf 4294967408 (aA2 Tryz.prog 4294967408) (λ(t106,o1L,o2)=>(([.yl (.bF 0) 0,.d (.slice fp) t106]++ba 15 ([.ptr (.bF 1) 0 [] 0]++ba 154 [])),[.obj 0 aV (.uN (CN Tryz.prog 4294967408) (yp (ba 15 ([.ptr (.bF 1) 0 [] 0]++ba 154 []))) 0),.obj 0 aV (.cM (.bF 2) 0 [] 0 0 o1L),.obj 0 aV (.vec 52 ir o2)])) (λx=>⟨.d .bool aO,[.obj 0 aV (.uN (CN Tryz.prog 4294967408) (yp (ba 15 ([.ptr (.bF 1) 0 [] 0]++ba 154 []))) 0),.obj 0 aV (.cM (.bF 2) 1 [] 0 0 x.1),.obj 1 aV (.vec 52 ir x.2)],[]⟩) [aH,aH,aH,aH,aH,aH,aH,aH,aH,aH,aH,aH,aH,aH,aH,aH,aH,aH,aH,aH,aH,aH,aH,aH,aH,aH,aH,aH,aH,aH,aH,aH,aH,aH,aH,aH,aH,aH,aH,aH,aH,aH,aH,aH,aH,aH,aH,aH,aH,aH,aH,aH,aH,aH,aH,aH,aH,aH,aH,aH,aH,aH,aH,aH,aH,aH,aH,aH,aH,aH,aH,aH,aH,aH,aH,aH,aH,aH,aH,aH,aH,aH,aH,aH,aH,aH,aH,aH,aH,aH,aH,aH,aH,aH,aH,aH,aH,aH,aH,aH,aH,aH,aH,aH,aH,aH,aH,aH,aH,aH,aH,aH,aH,aH,aH,aH,aH,aH,aH,aH,aH,aH,aH,aH,aH,aH,aH,aH,aH,aH,aH,aH,aH,aH,aH,aH,aH,aH,aH,aH,aH,aH,aH,aH,aH,aH,aH,aH,aH,aH,aH,aH,aH,aH,aH,aH,aH,aH,aH,aH,aH,aH,aH,aH,aH,aH,aH,aH,aH,aH,aH,aH] [NX] {px:=au 4294967408}
theorem au3(t106 o1L o2)(k:K1 R):TV.A (t106,o1L,o2) k=ax (nT.call t106) λx1=>aP (decide (o1L<=(ae o2))) (aP (dI (o1L+1) 48) (k (TV.out ((o1L+1),((bk o1L o2)++ [x1])))) aH) aH:=cW
theorem au4:TV.Ok:=by rintro⟨c,n,l⟩ ⟨h1,rfl,h2⟩;have h1:c.length<=1000000:=h1;have h2:l.length<=1000000:=h2;rw[au3,Jm (d:=c) (by show c.length<=_;omega)];simp only[ag,bG,Hy];rw[aM (aC _),aj,dN aq aq,aj,bU];rfl
theorem apl:TV.RS:=rE [.d (.slice fp),.n,.d (.slice ir)] TV
def au5:=TV.aJV au4
abbrev Mf:=Int×Nat×(List iI)×(List eK)×Int
abbrev WV:=Nat×(List iI)
def zs:Mf->WV->(((List eK)×Int)×(Nat×(List iI))):=λ(i,wE,gq,gm,Iv) y=>((gm,Iv),y)
abbrev aq9:=Nat×(List iI)×(List eK)×Int
def HE{α:Type}(n:Nat):Nat->List α->List (List α)
 | 0,_=> []
 |_+1,[]=> []
 |f+1,x::l=>(x::l).take n::HE n f ((x::l).drop n)
theorem Og{α:Type}{n:Nat}(hn:1<=n):∀(f f':Nat) (l:List α),l.length<=f->l.length<=f'->HE n f l=HE n f' l
 | 0,f',l,h,_=>by obtain rfl:=bm (Nat.le_zero.1 h);cases f' <;> rfl
 |f+1,0,l,_,h=>by obtain rfl:=bm (Nat.le_zero.1 h);rfl
 |f+1,f'+1,[],_,_=>rfl
 |f+1,f'+1,x::l,h,h'=>by
  rw[aB]at h h';have e:((x::l).drop n).length<=l.length:=by rw[cv,aB];omega
  rw[HE,HE,Og hn f f' _ aq aq]
def jj{α:Type}(l:List α):List (List α):=HE 8 l.length l
theorem D5{α:Type}{l:List α}(h:0 < l.length):jj l=l.take 8::jj (l.drop 8):=by
 cases l with
 |nil=>cases h
 |cons x l=>
  unfold jj;rw[aB,HE];congr 1;refine Og eR _ _ _ ?_ (aC _)
  rw[cv,aB];omega
theorem ahg{α:Type}:jj ([]:List α)=[]:=rfl
def acf:Mf->Prop:=λ(i,n,o2,l,c)=>c=8/\l.length<=1000/\n=o2.length/\∃k:Nat,i=k/\k<=l.length+8/\n<=1000+k
def FR:Mf->WV:=λ(i,n,o2,l,_)=>(n+(jj (l.drop i.toNat)).length,o2++(jj (l.drop i.toNat)).map gA)
def arb:aq9->Prop:=λ(n,o2,l,c)=>c=8/\l.length<=1000/\n=o2.length/\n<=1000
def ara:aq9->(Nat×(List iI)×(List eK)×Int):=λ(n,o2,l,c)=>(n+(jj l).length,o2++(jj l).map gA,l,c)
noncomputable def wH:Ls acf zs FR:=wh (λ(i,wE,gq,gm,Iv)=>⟨([.yl (.bF 0) 0,.ptr (.bF 3) 0 [] 0,.ptr (.bF 4) 0 [] 0,cj,.d ti i]++ba 26 []),[eL (.uN (CN Tryz.prog 4294967408) (yp (ba 15 ([.ptr (.bF 1) 0 [] 0]++ba 154 []))) 0),eL (.cM (.bF 2) 1 [] 0 0 wE),.obj 1 aV (.vec 52 ir gq),eL (.d (.slice fp) gm),eL (.d ti Iv)],(ai 31 [])⟩) (λx=>(.exit 0,⟨(ba 31 []),[eL (.uN (CN Tryz.prog 4294967408) (yp (ba 15 ([.ptr (.bF 1) 0 [] 0]++ba 154 []))) 0),eL (.cM (.bF 2) 1 [] 0 0 x.2.1),.obj 1 aV (.vec 52 ir x.2.2),eL (.d (.slice fp) x.1.1),eL (.d ti x.1.2)],(ai 31 [])⟩))
noncomputable def Vo:Fs Tryz.prog arb bG ara:=gf 60 Tryz.f60 (λ(o1L,o2,o3,o4)=>([.yl (.bF 0) 0,.ptr (.bF 3) 0 [] 0,.ptr (.bF 4) 0 [] 0],[.obj 0 aV (.uN (CN Tryz.prog 4294967408) (yp (ba 15 ([.ptr (.bF 1) 0 [] 0]++ba 154 []))) 0),.obj 0 aV (.cM (.bF 2) 0 [] 0 0 o1L),.obj 0 aV (.vec 52 ir o2),.obj 0 aV (.d (.slice fp) o3),.obj 0 aV (.d ti o4)])) (λx=>⟨.nil,[.obj 0 aV (.uN (CN Tryz.prog 4294967408) (yp (ba 15 ([.ptr (.bF 1) 0 [] 0]++ba 154 []))) 0),.obj 0 aV (.cM (.bF 2) 1 [] 0 0 x.1),.obj 1 aV (.vec 52 ir x.2.1),.obj 0 aV (.d (.slice fp) x.2.2.1),.obj 0 aV (.d ti x.2.2.2)],[]⟩) [aH,aH,aH] [au5] {loops:=th [(1,{bz:=[0,1,2,4],aBl:=[(2,1)]})],outs:=tg [(1,{aBl:=[(2,1)]},{aBl:=[(2,1)]})],iE:=uA [(1,wH.E)]}
theorem acg:wH.RS:=rL [.d ti,.n,.d (.slice ir),.d (.slice fp),.d ti] wH
theorem Jc(i wE gq gm Iv)(kn:K2 R)(kx:K3 R):Vo.R 0 wH (i,wE,gq,gm,Iv) kn kx=aP (iG i (gm.length:Int)) (aP (inc i (gm.length:Int)) (aP (decide (0<=(bT .i64 i (AB Iv (((ae (cut gm (ab i) ((ae gm) - (ab i)))):Nat):Int)))/\(bT .i64 i (AB Iv (((ae (cut gm (ab i) ((ae gm) - (ab i)))):Nat):Int)))<=(bT .i64 i (AB Iv (((ae (cut gm (ab i) ((ae gm) - (ab i)))):Nat):Int)))/\(bT .i64 i (AB Iv (((ae (cut gm (ab i) ((ae gm) - (ab i)))):Nat):Int)))<=(gm.length:Int))) (aP (inc (bT .i64 i (AB Iv (((ae (cut gm (ab i) ((ae gm) - (ab i)))):Nat):Int))) (gm.length:Int)) (aP (inc i (((ab (bT .i64 i (AB Iv (((ae (cut gm (ab i) ((ae gm) - (ab i)))):Nat):Int)))):Nat):Int)) (same (CN Tryz.prog 4294967408) (CN Tryz.prog 4294967408) (ax (TV.call ((cut gm (ab i) ((ab (bT .i64 i (AB Iv (((ae (cut gm (ab i) ((ae gm) - (ab i)))):Nat):Int)))) - (ab i))),wE,gq)) λx1=>kn (wH.st ((bT .i64 i Iv),x1.1,x1.2,gm,Iv)))) aH) aH) aH) aH) (wH.go kx ((gm,Iv),(wE,gq))):=cW
theorem aw4(o1L o2 o3 o4)(k:K1 R):Vo.A (o1L,o2,o3,o4) k=ax (wH.call (0,o1L,o2,o3,o4)) λx2=>k (Vo.out (x2.2.1,x2.2.2,x2.1.1,x2.1.2)):=cW
theorem agK:(Vo.mN 0 wH):=by
 refine(Vo.px 0 wH) (λ(i,_,_,l,_)=>l.length+8 - i.toNat) ?_
 rintro⟨i,n,o2,l,c⟩ ⟨rfl,hl,rfl,k,rfl,hk,hn⟩;have hl:l.length<=1000:=hl;have hk:k<=l.length+8:=hk;have hn:o2.length<=1000+k:=hn;by_cases h:k < l.length
 ·left;have e1:(((cut l k (l.length - k)).length:Nat):Int)=(l.length:Int) - k:=by rw[yx aq];omega
  obtain⟨m,hm,awS⟩:∃m:Nat,AB 8 ((l.length:Int) - k)=(m:Int)/\m=min 8 (l.length - k):=⟨min 8 (l.length - k),by unfold AB;split <;> omega,rfl⟩;have e2:bT .i64 (k:Int) (m:Int)=((k+m:Nat):Int):=by rw[eU aq aq];omega
  have ec:cut l k m=(l.drop k).take 8:=by unfold cut;rw[awS,<-jU,bH (l:=l.drop k) (i:=l.length - k) (by rw[cv];exact aC _)]
  have hd:=D5 (l:=l.drop k) (by rw[cv];omega);rw[fU]at hd;refine⟨(((k+8:Nat):Int),o2.length+1,o2++ [gA ((l.drop k).take 8)],l,8),⟨rfl,hl,by simp,k+8,rfl,aq,by show o2.length+1<=_;omega⟩,by simp only[aa];omega,?_,λkn kx=> ?_⟩
  ·simp only[zs,FR,aa,hd,aB,bn,aK,cC];rw[show o2.length+1+(jj (l.drop (k+8))).length=o2.length+((jj (l.drop (k+8))).length+1) by omega]
  ·rw[Jc,bh aq,aj,lJ aq aq,aj];simp only[aa,e1,hm,e2];rw[aM ⟨aq,dp _,aq⟩,aj,lJ aq aq,aj,lJ aq aq,aj,apY,jf,ec];rw[apl (d:=((l.drop k).take 8,o2.length,o2)) ⟨by show((l.drop k).take 8).length<=_;rw[bZ,cv];omega,rfl,by show o2.length<=_;omega⟩];simp only[ag,bG,alS];rw[show bT .i64 (k:Int) 8=((k+8:Nat):Int) by rw[eU aq aq];omega]
 ·right;have e0:l.drop k=[]:=List.drop_eq_nil_of_le aq;intro R kn kx;rw[Jc,aW aq,ao];simp only[zs,FR,aa,e0,ahg,bw,ct,eF,bo]
theorem aw5:Vo.Ok:=by rintro⟨n,o2,l,c⟩ ⟨rfl,hl,rfl,hn⟩;have hl:l.length<=1000:=hl;have hn:o2.length<=1000:=hn;have z1:((0:Int)).toNat=0:=rfl;rw[aw4,acg (d:=(0,o2.length,o2,l,8)) ⟨rfl,hl,rfl,0,rfl,aq,aq⟩];simp only[ag,zs,FR,z1,aN];rfl
theorem arc:Vo.RS:=rE [.n,.d (.slice ir),.d (.slice fp),.d ti] Vo
def aw6:=Vo.gr aw5 1 ⟨.iB agK,trivial⟩
abbrev E1:=Int×Int×Int×Int×vY×Nat×Nat×(List eK)×Int×Int×(List eK)×(List eK)
abbrev Px:=Nat×Nat×(List eK)×(List eK)
def nk:E1->Px->((Int×Int)×(Nat×Nat×(List eK)×(List eK))):=λ(ij,fo,t9,presses,pv,firstL,restL,t48,t49,t50,aaF,awW) y=>((ij,t9),y)
abbrev E2:=Int×Int×Nat×Nat×Int×Int×Nat×(List eK)×(List eK)×(List iI)
abbrev Py:=Nat×(List iI)
def uK:E2->Py->((Int×Int×Nat×Nat×(List eK)×(List eK))×(Nat×(List iI))):=λ(yi,ajT,sr,kN,t88,t89,aaE,yQ,KA,n102) y=>((yi,ajT,sr,kN,yQ,KA),y)
abbrev E4:=Int×Nat×Nat×Int×Int×Nat×(List eK)×(List iI)
def qd:E4->(Int×Nat)->((Nat×(List eK)×(List iI))×(Int×Nat)):=λ(vh,vm,YL,t113,t114,Io,O9,yO) y=>((vm,O9,yO),y)
abbrev E5:=Int×Int×Int×Nat×(List iI)
def uL:E5->(List iI)->((Nat)×((List iI))):=λ(yj,t135,t136,EJ,lM) y=>(EJ,y)
abbrev afc:=(List eK)×Int×vY×Int
abbrev K6:=(List iI)×Int
def WT(x:eK):Prop:=ab8 x/\aD4 x.2.1.2.1/\x.2.2.2.2.2.1<=9223372036854775807
def Bq(b:vY)(h:Int)(x:eK):Bool:=mR h x && lO b h x
def BN(b:vY)(h:Int)(x:eK):Bool:=mR h x && !lO b h x
def eS(l:List eK)(b:vY)(h:Int):List eK:=Gz (t:=fp) yo (l.filter (Bq b h))
def kM(l:List eK)(b:vY)(h:Int):List eK:=Gz (t:=fp) VD (l.filter (BN b h))
def ln(x:eK):iI:=gA [x]
def qv(l:List eK)(b:vY)(h:Int):List iI:=(eS l b h).map ln++(jj (kM l b h)).map gA
def pX:Int->List iI->Int×List iI
 |b,[]=>(b,[])
 |b,g::l=>if g.2.1 > b then(b,[]) else((pX (b - g.2.1) l).1,g::(pX (b - g.2.1) l).2)
def PW(g:iI)(m:Int):iI:=(g.1,(g.2.1,(g.2.2.1+m,g.2.2.2)))
def qc(b:Int)(g:iI):Int:=AB b ((nth fp g.1 0).2.1.1 - g.2.1)
def l9:Nat->Int->List iI->List iI
 | 0,_,l=>l
 |_+1,_,[]=> []
 |n+1,b,g::l=>PW g (qc b g)::l9 n (b - qc b g) l
def rr(l:List eK)(budget:Int)(b:vY)(h:Int):List iI:=l9 (eS l b h).length (pX budget (qv l b h)).1 (pX budget (qv l b h)).2
def oD(l:List eK)(budget:Int)(b:vY)(h:Int):Bool:=decide (0<=budget/\budget<=1125899906842624) && (qR b && (decide (1<=h/\h<=1048576) && Nx l))
def K7(l:List eK)(budget:Int)(b:vY)(h:Int):List iI×Int:=if oD l budget b h=aO then(rr l budget b h,0) else([],1)
def Wb:E1->Prop:=λ(_,h,_,h',b,fl,rl,l,n,i,rs,fs)=>(∀x∈l,WT x)/\(1<=h/\h<=1048576)/\h=h'/\fl=fs.length/\rl=rs.length/\l.length<=1000/\n=(l.length:Int)/\∃k:Nat,k<=l.length/\i=k/\fs.length<=k/\rs.length<=k
def rq:E1->Px:=λ(_,h,_,_,b,fl,rl,l,_,i,rs,fs)=>(fl+((l.drop i.toNat).filter (Bq b h)).length,rl+((l.drop i.toNat).filter (BN b h)).length,rs++(l.drop i.toNat).filter (BN b h),fs++(l.drop i.toNat).filter (Bq b h))
def Wd:E2->Prop:=λ(_,_,fl,_,n,i,m,_,fs,all)=>fl=fs.length/\fs.length<=1000/\n=(fs.length:Int)/\m=all.length/\∃k:Nat,k<=fs.length/\i=k/\all.length<=k
def z8:E2->Py:=λ(_,_,_,_,_,i,m,_,fs,all)=>(m+(fs.drop i.toNat).length,all++(fs.drop i.toNat).map ln)
def Wf:E4->Prop:=λ(bu,_,m,n,i,m2,_,all)=>m=all.length/\m2=all.length/\all.length<=10000/\n=(all.length:Int)/\(0<=bu/\bu<=1125899906842624)/\(∀g∈all,0<=g.2.1)/\∃k:Nat,k<=all.length/\i=k
def vK:E4->(Int×Nat):=λ(bu,_,_,_,i,_,_,all)=>((pX bu (all.drop i.toNat)).1,i.toNat+(pX bu (all.drop i.toNat)).2.length)
def aBa(g:iI):Prop:=0 < g.1.length/\(0<=g.2.1/\g.2.1<=(nth fp g.1 0).2.1.1/\(nth fp g.1 0).2.1.1<=1099511627776)/\0<=g.2.2.1/\g.2.2.1<=1000000
def Wh:E5->Prop:=λ(bu,n,i,m,all)=>m<=all.length/\all.length<=10000/\(0<=bu/\bu<=1125899906842624)/\∃k j:Nat,n=j/\i=k/\k<=j/\j<=m/\∀g∈(all.take j).drop k,aBa g
def Aa:E5->(List iI):=λ(bu,n,i,m,all)=>all.take i.toNat++l9 (n - i).toNat bu (all.drop i.toNat)
def aiZ:afc->Prop:=λ(l,_,_,h)=>(∀x∈l,WT x)
def TU:afc->K6:=λ(l,bu,b,h)=>K7 l bu b h
def jh:Ls Wb nk rq:=wh (λ(ij,fo,t9,presses,pv,firstL,restL,t48,t49,t50,aaF,awW)=>⟨([cj,.d ti ij]++ba 5 ([.eG ti fo,.dd,.d ti t9,.fn 21 (.cons (.eG ti presses) (.cons (.eG yc pv) (.nil))),lq 81 firstL,lq 58 restL]++ba 35 ([.d (.slice fp) t48,.d ti t49,.d ti t50]++ba 119 []))),[],(bC 58 ([dz (.vec 40 fp aaF)]++bC 22 ([dz (.vec 40 fp awW)]++bC 88 [])))⟩) (λx=>(.exit 0,⟨([cj,.d ti x.1.1]++ba 6 ([.dd,.d ti x.1.2,cj,lq 81 x.2.1,lq 58 x.2.2.1]++ba 157 [])),[],(bC 58 ([dz (.vec 40 fp x.2.2.2.1)]++bC 22 ([dz (.vec 40 fp x.2.2.2.2)]++bC 88 [])))⟩))
def pq:Ls Wd uK z8:=wh (λ(yi,ajT,sr,kN,t88,t89,aaE,yQ,KA,n102)=>⟨([cj,.d ti yi]++ba 6 ([.dd,.d ti ajT,cj,lq 81 sr,lq 58 kN,cj,cj,fa 15]++ba 72 ([.d ti t88,.d ti t89]++ba 80 []))),[],(bC 15 ([dz (lq 102 aaE)]++bC 42 ([dz (.vec 40 fp yQ)]++bC 22 ([[.obj 0 aO (.vec 40 fp KA)]]++bC 20 ([dz (.vec 52 ir n102)]++bC 67 [])))))⟩) (λx=>(.exit 3,⟨([cj,.d ti x.1.1]++ba 6 ([.dd,.d ti x.1.2.1,cj,lq 81 x.1.2.2.1,lq 58 x.1.2.2.2.1,cj,cj,fa 15]++ba 154 [])),[],(bC 15 ([dz (lq 102 x.2.1)]++bC 42 ([dz (.vec 40 fp x.1.2.2.2.2.1)]++bC 22 ([[.obj 0 aO (.vec 40 fp x.1.2.2.2.2.2)]]++bC 20 ([dz (.vec 52 ir x.2.2)]++bC 67 [])))))⟩))
def np:Ls Wf qd vK:=wh (λ(vh,vm,YL,t113,t114,Io,O9,yO)=>⟨([cj,.d ti vh]++ba 9 ([lq 81 vm,cj,cj,cj,fa 15]++ba 96 ([.cM (.new 102 0) 1 [] 0 0 YL,.d ti t113,.d ti t114]++ba 55 []))),[],(bC 15 ([dz (.cM (.new 102 0) 1 [] 0 0 Io)]++bC 65 ([[.obj 0 aO (.vec 40 fp O9)]]++bC 20 ([[.obj 1 aV (.vec 52 ir yO)]]++bC 67 []))))⟩) (λx=>(.exit 7,⟨([cj,.d ti x.2.1]++ba 9 ([lq 81 x.1.1,cj,cj,cj,fa 15]++ba 154 [])),[],(bC 15 ([dz (.cM (.new 102 0) 1 [] 0 0 x.2.2)]++bC 65 ([[.obj 0 aO (.vec 40 fp x.1.2.1)]]++bC 20 ([[.obj 1 aV (.vec 52 ir x.1.2.2)]]++bC 67 []))))⟩))
def pt:Ls Wh uL Aa:=wh (λ(yj,t135,t136,EJ,lM)=>⟨([cj,.d ti yj]++ba 13 ([fa 15]++ba 119 ([.d ti t135,.d ti t136]++ba 33 []))),[],(bC 15 ([dz (.cM (.new 102 0) 1 [] 0 0 EJ)]++bC 86 ([[.obj 1 aV (.vec 52 ir lM)]]++bC 67 [])))⟩) (λx=>(.exit 9,⟨(ba 15 ([fa 15]++ba 154 [])),[],(bC 15 ([dz (.cM (.new 102 0) 1 [] 0 0 x.1)]++bC 86 ([[.obj 1 aV (.vec 52 ir x.2)]]++bC 67 [])))⟩))
def fB:Fs Tryz.prog aiZ bG TU:=gf 7 Tryz.f7 (λ(l,budget,b,height)=>([.d (.slice fp) l,.d ti budget,.d yc b,.d ti height],[])) (λx=>⟨.cons (.d (.slice ir) x.1) (.cons (.d ti x.2) (.nil)),[],[]⟩) [au (.slice fp),au ti,au yc,au ti] [Gr,amX,arf,BY,amN,agU,azS,azR,NX,amy,aw6] {loops:=th [(6,{bz:=[1,7,8,9,10,11,12,48,49,50],sites:=[58,81],owns:=[⟨11,[],81,26⟩,⟨12,[],58,26⟩]}),(17,{bz:=[1,8,9,11,12,15,88,89],sites:=[15,58,81,102],agt:=[(.new 81 0)],owns:=[⟨15,[.arr],102,44⟩]}),(25,{bz:=[1,11,15,112,113,114],sites:=[15,81,102]}),(32,{bz:=[1,15,135,136],sites:=[15,102]})],outs:=tg [(6,{bz:=[1,8,9,11,12],sites:=[58,81]},{bz:=[8,9]}),(17,{bz:=[1,8,9,11,12,15],sites:=[15,58,81,102]},{bz:=[8,9]}),(25,{bz:=[1,11,15],sites:=[15,81,102]},{bz:=[8,9]}),(32,{bz:=[15],sites:=[15,102]},{bz:=[8,9]})],iE:=uA [(6,jh.E),(17,pq.E),(25,np.E),(32,pt.E)],res:=[au (.slice ir),aH],rf:=uA [(106,(4294967408,[15]))]}
theorem Wc:jh.RS:=rL [.d ti,.d ti,.d ti,.d ti,.d yc,.n,.n,.d (.slice fp),.d ti,.d ti,.d (.slice fp),.d (.slice fp)] jh
theorem sF(ij fo t9 presses pv firstL restL t48 t49 t50 aaF awW)(kn:K2 R)(kx:K3 R):fB.R 0 jh (ij,fo,t9,presses,pv,firstL,restL,t48,t49,t50,aaF,awW) kn kx=aP (iG t50 t49) (aP (iO t50 (t48.length:Int)) (ax (alone.call ((nth fp t48 (ab t50)),fo)) λx1=>aP (!x1) (kn (jh.st (ij,fo,t9,presses,pv,firstL,restL,t48,t49,(bT .i64 t50 1),aaF,awW))) (ax (lv.call [(nth fp t48 (ab t50))]) λx2=>aP (iG (nth fp t48 (ab t50)).2.1.1 x2) (kn (jh.st (ij,fo,t9,presses,pv,firstL,restL,t48,t49,(bT .i64 t50 1),aaF,awW))) (ax (DR.call ((nth fp t48 (ab t50)),presses,pv)) λx3=>aP (x3) (ax (rX.call (nth fp t48 (ab t50))) λx4=>aP (decide (firstL<=(ae awW))) (aP (dI (firstL+1) 104) (kn (jh.st (ij,fo,t9,presses,pv,(firstL+1),restL,t48,t49,(bT .i64 t50 1),aaF,((bk firstL awW)++ [x4])))) aH) aH) (ax (rX.call (nth fp t48 (ab t50))) λx5=>aP (decide (restL<=(ae aaF))) (aP (dI (restL+1) 104) (kn (jh.st (ij,fo,t9,presses,pv,firstL,(restL+1),t48,t49,(bT .i64 t50 1),((bk restL aaF)++ [x5]),awW))) aH) aH)))) aH) (jh.go kx ((ij,t9),(firstL,restL,aaF,awW))):=cW
theorem We:pq.RS:=rL [.d ti,.d ti,.n,.n,.d ti,.d ti,.n,.d (.slice fp),.d (.slice fp),.d (.slice ir)] pq
theorem E3(yi ajT sr kN t88 t89 aaE yQ KA n102)(kn:K2 R)(kx:K3 R):fB.R 1 pq (yi,ajT,sr,kN,t88,t89,aaE,yQ,KA,n102) kn kx=aP (iG t89 t88) (aP (decide (0<=(bT .i64 t89 1)/\(bT .i64 t89 1)<=(bT .i64 t89 1)/\(bT .i64 t89 1)<=((sr:Nat):Int))) (aP (inc (bT .i64 t89 1) ((sr:Nat):Int)) (aP (inc t89 (((ab (bT .i64 t89 1)):Nat):Int)) (aP (decide ((0+((0+(ab t89))*39))=(0+((ab t89)*39))/\((0+(ab t89))+((ab (bT .i64 t89 1)) - (ab t89)))<=(ae KA))) (ax (nT.call (cut KA (0+(ab t89)) ((ab (bT .i64 t89 1)) - (ab t89)))) λx1=>aP (decide (aaE<=(ae n102))) (aP (dI (aaE+1) 48) (kn (pq.st (yi,ajT,sr,kN,t88,(bT .i64 t89 1),(aaE+1),yQ,KA,((bk aaE n102)++ [x1])))) aH) aH) aH) aH) aH) aH) (pq.go kx ((yi,ajT,sr,kN,yQ,KA),(aaE,n102))):=cW
theorem Wg:np.RS:=rL [.d ti,.n,.n,.d ti,.d ti,.n,.d (.slice fp),.d (.slice ir)] np
theorem y5(vh vm YL t113 t114 Io O9 yO)(kn:K2 R)(kx:K3 R):fB.R 2 np (vh,vm,YL,t113,t114,Io,O9,yO) kn kx=aP (iG t114 t113) (aP (iO t114 ((YL:Nat):Int)) (aP (decide ((0+(ab t114)) < (ae yO))) (aP (decide ((((0+(ab t114))*4)+0)=(0+((ab t114)*4)))) (aP (wC (nth ir yO (0+(ab t114))).2.1 vh) (aP (inc t114 ((Io:Nat):Int)) (np.go kx ((vm,O9,yO),(vh,((ab t114) - 0)))) aH) (kn (np.st ((ed .i64 vh (nth ir yO (0+(ab t114))).2.1),vm,YL,t113,(bT .i64 t114 1),Io,O9,yO)))) aH) aH) aH) (np.go kx ((vm,O9,yO),(vh,Io))):=cW
theorem Wi:pt.RS:=rL [.d ti,.d ti,.d ti,.n,.d (.slice ir)] pt
theorem E6(yj t135 t136 EJ lM)(kn:K2 R)(kx:K3 R):fB.R 3 pt (yj,t135,t136,EJ,lM) kn kx=aP (iG t136 t135) (aP (iO t136 ((EJ:Nat):Int)) (aP (decide ((0+(ab t136)) < (ae lM))) (aP (decide ((((0+(ab t136))*4)+0)=((0+((ab t136)*4))+0))) (aP (iO 0 (((ae (nth ir lM (0+(ab t136))).1):Nat):Int)) (aP (decide ((0+(ab t136)) < (ae lM))) (aP (decide ((((0+(ab t136))*4)+1)=((0+((ab t136)*4))+1))) (aP (decide ((0+(ab t136)) < (ae lM))) (aP (decide ((((0+(ab t136))*4)+2)=((0+((ab t136)*4))+2))) (aP (decide ((0+(ab t136)) < (ae lM))) (aP (decide ((((0+(ab t136))*4)+2)=((0+((ab t136)*4))+2))) (aP (decide ((0+(ab t136)) < (ae lM))) (kn (pt.st ((ed .i64 yj (AB yj (ed .i64 (nth fp (nth ir lM (0+(ab t136))).1 0).2.1.1 (nth ir lM (0+(ab t136))).2.1))),t135,(bT .i64 t136 1),EJ,(fW lM (0+(ab t136)) ((nth ir lM (0+(ab t136))).1,((nth ir lM (0+(ab t136))).2.1,((bT .i64 (nth ir lM (0+(ab t136))).2.2.1 (AB yj (ed .i64 (nth fp (nth ir lM (0+(ab t136))).1 0).2.1.1 (nth ir lM (0+(ab t136))).2.1))),(nth ir lM (0+(ab t136))).2.2.2))))))) aH) aH) aH) aH) aH) aH) aH) aH) aH) aH) aH) (pt.go kx (EJ,lM)):=cW
theorem api(l budget b height)(k:K1 R):fB.A (l,budget,b,height) k=aP (iG budget 0) (k (fB.out (([]:List iI),1))) (aP (wC budget 1125899906842624) (k (fB.out (([]:List iI),1))) (ax (wA.call b) λx1=>aP (!x1) (k (fB.out (([]:List iI),1))) (aP (iG height 1) (k (fB.out (([]:List iI),1))) (aP (wC height 1048576) (k (fB.out (([]:List iI),1))) (ax (tn.call l) λx2=>aP (!x2) (k (fB.out (([]:List iI),1))) (ax (jh.call (budget,height,0,height,b,0,0,l,(l.length:Int),0,([]:List eK),([]:List eK))) λagA=>ax (YJ (agA.2.1,agA.2.2.2.2)) λWQ=>ax (YI (agA.2.2.1,agA.2.2.2.1)) λaD1=>ax (pq.call (agA.1.1,agA.1.2,agA.2.1,agA.2.2.1,((agA.2.1:Nat):Int),0,0,aD1.2,WQ.2,([]:List iI))) λagB=>aP (decide (0=0/\(0+agB.1.2.2.2.1)<=(ae agB.1.2.2.2.2.1))) (ax (Hx.call ((cut agB.1.2.2.2.2.1 0 agB.1.2.2.2.1),8)) λL4=>ax (Vo.call (agB.2.1,agB.2.2,L4.1,L4.2)) λaGm=>ax (np.call (agB.1.1,agB.1.2.2.1,aGm.1,((aGm.1:Nat):Int),0,aGm.1,agB.1.2.2.2.2.2,aGm.2.1)) λNT=>ax (pt.call (NT.2.1,(AB ((NT.2.2:Nat):Int) ((NT.1.1:Nat):Int)),0,NT.2.2,NT.1.2.2)) λaA1=>aP (decide (0=0/\(0+aA1.1)<=(ae aA1.2))) (k (fB.out ((cut aA1.2 0 aA1.1),0))) aH) aH)))))):=cW
theorem Sl{h:Int}{x:eK}(e:Mg x h=aO):x.2.2.2.2.2.1=0\/h < x.2.2.2.2.2.1:=(of_decide_eq_true e).2
theorem aa8:(fB.mN 0 jh):=by
 refine(fB.px 0 jh) (λ(_,_,_,_,_,_,_,l,_,i,_,_)=>l.length - i.toNat) ?_
 rintro⟨bu,h,t9,h',b,fl,rl,l,n,i,rs,fs⟩ ⟨hx,hh,rfl,rfl,rfl,hl,rfl,k,hk,rfl,hf,hr⟩;have hl:l.length<=1000:=hl;have hk:k<=l.length:=hk;have hf:fs.length<=k:=hf;have hr:rs.length<=k:=hr;by_cases iJ:k < l.length
 ·left;have n1:nth fp l k=l[k]:=db (t:=fp) iJ;have hd:l.drop k=l[k]::l.drop (k+1):=aA iJ;obtain⟨hq,hb,hu⟩:=hx _ (aZ iJ);have ca:=ams (d:=(l[k],h)) trivial;have cw:=zz (d:=[l[k]]) (by show 1<=_;decide);have cc:=acz (d:=l[k]) hb;have skip:mR h l[k]=aV->∀ {R:Type} (kn:K2 R) (kx:K3 R),fB.R 0 jh (bu,h,t9,h,b,fs.length,rs.length,l,(l.length:Int),(k:Int),rs,fs) kn kx=kn (jh.st (bu,h,t9,h,b,fs.length,rs.length,l,(l.length:Int),((k+1:Nat):Int),rs,fs)):=by
   intro aqU R kn kx;rw[sF,bh aq,aj,bB aq aq,aj,aa,n1,ca];simp only[ag,bG,Jd];unfold mR at aqU;cases ha:Mg l[k] h with
   |false=>rw[dA,aj,N.pV aq]
   |true=>
    rw[ha,dD,Bool.not_eq_false']at aqU;rw[bR,ao,cw];simp only[ag,bG,tp];rw[bh (of_decide_eq_true aqU),aj,N.pV aq]
  cases aqU:mR h l[k]with
  |false=>
   have e1:Bq b h l[k]=aV:=by unfold Bq;rw[aqU];rfl
   have e2:BN b h l[k]=aV:=by unfold BN;rw[aqU];rfl
   refine⟨(bu,h,t9,h,b,fs.length,rs.length,l,(l.length:Int),((k+1:Nat):Int),rs,fs),⟨hx,hh,rfl,rfl,rfl,hl,rfl,k+1,aq,rfl,by show fs.length<=_;omega,by show rs.length<=_;omega⟩,by simp only[aa];omega,?_,λkn kx=>skip aqU kn kx⟩;simp only[nk,rq,aa,hd,lC,e1,e2,cd,cK]
  |true=>
   have aB5:=aqU;unfold mR at aB5;rw[al,bP]at aB5;obtain⟨ha,hw⟩:=aB5;have cp:=ag3 (d:=(l[k],h,b)) ⟨hh,Sl ha,hu⟩;cases hp:lO b h l[k]with
   |true=>
    have e1:Bq b h l[k]=aO:=by unfold Bq;rw[aqU,hp];rfl
    have e2:BN b h l[k]=aV:=by unfold BN;rw[aqU,hp];rfl
    refine⟨(bu,h,t9,h,b,fs.length+1,rs.length,l,(l.length:Int),((k+1:Nat):Int),rs,fs++ [l[k]]),⟨hx,hh,rfl,by simp,rfl,hl,rfl,k+1,aq,rfl,by rw[ak];show fs.length+1<=_;omega,by show rs.length<=_;omega⟩,by simp only[aa];omega,?_,λkn kx=> ?_⟩
    ·simp only[nk,rq,aa,hd,lC,e1,e2,cd,cK,cZ,aB,aK,cC];rw[dZ,Nat.add_comm 1]
    ·rw[sF,bh aq,aj,bB aq aq,aj,aa,n1,ca];simp only[ag,bG,Jd,ha,bR,ao];rw[cw];simp only[ag,bG,tp];rw[aW (qO hw),ao,cp];simp only[ag,bG,Jo,hp,aj];rw[cc];simp only[ag,bG,FV];rw[aM (aC _),aj,dN aq aq,aj,bU,N.pV aq]
   |false=>
    have e1:Bq b h l[k]=aV:=by unfold Bq;rw[aqU,hp];rfl
    have e2:BN b h l[k]=aO:=by unfold BN;rw[aqU,hp];rfl
    refine⟨(bu,h,t9,h,b,fs.length,rs.length+1,l,(l.length:Int),((k+1:Nat):Int),rs++ [l[k]],fs),⟨hx,hh,rfl,rfl,by simp,hl,rfl,k+1,aq,rfl,by show fs.length<=_;omega,by rw[ak];show rs.length+1<=_;omega⟩,by simp only[aa];omega,?_,λkn kx=> ?_⟩
    ·simp only[nk,rq,aa,hd,lC,e1,e2,cd,cK,cZ,aB,aK,cC];rw[dZ rs.length,Nat.add_comm 1]
    ·rw[sF,bh aq,aj,bB aq aq,aj,aa,n1,ca];simp only[ag,bG,Jd,ha,bR,ao];rw[cw];simp only[ag,bG,tp];rw[aW (qO hw),ao,cp];simp only[ag,bG,Jo,hp,ao];rw[cc];simp only[ag,bG,FV];rw[aM (aC _),aj,dN aq aq,aj,bU,N.pV aq]
 ·right;obtain rfl:k=l.length:=aq;intro R kn kx;rw[sF,aW aq,ao];simp only[nk,rq,aa,bj,List.filter_nil,bw,ct,bo]
theorem aa9:(fB.mN 1 pq):=by
 refine(fB.px 1 pq) (λ(_,_,_,_,_,i,_,_,fs,_)=>fs.length - i.toNat) ?_
 rintro⟨bu,t9,fl,rl,n,i,m,rs,fs,all⟩ ⟨rfl,hl,rfl,rfl,k,hk,rfl,ha⟩;have hl:fs.length<=1000:=hl;have hk:k<=fs.length:=hk;have ha:all.length<=k:=ha;by_cases iJ:k < fs.length
 ·left;have hd:fs.drop k=fs[k]::fs.drop (k+1):=aA iJ;have ec:cut fs k 1=[fs[k]]:=by unfold cut;rw[hd];rfl
  refine⟨(bu,t9,fs.length,rl,(fs.length:Int),((k+1:Nat):Int),all.length+1,rs,fs,all++ [ln fs[k]]),⟨rfl,hl,rfl,by simp,k+1,aq,rfl,by rw[ak];show all.length+1<=_;omega⟩,by simp only[aa];omega,?_,λkn kx=> ?_⟩
  ·simp only[uK,z8,aa,hd,aB,bn,aK,cC];rw[dZ,Nat.add_comm 1]
  ·rw[E3,bh aq,aj,N.pV aq,aM ⟨aq,dp _,aq⟩,aj,lJ aq aq,aj];simp only[aa,aU,jf];rw[lJ aq aq,aj,aM ⟨trivial,aq⟩,aj,ec,Jm (d:=[fs[k]]) (by show 1<=_;decide)];simp only[ag,bG,Hy];rw[aM (aC _),aj,dN aq aq,aj,bU];rfl
 ·right;obtain rfl:k=fs.length:=aq;intro R kn kx;rw[E3,aW aq,ao];simp only[uK,z8,aa,bj,bw,ct,eF,bo]
theorem aba:(fB.mN 2 np):=by
 refine(fB.px 2 np) (λ(_,_,_,_,i,_,_,all)=>all.length - i.toNat) ?_
 rintro⟨bu,fl,m,n,i,m2,fs,all⟩ ⟨rfl,rfl,hl,rfl,hb,hg,k,hk,rfl⟩;have hl:all.length<=10000:=hl;have hk:k<=all.length:=hk;have hb:0<=bu/\bu<=1125899906842624:=hb;by_cases iJ:k < all.length
 ·have n1:nth ir all k=all[k]:=db (t:=ir) iJ;have hd:all.drop k=all[k]::all.drop (k+1):=aA iJ;have aBZ:=hg _ (aZ iJ);by_cases hc:all[k].2.1 > bu
  ·right;intro R kn kx;rw[y5,bh aq,aj,bB aq aq,aj];simp only[aa,aU,ct,aM iJ,aj,cQ,n1];rw[dy hc,aj,lJ aq aq,aj];simp only[qd,vK,aa,hd,pX,if_pos hc,bw,ct,Nat.sub_zero]
  ·left;refine⟨(bu - all[k].2.1,fl,all.length,(all.length:Int),((k+1:Nat):Int),all.length,fs,all),⟨rfl,rfl,hl,rfl,⟨aq,aq⟩,hg,k+1,aq,rfl⟩,by simp only[aa];omega,?_,λkn kx=> ?_⟩
   ·simp only[qd,vK,aa,hd,pX,if_neg hc,aB];rw[dZ,Nat.add_comm 1]
   ·rw[y5,bh aq,aj,bB aq aq,aj];simp only[aa,aU,ct,aM iJ,aj,cQ,n1];rw[cY hc,ao,eV aq aq,N.pV aq]
 ·right;obtain rfl:k=all.length:=aq;intro R kn kx;rw[y5,aW aq,ao];simp only[qd,vK,aa,bj,pX,bw,ct]
theorem aaC{b:Int}{g:iI}(hg:aBa g)(hb:0<=b/\b<=1125899906842624):0<=qc b g/\qc b g<=b/\qc b g<=(nth fp g.1 0).2.1.1 - g.2.1:=by obtain⟨_,h1,_⟩:=hg;unfold qc AB;split <;> omega
theorem abb:(fB.mN 3 pt):=by
 refine(fB.px 3 pt) (λ(_,n,i,_,_)=>(n - i).toNat) ?_
 rintro⟨bu,n,i,m,all⟩ ⟨hm,hl,hb,k,j,rfl,rfl,hk,hj,hg⟩;have hm:m<=all.length:=hm;have hl:all.length<=10000:=hl;have hk:k<=j:=hk;have hj:j<=m:=hj;have hb:0<=bu/\bu<=1125899906842624:=hb;by_cases iJ:k < j
 ·left;obtain⟨q,hq⟩:∃q,j=k+1+q:=⟨j - (k+1),aq⟩;have ek:k < all.length:=aq;have n1:nth ir all k=all[k]:=db (t:=ir) ek;have hd:all.drop k=all[k]::all.drop (k+1):=aA ek;have e1:((j:Int) - (k:Int)).toNat=q+1:=aq;have e2:((j:Int) - ((k+1:Nat):Int)).toNat=q:=aq;have aJi:k < (all.take j).length:=by rw[bZ];omega
  have aI5:(all.take j).drop k=all[k]::(all.take j).drop (k+1):=by rw[aA aJi,List.getElem_take]
  rw[aI5]at hg;have aBZ:=hg _ aG;obtain⟨g1,g2,g3⟩:=id aBZ;have aDG:=aaC aBZ hb;have g2:(0:Int)<=all[k].2.1/\ @LE.le Int _ all[k].2.1 (nth fp all[k].1 0).2.1.1/\ @LE.le Int _ (nth fp all[k].1 0).2.1.1 1099511627776:=g2;have es:all.set k (PW all[k] (qc bu all[k]))=all.take k++PW all[k] (qc bu all[k])::all.drop (k+1):=List.set_eq_take_append_cons_drop▸if_pos ek;have et:(all.set k (PW all[k] (qc bu all[k]))).take (k+1)=all.take k++ [PW all[k] (qc bu all[k])]:=by rw[es,lF,bZ,fF aq,bH (by rw[bZ];omega),show k+1 - k=1 by omega];rfl
  have eD:(all.set k (PW all[k] (qc bu all[k]))).drop (k+1)=all.drop (k+1):=List.drop_set_of_lt aq;refine⟨(bu - qc bu all[k],(j:Int),((k+1:Nat):Int),m,all.set k (PW all[k] (qc bu all[k]))),⟨by rw[kc];exact hm,by rw[kc];exact hl,⟨aq,aq⟩,k+1,j,rfl,rfl,aq,hj,λg aDD=> ?_⟩,by simp only[e1,e2];omega,?_,λkn kx=> ?_⟩
  ·have:((all.set k (PW all[k] (qc bu all[k]))).take j).drop (k+1)=(all.take j).drop (k+1):=by rw[List.take_set,List.drop_set_of_lt aq]
   rw[this]at aDD;exact hg g (aD _ aDD)
  ·simp only[uL,Aa,aa,e1,e2,hd,l9,et,eD,aK,cC]
  ·rw[E6,bh aq,aj,bB aq aq,aj];simp only[aa,aU,ct,aM ek,aj,cQ,n1];rw[bB aq aq,aj,eV (x:=(nth fp all[k].1 0).2.1.1) aq aq];rw[show AB bu ((nth fp all[k].1 0).2.1.1 - all[k].2.1)=qc bu all[k] from rfl,eV aq aq,eU (x:=all[k].2.2.1) aq aq,N.pV aq];rfl
 ·right;obtain rfl:k=j:=aq;intro R kn kx;have e1:((k:Int) - (k:Int)).toNat=0:=aq;rw[E6,aW aq,ao];simp only[uL,Aa,aa,e1,l9,da]
theorem Xr:∀ {l:List eK},(l.map (·.1)).Nodup->∀ {x y:eK},x∈l->y∈l->x.1=y.1->x=y
 |[],_,_,_,hx,_,_=>by cases hx
 |a::l,hn,x,y,hx,hy,e=>by
  rw[bn,df]at hn;rcases bA.1 hx with h1 | h1
  ·rcases bA.1 hy with h2 | h2
   ·rw[h1,h2]
   ·exact absurd (by rw[<-h1,e];exact dV h2) hn.1
  ·rcases bA.1 hy with h2 | h2
   ·exact absurd (by rw[<-h2,<-e];exact dV h1) hn.1
   ·exact Xr hn.2 h1 h2 e
theorem M8:∀(n:Nat) (b:Int) (l:List iI),(l9 n b l).length=l.length
 | 0,_,_=>rfl
 |_+1,_,[]=>rfl
 |n+1,b,g::l=>by rw[l9,aB,aB,M8 n]
theorem kA{l:List eK}(hx:∀x∈l,WT x)(hn:(l.map (·.1)).Nodup)(p:eK->Bool):(∀x∈l.filter p,ab8 x)/\(∀x∈l.filter p,∀y∈l.filter p,x.1=y.1->x=y):=by refine⟨λx h=>(hx x (eo.1 h).1).1,λx h y h2 e=> ?_⟩;exact Xr hn (eo.1 h).1 (eo.1 h2).1 e
theorem asv:∀(l:List iI) (b:Int),(∀g∈l,0<=g.2.1)->0<=b->(0<=(pX b l).1/\(pX b l).1<=b)/\∃k,k<=l.length/\(pX b l).2=l.take k
 |[],b,_,hb=>⟨⟨hb,dp _⟩,0,aC _,rfl⟩
 |g::l,b,h,hb=>by
  unfold pX;by_cases hc:g.2.1 > b
  ·rw[if_pos hc];exact⟨⟨hb,dp _⟩,0,aS _,rfl⟩
  ·rw[if_neg hc];have h0:=h g aG;obtain⟨⟨i1,i2⟩,k,i3,i4⟩:=asv l (b - g.2.1) (λx hx=>h x (aD _ hx)) aq;refine⟨⟨i1,by show(pX (b - g.2.1) l).1<=b;omega⟩,k+1,by rw[aB];omega,?_⟩;show g::(pX (b - g.2.1) l).2=_;rw[i4];rfl
theorem SN:∀(n:Nat) (b:Int) (l:List iI) (m:Nat),(l9 n b l).take m=l9 n b (l.take m)
 | 0,_,_,_=>rfl
 |_+1,_,[],m=>by simp[l9]
 |n+1,b,g::l,0=>by simp[l9]
 |n+1,b,g::l,m+1=>by rw[pL,l9,l9,pL,SN]
theorem XZ:∀(n:Nat) (b:Int) (l:List iI),l9 (min l.length n) b l=l9 n b l
 | 0,_,l=>by rw[Nat.min_zero]
 |_+1,_,[]=>rfl
 |n+1,b,g::l=>by rw[aB,Nat.succ_min_succ,l9,l9,XZ n]
theorem B0{α:Type}:∀(n:Nat) (l:List α),l.length<=n->(jj l).length<=l.length/\∀c∈jj l,1<=c.length/\c.length<=8
 | 0,l,h=>by obtain rfl:=bm (Nat.le_zero.1 h);exact⟨aC _,λc hc=>(by cases hc)⟩
 |n+1,l,h=>by
  by_cases h0:0 < l.length
  ·have hd:(l.drop 8).length<=l.length - 1:=by rw[cv];omega
   obtain⟨i1,i2⟩:=B0 n (l.drop 8) aq;rw[D5 h0];refine⟨by rw[aB];omega,λc hc=> ?_⟩;rcases bA.1 hc with rfl | hc
   ·rw[bZ];omega
   ·exact i2 c hc
  ·obtain rfl:=bm (by omega:l.length=0);exact⟨aC _,λc hc=>(by cases hc)⟩
section
variable {l:List eK} {b:vY} {h:Int}
theorem Bn(hx:∀x∈l,WT x):agG (t:=fp) yo (l.filter (Bq b h)) (eS l b h):=abw MA λx hm=>(hx x (eo.1 hm).1).1
theorem Gk(hx:∀x∈l,WT x):agG (t:=fp) VD (l.filter (BN b h)) (kM l b h):=abw Rn λx hm=>(hx x (eo.1 hm).1).1
theorem H4(hx:∀x∈l,WT x){x:eK}(hm:x∈eS l b h):x∈l/\mR h x=aO/\lO b h x=aO:=by obtain⟨h1,h2⟩:=eo.1 ((Bn hx).1.mem_iff.1 hm);unfold Bq at h2;rw[al]at h2;exact⟨h1,h2⟩
theorem To{x:eK}(ha:0<=x.2.1.1/\x.2.1.1<=1099511627776)(hk:mR h x=aO):aBa (ln x):=by have h1:=wz [x];unfold mR at hk;rw[al,bP]at hk;have h2:=qO hk.2;have h3:sX [x]<=40:=h1.2;exact⟨by show 0 < 1;decide,⟨h1.1,by show sX [x]<=x.2.1.1;omega,ha.2⟩,h1.1,by show sX [x]<=_;omega⟩
theorem ach{g:iI}(hg:g∈qv l b h):0<=g.2.1:=by
 unfold qv at hg;rcases bp.1 hg with hg | hg
 ·obtain⟨x,_,rfl⟩:=cr.1 hg;exact(wz [x]).1
 ·obtain⟨c,_,rfl⟩:=cr.1 hg;exact(wz c).1
end
theorem apj:fB.Ok:=by
 rintro⟨l,bu,b,h⟩ hx;have hx:∀x∈l,WT x:=hx;have z1:((0:Int)).toNat=0:=rfl;rw[api];simp only[bG,TU,K7];by_cases a1:0<=bu;rotate_left
 ·rw[bh aq,aj,if_neg (λe=>by unfold oD at e;rw[al]at e;exact a1 (of_decide_eq_true e.1).1)]
 rw[aW aq,ao];by_cases a2:bu<=1125899906842624;rotate_left
 ·rw[dy aq,aj,if_neg (λe=>by unfold oD at e;rw[al]at e;exact a2 (of_decide_eq_true e.1).2)]
 rw[cY aq,ao,C2 (d:=b) trivial];simp only[ag,bG,BR];cases a3:qR b with
 |false=>rw[dA,aj,if_neg (λe=>by unfold oD at e;rw[a3,jR,Bool.and_false]at e;cases e)]
 |true=>
 rw[bR,ao];by_cases a4:1<=h;rotate_left
 ·rw[bh aq,aj,if_neg (λe=>by unfold oD at e;rw[al,al,al]at e;exact a4 (of_decide_eq_true e.2.2.1).1)]
 rw[aW aq,ao];by_cases a5:h<=1048576;rotate_left
 ·rw[dy aq,aj,if_neg (λe=>by unfold oD at e;rw[al,al,al]at e;exact a5 (of_decide_eq_true e.2.2.1).2)]
 rw[cY aq,ao,ag9 (d:=l) trivial];simp only[ag,bG,Q7];cases a6:Nx l with
 |false=>rw[dA,aj,if_neg (λe=>by unfold oD at e;rw[a6,Bool.and_false,Bool.and_false,Bool.and_false]at e;cases e)]
 |true=>
 have iS:oD l bu b h=aO:=by unfold oD;rw[aM ⟨a1,a2⟩,a3,aM ⟨a4,a5⟩,a6];rfl
 rw[if_pos iS,bR,ao];obtain⟨r1,r2,r3⟩:=(IL l).1 a6;rw[Wc (d:=(bu,h,0,h,b,0,0,l,(l.length:Int),0,[],[])) ⟨hx,⟨a4,a5⟩,rfl,rfl,rfl,aq,rfl,0,aS _,rfl,aC _,aC _⟩];simp only[ag,nk,rq,z1,aN,aU,aT];have fl:∀p,(l.filter p).length<=64:=λp=>ko (j2 p l) r1
 have s1:=av4 (d:=((l.filter (Bq b h)).length,l.filter (Bq b h))) ⟨rfl,Nat.lt_of_le_of_lt (fl _) eR,(kA hx r2 _).1,λx hm y awS e1 e2=>(kA hx r2 _).2 x hm y awS (Oh ((kA hx r2 _).1 x hm) ((kA hx r2 _).1 y awS) e1 e2)⟩;have s2:=av2 (d:=((l.filter (BN b h)).length,l.filter (BN b h))) ⟨rfl,Nat.lt_of_le_of_lt (fl _) eR,(kA hx r2 _).1,λx hm y awS e1 e2=>(kA hx r2 _).2 x hm y awS (Ro ((kA hx r2 _).1 x hm) ((kA hx r2 _).1 y awS) e1 e2)⟩;have f1:(l.filter (Bq b h)).length=(eS l b h).length:=(Bn hx).1.length_eq.symm;have f2:(l.filter (BN b h)).length=(kM l b h).length:=(Gk hx).1.length_eq.symm;have g1:(eS l b h).length<=64:=by rw[<-f1];exact fl _
 have g2:(kM l b h).length<=64:=by rw[<-f2];exact fl _
 rw[s1];simp only[ag];rw[s2];simp only[ag];rw[show Gz (t:=fp) yo (l.filter (Bq b h))=eS l b h from rfl,show Gz (t:=fp) VD (l.filter (BN b h))=kM l b h from rfl,f1,f2];rw[We (d:=(bu,0,(eS l b h).length,(kM l b h).length,((eS l b h).length:Int),0,0,kM l b h,eS l b h,[])) ⟨rfl,aq,rfl,rfl,0,aS _,rfl,aC _⟩];simp only[ag,uK,z8,z1,aN,aU,aT];rw[aM ⟨trivial,aq⟩,aj,fA rfl,agO (d:=(kM l b h,8)) (by show(1:Int)<=8;decide)];simp only[ag,QV,acs];rw[arc (d:=((eS l b h).length,(eS l b h).map ln,kM l b h,8)) ⟨rfl,by show(kM l b h).length<=_;omega,by rw[bg],by show(eS l b h).length<=_;omega⟩];simp only[ag,bG,ara];have wc:(eS l b h).length+(jj (kM l b h)).length=(qv l b h).length:=by unfold qv;rw[ak,bg,bg]
 have hlen:(qv l b h).length<=1000:=by have:=(B0 _ (kM l b h) (aC _)).1;omega
 have og:∀g∈qv l b h,0<=g.2.1:=λg hg=>ach hg
 rw[show(eS l b h).map ln++(jj (kM l b h)).map gA=qv l b h from rfl,wc];rw[Wg (d:=(bu,(eS l b h).length,(qv l b h).length,((qv l b h).length:Int),0,(qv l b h).length,eS l b h,qv l b h)) ⟨rfl,rfl,aq,rfl,⟨a1,a2⟩,og,0,aS _,rfl⟩];simp only[ag,qd,vK,z1,aN,aU];obtain⟨⟨c1,c2⟩,k,c3,c4⟩:=asv (qv l b h) bu og a1;have c5:(pX bu (qv l b h)).2.length=k:=by rw[c4,bZ];omega
 have ej:AB (k:Int) ((eS l b h).length:Int)=((min k (eS l b h).length:Nat):Int):=by unfold AB;split <;> omega
 unfold rr;rw[c5,c4,ej];generalize (pX bu (qv l b h)).1=bu2 at c1 c2 ⊢;have rD:∀g∈((qv l b h).take (min k (eS l b h).length)).drop 0,aBa g:=λg hg=>by
  rw[aN]at hg;have hg:g∈((eS l b h).map ln).take (min k (eS l b h).length):=by
   have e:(qv l b h).take (min k (eS l b h).length)=((eS l b h).map ln).take (min k (eS l b h).length):=by unfold qv;rw[gC (by rw[bg];omega)]
   rw[e]at hg;exact hg
  obtain⟨x,hm,rfl⟩:=cr.1 (kk hg);obtain⟨m1,m2,_⟩:=H4 hx hm;exact To (r3 x m1) m2
 rw[Wi (d:=(bu2,((min k (eS l b h).length:Nat):Int),0,k,qv l b h)) ⟨c3,aq,⟨c1,aq⟩,0,min k (eS l b h).length,rfl,rfl,aS _,Nat.min_le_left _ _,rD⟩];have e0:(((min k (eS l b h).length:Nat):Int) - 0).toNat=min k (eS l b h).length:=aq;simp only[ag,uL,Aa,z1,aN,fb,aT,e0,aU];have em:∀(n:Nat) (c:Int) (L:List iI),(l9 n c L).length=L.length:=M8;rw[aM ⟨trivial,by rw[em];exact c3⟩,aj];have ec:cut (l9 (min k (eS l b h).length) bu2 (qv l b h)) 0 k=l9 (eS l b h).length bu2 ((qv l b h).take k):=by unfold cut;rw[aN,SN,<-XZ (eS l b h).length,bZ,fF c3]
 rw[ec]
theorem CI:fB.RS:=rE [.d (.slice fp),.d ti,.d yc,.d ti] fB
def Gj:=fB.gr apj 4 ⟨.iB aa8,⟨.iB aa9,⟨.iB aba,⟨.iB abb,trivial⟩⟩⟩⟩
end
def aoG:(Int×Int×Int)->Prop:=λ(a,n,d)=>(0<=a/\a<=1125899906842624)/\(0<=n/\n<=d)/\1<=d/\d<=10000
def aly:(Int×Int×Int)->(Int×Bool×Bool):=λ(a,n,d)=>(a*n / d,wC (a*n%d) 0,aO)
def De:Fs Tryz.prog aoG bG aly:=gf 98 Tryz.f98 (λ(a,num,den)=>([.d ti a,.d ti num,.d ti den],[])) (λx=>⟨.cons (.d ti x.1) (.cons (.d .bool x.2.1) (.cons (.d .bool x.2.2) (.nil))),[],[]⟩) [au ti,au ti,au ti] [Ya,Kv,adr]
theorem auf(a num den)(k:K1 R):De.A (a,num,den) k=ax (AK.call a) λx1=>aP (!x1) (k (De.out (0,aV,aV))) (aP (iG num 0) (k (De.out (0,aV,aV))) (aP (iG den 1) (k (De.out (0,aV,aV))) (ax (Dd.call ((dP .u64 a),(dP .u64 num))) λx2=>aP (zP x2.1 (dP .u64 den)) (k (De.out (0,aV,aV))) (ax (yz.call (x2.1,x2.2,(dP .u64 den))) λx3=>aP (wC x3.1 1125899906842624) (k (De.out (0,aV,aV))) (k (De.out ((dP .i64 x3.1),(wC x3.2 0),aO))))))):=cW
theorem aug:De.Ok:=by
 rintro⟨a,n,d⟩ ⟨⟨h1,h2⟩,⟨h3,h4⟩,h5,h6⟩;have h1:0<=a:=h1;have h2:a<=1125899906842624:=h2;have h3:0<=n:=h3;have h4:n<=d:=h4;have h5:1<=d:=h5;have h6:d<=10000:=h6;have k1:0<=a*n:=nQ h1 h3;have k2:a*n<=a*d:=Int.mul_le_mul_of_nonneg_left h4 h1;have k3:a*d<=1125899906842624*d:=Int.mul_le_mul_of_nonneg_right h2 aq;have k4:a*n / d<=a:=Int.ediv_le_of_le_mul aq k2;have k5:0<=a*n / d:=Int.ediv_nonneg k1 aq;have e0:pN a=aO:=aM ⟨h1,h2⟩;have c1:dP .u64 a=a:=by rw[En];omega
 have c2:dP .u64 n=n:=by rw[En];omega
 have c3:dP .u64 d=d:=by rw[En];omega
 rw[auf,Is (d:=a) trivial];simp only[ag,bG,KF,e0,bR,ao];rw[aW aq,ao,aW aq,ao,c1,c2,c3,BD (d:=(a,n)) ⟨⟨h1,by show a < _;omega⟩,h3,by show n < _;omega⟩];simp only[ag,bG,Gf];have e1:a*n / 18446744073709551616=0:=aq;have e2:a*n%18446744073709551616=a*n:=aq;rw[e1,e2,eN aq,ao,Xp (d:=(0,a*n,d)) ⟨.inr ⟨rfl,by show 0 < d;omega,by show d < _;omega⟩,dp 0,by show 0 < d;omega,k1,by show a*n < _;omega⟩];simp only[ag,bG,Qq,Int.zero_mul,Int.zero_add];rw[cY aq,ao,ala aq aq];rfl
theorem aoH:De.RS:=rE [.d ti,.d ti,.d ti] De
def auh:=De.gr aug
def aDZ(a n d:Int):Int:=if 0 < a*n%d then a*n / d+1 else a*n / d
theorem aAY{a n d:Int}(h1:0<=a)(h3:0<=n)(h4:n<=d)(h5:1<=d):0<=aDZ a n d/\aDZ a n d<=a/\(0 < a*n%d->a*n / d+1<=a):=by
 have k1:0<=a*n:=nQ h1 h3;have k2:a*n<=a*d:=Int.mul_le_mul_of_nonneg_left h4 h1;have k4:a*n / d<=a:=Int.ediv_le_of_le_mul aq k2;have k5:0<=a*n / d:=Int.ediv_nonneg k1 aq;have k6:0 < a*n%d->a*n / d+1<=a:=λh=>by
  have e:=Int.mul_ediv_add_emod (a*n) d;refine Classical.byContradiction λhc=> ?_
  have:a=a*n / d:=aq;rw[<-this,rP d a]at e;omega
 unfold aDZ;split
 ·rename_i h;exact⟨aq,k6 h,k6⟩
 ·exact⟨k5,k4,k6⟩
def ayV:(Int×Int×Int)->Prop:=λ(a,n,d)=>(0<=a/\a<=1125899906842624)/\(0<=n/\n<=d)/\1<=d/\d<=10000
def aul:(Int×Int×Int)->(Int×Bool):=λ(a,n,d)=>(aDZ a n d,aO)
def ayU:Fs Tryz.prog ayV bG aul:=gf 62 Tryz.f62 (λ(a,num,den)=>([.d ti a,.d ti num,.d ti den],[])) (λx=>⟨.cons (.d ti x.1) (.cons (.d .bool x.2) (.nil)),[],[]⟩) [au ti,au ti,au ti] [auh,aaH]
theorem aCI(a num den)(k:K1 R):ayU.A (a,num,den) k=ax (De.call (a,num,den)) λx1=>aP (x1.2.2) (aP (x1.2.1) (ax (Qd.call (x1.1,1)) λx2=>k (ayU.out (x2.1,x2.2))) (k (ayU.out (x1.1,x1.2.2)))) (k (ayU.out (x1.1,x1.2.2))):=cW
theorem aCJ:ayU.Ok:=by
 rintro⟨a,n,d⟩ h;obtain⟨⟨h1,h2⟩,⟨h3,h4⟩,h5,h6⟩:=id h;obtain⟨f1,f2,f3⟩:=aAY (a:=a) (n:=n) (d:=d) h1 h3 h4 h5;have h2:a<=1125899906842624:=h2;rw[aCI,aoH (d:=(a,n,d)) h];simp only[ag,bG,aly,aj,bG,aul,aDZ]at f1 f2 ⊢;by_cases hr:0 < a*n%d
 ·have:=f3 hr;rw[if_pos hr]at f1;have k5:0<=a*n / d:=Int.ediv_nonneg (nQ h1 h3) (by have:1<=d:=h5;omega);have e:rU (a*n / d) 1=aO:=by unfold rU pN;rw[aM ⟨k5,aq⟩,aM ⟨eR,eR⟩,aM aq];rfl
  rw[dy hr,aj,Ti (d:=(a*n / d,1)) trivial,if_pos hr];simp only[ag,bG,Nc,e,cond_true]
 ·rw[cY hr,ao,if_neg hr]
theorem ayW:ayU.RS:=rE [.d ti,.d ti,.d ti] ayU
def aCK:=ayU.gr aCJ
def so(g:iI)(h:Int)(b:vY):Int:=if g.2.2.2.1=0\/qR b=aV\/g.2.2.2.1 - h>=2*mX b then g.2.1 else if g.2.2.2.1 - h<=mX b then g.2.2.1 else g.2.1+aDZ (g.2.2.1 - g.2.1) (2*mX b - (g.2.2.2.1 - h)) (mX b)
def aA9(g:iI):Prop:=(0<=g.2.1/\g.2.1<=g.2.2.1/\g.2.2.1<=1125899906842624)/\0<=g.2.2.2.1/\g.2.2.2.1<=9223372036854775807
def arq:(iI×Int×vY)->Prop:=λ(g,h,_)=>aA9 g/\0<=h/\h<=9223372036854775807
def agY:(iI×Int×vY)->Int:=λ(g,h,b)=>so g h b
def Q3:Fs Tryz.prog arq bG agY:=gf 33 Tryz.f33 (λ(g,atv,b)=>([.d ir g,.d ti atv,.d yc b],[])) (λx=>⟨.d ti x,[],[]⟩) [au ir,au ti,au yc] [Vf,Gr,aCK]
theorem axf(g atv b)(k:K1 R):Q3.A (g,atv,b) k=ax (BS.call b) λx1=>aP (Qw g.2.2.2.1 0) (k (Q3.out g.2.1)) (ax (wA.call b) λx2=>aP (!x2) (k (Q3.out g.2.1)) (aP (zP (ed .i64 g.2.2.2.1 atv) (iT .i64 2 x1)) (k (Q3.out g.2.1)) (aP (aad (ed .i64 g.2.2.2.1 atv) x1) (k (Q3.out g.2.2.1)) (ax (ayU.call ((ed .i64 g.2.2.1 g.2.1),(ed .i64 (iT .i64 2 x1) (ed .i64 g.2.2.2.1 atv)),x1)) λx3=>k (Q3.out (bT .i64 g.2.1 x3.1)))))):=cW
theorem ahG{g:iI}{h:Int}{b:vY}(hg:aA9 g):g.2.1<=so g h b/\so g h b<=g.2.2.1:=by
 obtain⟨⟨g1,g2,g3⟩,_⟩:=hg;unfold so;split
 ·omega
 ·rename_i h1;split
  ·omega
  ·rename_i h2;have hs:=abu b;have hr:qR b=aO:=by cases h:qR b with | true=>rfl | false=>exact absurd (.inr (.inl h)) h1
   have:=aAY (a:=g.2.2.1 - g.2.1) (n:=2*mX b - (g.2.2.2.1 - h)) (d:=mX b) aq aq aq (by have:=hs.2.2 hr;omega);omega
theorem axg:Q3.Ok:=by
 rintro⟨g,h,b⟩ ⟨hg,h0,h1⟩;obtain⟨⟨g1,g2,g3⟩,g4,g5⟩:=id hg;have h0:0<=h:=h0;have h1:h<=9223372036854775807:=h1;have hs:=abu b;have hf:=ahG (h:=h) (b:=b) hg;rw[axf,NS (d:=b) trivial];simp only[ag,bG,QN,bG,agY]at hf ⊢;unfold so at hf ⊢;by_cases a1:g.2.2.2.1=0
 ·rw[jV a1,aj,if_pos (.inl a1)]
 rw[gQ a1,ao,C2 (d:=b) trivial];simp only[ag,bG,BR];cases a2:qR b with
 |false=>rw[dA,aj,if_pos (.inr (.inl rfl))]
 |true=>
 have hp:=hs.2.2 a2;rw[bR,ao,eV (x:=g.2.2.2.1) aq aq,Bx aq aq];by_cases a3:g.2.2.2.1 - h>=2*mX b
 ·rw[ik a3,aj,if_pos (.inr (.inr a3))]
 rw[eN a3,ao];have hn:¬(g.2.2.2.1=0\/aO=aV\/g.2.2.2.1 - h>=2*mX b):=λe=>e.elim a1 λe=>e.elim (λe=>by cases e) a3
 rw[if_neg hn];rw[a2,if_neg hn]at hf;by_cases a4:g.2.2.2.1 - h<=mX b
 ·rw[p9 a4,aj,if_pos a4]
 rw[jO a4,ao,if_neg a4];rw[if_neg a4]at hf;rw[eV (x:=g.2.2.1) aq aq,eV (x:=2*mX b) aq aq,ayW (d:=(g.2.2.1 - g.2.1,2*mX b - (g.2.2.2.1 - h),mX b)) ⟨⟨by show 0<=g.2.2.1 - g.2.1;omega,by show g.2.2.1 - g.2.1<=_;omega⟩,⟨by show 0<=2*mX b - (g.2.2.2.1 - h);omega,by show 2*mX b - (g.2.2.2.1 - h)<=mX b;omega⟩,by show 1<=mX b;omega,by show mX b<=_;omega⟩];simp only[ag,bG,aul];rw[eU (x:=g.2.1) aq aq]
theorem ars:Q3.RS:=rE [.d ir,.d ti,.d yc] Q3
def axh:=Q3.gr axg
abbrev ahj:=gU×eK
def acR:ahj->Bool->((eK)×(Bool)):=λ(i,o0) y=>(o0,y)
def sw(x:eK)(i:gU):Bool:=Ty.beq cV i.1 x.1
def ar0:ahj->Prop:=λ_=>True
def arZ:ahj->Bool:=λ(i,x)=>sw x i
def ahi:Fs Tryz.prog ar0 acR arZ:=gf 65 Tryz.f65 (λ(i,o0)=>([.d gB i,.ptr (.bF 0) 0 [] 0],[.obj 0 aV (.d fp o0)])) (λx=>⟨.d .bool x.2,[.obj 0 aV (.d fp x.1)],[]⟩) [au gB,aH]
theorem axq(i o0)(k:K1 R):ahi.A (i,o0) k=k (ahi.out (o0,(Ty.beq cV i.1 o0.1))):=cW
theorem axr:ahi.Ok:=by rintro⟨i,x⟩ _;rw[axq];rfl
theorem ar1:ahi.RS:=rE [.d gB,.d fp] ahi
def axs:=ahi.gr axr
abbrev vo:=Nat×Int×Int×(List gU)×eK
def mA:vo->AS:=λ(apX,t7,t8,nC,iC)=>⟨([.cM (.bF 0) 0 [] 0 0 apX,.fn 65 (.cons (.ptr (.bF 1) 0 [] 0) (.nil))]++ba 5 ([.d ti t7,.d ti t8]++ba 10 [])),[eL (.vec 143 gB nC),eL (.d fp iC)],(ai 19 [])⟩
abbrev Kd:=((List gU))×(Int×eK)
def ng:Kd->Exit×AS:=λ(a,b,c)=>(.ret,⟨(ba 4 ([.d ti b]++ba 14 [])),[eL (.vec 143 gB a),eL (.d fp c)],(ai 19 [])⟩)
abbrev Ke:=((List gU))×(eK)
def uu:Ke->Exit×AS:=λx=>(.exit 0,⟨(ba 19 []),[eL (.vec 143 gB x.1),eL (.d fp x.2)],(ai 19 [])⟩)
abbrev Ep:=(Kd)⊕(Ke)
abbrev ON:=((Int×eK))⊕(eK)
def AD:Ep->Out (Exit×AS):=λx=> .br x.isLeft (.get x.getLeft? λa=> .ok (ng a)) (.get x.getRight? λb=> .ok (uu b))
def jA:vo->ON->Ep:=λ(apX,t7,t8,nC,iC) y=>match y with | .inl y=> .inl (nC,y) | .inr z=> .inr ((nC,z))
abbrev ad9:=Nat×(List gU)×eK
def ur:vo->Prop:=λ(m,n,i,l,_)=>l.length<=1000000000/\m=l.length/\n=l.length/\∃k:Nat,k<=l.length/\i=k
def l5:vo->ON:=λ(_,_,i,l,x)=>match AA (sw x) (l.drop i.toNat) i with | .inl j=> .inl (j,x) | .inr _=> .inr x
def aia:ad9->Prop:=λ(m,l,_)=>l.length<=1000000000/\m=l.length
def Sb:ad9->(Int×(List gU)×eK):=λ(_,l,x)=>(VJ (sw x) l,l,x)
def OM:=eA.iB mA ur jA l5 AD
def Er:vo->Option Ep:=lg OM mA
def we:Fs Tryz.prog aia bG Sb:=gf 100 Tryz.f100 (λ(sL,o0,o1)=>([.cM (.bF 0) 0 [] 0 0 sL,.fn 65 (.cons (.ptr (.bF 1) 0 [] 0) (.nil))],[.obj 0 aV (.vec 143 gB o0),.obj 0 aV (.d fp o1)])) (λx=>⟨.d ti x.1,[.obj 0 aV (.vec 143 gB x.2.1),.obj 0 aV (.d fp x.2.2)],[]⟩) [aH,aH] [axs] {loops:=th [(2,{bz:=[0,1,7,8]})],outs:=tg [(2,{},{bz:=[4]})],iE:=uA [(2,OM)]}
def Eo:= @gw Tryz.prog (pS we.G) we.an 0 Tryz.f100 0 _ mA
abbrev Kc:=qu Tryz.prog (pS we.G) we.an 0 Tryz.f100 0 mA ur jA l5 AD
theorem VK:nK Er ur jA l5:=tR (sy [.n,.d ti,.d ti,.d (.slice gB),.d fp] λ_=>cW)
theorem Ib:yd @Eo mA ur jA l5 AD Kc:=zr
theorem Es(apX t7 t8 nC iC)(kn:K2 R)(kx:K3 R):Eo (apX,t7,t8,nC,iC) kn kx=aP (iG t8 t7) (aP (iO t8 ((apX:Nat):Int)) (aP (decide ((0+(ab t8)) < (ae nC))) (aP (decide ((((0+(ab t8))*36)+0)=(0+((ab t8)*36)))) (ax (ahi.call ((nth gB nC (0+(ab t8))),iC)) λx1=>aP (x1.2) (kx (ng (nC,(t8,x1.1))).1 (ng (nC,(t8,x1.1))).2) (kn (mA (apX,t7,(bT .i64 t8 (1:Int)),nC,x1.1)))) aH) aH) aH) (kx (uu (nC,iC)).1 (uu (nC,iC)).2):=cW
theorem an4(sL o0 o1)(k:K1 R):we.A (sL,o0,o1) k=ax (Er (sL,((sL:Nat):Int),0,o0,o1)) λx2=>aP x2.isLeft (ax x2.getLeft? λa3=>k (we.out (a3.2.1,a3.1,a3.2.2))) (ax x2.getRight? λb4=>k (we.out ((-1),b4.1,b4.2))):=cW
theorem aag:Kc:=by
 refine Ib (λ(_,_,i,l,_)=>l.length - i.toNat) ?_
 rintro⟨m,n,i,l,x⟩ ⟨hb,rfl,rfl,k,hk,rfl⟩;have hb:l.length<=1000000000:=hb;have hk:k<=l.length:=hk;by_cases h:k < l.length
 ·have n1:nth gB l k=l[k]:=db (t:=gB) h;have hd:AA (sw x) (l.drop k) k=if sw x l[k] then .inl (k:Int) else AA (sw x) (l.drop (k+1)) ((k+1:Nat):Int):=by rw[aA h];rfl
  have step:∀ {R:Type} (kn:AS->Option R) (kx:Exit->AS->Option R),Eo (l.length,(l.length:Int),(k:Int),l,x) kn kx=aP (sw x l[k]) (kx (ng (l,((k:Int),x))).1 (ng (l,((k:Int),x))).2) (kn (mA (l.length,(l.length:Int),((k+1:Nat):Int),l,x))):=by intro R kn kx;rw[Es,bh aq,aj,bB aq aq,aj];simp only[aa,aU,ct,aM h,aj,cQ,n1];rw[ar1 (d:=(l[k],x)) trivial];simp only[ag,acR,arZ];rw[N.pV aq]
  cases hp:sw x l[k]
  ·left;refine⟨(l.length,(l.length:Int),((k+1:Nat):Int),l,x),⟨hb,rfl,rfl,k+1,aq,rfl⟩,by simp only[aa];omega,?_,λkn kx=> ?_⟩
   ·simp only[jA,l5,aa,hd,hp,cd,cK]
   ·rw[step,hp,ao]
  ·right;refine⟨ng (l,((k:Int),x)),?_,λkn kx=> ?_⟩
   ·simp only[jA,l5,aa,hd,hp,cZ];rfl
   ·rw[step,hp,aj]
 ·right;obtain rfl:k=l.length:=aq;refine⟨uu (l,x),?_,λkn kx=> ?_⟩
  ·simp only[jA,l5,aa,bj];rfl
  ·rw[Es,aW aq,ao]
theorem an5:we.Ok:=by rintro⟨m,l,x⟩ ⟨hb,rfl⟩;rw[an4,VK (d:=(l.length,(l.length:Int),0,l,x)) ⟨hb,rfl,rfl,0,aS _,rfl⟩];simp only[ag,jA,l5,bO,aN,bG,Sb,VJ];cases AA (sw x) l 0 <;> rfl
theorem aib:we.RS:=rE [.n,.d (.slice gB),.d fp] we
def an6:=we.gr an5 1 ⟨.iB aag,trivial⟩
abbrev ad8:=Nat×(List gU)×eK
def ah7:ad8->Prop:=λ(m,l,_)=>l.length<=1000000000/\m=l.length
def R9:ad8->(Bool×(List gU)×eK):=λ(_,l,x)=>(l.any (sw x),l,x)
def Ia:Fs Tryz.prog ah7 bG R9:=gf 64 Tryz.f64 (λ(sL,o0,o1)=>([.cM (.bF 0) 0 [] 0 0 sL,.fn 65 (.cons (.ptr (.bF 1) 0 [] 0) (.nil))],[.obj 0 aV (.vec 143 gB o0),.obj 0 aV (.d fp o1)])) (λx=>⟨.d .bool x.1,[.obj 0 aV (.vec 143 gB x.2.1),.obj 0 aV (.d fp x.2.2)],[]⟩) [aH,aH] [an6]
theorem an1(sL o0 o1)(k:K1 R):Ia.A (sL,o0,o1) k=ax (we.call (sL,o0,o1)) λx1=>k (Ia.out ((zP x1.1 0),x1.2.1,x1.2.2)):=cW
theorem an2:Ia.Ok:=by rintro⟨m,l,x⟩ h;rw[an1,aib (d:=(m,l,x)) h];simp only[ag,bG,Sb,Kb];rfl
theorem ah8:Ia.RS:=rE [.n,.d (.slice gB),.d fp] Ia
def an3:=Ia.gr an2
abbrev Bh:=(List eK)×Bs×Int×Lk×Int×(List eK)×Int×Int×(Int×Unit)×Nat×(Int×Unit)×(List gU)
def tq:Bh->AS:=λ(ab5,P9,vl,af9,sum,t41,t42,t43,n8,SR,n10,aCA)=>⟨([.d (.slice fp) ab5,.d tU P9,cj,.d ti vl,cj,cj,.eG I9 af9,cj,fa 8,cj,fa 10,.d ti sum]++ba 29 ([.d (.slice fp) t41,.d ti t42,.d ti t43]++ba 90 [])),[],(bC 8 ([dz (.pr (.dd) (.pr (.dd) (.d (.pair ti .unit) n8))),[],dz (.pr (lq 88 SR) (.pr (.dd) (.d (.pair ti .unit) n10)))]++bC 77 ([dz (.vec 143 gB aCA)]++bC 45 [])))⟩
def jz:(Int×Unit)->Exit×AS:=λx=>(.ret,⟨(ba 8 ([fa 8,.d ti (1:Int)]++ba 124 [])),[],(bC 8 ([dz (.pr (.dd) (.pr (.dd) (.d (.pair ti .unit) x)))]++bC 125 []))⟩)
abbrev Rj:=((List eK)×Bs×Int×Lk×(Int×Unit)×(Int×Unit))×(Int×Nat×(List gU))
def zB:Rj->Exit×AS:=λ((a,b,c,e,f,g),h,i,j)=>(.exit 0,⟨([.d (.slice fp) a,.d tU b,cj,.d ti c,cj,cj,.eG I9 e,cj,fa 8,cj,fa 10,.d ti h]++ba 122 []),[],(bC 8 ([dz (.pr (.dd) (.pr (.dd) (.d (.pair ti .unit) f))),[],dz (.pr (lq 88 i) (.pr (.dd) (.d (.pair ti .unit) g)))]++bC 77 ([dz (.vec 143 gB j)]++bC 45 [])))⟩)
abbrev Mv:=((Int×Unit))⊕(Rj)
abbrev Xc:=((Int×Unit))⊕((Int×Nat×(List gU)))
def D8:Mv->Out (Exit×AS):=λx=> .br x.isLeft (.get x.getLeft? λa=> .ok (jz a)) (.get x.getRight? λb=> .ok (zB b))
def lW:Bh->Xc->Mv:=λ(ab5,P9,vl,af9,sum,t41,t42,t43,n8,SR,n10,aCA) y=>match y with | .inl y=> .inl y | .inr z=> .inr (((ab5,P9,vl,af9,n8,n10),z))
abbrev Bi:=Bs×(List eK)×Int×Int×(Int×Unit)×fN
def qD:Bi->AS:=λ(aii,t106,t107,t108,aeF,SS)=>⟨([cj,.d tU aii]++ba 6 ([fa 8,cj,fa 10]++ba 95 ([.d (.slice fp) t106,.d ti t107,.d ti t108]++ba 25 []))),[],(bC 8 ([dz (.pr (.dd) (.pr (.dd) (.d (.pair ti .unit) aeF))),[],dz (.d jk SS)]++bC 123 []))⟩
abbrev Rl:=Int×(Int×Unit)
def qX:Rl->Exit×AS:=λx=>(.ret,⟨(ba 8 ([fa 8,.d ti x.1]++ba 124 [])),[],(bC 8 ([dz (.pr (.dd) (.pr (.dd) (.d (.pair ti .unit) x.2)))]++bC 125 []))⟩)
abbrev Rm:=((Int×Unit))×(fN)
def zD:Rm->Exit×AS:=λx=>(.exit 2,⟨(ba 8 ([fa 8,cj,fa 10]++ba 123 [])),[],(bC 8 ([dz (.pr (.dd) (.pr (.dd) (.d (.pair ti .unit) x.1))),[],dz (.d jk x.2)]++bC 123 []))⟩)
abbrev My:=(Rl)⊕(Rm)
abbrev Xe:=((Int×(Int×Unit)))⊕(fN)
def D9:My->Out (Exit×AS):=λx=> .br x.isLeft (.get x.getLeft? λa=> .ok (qX a)) (.get x.getRight? λb=> .ok (zD b))
def lX:Bi->Xe->My:=λ(aii,t106,t107,t108,aeF,SS) y=>match y with | .inl y=> .inl y | .inr z=> .inr ((aeF,z))
abbrev ar2:=(List eK)×Bs×Lk×Int
def agC:fN:=(([]:List gU),(([]:List jo),((0:Int),())))
def F9(x:eK):gU:=(x.1,(((0:Int),(([]:List Sg),((0:Int),()))),()))
def aey(s:Int)(ins:List gU)(x:eK)(k:Int):Bool:=rU s x.2.1.1 && (!(ins.any (sw x)) && decide (k≠0/\k < 2305843009213688669))
def yE:Int->List gU->List eK->List Int->Option (Int×List gU)
 |s,ins,x::l,k::ks=>if aey s ins x k=aO then yE (s+x.2.1.1) (ins++ [F9 x]) l ks else aH
 |s,ins,_,_=>au (s,ins)
def BP:fN->Nat->List eK->List Int->fN⊕Int
 |t,i,x::l,k::ks=>if(vQ t i x.2.2.1 [k] x.2.2.2.1).2=0 then BP (vQ t i x.2.2.1 [k] x.2.2.2.1).1 (i+1) l ks else .inr (vQ t i x.2.2.1 [k] x.2.2.2.1).2
 |t,_,_,_=> .inl t
def Gw(l:List eK)(ks:List Int)(to:Lk)(dL:Int):fN×Int:=
 if 1<=l.length/\l.length<=64/\l.length=ks.length/\ju to=aO then
  match yE 0 [] l ks with
  |none=>(agC,1)
  |some r=>if dL < 0\/dL > r.1 then(agC,8) else match BP (r.2,([(r.1 - dL,(to,()))],((0:Int),()))) 0 l ks with | .inl t=>(t,0) | .inr e=>(agC,e)
 else(agC,1)
def aDo(x:eK):Prop:=Sm x.1.1/\mm x.2.2.2.1
def zA:Bh->Prop:=λ(_,ks,_,_,s,l,n,i,_,m,_,ins)=>l.length<=64/\l.length=ks.length/\n=(l.length:Int)/\m=ins.length/\∃k:Nat,k<=l.length/\i=k/\ins.length<=k
def qV:Bh->Xc:=λ(_,ks,_,_,s,l,_,i,_,_,_,ins)=>match yE s ins (l.drop i.toNat) (ks.drop i.toNat) with
 |none=> .inl ((0:Int),())
 |some r=> .inr (r.1,r.2.length,r.2)
def zC:Bi->Prop:=λ(ks,l,n,i,_,t)=>A7 t/\(∀x∈l,mm x.2.2.2.1)/\(∀k∈ks,mm k)/\l.length<=64/\l.length=ks.length/\n=(l.length:Int)/\∃k:Nat,k<=l.length/\i=k
def qW:Bi->Xe:=λ(ks,l,_,i,_,t)=>match BP t i.toNat (l.drop i.toNat) (ks.drop i.toNat) with
 | .inl t=> .inr t
 | .inr e=> .inl (e,((0:Int),()))
def ar4:ar2->Prop:=λ(l,ks,to,dL)=>(∀x∈l,aDo x)/\(∀k∈ks,mm k)/\agE to/\l.length<=1000000000/\ks.length<=1000000000/\(-1125899906842624<=dL/\dL<=9223372036854775807)
def ar3:ar2->(fN×Int):=λ(l,ks,to,dL)=>Gw l ks to dL
def Xa:=eA.iB tq zA lW qV D8
def Jy:Bh->Option Mv:=lg Xa tq
def Xd:=eA.iB qD zC lX qW D9
def Jz:Bi->Option My:=lg Xd qD
def vZ:Fs Tryz.prog ar4 bG ar3:=gf 34 Tryz.f34 (λ(l,ks,to,dL)=>([.d (.slice fp) l,.d tU ks,.d I9 to,.d ti dL],[])) (λx=>⟨.cons (.d jk x.1) (.cons (.d ti x.2) (.nil)),[],[]⟩) [au (.slice fp),au tU,au I9,au ti] [xX,aaH,an3,F2,awt] {loops:=th [(6,{bz:=[0,1,3,6,8,10,11,41,42,43],sites:=[8,10,88],owns:=[⟨10,[.fst],88,53⟩]}),(19,{bz:=[1,8,10,106,107,108],sites:=[8,10],JP:=[⟨10,[.arr],jk⟩]})],outs:=tg [(6,{bz:=[0,1,3,6,8,10,11],sites:=[8,10,88]},{bz:=[8,9],sites:=[8]}),(19,{bz:=[8,10],sites:=[8,10]},{bz:=[8,9],sites:=[8]})],iE:=uA [(6,Xa),(19,Xd)],res:=[au jk,aH]}
def Xb:= @gw Tryz.prog (pS vZ.G) vZ.an 0 Tryz.f34 0 _ tq
abbrev Ri:=qu Tryz.prog (pS vZ.G) vZ.an 0 Tryz.f34 0 tq zA lW qV D8
def Mx:= @gw Tryz.prog (pS vZ.G) vZ.an 0 Tryz.f34 1 _ qD
abbrev Rk:=qu Tryz.prog (pS vZ.G) vZ.an 0 Tryz.f34 1 qD zC lX qW D9
theorem acS:nK Jy zA lW qV:=tR (sy [.d (.slice fp),.d tU,.d ti,.d I9,.d ti,.d (.slice fp),.d ti,.d ti,.d (.pair ti .unit),.n,.d (.pair ti .unit),.d (.slice gB)] λ_=>cW)
theorem Mw:yd @Xb tq zA lW qV D8 Ri:=zr
theorem B1(ab5 P9 vl af9 sum t41 t42 t43 n8 SR n10 aCA)(kn:K2 R)(kx:K3 R):Xb (ab5,P9,vl,af9,sum,t41,t42,t43,n8,SR,n10,aCA) kn kx=aP (iG t43 t42) (aP (iO t43 (((ae t41):Nat):Int)) (ax (Qd.call (sum,(nth fp t41 (ab t43)).2.1.1)) λx1=>ax (Ia.call (SR,aCA,(nth fp t41 (ab t43)))) λx2=>aP (!x1.2) (kx (jz ((0:Int),())).1 (jz ((0:Int),())).2) (aP (x2.1) (kx (jz ((0:Int),())).1 (jz ((0:Int),())).2) (aP (iO t43 (((ae P9):Nat):Int)) (aP (Qw (nth tu P9 (ab t43)) (0:Int)) (kx (jz ((0:Int),())).1 (jz ((0:Int),())).2) (aP (iO t43 (((ae P9):Nat):Int)) (ax (Az.call (nth tu P9 (ab t43))) λx3=>aP (!x3) (kx (jz ((0:Int),())).1 (jz ((0:Int),())).2) (aP (decide (SR<=(ae x2.2.1))) (aP (dI (SR+1) 80) (kn (tq (ab5,P9,vl,af9,x1.1,t41,t42,(bT .i64 t43 (1:Int)),n8,(SR+1),n10,((bk SR x2.2.1)++ [(x2.2.2.1,(((0:Int),(([]:List Sg),((0:Int),()))),()))])))) aH) aH)) aH)) aH))) aH) (kx (zB ((ab5,P9,vl,af9,n8,n10),(sum,SR,aCA))).1 (zB ((ab5,P9,vl,af9,n8,n10),(sum,SR,aCA))).2):=cW
theorem acT:nK Jz zC lX qW:=tR (sy [.d tU,.d (.slice fp),.d ti,.d ti,.d (.pair ti .unit),.d jk] λ_=>cW)
theorem Mz:yd @Mx qD zC lX qW D9 Rk:=zr
theorem JA(aii t106 t107 t108 aeF SS)(kn:K2 R)(kx:K3 R):Mx (aii,t106,t107,t108,aeF,SS) kn kx=aP (iG t108 t107) (aP (iO t108 (((ae t106):Nat):Int)) (aP (iO t108 (((ae aii):Nat):Int)) (ax (vW.call (SS,t108,(nth fp t106 (ab t108)).2.2.1,[(nth tu aii (ab t108))],(nth fp t106 (ab t108)).2.2.2.1)) λx1=>aP (DF x1.2 (0:Int)) (kx (qX (x1.2,((0:Int),()))).1 (qX (x1.2,((0:Int),()))).2) (kn (qD (aii,t106,t107,(bT .i64 t108 (1:Int)),aeF,x1.1)))) aH) aH) (kx (zD (aeF,SS)).1 (zD (aeF,SS)).2):=cW
theorem axt(l ks to dL)(k:K1 R):vZ.A (l,ks,to,dL) k=aP (iG (l.length:Int) 1) (k (vZ.out ((([]:List gU),(([]:List jo),(0,()))),1))) (aP (wC (l.length:Int) 64) (k (vZ.out ((([]:List gU),(([]:List jo),(0,()))),1))) (aP (DF (l.length:Int) (ks.length:Int)) (k (vZ.out ((([]:List gU),(([]:List jo),(0,()))),1))) (ax (nB.call to) λx1=>aP (!x1) (k (vZ.out ((([]:List gU),(([]:List jo),(0,()))),1))) (ax (Jy (l,ks,dL,to,0,l,(l.length:Int),0,(0,()),0,(0,()),([]:List gU))) λx5=>aP x5.isLeft (ax x5.getLeft? λa6=>k (vZ.out ((([]:List gU),(([]:List jo),a6)),1))) (ax x5.getRight? λb7=>aP (iG b7.1.2.2.1 0) (k (vZ.out ((([]:List gU),(([]:List jo),(0,()))),8))) (aP (wC b7.1.2.2.1 b7.2.1) (k (vZ.out ((([]:List gU),(([]:List jo),(0,()))),8))) (aP (decide (0=0/\(0+b7.2.2.1)<=(ae b7.2.2.2))) (ax (Jz (b7.1.2.1,b7.1.1,(b7.1.1.length:Int),0,b7.1.2.2.2.2.1,((cut b7.2.2.2 0 b7.2.2.1),([((ed .i64 b7.2.1 b7.1.2.2.1),(b7.1.2.2.2.1,()))],b7.1.2.2.2.2.2)))) λx9=>aP x9.isLeft (ax x9.getLeft? λa10=>k (vZ.out ((([]:List gU),(([]:List jo),a10.2)),a10.1))) (ax x9.getRight? λb11=>k (vZ.out (b11.2,0)))) aH))))))):=cW
theorem azL{t:fN}{i br sc:Int}{ks:List Int}(hv:A7 t)(hs:mm sc)(h:(vQ t i br ks sc).2=0):A7 (vQ t i br ks sc).1/\tV t i br ks=aO:=by
 rw[Us]at h ⊢;by_cases e:tV t i br ks=aO
 ·rw[if_pos e];exact⟨(afO hv e hs).2.1,e⟩
 ·rw[if_neg e]at h;exact absurd h eR
theorem akW:∀(l:List eK) (ks:List Int) (s:Int) (ins:List gU) {r:Int×List gU},l.length=ks.length->0<=s->s<=1125899906842624->yE s ins l ks=au r->0<=r.1/\r.1<=1125899906842624/\r.2=ins++l.map F9
 |[],ks,s,ins,r,hl,h0,h1,h=>by have:ks=[]:=bm hl.symm;subst this;obtain rfl:=aQ h;exact⟨h0,h1,by simp⟩
 |x::l,[],s,ins,r,hl,_,_,h=>by cases hl
 |x::l,k::ks,s,ins,r,hl,h0,h1,h=>by
  unfold yE at h;by_cases ho:aey s ins x k=aO
  ·rw[if_pos ho]at h;unfold aey rU pN at ho;simp only[al,aR]at ho;obtain⟨⟨o1,o2,o3⟩,_⟩:=ho;obtain⟨i1,i2,i3⟩:=akW l ks _ _ (Nat.succ.inj hl) aq aq h;exact⟨i1,i2,by rw[i3];simp⟩
  ·rw[if_neg ho]at h;cases h
theorem ahM(x:eK)(i:gU):sw x i=aO↔i.1=x.1:=Bb _ _
theorem ahk:Ri:=by
 refine Mw (λ(_,_,_,_,_,l,_,i,_,_,_,_)=>l.length - i.toNat) ?_
 rintro⟨l0,ks,dL,to,s,l,n,i,z,m,z2,ins⟩ ⟨hl,Vk,rfl,rfl,k,hk,rfl,hi⟩;have hl:l.length<=64:=hl;have Vk:l.length=ks.length:=Vk;have hk:k<=l.length:=hk;have hi:ins.length<=k:=hi;by_cases h:k < l.length
 ·have hq:k < ks.length:=aq;have n1:nth fp l k=l[k]:=db (t:=fp) h;have n2:nth tu ks k=ks[k]:=db (t:=tu) hq;have hd:l.drop k=l[k]::l.drop (k+1):=aA h;have ax5:ks.drop k=ks[k]::ks.drop (k+1):=aA hq;have ca:=Ti (d:=(s,l[k].2.1.1)) trivial;have ci:=ah8 (d:=(ins.length,ins,l[k])) ⟨by show ins.length<=_;omega,rfl⟩;have cf:=Ck (d:=ks[k]) trivial;by_cases ho:aey s ins l[k] ks[k]=aO
  ·left;have aCa:=ho;unfold aey at aCa;simp only[al,aR,bP]at aCa;obtain⟨o1,o2,o3,o4⟩:=aCa;refine⟨(l0,ks,dL,to,s+l[k].2.1.1,l,(l.length:Int),((k+1:Nat):Int),z,ins.length+1,z2,ins++ [F9 l[k]]),⟨hl,Vk,rfl,by simp,k+1,aq,rfl,by rw[ak];show ins.length+1<=_;omega⟩,by simp only[aa];omega,?_,λkn kx=> ?_⟩
   ·simp only[lW,qV,aa,hd,ax5];rw[show yE s ins (l[k]::l.drop (k+1)) (ks[k]::ks.drop (k+1))=yE (s+l[k].2.1.1) (ins++ [F9 l[k]]) (l.drop (k+1)) (ks.drop (k+1)) by rw[yE,if_pos ho]]
   ·rw[B1,bh aq,aj,bB aq aq,aj];simp only[aa,n1,n2];rw[ca];simp only[ag,bG,Nc];rw[ci];simp only[ag,bG,R9,o1,o2,bR,ao,cond_true];rw[bB aq aq,aj,gQ o3,ao,aj,cf];simp only[ag,bG,Bp];rw[bh o4,bR,ao,aM (aC _),aj,dN aq aq,aj,bU,N.pV aq];rfl
  ·right;refine⟨jz ((0:Int),()),?_,λkn kx=> ?_⟩
   ·simp only[lW,qV,aa,hd,ax5];rw[show yE s ins (l[k]::l.drop (k+1)) (ks[k]::ks.drop (k+1))=aH by rw[yE,if_neg ho]];rfl
   ·rw[B1,bh aq,aj,bB aq aq,aj];simp only[aa,n1,n2];rw[ca];simp only[ag,bG,Nc];rw[ci];simp only[ag,bG,R9];unfold aey at ho;cases o1:rU s l[k].2.1.1 with
    |false=>rw[dA,aj]
    |true=>
     rw[o1,dD]at ho;rw[bR,ao];cases o2:ins.any (sw l[k]) with
     |true=>rw[aj]
     |false=>
      rw[o2,dA,dD,aR]at ho;rw[ao,bB aq aq,aj];by_cases o3:ks[k]=0
      ·rw[jV o3,aj]
      ·rw[gQ o3,ao,aj,cf];simp only[ag,bG,Bp];rw[aW (λe=>ho ⟨o3,e⟩),dA,aj]
 ·right;obtain rfl:k=l.length:=aq;refine⟨zB ((l0,ks,dL,to,z,z2),(s,ins.length,ins)),?_,λkn kx=> ?_⟩
  ·simp only[lW,qV,aa,bj];rfl
  ·rw[B1,aW aq,ao]
theorem ahl:Rk:=by
 refine Mz (λ(_,l,_,i,_,_)=>l.length - i.toNat) ?_
 rintro⟨ks,l,n,i,z,t⟩ ⟨hv,hx,hu,hl,Vk,rfl,k,hk,rfl⟩;have hv:A7 t:=hv;have hl:l.length<=64:=hl;have Vk:l.length=ks.length:=Vk;have hk:k<=l.length:=hk;by_cases h:k < l.length
 ·have hq:k < ks.length:=aq;have n1:nth fp l k=l[k]:=db (t:=fp) h;have n2:nth tu ks k=ks[k]:=db (t:=tu) hq;have hd:l.drop k=l[k]::l.drop (k+1):=aA h;have ax5:ks.drop k=ks[k]::ks.drop (k+1):=aA hq;have hs:=hx _ (aZ h);have c1:vW.call (t,(k:Int),l[k].2.2.1,[ks[k]],l[k].2.2.2.1)=au (vQ t k l[k].2.2.1 [ks[k]] l[k].2.2.2.1):=aqz (d:=(t,(k:Int),l[k].2.2.1,[ks[k]],l[k].2.2.2.1)) ⟨hv,λx hx=>by rw[bf.1 hx];exact hu _ (aZ hq),by show 1<=1000000000;decide⟩;have J9:(vQ t k l[k].2.2.1 [ks[k]] l[k].2.2.2.1).2=0->A7 (vQ t k l[k].2.2.1 [ks[k]] l[k].2.2.2.1).1:=λhz=>(azL hv hs hz).1
  have e:BP t k (l.drop k) (ks.drop k)=if(vQ t k l[k].2.2.1 [ks[k]] l[k].2.2.2.1).2=0 then BP (vQ t k l[k].2.2.1 [ks[k]] l[k].2.2.2.1).1 (k+1) (l.drop (k+1)) (ks.drop (k+1)) else .inr (vQ t k l[k].2.2.1 [ks[k]] l[k].2.2.2.1).2:=by rw[hd,ax5,BP]
  generalize vQ t k l[k].2.2.1 [ks[k]] l[k].2.2.2.1=r at c1 J9 e;have step:∀ {R:Type} (kn:AS->Option R) (kx:Exit->AS->Option R),Mx (ks,l,(l.length:Int),(k:Int),z,t) kn kx=aP (DF r.2 0) (kx (qX (r.2,((0:Int),()))).1 (qX (r.2,((0:Int),()))).2) (kn (qD (ks,l,(l.length:Int),((k+1:Nat):Int),z,r.1))):=by intro R kn kx;rw[JA,bh aq,aj,bB aq aq,aj,bB aq aq,aj];simp only[aa,n1,n2];rw[c1,ag,N.pV aq]
  by_cases hz:r.2=0
  ·left;refine⟨(ks,l,(l.length:Int),((k+1:Nat):Int),z,r.1),⟨J9 hz,hx,hu,hl,Vk,rfl,k+1,aq,rfl⟩,by simp only[aa];omega,?_,λkn kx=> ?_⟩
   ·simp only[lX,qW,aa,e,if_pos hz]
   ·rw[step,dX hz,ao]
  ·right;refine⟨qX (r.2,((0:Int),())),?_,λkn kx=> ?_⟩
   ·simp only[lX,qW,aa,e,if_neg hz];rfl
   ·rw[step,fY hz,aj]
 ·right;obtain rfl:k=l.length:=aq;refine⟨zD (z,t),?_,λkn kx=> ?_⟩
  ·simp only[lX,qW,aa,bj];rfl
  ·rw[JA,aW aq,ao]
theorem aFf{l:List eK}{to:Lk}{n:Int}(hl:l.length<=64)(hx:∀x∈l,aDo x)(I8:agE to):A7 (l.map F9,([(n,(to,()))],((0:Int),()))):=by
 refine⟨⟨λo ho=> ?_,by show(l.map F9).length<=_;rw[bg];omega,by show 1<=_;decide⟩,λx h=> ?_,by show(0:Int)<=_;decide⟩
 ·rw[bf.1 (show o∈ [(n,(to,()))] from ho)];exact I8
 ·obtain⟨y,hy,rfl⟩:=cr.1 (show x∈l.map F9 from h);exact⟨(hx y hy).1,⟨λs hs=>(by cases hs),dp 0,by show(0:Int) < 18446744073709551616;decide⟩,aS _⟩
theorem axu:vZ.Ok:=by
 rintro⟨l,ks,to,dL⟩ ⟨hx,hu,I8,aAA,aAz,hf⟩;have hx:∀x∈l,aDo x:=hx;have I8:agE to:=I8;have aAA:l.length<=1000000000:=aAA;have aAz:ks.length<=1000000000:=aAz;have hf: -1125899906842624<=dL/\dL<=9223372036854775807:=hf;have z1:((0:Int)).toNat=0:=rfl;rw[axt];simp only[bG,ar3,Gw];by_cases a1:1<=l.length;rotate_left
 ·rw[bh aq,aj,if_neg (λe=>a1 e.1)];rfl
 rw[aW aq,ao];by_cases a2:l.length<=64;rotate_left
 ·rw[dy aq,aj,if_neg (λe=>a2 e.2.1)];rfl
 rw[cY aq,ao];by_cases a3:l.length=ks.length;rotate_left
 ·rw[fY aq,aj,if_neg (λe=>a3 e.2.2.1)];rfl
 rw[dX aq,ao,tE (d:=to) ⟨I8.1,I8.2⟩];simp only[ag,bG,yM];cases a4:ju to with
 |false=>
  rw[dA,aj,if_neg (λe=>by cases e.2.2.2)];rfl
 |true=>
 rw[bR,ao,if_pos ⟨a1,a2,a3,rfl⟩,acS (d:=(l,ks,dL,to,0,l,(l.length:Int),0,(0,()),0,(0,()),[])) ⟨a2,a3,rfl,rfl,0,aS _,rfl,aC _⟩];simp only[ag,lW,qV,z1,aN];cases hm:yE 0 [] l ks with
 |none=>rfl
 |some r=>
  obtain⟨r1,r2,r3⟩:=akW l ks 0 [] a3 (dp 0) eR hm;simp only[ig,ao,fP,ag];by_cases b1:dL < 0
  ·rw[bh b1,aj,if_pos (.inl b1)];rfl
  rw[aW b1,ao];by_cases b2:dL > r.1
  ·rw[dy b2,aj,if_pos (.inr b2)];rfl
  rw[cY b2,ao,if_neg (λe=>e.elim b1 b2),aM ⟨trivial,aq⟩,aj,fA rfl,eV aq aq];rw[aT]at r3;have hv:A7 (r.2,([(r.1 - dL,(to,()))],((0:Int),()))):=by rw[r3];exact aFf a2 hx I8
  rw[acT (d:=(ks,l,(l.length:Int),0,(0,()),(r.2,([(r.1 - dL,(to,()))],((0:Int),()))))) ⟨hv,λx h=>(hx x h).2,hu,a2,a3,rfl,0,aS _,rfl⟩];simp only[ag,lX,qW,z1,aN];generalize BP _ 0 l ks=q;cases q with
  |inl t=>rfl
  |inr e=>rfl
theorem ar5:vZ.RS:=rE [.d (.slice fp),.d tU,.d I9,.d ti] vZ
def axv:=vZ.gr axu 2 ⟨.iB ahk,⟨.iB ahl,trivial⟩⟩
abbrev akv:=iI×Bs×Lk×Int×vY×Int
abbrev Jn:=fN×Int×Int
def vA(g:iI)(ks:List Int)(to:Lk)(h:Int)(b:vY)(bF:Int):fN×Int×Int:=if bF > 0/\so g h b<=bF then(agC,0,4) else if(if bF > 0 then imax (so g h b) (bF+sX g.1) else so g h b) > g.2.2.1 then(agC,0,13) else if(Gw g.1 ks to (if bF > 0 then imax (so g h b) (bF+sX g.1) else so g h b)).2≠0 then(agC,0,(Gw g.1 ks to (if bF > 0 then imax (so g h b) (bF+sX g.1) else so g h b)).2) else((Gw g.1 ks to (if bF > 0 then imax (so g h b) (bF+sX g.1) else so g h b)).1,(if bF > 0 then imax (so g h b) (bF+sX g.1) else so g h b),0)
def amF:akv->Prop:=λ(g,ks,to,h,b,bF)=>aA9 g/\(0<=h/\h<=9223372036854775807)/\(∀x∈g.1,aDo x)/\(∀k∈ks,mm k)/\agE to/\g.1.length<=1000000/\ks.length<=1000000000/\bF<=1125899906842624
def akw:akv->Jn:=λ(g,ks,to,h,b,bF)=>vA g ks to h b bF
def jg:Fs Tryz.prog amF bG akw:=gf 9 Tryz.f9 (λ(g,keys,to,atv,b,bF)=>([.d ir g,.d tU keys,.d I9 to,.d ti atv,.d yc b,.d ti bF],[])) (λx=>⟨.cons (.d jk x.1) (.cons (.d ti x.2.1) (.cons (.d ti x.2.2) (.nil))),[],[]⟩) [au ir,au tU,au I9,au ti,au yc,au ti] [axh,BY,axv] {res:=[au jk,aH,aH]}
theorem arw(g keys to atv b bF)(k:K1 R):jg.A (g,keys,to,atv,b,bF) k=ax (Q3.call (g,atv,b)) λx1=>aP (wC bF 0) (aP (aad x1 bF) (k (jg.out ((([]:List gU),(([]:List jo),(0,()))),0,4))) (ax (lv.call g.1) λx2=>aP (wC (imax x1 (bT .i64 bF x2)) g.2.2.1) (k (jg.out ((([]:List gU),(([]:List jo),(0,()))),0,13))) (ax (vZ.call (g.1,keys,to,(imax x1 (bT .i64 bF x2)))) λx3=>aP (DF x3.2 0) (k (jg.out ((([]:List gU),(([]:List jo),(0,()))),0,x3.2))) (k (jg.out (x3.1,(imax x1 (bT .i64 bF x2)),0)))))) (aP (wC x1 g.2.2.1) (k (jg.out ((([]:List gU),(([]:List jo),(0,()))),0,13))) (ax (vZ.call (g.1,keys,to,x1)) λx4=>aP (DF x4.2 0) (k (jg.out ((([]:List gU),(([]:List jo),(0,()))),0,x4.2))) (k (jg.out (x4.1,x1,0))))):=cW
theorem arx:jg.Ok:=by
 rintro⟨g,ks,to,h,b,bF⟩ ⟨hg,hh,hx,hu,I8,hl,hk,ho⟩;have hl:g.1.length<=1000000:=hl;have ho:bF<=1125899906842624:=ho;have hf:=ahG (h:=h) (b:=b) hg;have hw:=wz g.1;obtain⟨⟨g1,g2,g3⟩,_⟩:=id hg;have cm:∀dL:Int,0<=dL->dL<=1125899906842624->vZ.call (g.1,ks,to,dL)=au (Gw g.1 ks to dL):=λdL h0 h1=>ar5 (d:=(g.1,ks,to,dL)) ⟨hx,hu,I8,by show g.1.length<=_;omega,hk,by show -1125899906842624<=dL;omega,by show dL<=_;omega⟩
 rw[arw,ars (d:=(g,h,b)) ⟨hg,hh.1,hh.2⟩];simp only[ag,bG,agY,bG,akw,vA];generalize so g h b=f at hf;by_cases a1:bF > 0
 ·rw[dy a1,aj];by_cases a2:f<=bF
  ·rw[p9 a2,aj,if_pos ⟨a1,a2⟩];rfl
  ·rw[jO a2,ao,if_neg (λe=>a2 e.2),zz (d:=g.1) (by show g.1.length<=_;omega)];simp only[ag,bG,tp,if_pos a1];rw[eU (x:=bF) aq aq];have h1:0<=imax f (bF+sX g.1):=by unfold imax;split <;> omega
   generalize imax f (bF+sX g.1)=q at h1;by_cases a3:q > g.2.2.1
   ·rw[dy a3,aj,if_pos a3];rfl
   ·rw[cY a3,ao,if_neg a3,cm q h1 aq];simp only[ag];generalize Gw g.1 ks to q=r;by_cases a4:r.2=0
    ·rw[dX a4,ao,if_neg (λe=>e a4)]
    ·rw[fY a4,aj,if_pos a4];rfl
 ·rw[cY a1,ao,if_neg (λe=>a1 e.1),if_neg a1];by_cases a3:f > g.2.2.1
  ·rw[dy a3,aj,if_pos a3];rfl
  ·rw[cY a3,ao,if_neg a3,cm f aq aq];simp only[ag];generalize Gw g.1 ks to f=r;by_cases a4:r.2=0
   ·rw[dX a4,ao,if_neg (λe=>e a4)]
   ·rw[fY a4,aj,if_pos a4];rfl
theorem Bd:jg.RS:=rE [.d ir,.d tU,.d I9,.d ti,.d yc,.d ti] jg
def DP:=jg.gr arx
section
theorem aAV{R:Type}{c:Bool}{x y r:Option R}(h:c=aO)(h2:x=r):aP c x y=r:=by rw[h];exact h2
theorem DA{X R:Type}{x:Option X}{a:X}{f:X->Option R}{r:Option R}(h:x=au a)(h2:f a=r):ax x f=r:=by rw[h];exact h2
def oC(n a u:Int):eK:=((ai 32 0,(n,())),((a,(iy [eQ (n+2)],())),(0,(0,(0,(u,()))))))
def aoN:(Int×Int×Int)->Prop:=λ(n,_,_)=>0<=n/\n<=100
def alC:(Int×Int×Int)->eK:=λ(n,a,u)=>oC n a u
def BG:Fs Tryz.prog aoN bG alC:=gf 5 Tryz.f5 (λ(n,amount,untilv)=>([.d ti n,.d ti amount,.d ti untilv],[])) (λx=>⟨.d fp x,[],[]⟩) [au ti,au ti,au ti] [KO,aao]
theorem aup(n amount untilv)(k:K1 R):BG.A (n,amount,untilv) k=ax (ER.call (dP .u64 (bT .i64 n 2))) λx1=>ax (M4.call x1) λx2=>k (BG.out (((ai 32 0),(n,())),((amount,(x2,())),(0,(0,(0,(untilv,()))))))):=cW
theorem auq:BG.Ok:=by
 rintro⟨n,a,u⟩ ⟨h0,h1⟩;have h0:0<=n:=h0;have h1:n<=100:=h1;have e:dP .u64 (bT .i64 n 2)=n+2:=by rw[eU aq aq,En];omega
 rw[aup,e,BI (d:=n+2) ⟨aq,aq⟩];simp only[ag,bG,KN];rw[Sv (d:=eQ (n+2)) trivial];rfl
theorem Ye:BG.RS:=rE [.d ti,.d ti,.d ti] BG
def aeS:=BG.gr auq
def XT:List eK:=[oC 3 1000 0,oC 1 500 50,oC 2 35 0,oC 5 700 0,oC 4 300 30]
def DD:vY:=(2,(1,(4,())))
theorem aki:∀x∈ai 32 (0:Int),0<=x/\x < 256:=λx hx=>by rw[(mi.1 hx).2];exact⟨eR,eR⟩
theorem aoK(n a u:Int)(hu:u<=100):WT (oC n a u):=⟨⟨cq,aki⟩,⟨by show 1<=_;decide,λb hb=>by
 rw[bf.1 (show b∈ [([eQ (n+2)],(0,(0,(0,()))))] from hb)];show 1<=_;decide⟩,by show u<=_;omega⟩
theorem aCL(n a u:Int):aDo (oC n a u):=⟨⟨cq,aki⟩,dp 0,by show(0:Int) < 18446744073709551616;decide⟩
theorem atu:∀x∈XT,WT x:=λx hx=>by
 unfold XT at hx;simp only[bA,gK,vF]at hx;rcases hx with rfl | rfl | rfl | rfl | rfl
 ·exact aoK _ _ _ eR
 ·exact aoK _ _ _ eR
 ·exact aoK _ _ _ eR
 ·exact aoK _ _ _ eR
 ·exact aoK _ _ _ eR
theorem axA:yo (oC 1 500 50) (oC 4 300 30)=1:=by unfold yo v7;rfl
theorem axx:VD (oC 5 700 0) (oC 3 1000 0)=1:=by unfold VD;rw[sj ⟨cq,aki⟩ ⟨cq,aki⟩];decide
theorem akS:eS XT DD 10=[oC 4 300 30,oC 1 500 50]:=by
 have e:XT.filter (Bq DD 10)=[oC 1 500 50,oC 4 300 30]:=cW;have hq:∀x∈ [oC 1 500 50,oC 4 300 30],ab8 x:=λx hx=>by simp only[bA,gK,vF]at hx;rcases hx with rfl | rfl <;> exact⟨cq,aki⟩
 unfold eS;rw[e];refine(IP MA hq (λx hx y hy h1 h2=> ?_) ⟨List.Perm.swap ..,?_⟩).symm
 ·have:=Oh (hq x hx) (hq y hy) h1 h2;simp only[bA,gK,vF]at hx hy;rcases hx with rfl | rfl <;> rcases hy with rfl | rfl
  ·rfl
  ·cases bK (λo:dC=>o.2.1) this
  ·cases bK (λo:dC=>o.2.1) this
  ·rfl
 ·refine qt.2 ⟨λy hy=> ?_,List.pairwise_singleton _ _⟩;rw[bf.1 hy,axA];decide
theorem avy:kM XT DD 10=[oC 3 1000 0,oC 5 700 0]:=by
 have e:XT.filter (BN DD 10)=[oC 3 1000 0,oC 5 700 0]:=cW;have hq:∀x∈ [oC 3 1000 0,oC 5 700 0],ab8 x:=λx hx=>by simp only[bA,gK,vF]at hx;rcases hx with rfl | rfl <;> exact⟨cq,aki⟩
 unfold kM;rw[e];refine(IP Rn hq (λx hx y hy h1 h2=> ?_) ⟨lB _,?_⟩).symm
 ·have:x.1=y.1:=Ro (hq x hx) (hq y hy) h1 h2;simp only[bA,gK,vF]at hx hy;rcases hx with rfl | rfl <;> rcases hy with rfl | rfl
  ·rfl
  ·cases bK (λo:dC=>o.2.1) this
  ·cases bK (λo:dC=>o.2.1) this
  ·rfl
 ·refine qt.2 ⟨λy hy=> ?_,List.pairwise_singleton _ _⟩;rw[bf.1 hy,axx];decide
def aBN:iI:=([oC 4 300 30],(36,(300,(30,()))))
def tw(m:Int):iI:=([oC 1 500 50],(36,(m,(50,()))))
def RT:iI:=([oC 3 1000 0,oC 5 700 0],(54,(54,(0,()))))
def aBO:iI:=([oC 4 300 30],(36,(54,(30,()))))
theorem aze:K7 XT 800 DD 10=([aBN,tw 446,RT],0):=by have e:oD XT 800 DD 10=aO:=cW;unfold K7 rr qv;rw[if_pos e,akS,avy];exact(by kernel_rfl:(l9 2 (pX 800 ([oC 4 300 30,oC 1 500 50].map ln++(jj [oC 3 1000 0,oC 5 700 0]).map gA)).1 (pX 800 ([oC 4 300 30,oC 1 500 50].map ln++(jj [oC 3 1000 0,oC 5 700 0]).map gA)).2,(0:Int))=([aBN,tw 446,RT],0))
theorem azf:K7 XT 90 DD 10=([aBO,tw 36],0):=by have e:oD XT 90 DD 10=aO:=cW;unfold K7 rr qv;rw[if_pos e,akS,avy];exact(by kernel_rfl:(l9 2 (pX 90 ([oC 4 300 30,oC 1 500 50].map ln++(jj [oC 3 1000 0,oC 5 700 0]).map gA)).1 (pX 90 ([oC 4 300 30,oC 1 500 50].map ln++(jj [oC 3 1000 0,oC 5 700 0]).map gA)).2,(0:Int))=([aBO,tw 36],0))
theorem azg:K7 (XT++ [oC 3 1000 0]) 90 DD 10=([],1):=by unfold K7;rw[if_neg];intro h;unfold oD at h;simp only[al]at h;have:=((IL _).1 h.2.2.2).2.1;exact absurd this (by unfold XT;simp[oC])
theorem aFk(P:Int)(hP:yI P=aO)(hu:mm P)(dL:Int)(h0:0<=dL)(h1:dL<=500):∃t:fN,Gw [oC 1 500 50] [3] (iy [P]) dL=(t,0)/\t.1.length=1/\t.2.1.length=1:=by
 have hl:ju (iy [P])=aO:=by rw[Kn [P] (by show 1<=12;decide)];simp only[mY,List.all_nil,hP,jx]
 have hg:yE 0 [] [oC 1 500 50] [3]=au (500,[F9 (oC 1 500 50)]):=cW;have iS:iF ([F9 (oC 1 500 50)],([(500 - dL,(iy [P],()))],((0:Int),())))=aO:=by have e1:By [] [F9 (oC 1 500 50)]=aO:=cW;unfold iF NP;show(decide (1<=1/\1<=64/\1<=64/\(0:Int)<=0) && (By [] [F9 (oC 1 500 50)] && (((pN 0 && (pN (500 - dL) && decide (0+(500 - dL)<=1125899906842624))) && ju (iy [P])) && aO)))=aO;have e2:pN (500 - dL)=aO:=aM ⟨aq,aq⟩;rw[e1,hl,e2,aM (p:=0+(500 - dL)<=1125899906842624) aq];rfl
 have hs:tV ([F9 (oC 1 500 50)],([(500 - dL,(iy [P],()))],((0:Int),()))) 0 0 [3]=aO:=by unfold tV;rw[iS,aM ⟨eR,by show(0:Int) < ((1:Nat):Int);decide,eR,eR,by show 1<=12;decide⟩];rfl
 have hv:vQ ([F9 (oC 1 500 50)],([(500 - dL,(iy [P],()))],((0:Int),()))) ((0:Nat):Int) 0 [3] 0=(DB ([F9 (oC 1 500 50)],([(500 - dL,(iy [P],()))],((0:Int),()))) 0 (DC ([F9 (oC 1 500 50)],([(500 - dL,(iy [P],()))],((0:Int),()))) 0 [3] 0),0):=by rw[show((0:Nat):Int)=0 from rfl,Us,if_pos hs];rfl
 refine⟨DB ([F9 (oC 1 500 50)],([(500 - dL,(iy [P],()))],((0:Int),()))) 0 (DC ([F9 (oC 1 500 50)],([(500 - dL,(iy [P],()))],((0:Int),()))) 0 [3] 0),?_,by rw[afI];rfl,rfl⟩;unfold Gw;rw[if_pos ⟨by show 1<=1;decide,by show 1<=64;decide,rfl,hl⟩,hg];show(if dL < 0\/dL > 500 then(agC,8) else match BP ([F9 (oC 1 500 50)],([(500 - dL,(iy [P],()))],((0:Int),()))) 0 [oC 1 500 50] [3]with | .inl t=>(t,0) | .inr e=>(agC,e))=_;have es:BP ([F9 (oC 1 500 50)],([(500 - dL,(iy [P],()))],((0:Int),()))) 0 [oC 1 500 50] [3]= .inl (DB ([F9 (oC 1 500 50)],([(500 - dL,(iy [P],()))],((0:Int),()))) 0 (DC ([F9 (oC 1 500 50)],([(500 - dL,(iy [P],()))],((0:Int),()))) 0 [3] 0)):=by rw[BP,show(oC 1 500 50).2.2.1=0 from rfl,show(oC 1 500 50).2.2.2.1=0 from rfl,hv,if_pos rfl];rfl
 rw[if_neg aq,es]
theorem ays:yI 4=aO:=by decide+kernel
def I3(P dL:Int):fN:=(Gw [oC 1 500 50] [3] (iy [P]) dL).1
theorem abS{P:Int}(hP:yI P=aO)(hu:mm P){dL:Int}(h0:0<=dL)(h1:dL<=500):Gw [oC 1 500 50] [3] (iy [P]) dL=(I3 P dL,0)/\(I3 P dL).1.length=1/\(I3 P dL).2.1.length=1:=by
 obtain⟨t,h2,h3,h4⟩:=aFk P hP hu dL h0 h1;have e:I3 P dL=t:=by unfold I3;rw[h2]
 rw[e];exact⟨h2,h3,h4⟩
def aDU:List iI×Int:=([aBN,tw 446,RT],0)
def aDV:List iI×Int:=([aBO,tw 36],0)
def aDW:List iI×Int:=([],1)
def aDS:fN×Int×Int:=(I3 4 36,36,0)
def aDT:fN×Int×Int:=(I3 4 446,446,0)
def aFo:fN×Int×Int:=(agC,0,4)
def aFp:fN×Int×Int:=(agC,0,13)
open Classical in
def lh{X:Type}(x0 x:X):Option Unit:=if x=x0 then au () else aH
theorem vE{X:Type}{x0:X}(x:X)(z:Unit)(h:lh x0 x=au z):x=(λ_:Unit=>x0) z:=by
 unfold lh at h;split at h
 ·assumption
 ·cases h
theorem zK{X:Type}(x0:X):te (lh x0) (au x0)=au ():=by unfold te lh;exact if_pos rfl
def aid(n:Int)(m:Bool):List aF->Bool:=λvs=>match vs with | [.d _ _,.d (.int _) k,_,_]=>decide ((k:Int)=n) && !m | [.cM ..,.d (.int _) k,_,_]=>decide ((k:Int)=n) && m | _=>aV
def aaj(h o:Int):List aF->Bool:=λvs=>match vs with | [_,_,_,.d (.int _) k,_,.d (.int _) j]=>decide ((k:Int)=h) && decide ((j:Int)=o) | _=>aV
def ap7:Int:=20
def aGA.E:Entry:=Entry.half [au (.slice fp),au ti,au yc,au ti] (X:=K6) (Z:=Unit) fB.E.run fB.E.out (λ_=>aDU) (lh aDU)
def aGA.sg:SG Tryz.prog:=⟨7,(aid 800 aV),aGA.E,nO.of (nI.half vE (Gj.h.1 (by rfl))) (by rfl)⟩
def aGB.E:Entry:=Entry.half [au (.slice fp),au ti,au yc,au ti] (X:=K6) (Z:=Unit) fB.E.run fB.E.out (λ_=>aDV) (lh aDV)
def aGB.sg:SG Tryz.prog:=⟨7,(aid 90 aV),aGB.E,nO.of (nI.half vE (Gj.h.1 (by rfl))) (by rfl)⟩
def aGC.E:Entry:=Entry.half [au (.slice fp),au ti,au yc,au ti] (X:=K6) (Z:=Unit) fB.E.run fB.E.out (λ_=>aDW) (lh aDW)
def aGC.sg:SG Tryz.prog:=⟨7,(aid 90 aO),aGC.E,nO.of (nI.half vE (Gj.h.1 (by rfl))) (by rfl)⟩
def aGv.E:Entry:=Entry.half [au ir,au tU,au I9,au ti,au yc,au ti] (X:=Jn) (Z:=Unit) jg.E.run jg.E.out (λ_=>aDS) (lh aDS)
def aGv.sg:SG Tryz.prog:=⟨9,(aaj (10) 0),aGv.E,nO.of (nI.half vE (DP.h.1 (by rfl))) (by rfl)⟩
def aGw.E:Entry:=Entry.half [au ir,au tU,au I9,au ti,au yc,au ti] (X:=Jn) (Z:=Unit) jg.E.run jg.E.out (λ_=>aDT) (lh aDT)
def aGw.sg:SG Tryz.prog:=⟨9,(aaj (30) 36),aGw.E,nO.of (nI.half vE (DP.h.1 (by rfl))) (by rfl)⟩
def aGx.E:Entry:=Entry.half [au ir,au tU,au I9,au ti,au yc,au ti] (X:=Jn) (Z:=Unit) jg.E.run jg.E.out (λ_=>aFo) (lh aFo)
def aGx.sg:SG Tryz.prog:=⟨9,(aaj (30) 446),aGx.E,nO.of (nI.half vE (DP.h.1 (by rfl))) (by rfl)⟩
def aGy.E:Entry:=Entry.half [au ir,au tU,au I9,au ti,au yc,au ti] (X:=Jn) (Z:=Unit) jg.E.run jg.E.out (λ_=>aFp) (lh aFp)
def aGy.sg:SG Tryz.prog:=⟨9,(aaj (60) 36),aGy.E,nO.of (nI.half vE (DP.h.1 (by rfl))) (by rfl)⟩
def aGD.E:Entry:=Entry.half [au yc] (X:=Int) (Z:=Unit) BS.E.run BS.E.out (λ_=>ap7) (lh ap7)
def aGD.sg:SG Tryz.prog:=⟨14,wI,aGD.E,nO.of (nI.half vE (Vf.h.1 (by rfl))) (by rfl)⟩
def afT:Unit->Prop:=λ_=>True
def YG:Unit->Bool:=λ_=>aO
def xH:Fs Tryz.prog afT bG YG:=gf 4 Tryz.f4 (λ_=>([],[])) (λx=>⟨.d .bool x,[],[]⟩) [] [aeS,aGA.sg,aGB.sg,aGC.sg,aGD.sg,aao,aGv.sg,aGw.sg,aGx.sg,aGy.sg,BY] {bM:=[44]}
theorem ajG(d)(k:K1 R):xH.A d k=ax (BG.call (3,1000,0)) λsY=>ax (BG.call (1,500,50)) λagA=>ax (BG.call (2,35,0)) λWQ=>ax (BG.call (5,700,0)) λaD1=>ax (BG.call (4,300,30)) λaA0=>ax (te (lh aDU) (fB.call ([sY,agA,WQ,aD1,aA0],800,(2,(1,(4,()))),10))) λL4=>ax (te (lh aDV) (fB.call ([sY,agA,WQ,aD1,aA0],90,(2,(1,(4,()))),10))) λaKo=>ax (te (lh aDW) (fB.call ([sY,agA,WQ,aD1,aA0,sY],90,(2,(1,(4,()))),10))) λaH4=>ax (te (lh ap7) (BS.call (2,(1,(4,()))))) λaH6=>ax (M4.call 4) λaJ2=>ax (te (lh aDS) (jg.call (([(((ai 32 0),(1,())),((500,((iy [eQ (1+2)]),())),(0,(0,(0,(50,()))))))],(36,(446,(50,())))),[3],aJ2,10,(2,(1,(4,()))),0))) λaKp=>ax (M4.call 4) λaJ4=>ax (te (lh aDT) (jg.call (([(((ai 32 0),(1,())),((500,((iy [eQ (1+2)]),())),(0,(0,(0,(50,()))))))],(36,(446,(50,())))),[3],aJ4,30,(2,(1,(4,()))),36))) λaKq=>ax (M4.call 4) λaDn=>ax (te (lh aFo) (jg.call (([(((ai 32 0),(1,())),((500,((iy [eQ (1+2)]),())),(0,(0,(0,(50,()))))))],(36,(446,(50,())))),[3],aDn,30,(2,(1,(4,()))),446))) λaIN=>ax (M4.call 4) λaJ6=>ax (te (lh aFp) (jg.call (([(((ai 32 0),(3,())),((1000,((iy [eQ (3+2)]),())),(0,(0,(0,(0,())))))),(((ai 32 0),(5,())),((700,((iy [eQ (5+2)]),())),(0,(0,(0,(0,()))))))],(54,(54,(0,())))),[5,7],aJ6,60,(2,(1,(4,()))),36))) λaKr=>aP (Qw (aDS.1.1.length:Int) 1) (aP (Qw (aDT.1.2.1.length:Int) 1) (ax (lv.call [sY,agA,WQ,aD1,aA0]) λaJ7=>k (xH.out (Qw aJ7 108))) (k (xH.out aV))) (k (xH.out aV)):=cW
theorem aCE{P:Int}(hp:yI P=aO)(hu:mm P):jg.call (tw 446,[3],iy [P],10,DD,0)=au (I3 P 36,36,0)/\jg.call (tw 446,[3],iy [P],30,DD,36)=au (I3 P 446,446,0)/\jg.call (tw 446,[3],iy [P],30,DD,446)=au (agC,0,4)/\jg.call (RT,[5,7],iy [P],60,DD,36)=au (agC,0,13):=by
 obtain⟨ht,_⟩:=abS (dL:=36) hp hu eR eR;obtain⟨ht',_⟩:=abS (dL:=446) hp hu eR eR;have gb:aA9 (tw 446):=⟨⟨by show(0:Int)<=36;decide,by show(36:Int)<=446;decide,by show(446:Int)<=1125899906842624;decide⟩,by show(0:Int)<=50;decide,by show(50:Int)<=9223372036854775807;decide⟩;have gc:aA9 RT:=⟨⟨by show(0:Int)<=54;decide,by show(54:Int)<=54;decide,by show(54:Int)<=1125899906842624;decide⟩,by show(0:Int)<=0;decide,by show(0:Int)<=9223372036854775807;decide⟩;have lp:agE (iy [P]):=⟨ayD (λk hk=>by rw[bf.1 hk];exact hu),by show 1<=9223372036854775807;decide⟩;have k3:∀k∈([3]:List Int),mm k:=λk hk=>by rw[bf.1 hk];exact⟨eR,eR⟩
 have xb:∀m,∀x∈(tw m).1,aDo x:=λm x hx=>by rw[bf.1 (show x∈ [oC 1 500 50] from hx)];exact aCL _ _ _
 have f1:so (tw 446) 10 DD=36:=cW;have f2:so (tw 446) 30 DD=446:=cW;have n1:jg.call (tw 446,[3],iy [P],10,DD,0)=au (I3 P 36,36,0):=by
  rw[Bd (d:=(tw 446,[3],iy [P],10,DD,0)) ⟨gb,⟨eR,eR⟩,xb _,k3,lp,by show 1<=1000000;decide,by show 1<=1000000000;decide,by show(0:Int)<=_;decide⟩];refine bK au ?_
  show vA (tw 446) [3] (iy [P]) 10 DD 0=_;unfold vA;rw[f1,if_neg (λe=>absurd e.1 eR),if_neg (show ¬(0:Int) > 0 by decide),if_neg (show ¬(36:Int) > (tw 446).2.2.1 from(by show ¬(36:Int) > 446;decide)),show Gw (tw 446).1 [3] (iy [P]) 36=(I3 P 36,0) from ht,if_neg (λe=>e rfl)]
 have n2:jg.call (tw 446,[3],iy [P],30,DD,36)=au (I3 P 446,446,0):=by
  rw[Bd (d:=(tw 446,[3],iy [P],30,DD,36)) ⟨gb,⟨eR,eR⟩,xb _,k3,lp,by show 1<=1000000;decide,by show 1<=1000000000;decide,by show(36:Int)<=_;decide⟩];refine bK au ?_
  show vA (tw 446) [3] (iy [P]) 30 DD 36=_;unfold vA;rw[f2,if_neg (λe=>absurd e.2 eR),if_pos (show(36:Int) > 0 by decide),show imax 446 (36+sX (tw 446).1)=446 by kernel_rfl,if_neg (show ¬(446:Int) > (tw 446).2.2.1 from(by show ¬(446:Int) > 446;decide)),show Gw (tw 446).1 [3] (iy [P]) 446=(I3 P 446,0) from ht',if_neg (λe=>e rfl)]
 have n3:jg.call (tw 446,[3],iy [P],30,DD,446)=au (agC,0,4):=by
  rw[Bd (d:=(tw 446,[3],iy [P],30,DD,446)) ⟨gb,⟨eR,eR⟩,xb _,k3,lp,by show 1<=1000000;decide,by show 1<=1000000000;decide,by show(446:Int)<=_;decide⟩];refine bK au ?_
  show vA (tw 446) [3] (iy [P]) 30 DD 446=_;unfold vA;rw[f2,if_pos ⟨eR,eR⟩]
 have n4:jg.call (RT,[5,7],iy [P],60,DD,36)=au (agC,0,13):=by
  rw[Bd (d:=(RT,[5,7],iy [P],60,DD,36)) ⟨gc,⟨eR,eR⟩,λx hx=>by
   rcases bA.1 (show x∈ [oC 3 1000 0,oC 5 700 0] from hx) with rfl | hx
   ·exact aCL _ _ _
   ·rw[bf.1 hx];exact aCL _ _ _,λk hk=>by
   rcases bA.1 hk with rfl | hk
   ·exact⟨eR,eR⟩
   ·rw[bf.1 hk];exact⟨eR,eR⟩,lp,by show 2<=1000000;decide,by show 2<=1000000000;decide,by show(36:Int)<=_;decide⟩]
  refine bK au ?_
  show vA RT [5,7] (iy [P]) 60 DD 36=_;have f3:so RT 60 DD=54:=cW;unfold vA;rw[f3,if_neg (λe=>absurd e.2 eR),if_pos (show(36:Int) > 0 by decide),show imax 54 (36+sX RT.1)=90 by kernel_rfl,if_pos (show(90:Int) > RT.2.2.1 from(by show(90:Int) > 54;decide))]
 exact⟨n1,n2,n3,n4⟩
theorem ajH:xH.Ok:=by
 rintro⟨⟩ _;have u4:mm 4:=⟨eR,eR⟩;obtain⟨n1,n2,n3,n4⟩:=aCE ays u4;obtain⟨_,t1,_⟩:=abS (dL:=36) ays u4 eR eR;obtain⟨_,_,t2⟩:=abS (dL:=446) ays u4 eR eR;have cl:M4.call 4=au (iy [4]):=Sv (d:=4) trivial;have c1:∀n a u:Int,0<=n->n<=100->BG.call (n,a,u)=au (oC n a u):=λn a u h0 h1=>Ye (d:=(n,a,u)) ⟨h0,h1⟩
 have p1:fB.call (XT,800,DD,10)=au aDU:=(CI (d:=(XT,800,DD,10)) atu).trans (bK au aze);have p2:fB.call (XT,90,DD,10)=au aDV:=(CI (d:=(XT,90,DD,10)) atu).trans (bK au azf);have p3:fB.call (XT++ [oC 3 1000 0],90,DD,10)=au aDW:=(CI (d:=(XT++ [oC 3 1000 0],90,DD,10)) (λx hx=>by
  rcases bp.1 hx with hx | hx
  ·exact atu x hx
  ·rw[bf.1 hx];exact aoK _ _ _ eR)).trans (bK au azg)
 have cs:BS.call DD=au ap7:=(NS (d:=DD) trivial).trans (by rfl);have w1:lv.call XT=au 108:=(zz (d:=XT) (by show 5<=1000000000;decide)).trans cW;rw[ajG];refine DA (c1 3 1000 0 eR eR) ?_
 refine DA (c1 1 500 50 eR eR) ?_
 refine DA (c1 2 35 0 eR eR) ?_
 refine DA (c1 5 700 0 eR eR) ?_
 refine DA (c1 4 300 30 eR eR) ?_
 refine DA ((bK (te (lh aDU)) p1).trans (zK aDU)) ?_
 refine DA ((bK (te (lh aDV)) p2).trans (zK aDV)) ?_
 refine DA ((bK (te (lh aDW)) p3).trans (zK aDW)) ?_
 refine DA ((bK (te (lh ap7)) cs).trans (zK ap7)) ?_
 refine DA cl ?_
 refine DA ((bK (te (lh aDS)) n1).trans (zK aDS)) ?_
 refine DA cl ?_
 refine DA ((bK (te (lh aDT)) n2).trans (zK aDT)) ?_
 refine DA cl ?_
 refine DA ((bK (te (lh aFo)) n3).trans (zK aFo)) ?_
 refine DA cl ?_
 refine DA ((bK (te (lh aFp)) n4).trans (zK aFp)) ?_
 refine aAV (jV (by show(((I3 4 36).1.length:Nat):Int)=1;rw[t1];rfl)) ?_
 refine aAV (jV (by show(((I3 4 446).2.1.length:Nat):Int)=1;rw[t2];rfl)) ?_
 refine DA w1 ?_
 rfl
theorem afU:xH.RS:=rE [] xH
def ajI:=xH.gr ajH
end
section
def td:Int->List iI->List iI
 |_,[]=> []
 |b,g::l=>PW g (qc b g)::td (b - qc b g) l
theorem XY:∀(A B:List iI) (b:Int),l9 A.length b (A++B)=td b A++B
 |[],B,b=>rfl
 |g::A,B,b=>by rw[aB,oQ,l9,XY A,td,oQ]
theorem aeA:∀(n:Nat) (b:Int) (l:List iI),l.length<=n->l9 n b l=td b l
 |n,b,[],_=>by cases n <;> rfl
 | 0,b,g::l,h=>by cases h
 |n+1,b,g::l,h=>by rw[l9,td,aeA n _ l (Nat.le_of_succ_le_succ h)]
def sB(l:List iI):Int:=(l.map (·.2.1)).sum
theorem atX:sB []=0:=rfl
theorem tF(g:iI)(l:List iI):sB (g::l)=g.2.1+sB l:=by unfold sB;rw[bn,mZ]
theorem OW(l l':List iI):sB (l++l')=sB l+sB l':=by unfold sB;rw[ji,List.sum_append]
theorem BB:∀ {l:List iI},(∀g∈l,0<=g.2.1)->0<=sB l
 |[],_=>dp 0
 |a::l,h=>by
  have h1:=h a aG;have h2:=BB (l:=l) λx hx=>h x (aD _ hx)
  rw[tF];omega
theorem SE:∀ {l:List iI} {g:iI},(∀g∈l,0<=g.2.1)->g∈l->g.2.1<=sB l
 |[],_,_,h=>by cases h
 |a::l,g,h0,h=>by
  have h1:=h0 a aG;have h2:0<=sB l:=BB λx hx=>h0 x (aD _ hx)
  rw[tF];rcases bA.1 h with rfl | h
  ·omega
  ·have:=SE (λx hx=>h0 x (aD _ hx)) h;omega
theorem Xn:∀(l:List iI) (b:Int),(∀g∈l,0<=g.2.1)->0<=b->∃K R,l=K++R/\(pX b l).2=K/\(pX b l).1+sB K=b/\0<=(pX b l).1/\∀g R',R=g::R'->(pX b l).1 < g.2.1
 |[],b,_,hb=>⟨[],[],rfl,rfl,by show b+0=b;omega,hb,λg R' h=>by cases h⟩
 |g::l,b,h,hb=>by
  unfold pX;by_cases hc:g.2.1 > b
  ·rw[if_pos hc];refine⟨[],g::l,rfl,rfl,by show b+0=b;omega,hb,λg' R' e=> ?_⟩;rw[<-(List.cons.inj e).1];show b < g.2.1;omega
  ·rw[if_neg hc];have h0:=h g aG;obtain⟨K,R,e1,e2,e3,e4,e5⟩:=Xn l (b - g.2.1) (λx hx=>h x (aD _ hx)) aq;refine⟨g::K,R,by rw[e1];rfl,by rw[<-e2],?_,e4,e5⟩;rw[tF];show(pX (b - g.2.1) l).1+(g.2.1+sB K)=b;omega
theorem HD{α:Type}:∀(n:Nat) (l:List α),l.length<=n->(jj l).flatten=l
 | 0,l,h=>by obtain rfl:=bm (Nat.le_zero.1 h);rfl
 |n+1,l,h=>by
  by_cases h0:0 < l.length
  ·rw[D5 h0,hJ,HD n (l.drop 8) (by rw[cv];omega),da]
  ·obtain rfl:=bm (by omega:l.length=0);rfl
section
variable {l:List eK} {b:vY} {h:Int}
theorem apH(hx:∀x∈l,WT x){x:eK}(hm:x∈kM l b h):x∈l/\mR h x=aO/\lO b h x=aV:=by obtain⟨h1,h2⟩:=eo.1 ((Gk hx).1.mem_iff.1 hm);unfold BN at h2;rw[al,bP]at h2;exact⟨h1,h2⟩
theorem W7(hx:∀x∈l,WT x){c:List eK}(hc:c∈jj (kM l b h)){x:eK}(hm:x∈c):x∈l/\mR h x=aO/\lO b h x=aV:=by
 refine apH (b:=b) hx ?_
 have:=HD _ (kM l b h) (aC _);rw[<-this];exact List.mem_flatten.2 ⟨c,hc,hm⟩
theorem TW{bu:Int}(h0:0<=bu):∃(A A2:List eK) (B B2:List (List eK)) (b':Int),eS l b h=A++A2/\jj (kM l b h)=B++B2/\rr l bu b h=td b' (A.map ln)++B.map gA/\(B=[]\/A2=[])/\0<=b'/\b'+sB (A.map ln)+sB (B.map gA)=bu/\
  (∀x A3,A2=x::A3->b' < sX [x])/\(A2=[]->∀c B3,B2=c::B3->b' < sX c):=by
 obtain⟨K,R,e1,e2,e3,e4,e5⟩:=Xn (qv l b h) bu (λg hg=>ach hg) h0;unfold rr;rw[e2];generalize (pX bu (qv l b h)).1=b' at e3 e4 e5;unfold qv at e1;rcases List.append_eq_append_iff.1 e1 with⟨a',h1,h2⟩ | ⟨c',h1,h2⟩
 ·obtain⟨B,B2,h3,h4,h5⟩:=List.map_eq_append_iff.1 h2;subst h4;refine⟨eS l b h,[],B,B2,b',by simp,h3,?_,.inr rfl,e4,?_,λx A3 e=>(by cases e),λ_ c B3 e=> ?_⟩
  ·rw[h1,show(eS l b h).length=((eS l b h).map ln).length by rw[bg],XY]
  ·rw[h1,OW]at e3;omega
  ·subst e;exact e5 (gA c) (B3.map gA) h5.symm
 ·obtain⟨A,A2,h3,h4,h5⟩:=List.map_eq_append_iff.1 h1;subst h4;refine⟨A,A2,[],jj (kM l b h),b',h3,rfl,?_,.inl rfl,e4,?_,λx A3 e=> ?_,λe c B3 e'=> ?_⟩
  ·rw[aeA _ _ _ (by rw[bg,h3,ak];omega),eF,bo]
  ·rw[eF,atX];omega
  ·subst e;exact e5 (ln x) (A3.map ln++(jj (kM l b h)).map gA) (by rw[h2,<-h5];rfl)
  ·subst e;have h5:c'=[]:=h5.symm;rw[h5,aT,e']at h2;exact e5 (gA c) (B3.map gA) h2
end
theorem MM:∀(A:List eK) (b:Int),(∀x∈A,aBa (ln x))->0<=b->b<=1125899906842624->∀g∈td b (A.map ln),∃x∈A,∃m,0<=m/\m<=b/\m<=x.2.1.1 - sX [x]/\g=PW (ln x) m
 |[],_,_,_,_,g,hg=>by cases hg
 |x::A,b,hx,h0,h1,g,hg=>by
  have hm:=aaC (hx x aG) ⟨h0,h1⟩;rcases bA.1 (show g∈PW (ln x) (qc b (ln x))::td (b - qc b (ln x)) (A.map ln) from hg) with rfl | hg
  ·exact⟨x,aG,_,hm.1,hm.2.1,hm.2.2,rfl⟩
  ·obtain⟨y,hy,m,m1,m2,m3,m4⟩:=MM A _ (λy hy=>hx y (aD _ hy)) aq aq g hg;exact⟨y,aD _ hy,m,m1,aq,m3,m4⟩
theorem awD{c:List eK}(hc:∀x∈c,0<=x.2.2.2.2.2.1/\x.2.2.2.2.2.1<=9223372036854775807):∀u:Int,0<=u->u<=9223372036854775807->0<=c.foldl aj9 u/\c.foldl aj9 u<=9223372036854775807:=by
 induction c with
 |nil=>exact λu h0 h1=>⟨h0,h1⟩
 |cons x c ih=>
  intro u h0 h1;have:=hc x aG;rw[bJ];refine ih (λy hy=>hc y (aD _ hy)) _ ?_ ?_ <;> (unfold aj9;split <;> omega)
theorem aee{h:Int}{x:eK}(h1:1<=h)(hk:mR h x=aO):0<=x.2.2.2.2.2.1:=by unfold mR at hk;rw[al]at hk;rcases Sl hk.1 with e | e <;> omega
theorem afd{l:List eK}{bu:Int}{b:vY}{h:Int}(e:oD l bu b h=aO):(0<=bu/\bu<=1125899906842624)/\qR b=aO/\(1<=h/\h<=1048576)/\l.length<=64/\(l.map (·.1)).Nodup/\∀x∈l,0<=x.2.1.1/\x.2.1.1<=1099511627776:=by unfold oD at e;simp only[al,aR]at e;exact⟨e.1,e.2.1,e.2.2.1,(IL l).1 e.2.2.2⟩
theorem au7{l:List eK}{bu:Int}{b:vY}{h:Int}(hx:∀x∈l,WT x)(iS:oD l bu b h=aO):∀g∈rr l bu b h,aA9 g:=by
 obtain⟨hb,_,hh,_,_,ha⟩:=afd iS;obtain⟨A,A2,B,B2,b',s1,s2,s3,_,s5,s6,_,_⟩:=TW (l:=l) (b:=b) (h:=h) hb.1;have hA:∀x∈A,x∈l/\mR h x=aO/\lO b h x=aO:=λx hm=>H4 hx (by rw[s1];exact fV _ hm)
 have hB:∀c∈B,∀x∈c,x∈l/\mR h x=aO/\lO b h x=aV:=λc hc x hm=>W7 hx (by rw[s2];exact fV _ hc) hm
 have pA:∀g∈A.map ln,0<=g.2.1:=λg hg=>by obtain⟨x,_,rfl⟩:=cr.1 hg;exact(wz [x]).1
 have pB:∀g∈B.map gA,0<=g.2.1:=λg hg=>by obtain⟨c,_,rfl⟩:=cr.1 hg;exact(wz c).1
 have qA:=BB pA;have qB:=BB pB;intro g hg;rw[s3]at hg;rcases bp.1 hg with hg | hg
 ·obtain⟨x,hm,m,m1,m2,m3,rfl⟩:=MM A b' (λx hm=>To (ha x (hA x hm).1) (hA x hm).2.1) s5 aq g hg;have h1:=SE pA (dV (f:=ln) hm);have h1:sX [x]<=sB (A.map ln):=h1;have h2:=(wz [x]).1;have h3:=awD (c:=[x]) (λy hy=>by rw[bf.1 hy];exact⟨aee hh.1 (hA x hm).2.1,(hx x (hA x hm).1).2.2⟩) 0 (dp 0) eR;exact⟨⟨h2,by show sX [x]<=sX [x]+m;omega,by show sX [x]+m<=_;omega⟩,h3.1,h3.2⟩
 ·obtain⟨c,hm,rfl⟩:=cr.1 hg;have h1:=SE pB (dV (f:=gA) hm);have h1:sX c<=sB (B.map gA):=h1;have h2:=(wz c).1;have h3:=awD (c:=c) (λy hy=>⟨aee hh.1 (hB c hm y hy).2.1,(hx y (hB c hm y hy).1).2.2⟩) 0 (dp 0) eR;exact⟨⟨h2,dp _,by show sX c<=_;omega⟩,h3.1,h3.2⟩
end
section
def wb(l:List eK):Int:=(l.map (·.2.1.1)).sum
def RZ(l:List iI):Int:=(l.map (·.2.2.1)).sum
def JZ(l:List iI):List eK:=l.flatMap (·.1)
def aAU(b:vY)(h:Int)(g:iI):Bool:=g.1.any (lO b h)
theorem tr(x:eK)(l:List eK):wb (x::l)=x.2.1.1+wb l:=by unfold wb;rw[bn,mZ]
theorem XK(g:iI)(l:List iI):RZ (g::l)=g.2.2.1+RZ l:=by unfold RZ;rw[bn,mZ]
theorem adJ(l l':List iI):RZ (l++l')=RZ l+RZ l':=by unfold RZ;rw[ji,List.sum_append]
theorem ML(g:iI)(l:List iI):JZ (g::l)=g.1++JZ l:=by unfold JZ;rw[dg]
theorem OC(l l':List iI):JZ (l++l')=JZ l++JZ l':=by unfold JZ;rw[List.flatMap_append]
theorem adl:∀ {l:List eK},(∀x∈l,0<=x.2.1.1/\x.2.1.1<=1099511627776)->0<=wb l/\wb l<=1099511627776*(l.length:Int)
 |[],_=>⟨dp 0,dp 0⟩
 |x::l,h=>by
  have h1:=h x aG;have h2:=adl (l:=l) λy hy=>h y (aD _ hy)
  rw[tr,aB];omega
theorem amh:∀(c:List eK) (n:Int),(∀x∈c,sX [x]<=x.2.1.1)->c.foldl abZ n+18*(c.length:Int)<=n+wb c
 |[],n,_=>by show n+18*((0:Nat):Int)<=n+0;omega
 |x::c,n,h=>by
  have h1:abZ 18 x<=x.2.1.1:=h x aG;have h2:=amh c (abZ n x) λy hy=>h y (aD _ hy)
  have h3:abZ n x=n+abZ 18 x - 18:=by unfold abZ;split <;> omega
  rw[bJ,tr,aB];omega
theorem aAb{c:List eK}(h0:1<=c.length)(h:∀x∈c,sX [x]<=x.2.1.1):sX c<=wb c:=by have:=amh c 18 h;unfold sX;rw[if_neg aq];omega
theorem ayu{h:Int}{x:eK}(e:mR h x=aO):Mg x h=aO/\sX [x]<=x.2.1.1:=by unfold mR at e;rw[al,bP]at e;have:=qO e.2;exact⟨e.1,aq⟩
theorem ajf{R:iI->iI->Prop}:∀ {L:List iI},(∀g∈L,∀g'∈L,R g g')->L.Pairwise R
 |[],_=> .nil
 |a::L,h=> .cons (λg hg=>h a aG g (aD _ hg)) (ajf λg hg g' hg'=>h g (aD _ hg) g' (aD _ hg'))
theorem XC:∀(A:List eK) (b:Int),JZ (td b (A.map ln))=A
 |[],b=>rfl
 |x::A,b=>by rw[bn,td,ML,XC A];rfl
theorem ak0:∀(L:List iI) (b:Int),sB (td b L)=sB L
 |[],b=>rfl
 |g::L,b=>by rw[td,tF,tF,ak0 L];rfl
theorem akZ:∀(A:List eK) (b:Int),(∀x∈A,aBa (ln x))->0<=b->b<=1125899906842624->RZ (td b (A.map ln))<=sB (A.map ln)+b
 |[],b,_,h0,_=>by show(0:Int)<=0+b;omega
 |x::A,b,hx,h0,h1=>by have hm:=aaC (hx x aG) ⟨h0,h1⟩;have ih:=akZ A (b - qc b (ln x)) (λy hy=>hx y (aD _ hy)) aq aq;rw[bn,td,XK,tF];show sX [x]+qc b (ln x)+_<=sX [x]+_+b;omega
theorem adK:∀B:List (List eK),RZ (B.map gA)=sB (B.map gA)
 |[]=>rfl
 |c::B=>by rw[bn,XK,tF,adK B];rfl
theorem adG:∀B:List (List eK),JZ (B.map gA)=B.flatten
 |[]=>rfl
 |c::B=>by rw[bn,ML,adG B];rfl
def aq2(l:List eK)(b:vY)(h:Int)(g:iI):Prop:=(1<=g.1.length/\g.1.length<=8)/\g.2.1=sX g.1/\g.2.1<=g.2.2.1/\g.2.2.1<=wb g.1/\(∀x∈g.1,x∈l/\mR h x=aO)/\(aAU b h g=aO->g.1.length=1)/\(aAU b h g=aV->g.2.2.1=g.2.1)
section
variable {l:List eK} {b:vY} {h:Int}
theorem aqC(hx:∀x∈l,WT x)(hn:(l.map (·.1)).Nodup):((eS l b h++kM l b h).map (·.1)).Nodup:=by
 have hp:(eS l b h++kM l b h).Perm (l.filter (Bq b h)++l.filter (BN b h)):=(Bn hx).1.append (Gk hx).1;have e1:l.filter (Bq b h)=(l.filter (mR h)).filter (lO b h):=by rw[qs];exact List.filter_congr λx _=>Bool.and_comm _ _
 have e2:l.filter (BN b h)=(l.filter (mR h)).filter (λx=> !lO b h x):=by rw[qs];exact List.filter_congr λx _=>Bool.and_comm _ _
 rw[e1,e2]at hp;exact((hp.trans (List.filter_append_perm _ _)).map (·.1)).nodup_iff.2 (hn.sublist (List.filter_sublist.map _))
theorem anB(hx:∀x∈l,WT x){x:eK}(h1:x∈l)(h2:mR h x=aO)(h3:lO b h x=aO):x∈eS l b h:=by refine(Bn hx).1.mem_iff.2 (eo.2 ⟨h1,?_⟩);unfold Bq;rw[h2,h3];rfl
theorem avz(hx:∀x∈l,WT x){x:eK}(h1:x∈l)(h2:mR h x=aO)(h3:lO b h x=aV):x∈kM l b h:=by refine(Gk hx).1.mem_iff.2 (eo.2 ⟨h1,?_⟩);unfold BN;rw[h2,h3];rfl
theorem ai0{bu:Int}(hx:∀x∈l,WT x)(iS:oD l bu b h=aO):(∀g∈rr l bu b h,aq2 l b h g)/\(rr l bu b h).Pairwise (λg g'=>aAU b h g'=aO->aAU b h g=aO)/\((JZ (rr l bu b h)).map (·.1)).Nodup/\(JZ (rr l bu b h)).length<=128/\RZ (rr l bu b h)<=bu/\0<=sB (rr l bu b h)/\sB (rr l bu b h)<=bu/\∀x∈l,mR h x=aO->x.1 ∉ (JZ (rr l bu b h)).map (·.1)->bu - sB (rr l bu b h) < 194:=by
 obtain⟨hb,_,hh,hl,hn,ha⟩:=afd iS;have aIv:(eS l b h).length<=64:=by rw[(Bn hx).1.length_eq];exact ko (j2 _ _) hl
 have XM:(kM l b h).length<=64:=by rw[(Gk hx).1.length_eq];exact ko (j2 _ _) hl
 have ak6:=aqC (b:=b) (h:=h) hx hn;have hc:=(B0 _ (kM l b h) (aC _)).2;have aFX:=HD _ (kM l b h) (aC _);have kF:=λ(x:eK) (hm:x∈eS l b h)=>H4 hx hm
 have kR:=λ(c:List eK) (hm:c∈jj (kM l b h)) (x:eK) (h':x∈c)=>W7 hx hm h'
 obtain⟨A,A2,B,B2,b',s1,s2,s3,s4,s5,s6,s7,s8⟩:=TW (l:=l) (b:=b) (h:=h) hb.1;have fM:=λ(x:eK)=>anB (b:=b) (h:=h) hx (x:=x)
 have rM:=λ(x:eK)=>avz (b:=b) (h:=h) hx (x:=x)
 rw[<-aFX]at XM ak6 rM;rw[s1]at aIv ak6 kF fM;rw[s2]at XM ak6 hc kR rM;rw[s3];have hA:∀x∈A,x∈l/\mR h x=aO/\lO b h x=aO:=λx hm=>kF x (fV _ hm)
 have hB:∀c∈B,∀x∈c,x∈l/\mR h x=aO/\lO b h x=aV:=λc hm x h'=>kR c (fV _ hm) x h'
 have gM:∀x∈A,aBa (ln x):=λx hm=>To (ha x (hA x hm).1) (hA x hm).2.1
 have pA:∀g∈A.map ln,0<=g.2.1:=λg hg=>by obtain⟨x,_,rfl⟩:=cr.1 hg;exact(wz [x]).1
 have pB:∀g∈B.map gA,0<=g.2.1:=λg hg=>by obtain⟨c,_,rfl⟩:=cr.1 hg;exact(wz c).1
 have qA:=BB pA;have qB:=BB pB;have tA:∀g∈td b' (A.map ln),aAU b h g=aO/\aq2 l b h g:=λg hg=>by
  obtain⟨x,hm,m,m1,m2,m3,rfl⟩:=MM A b' gM s5 aq g hg;obtain⟨k1,k2,k3⟩:=hA x hm;have hp:aAU b h (PW (ln x) m)=aO:=by show(lO b h x || false)=aO;rw[k3];rfl
  have hs:wb [x]=x.2.1.1+0:=tr x [];refine⟨hp,⟨by show 1<=1;decide,by show 1<=8;decide⟩,rfl,by show sX [x]<=sX [x]+m;omega,by show sX [x]+m<=wb [x];omega,λy hy=> ?_,λ_=>rfl,λe=> ?_⟩
  ·rw[bf.1 (show y∈ [x] from hy)];exact⟨k1,k2⟩
  ·rw[hp]at e;cases e
 have tB:∀g∈B.map gA,aAU b h g=aV/\aq2 l b h g:=λg hg=>by
  obtain⟨c,hm,rfl⟩:=cr.1 hg;have hp:aAU b h (gA c)=aV:=by show c.any (lO b h)=aV;rw[fg];intro x h';rw[(hB c hm x h').2.2];decide
  have ahV:=hc c (fV _ hm);refine⟨hp,ahV,rfl,dp _,aAb ahV.1 λx h'=>(ayu (hB c hm x h').2.1).2,λx h'=>⟨(hB c hm x h').1,(hB c hm x h').2.1⟩,λe=> ?_,λ_=>rfl⟩;rw[hp]at e;cases e
 have eg:JZ (td b' (A.map ln)++B.map gA)=A++B.flatten:=by rw[OC,XC,adG]
 have el:sB (td b' (A.map ln)++B.map gA)=sB (A.map ln)+sB (B.map gA):=by rw[OW,ak0]
 have es:RZ (td b' (A.map ln)++B.map gA)<=sB (A.map ln)+b'+sB (B.map gA):=by have:=akZ A b' gM s5 aq;rw[adJ,adK];omega
 rw[eg,el];rw[List.flatten_append]at ak6 XM rM;refine⟨λg hg=>(bp.1 hg).elim (λh'=>(tA g h').2) (λh'=>(tB g h').2),List.pairwise_append.2 ⟨ajf λg hg g' _ _=>(tA g hg).1,ajf λg _ g' hg' e=> ?_,λg hg g' _ _=>(tA g hg).1⟩,?_,?_,aq,aq,aq,λx h1 h2 h3=> ?_⟩
 ·rw[(tB g' hg').1]at e;cases e
 ·refine List.Nodup.sublist (List.Sublist.map _ ?_) ak6;exact(List.sublist_append_left A A2).append (List.sublist_append_left B.flatten B2.flatten)
 ·rw[ak]at aIv XM ⊢;omega
 ·have n1:x ∉ A:=λe=>h3 (dV (fV _ e))
  have n2:x ∉ B.flatten:=λe=>h3 (dV (j3 _ e))
  have d1:A2≠ []->b' < 194:=λe=>by
   match A2,e,s7 with
   |y::A3,_,s7=>
    have h4:=s7 y A3 rfl;have h5:sX [y]<=18+22*((1:Nat):Int):=(wz [y]).2;omega
  have d2:A2=[]->B2≠ []->b' < 194:=λe e'=>by
   match B2,e',s8,hc with
   |c::B3,_,s8,hc=>
    have h4:=s8 e c B3 rfl;have h5:=(wz c).2;have h6:=(hc c (j3 _ aG)).2;omega
  have d:b' < 194:=by
   cases hp:lO b h x with
   |true=>
    refine d1 λe=> ?_
    have:=fM x h1 h2 hp;rw[e,bo]at this;exact n1 this
   |false=>
    by_cases e:A2=[]
    ·refine d2 e λe'=> ?_
     have:=rM x h1 h2 hp;rw[e',lD,bo]at this;exact n2 this
    ·exact d1 e
  omega
end
end
def C4(a a':At):Prop:=∀o,cE cV o a=cE cV o a'
theorem C4.refl(a:At):C4 a a:=λ_=>rfl
theorem C4.symm{a b:At}(h:C4 a b):C4 b a:=λo=>(h o).symm
theorem C4.trans{a b c:At}(h:C4 a b)(h':C4 b c):C4 a c:=λo=>(h o).trans (h' o)
theorem C4.perm{a b:At}(h:C4 a b)(ha:(jB a).Nodup)(hb:(jB b).Nodup):a.Perm b:=aAs ha hb h
theorem adv{a b:At}(hb:(jB b).Nodup)(h:a.Perm b):C4 a b:=λo=>auN hb h o
theorem C4.del{a b:At}(h:C4 a b)(ha:(jB a).Nodup)(hb:(jB b).Nodup)(l:List dC):C4 (JQ l a) (JQ l b):=λo=>by
 rw[XA o l ha,XA o l hb,h o]
theorem Yp(e:agD)(l:List agD)(a:At):azv (e::l) a=azv l (eM cV e.1 e.2.1 a):=rfl
theorem C4.set{a b:At}(h:C4 a b)(o:dC)(c:gZ):C4 (eM cV o c a) (eM cV o c b):=λx=>by rw[as4,as4,h x]
theorem C4.put:∀(l:List agD) {a b:At},C4 a b->C4 (azv l a) (azv l b)
 |[],_,_,h=>h
 |e::l,a,b,h=>by rw[Yp,Yp];exact C4.put l (h.set _ _)
theorem C4.add(h:Int):∀(l:List dC) (xs:List jo) {a b:At},C4 a b->C4 (Hw h l xs a) (Hw h l xs b)
 |[],[],_,_,e=>e
 |[],_::_,_,_,e=>e
 |_::_,[],_,_,e=>e
 |o::l,x::xs,a,b,e=>by rw[xU,xU];exact C4.add h l xs (e.set _ _)
theorem C4.apply{a b:At}(e:C4 a b)(ha:(jB a).Nodup)(hb:(jB b).Nodup)(t:fN)(h:Int):C4 (nS t h a) (nS t h b):=C4.add h _ _ (e.del ha hb _)
theorem C4.ins{a b:At}(e:C4 a b)(h:Int)(id:List Int):∀(l:List gU) (f:Int),wg h id a l f=wg h id b l f
 |[],_=>rfl
 |x::l,f=>by
  simp only[wg,e x.1];cases cE cV x.1 b with
  |none=>rfl
  |some c=>simp only[C4.ins e h id l]
theorem C4.check{a b:At}(e:C4 a b)(t:fN)(h:Int):fy t h a=fy t h b:=by
 have e2:pc a=pc b:=funext λo=>by unfold pc;rw[e o]
 unfold fy;rw[e.ins,e2]
end Go.Ab
end
