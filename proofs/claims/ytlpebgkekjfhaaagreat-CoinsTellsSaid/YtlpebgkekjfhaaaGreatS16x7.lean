/-
  Made short by a program of mine (wip/tools/mini.py).
-/
import Derived.Test.YtlpebgkekjfhaaaGreatS16x6
set_option linter.unusedVariables false
set_option linter.unusedSimpArgs false
namespace Go.Ab
open Go.Proofs
set_option maxRecDepth 100000
set_option linter.unusedVariables false
set_option linter.unusedSimpArgs false
set_option synthInstance.maxSize 5000
theorem Cg{l:List dM}(hn:(eV (ij l)).Nodup){o:cK}{c:fa}(ho:cz ck o (ij l)=none):
  (eV (ij (kJ l (o,(c,()))))).Nodup∧lG (ij (kJ l (o,(c,())))) (fH ck o c (ij l)):=by
 have hp:(ij (kJ l (o,(c,())))).Perm ((o,c)::ij l):=(kV l (o,(c,()))).map _
 have hk:o ∉ eV (ij l):=(get_none fI hn).1 ho
 have hnd:(eV ((o,c)::ij l)).Nodup:=List.nodup_cons.2 ⟨hk,hn⟩
 refine⟨((hp.map _).nodup_iff).2 hnd,?_⟩
 have e:fH ck o c (ij l)=ij l++ [(o,c)]:=lr fI hk
 rw[e]
 have hp2:(ij (kJ l (o,(c,())))).Perm (ij l++ [(o,c)]):=hp.trans (List.perm_append_singleton (o,c) (ij l)).symm
 exact yl ((hp2.map (·.1)).nodup_iff.1 (((hp.map _).nodup_iff).2 hnd)) hp2
theorem AI(h:Int):∀(os:List cK) (xs:List gm) {l:List dM},FA l→(∀e∈l,rA e.1)→(eV (ij l)).Nodup→os.Nodup→(∀o∈os,rA o∧cz ck o (ij l)=none)→
  FA (xI h os xs l)∧(eV (ij (xI h os xs l))).Nodup∧lG (ij (xI h os xs l)) (po h os xs (ij l))
 |[],[],_,hs,_,hn,_,_=>⟨hs,hn,lG.refl _⟩
 |[],_::_,_,hs,_,hn,_,_=>⟨hs,hn,lG.refl _⟩
 |_::_,[],_,hs,_,hn,_,_=>⟨hs,hn,lG.refl _⟩
 |o::os,x::xs,l,hs,hq,hn,hd,ho=>by
  have hd':=List.nodup_cons.1 hd
  obtain⟨q1,q2⟩:=ho o List.mem_cons_self
  obtain⟨w1,w2⟩:=Cg (c:=(x,(h,()))) hn q2
  obtain⟨i1,i2,i3⟩:=AI h os xs (l:=kJ l (o,((x,(h,())),()))) (wF l _ hq q1 hs) (fun e he=>by
   rcases List.mem_cons.1 ((kV l _).mem_iff.1 he) with rfl | he
   ·exact q1
   ·exact hq e he) w1 hd'.2 (fun y hy=>⟨(ho y (List.mem_cons_of_mem _ hy)).1,by
    rw[w2 y,zX,if_neg (fun e=>hd'.1 (by rw[←e];exact hy))]
    exact(ho y (List.mem_cons_of_mem _ hy)).2⟩)
  rw[xI,kK]
  exact⟨i1,i2,i3.trans (lG.add h os xs w2)⟩
theorem sK:∀(os:List cK) (l:List dM),ij (os.foldl lJ l)=ln os (ij l)
 |[],_=>rfl
 |o::os,l=>by rw[List.foldl_cons,sK os,tn,o9]
theorem Rl.apply{a:At}{l:List dM}{t:fv}{h fR:Int}(hr:Rl a l)(hc:iO t h a fR)(hv:nE t):Rl (gB t h a) (zz t h l):=by
 have hn:=hr.nd
 have hd:ij ((dN t).foldl lJ l)=ln (dN t) (ij l):=sK _ _
 have hsub:=oG (dN t) l
 have ha:=hc.jG hr.jG hv
 have hlen:=ka hc.ok
 obtain⟨i1,i2,i3⟩:=AI h (fo t) t.2.1 (l:=(dN t).foldl lJ l) (List.Pairwise.sublist hsub hr.Ij) (fun e he=>hr.q e (hsub.mem he)) (by rw[hd];exact mg _ hn) (qc t) (fun o ho=>by
  refine⟨?_,?_⟩
  ·obtain⟨k,hk,e⟩:=List.getElem_of_mem ho
   have hg:=hc.new hk (by omega)
   have hm:=(gO fI ha.1).1 hg
   rw[e]at hm
   exact(ha.2 _ hm).1
  ·rw[hd,sr o _ hn]
   split
   ·rfl
   ·rw[hr.eqv o];exact hc.made o ho)
 refine⟨ha,i1,i2,?_⟩
 unfold zz
 refine i3.trans ?_
 rw[hd]
 exact hr.eqv.apply hn hr.jG.1 t h
theorem Rl.check{a:At}{l:List dM}(hr:Rl a l)(t:fv)(h:Int):ee t h (ij l)=ee t h a:=hr.eqv.check t h
theorem yM:∀(outs:List gm) (sum:Int) (k:Nat) {a:At},0≤sum→sum≤1125899906842624→(∀o∈outs,sO o)→na sum k outs=some a→FA (a.map sW)
 |[],sum,k,a,_,_,_,e=>by
  obtain rfl:=Option.some.inj e
  exact List.Pairwise.nil
 |o::outs,sum,k,a,h0,h1,hg,e=>by
  rw[na]at e
  cases ho:j2 sum o with
  |false=>rw[ho]at e;cases e
  |true=>
   rw[ho]at e
   simp only at e
   cases hr:na (sum+o.1) (k+1) outs with
   |none=>rw[hr]at e;cases e
   |some r=>
    rw[hr]at e
    obtain rfl:=Option.some.inj e
    have ho':=ho
    unfold j2 at ho'
    simp only[Bool.and_eq_true,decide_eq_true_eq]at ho'
    obtain⟨_,k2,k3⟩:=ho'
    have hgs:∀x∈outs,sO x:=fun x hx=>hg x (List.mem_cons_of_mem _ hx)
    obtain⟨_,_,_,_,i5,_⟩:=rW outs (sum+o.1) (k+1) (by omega) (by omega) hgs hr
    rw[List.map_cons]
    refine List.pairwise_cons.2 ⟨fun y hy=> ?_,yM outs (sum+o.1) (k+1) (by omega) (by omega) hgs hr⟩
    obtain⟨p,hp,rfl⟩:=List.mem_map.1 hy
    obtain⟨q1,_,q3⟩:=i5 p hp
    have q0:rA (mf k o).1:=by
     refine⟨by show(List.replicate 32 (0:Int)).length=32;rw[List.length_replicate],fun x hx=> ?_⟩
     have hx:x∈List.replicate 32 (0:Int):=hx
     obtain rfl:=(List.mem_replicate.1 hx).2
     exact⟨by decide,by decide⟩
    show ¬mU p.1 (mf k o).1 < 0
    refine vN q0 q1 ?_
    have hz:(mf k o).1.1=List.replicate 32 (0:Int):=rfl
    rw[jl q0 q1]
    unfold lM
    rw[tf _ _ (q0.1.trans q1.1.symm),hz]
    have hN:(mf k o).1.2.1=(k:Int):=rfl
    rw[hN]
    have key:∀(n:Nat) (b:List Int),b.length=n→(∀x∈b,0≤x)→lx (List.replicate n (0:Int)) b≤0:=by
     intro n
     induction n with
     |zero=>intro b _ _;cases b <;> exact Int.le_refl 0
     |succ n ih=>
      intro b hb hx
      cases b with
      |nil=>exact Int.le_refl 0
      |cons y b=>
       rw[List.replicate_succ,lx]
       have hy:=hx y List.mem_cons_self
       by_cases e:(0:Int)=y
       ·rw[if_neg (fun x=>x e)]
        exact ih b (by simpa using hb) fun z hz=>hx z (List.mem_cons_of_mem _ hz)
       ·rw[if_pos e,if_pos (by omega)]
        decide
    have hle:=key 32 p.1.1 q1.1 fun x hx=>(q1.2 x hx).1
    unfold GL
    by_cases h2:lx (List.replicate 32 (0:Int)) p.1.1=0
    ·rw[if_pos h2]
     unfold wS
     rw[if_pos (by omega)]
     decide
    ·rw[if_neg h2]
     omega
theorem zj(a:At):ij (a.map sW)=a:=by
 unfold ij
 rw[List.map_map]
 exact List.map_id' a
theorem Gf{outs:List gm}{a:At}(hg:∀o∈outs,sO o)(e:qe outs=some a):Rl a (a.map sW):=by
 obtain⟨g0,_⟩:=wc hg e
 have hs:FA (a.map sW):=by
  unfold qe at e
  by_cases hl:outs.length≤256
  ·rw[if_pos hl]at e
   exact yM outs 0 0 (by decide) (by decide) hg e
  ·rw[if_neg hl]at e;cases e
 exact⟨g0.jG,hs,by rw[zj];exact g0.jG.1,by rw[zj];exact lG.refl a⟩
def jt(m:Nat):Nat→At→List dQ→List (List dM)→Prop
 | 0,_,_,_=>True
 |n+1,a,s,w=>Rl (kI a (nth dZ s n)) (nth (.slice eN) w n)∧gw (kI a (nth dZ s n))≤1125899906842624∧(kI a (nth dZ s n)).length≤256+64*m∧jt m n (kI a (nth dZ s n)) s w
theorem jt.mono{m m':Nat}(h:m≤m'):∀(n:Nat) {a:At} {s:List dQ} {w:List (List dM)},jt m n a s w→jt m' n a s w
 | 0,_,_,_,_=>trivial
 |n+1,_,_,_,hh=>⟨hh.1,hh.2.1,by have:=hh.2.2.1;omega,jt.mono h n hh.2.2.2⟩
theorem jt.eqv{m:Nat}:∀(n:Nat) {a b:At} {s:List dQ} {w:List (List dM)},jt m n a s w→lG a b→(eV a).Nodup→(eV b).Nodup→jt m n b s w
 | 0,_,_,_,_,_,_,_,_=>trivial
 |n+1,a,b,s,w,hh,e,ha,hb=>by
  have e2:=e.Ci ha hb (nth dZ s n)
  have n1:=o5 ha (nth dZ s n)
  have n2:=o5 hb (nth dZ s n)
  have hp:=e2.perm n1 n2
  exact⟨hh.1.FL (hh.1.jG.perm hp) e2,by rw[←l7 hp];exact hh.2.1,by rw[←hp.length_eq];exact hh.2.2.1,jt.eqv n hh.2.2.2 e2 n1 n2⟩
theorem jt.same{m:Nat}:∀(n:Nat) {a:At} {s s':List dQ} {w w':List (List dM)},jt m n a s w→(∀k,k < n→nth dZ s k=nth dZ s' k)→(∀k,k < n→nth (.slice eN) w k=nth (.slice eN) w' k)→jt m n a s' w'
 | 0,_,_,_,_,_,_,_,_=>trivial
 |n+1,a,s,s',w,w',hh,hs,hw=>by
  unfold jt at hh ⊢
  rw[←hs n (Nat.lt_succ_self n),←hw n (Nat.lt_succ_self n)]
  exact⟨hh.1,hh.2.1,hh.2.2.1,jt.same n hh.2.2.2 (fun k hk=>hs k (Nat.lt_succ_of_lt hk)) fun k hk=>hw k (Nat.lt_succ_of_lt hk)⟩
theorem B1{w:List (List dM)}{x:List dM}{n k:Nat}(hn:n≤w.length)(hk:k < n):nth (.slice eN) (w.take n++ [x]) k=nth (.slice eN) w k:=by
 have h1:k < (w.take n++ [x]).length:=by rw[List.length_append,List.length_take];omega
 rw[cn (t:= .slice eN) h1,cn (t:= .slice eN) (show k < w.length by omega)]
 show(List.take n w++ [x])[k]=w[k]
 rw[List.getElem_append_left (by rw[List.length_take];omega),List.getElem_take]
theorem B0{w:List (List dM)}{x:List dM}{n:Nat}(hn:n≤w.length):nth (.slice eN) (w.take n++ [x]) n=x:=by
 have e:(w.take n).length=n:=by rw[List.length_take];omega
 have h1:n < (w.take n++ [x]).length:=by rw[List.length_append,e];exact Nat.lt_succ_self n
 rw[cn (t:= .slice eN) h1]
 show(List.take n w++ [x])[n]=x
 rw[List.getElem_append_right (by omega)]
 simp[e]
structure om(m n:Nat)(a:At)(s:List dQ)(l:List dM)(n':Nat)(w:List (List dM)):Prop where
 st:qp m n a s
 rl:Rl a l
 eq:n'=n
 le:n≤w.length
 len:w.length≤m
 Ew:jt m n a s w
section
variable {m n n':Nat} {a:At} {s:List dQ} {l:List dM} {w:List (List dM)}
theorem om.apply{t:fv}{h:Int}(hb:om m n a s l n' w)(hc:iO t h a (ee t h a).1)(hv:nE t):om (m+1) (n+1) (gB t h a) (s.take n++ [stepOf t a]) (zz t h l) (n'+1) (w.take n'++ [l]):=by
 obtain rfl:=hb.eq
 have h1:=hb.le
 have h2:=hb.len
 have ha:=hb.st.jG
 have hst:=hb.st.app hc hv
 have e:(w.take n').length=n':=by rw[List.length_take];omega
 have eu:=AD hc ha.1
 have nu:(eV (kI (gB t h a) (stepOf t a))).Nodup:=o5 (lW ha.1) _
 have hp:=eu.perm nu ha.1
 refine⟨hst,hb.rl.apply hc hv,rfl,by rw[List.length_append,e];exact Nat.le_refl _,by rw[List.length_append,e];show n'+1≤_;omega,?_⟩
 unfold jt
 rw[Dp hb.st.le,B0 h1]
 refine⟨hb.rl.FL (ha.perm hp.symm) eu.symm,by rw[l7 hp];exact hb.st.sum,by rw[hp.length_eq];have:=hb.st.Ei;omega,?_⟩
 refine jt.mono (Nat.le_succ m) n' (jt.eqv n' (jt.same n' hb.Ew ?_ ?_) eu.symm ha.1 nu)
 ·exact fun k hk=>(Dq hb.st.le hk).symm
 ·exact fun k hk=>(B1 h1 hk).symm
theorem om.mono(hb:om m n a s l n' w):om (m+1) n a s l n' w:=⟨hb.st.mono (Nat.le_succ _),hb.rl,hb.eq,hb.le,Nat.le_succ_of_le hb.len,hb.Ew.mono (Nat.le_succ m) n⟩
theorem om.Ci(hb:om m (n+1) a s l n' w):om m n (kI a (nth dZ s n)) s (nth (.slice eN) w n) n w:=by
 have hh:=hb.Ew
 unfold jt at hh
 have h1:=hb.le
 exact⟨⟨hh.1.jG,by have:=hb.st.le;omega,hb.st.len,hb.st.Hs,hh.2.1,hh.2.2.1⟩,hh.1,rfl,by omega,hb.len,hh.2.2.2⟩
theorem om.copy(hb:om m n a s l n' w):om m (s.take n).length (jQ a) (s.take n) l n' w:=by
 obtain⟨g1,g2⟩:=hb.st.canon
 have hp:=mJ a
 have ha:=hb.st.jG
 have e:lG a (jQ a):=(yl ha.1 hp).symm
 rw[g2]
 exact⟨g1,hb.rl.FL g1.jG e,hb.eq,hb.le,hb.len,jt.eqv n (jt.same n hb.Ew (fun k hk=>by
  have h1:k < (s.take n).length:=by omega
  have h2:k < s.length:=by have:=hb.st.le;omega
  rw[cn (t:=dZ) h1,cn (t:=dZ) h2]
  show s[k]=(List.take n s)[k]
  rw[List.getElem_take]) fun k hk=>rfl) e ha.1 g1.jG.1⟩
end
abbrev bg.L0.D:=(List cK)×Int×Nat×(List (cK×fa))×(List dQ)×(List dM)×Nat×(List (List dM))
def bg.L0.st:bg.L0.D→AS:=fun(l,i,o0L,o1_2,o2_2,o3,o3L,o4_2)=>⟨([.ptr (.dx 0) 0 [] 0,.ptr (.dx 3) 0 [] 0,.undef,.undef,.undef,.d (.slice ck) l,.d ti i]++bl 54 []),[.obj 0 false (.pr (.ff (.dx 1) 0) (.pr (.bH (.dx 2) 0 [] 0 0 o0L) (.d .unit ()))),.obj 0 false (.mp ck gl o1_2),.obj 0 false (.vec 161 dZ o2_2),.obj 0 false (.pr (.d (.slice eN) o3) (.pr (.bH (.dx 4) 0 [] 0 0 o3L) (.d .unit ()))),.obj 0 false (.vec 164 (.slice eN) o4_2)],(List.replicate 61 [])⟩
abbrev bg.L0.Y0:=Nat×(List (cK×fa))×(List dQ)×(List dM)×Nat×(List (List dM))
abbrev bg.L0.X0:=Nat×(List (cK×fa))×(List dQ)×(List dM)×Nat×(List (List dM))
def bg.L0.bp:bg.L0.X0→Exit×AS:=fun x=>(.ret,⟨(bl 4 ([.d .bool false]++bl 56 [])),[.obj 0 false (.pr (.ff (.dx 1) 0) (.pr (.bH (.dx 2) 0 [] 0 0 x.1) (.d .unit ()))),.obj 0 false (.mp ck gl x.2.1),.obj 0 false (.vec 161 dZ x.2.2.1),.obj 0 false (.pr (.d (.slice eN) x.2.2.2.1) (.pr (.bH (.dx 4) 0 [] 0 0 x.2.2.2.2.1) (.d .unit ()))),.obj 0 false (.vec 164 (.slice eN) x.2.2.2.2.2)],(List.replicate 61 [])⟩)
abbrev bg.L0.Y1:=Nat×(List (cK×fa))×(List dQ)×(List dM)×Nat×(List (List dM))
abbrev bg.L0.X1:=Nat×(List (cK×fa))×(List dQ)×(List dM)×Nat×(List (List dM))
def bg.L0.fA:bg.L0.X1→Exit×AS:=fun x=>(.exit 0,⟨(bl 61 []),[.obj 0 false (.pr (.ff (.dx 1) 0) (.pr (.bH (.dx 2) 0 [] 0 0 x.1) (.d .unit ()))),.obj 0 false (.mp ck gl x.2.1),.obj 0 false (.vec 161 dZ x.2.2.1),.obj 0 false (.pr (.d (.slice eN) x.2.2.2.1) (.pr (.bH (.dx 4) 0 [] 0 0 x.2.2.2.2.1) (.d .unit ()))),.obj 0 false (.vec 164 (.slice eN) x.2.2.2.2.2)],(List.replicate 61 [])⟩)
abbrev bg.L0.X:=(bg.L0.X0)⊕(bg.L0.X1)
abbrev bg.L0.Y:=(bg.L0.Y0)⊕(bg.L0.Y1)
def bg.L0.out:bg.L0.X→Out (Exit×AS):=fun x=> .br x.isLeft (.get x.getLeft? fun a=> .ok (bg.L0.bp a)) (.get x.getRight? fun b=> .ok (bg.L0.fA b))
def bg.L0.add:bg.L0.D→bg.L0.Y→bg.L0.X:=fun(l,i,o0L,o1_2,o2_2,o3,o3L,o4_2) y=>match y with | .inl y=> .inl y | .inr z=> .inr (z)
abbrev bg.D:=Nat×(List (cK×fa))×(List dQ)×(List dM)×Nat×(List (List dM))
def bg.st:bg.D→SA:=fun(o0baL,o1,o2,o3a,o3baL,o4)=>([.ptr (.dx 0) 0 [] 0,.ptr (.dx 3) 0 [] 0],[.obj 0 false (.pr (.ff (.dx 1) 0) (.pr (.bH (.dx 2) 0 [] 0 0 o0baL) (.d .unit ()))),.obj 0 false (.mp ck gl o1),.obj 0 false (.vec 161 dZ o2),.obj 0 false (.pr (.d (.slice eN) o3a) (.pr (.bH (.dx 4) 0 [] 0 0 o3baL) (.d .unit ()))),.obj 0 false (.vec 164 (.slice eN) o4)])
abbrev bg.Y:=Bool×Nat×(List (cK×fa))×(List dQ)×(List dM)×Nat×(List (List dM))
abbrev bg.X:=Bool×Nat×(List (cK×fa))×(List dQ)×(List dM)×Nat×(List (List dM))
def bg.out:bg.X→ba:=fun x=>⟨.d .bool x.1,[.obj 0 false (.pr (.ff (.dx 1) 0) (.pr (.bH (.dx 2) 0 [] 0 0 x.2.1) (.d .unit ()))),.obj 0 false (.mp ck gl x.2.2.1),.obj 0 false (.vec 161 dZ x.2.2.2.1),.obj 0 false (.pr (.d (.slice eN) x.2.2.2.2.1) (.pr (.bH (.dx 4) 0 [] 0 0 x.2.2.2.2.2.1) (.d .unit ()))),.obj 0 false (.vec 164 (.slice eN) x.2.2.2.2.2.2)],[]⟩
def bg.add:bg.D→bg.Y→bg.X:=fun(o0baL,o1,o2,o3a,o3baL,o4) y=>y
def bg.L0.av:bg.L0.D→Prop:=fun(ks,i,n,a,s,l,_,_)=>qp 100 n a s∧Rl a l∧ks.length≤1000000∧(∀o∈ks,(cz ck o a).isSome=true)∧∃k:Nat,k≤ks.length∧i=k
def bg.L0.F:bg.L0.D→bg.L0.Y:=fun(_,_,n,a,s,l,n',w)=> .inr (n,a,s,l,n',w)
def bg.av:bg.D→Prop:=fun(n,a,s,l,n',w)=>qp 100 n a s∧Rl a l
def bg.F:bg.D→bg.Y:=fun(n,a,s,l,n',w)=>(true,n,a,s,l,n',w)
noncomputable def bg.G:ed:=fk (P:=Tryz.prog) [dn.sg,bV.sg,cE.sg,bK.sg,dp.sg,ea.sg,fS.sg,aM.sg]
noncomputable def bg.L0.E:=bU.cD bg.L0.st bg.L0.av bg.L0.add bg.L0.F bg.L0.out
noncomputable def bg.L0.call:bg.L0.D→Option bg.L0.X:=dw bg.L0.E bg.L0.st
noncomputable def bg.an:eQ:= {loops:=jB [(5,{bn:=[0,1,5,6]})],outs:=jA [(5,{},{bn:=[4]})],fC:=kf [(5,bg.L0.E)]}
noncomputable def bg.A:= @cY Tryz.prog bg.G bg.an 0 Tryz.f41 _ bg.st
abbrev bg.Ok:=dd @bg.A bg.av bg.add bg.F bg.out
noncomputable def bg.L0.R:= @cj Tryz.prog bg.G bg.an 0 Tryz.f41 0 _ bg.L0.st
abbrev bg.L0.Ok:=ew Tryz.prog bg.G bg.an 0 Tryz.f41 0 bg.L0.st bg.L0.av bg.L0.add bg.L0.F bg.L0.out
theorem bg.L0.run:bM bg.L0.call bg.L0.av bg.L0.add bg.L0.F:=eM (eL [.d (.slice ck),.d ti,.n,.d (.slice (.pair ck gl)),.d (.slice dZ),.d (.slice eN),.n,.d (.slice (.slice eN))] fun _=>by kernel_rfl)
theorem bg.L0.aB:kC @bg.L0.R bg.L0.st bg.L0.av bg.L0.add bg.L0.F bg.L0.out bg.L0.Ok:=kL
theorem bg.L0.step{R:Type}(l:(List cK))(i:Int)(o0L:Nat)(o1_2:(List (cK×fa)))(o2_2:(List dQ))(o3:(List dM))(o3L:Nat)(o4_2:(List (List dM)))(kn:AS→Option R)(kx:Exit→AS→Option R):bg.L0.R (l,i,o0L,o1_2,o2_2,o3,o3L,o4_2) kn kx=
  aG ((fM i (((List.length l):Nat):Int))) (
   aG (eI i (((List.length l):Nat):Int)) (
   ah (ea.call ((nth ck l (Int.toNat i)),o0L,o1_2,o2_2)) fun x1=>
   aG (eI i (((List.length l):Nat):Int)) (
   ah (fS.call ((nth ck l (Int.toNat i)),o3,o3L,o4_2)) fun x2=>
   aG ((!x1.2.2)) (
    kx (bg.L0.bp (x1.1.1,x1.1.2.1,x1.1.2.2,x2.1.1,x2.1.2.1,x2.1.2.2)).1 (bg.L0.bp (x1.1.1,x1.1.2.1,x1.1.2.2,x2.1.1,x2.1.2.1,x2.1.2.2)).2) (
    aG ((!x2.2.2)) (
     kx (bg.L0.bp (x1.1.1,x1.1.2.1,x1.1.2.2,x2.1.1,x2.1.2.1,x2.1.2.2)).1 (bg.L0.bp (x1.1.1,x1.1.2.1,x1.1.2.2,x2.1.1,x2.1.2.1,x2.1.2.2)).2) (
     ah (aM.call (x1.2.1,x2.2.1)) fun x3=>
     aG ((!x3)) (
      kx (bg.L0.bp (x1.1.1,x1.1.2.1,x1.1.2.2,x2.1.1,x2.1.2.1,x2.1.2.2)).1 (bg.L0.bp (x1.1.1,x1.1.2.1,x1.1.2.2,x2.1.1,x2.1.2.1,x2.1.2.2)).2) (
      kn (bg.L0.st (l,(bN .i64 i (1:Int)),x1.1.1,x1.1.2.1,x1.1.2.2,x2.1.1,x2.1.2.1,x2.1.2.2)))))) none) none) (
   kx (bg.L0.fA (o0L,o1_2,o2_2,o3,o3L,o4_2)).1 (bg.L0.fA (o0L,o1_2,o2_2,o3,o3L,o4_2)).2):=by kernel_rfl
theorem bg.eq{R:Type}(o0baL:Nat)(o1:(List (cK×fa)))(o2:(List dQ))(o3a:(List dM))(o3baL:Nat)(o4:(List (List dM)))(k:ba→Option R):bg.A (o0baL,o1,o2,o3a,o3baL,o4) k=
  ah (dn.call (o3a,o3baL,o4)) fun x1=>
  ah (bV.call (o0baL,o1,o2)) fun x2=>
  aG (decide (0=0∧(0+x2.1)≤(List.length x2.2.2.2.2))) (
  ah (cE.call ((cut x2.2.2.2.2 0 x2.1),x1.1)) fun x3=>
  aG ((!x3)) (
   k (bg.out (false,x2.2.1,x2.2.2.1,x2.2.2.2.1,x1.2.1,x1.2.2.1,x1.2.2.2))) (
   ah (bK.call (x2.2.1,x2.2.2.1,x2.2.2.2.1)) fun x4=>
   ah (dp.call (x1.2.1,x1.2.2.1,x1.2.2.2)) fun x5=>
   aG ((mM x4.1 x5.1)) (
    k (bg.out (false,x4.2.1,x4.2.2.1,x4.2.2.2,x5.2.1,x5.2.2.1,x5.2.2.2))) (
    ah (bg.L0.call (x1.1,(0:Int),x4.2.1,x4.2.2.1,x4.2.2.2,x5.2.1,x5.2.2.1,x5.2.2.2)) fun x9=>
    aG (x9.isLeft) (
     ah (x9.getLeft?) fun a10=>
     k (bg.out (false,a10.1,a10.2.1,a10.2.2.1,a10.2.2.2.1,a10.2.2.2.2.1,a10.2.2.2.2.2))) (
     ah (x9.getRight?) fun b11=>
     k (bg.out (true,b11.1,b11.2.1,b11.2.2.1,b11.2.2.2.1,b11.2.2.2.2.1,b11.2.2.2.2.2)))))) none:=by kernel_rfl
theorem bg.L0.ok:bg.L0.Ok:=by
 refine bg.L0.aB (fun(ks,i,_,_,_,_,_,_)=>ks.length - i.toNat) ?_
 rintro⟨ks,i,n,a,s,l,n',w⟩ ⟨hg,hr,hl,ht,k,hk,rfl⟩
 have hg:qp 100 n a s:=hg
 have hr:Rl a l:=hr
 have hl:ks.length≤1000000:=hl
 have hk:k≤ks.length:=hk
 by_cases hlt:k < ks.length
 ·left
  have n1:nth ck ks k=ks[k]:=cn (t:=ck) hlt
  obtain⟨c,hc⟩:=Option.isSome_iff_exists.1 (ht _ (List.getElem_mem hlt))
  have hcg:=hg.jG.get hc
  have hlk:=oM hcg.1
  have hll:l.length≤1000000:=by have:=hr.len;have:=hg.Ei;omega
  refine⟨(ks,((k+1:Nat):Int),n,a,s,l,n',w),⟨hg,hr,hl,ht,k+1,by omega,rfl⟩,by simp only[Int.toNat_natCast];omega,rfl,fun kn kx=> ?_⟩
  rw[bg.L0.step,aW (by omega),ae,bm (by omega) (by omega),ae,Int.toNat_natCast,n1,hg.get,aa,ae,fS.run (d:=(ks[k],l,n',w)) hll,hc]
  simp only[aa,fS.add,fS.F,hr.eqv ks[k],hc,Option.getD_some,Option.isSome_some,Bool.not_true,ag]
  rw[aM.run (d:=(c,c)) ⟨by show c.1.2.1.1.length≤_;omega,fun b hb=>by have:=hlk.2 b hb;omega⟩]
  simp only[aa,aM.add,aM.F,decide_true,Bool.not_true,ag]
  rw[N.j5 (by omega)]
 ·right
  obtain rfl:k=ks.length:=by omega
  refine⟨bg.L0.fA (n,a,s,l,n',w),rfl,fun kn kx=> ?_⟩
  rw[bg.L0.step,aO (by omega),ag]
theorem bg.ok:bg.Ok:=by
 rintro⟨n,a,s,l,n',w⟩ ⟨hg,hr⟩
 have hg:qp 100 n a s:=hg
 have hr:Rl a l:=hr
 have hcnt:=hg.Ei
 have hll:=hr.len
 have hla:=Ct hg.jG
 rw[bg.eq,dn.run (d:=(l,n',w)) (by show l.length≤1000000;omega)]
 simp only[aa,dn.add,dn.F]
 rw[hg.all (by omega),aa]
 simp only[true_and,Nat.zero_add]
 rw[aZ (show a.length≤(Cs a).length by omega),ae,CK hla,EP (by omega),aa,aZ hr.all.symm,Bool.not_true,ag,hg.total,aa,dp.run (d:=(l,n',w)) ⟨by show l.length≤1000000;omega,fun p hp=>(hr.Hy.2 p hp).2.2.2.1,by rw[hr.Io];have:=hg.sum;omega⟩]
 simp only[aa,dp.add,dp.F]
 rw[ct hr.Io.symm,ag,bg.L0.run (d:=(l.map (·.1),0,n,a,s,l,n',w)) ⟨hg,hr,by show(l.map (·.1)).length≤1000000;rw[List.length_map];omega,fun o ho=> ?_,0,Nat.zero_le _,rfl⟩]
 ·simp only[aa,bg.L0.add,bg.L0.F,Sum.isLeft_inr,ag,Sum.getRight?_inr,bg.add,bg.F]
 ·rw[hr.all]at ho
  have hm:=(xK hg.jG).mem_iff.1 ho
  obtain⟨p,hp,e⟩:=List.mem_map.1 hm
  have e:p.1=o:=e
  rw[←e,(gO fI hg.jG.1 (x:=p.1) (v:=p.2)).2 hp]
  rfl
noncomputable def bg.E:=Entry.cD [none,none] bg.st bg.av bg.add bg.F bg.out
noncomputable def bg.call:bg.D→Option bg.X:=bS bg.E bg.st
theorem bg.run:bM bg.call bg.av bg.add bg.F:=dq (df [.n,.d (.slice (.pair ck gl)),.d (.slice dZ),.d (.slice eN),.n,.d (.slice (.slice eN))] fun _=>by kernel_rfl)
noncomputable def bg.sg:SG Tryz.prog:=⟨41,aR,bg.E,.fn 1 (by kernel_rfl) bg.ok (And.intro (.cD bg.L0.ok (by kernel_rfl)) trivial)⟩
abbrev aP.L0.D:=(List sN)×Bool×Int×Nat×(List (cK×fa))×(List dQ)×(List dM)×Nat×(List (List dM))
def aP.L0.st:aP.L0.D→AS:=fun(acts_2,head,i,n23L,n23,n23_2,n25,n25L,n25_2)=>⟨([.undef,.d (.slice kA) acts_2,.undef,.undef,.undef,.d .bool head,.undef,.ptr (.new 23 0) 0 [] 0,.ptr (.new 25 0) 0 [] 0,.d ti i]++bl 101 []),[],(ch 23 ([[.obj 0 false (.pr (.ff (.new 23 1) 0) (.pr (.bH (.new 23 2) 0 [] 0 0 n23L) (.d .unit ()))),.obj 0 false (.mp ck gl n23),.obj 0 false (.vec 161 dZ n23_2)],[],[.obj 0 false (.pr (.d (.slice eN) n25) (.pr (.bH (.new 25 1) 0 [] 0 0 n25L) (.d .unit ()))),.obj 0 false (.vec 164 (.slice eN) n25_2)]]++ch 85 []))⟩
abbrev aP.L0.Y0:=Unit
abbrev aP.L0.X0:=Unit
def aP.L0.bp:aP.L0.X0→Exit×AS:=fun x=>(.ret,⟨(bl 4 ([.d .bool false]++bl 106 [])),[],(List.replicate 111 [])⟩)
abbrev aP.L0.Y1:=Unit
abbrev aP.L0.X1:=Bool
def aP.L0.fA:aP.L0.X1→Exit×AS:=fun x=>(.exit 0,⟨(bl 5 ([.d .bool x]++bl 105 [])),[],(List.replicate 111 [])⟩)
abbrev aP.L0.X:=(aP.L0.X0)⊕(aP.L0.X1)
abbrev aP.L0.Y:=(aP.L0.Y0)⊕(aP.L0.Y1)
def aP.L0.out:aP.L0.X→Out (Exit×AS):=fun x=> .br x.isLeft (.get x.getLeft? fun a=> .ok (aP.L0.bp a)) (.get x.getRight? fun b=> .ok (aP.L0.fA b))
def aP.L0.add:aP.L0.D→aP.L0.Y→aP.L0.X:=fun(acts_2,head,i,n23L,n23,n23_2,n25,n25L,n25_2) y=>match y with | .inl y=> .inl y | .inr z=> .inr (head)
abbrev aP.D:=(List gm)×(List sN)
def aP.st:aP.D→SA:=fun(outs,acts)=>([.d (.slice fe) outs,.d (.slice kA) acts],[])
abbrev aP.Y:=Bool
abbrev aP.X:=Bool
def aP.out:aP.X→ba:=fun x=>⟨.d .bool x,[],[]⟩
def aP.add:aP.D→aP.Y→aP.X:=fun(outs,acts) y=>y
def aP.L0.av:aP.L0.D→Prop:=fun(acts,_,i,n,a,s,l,n',w)=>acts.length≤20∧(∀x∈acts,nE x.2.1)∧∃k:Nat,k≤acts.length∧i=k∧om k n a s l n' w
def aP.L0.F:aP.L0.D→aP.L0.Y:=fun _=> .inr ()
def aP.av:aP.D→Prop:=fun(outs,acts)=>(∀o∈outs,sO o)∧acts.length≤9223372036854775807∧(∀x∈acts,nE x.2.1)
def aP.F:aP.D→aP.Y:=fun _=>true
noncomputable def aP.G:ed:=fk (P:=Tryz.prog) [bq.sg,bI.sg,bE.sg,bJ.sg,aC.sg,bC.sg,aU.sg,fW.sg,bA.sg,aT.sg,bO.sg,bg.sg]
noncomputable def aP.L0.E:=bU.cD aP.L0.st aP.L0.av aP.L0.add aP.L0.F aP.L0.out
noncomputable def aP.L0.call:aP.L0.D→Option aP.L0.X:=dw aP.L0.E aP.L0.st
noncomputable def aP.an:eQ:= {loops:=jB [(10,{bn:=[1,5,7,8,9],sites:=[23,25,103],iE:=[⟨7,[],23,0⟩,⟨8,[.snd,.fst],25,88⟩]})],outs:=jA [(10,{bn:=[5]},{bn:=[4]})],fC:=kf [(10,aP.L0.E)]}
noncomputable def aP.A:= @cY Tryz.prog aP.G aP.an 0 Tryz.f6 _ aP.st
abbrev aP.Ok:=dd @aP.A aP.av aP.add aP.F aP.out
noncomputable def aP.L0.R:= @cj Tryz.prog aP.G aP.an 0 Tryz.f6 0 _ aP.L0.st
abbrev aP.L0.Ok:=ew Tryz.prog aP.G aP.an 0 Tryz.f6 0 aP.L0.st aP.L0.av aP.L0.add aP.L0.F aP.L0.out
theorem aP.L0.run:bM aP.L0.call aP.L0.av aP.L0.add aP.L0.F:=eM (eL [.d (.slice kA),.d .bool,.d ti,.n,.d (.slice (.pair ck gl)),.d (.slice dZ),.d (.slice eN),.n,.d (.slice (.slice eN))] fun _=>by kernel_rfl)
theorem aP.L0.aB:kC @aP.L0.R aP.L0.st aP.L0.av aP.L0.add aP.L0.F aP.L0.out aP.L0.Ok:=kL
theorem aP.L0.step{R:Type}(acts_2:(List sN))(head:Bool)(i:Int)(n23L:Nat)(n23:(List (cK×fa)))(n23_2:(List dQ))(n25:(List dM))(n25L:Nat)(n25_2:(List (List dM)))(kn:AS→Option R)(kx:Exit→AS→Option R):aP.L0.R (acts_2,head,i,n23L,n23,n23_2,n25,n25L,n25_2) kn kx=
  aG ((fM i (((List.length acts_2):Nat):Int))) (
   aG (eI i (((List.length acts_2):Nat):Int)) (
   ah (aC.call ((nth kA acts_2 (Int.toNat i)).2.1,(nth kA acts_2 (Int.toNat i)).2.2.1,n23L,n23,n23_2)) fun x46=>
   ah (bC.call ((nth kA acts_2 (Int.toNat i)).2.1,(nth kA acts_2 (Int.toNat i)).2.2.1,n25,n25L,n25_2)) fun x50=>
   aG ((mM x46.1 x50.1)) (
    kx (aP.L0.bp ()).1 (aP.L0.bp ()).2) (
    aG ((mM x46.2.1 x50.2.1)) (
     kx (aP.L0.bp ()).1 (aP.L0.bp ()).2) (
     aG ((jz (cw .and .i64 (nth kA acts_2 (Int.toNat i)).1 (3:Int)) (2:Int))) (
      ah (aU.call (x46.2.2.1,x46.2.2.2.1,x46.2.2.2.2)) fun x64=>
      ah (fW.call (x50.2.2.1,x50.2.2.2.1,x50.2.2.2.2)) fun x65=>
      aG ((!(Ty.beq .bool x64.1 x65.2.1))) (
       kx (aP.L0.bp ()).1 (aP.L0.bp ()).2) (
       ah (bg.call (x64.2.1,x64.2.2.1,x64.2.2.2,x65.2.2.1,x65.2.2.2,x65.1)) fun x67=>
       aG ((!x67.1)) (
        kx (aP.L0.bp ()).1 (aP.L0.bp ()).2) (
        kn (aP.L0.st (acts_2,head,(bN .i64 i (1:Int)),x67.2.1,x67.2.2.1,x67.2.2.2.1,x67.2.2.2.2.1,x67.2.2.2.2.2.1,x67.2.2.2.2.2.2))))) (
      aG ((jz (cw .and .i64 (nth kA acts_2 (Int.toNat i)).1 (3:Int)) (3:Int))) (
       ah (bA.call (x46.2.2.1,x46.2.2.2.1,x46.2.2.2.2)) fun x71=>
       ah (bg.call (x71.2.2.2.1,x71.2.2.2.2.1,x71.2.2.2.2.2,x50.2.2.1,x50.2.2.2.1,x50.2.2.2.2)) fun x73=>
       aG ((!x73.1)) (
        kx (aP.L0.bp ()).1 (aP.L0.bp ()).2) (
        kn (aP.L0.st (acts_2,head,(bN .i64 i (1:Int)),x73.2.1,x73.2.2.1,x73.2.2.2.1,x73.2.2.2.2.1,x73.2.2.2.2.2.1,x73.2.2.2.2.2.2)))) (
       ah (aT.call ((nth kA acts_2 (Int.toNat i)).2.1,(nth kA acts_2 (Int.toNat i)).2.2.1,x46.2.2.1,x46.2.2.2.1,x46.2.2.2.2)) fun x74=>
       aG (x74.isLeft) (
        ah (x74.getLeft?) fun x74l=>
        ah (bO.call ((nth kA acts_2 (Int.toNat i)).2.1,(nth kA acts_2 (Int.toNat i)).2.2.1,x50.2.2.1,x50.2.2.2.1,x50.2.2.2.2)) fun x75=>
        aG (x75.isLeft) (
         ah (x75.getLeft?) fun x75l=>
         aG ((mM x74l.1 x75l.1)) (
          kx (aP.L0.bp ()).1 (aP.L0.bp ()).2) (
          ah (bg.call (x74l.2.1,x74l.2.2.1,x74l.2.2.2,x75l.2.1,x75l.2.2.1,x75l.2.2.2)) fun x77=>
          aG ((!x77.1)) (
           kx (aP.L0.bp ()).1 (aP.L0.bp ()).2) (
           kn (aP.L0.st (acts_2,head,(bN .i64 i (1:Int)),x77.2.1,x77.2.2.1,x77.2.2.2.1,x77.2.2.2.2.1,x77.2.2.2.2.2.1,x77.2.2.2.2.2.2))))) (
         ah (x75.getRight?) fun x75r=>
         aG ((mM x74l.1 x75r.1)) (
          kx (aP.L0.bp ()).1 (aP.L0.bp ()).2) (
          ah (bg.call (x74l.2.1,x74l.2.2.1,x74l.2.2.2,x75r.2.1,x75r.2.2.1,x75r.2.2.2)) fun x79=>
          aG ((!x79.1)) (
           kx (aP.L0.bp ()).1 (aP.L0.bp ()).2) (
           kn (aP.L0.st (acts_2,head,(bN .i64 i (1:Int)),x79.2.1,x79.2.2.1,x79.2.2.2.1,x79.2.2.2.2.1,x79.2.2.2.2.2.1,x79.2.2.2.2.2.2)))))) (
        ah (x74.getRight?) fun x74r=>
        ah (bO.call ((nth kA acts_2 (Int.toNat i)).2.1,(nth kA acts_2 (Int.toNat i)).2.2.1,x50.2.2.1,x50.2.2.2.1,x50.2.2.2.2)) fun x80=>
        aG (x80.isLeft) (
         ah (x80.getLeft?) fun x80l=>
         aG ((mM x74r.1 x80l.1)) (
          kx (aP.L0.bp ()).1 (aP.L0.bp ()).2) (
          ah (bg.call (x74r.2.1,x74r.2.2.1,x74r.2.2.2,x80l.2.1,x80l.2.2.1,x80l.2.2.2)) fun x82=>
          aG ((!x82.1)) (
           kx (aP.L0.bp ()).1 (aP.L0.bp ()).2) (
           kn (aP.L0.st (acts_2,head,(bN .i64 i (1:Int)),x82.2.1,x82.2.2.1,x82.2.2.2.1,x82.2.2.2.2.1,x82.2.2.2.2.2.1,x82.2.2.2.2.2.2))))) (
         ah (x80.getRight?) fun x80r=>
         aG ((mM x74r.1 x80r.1)) (
          kx (aP.L0.bp ()).1 (aP.L0.bp ()).2) (
          ah (bg.call (x74r.2.1,x74r.2.2.1,x74r.2.2.2,x80r.2.1,x80r.2.2.1,x80r.2.2.2)) fun x84=>
          aG ((!x84.1)) (
           kx (aP.L0.bp ()).1 (aP.L0.bp ()).2) (
           kn (aP.L0.st (acts_2,head,(bN .i64 i (1:Int)),x84.2.1,x84.2.2.1,x84.2.2.2.1,x84.2.2.2.2.1,x84.2.2.2.2.2.1,x84.2.2.2.2.2.2))))))))))) none) (
   kx (aP.L0.fA head).1 (aP.L0.fA head).2):=by kernel_rfl
theorem aP.eq{R:Type}(outs:(List gm))(acts:(List sN))(k:ba→Option R):aP.A (outs,acts) k=
  ah (bq.call ()) fun x4=>
  ah (bI.call (outs,acts)) fun x8=>
  aG ((!x8)) (
   k (aP.out x4)) (
   ah (bE.call outs) fun x9=>
   aG (x9.isLeft) (
    ah (x9.getLeft?) fun x9l=>
    ah (bJ.call outs) fun x13=>
    aG (x13.isLeft) (
     ah (x13.getLeft?) fun x13l=>
     aG (x4) (
      k (aP.out true)) (
      k (aP.out false))) (
     ah (x13.getRight?) fun x13r=>
     aG (x4) (
      k (aP.out false)) (
      k (aP.out false)))) (
    ah (x9.getRight?) fun x9r=>
    ah (bJ.call outs) fun x17=>
    aG (x17.isLeft) (
     ah (x17.getLeft?) fun x17l=>
     aG (x4) (
      k (aP.out false)) (
      k (aP.out false))) (
     ah (x17.getRight?) fun x17r=>
     ah (aP.L0.call (acts,x4,(0:Int),0,x9r.1,x9r.2,x17r.1,0,x17r.2)) fun x257=>
     aG (x257.isLeft) (
      ah (x257.getLeft?) fun a258=>
      k (aP.out false)) (
      ah (x257.getRight?) fun b259=>
      k (aP.out b259))))):=by kernel_rfl
theorem oU{m n n':Nat}{a:At}{s:List dQ}{l:List dM}{w:List (List dM)}(hb:om m n a s l n' w)(hm:m≤100):bg.call (n,a,s,l,n',w)=some (true,n,a,s,l,n',w):=bg.run (d:=(n,a,s,l,n',w)) ⟨hb.st.mono hm,hb.rl⟩
theorem oQ{m n n':Nat}{a:At}{s:List dQ}{l:List dM}{w:List (List dM)}(hb:om m n a s l n' w)(hm:m≤100){t:fv}{h:Int}(hv:nE t):bC.call (t,h,l,n',w)=some ((ee t h a).1,(ee t h a).2,l,n',w):=by
 have h1:=hb.rl.len
 have h2:=hb.st.Ei
 rw[bC.run (d:=(t,h,l,n',w)) ⟨hv,hb.rl.Hy,by show l.length≤1000000;omega⟩]
 simp only[bC.add,bC.F,hb.rl.check]
theorem yY{m n n':Nat}{a:At}{s:List dQ}{l:List dM}{w:List (List dM)}(hb:om m n a s l n' w)(hm:m≤100){t:fv}{h:Int}(hv:nE t):bO.call (t,h,l,n',w)=some (if(ee t h a).2≠0 then .inl ((ee t h a).2,l,n',w) else .inr (0,zz t h l,n'+1,w.take n'++ [l])):=by
 have h1:=hb.rl.len
 have h2:=hb.st.Ei
 have h3:=hb.len
 rw[bO.run (d:=(t,h,l,n',w)) ⟨hv,hb.rl.Hy,by show l.length≤500000;omega,by rw[hb.eq];exact hb.le,by show w.length≤1000000;omega⟩]
 simp only[bO.add,bO.F,hb.rl.check]
 by_cases e:(ee t h a).2≠0
 ·rw[if_pos e]
 ·rw[if_neg e]
theorem y4{m n n':Nat}{a:At}{s:List dQ}{l:List dM}{w:List (List dM)}(hb:om m n a s l n' w)(hm:m≤100):fW.call (l,n',w)=some (w,if n'=0 then(false,l,n') else(true,nth (.slice eN) w (n' - 1),n' - 1)):=by
 have h3:=hb.len
 exact fW.run (d:=(l,n',w)) ⟨by rw[hb.eq];exact hb.le,by show w.length≤1000000;omega⟩
theorem aP.L0.ok:aP.L0.Ok:=by
 refine aP.L0.aB (fun(acts,_,i,_,_,_,_,_,_)=>acts.length - i.toNat) ?_
 rintro⟨acts,hd,i,n,a,s,l,n',w⟩ ⟨hl,hv,k,hk,rfl,hb⟩
 have hl:acts.length≤20:=hl
 have hk:k≤acts.length:=hk
 have hb:om k n a s l n' w:=hb
 by_cases hlt:k < acts.length
 ·left
  have n1:nth kA acts k=acts[k]:=cn (t:=kA) hlt
  have hx:=hv _ (List.getElem_mem hlt)
  have hstep:∀ {R:Type} (kn:AS→Option R) (kx:Exit→AS→Option R) (z:Option R),(aP.L0.R (acts,hd,(k:Int),n,a,s,l,n',w) kn kx=z)↔(aP.L0.R (acts,hd,(k:Int),n,a,s,l,n',w) kn kx=z):=fun _ _ _=>Iff.rfl
  by_cases d2:cw .and .i64 acts[k].1 (3:Int)=2
  ·cases n with
   |zero=>
    obtain rfl:n'=0:=hb.eq
    refine⟨(acts,hd,((k+1:Nat):Int),0,a,s,l,0,w),⟨hl,hv,k+1,by omega,rfl,hb.mono⟩,by simp only[Int.toNat_natCast];omega,rfl,fun kn kx=> ?_⟩
    rw[aP.L0.step,aW (by omega),ae,bm (by omega) (by omega),ae,Int.toNat_natCast,n1,hb.st.check hx,aa,oQ hb (by omega) hx,aa,ct rfl,ag,ct rfl,ag,hP d2,ae,hb.st.Ci (by omega),aa,if_pos rfl,y4 hb (by omega),aa,if_pos rfl]
    show aG (!(Ty.beq .bool false false)) _ _=_
    rw[show Ty.beq .bool false false=true from rfl,Bool.not_true,ag,oU hb (by omega),aa,Bool.not_true,ag,N.j5 (by omega)]
   |succ n=>
    obtain rfl:n'=n+1:=hb.eq
    have hu:=hb.Ci
    refine⟨(acts,hd,((k+1:Nat):Int),n,kI a (nth dZ s n),s,nth (.slice eN) w n,n,w),⟨hl,hv,k+1,by omega,rfl,hu.mono⟩,by simp only[Int.toNat_natCast];omega,rfl,fun kn kx=> ?_⟩
    rw[aP.L0.step,aW (by omega),ae,bm (by omega) (by omega),ae,Int.toNat_natCast,n1,hb.st.check hx,aa,oQ hb (by omega) hx,aa,ct rfl,ag,ct rfl,ag,hP d2,ae,hb.st.Ci (by omega),aa,if_neg (Nat.succ_ne_zero n),y4 hb (by omega),aa,if_neg (Nat.succ_ne_zero n)]
    show aG (!(Ty.beq .bool true true)) _ _=_
    rw[show Ty.beq .bool true true=true from rfl,Bool.not_true,ag]
    show ah (bg.call (n,kI a (nth dZ s n),s,nth (.slice eN) w n,n,w)) _=_
    rw[oU hu (by omega),aa,Bool.not_true,ag,N.j5 (by omega)]
  ·by_cases d3:cw .and .i64 acts[k].1 (3:Int)=3
   ·have hc:=hb.copy
    refine⟨(acts,hd,((k+1:Nat):Int),(s.take n).length,jQ a,s.take n,l,n',w),⟨hl,hv,k+1,by omega,rfl,hc.mono⟩,by simp only[Int.toNat_natCast];omega,rfl,fun kn kx=> ?_⟩
    rw[aP.L0.step,aW (by omega),ae,bm (by omega) (by omega),ae,Int.toNat_natCast,n1,hb.st.check hx,aa,oQ hb (by omega) hx,aa,ct rfl,ag,ct rfl,ag,gr d2,ag,hP d3,ae,hb.st.copy (by omega),aa,oU hc (by omega),aa,Bool.not_true,ag,N.j5 (by omega)]
   ·rcases hb.st.apply (t:=acts[k].2.1) (h:=acts[k].2.2.1) (by omega) hx with⟨h1,h2⟩ | ⟨hc,h1,h2,_⟩
    ·refine⟨(acts,hd,((k+1:Nat):Int),n,a,s,l,n',w),⟨hl,hv,k+1,by omega,rfl,hb.mono⟩,by simp only[Int.toNat_natCast];omega,rfl,fun kn kx=> ?_⟩
     rw[aP.L0.step,aW (by omega),ae,bm (by omega) (by omega),ae,Int.toNat_natCast,n1,hb.st.check hx,aa,oQ hb (by omega) hx,aa,ct rfl,ag,ct rfl,ag,gr d2,ag,gr d3,ag,h2,aa]
     simp only[Sum.isLeft_inl,ae,Sum.getLeft?_inl,aa]
     rw[yY hb (by omega) hx,aa,if_pos h1]
     simp only[Sum.isLeft_inl,ae,Sum.getLeft?_inl,aa]
     rw[ct rfl,ag,oU hb (by omega),aa,Bool.not_true,ag,N.j5 (by omega)]
    ·have ha:=hb.apply hc hx
     refine⟨(acts,hd,((k+1:Nat):Int),n+1,gB acts[k].2.1 acts[k].2.2.1 a,s.take n++ [stepOf acts[k].2.1 a],zz acts[k].2.1 acts[k].2.2.1 l,n'+1,w.take n'++ [l]),⟨hl,hv,k+1,by omega,rfl,ha⟩,by simp only[Int.toNat_natCast];omega,rfl,fun kn kx=> ?_⟩
     rw[aP.L0.step,aW (by omega),ae,bm (by omega) (by omega),ae,Int.toNat_natCast,n1,hb.st.check hx,aa,oQ hb (by omega) hx,aa,ct rfl,ag,ct rfl,ag,gr d2,ag,gr d3,ag,h2,aa]
     simp only[Sum.isLeft_inr,ag,Sum.getRight?_inr,aa]
     rw[yY hb (by omega) hx,aa,if_neg (fun e=>e h1)]
     simp only[Sum.isLeft_inr,ag,Sum.getRight?_inr,aa]
     rw[ct rfl,ag,oU ha (by omega),aa,Bool.not_true,ag,N.j5 (by omega)]
 ·right
  obtain rfl:k=acts.length:=by omega
  refine⟨aP.L0.fA hd,rfl,fun kn kx=> ?_⟩
  rw[aP.L0.step,aO (by omega),ag]
theorem aP.ok:aP.Ok:=by
 rintro⟨outs,acts⟩ ⟨ho,hal,hv⟩
 have hrn:bJ.call outs=some (match qe outs with | none=> .inl () | some a=> .inr (a.map sW,[])):=by
  rw[bJ.run (d:=outs) ho]
  simp only[bJ.add,bJ.F]
  cases qe outs <;> rfl
 rw[aP.eq,bq.run (d:=()) trivial,bI.run (d:=(outs,acts)) hal,EJ ho]
 simp only[aa,bq.add,bq.F,bI.add,bI.F,aP.add,aP.F]
 cases hf:CW outs acts with
 |false=>rfl
 |true=>
  obtain⟨_,h20,_⟩:=FZ hf
  rw[Bool.not_true,ag,hrn]
  cases hn:qe outs with
  |none=>rfl
  |some a0=>
   simp only[Sum.isLeft_inr,ag,Sum.getRight?_inr,aa]
   obtain⟨g0,_⟩:=wc ho hn
   rw[aP.L0.run (d:=(acts,true,0,0,a0,[],a0.map sW,0,[])) ⟨h20,hv,0,Nat.zero_le _,rfl,⟨g0,Gf ho hn,rfl,Nat.le_refl _,Nat.le_refl _,trivial⟩⟩]
   simp only[aa,aP.L0.add,aP.L0.F,Sum.isLeft_inr,ag,Sum.getRight?_inr]
noncomputable def aP.E:=Entry.cD [some (.slice fe),some (.slice kA)] aP.st aP.av aP.add aP.F aP.out
noncomputable def aP.call:aP.D→Option aP.X:=bS aP.E aP.st
theorem aP.run:bM aP.call aP.av aP.add aP.F:=dq (df [.d (.slice fe),.d (.slice kA)] fun _=>by kernel_rfl)
noncomputable def aP.sg:SG Tryz.prog:=⟨6,aR,aP.E,.fn 1 (by kernel_rfl) aP.ok (And.intro (.cD aP.L0.ok (by kernel_rfl)) trivial)⟩
end Go.Ab
