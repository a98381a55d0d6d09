/-
  Made by a program of mine (wip/gen), and by hand.
-/
import Derived.Test.YtglpcfdjdabdnaaLw3
import Derived.Test.YtglpcfdjdabdnaaGp2
namespace Go.Ab
open Go.Proofs
set_option maxRecDepth 100000
set_option linter.unusedVariables false
set_option linter.unusedSimpArgs false


def keyOf (x : Int) : Int := 1 + x % 2305843009213688668
theorem keyOf_ok (x : Int) : 0 < keyOf x ∧ keyOf x < 2305843009213688669 := by unfold keyOf; omega
theorem keyOf_eq {x : Int} (h : U64 x) : iadd .u64 (1 : Int) (irem x (2305843009213688668 : Int)) = keyOf x := by
  obtain ⟨n, rfl⟩ : ∃ n : Nat, x = n := ⟨x.toNat, by have := h.1; omega⟩
  rw [show irem (n : Int) (2305843009213688668 : Int) = ((n % 2305843009213688668 : Nat) : Int) from N.rNL]
  show IntKind.u64.wrap _ = _
  have e : IntKind.u64.wrap (1 + ((n % 2305843009213688668 : Nat) : Int)) = (1 + ((n % 2305843009213688668 : Nat) : Int)) % 18446744073709551616 := rfl
  rw [e]
  unfold keyOf
  omega
theorem keyOf_u (x : Int) : U64 (keyOf x) := by have := keyOf_ok x; exact ⟨by omega, by omega⟩
theorem bq (b : Bool) : Ty.beq .bool b b = true := by cases b <;> rfl
theorem u0 : U64 0 := ⟨Int.le_refl 0, by decide⟩
theorem keysU_cons {x : Int} {l : List Int} (h : U64 x) (hl : KeysU l) : KeysU (x :: l) := fun p hp => by
  rcases List.mem_cons.1 hp with rfl | hp
  · exact h
  · exact hl p hp
theorem keysU_nil : KeysU [] := fun p hp => by cases hp
theorem lkU_all {ks : List Int} (h : KeysU ks) : LkU (allL ks) := fun b hb => by
  have hb : b ∈ [(ks, (0 : Int), (0 : Int), (0 : Int), ())] := hb
  rw [List.mem_singleton] at hb
  subst hb
  exact ⟨h, u0⟩
theorem lkU_late {o r d : Int} (ho : U64 o) (hr : U64 r) : LkU (lateL o r d) := fun b hb => by
  have hb : b ∈ [([r], (0 : Int), (0 : Int), (0 : Int), ()), ([o], 0, d, 0, ())] := hb
  rcases List.mem_cons.1 hb with rfl | hb
  · exact ⟨keysU_cons hr keysU_nil, u0⟩
  · rw [List.mem_singleton] at hb
    subst hb
    exact ⟨keysU_cons ho keysU_nil, u0⟩
theorem lkU_anchor {o : Int} (ho : U64 o) : LkU (anchorL o) := fun b hb => by
  have hb : b ∈ [([o], (0 : Int), (0 : Int), (0 : Int), ()), ([], 0, 16, 0, ())] := hb
  rcases List.mem_cons.1 hb with rfl | hb
  · exact ⟨keysU_cons ho keysU_nil, u0⟩
  · rw [List.mem_singleton] at hb
    subst hb
    exact ⟨keysU_nil, u0⟩
theorem ht0 : htOk 0 = true := rfl
theorem ht16 : htOk 16 = true := rfl
theorem ht1 : htOk 1 = true := rfl
theorem brOk_of (ks : List Int) (a d : Int) (h : ks.length ≤ 12) : brOk (ks, a, d, 0, ()) = (ks.all isP && (htOk a && htOk d)) := by
  have e : brOk (ks, a, d, 0, ()) = (decide (ks.length ≤ 12) && (ks.all isP && (htOk a && (htOk d && true)))) := rfl
  rw [e, dec_true h, Bool.true_and, Bool.and_true]
theorem lkOk_all (ks : List Int) (h : ks.length ≤ 12) : lkOk (allL ks) = ks.all isP := by
  have e : lkOk (allL ks) = ((brOk (ks, 0, 0, 0, ()) && true) && true) := rfl
  rw [e, brOk_of _ _ _ h, ht0, Bool.and_true, Bool.and_true, Bool.and_true, Bool.and_true]
theorem lkOk_late (o r d : Int) : lkOk (lateL o r d) = (isP r && (isP o && htOk d)) := by
  have e : lkOk (lateL o r d) = ((brOk ([r], 0, 0, 0, ()) && (brOk ([o], 0, d, 0, ()) && true)) && true) := rfl
  rw [e, brOk_of _ _ _ (Nat.le_of_ble_eq_true rfl), brOk_of _ _ _ (Nat.le_of_ble_eq_true rfl), ht0]
  simp only [List.all_cons, List.all_nil, Bool.and_true, Bool.true_and]
theorem lkOk_anchor (o : Int) : lkOk (anchorL o) = isP o := by
  have e : lkOk (anchorL o) = ((brOk ([o], 0, 0, 0, ()) && (brOk ([], 0, 16, 0, ()) && true)) && true) := rfl
  rw [e, brOk_of _ _ _ (Nat.le_of_ble_eq_true rfl), brOk_of _ _ _ (Nat.le_of_ble_eq_true rfl), ht0, ht16]
  simp only [List.all_cons, List.all_nil, Bool.and_true, Bool.true_and]
/-- What opens a branch. -/
def openB (b : Brn) (sg : List Sg) (s : Int) (m : List Int) (height age : Int) : Int :=
  if height < b.2.1 ∨ age < b.2.2.1 then 11
  else if b.2.2.2.1 ≠ 0 ∧ baseP s ≠ b.2.2.2.1 then 23
  else if sg.length ≠ b.1.length then 7
  else if verAll m b.1 sg then 0 else 7
theorem open_of {l : Lk} {i : Nat} {b : Brn} (hok : lkOk l = true) (hi : i < l.1.length) (hb : l.1[i] = b) (sg : List Sg) (s : Int) (m : List Int) (h a : Int) : openL l ((i : Int), sg, s, ()) m h a = openB b sg s m h a := by
  have n1 : nth (.pair (.slice (.int .u64)) (.pair (.int .i64) (.pair (.int .i64) (.pair (.int .u64) .unit)))) l.1 i = l.1[i] := nth_lt (t := (.pair (.slice (.int .u64)) (.pair (.int .i64) (.pair (.int .i64) (.pair (.int .u64) .unit))))) hi
  unfold openL
  rw [if_neg (by
    intro hh
    rcases hh with hh | hh | hh
    · rw [hok] at hh; cases hh
    · have hh : (i : Int) < 0 := hh
      omega
    · have hh : (i : Int) ≥ l.1.length := hh
      omega)]
  show (if h < (nth (.pair (.slice (.int .u64)) (.pair (.int .i64) (.pair (.int .i64) (.pair (.int .u64) .unit)))) l.1 i).2.1 ∨ a < (nth (.pair (.slice (.int .u64)) (.pair (.int .i64) (.pair (.int .i64) (.pair (.int .u64) .unit)))) l.1 i).2.2.1 then 11 else if (nth (.pair (.slice (.int .u64)) (.pair (.int .i64) (.pair (.int .i64) (.pair (.int .u64) .unit)))) l.1 i).2.2.2.1 ≠ 0 ∧ baseP s ≠ (nth (.pair (.slice (.int .u64)) (.pair (.int .i64) (.pair (.int .i64) (.pair (.int .u64) .unit)))) l.1 i).2.2.2.1 then 23 else if sg.length ≠ (nth (.pair (.slice (.int .u64)) (.pair (.int .i64) (.pair (.int .i64) (.pair (.int .u64) .unit)))) l.1 i).1.length then 7 else if verAll m (nth (.pair (.slice (.int .u64)) (.pair (.int .i64) (.pair (.int .i64) (.pair (.int .u64) .unit)))) l.1 i).1 sg then 0 else 7) = _
  rw [n1, hb]
  rfl
theorem ver_signed (m : List Int) : ∀ ks : List Int, (∀ k ∈ ks, 0 < k ∧ k < 2305843009213688669) → verAll m (ks.map baseP) (ks.map fun k => signQ k m) = true
  | [], _ => rfl
  | k :: ks, h => by
    have hk := h k List.mem_cons_self
    show (checks (baseP k) m 1 (signQ k m) && verAll m (ks.map baseP) (ks.map fun k => signQ k m)) = true
    rw [sign_ok k m hk.1 hk.2, ver_signed m ks fun x hx => h x (List.mem_cons_of_mem _ hx)]
    rfl
theorem openB_signed (ks : List Int) (hk : ∀ k ∈ ks, 0 < k ∧ k < 2305843009213688669) (af dl sc s : Int) (m : List Int) (h a : Int) (hs : sc = 0 ∨ baseP s = sc) :
    openB (ks.map baseP, af, dl, sc, ()) (ks.map fun k => signQ k m) s m h a = if h < af ∨ a < dl then 11 else 0 := by
  have e : openB (ks.map baseP, af, dl, sc, ()) (ks.map fun k => signQ k m) s m h a = if h < af ∨ a < dl then 11 else if sc ≠ 0 ∧ baseP s ≠ sc then 23 else if (ks.map fun k => signQ k m).length ≠ (ks.map baseP).length then 7 else if verAll m (ks.map baseP) (ks.map fun k => signQ k m) then 0 else 7 := rfl
  rw [e, ver_signed m ks hk, if_neg (c := sc ≠ 0 ∧ baseP s ≠ sc) (by rintro ⟨h1, h2⟩; exact hs.elim h1 h2), if_neg (c := (ks.map fun k => signQ k m).length ≠ (ks.map baseP).length) (by rw [List.length_map, List.length_map]; exact fun x => x rfl)]
  rfl
theorem lopen_is {l : Lk} {w : Wit} {m : List Int} {h a v : Int} (hl : LkU l) (hn : l.1.length ≤ 1000000000) (hw : WitU w) (hm : Sm m) (e : openL l w m h a = v) : lopen.call (l, w, m, h, a) = some v := by
  rw [lopen.run (d := (l, w, m, h, a)) ⟨hl, hn, hw, hm⟩, ← e]
  rfl
theorem lright_is {l : Lk} {v : Bool} (hl : LkU l) (hn : l.1.length ≤ 1000000000) (e : lkOk l = v) : lright.call l = some v := by
  rw [lright.run (d := l) ⟨hl, hn⟩, ← e]
  rfl
theorem okOne {k : Int} (h : 0 < k ∧ k < 2305843009213688669) : ∀ x ∈ [k], 0 < x ∧ x < 2305843009213688669 := fun x hx => by rw [List.mem_singleton] at hx; subst hx; exact h
theorem okTwo {k j : Int} (h : 0 < k ∧ k < 2305843009213688669) (hj : 0 < j ∧ j < 2305843009213688669) : ∀ x ∈ [k, j], 0 < x ∧ x < 2305843009213688669 := fun x hx => by
  rcases List.mem_cons.1 hx with rfl | hx
  · exact h
  · rw [List.mem_singleton] at hx; subst hx; exact hj

/-! ### corsned/corsnedlaw12.LockMakes -/
abbrev lockmakes.D := Int × Int × (List Int) × Int × Int × Int
def lockmakes.st : lockmakes.D → List AVal × List Ent := fun (x, yv, m, delay, age, p) => ([.d (.int .u64) x, .d (.int .u64) yv, .d (.arr 32 (.int .u8)) m, .d (.int .i64) delay, .d (.int .i64) age, .d (.int .u64) p], [])
abbrev lockmakes.Y := Bool
abbrev lockmakes.X := Bool
def lockmakes.out : lockmakes.X → GRes := fun x => ⟨.d .bool x, [], []⟩
def lockmakes.add : lockmakes.D → lockmakes.Y → lockmakes.X := fun (x, yv, m, delay, age, p) y => y


def lockmakes.Pre : lockmakes.D → Prop := fun (x, z, m, dl, age, p) => U64 x ∧ U64 z ∧ Sm m ∧ U64 p
def lockmakes.F : lockmakes.D → lockmakes.Y := fun _ => true

noncomputable def lockmakes.G : Gam := gcons 8 anyArgs small12.E (gcons 12 anyArgs pbase.E (gcons 15 anyArgs pright.E (gcons 16 anyArgs lkey.E (gcons 14 anyArgs lright.E (gcons 17 anyArgs lboth.E (gcons 18 anyArgs lall.E (gcons 19 anyArgs llate.E (gcons 20 anyArgs lanchor.E (gcons 10 anyArgs lopen.E (gcons 13 anyArgs wsigned.E (gnil)))))))))))
noncomputable def lockmakes.an : Ann := {
  objs := [],
  loops := fun r => { keep := [], sites := [], frz := [], data := [], owns := [] },
  outs := fun r b => { keep := [], sites := [], frz := [], data := [], owns := [] },
  sums := fun r => none,
  owns := [],
  trim := [],
  res := [] }
theorem lockmakes.eq {R : Type} (x : Int) (yv : Int) (m : (List Int)) (delay : Int) (age : Int) (p : Int) (k : GRes → Option R) : arun Try.prog lockmakes.G lockmakes.an 0 Try.f5 (lockmakes.st (x, yv, m, delay, age, p)).1 (lockmakes.st (x, yv, m, delay, age, p)).2 k =
  obind (small12.call ()) fun x1 =>
  obind (pbase.call (iadd .u64 (1 : Int) (irem x (2305843009213688668 : Int)))) fun x2 =>
  obind (pbase.call (iadd .u64 (1 : Int) (irem yv (2305843009213688668 : Int)))) fun x3 =>
  obind (pright.call p) fun x4 =>
  obind (lkey.call p) fun x5 =>
  obind (lright.call x5) fun x6 =>
  sel ((!(Ty.beq .bool x6 x4))) (
   k (lockmakes.out false)) (
   obind (lboth.call (x2, p)) fun x7 =>
   obind (lright.call x7) fun x8 =>
   sel ((!(Ty.beq .bool x8 x4))) (
    k (lockmakes.out false)) (
    obind (lall.call [x2, p, x3]) fun x9 =>
    obind (lright.call x9) fun x10 =>
    sel ((!(Ty.beq .bool x10 x4))) (
     k (lockmakes.out false)) (
     obind (llate.call (p, x3, (1 : Int))) fun x11 =>
     obind (lright.call x11) fun x12 =>
     sel ((!(Ty.beq .bool x12 x4))) (
      k (lockmakes.out false)) (
      obind (llate.call (x2, p, (1 : Int))) fun x13 =>
      obind (lright.call x13) fun x14 =>
      sel ((!(Ty.beq .bool x14 x4))) (
       k (lockmakes.out false)) (
       obind (lanchor.call p) fun x15 =>
       obind (lright.call x15) fun x16 =>
       sel ((!(Ty.beq .bool x16 x4))) (
        k (lockmakes.out false)) (
        obind (llate.call (x2, x3, delay)) fun x17 =>
        obind (lanchor.call x2) fun x18 =>
        obind (lopen.call (x18, ((1 : Int), (([] : List (Int × (Int × Unit))), ((0 : Int), ()))), m, (0 : Int), age)) fun x19 =>
        obind (lkey.call x2) fun x20 =>
        obind (wsigned.call ((0 : Int), [(iadd .u64 (1 : Int) (irem x (2305843009213688668 : Int)))], m, (0 : Int))) fun x21 =>
        obind (lopen.call (x20, x21, m, (0 : Int), (0 : Int))) fun x22 =>
        sel ((ine x22 (0 : Int))) (
         k (lockmakes.out false)) (
         obind (lboth.call (x2, x3)) fun x23 =>
         obind (wsigned.call ((0 : Int), [(iadd .u64 (1 : Int) (irem x (2305843009213688668 : Int))), (iadd .u64 (1 : Int) (irem yv (2305843009213688668 : Int)))], m, (0 : Int))) fun x24 =>
         obind (lopen.call (x23, x24, m, (0 : Int), (0 : Int))) fun x25 =>
         sel ((ine x25 (0 : Int))) (
          k (lockmakes.out false)) (
          sel ((!(Ty.beq .bool (ieq x19 (0 : Int)) (ige age (16 : Int))))) (
           k (lockmakes.out false)) (
           sel ((ilt delay (0 : Int))) (
            sel (x1) (
             obind (lright.call x17) fun x26 =>
             k (lockmakes.out (!x26))) (
             k (lockmakes.out false))) (
            sel ((igt delay (1048576 : Int))) (
             sel (x1) (
              obind (lright.call x17) fun x27 =>
              k (lockmakes.out (!x27))) (
              k (lockmakes.out false))) (
             obind (wsigned.call ((1 : Int), [(iadd .u64 (1 : Int) (irem x (2305843009213688668 : Int)))], m, (0 : Int))) fun x28 =>
             obind (lopen.call (x17, x28, m, (0 : Int), age)) fun x29 =>
             sel (x1) (
              obind (wsigned.call ((0 : Int), [(iadd .u64 (1 : Int) (irem yv (2305843009213688668 : Int)))], m, (0 : Int))) fun x30 =>
              obind (lopen.call (x17, x30, m, (0 : Int), (0 : Int))) fun x31 =>
              sel ((ieq x31 (0 : Int))) (
               sel ((Ty.beq .bool (ieq x29 (0 : Int)) (ige age delay))) (
                sel ((ieq x29 (0 : Int))) (
                 obind (wsigned.call ((0 : Int), [(iadd .u64 (1 : Int) (irem x (2305843009213688668 : Int)))], m, (0 : Int))) fun x32 =>
                 obind (lopen.call (x18, x32, m, (0 : Int), (0 : Int))) fun x33 =>
                 k (lockmakes.out (ieq x33 (0 : Int)))) (
                 sel ((ieq x29 (11 : Int))) (
                  obind (wsigned.call ((0 : Int), [(iadd .u64 (1 : Int) (irem x (2305843009213688668 : Int)))], m, (0 : Int))) fun x34 =>
                  obind (lopen.call (x18, x34, m, (0 : Int), (0 : Int))) fun x35 =>
                  k (lockmakes.out (ieq x35 (0 : Int)))) (
                  k (lockmakes.out false)))) (
                k (lockmakes.out false))) (
               k (lockmakes.out false))) (
              k (lockmakes.out false))))))))))))) := by kernel_rfl


theorem lockmakes.ok : ∀ d, lockmakes.Pre d → arun Try.prog lockmakes.G lockmakes.an 0 Try.f5 (lockmakes.st d).1 (lockmakes.st d).2 some = some (lockmakes.out (lockmakes.add d (lockmakes.F d))) := by
  rintro ⟨x, z, m, dl, age, p⟩ ⟨hx, hz, hm, hp⟩
  have hx : U64 x := hx
  have hz : U64 z := hz
  have hm : Sm m := hm
  have hp : U64 p := hp
  have hk := keyOf_ok x
  have hj := keyOf_ok z
  have uk := keyOf_u x
  have uj := keyOf_u z
  rw [lockmakes.eq, keyOf_eq hx, keyOf_eq hz, small12.run (d := ()) trivial]
  generalize keyOf x = k at hk uk ⊢
  generalize keyOf z = j at hj uj ⊢
  rw [pbase.run (d := k) uk, pbase.run (d := j) uj, pright.run (d := p) hp, lkey.run (d := p) trivial]
  simp only [obind_some, small12.add, small12.F, pbase.add, pbase.F, pright.add, pright.F, lkey.add, lkey.F, lockmakes.add, lockmakes.F]
  have ua := baseP_u k
  have ub := baseP_u j
  have ia := isP_base k
  have ib := isP_base j
  have r1 : lright.call (allL [p]) = some (isP p) := lright_is (lkU_all (keysU_cons hp keysU_nil)) (by show 1 ≤ _; decide) (by rw [lkOk_all _ (by simp)]; simp only [List.all_cons, List.all_nil, Bool.and_true])
  have r2 : lright.call (allL [baseP k, p]) = some (isP p) := lright_is (lkU_all (keysU_cons ua (keysU_cons hp keysU_nil))) (by show 1 ≤ _; decide) (by rw [lkOk_all _ (by simp)]; simp only [List.all_cons, List.all_nil, Bool.and_true, ia, Bool.true_and])
  have r3 : lright.call (allL [baseP k, p, baseP j]) = some (isP p) := lright_is (lkU_all (keysU_cons ua (keysU_cons hp (keysU_cons ub keysU_nil)))) (by show 1 ≤ _; decide) (by rw [lkOk_all _ (by simp)]; simp only [List.all_cons, List.all_nil, Bool.and_true, ia, ib, Bool.true_and])
  have r4 : lright.call (lateL p (baseP j) 1) = some (isP p) := lright_is (lkU_late hp ub) (by show 2 ≤ _; decide) (by rw [lkOk_late, ib, ht1, Bool.true_and, Bool.and_true])
  have r5 : lright.call (lateL (baseP k) p 1) = some (isP p) := lright_is (lkU_late ua hp) (by show 2 ≤ _; decide) (by rw [lkOk_late, ia, ht1, Bool.true_and, Bool.and_true])
  have r6 : lright.call (anchorL p) = some (isP p) := lright_is (lkU_anchor hp) (by show 2 ≤ _; decide) (lkOk_anchor p)
  have r7 : lright.call (lateL (baseP k) (baseP j) dl) = some (htOk dl) := lright_is (lkU_late ua ub) (by show 2 ≤ _; decide) (by rw [lkOk_late, ia, ib, Bool.true_and, Bool.true_and])
  have w1 : WitU ((1 : Int), [], 0, ()) := ⟨fun x hx => (by cases hx), u0⟩
  have ws : ∀ br ks, WitU (signedW br ks m 0) := fun br ks => signedW_u br ks m 0 u0
  have o1 : lopen.call (anchorL (baseP k), (1, [], 0, ()), m, 0, age) = some (if age < 16 then 11 else 0) := lopen_is (lkU_anchor ua) (by show 2 ≤ _; decide) w1 hm (by
    rw [show ((1 : Int), ([] : List Sg), (0 : Int), ()) = (((1 : Nat) : Int), [], 0, ()) from rfl, open_of (b := ([], 0, 16, 0, ())) (by rw [lkOk_anchor]; exact ia) (by show 1 < 2; decide) rfl]
    have e := openB_signed [] (fun x hx => by cases hx) 0 16 0 0 m 0 age (Or.inl rfl)
    rw [show (if age < 16 then (11 : Int) else 0) = if (0 : Int) < 0 ∨ age < 16 then 11 else 0 by simp only [Int.lt_irrefl, false_or], ← e]
    rfl)
  have o2 : lopen.call (allL [baseP k], signedW 0 [k] m 0, m, 0, 0) = some 0 := lopen_is (lkU_all (keysU_cons ua keysU_nil)) (by show 1 ≤ _; decide) (ws _ _) hm (by
    rw [show signedW 0 [k] m 0 = (((0 : Nat) : Int), [k].map (fun k => signQ k m), 0, ()) from rfl, open_of (b := ([k].map baseP, 0, 0, 0, ())) (by rw [lkOk_all _ (by simp)]; simp only [List.all_cons, List.all_nil, Bool.and_true, ia]) (by show 0 < 1; decide) rfl, openB_signed _ (okOne hk) _ _ _ _ _ _ _ (Or.inl rfl)]
    rfl)
  have o3 : lopen.call (allL [baseP k, baseP j], signedW 0 [k, j] m 0, m, 0, 0) = some 0 := lopen_is (lkU_all (keysU_cons ua (keysU_cons ub keysU_nil))) (by show 1 ≤ _; decide) (ws _ _) hm (by
    rw [show signedW 0 [k, j] m 0 = (((0 : Nat) : Int), [k, j].map (fun k => signQ k m), 0, ()) from rfl, open_of (b := ([k, j].map baseP, 0, 0, 0, ())) (by rw [lkOk_all _ (by simp)]; simp only [List.all_cons, List.all_nil, Bool.and_true, ia, ib]) (by show 0 < 1; decide) rfl, openB_signed _ (okTwo hk hj) _ _ _ _ _ _ _ (Or.inl rfl)]
    rfl)
  have o6 : lopen.call (anchorL (baseP k), signedW 0 [k] m 0, m, 0, 0) = some 0 := lopen_is (lkU_anchor ua) (by show 2 ≤ _; decide) (ws _ _) hm (by
    rw [show signedW 0 [k] m 0 = (((0 : Nat) : Int), [k].map (fun k => signQ k m), 0, ()) from rfl, open_of (b := ([k].map baseP, 0, 0, 0, ())) (by rw [lkOk_anchor]; exact ia) (by show 0 < 2; decide) rfl, openB_signed _ (okOne hk) _ _ _ _ _ _ _ (Or.inl rfl)]
    rfl)
  have s1 : ∀ br : Int, wsigned.call (br, [k], m, 0) = some (signedW br [k] m 0) := fun br => by
    rw [wsigned.run (d := (br, [k], m, 0)) ⟨keysU_cons uk keysU_nil, hm, by show 1 ≤ _; decide⟩]; rfl
  have s2 : wsigned.call (0, [k, j], m, 0) = some (signedW 0 [k, j] m 0) := by
    rw [wsigned.run (d := (0, [k, j], m, 0)) ⟨keysU_cons uk (keysU_cons uj keysU_nil), hm, by show 2 ≤ _; decide⟩]; rfl
  have s3 : wsigned.call (0, [j], m, 0) = some (signedW 0 [j] m 0) := by
    rw [wsigned.run (d := (0, [j], m, 0)) ⟨keysU_cons uj keysU_nil, hm, by show 1 ≤ _; decide⟩]; rfl
  have c1 : lboth.call (baseP k, p) = some (allL [baseP k, p]) := by rw [lboth.run (d := (baseP k, p)) trivial]; rfl
  have c2 : lall.call [baseP k, p, baseP j] = some (allL [baseP k, p, baseP j]) := by rw [lall.run (d := [baseP k, p, baseP j]) (by show 3 ≤ _; decide)]; rfl
  have c3 : llate.call (p, baseP j, 1) = some (lateL p (baseP j) 1) := by rw [llate.run (d := (p, baseP j, 1)) trivial]; rfl
  have c4 : llate.call (baseP k, p, 1) = some (lateL (baseP k) p 1) := by rw [llate.run (d := (baseP k, p, 1)) trivial]; rfl
  have c5 : lanchor.call p = some (anchorL p) := by rw [lanchor.run (d := p) trivial]; rfl
  have c6 : llate.call (baseP k, baseP j, dl) = some (lateL (baseP k) (baseP j) dl) := by rw [llate.run (d := (baseP k, baseP j, dl)) trivial]; rfl
  have c7 : lanchor.call (baseP k) = some (anchorL (baseP k)) := by rw [lanchor.run (d := baseP k) trivial]; rfl
  have c8 : lkey.call (baseP k) = some (allL [baseP k]) := by rw [lkey.run (d := baseP k) trivial]; rfl
  have c9 : lboth.call (baseP k, baseP j) = some (allL [baseP k, baseP j]) := by rw [lboth.run (d := (baseP k, baseP j)) trivial]; rfl
  have q1 : Ty.beq .bool (ieq (if age < 16 then (11 : Int) else 0) 0) (ige age 16) = true := by
    by_cases h : age < 16
    · rw [if_pos h, ige_false (by omega)]; rfl
    · rw [if_neg h, ige_true (by omega)]; rfl
  rw [r1, obind_some, bq, Bool.not_true, sel_false, c1, obind_some, r2, obind_some, bq, Bool.not_true, sel_false, c2, obind_some, r3, obind_some, bq, Bool.not_true, sel_false, c3, obind_some, r4, obind_some, bq, Bool.not_true, sel_false,
    c4, obind_some, r5, obind_some, bq, Bool.not_true, sel_false, c5, obind_some, r6, obind_some, bq, Bool.not_true, sel_false, c6, obind_some, c7, obind_some, o1, obind_some, c8, obind_some, s1, obind_some, o2, obind_some, ine_false rfl, sel_false,
    c9, obind_some, s2, obind_some, o3, obind_some, ine_false rfl, sel_false, q1, Bool.not_true, sel_false]
  by_cases d1 : dl < 0
  · rw [ilt_true d1, sel_true, sel_true, r7, obind_some, htOk, dec_false (by omega)]; rfl
  rw [ilt_false d1, sel_false]
  by_cases d2 : dl > 1048576
  · rw [igt_true d2, sel_true, sel_true, r7, obind_some, htOk, dec_false (by omega)]; rfl
  have hd : htOk dl = true := by rw [htOk]; exact dec_true (by omega)
  have hl : lkOk (lateL (baseP k) (baseP j) dl) = true := by rw [lkOk_late, ia, ib, hd]; rfl
  have o4 : lopen.call (lateL (baseP k) (baseP j) dl, signedW 1 [k] m 0, m, 0, age) = some (if age < dl then 11 else 0) := lopen_is (lkU_late ua ub) (by show 2 ≤ _; decide) (ws _ _) hm (by
    rw [show signedW 1 [k] m 0 = (((1 : Nat) : Int), [k].map (fun k => signQ k m), 0, ()) from rfl, open_of (b := ([k].map baseP, 0, dl, 0, ())) hl (by show 1 < 2; decide) rfl, openB_signed _ (okOne hk) _ _ _ _ _ _ _ (Or.inl rfl)]
    simp only [Int.lt_irrefl, false_or])
  have o5 : lopen.call (lateL (baseP k) (baseP j) dl, signedW 0 [j] m 0, m, 0, 0) = some 0 := lopen_is (lkU_late ua ub) (by show 2 ≤ _; decide) (ws _ _) hm (by
    rw [show signedW 0 [j] m 0 = (((0 : Nat) : Int), [j].map (fun k => signQ k m), 0, ()) from rfl, open_of (b := ([j].map baseP, 0, 0, 0, ())) hl (by show 0 < 2; decide) rfl, openB_signed _ (okOne hj) _ _ _ _ _ _ _ (Or.inl rfl)]
    rfl)
  have q2 : Ty.beq .bool (ieq (if age < dl then (11 : Int) else 0) 0) (ige age dl) = true := by
    by_cases h : age < dl
    · rw [if_pos h, ige_false (by omega)]; rfl
    · rw [if_neg h, ige_true (by omega)]; rfl
  rw [igt_false d2, sel_false, s1, obind_some, o4, obind_some, sel_true, s3, obind_some, o5, obind_some, ieq_true rfl, sel_true, q2, sel_true]
  simp only [obind_some, o6]
  by_cases h : age < dl
  · rw [if_pos h]; rfl
  · rw [if_neg h]; rfl

theorem lockmakes.inj : ∀ d d', lockmakes.st d = lockmakes.st d' → d = d' := fun (x, yv, m, delay, age, p) (x', yv', m', delay', age', p') hEq => by
  have e0 : x = x' := d_inj (t := (.int .u64)) (congrArg (fun s : List AVal × List Ent => (s.1.getD 0 .undef)) hEq)
  have e1 : yv = yv' := d_inj (t := (.int .u64)) (congrArg (fun s : List AVal × List Ent => (s.1.getD 1 .undef)) hEq)
  have e2 : m = m' := d_inj (t := (.arr 32 (.int .u8))) (congrArg (fun s : List AVal × List Ent => (s.1.getD 2 .undef)) hEq)
  have e3 : delay = delay' := d_inj (t := (.int .i64)) (congrArg (fun s : List AVal × List Ent => (s.1.getD 3 .undef)) hEq)
  have e4 : age = age' := d_inj (t := (.int .i64)) (congrArg (fun s : List AVal × List Ent => (s.1.getD 4 .undef)) hEq)
  have e5 : p = p' := d_inj (t := (.int .u64)) (congrArg (fun s : List AVal × List Ent => (s.1.getD 5 .undef)) hEq)
  rw [e0, e1, e2, e3, e4, e5]
noncomputable def lockmakes.E : Entry := Entry.of [some (.int .u64), some (.int .u64), some (.arr 32 (.int .u8)), some (.int .i64), some (.int .i64), some (.int .u64)] lockmakes.st lockmakes.Pre (fun d => lockmakes.add d (lockmakes.F d)) lockmakes.out
noncomputable def lockmakes.call : lockmakes.D → Option lockmakes.X := fun d => lockmakes.E.run (lockmakes.st d).1 (lockmakes.st d).2
theorem lockmakes.run {d : lockmakes.D} (h : lockmakes.Pre d) : lockmakes.call d = some (lockmakes.add d (lockmakes.F d)) := Entry.of_run lockmakes.inj h
theorem lockmakes.does : Does Try.prog 5 lockmakes.E := Does.of (by kernel_rfl) (show Sound _ lockmakes.G from Sound.cons small12.does (Sound.cons pbase.does (Sound.cons pright.does (Sound.cons lkey.does (Sound.cons lright.does (Sound.cons lboth.does (Sound.cons lall.does (Sound.cons llate.does (Sound.cons lanchor.does (Sound.cons lopen.does (Sound.cons wsigned.does (Sound.nil _)))))))))))) (by kernel_rfl) (by kernel_rfl) (by kernel_rfl) (LOk.fn 0 (by kernel_rfl) trivial) lockmakes.ok

end Go.Ab
