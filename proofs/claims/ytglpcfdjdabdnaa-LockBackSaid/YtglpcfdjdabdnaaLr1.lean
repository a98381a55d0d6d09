/-
  Made by a program of mine (wip/gen), and by hand.
-/
import Derived.Test.YtglpcfdjdabdnaaLb1
import Derived.Test.YtglpcfdjdabdnaaEq1
namespace Go.Ab
open Go.Proofs
set_option maxRecDepth 100000
set_option linter.unusedVariables false
set_option linter.unusedSimpArgs false


/-- Numbers of eight bytes, one behind the other. -/
def keysR : Nat → Rdr → List Int × Rdr
  | 0, r => ([], r)
  | k + 1, r => ((u64R r).1 :: (keysR k (u64R r).2).1, (keysR k (u64R r).2).2)
/-- A branch of so many keys. -/
def bodyR (k : Nat) (r : Rdr) : Brn × Rdr :=
  (((keysR k r).1, (numR (keysR k r).2).1, (numR (numR (keysR k r).2).2).1, (u64R (numR (numR (keysR k r).2).2).2).1, ()), (u64R (numR (numR (keysR k r).2).2).2).2)
/-- The branches that are read; none is told when one has too many keys, or there is a fifth. -/
def brsC : Nat → Int → Rdr → List Brn
  | 0, _, _ => []
  | f + 1, n, r => if 0 < n then (if f = 0 ∨ 12 < (numR r).1 then [] else (bodyR (numR r).1.toNat (numR r).2).1 :: brsC f (n - 1) (bodyR (numR r).1.toNat (numR r).2).2) else []
def readC (b : List Int) : List Brn := brsC 5 (numR (b, false, ())).1 (numR (b, false, ())).2
theorem keysR_b : ∀ (k : Nat) (r : Rdr), RdrB r → KeysU (keysR k r).1 ∧ (keysR k r).1.length = k ∧ RdrB (keysR k r).2
  | 0, r, h => ⟨fun x hx => (by cases hx), rfl, h⟩
  | k + 1, r, h => by
    have e := u64R_u h
    have ih := keysR_b k _ e.2
    refine ⟨fun x hx => ?_, by rw [keysR, List.length_cons, ih.2.1], ih.2.2⟩
    rcases List.mem_cons.1 hx with rfl | hx
    · exact e.1
    · exact ih.1 x hx
theorem bodyR_b (k : Nat) (r : Rdr) (h : RdrB r) : BrU (bodyR k r).1 ∧ (bodyR k r).1.1.length = k ∧ RdrB (bodyR k r).2 := by
  have h1 := keysR_b k r h
  have h2 := numR_ok h1.2.2
  have h3 := numR_ok h2.2.2
  have h4 := u64R_u h3.2.2
  exact ⟨⟨h1.1, h4.1⟩, h1.2.1, h4.2⟩
theorem brsC_b : ∀ (f : Nat) (n : Int) (r : Rdr), RdrB r → (∀ b ∈ brsC f n r, BrU b) ∧ (brsC f n r).length ≤ f
  | 0, n, r, h => ⟨fun x hx => (by cases hx), Nat.le_refl _⟩
  | f + 1, n, r, h => by
    have h1 := numR_ok h
    have h2 := bodyR_b (numR r).1.toNat _ h1.2.2
    have ih := brsC_b f (n - 1) _ h2.2.2
    rw [brsC]
    split
    · split
      · exact ⟨fun x hx => (by cases hx), Nat.zero_le _⟩
      · refine ⟨fun x hx => ?_, by rw [List.length_cons]; omega⟩
        rcases List.mem_cons.1 hx with rfl | hx
        · exact h2.1
        · exact ih.1 x hx
    · exact ⟨fun x hx => (by cases hx), Nat.zero_le _⟩
theorem readC_u {b : List Int} (h : Bytes b) (hl : b.length ≤ 1000000000) : LkU (readC b, ()) ∧ (readC b).length ≤ 5 := by
  have e := brsC_b 5 (numR (b, false, ())).1 _ (numR_ok (rdr_of h hl (false, ()))).2.2
  exact ⟨e.1, e.2⟩
theorem keysR_law : ∀ (ks : List Int) (rest : List Int), KeysU ks → keysR ks.length (ks.flatMap be8 ++ rest, false, ()) = (ks, (rest, false, ()))
  | [], rest, _ => rfl
  | k :: ks, rest, h => by
    have e : u64R ((k :: ks).flatMap be8 ++ rest, false, ()) = (k, (ks.flatMap be8 ++ rest, false, ())) := by
      rw [List.flatMap_cons, List.append_assoc]
      exact u64R_be8 k (h k List.mem_cons_self) _
    have ih := keysR_law ks rest fun x hx => h x (List.mem_cons_of_mem _ hx)
    rw [List.length_cons, keysR, e, ih]
theorem bodyR_law (b : Brn) (hb : BrU b) (hk : BrK b) (rest : List Int) : bodyR b.1.length (b.1.flatMap be8 ++ (rowN b.2.1 ++ (rowN b.2.2.1 ++ (be8 b.2.2.2.1 ++ rest))), false, ()) = (b, (rest, false, ())) := by
  unfold bodyR
  rw [keysR_law _ _ hb.1]
  simp only []
  rw [numR_row _ hk.af, numR_row _ hk.dl, u64R_be8 _ hb.2]
theorem brW_rest (b : Brn) (rest : List Int) : brW b ++ rest = rowN b.1.length ++ (b.1.flatMap be8 ++ (rowN b.2.1 ++ (rowN b.2.2.1 ++ (be8 b.2.2.2.1 ++ rest)))) := by
  unfold brW
  simp only [List.append_assoc]
theorem brsC_law : ∀ (bs : List Brn) (f : Nat) (rest : List Int), (∀ b ∈ bs, BrU b) → (∀ b ∈ bs, BrK b) → bs.length + 1 ≤ f → brsC f bs.length (bs.flatMap brW ++ rest, false, ()) = bs
  | [], 0, rest, _, _, h => absurd h (by simp)
  | [], f + 1, rest, _, _, _ => by
    rw [brsC, if_neg (by show ¬ (0 : Int) < ((0 : Nat) : Int); omega)]
  | b :: bs, 0, rest, _, _, h => absurd h (by simp)
  | b :: bs, f + 1, rest, hu, hk, h => by
    have ub := hu b List.mem_cons_self
    have kb := hk b List.mem_cons_self
    have h : bs.length + 1 + 1 ≤ f + 1 := h
    have e : (b :: bs).flatMap brW ++ rest = rowN b.1.length ++ (b.1.flatMap be8 ++ (rowN b.2.1 ++ (rowN b.2.2.1 ++ (be8 b.2.2.2.1 ++ (bs.flatMap brW ++ rest))))) := by rw [List.flatMap_cons, List.append_assoc, brW_rest]
    have h12 := kb.len
    rw [brsC, if_pos (by rw [List.length_cons]; omega), e, numR_row _ (natI_len (by omega))]
    simp only [Int.toNat_natCast]
    rw [if_neg (by omega), bodyR_law b ub kb]
    simp only []
    rw [show ((b :: bs).length : Int) - 1 = (bs.length : Int) by rw [List.length_cons]; omega, brsC_law bs f rest (fun x hx => hu x (List.mem_cons_of_mem _ hx)) (fun x hx => hk x (List.mem_cons_of_mem _ hx)) (by omega)]
/-- What was laid is read, whatever is behind it. -/
theorem readC_law {l : Lk} (hu : LkU l) (hok : lkOk l = true) (rest : List Int) : readC (lkB l ++ rest) = l.1 := by
  have hk := lkOk_k hok
  unfold readC
  rw [lkB_eq hok, List.append_assoc, numR_row _ (natI_len (by omega))]
  exact brsC_law l.1 5 rest hu hk.1 (by omega)
def readL (b : List Int) : Lk × Bool := if lkOk (readC b, ()) = true ∧ lkB (readC b, ()) = b then ((readC b, ()), true) else (([], ()), false)
theorem readL_law {l : Lk} (hu : LkU l) (hok : lkOk l = true) : readL (lkB l) = (l, true) := by
  have e : readC (lkB l) = l.1 := by have e := readC_law hu hok []; rw [List.append_nil] at e; exact e
  unfold readL
  rw [e]
  have e2 : ((l.1, ()) : Lk) = l := rfl
  rw [e2, if_pos ⟨hok, rfl⟩]
theorem readL_is {b : List Int} (h : (readL b).2 = true) : ∃ l : Lk, lkOk l = true ∧ lkB l = b ∧ readL b = (l, true) ∧ l = (readC b, ()) := by
  unfold readL at h ⊢
  split at h
  · rename_i hc
    exact ⟨(readC b, ()), hc.1, hc.2, by rw [if_pos hc], rfl⟩
  · cases h
theorem readL_no {b : List Int} (h : (readL b).2 = false) : readL b = (([], ()), false) := by
  unfold readL at h ⊢
  split at h
  · cases h
  · rename_i hc
    rw [if_neg hc]
theorem len_ne {a b : List Int} (h : a.length ≠ b.length) : a ≠ b := fun e => h (by rw [e])
/-- With a byte less, or more, none is read. -/
theorem readL_other {l : Lk} (hu : LkU l) (hok : lkOk l = true) {b r1 r2 : List Int} (hb : Bytes b) (hl : b.length ≤ 1000000000) (h : lkB l ++ r1 = b ++ r2) (hne : (lkB l).length ≠ b.length) : readL b = (([], ()), false) := by
  cases hr : (readL b).2
  · exact readL_no hr
  · exfalso
    obtain ⟨x, hx, hxb, _, hxe⟩ := readL_is hr
    have hxu : LkU x := by rw [hxe]; exact (readC_u hb hl).1
    have e1 := readC_law hu hok r1
    have e2 := readC_law hxu hx r2
    rw [hxb, ← h, e1] at e2
    have e3 : l = x := Prod.ext e2 rfl
    rw [e3, hxb] at hne
    exact hne rfl

end Go.Ab
