/-
  Made by a program of mine (wip/gen), and by hand.
-/
import Derived.Test.YtglpcfdjdabdnaaLw2
import Derived.Test.YtglpcfdjdabdnaaRd2
namespace Go.Ab
open Go.Proofs
set_option maxRecDepth 100000
set_option linter.unusedVariables false
set_option linter.unusedSimpArgs false


theorem bytes_app {a b : List Int} (ha : Bytes a) (hb : Bytes b) : Bytes (a ++ b) := fun x hx => by
  rcases List.mem_append.1 hx with h | h
  · exact ha x h
  · exact hb x h
theorem bytes_left {a b : List Int} (h : Bytes (a ++ b)) : Bytes a := fun x hx => h x (List.mem_append_left _ hx)
theorem bytes_right {a b : List Int} (h : Bytes (a ++ b)) : Bytes b := fun x hx => h x (List.mem_append_right _ hx)
theorem rowI_bytes : ∀ (f : Nat) (n : Int), 0 ≤ n → n < 128 ^ (f + 1) → Bytes (rowI f n).1 ∧ Byte (rowI f n).2
  | 0, n, h0, h1 => by have h1 : n < 128 := h1; exact ⟨fun x hx => (by cases hx), h0, by show n < 256; omega⟩
  | f + 1, n, h0, h1 => by
    have e : (128 : Int) ^ (f + 1 + 1) = 128 ^ (f + 1) * 128 := Int.pow_succ 128 (f + 1)
    rw [rowI]
    split
    · have ih := rowI_bytes f (n / 128) (by omega) (by omega)
      refine ⟨fun x hx => ?_, ih.2⟩
      rcases List.mem_cons.1 hx with rfl | hx
      · exact ⟨by omega, by omega⟩
      · exact ih.1 x hx
    · exact ⟨fun x hx => (by cases hx), h0, by show n < 256; omega⟩
theorem row_bytes {n : Int} (h : NatI n) : Bytes (rowN n) := by
  have e10 : (128 : Int) ^ (10 + 1) = 151115727451828646838272 := rfl
  obtain ⟨h0, h1⟩ := h
  have := rowI_bytes 10 n h0 (by rw [e10]; omega)
  unfold rowN
  exact bytes_app this.1 fun x hx => by rw [List.mem_singleton] at hx; subst hx; exact this.2
theorem keysB_eq : ∀ (ks : List Int) (o : List Int), keysB o ks = o ++ ks.flatMap be8
  | [], o => by rw [List.flatMap_nil, List.append_nil]; rfl
  | k :: ks, o => by
    show keysB (o ++ be8 k) ks = _
    rw [keysB_eq ks, List.flatMap_cons, List.append_assoc]
theorem keys_len (ks : List Int) : (ks.flatMap be8).length = 8 * ks.length := by
  have e1 := keysB_len ks []
  rw [keysB_eq, List.nil_append] at e1
  rw [e1]
  show 0 + _ = _
  omega
theorem keys_bytes (ks : List Int) : Bytes (ks.flatMap be8) := fun x hx => by
  obtain ⟨k, _, hk⟩ := List.mem_flatMap.1 hx
  exact bytes_be8 k x hk
/-- A branch's own bytes. -/
def brW (b : Brn) : List Int := rowN b.1.length ++ (b.1.flatMap be8 ++ (rowN b.2.1 ++ (rowN b.2.2.1 ++ be8 b.2.2.2.1)))
theorem putN_eq (o : List Int) {n : Int} (h : 0 ≤ n) : putN o n = o ++ rowN n := by rw [putN, if_neg (by omega)]
structure BrK (b : Brn) : Prop where
  len : b.1.length ≤ 12
  af : NatI b.2.1
  dl : NatI b.2.2.1
theorem brOk_k {b : Brn} (h : brOk b = true) : BrK b := by
  unfold brOk htOk at h
  simp only [Bool.and_eq_true, decide_eq_true_eq] at h
  obtain ⟨h1, _, h2, h3, _⟩ := h
  exact ⟨h1, ⟨h2.1, by omega⟩, ⟨h3.1, by omega⟩⟩
theorem natI_len {n : Nat} (h : n ≤ 1000000000) : NatI (n : Int) := ⟨by omega, by omega⟩
theorem brB_eq (o : List Int) {b : Brn} (h : BrK b) : brB o b = o ++ brW b := by
  unfold brB brW
  rw [putN_eq _ (Int.natCast_nonneg _), keysB_eq, putN_eq _ h.af.1, putN_eq _ h.dl.1]
  simp only [List.append_assoc]
theorem brsB_eq : ∀ (bs : List Brn) (o : List Int), (∀ b ∈ bs, BrK b) → bs.foldl brB o = o ++ bs.flatMap brW
  | [], o, _ => by rw [List.flatMap_nil, List.append_nil]; rfl
  | b :: bs, o, h => by
    rw [List.foldl_cons, brB_eq o (h b List.mem_cons_self), brsB_eq bs _ fun x hx => h x (List.mem_cons_of_mem _ hx), List.flatMap_cons, List.append_assoc]
theorem lkOk_k {l : Lk} (h : lkOk l = true) : (∀ b ∈ l.1, BrK b) ∧ 0 < l.1.length ∧ l.1.length ≤ 4 := by
  unfold lkOk at h
  simp only [Bool.and_eq_true, List.all_eq_true, decide_eq_true_eq] at h
  exact ⟨fun b hb => brOk_k (h.1 b hb), h.2⟩
theorem lkB_eq {l : Lk} (h : lkOk l = true) : lkB l = rowN l.1.length ++ l.1.flatMap brW := by
  unfold lkB
  rw [if_pos h, brsB_eq _ _ (lkOk_k h).1, putN_eq _ (Int.natCast_nonneg _), List.nil_append]
theorem brW_bytes {b : Brn} (h : BrK b) : Bytes (brW b) :=
  have h12 := h.len
  bytes_app (row_bytes (natI_len (by omega))) (bytes_app (keys_bytes _) (bytes_app (row_bytes h.af) (bytes_app (row_bytes h.dl) (bytes_be8 _))))
theorem lkB_bytes (l : Lk) : Bytes (lkB l) := by
  cases h : lkOk l
  · unfold lkB
    rw [h, if_neg (by decide)]
    exact fun x hx => (by cases hx)
  · have hk := lkOk_k h
    rw [lkB_eq h]
    refine bytes_app (row_bytes (natI_len (by omega))) fun x hx => ?_
    obtain ⟨b, hb, hx⟩ := List.mem_flatMap.1 hx
    exact brW_bytes (hk.1 b hb) x hx
theorem rdr_of {b : List Int} (h : Bytes b) (hl : b.length ≤ 1000000000) (u : Bool × Unit) : RdrB (b, u) := ⟨hl, h⟩
theorem rdr_right {a b : List Int} {u : Bool × Unit} (h : RdrB (a ++ b, u)) : RdrB (b, u) := ⟨by have := h.1; rw [List.length_append] at this; show b.length ≤ _; omega, bytes_right h.2⟩
theorem rnum_is {n : Int} {rest : List Int} {u : Bool × Unit} (hn : NatI n) (h : RdrB (rowN n ++ rest, u)) : rnum.call (rowN n ++ rest, u) = some (n, (rest, u)) := by
  rw [rnum.run (d := (rowN n ++ rest, u)) h, ← numR_row n hn rest u]
  rfl
theorem ru64_is {n : Int} {rest : List Int} (hn : U64 n) (h : RdrB (be8 n ++ rest, false, ())) : ru64.call (be8 n ++ rest, false, ()) = some (n, (rest, false, ())) := by
  rw [ru64.run (d := (be8 n ++ rest, false, ())) h, ← u64R_be8 n hn rest]
  rfl

end Go.Ab
