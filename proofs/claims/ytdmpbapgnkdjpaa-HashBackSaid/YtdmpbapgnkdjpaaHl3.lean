/-
  Made by a program of mine (wip/gen), and by hand.
-/
import Derived.Test.YtdmpbapgnkdjpaaHl2
namespace Go.Ab
open Go.Proofs
set_option maxRecDepth 100000
set_option linter.unusedVariables false
set_option linter.unusedSimpArgs false

/-! ### corsned/corsnedlaw04.HashBack -/
abbrev hback.L0.D := (List Int) × Bool × ByteArray × Int × Int
def hback.L0.st : hback.L0.D → AS := fun (h_2, head, t, n, i) => ⟨[.undef, .undef, .rptr (.arr 32 (.int .u8)) h_2, .undef, .undef, .d .bool head, .d .str t, .undef, .undef, .undef, .undef, .d (.int .u64) n, .d (.int .i64) i, .undef, .undef, .undef, .undef, .undef, .undef, .undef, .undef, .undef, .undef, .undef, .undef, .undef, .undef, .undef, .undef, .undef, .undef, .undef, .undef, .undef, .undef, .undef, .undef, .undef, .undef, .undef, .undef, .undef, .undef, .undef, .undef, .undef, .undef, .undef, .undef, .undef, .undef, .undef, .undef, .undef, .undef, .undef, .undef, .undef, .undef, .undef, .undef, .undef, .undef, .undef, .undef, .undef, .undef, .undef, .undef, .undef, .undef, .undef, .undef, .undef, .undef, .undef, .undef, .undef, .undef, .undef, .undef, .undef, .undef, .undef, .undef, .undef, .undef, .undef, .undef, .undef], [], (List.replicate 90 [])⟩
abbrev hback.L0.Y0 := Int  -- n
abbrev hback.L0.X0 := ((List Int) × Bool) × (Int)
def hback.L0.ex0 : hback.L0.X0 → Exit × AS := fun x => (.exit 0, ⟨[.undef, .undef, .rptr (.arr 32 (.int .u8)) x.1.1, .undef, .undef, .d .bool x.1.2, .undef, .undef, .undef, .undef, .undef, .d (.int .u64) x.2, .undef, .undef, .undef, .undef, .undef, .undef, .undef, .undef, .undef, .undef, .undef, .undef, .undef, .undef, .undef, .undef, .undef, .undef, .undef, .undef, .undef, .undef, .undef, .undef, .undef, .undef, .undef, .undef, .undef, .undef, .undef, .undef, .undef, .undef, .undef, .undef, .undef, .undef, .undef, .undef, .undef, .undef, .undef, .undef, .undef, .undef, .undef, .undef, .undef, .undef, .undef, .undef, .undef, .undef, .undef, .undef, .undef, .undef, .undef, .undef, .undef, .undef, .undef, .undef, .undef, .undef, .undef, .undef, .undef, .undef, .undef, .undef, .undef, .undef, .undef, .undef, .undef, .undef], [], (List.replicate 90 [])⟩)
abbrev hback.L0.X := hback.L0.X0
abbrev hback.L0.Y := hback.L0.Y0
def hback.L0.out : hback.L0.X → Out (Exit × AS) := fun x => .ok (hback.L0.ex0 x)
def hback.L0.add : hback.L0.D → hback.L0.Y → hback.L0.X := fun (h_2, head, t, n, i) y => ((h_2, head), y)
abbrev hback.D := (List Int) × ByteArray
def hback.st : hback.D → List AVal × List Ent := fun (h, sv) => ([.d (.arr 32 (.int .u8)) h, .d .str sv], [])
abbrev hback.Y := Bool
abbrev hback.X := Bool
def hback.out : hback.X → GRes := fun x => ⟨.d .bool x, [], []⟩
def hback.add : hback.D → hback.Y → hback.X := fun (h, sv) y => y


/-- A number of bytes. -/
def numP (l : List Int) : Int := l.foldl (fun n c => 256 * n + c) 0
/-- The number of the first k digits. -/
def numH (h : List Int) (k : Nat) : Int := if k % 2 = 0 then numP (h.take (k / 2)) else 16 * numP (h.take (k / 2)) + h.getD (k / 2) 0 / 16
def hback.L0.Pre : hback.L0.D → Prop := fun (h, head, t, n, i) => h.length = 32 ∧ Bytes h ∧ t = strOfBytes (hexB h) ∧ ∃ k : Nat, k ≤ 16 ∧ i = k ∧ n = numH h k
def hback.L0.F : hback.L0.D → hback.L0.Y := fun (h, head, t, n, i) => numH h 16
def hback.Pre : hback.D → Prop := fun (h, s) => h.length = 32 ∧ Bytes h
def hback.F : hback.D → hback.Y := fun _ => true

noncomputable def hback.G : Gam := gcons 21 anyArgs small4.E (gcons 28 anyArgs hhex.E (gcons 22 anyArgs hread.E (gcons 26 anyArgs hnum.E (gnil))))
noncomputable def hback.L0.E : LEntry := LEntry.of hback.L0.st hback.L0.Pre (fun d => hback.L0.add d (hback.L0.F d)) hback.L0.out
noncomputable def hback.L0.call : hback.L0.D → Option hback.L0.X := fun d => hback.L0.E.run (hback.L0.st d)
noncomputable def hback.an : Ann := {
  objs := [],
  loops := fun r => bif Nat.beq r 11 then { keep := [2, 5, 6, 11, 12], sites := [], frz := [], data := [], owns := [] } else { keep := [], sites := [], frz := [], data := [], owns := [] },
  outs := fun r b => bif Nat.beq r 11 then (bif b then { keep := [4], sites := [], frz := [], data := [], owns := [] } else { keep := [2, 5, 11], sites := [], frz := [], data := [], owns := [] }) else { keep := [], sites := [], frz := [], data := [], owns := [] },
  sums := fun r => bif Nat.beq r 11 then some hback.L0.E else none,
  owns := [],
  trim := [],
  res := [] }
theorem hback.L0.inj : ∀ d d', hback.L0.st d = hback.L0.st d' → d = d' := fun (h_2, head, t, n, i) (h_2', head', t', n', i') hEq => by
  have e0 : h_2 = h_2' := rptr_inj (t := (.arr 32 (.int .u8))) (congrArg (fun s : AS => (s.slot 2)) hEq)
  have e1 : head = head' := d_inj (t := .bool) (congrArg (fun s : AS => (s.slot 5)) hEq)
  have e2 : t = t' := d_inj (t := .str) (congrArg (fun s : AS => (s.slot 6)) hEq)
  have e3 : n = n' := d_inj (t := (.int .u64)) (congrArg (fun s : AS => (s.slot 11)) hEq)
  have e4 : i = i' := d_inj (t := (.int .i64)) (congrArg (fun s : AS => (s.slot 12)) hEq)
  rw [e0, e1, e2, e3, e4]
theorem hback.L0.run {d : hback.L0.D} (h : hback.L0.Pre d) : hback.L0.call d = some (hback.L0.add d (hback.L0.F d)) := LEntry.of_run hback.L0.inj h
theorem hback.L0.byRounds (μ : hback.L0.D → Nat) (h : ∀ d, hback.L0.Pre d → (∃ d', hback.L0.Pre d' ∧ μ d' < μ d ∧ hback.L0.add d' (hback.L0.F d') = hback.L0.add d (hback.L0.F d) ∧ ∀ {R : Type} (kn : AS → Option R) (kx : Exit → AS → Option R), lround Try.prog hback.G hback.an 0 Try.f11 0 (hback.L0.st d) kn kx = kn (hback.L0.st d')) ∨ (∀ {R : Type} (kn : AS → Option R) (kx : Exit → AS → Option R), lround Try.prog hback.G hback.an 0 Try.f11 0 (hback.L0.st d) kn kx = kx (hback.L0.ex0 (hback.L0.add d (hback.L0.F d))).1 (hback.L0.ex0 (hback.L0.add d (hback.L0.F d))).2)) : ∀ d, hback.L0.Pre d → ∃ n, lrun Try.prog hback.G hback.an 0 Try.f11 0 n (hback.L0.st d) (fun e s => some (e, s)) = (hback.L0.out (hback.L0.add d (hback.L0.F d))).eval := lrun_one (F := fun d => hback.L0.add d (hback.L0.F d)) μ h
theorem hback.L0.step {R : Type} (h_2 : (List Int)) (head : Bool) (t : ByteArray) (n : Int) (i : Int) (kn : AS → Option R) (kx : Exit → AS → Option R) : lround Try.prog hback.G hback.an 0 Try.f11 0 (hback.L0.st (h_2, head, t, n, i)) kn kx =
  sel ((ilt i (16 : Int))) (
   sel (inb i (((ByteArray.size t) : Nat) : Int)) (
   sel (inb i (((ByteArray.size t) : Nat) : Int)) (
   sel ((ige (sidx t i) (97 : Int))) (
    kn (hback.L0.st (h_2, head, t, (iadd .u64 (imul .u64 (16 : Int) n) (iadd .u64 (isub .u64 (icv .u64 (sidx t i)) (97 : Int)) (10 : Int))), (iadd .i64 i (1 : Int))))) (
    kn (hback.L0.st (h_2, head, t, (iadd .u64 (imul .u64 (16 : Int) n) (isub .u64 (icv .u64 (sidx t i)) (48 : Int))), (iadd .i64 i (1 : Int)))))) none) none) (
   kx (hback.L0.ex0 ((h_2, head), n)).1 (hback.L0.ex0 ((h_2, head), n)).2) := by kernel_rfl
theorem hback.eq {R : Type} (h : (List Int)) (sv : ByteArray) (k : GRes → Option R) : arun Try.prog hback.G hback.an 0 Try.f11 (hback.st (h, sv)).1 (hback.st (h, sv)).2 k =
  obind (small4.call ()) fun x1 =>
  sel ((igt (((ByteArray.size sv) : Nat) : Int) (100 : Int))) (
   k (hback.out x1)) (
   obind (hhex.call h) fun x2 =>
   obind (hread.call x2) fun x3 =>
   obind (hread.call sv) fun x4 =>
   sel ((ine (((ByteArray.size x2) : Nat) : Int) (64 : Int))) (
    k (hback.out false)) (
    sel ((!x3.2)) (
     k (hback.out false)) (
     sel ((!(Ty.beq (.arr 32 (.int .u8)) x3.1 h))) (
      k (hback.out false)) (
      sel (x4.2) (
       obind (hhex.call x4.1) fun x5 =>
       sel ((sne x5 sv)) (
        k (hback.out false)) (
        sel ((!x4.2)) (
         sel ((!(Ty.beq (.arr 32 (.int .u8)) x4.1 (List.replicate 32 (0 : Int))))) (
          k (hback.out false)) (
          obind (hback.L0.call (h, x1, x2, (0 : Int), (0 : Int))) fun x6 =>
          sel (x6.1.2) (
           obind (hnum.call x6.1.1) fun x7 =>
           k (hback.out (ieq x6.2 x7))) (
           k (hback.out false)))) (
         obind (hback.L0.call (h, x1, x2, (0 : Int), (0 : Int))) fun x8 =>
         sel (x8.1.2) (
          obind (hnum.call x8.1.1) fun x9 =>
          k (hback.out (ieq x8.2 x9))) (
          k (hback.out false))))) (
       sel ((!x4.2)) (
        sel ((!(Ty.beq (.arr 32 (.int .u8)) x4.1 (List.replicate 32 (0 : Int))))) (
         k (hback.out false)) (
         obind (hback.L0.call (h, x1, x2, (0 : Int), (0 : Int))) fun x10 =>
         sel (x10.1.2) (
          obind (hnum.call x10.1.1) fun x11 =>
          k (hback.out (ieq x10.2 x11))) (
          k (hback.out false)))) (
        obind (hback.L0.call (h, x1, x2, (0 : Int), (0 : Int))) fun x12 =>
        sel (x12.1.2) (
         obind (hnum.call x12.1.1) fun x13 =>
         k (hback.out (ieq x12.2 x13))) (
         k (hback.out false)))))))) := by kernel_rfl


theorem numP_append (a : List Int) (c : Int) : numP (a ++ [c]) = 256 * numP a + c := by simp [numP, List.foldl_append]
theorem numP_nonneg : ∀ (n : Nat) (l : List Int), l.length = n → Bytes l → 0 ≤ numP l ∧ numP l < 256 ^ n
  | 0, l, h, _ => by rw [List.eq_nil_of_length_eq_zero h]; decide
  | n + 1, l, h, hb => by
    have h0 : l ≠ [] := fun e => by rw [e] at h; cases h
    obtain ⟨a, c, rfl⟩ : ∃ a c, l = a ++ [c] := ⟨l.dropLast, l.getLast h0, (List.dropLast_concat_getLast h0).symm⟩
    have hl : a.length = n := by simpa using h
    obtain ⟨i1, i2⟩ := numP_nonneg n a hl fun x hx => hb x (List.mem_append.2 (.inl hx))
    obtain ⟨c1, c2⟩ := hb c (List.mem_append.2 (.inr (List.mem_singleton.2 rfl)))
    rw [numP_append, Int.pow_succ]
    omega
theorem u64_or {n c : Int} (h1 : 0 ≤ n) (h2 : n < 72057594037927936) (h3 : 0 ≤ c) (h4 : c < 256) : bitop .or .u64 (ishl .u64 n 8) (icv .u64 c) = 256 * n + c := by
  obtain ⟨n, rfl⟩ := Int.eq_ofNat_of_zero_le h1
  obtain ⟨c, rfl⟩ := Int.eq_ofNat_of_zero_le h3
  have e1 : ishl .u64 (n : Int) 8 = ((2 ^ 8 * n : Nat) : Int) := by
    unfold ishl
    rw [wrap_u64, vw_ofInt]
    show (n : Int) * 2 ^ 8 % _ = _
    omega
  have e2 : icv .u64 (c : Int) = (c : Int) := u64_nat (by omega)
  rw [e1, e2]
  have e0 : bitop .or .u64 ((2 ^ 8 * n : Nat) : Int) (c : Int) = IntKind.u64.wrap (((BitVec.ofInt 64 ((2 ^ 8 * n : Nat) : Int) ||| BitVec.ofInt 64 (c : Int)).toNat : Nat) : Int) := rfl
  rw [e0, wrap_u64, vw_ofInt, BitVec.toNat_or, BitVec.toNat_ofInt, BitVec.toNat_ofInt]
  have e3 : (((2 ^ 8 * n : Nat) : Int) % ((2 ^ 64 : Nat) : Int)).toNat = 2 ^ 8 * n := by omega
  have e4 : ((c : Int) % ((2 ^ 64 : Nat) : Int)).toNat = c := by omega
  rw [e3, e4, ← Nat.two_pow_add_eq_or_of_lt (by omega : c < 2 ^ 8)]
  omega
theorem num8_fold : ∀ (l : List Int) (n : Int), Bytes l → l.length ≤ 8 → 0 ≤ n → n < 256 ^ (8 - l.length) → l.foldl (fun n c => bitop .or .u64 (ishl .u64 n 8) (icv .u64 c)) n = l.foldl (fun n c => 256 * n + c) n
  | [], _, _, _, _, _ => rfl
  | c :: l, n, hb, hl, h0, hn => by
    have hl : l.length + 1 ≤ 8 := hl
    obtain ⟨c1, c2⟩ := hb c (List.mem_cons_self ..)
    have hp : (256 : Int) ^ (8 - (l.length + 1)) ≤ 256 ^ 7 := by
      have h := Nat.pow_le_pow_right (by omega : 0 < 256) (by omega : 8 - (l.length + 1) ≤ 7)
      have e1 : (256 : Int) ^ (8 - (l.length + 1)) = ((256 ^ (8 - (l.length + 1)) : Nat) : Int) := by simp
      rw [e1]
      omega
    have hn : n < 256 ^ (8 - (l.length + 1)) := hn
    have e : (256 : Int) ^ 7 = 72057594037927936 := by decide
    rw [List.foldl_cons, List.foldl_cons, u64_or h0 (by omega) c1 c2]
    refine num8_fold l _ (fun x hx => hb x (List.mem_cons_of_mem _ hx)) (by omega) (by omega) ?_
    have e2 : (256 : Int) ^ (8 - l.length) = 256 ^ (8 - (l.length + 1)) * 256 := by rw [← Int.pow_succ]; congr 1; omega
    rw [e2]
    omega
theorem num8_numP {h : List Int} (hb : Bytes h) (hl : h.length = 32) : num8 h = numH h 16 := by
  unfold num8
  rw [num8_fold _ 0 (bytes_take 8 hb) (by rw [List.length_take]; omega) (by omega) (by rw [List.length_take]; exact Int.pow_pos (by omega))]
  rfl
theorem numH_bound {h : List Int} (hb : Bytes h) (hl : h.length = 32) {k : Nat} (hk : k < 16) : 0 ≤ numH h k ∧ numH h k < 1152921504606846976 := by
  have h1 := numP_nonneg (k / 2) (h.take (k / 2)) (by rw [List.length_take]; omega) (bytes_take _ hb)
  have hp : (256 : Int) ^ (k / 2) ≤ 256 ^ 7 := by
    have h := Nat.pow_le_pow_right (by omega : 0 < 256) (by omega : k / 2 ≤ 7)
    have e1 : (256 : Int) ^ (k / 2) = ((256 ^ (k / 2) : Nat) : Int) := by simp
    rw [e1]
    omega
  have e : (256 : Int) ^ 7 = 72057594037927936 := by decide
  have hg := getD_byte hb (k := k / 2) (by omega)
  obtain ⟨g1, g2⟩ := hg
  unfold numH
  split <;> omega
/-- The digit at a place. -/
def digAt (h : List Int) (k : Nat) : Int := if k % 2 = 0 then h.getD (k / 2) 0 / 16 else h.getD (k / 2) 0 % 16
theorem numH_step {h : List Int} (hl : h.length = 32) {k : Nat} (hk : k < 16) : numH h (k + 1) = 16 * numH h k + digAt h k := by
  unfold numH digAt
  rcases Nat.mod_two_eq_zero_or_one k with hm | hm
  · rw [if_neg (by omega), if_pos hm, if_pos hm, show (k + 1) / 2 = k / 2 by omega]
  · rw [if_pos (by omega), if_neg (by omega), if_neg (by omega), show (k + 1) / 2 = k / 2 + 1 by omega, List.take_succ_eq_append_getElem (by omega : k / 2 < h.length), numP_append]
    rw [List.getD_eq_getElem?_getD, List.getElem?_eq_getElem (by omega : k / 2 < h.length), Option.getD_some]
    omega
theorem hexB_get : ∀ (h : List Int) (k : Nat), k < 2 * h.length → (hexB h).getD k 0 = dch (digAt h k)
  | [], k, hk => by simp at hk
  | x :: h, 0, _ => rfl
  | x :: h, 1, _ => rfl
  | x :: h, k + 2, hk => by
    have ih := hexB_get h k (by simp only [List.length_cons] at hk; omega)
    have e1 : hexB (x :: h) = dch (x / 16) :: dch (x % 16) :: hexB h := rfl
    rw [e1]
    simp only [List.getD_cons_succ]
    rw [ih]
    unfold digAt
    rw [show (k + 2) % 2 = k % 2 by omega, show (k + 2) / 2 = k / 2 + 1 by omega]
    simp only [List.getD_cons_succ]
theorem digAt_range {h : List Int} (hb : Bytes h) {k : Nat} (hk : k < 2 * h.length) : 0 ≤ digAt h k ∧ digAt h k < 16 := by
  obtain ⟨g1, g2⟩ := getD_byte hb (k := k / 2) (by omega)
  unfold digAt
  split <;> omega
theorem bytes_hexB {h : List Int} (hb : Bytes h) : Bytes (hexB h) := by
  intro x hx
  obtain ⟨k, hk, rfl⟩ := List.mem_iff_getElem.1 hx
  rw [hexB_length] at hk
  have := hexB_get h k hk
  rw [List.getD_eq_getElem?_getD, List.getElem?_eq_getElem (by rw [hexB_length]; exact hk), Option.getD_some] at this
  rw [this]
  obtain ⟨r1, r2⟩ := digAt_range hb hk
  exact dch_byte r1 r2
theorem dig64a {d : Int} (h1 : 0 ≤ d) (h2 : d < 16) : (97 ≤ dch d → iadd .u64 (isub .u64 (icv .u64 (dch d)) 97) 10 = d) ∧ (¬ 97 ≤ dch d → isub .u64 (icv .u64 (dch d)) 48 = d) :=
  all16 (p := fun d => (97 ≤ dch d → iadd .u64 (isub .u64 (icv .u64 (dch d)) 97) 10 = d) ∧ (¬ 97 ≤ dch d → isub .u64 (icv .u64 (dch d)) 48 = d)) (by decide +kernel) h1 h2
theorem strB_size (l : List Int) : (strOfBytes l).size = l.length := by simp [strOfBytes, ByteArray.size]
theorem hback.L0.ok : ∀ d, hback.L0.Pre d → ∃ n, lrun Try.prog hback.G hback.an 0 Try.f11 0 n (hback.L0.st d) (fun e s => some (e, s)) = (hback.L0.out (hback.L0.add d (hback.L0.F d))).eval := by
  refine hback.L0.byRounds (fun (h, head, t, n, i) => 16 - i.toNat) ?_
  rintro ⟨h, head, t, n, i⟩ ⟨hl, hb, rfl, k, hk, rfl, rfl⟩
  have hl : h.length = 32 := hl
  have hs : (strOfBytes (hexB h)).size = 64 := by rw [strB_size, hexB_length]; omega
  by_cases hlt : k < 16
  · left
    obtain ⟨r1, r2⟩ := digAt_range hb (k := k) (by omega)
    obtain ⟨b1, b2⟩ := numH_bound hb hl hlt
    obtain ⟨d1, d2⟩ := dig64a r1 r2
    have hsi : sidx (strOfBytes (hexB h)) (k : Int) = dch (digAt h k) := by
      rw [sidx_nat _ _ (by omega), bytesOfStr_of (bytes_hexB hb), hexB_get h k (by omega)]
    have e16 : iadd .u64 (imul .u64 16 (numH h k)) (digAt h k) = numH h (k + 1) := by
      rw [numH_step hl hlt]
      have e1 : imul .u64 16 (numH h k) = 16 * numH h k := by unfold imul; rw [wrap_u64, vw_ofInt]; omega
      rw [e1]
      unfold iadd
      rw [wrap_u64, vw_ofInt]
      omega
    refine ⟨(h, head, strOfBytes (hexB h), numH h (k + 1), ((k + 1 : Nat) : Int)), ⟨hl, hb, rfl, k + 1, by omega, rfl, rfl⟩, by simp only [Int.toNat_natCast]; omega, rfl, fun kn kx => ?_⟩
    rw [hback.L0.step, hsi]
    by_cases h97 : 97 ≤ dch (digAt h k)
    · rw [d1 h97, e16]
      simp (disch := omega) only [↓N.lt, ↓N.le, ↓N.gt, ↓N.ge, ↓N.eq, ↓N.ne, ↓N.ib, ↓N.ic, ↓N.nn, ↓N.nz, ↓N.dc, ↓N.rm, ↓N.an, ↓N.or, ↓N.no, ↓if_pos, ↓if_neg, ↓sel_true, ↓sel_false, ↓obind_some, if_pos, if_neg, obind_some, N.aNN, N.aNL, N.aLN, N.sNN, N.sNL, N.sLN, N.mNN, N.mNL, N.mLN, N.qNN, N.qNL, N.rNN, N.rNL, N.cN, N.cL, N.tL, Int.toNat_natCast, if_true, if_false, and_self, true_and, and_true, hs]
    · rw [d2 h97, e16]
      simp (disch := omega) only [↓N.lt, ↓N.le, ↓N.gt, ↓N.ge, ↓N.eq, ↓N.ne, ↓N.ib, ↓N.ic, ↓N.nn, ↓N.nz, ↓N.dc, ↓N.rm, ↓N.an, ↓N.or, ↓N.no, ↓if_pos, ↓if_neg, ↓sel_true, ↓sel_false, ↓obind_some, if_pos, if_neg, obind_some, N.aNN, N.aNL, N.aLN, N.sNN, N.sNL, N.sLN, N.mNN, N.mNL, N.mLN, N.qNN, N.qNL, N.rNN, N.rNL, N.cN, N.cL, N.tL, Int.toNat_natCast, if_true, if_false, and_self, true_and, and_true, hs]
  · right
    obtain rfl : k = 16 := by omega
    intro R kn kx
    rw [hback.L0.step]
    simp (disch := omega) only [↓N.lt, ↓N.le, ↓N.gt, ↓N.ge, ↓N.eq, ↓N.ne, ↓N.ib, ↓N.ic, ↓N.nn, ↓N.nz, ↓N.dc, ↓N.rm, ↓N.an, ↓N.or, ↓N.no, ↓if_pos, ↓if_neg, ↓sel_true, ↓sel_false, ↓obind_some, if_pos, if_neg, obind_some, N.aNN, N.aNL, N.aLN, N.sNN, N.sNL, N.sLN, N.mNN, N.mNL, N.mLN, N.qNN, N.qNL, N.rNN, N.rNL, N.cN, N.cL, N.tL, Int.toNat_natCast, if_true, if_false, and_self, true_and, and_true, hback.L0.add, hback.L0.F]
theorem getD_ext {a b : List Int} (h : a.length = b.length) (hg : ∀ k, k < a.length → a.getD k 0 = b.getD k 0) : a = b := by
  apply List.ext_getElem h
  intro i h1 h2
  have := hg i h1
  rw [List.getD_eq_getElem?_getD, List.getElem?_eq_getElem h1, List.getD_eq_getElem?_getD, List.getElem?_eq_getElem h2] at this
  exact this
/-- What was written is read. -/
theorem read_hex {h : List Int} (hl : h.length = 32) (hb : Bytes h) : readB (hexB h) = (h, true) := by
  have h64 : (hexB h).length = 64 := by rw [hexB_length]; omega
  have hd : digB (hexB h) = true := by
    unfold digB
    refine List.all_eq_true.2 fun x hx => ?_
    obtain ⟨k, hk, rfl⟩ := List.mem_iff_getElem.1 hx
    have := hexB_get h k (by omega)
    rw [List.getD_eq_getElem?_getD, List.getElem?_eq_getElem hk, Option.getD_some] at this
    obtain ⟨r1, r2⟩ := digAt_range hb (k := k) (by omega)
    rw [this, dv_dch r1 r2]
    exact dec_true r1
  unfold readB
  rw [if_pos ⟨h64, hd⟩]
  congr 1
  refine getD_ext (by rw [rdK_length]; omega) fun i hi => ?_
  rw [rdK_length] at hi
  have e : (rdK (hexB h) 64).getD i 0 = rdAt (hexB h) 64 i := by
    rw [List.getD_eq_getElem?_getD, List.getElem?_eq_getElem (by rw [rdK_length]; exact hi)]
    simp [rdK]
  rw [e]
  unfold rdAt
  rw [if_pos (by omega), hexB_get h (2 * i) (by omega), hexB_get h (2 * i + 1) (by omega)]
  obtain ⟨r1, r2⟩ := digAt_range hb (k := 2 * i) (by omega)
  obtain ⟨r3, r4⟩ := digAt_range hb (k := 2 * i + 1) (by omega)
  rw [dv_dch r1 r2, dv_dch r3 r4]
  unfold digAt
  rw [if_pos (by omega), if_neg (by omega), show 2 * i / 2 = i by omega, show (2 * i + 1) / 2 = i by omega]
  omega
/-- What is read would be written so. -/
theorem hex_read {b x : List Int} (hb : Bytes b) (h : readB b = (x, true)) : x.length = 32 ∧ Bytes x ∧ hexB x = b := by
  unfold readB at h
  split at h
  · rename_i hc
    obtain ⟨hl, hd⟩ := hc
    obtain rfl : rdK b 64 = x := congrArg Prod.fst h
    have hdk : ∀ k, k < 64 → 0 ≤ dv (b.getD k 0) ∧ dv (b.getD k 0) < 16 ∧ dch (dv (b.getD k 0)) = b.getD k 0 := fun k hk => by
      have hby := getD_byte hb (k := k) (by omega)
      have h0 : 0 ≤ dv (b.getD k 0) := by
        rw [List.getD_eq_getElem?_getD, List.getElem?_eq_getElem (by omega : k < b.length), Option.getD_some]
        have := List.all_eq_true.1 hd _ (List.getElem_mem (by omega : k < b.length))
        simpa using this
      exact ⟨h0, dch_dv hby h0⟩
    have hat : ∀ i, i < 32 → (rdK b 64).getD i 0 = 16 * dv (b.getD (2 * i) 0) + dv (b.getD (2 * i + 1) 0) := fun i hi => by
      rw [List.getD_eq_getElem?_getD, List.getElem?_eq_getElem (by rw [rdK_length]; exact hi)]
      simp only [rdK, List.getElem_map, List.getElem_range, Option.getD_some]
      unfold rdAt
      rw [if_pos (by omega)]
    have hlen := rdK_length b 64
    refine ⟨hlen, fun y hy => ?_, ?_⟩
    · obtain ⟨i, hi, rfl⟩ := List.mem_iff_getElem.1 hy
      rw [hlen] at hi
      have := hat i hi
      rw [List.getD_eq_getElem?_getD, List.getElem?_eq_getElem (by omega), Option.getD_some] at this
      rw [this]
      obtain ⟨a1, a2, _⟩ := hdk (2 * i) (by omega)
      obtain ⟨a3, a4, _⟩ := hdk (2 * i + 1) (by omega)
      exact ⟨by omega, by omega⟩
    · refine getD_ext (by rw [hexB_length]; omega) fun k hk => ?_
      rw [hexB_length] at hk
      rw [hexB_get _ k hk]
      have h2 := hat (k / 2) (by omega)
      obtain ⟨a1, a2, a3⟩ := hdk (2 * (k / 2)) (by omega)
      obtain ⟨b1, b2, b3⟩ := hdk (2 * (k / 2) + 1) (by omega)
      unfold digAt
      rw [h2]
      rcases Nat.mod_two_eq_zero_or_one k with hm | hm
      · have e : 2 * (k / 2) = k := by omega
        rw [if_pos hm]
        rw [e] at a1 a2 a3 b1 b2 b3 ⊢
        rw [show (16 * dv (b.getD k 0) + dv (b.getD (k + 1) 0)) / 16 = dv (b.getD k 0) by omega, a3]
      · have e : 2 * (k / 2) + 1 = k := by omega
        rw [if_neg (by omega)]
        rw [e] at b1 b2 b3 ⊢
        rw [show (16 * dv (b.getD (2 * (k / 2)) 0) + dv (b.getD k 0)) % 16 = dv (b.getD k 0) by omega, b3]
  · cases h
theorem strOf_bytes (s : ByteArray) : strOfBytes (bytesOfStr s) = s := by
  unfold strOfBytes bytesOfStr
  apply ByteArray.ext
  apply Array.ext'
  simp only [List.map_map]
  conv => rhs; rw [← List.map_id s.data.toList]
  refine List.map_congr_left fun x _ => ?_
  simp [Function.comp]
theorem read_not {b x : List Int} {f : Bool} (h : readB b = (x, f)) (hf : f = false) : x = List.replicate 32 0 := by
  unfold readB at h
  split at h
  · rw [hf] at h; cases h
  · exact (congrArg Prod.fst h).symm
theorem sne_self (x : ByteArray) : sne x x = false := by have := seq_self x; unfold seq at this; unfold sne; rw [this]; rfl
theorem hback.ok : ∀ d, hback.Pre d → arun Try.prog hback.G hback.an 0 Try.f11 (hback.st d).1 (hback.st d).2 some = some (hback.out (hback.add d (hback.F d))) := by
  rintro ⟨h, s⟩ ⟨hl, hb⟩
  have hl : h.length = 32 := hl
  have e1 : small4.call () = some true := small4.run (d := ()) trivial
  rw [hback.eq, e1]
  simp only [obind_some]
  by_cases h1 : 100 < s.size
  · rw [igt_true (by omega)]; rfl
  rw [igt_false (by omega), sel_false]
  have hs : (strOfBytes (hexB h)).size = 64 := by rw [strB_size, hexB_length]; omega
  have a1 : hhex.call h = some (strOfBytes (hexB h)) := hhex.run (d := h) ⟨hl, hb⟩
  have a2 : hread.call (strOfBytes (hexB h)) = some (h, true) := by
    rw [hread.run (d := strOfBytes (hexB h)) trivial]
    show some (readB (bytesOfStr (strOfBytes (hexB h)))) = _
    rw [bytesOfStr_of (bytes_hexB hb), read_hex hl hb]
  have a3 : hread.call s = some (readB (bytesOfStr s)) := hread.run (d := s) trivial
  have p1 : hback.L0.Pre (h, true, strOfBytes (hexB h), 0, 0) := ⟨hl, hb, rfl, 0, by omega, rfl, rfl⟩
  have a4 : hback.L0.call (h, true, strOfBytes (hexB h), 0, 0) = some ((h, true), numH h 16) := hback.L0.run p1
  have a5 : hnum.call h = some (numH h 16) := by rw [hnum.run (d := h) hl]; show some (num8 h) = _; rw [num8_numP hb hl]
  rw [a1]
  simp only [obind_some]
  rw [a2, a3]
  simp only [obind_some, hs, beq_ints, decide_true, Bool.not_true, sel_false]
  rw [ine_false (by decide), sel_false]
  obtain ⟨x, f, hx⟩ : ∃ x f, readB (bytesOfStr s) = (x, f) := ⟨_, _, rfl⟩
  rw [hx]
  simp only []
  cases f with
  | true =>
    obtain ⟨q1, q2, q3⟩ := hex_read (bytes_of s) hx
    have a6 : hhex.call x = some s := by
      rw [hhex.run (d := x) ⟨q1, q2⟩]
      show some (strOfBytes (hexB x)) = _
      rw [q3, strOf_bytes]
    simp only [sel_true, a6, obind_some, sne_self, sel_false, Bool.not_true, a4, a5, ieq_true]
    rfl
  | false =>
    have q := read_not hx rfl
    simp only [sel_false, Bool.not_false, sel_true, q, decide_true, Bool.not_true, a4, obind_some, a5, ieq_true]
    rfl

theorem hback.inj : ∀ d d', hback.st d = hback.st d' → d = d' := fun (h, sv) (h', sv') hEq => by
  have e0 : h = h' := d_inj (t := (.arr 32 (.int .u8))) (congrArg (fun s : List AVal × List Ent => (s.1.getD 0 .undef)) hEq)
  have e1 : sv = sv' := d_inj (t := .str) (congrArg (fun s : List AVal × List Ent => (s.1.getD 1 .undef)) hEq)
  rw [e0, e1]
noncomputable def hback.E : Entry := Entry.of [some (.arr 32 (.int .u8)), some .str] hback.st hback.Pre (fun d => hback.add d (hback.F d)) hback.out
noncomputable def hback.call : hback.D → Option hback.X := fun d => hback.E.run (hback.st d).1 (hback.st d).2
theorem hback.run {d : hback.D} (h : hback.Pre d) : hback.call d = some (hback.add d (hback.F d)) := Entry.of_run hback.inj h
theorem hback.does : Does Try.prog 11 hback.E := Does.of (by kernel_rfl) (show Sound _ hback.G from Sound.cons small4.does (Sound.cons hhex.does (Sound.cons hread.does (Sound.cons hnum.does (Sound.nil _))))) (by kernel_rfl) (by kernel_rfl) (by kernel_rfl) (LOk.fn 1 (by kernel_rfl) (And.intro (LDo.of (by kernel_rfl) hback.L0.ok) trivial)) hback.ok

end Go.Ab
