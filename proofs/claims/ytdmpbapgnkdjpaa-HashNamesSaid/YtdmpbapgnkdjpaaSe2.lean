/-
  Made by a program of mine (wip/gen), and by hand.
-/
import Derived.Test.YtdmpbapgnkdjpaaSe1
namespace Go.Ab
open Go.Proofs
set_option maxRecDepth 100000
set_option linter.unusedVariables false
set_option linter.unusedSimpArgs false

/-! ### corsned/seal.Stream -/
abbrev sstream.L0.D := Int × Nat × (List Int) × Int × (List Int)
def sstream.L0.st : sstream.L0.D → AS := fun (n_2, outL, n16, n18, n18_2) => ⟨[.undef, .d (.int .i64) n_2, .undef, .undef, .undef, .sref (.new 16 0) 0 [] 0 0 outL, .fn 48 (.cons (.ptr (.new 18 0) 0 [] 0) (.cons (.ptr (.new 18 1) 0 [] 0) (.nil))), .undef, .undef, .undef, .undef, .undef, .undef, .undef, .undef, .undef, .undef, .undef, .undef, .undef, .undef, .undef, .undef, .undef, .undef, .undef, .undef, .undef, .undef, .undef, .undef], [], [[], [], [], [], [], [], [], [], [], [], [], [], [], [], [], [], [.obj 0 false (.vec 5 (.int .u8) n16)], [], [.obj 0 false (.d (.int .u64) n18), .obj 0 true (.d (.arr 32 (.int .u8)) n18_2)], [], [], [], [], [], [], [], [], [], [], [], []]⟩
abbrev sstream.L0.Y0 := Nat × (List Int)  -- outL, n16
abbrev sstream.L0.X0 := (Int) × (Nat × (List Int))
def sstream.L0.ex0 : sstream.L0.X0 → Exit × AS := fun x => (.exit 0, ⟨[.undef, .d (.int .i64) x.1, .undef, .undef, .undef, .sref (.new 16 0) 0 [] 0 0 x.2.1, .undef, .undef, .undef, .undef, .undef, .undef, .undef, .undef, .undef, .undef, .undef, .undef, .undef, .undef, .undef, .undef, .undef, .undef, .undef, .undef, .undef, .undef, .undef, .undef, .undef], [], [[], [], [], [], [], [], [], [], [], [], [], [], [], [], [], [], [.obj 0 false (.vec 5 (.int .u8) x.2.2)], [], [], [], [], [], [], [], [], [], [], [], [], [], []]⟩)
abbrev sstream.L0.X := sstream.L0.X0
abbrev sstream.L0.Y := sstream.L0.Y0
def sstream.L0.out : sstream.L0.X → Out (Exit × AS) := fun x => .ok (sstream.L0.ex0 x)
def sstream.L0.add : sstream.L0.D → sstream.L0.Y → sstream.L0.X := fun (n_2, outL, n16, n18, n18_2) y => (n_2, y)
abbrev sstream.D := (List Int) × Int
def sstream.st : sstream.D → List AVal × List Ent := fun (key, n) => ([.d (.arr 32 (.int .u8)) key, .d (.int .i64) n], [])
abbrev sstream.Y := Nat × (List Int)
abbrev sstream.X := Nat × (List Int)
def sstream.out : sstream.X → GRes := fun x => ⟨.sref (.new 0 0) 0 [] 0 0 x.1, [], [.obj 0 false (.vec 5 (.int .u8) x.2)]⟩
def sstream.add : sstream.D → sstream.Y → sstream.X := fun (key, n) y => y


def strmN (key : List Int) : Nat → List Int
  | 0 => []
  | n + 1 => strmN key n ++ smA key n
def strm (key : List Int) (n : Nat) : List Int := strmN key ((n + 31) / 32)
def strmT (key : List Int) (n : Nat) : List Int := (strm key n).take n
def sstream.L0.Pre : sstream.L0.D → Prop := fun (n, m, l, o, key) => key.length = 32 ∧ n ≤ 65536 ∧ 0 ≤ n ∧ ∃ k : Nat, 32 * k ≤ n + 31 ∧ o = k ∧ m = l.length ∧ l = strmN key k
def sstream.L0.F : sstream.L0.D → sstream.L0.Y := fun (n, m, l, o, key) => ((strm key n.toNat).length, strm key n.toNat)
def sstream.Pre : sstream.D → Prop := fun (key, n) => key.length = 32
def sstream.F : sstream.D → sstream.Y := fun (key, n) => if n < 0 ∨ 65536 < n then (0, []) else (n.toNat, strmT key n.toNat)

noncomputable def sstream.G : Gam := gcons 34 anyArgs sums.E (gcons 48 anyArgs sums1.E (gnil))
noncomputable def sstream.L0.E : LEntry := LEntry.of sstream.L0.st sstream.L0.Pre (fun d => sstream.L0.add d (sstream.L0.F d)) sstream.L0.out
noncomputable def sstream.L0.call : sstream.L0.D → Option sstream.L0.X := fun d => sstream.L0.E.run (sstream.L0.st d)
noncomputable def sstream.an : Ann := {
  objs := [],
  loops := fun r => bif Nat.beq r 5 then { keep := [1, 5, 6], sites := [16, 18], frz := [(.new 18 1)], data := [], owns := [⟨5, [], 16, 24⟩] } else { keep := [], sites := [], frz := [], data := [], owns := [] },
  outs := fun r b => bif Nat.beq r 5 then (bif b then { keep := [4], sites := [], frz := [], data := [], owns := [] } else { keep := [1, 5], sites := [16], frz := [], data := [], owns := [] }) else { keep := [], sites := [], frz := [], data := [], owns := [] },
  sums := fun r => bif Nat.beq r 5 then some sstream.L0.E else none,
  owns := [⟨4, [], 16, 24⟩],
  trim := [4],
  res := [] }
theorem sstream.L0.inj : ∀ d d', sstream.L0.st d = sstream.L0.st d' → d = d' := fun (n_2, outL, n16, n18, n18_2) (n_2', outL', n16', n18', n18_2') hEq => by
  have e0 : n_2 = n_2' := d_inj (t := (.int .i64)) (congrArg (fun s : AS => (s.slot 1)) hEq)
  have e1 : outL = outL' := congrArg (fun s : AS => srefLen (s.slot 5)) hEq
  have e2 : n16 = n16' := vec_inj (e := 5) (t := (.int .u8)) (congrArg (fun s : AS => (entC (s.ent (.new 16 0)))) hEq)
  have e3 : n18 = n18' := d_inj (t := (.int .u64)) (congrArg (fun s : AS => (entC (s.ent (.new 18 0)))) hEq)
  have e4 : n18_2 = n18_2' := d_inj (t := (.arr 32 (.int .u8))) (congrArg (fun s : AS => (entC (s.ent (.new 18 1)))) hEq)
  rw [e0, e1, e2, e3, e4]
theorem sstream.L0.run {d : sstream.L0.D} (h : sstream.L0.Pre d) : sstream.L0.call d = some (sstream.L0.add d (sstream.L0.F d)) := LEntry.of_run sstream.L0.inj h
theorem sstream.L0.byRounds (μ : sstream.L0.D → Nat) (h : ∀ d, sstream.L0.Pre d → (∃ d', sstream.L0.Pre d' ∧ μ d' < μ d ∧ sstream.L0.add d' (sstream.L0.F d') = sstream.L0.add d (sstream.L0.F d) ∧ ∀ {R : Type} (kn : AS → Option R) (kx : Exit → AS → Option R), lround Try.prog sstream.G sstream.an 0 Try.f16 0 (sstream.L0.st d) kn kx = kn (sstream.L0.st d')) ∨ (∀ {R : Type} (kn : AS → Option R) (kx : Exit → AS → Option R), lround Try.prog sstream.G sstream.an 0 Try.f16 0 (sstream.L0.st d) kn kx = kx (sstream.L0.ex0 (sstream.L0.add d (sstream.L0.F d))).1 (sstream.L0.ex0 (sstream.L0.add d (sstream.L0.F d))).2)) : ∀ d, sstream.L0.Pre d → ∃ n, lrun Try.prog sstream.G sstream.an 0 Try.f16 0 n (sstream.L0.st d) (fun e s => some (e, s)) = (sstream.L0.out (sstream.L0.add d (sstream.L0.F d))).eval := lrun_one (F := fun d => sstream.L0.add d (sstream.L0.F d)) μ h
theorem sstream.L0.step {R : Type} (n_2 : Int) (outL : Nat) (n16 : (List Int)) (n18 : Int) (n18_2 : (List Int)) (kn : AS → Option R) (kx : Exit → AS → Option R) : lround Try.prog sstream.G sstream.an 0 Try.f16 0 (sstream.L0.st (n_2, outL, n16, n18, n18_2)) kn kx =
  sel ((ilt ((outL : Nat) : Int) n_2)) (
   obind (sums1.call (n18, n18_2)) fun x1 =>
   sel (decide (some 32 = some (List.length x1.2.1) ∧ 0 = 0)) (
   sel (decide (0 = 0 ∧ 32 ≤ (List.length x1.2.1))) (
   sel (decide (outL ≤ (List.length n16))) (
   sel (roomA (outL + (List.length (cut x1.2.1 0 32))) 1) (
   kn (sstream.L0.st (n_2, (outL + (List.length (cut x1.2.1 0 32))), ((List.take outL n16) ++ (cut x1.2.1 0 32)), x1.2.2, x1.1))) none) none) none) none) (
   kx (sstream.L0.ex0 (n_2, (outL, n16))).1 (sstream.L0.ex0 (n_2, (outL, n16))).2) := by kernel_rfl
theorem sstream.eq {R : Type} (key : (List Int)) (n : Int) (k : GRes → Option R) : arun Try.prog sstream.G sstream.an 0 Try.f16 (sstream.st (key, n)).1 (sstream.st (key, n)).2 k =
  sel ((ilt n (0 : Int))) (
   k (sstream.out (0, (List.take 0 ([] : List Int))))) (
   sel ((igt n (65536 : Int))) (
    k (sstream.out (0, (List.take 0 ([] : List Int))))) (
    sel (decide (0 ≤ (0 : Int) ∧ (0 : Int) ≤ (iadd .i64 n (32 : Int))) && roomA (Int.toNat (iadd .i64 n (32 : Int))) 1) (
    obind (sums.call key) fun x1 =>
    obind (sstream.L0.call (n, 0, (List.replicate 0 (0 : Int)), (0 : Int), x1)) fun x4 =>
    sel (inc x4.1 ((x4.2.1 : Nat) : Int)) (
    sel (decide (((Int.toNat x4.1) - 0) ≤ (List.length x4.2.2))) (
    k (sstream.out (((Int.toNat x4.1) - 0), (List.take ((Int.toNat x4.1) - 0) x4.2.2)))) none) none) none)) := by kernel_rfl


theorem smA_length (key : List Int) (i : Int) : (smA key i).length = 32 := rfl
theorem strmN_length (key : List Int) : ∀ n, (strmN key n).length = 32 * n
  | 0 => rfl
  | n + 1 => by rw [strmN, List.length_append, smA_length, strmN_length key n]; omega
theorem sstream.L0.ok : ∀ d, sstream.L0.Pre d → ∃ n, lrun Try.prog sstream.G sstream.an 0 Try.f16 0 n (sstream.L0.st d) (fun e s => some (e, s)) = (sstream.L0.out (sstream.L0.add d (sstream.L0.F d))).eval := by
  refine sstream.L0.byRounds (fun (n, m, l, o, key) => 70000 - m) ?_
  rintro ⟨n, m, l, o, key⟩ ⟨hkey, hn, hn0, k, hk, rfl, rfl, rfl⟩
  have hkey : key.length = 32 := hkey
  have hn : n ≤ 65536 := hn
  have hn0 : 0 ≤ n := hn0
  have hk : 32 * (k : Int) ≤ n + 31 := hk
  have hll := strmN_length key k
  by_cases h : ((strmN key k).length : Int) < n
  · left
    have p1 : sums1.Pre ((k : Int), key) := ⟨hkey, by omega, by omega⟩
    have hl1 : (strmN key (k + 1)).length = (strmN key k).length + 32 := by rw [strmN_length, strmN_length]; omega
    refine ⟨(n, (strmN key (k + 1)).length, strmN key (k + 1), ((k + 1 : Nat) : Int), key), ⟨hkey, hn, hn0, k + 1, by omega, rfl, rfl, rfl⟩, by show 70000 - _ < 70000 - _; omega, rfl, fun kn kx => ?_⟩
    rw [sstream.L0.step, ilt_true h]
    simp only [sel_true, sums1.run p1, obind_some, sums1.add, sums1.F, Nat.le_refl, decide_true, List.take_length, smA_length]
    rw [cut_all (smA key k) 32 (Nat.le_refl _), room1 (by rw [smA_length]; omega)]
    simp only [smA_length, ← hl1, sel_true, and_true]
    rfl
  · right
    intro R kn kx
    have hs : strm key n.toNat = strmN key k := by
      unfold strm
      congr 1
      omega
    rw [sstream.L0.step, ilt_false h]
    simp only [sel_false, sstream.L0.add, sstream.L0.F, hs]
theorem strm_length (key : List Int) (n : Nat) : n ≤ (strm key n).length ∧ (strm key n).length ≤ n + 31 := by
  unfold strm
  rw [strmN_length]
  omega
theorem strmT_length (key : List Int) (n : Nat) : (strmT key n).length = n := by
  unfold strmT
  have := strm_length key n
  simp; omega
theorem sstream.ok : ∀ d, sstream.Pre d → arun Try.prog sstream.G sstream.an 0 Try.f16 (sstream.st d).1 (sstream.st d).2 some = some (sstream.out (sstream.add d (sstream.F d))) := by
  rintro ⟨key, n⟩ hk
  have hk : key.length = 32 := hk
  rw [sstream.eq]
  simp only [sstream.add, sstream.F]
  by_cases h0 : n < 0
  · rw [ilt_true h0, if_pos (.inl h0)]; rfl
  · by_cases h1 : 65536 < n
    · rw [ilt_false h0, igt_true h1, if_pos (.inr h1)]; rfl
    · have e1 : iadd .i64 n 32 = n + 32 := iadd_i64 (by omega) (by omega)
      have p1 : sstream.L0.Pre (n, 0, List.replicate 0 0, 0, key) := ⟨hk, by omega, by omega, 0, by omega, rfl, rfl, rfl⟩
      have hl := strm_length key n.toNat
      rw [ilt_false h0, igt_false h1, if_neg (by omega), e1, dec_true (by omega), room1 (by omega)]
      simp only [sel_false, sel_true, Bool.and_self, sums.run (d := key) trivial, obind_some, sums.add, sstream.L0.run p1, sstream.L0.add, sstream.L0.F]
      rw [inc_true (by omega) (by omega), dec_true (by omega)]
      rfl

theorem sstream.inj : ∀ d d', sstream.st d = sstream.st d' → d = d' := fun (key, n) (key', n') hEq => by
  have e0 : key = key' := d_inj (t := (.arr 32 (.int .u8))) (congrArg (fun s : List AVal × List Ent => (s.1.getD 0 .undef)) hEq)
  have e1 : n = n' := d_inj (t := (.int .i64)) (congrArg (fun s : List AVal × List Ent => (s.1.getD 1 .undef)) hEq)
  rw [e0, e1]
noncomputable def sstream.E : Entry := Entry.of [some (.arr 32 (.int .u8)), some (.int .i64)] sstream.st sstream.Pre (fun d => sstream.add d (sstream.F d)) sstream.out
noncomputable def sstream.call : sstream.D → Option sstream.X := fun d => sstream.E.run (sstream.st d).1 (sstream.st d).2
theorem sstream.run {d : sstream.D} (h : sstream.Pre d) : sstream.call d = some (sstream.add d (sstream.F d)) := Entry.of_run sstream.inj h
theorem sstream.does : Does Try.prog 16 sstream.E := Does.of (by kernel_rfl) (show Sound _ sstream.G from Sound.cons sums.does (Sound.cons sums1.does (Sound.nil _))) (by kernel_rfl) (by kernel_rfl) (by kernel_rfl) (LOk.fn 1 (by kernel_rfl) (And.intro (LDo.of (by kernel_rfl) sstream.L0.ok) trivial)) sstream.ok

end Go.Ab
