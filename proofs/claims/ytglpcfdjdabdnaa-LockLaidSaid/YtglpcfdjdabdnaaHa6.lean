/-
  Made by a program of mine (wip/gen), and by hand.
-/
import Derived.Test.YtglpcfdjdabdnaaHa5
namespace Go.Ab
open Go.Proofs
set_option maxRecDepth 100000
set_option linter.unusedVariables false
set_option linter.unusedSimpArgs false

/-! ### corsned/hash.Tag -/
abbrev htag.L0.D := Nat × (List (List Int)) × Int × Int × (List Int) × (List Int)
def htag.L0.st : htag.L0.D → AS := fun (bL, t13, t14, t15, n4, n10) => ⟨(undN 4 ([.ptr (.new 4 0) 0 [] 0, .sref (.new 10 0) 0 [] 0 0 bL] ++ undN 7 ([.d (.slice (.slice (.int .u8))) t13, .d (.int .i64) t14, .d (.int .i64) t15] ++ undN 12 []))), [], (nilN 4 ([[.obj 0 false (.d (.arr 32 (.int .u8)) n4)]] ++ nilN 5 ([[.obj 0 false (.vec 5 (.int .u8) n10)]] ++ nilN 17 [])))⟩
abbrev htag.L0.Y0 := Nat × (List Int)  -- bL, n10
abbrev htag.L0.X0 := ((List Int)) × (Nat × (List Int))
def htag.L0.ex0 : htag.L0.X0 → Exit × AS := fun x => (.exit 0, ⟨(undN 4 ([.ptr (.new 4 0) 0 [] 0, .sref (.new 10 0) 0 [] 0 0 x.2.1] ++ undN 22 [])), [], (nilN 4 ([[.obj 0 false (.d (.arr 32 (.int .u8)) x.1)]] ++ nilN 5 ([[.obj 0 false (.vec 5 (.int .u8) x.2.2)]] ++ nilN 17 [])))⟩)
abbrev htag.L0.X := htag.L0.X0
abbrev htag.L0.Y := htag.L0.Y0
def htag.L0.out : htag.L0.X → Out (Exit × AS) := fun x => .ok (htag.L0.ex0 x)
def htag.L0.add : htag.L0.D → htag.L0.Y → htag.L0.X := fun (bL, t13, t14, t15, n4, n10) y => (n4, y)
abbrev htag.D := ByteArray × (List (List Int))
def htag.st : htag.D → List AVal × List Ent := fun (name, parts) => ([.d .str name, .d (.slice (.slice (.int .u8))) parts], [])
abbrev htag.Y := (List Int)
abbrev htag.X := (List Int)
def htag.out : htag.X → GRes := fun x => ⟨.d (.arr 32 (.int .u8)) x, [], []⟩
def htag.add : htag.D → htag.Y → htag.X := fun (name, parts) y => y


def htag.L0.Pre : htag.L0.D → Prop := fun (m, ps, n, i, n4, l) => m = l.length ∧ n = ps.length ∧ ps.length ≤ 140737488350000 ∧ ∃ k : Nat, k ≤ ps.length ∧ i = k ∧ l.length + (tagp (ps.drop k)).length ≤ 140737488350000
def htag.L0.F : htag.L0.D → htag.L0.Y := fun (m, ps, n, i, n4, l) => (l.length + (tagp (ps.drop i.toNat)).length, l ++ tagp (ps.drop i.toNat))
def htag.Pre : htag.D → Prop := fun (name, ps) => (tagb (bytesOfStr name) ps).length ≤ 140737488350000
def htag.F : htag.D → htag.Y := fun (name, ps) => tag (bytesOfStr name) ps

noncomputable def htag.G : Gam := gcons 49 nilsFirst longn.E (gcons 49 srefFirst longs.E (gcons 31 anyArgs hsum.E (gnil)))
noncomputable def htag.L0.E : LEntry := LEntry.of htag.L0.st htag.L0.Pre (fun d => htag.L0.add d (htag.L0.F d)) htag.L0.out
noncomputable def htag.L0.call : htag.L0.D → Option htag.L0.X := fun d => htag.L0.E.run (htag.L0.st d)
noncomputable def htag.an : Ann := {
  objs := [],
  loops := fun r => bif Nat.beq r 3 then { keep := [4, 5, 13, 14, 15], sites := [4, 10], frz := [], data := [], owns := [⟨5, [], 10, 52⟩] } else { keep := [], sites := [], frz := [], data := [], owns := [] },
  outs := fun r b => bif Nat.beq r 3 then (bif b then { keep := [4], sites := [], frz := [], data := [], owns := [] } else { keep := [4, 5], sites := [4, 10], frz := [], data := [], owns := [] }) else { keep := [], sites := [], frz := [], data := [], owns := [] },
  sums := fun r => bif Nat.beq r 3 then some htag.L0.E else none,
  owns := [],
  trim := [],
  res := [] }
theorem htag.L0.inj : ∀ d d', htag.L0.st d = htag.L0.st d' → d = d' := fun (bL, t13, t14, t15, n4, n10) (bL', t13', t14', t15', n4', n10') hEq => by
  have e0 : bL = bL' := congrArg (fun s : AS => srefLen (s.slot 5)) hEq
  have e1 : t13 = t13' := d_inj (t := (.slice (.slice (.int .u8)))) (congrArg (fun s : AS => (s.slot 13)) hEq)
  have e2 : t14 = t14' := d_inj (t := (.int .i64)) (congrArg (fun s : AS => (s.slot 14)) hEq)
  have e3 : t15 = t15' := d_inj (t := (.int .i64)) (congrArg (fun s : AS => (s.slot 15)) hEq)
  have e4 : n4 = n4' := d_inj (t := (.arr 32 (.int .u8))) (congrArg (fun s : AS => (entC (s.ent (.new 4 0)))) hEq)
  have e5 : n10 = n10' := vec_inj (e := 5) (t := (.int .u8)) (congrArg (fun s : AS => (entC (s.ent (.new 10 0)))) hEq)
  rw [e0, e1, e2, e3, e4, e5]
theorem htag.L0.run {d : htag.L0.D} (h : htag.L0.Pre d) : htag.L0.call d = some (htag.L0.add d (htag.L0.F d)) := LEntry.of_run htag.L0.inj h
theorem htag.L0.byRounds (μ : htag.L0.D → Nat) (h : ∀ d, htag.L0.Pre d → (∃ d', htag.L0.Pre d' ∧ μ d' < μ d ∧ htag.L0.add d' (htag.L0.F d') = htag.L0.add d (htag.L0.F d) ∧ ∀ {R : Type} (kn : AS → Option R) (kx : Exit → AS → Option R), lround Try.prog htag.G htag.an 0 Try.f28 0 (htag.L0.st d) kn kx = kn (htag.L0.st d')) ∨ (∀ {R : Type} (kn : AS → Option R) (kx : Exit → AS → Option R), lround Try.prog htag.G htag.an 0 Try.f28 0 (htag.L0.st d) kn kx = kx (htag.L0.ex0 (htag.L0.add d (htag.L0.F d))).1 (htag.L0.ex0 (htag.L0.add d (htag.L0.F d))).2)) : ∀ d, htag.L0.Pre d → ∃ n, lrun Try.prog htag.G htag.an 0 Try.f28 0 n (htag.L0.st d) (fun e s => some (e, s)) = (htag.L0.out (htag.L0.add d (htag.L0.F d))).eval := lrun_one (F := fun d => htag.L0.add d (htag.L0.F d)) μ h
theorem htag.L0.step {R : Type} (bL : Nat) (t13 : (List (List Int))) (t14 : Int) (t15 : Int) (n4 : (List Int)) (n10 : (List Int)) (kn : AS → Option R) (kx : Exit → AS → Option R) : lround Try.prog htag.G htag.an 0 Try.f28 0 (htag.L0.st (bL, t13, t14, t15, n4, n10)) kn kx =
  sel ((ilt t15 t14)) (
   sel (inb t15 (((List.length t13) : Nat) : Int)) (
   obind (longs.call (bL, (((List.length (nth (.slice (.int .u8)) t13 (Int.toNat t15))) : Nat) : Int), n10)) fun x1 =>
   sel (decide (x1.1 ≤ (List.length x1.2))) (
   sel (roomA (x1.1 + (List.length (nth (.slice (.int .u8)) t13 (Int.toNat t15)))) 1) (
   kn (htag.L0.st ((x1.1 + (List.length (nth (.slice (.int .u8)) t13 (Int.toNat t15)))), t13, t14, (iadd .i64 t15 (1 : Int)), n4, ((List.take x1.1 x1.2) ++ (nth (.slice (.int .u8)) t13 (Int.toNat t15)))))) none) none) none) (
   kx (htag.L0.ex0 (n4, (bL, n10))).1 (htag.L0.ex0 (n4, (bL, n10))).2) := by kernel_rfl
theorem htag.eq {R : Type} (name : ByteArray) (parts : (List (List Int))) (k : GRes → Option R) : arun Try.prog htag.G htag.an 0 Try.f28 (htag.st (name, parts)).1 (htag.st (name, parts)).2 k =
  obind (longn.call (((ByteArray.size name) : Nat) : Int)) fun x1 =>
  sel (decide (x1.1 ≤ (List.length x1.2))) (
  sel (roomA (x1.1 + (List.length (bytesOfStr name))) 1) (
  obind (htag.L0.call ((x1.1 + (List.length (bytesOfStr name))), parts, (((List.length parts) : Nat) : Int), (0 : Int), (List.replicate 32 (0 : Int)), ((List.take x1.1 x1.2) ++ (bytesOfStr name)))) fun x4 =>
  sel (decide (0 = 0 ∧ (0 + x4.2.1) ≤ (List.length x4.2.2))) (
  obind (hsum.call (cut x4.2.2 0 x4.2.1)) fun x5 =>
  k (htag.out x5)) none) none) none := by kernel_rfl


theorem tagp_cons (p : List Int) (ps : List (List Int)) : tagp (p :: ps) = be8 p.length ++ p ++ tagp ps := by simp [tagp]
theorem tagp_drop (ps : List (List Int)) (k : Nat) (h : k < ps.length) : tagp (ps.drop k) = be8 ps[k].length ++ ps[k] ++ tagp (ps.drop (k + 1)) := by
  rw [List.drop_eq_getElem_cons h, tagp_cons]
theorem htag.L0.ok : ∀ d, htag.L0.Pre d → ∃ n, lrun Try.prog htag.G htag.an 0 Try.f28 0 n (htag.L0.st d) (fun e s => some (e, s)) = (htag.L0.out (htag.L0.add d (htag.L0.F d))).eval := by
  refine htag.L0.byRounds (fun (m, ps, n, i, n4, l) => ps.length - i.toNat) ?_
  rintro ⟨m, ps, n, i, n4, l⟩ ⟨rfl, rfl, hpl, k, hk, rfl, hl⟩
  have hl : l.length + (tagp (ps.drop k)).length ≤ 140737488350000 := hl
  have hk : k ≤ ps.length := hk
  have e2 : Int.toNat (k : Int) = k := by omega
  have e3 : Int.toNat ((k + 1 : Nat) : Int) = k + 1 := by omega
  by_cases h : k < ps.length
  · left
    have ht := tagp_drop ps k h
    have hlen : (tagp (ps.drop k)).length = 8 + ps[k].length + (tagp (ps.drop (k + 1))).length := by rw [ht]; simp only [List.length_append, be8_length]
    have hn : nth (.slice (.int .u8)) ps k = ps[k] := nth_lt (t := .slice (.int .u8)) h
    have hpl : ps.length ≤ 140737488350000 := hpl
    have e1 : iadd .i64 (k : Int) 1 = ((k + 1 : Nat) : Int) := by rw [iadd_i64 (by omega) (by omega)]; omega
    refine ⟨((l ++ be8 ps[k].length ++ ps[k]).length, ps, (ps.length : Int), ((k + 1 : Nat) : Int), n4, l ++ be8 ps[k].length ++ ps[k]), ⟨rfl, rfl, hpl, k + 1, by show k + 1 ≤ ps.length; omega, rfl, ?_⟩, ?_, ?_, fun kn kx => ?_⟩
    · show (l ++ be8 ps[k].length ++ ps[k]).length + (tagp (ps.drop (k + 1))).length ≤ _
      simp only [List.length_append, be8_length]; omega
    · show ps.length - Int.toNat ((k + 1 : Nat) : Int) < ps.length - Int.toNat (k : Int)
      omega
    · simp only [htag.L0.add, htag.L0.F, e2, e3, ht, List.append_assoc]
      simp only [List.length_append, be8_length, Nat.add_assoc]
    · have p1 : longs.Pre (l.length, (ps[k].length : Int), l) := ⟨rfl, by show l.length ≤ _; omega⟩
      rw [htag.L0.step, ilt_true (by omega), inb_true (by omega) (by omega), e1, e2]
      simp only [sel_true, hn, longs.run p1, obind_some, longs.add, longs.F]
      have hlb : (l ++ be8 ps[k].length).length = l.length + 8 := by simp [be8_length]
      rw [hlb, dec_true (Nat.le_refl _), room1 (by omega)]
      simp only [sel_true]
      rw [List.take_of_length_le (by rw [hlb]; omega)]
      simp only [List.length_append, be8_length, Nat.add_assoc]
  · right
    obtain rfl : k = ps.length := by omega
    intro R kn kx
    rw [htag.L0.step, ilt_false (by omega)]
    simp only [sel_false, htag.L0.add, htag.L0.F, e2, List.drop_length]
    simp [tagp]
theorem tagp_len : ∀ ps : List (List Int), 8 * ps.length ≤ (tagp ps).length
  | [] => by simp [tagp]
  | p :: ps => by
    rw [tagp_cons]
    have := tagp_len ps
    simp only [List.length_append, be8_length, List.length_cons]
    omega
theorem bytesOfStr_length (s : ByteArray) : (bytesOfStr s).length = s.size := by simp only [bytesOfStr, List.length_map, Array.length_toList]; rfl
theorem htag.ok : ∀ d, htag.Pre d → arun Try.prog htag.G htag.an 0 Try.f28 (htag.st d).1 (htag.st d).2 some = some (htag.out (htag.add d (htag.F d))) := by
  rintro ⟨name, ps⟩ hp
  have hp : (be8 (bytesOfStr name).length ++ bytesOfStr name ++ tagp ps).length ≤ 140737488350000 := hp
  have hl : (be8 (bytesOfStr name).length ++ bytesOfStr name ++ tagp ps).length = 8 + (bytesOfStr name).length + (tagp ps).length := by simp only [List.length_append, be8_length]
  have hpl := tagp_len ps
  have hsz : ((name.size : Nat) : Int) = (((bytesOfStr name).length : Nat) : Int) := by rw [bytesOfStr_length]
  rw [htag.eq, longn.run (d := ((name.size : Nat) : Int)) trivial, hsz]
  simp only [obind_some, longn.add, longn.F, be8_length, Nat.le_refl, decide_true, sel_true]
  rw [room1 (by omega), List.take_of_length_le (by rw [be8_length]; omega)]
  have p2 : htag.L0.Pre (8 + (bytesOfStr name).length, ps, (ps.length : Int), 0, List.replicate 32 0, be8 ((bytesOfStr name).length : Int) ++ bytesOfStr name) := by
    refine ⟨by simp only [List.length_append, be8_length], rfl, by show ps.length ≤ _; omega, 0, Nat.zero_le _, rfl, ?_⟩
    rw [List.drop_zero]
    simp only [List.length_append, be8_length]
    omega
  simp only [sel_true, htag.L0.run p2, obind_some, htag.L0.add, htag.L0.F, Int.toNat_zero, List.drop_zero]
  have hcut : cut (be8 ((bytesOfStr name).length : Int) ++ bytesOfStr name ++ tagp ps) 0 ((be8 ((bytesOfStr name).length : Int) ++ bytesOfStr name).length + (tagp ps).length) = tagb (bytesOfStr name) ps := by
    unfold cut
    rw [List.drop_zero, List.take_of_length_le (by simp only [List.length_append]; omega)]
    rfl
  have p3 : hsum.Pre (tagb (bytesOfStr name) ps) := hp
  rw [dec_true ⟨trivial, by simp only [List.length_append]; omega⟩, hcut]
  simp only [sel_true, hsum.run p3, obind_some, hsum.add, hsum.F, htag.add, htag.F, tag]

theorem htag.inj : ∀ d d', htag.st d = htag.st d' → d = d' := fun (name, parts) (name', parts') hEq => by
  have e0 : name = name' := d_inj (t := .str) (congrArg (fun s : List AVal × List Ent => (s.1.getD 0 .undef)) hEq)
  have e1 : parts = parts' := d_inj (t := (.slice (.slice (.int .u8)))) (congrArg (fun s : List AVal × List Ent => (s.1.getD 1 .undef)) hEq)
  rw [e0, e1]
noncomputable def htag.E : Entry := Entry.of [some .str, some (.slice (.slice (.int .u8)))] htag.st htag.Pre (fun d => htag.add d (htag.F d)) htag.out
noncomputable def htag.call : htag.D → Option htag.X := fun d => htag.E.run (htag.st d).1 (htag.st d).2
theorem htag.run {d : htag.D} (h : htag.Pre d) : htag.call d = some (htag.add d (htag.F d)) := Entry.of_run htag.inj h
theorem htag.does : Does Try.prog 28 htag.E := Does.of (by kernel_rfl) (show Sound _ htag.G from Sound.cons longn.does (Sound.cons longs.does (Sound.cons hsum.does (Sound.nil _)))) (by kernel_rfl) (by kernel_rfl) (by kernel_rfl) (LOk.fn 1 (by kernel_rfl) (And.intro (LDo.of (by kernel_rfl) htag.L0.ok) trivial)) htag.ok

end Go.Ab
