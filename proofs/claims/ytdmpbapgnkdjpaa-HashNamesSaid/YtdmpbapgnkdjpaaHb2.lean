/-
  Made by a program of mine (wip/gen), and by hand.
-/
import Derived.Test.YtdmpbapgnkdjpaaHb1
import Derived.Test.YtdmpbapgnkdjpaaRs1
namespace Go.Ab
open Go.Proofs
set_option maxRecDepth 100000
set_option linter.unusedVariables false
set_option linter.unusedSimpArgs false


def digs : ByteArray := ⟨#[48, 49, 50, 51, 52, 53, 54, 55, 56, 57, 97, 98, 99, 100, 101, 102]⟩
/-- A digit's byte; a byte's digit, or -1. -/
def dch (n : Int) : Int := sidx digs n
def dv (c : Int) : Int := if 48 ≤ c ∧ c ≤ 57 then c - 48 else if 97 ≤ c ∧ c ≤ 102 then c - 87 else -1
def hx (x : Int) : List Int := [dch (x / 16), dch (x % 16)]
def hexB (h : List Int) : List Int := h.flatMap hx
theorem dch_eq (n : Int) : sidx (⟨#[48, 49, 50, 51, 52, 53, 54, 55, 56, 57, 97, 98, 99, 100, 101, 102]⟩ : ByteArray) n = dch n := rfl
theorem all256 {p : Int → Prop} (h : ∀ c : Fin 256, p (c.val : Int)) {x : Int} (hx : Byte x) : p x := by
  obtain ⟨h1, h2⟩ := hx
  obtain ⟨n, rfl⟩ := Int.eq_ofNat_of_zero_le h1
  exact h ⟨n, by omega⟩
theorem all16 {p : Int → Prop} (h : ∀ c : Fin 16, p (c.val : Int)) {x : Int} (h1 : 0 ≤ x) (h2 : x < 16) : p x := by
  obtain ⟨n, rfl⟩ := Int.eq_ofNat_of_zero_le h1
  exact h ⟨n, by omega⟩
theorem shr4 {x : Int} (h : Byte x) : ishr .u8 x 4 = x / 16 := all256 (p := fun x => ishr .u8 x 4 = x / 16) (by decide +kernel) h
theorem and15 {x : Int} (h : Byte x) : bitop .and .u8 x 15 = x % 16 := all256 (p := fun x => bitop .and .u8 x 15 = x % 16) (by decide +kernel) h
theorem quo16 {x : Int} (h : Byte x) : iquo .u8 x 16 = x / 16 := all256 (p := fun x => iquo .u8 x 16 = x / 16) (by decide +kernel) h
theorem rem16 {x : Int} (h : Byte x) : irem x 16 = x % 16 := all256 (p := fun x => irem x 16 = x % 16) (by decide +kernel) h
theorem dv_dch {x : Int} (h1 : 0 ≤ x) (h2 : x < 16) : dv (dch x) = x := all16 (p := fun x => dv (dch x) = x) (by decide +kernel) h1 h2
theorem dch_byte {x : Int} (h1 : 0 ≤ x) (h2 : x < 16) : Byte (dch x) := all16 (p := fun x => 0 ≤ dch x ∧ dch x < 256) (by decide +kernel) h1 h2
theorem dch_dv {c : Int} (h : Byte c) : 0 ≤ dv c → dv c < 16 ∧ dch (dv c) = c := all256 (p := fun c => 0 ≤ dv c → dv c < 16 ∧ dch (dv c) = c) (by decide +kernel) h
theorem dv_cases {c : Int} (h : Byte c) : dv c = -1 ∨ (0 ≤ dv c ∧ dv c < 16) := all256 (p := fun c => dv c = -1 ∨ (0 ≤ dv c ∧ dv c < 16)) (by decide +kernel) h
theorem idx_dv {c : Int} (h : Byte c) : firstIdx digs c.toNat.toUInt8 = dv c := all256 (p := fun c => firstIdx digs c.toNat.toUInt8 = dv c) (by decide +kernel) h
theorem or16 {a b : Int} (h1 : 0 ≤ a) (h2 : a < 16) (h3 : 0 ≤ b) (h4 : b < 16) : bitop .or .u8 (ishl .u8 a 4) (icv .u8 b) = 16 * a + b :=
  all16 (p := fun a => bitop .or .u8 (ishl .u8 a 4) (icv .u8 b) = 16 * a + b) (fun c => all16 (p := fun b => bitop .or .u8 (ishl .u8 (c.val : Int) 4) (icv .u8 b) = 16 * (c.val : Int) + b) ((by decide +kernel : ∀ c d : Fin 16, bitop .or .u8 (ishl .u8 (c.val : Int) 4) (icv .u8 (d.val : Int)) = 16 * (c.val : Int) + (d.val : Int)) c) h3 h4) h1 h2
theorem add16 {a b : Int} (h1 : 0 ≤ a) (h2 : a < 16) (h3 : 0 ≤ b) (h4 : b < 16) : iadd .u8 (imul .u8 16 a) (icv .u8 b) = 16 * a + b :=
  all16 (p := fun a => iadd .u8 (imul .u8 16 a) (icv .u8 b) = 16 * a + b) (fun c => all16 (p := fun b => iadd .u8 (imul .u8 16 (c.val : Int)) (icv .u8 b) = 16 * (c.val : Int) + b) ((by decide +kernel : ∀ c d : Fin 16, iadd .u8 (imul .u8 16 (c.val : Int)) (icv .u8 (d.val : Int)) = 16 * (c.val : Int) + (d.val : Int)) c) h3 h4) h1 h2
theorem nth_byte {l : List Int} (h : Bytes l) {i : Nat} (hi : i < l.length) : Byte (nth (.int .u8) l i) := by
  rw [nth_lt (t := .int .u8) hi]
  exact h _ (List.getElem_mem _)
noncomputable def chain {R : Type} : List Int → Nat → List Int → (Nat → List Int → Option R) → Option R
  | [], n, l, k => k n l
  | c :: cs, n, l, k => sel (inb c 16) (obind (altR (X := bwb1.X) (bwb2.call (dch c, n, l))) fun x => chain cs x.2.1 x.2.2 k) none
theorem chain_run {R : Type} : ∀ (cs : List Int) (n : Nat) (l : List Int) (k : Nat → List Int → Option R), (∀ c ∈ cs, 0 ≤ c ∧ c < 16) → l.length = n → n + cs.length ≤ 1000 → chain cs n l k = k (n + cs.length) (l ++ cs.map dch)
  | [], n, l, k, _, _, _ => by simp [chain]
  | c :: cs, n, l, k, h0, h1, h2 => by
    have h2 : n + (cs.length + 1) ≤ 1000 := h2
    obtain ⟨i1, i2⟩ := h0 c (List.mem_cons_self ..)
    rw [chain, inb_true i1 i2, bwb2.at h1 (by omega)]
    simp only [sel_true, obind_some]
    rw [chain_run cs (n + 1) (l ++ [dch c]) k (fun x hx => h0 x (List.mem_cons_of_mem _ hx)) (by simp [h1]) (by omega)]
    simp only [List.length_cons, List.map_cons, List.append_assoc, List.cons_append, List.nil_append]
    rw [show n + 1 + cs.length = n + (cs.length + 1) by omega]
theorem list_nth (l : List Int) (n : Nat) (h : l.length = n) : l = (List.range n).map (nth (.int .u8) l) := by
  apply List.ext_getElem (by simp [h])
  intro i h1 h2
  simp [nth_lt (t := .int .u8) h1]

/-! ### corsned/hash.Hex -/
abbrev hhex.D := (List Int)
def hhex.st : hhex.D → List AVal × List Ent := fun h => ([.d (.arr 32 (.int .u8)) h], [])
abbrev hhex.Y := ByteArray
abbrev hhex.X := ByteArray
def hhex.out : hhex.X → GRes := fun x => ⟨.d .str x, [], []⟩
def hhex.add : hhex.D → hhex.Y → hhex.X := fun h y => y


def hhex.Pre : hhex.D → Prop := fun h => h.length = 32 ∧ Bytes h
def hhex.F : hhex.D → hhex.Y := fun h => strOfBytes (hexB h)

noncomputable def hhex.G : Gam := gcons 45 anyArgs bwb.E (gcons 46 anyArgs bstr.E (gnil))
noncomputable def hhex.an : Ann := {
  objs := [],
  loops := fun r => bif Nat.beq r 3 then { keep := [3, 6, 7], sites := [3, 13, 17, 19], frz := [], data := [], owns := [] } else { keep := [], sites := [], frz := [], data := [], owns := [] },
  outs := fun r b => bif Nat.beq r 3 then (bif b then { keep := [2], sites := [3, 13, 17, 19], frz := [], data := [], owns := [] } else { keep := [3], sites := [3, 13, 17, 19], frz := [], data := [], owns := [] }) else { keep := [], sites := [], frz := [], data := [], owns := [] },
  sums := fun r => none,
  owns := [],
  trim := [],
  res := [] }


theorem hhex.eq2 (h : List Int) : arun Try.prog hhex.G hhex.an 34 Try.f28 (hhex.st h).1 (hhex.st h).2 some =
    sel (inb (ishr .u8 (nth (.int .u8) h 0) 4) 16) (obind (altL (Y := bwb2.X) (bwb1.call (dch (ishr .u8 (nth (.int .u8) h 0) 4)))) fun x1 =>
      chain [bitop .and .u8 (nth (.int .u8) h 0) 15, ishr .u8 (nth (.int .u8) h 1) 4, bitop .and .u8 (nth (.int .u8) h 1) 15, ishr .u8 (nth (.int .u8) h 2) 4, bitop .and .u8 (nth (.int .u8) h 2) 15, ishr .u8 (nth (.int .u8) h 3) 4, bitop .and .u8 (nth (.int .u8) h 3) 15, ishr .u8 (nth (.int .u8) h 4) 4, bitop .and .u8 (nth (.int .u8) h 4) 15, ishr .u8 (nth (.int .u8) h 5) 4, bitop .and .u8 (nth (.int .u8) h 5) 15, ishr .u8 (nth (.int .u8) h 6) 4, bitop .and .u8 (nth (.int .u8) h 6) 15, ishr .u8 (nth (.int .u8) h 7) 4, bitop .and .u8 (nth (.int .u8) h 7) 15, ishr .u8 (nth (.int .u8) h 8) 4, bitop .and .u8 (nth (.int .u8) h 8) 15, ishr .u8 (nth (.int .u8) h 9) 4, bitop .and .u8 (nth (.int .u8) h 9) 15, ishr .u8 (nth (.int .u8) h 10) 4, bitop .and .u8 (nth (.int .u8) h 10) 15, ishr .u8 (nth (.int .u8) h 11) 4, bitop .and .u8 (nth (.int .u8) h 11) 15, ishr .u8 (nth (.int .u8) h 12) 4, bitop .and .u8 (nth (.int .u8) h 12) 15, ishr .u8 (nth (.int .u8) h 13) 4, bitop .and .u8 (nth (.int .u8) h 13) 15, ishr .u8 (nth (.int .u8) h 14) 4, bitop .and .u8 (nth (.int .u8) h 14) 15, ishr .u8 (nth (.int .u8) h 15) 4, bitop .and .u8 (nth (.int .u8) h 15) 15, ishr .u8 (nth (.int .u8) h 16) 4, bitop .and .u8 (nth (.int .u8) h 16) 15, ishr .u8 (nth (.int .u8) h 17) 4, bitop .and .u8 (nth (.int .u8) h 17) 15, ishr .u8 (nth (.int .u8) h 18) 4, bitop .and .u8 (nth (.int .u8) h 18) 15, ishr .u8 (nth (.int .u8) h 19) 4, bitop .and .u8 (nth (.int .u8) h 19) 15, ishr .u8 (nth (.int .u8) h 20) 4, bitop .and .u8 (nth (.int .u8) h 20) 15, ishr .u8 (nth (.int .u8) h 21) 4, bitop .and .u8 (nth (.int .u8) h 21) 15, ishr .u8 (nth (.int .u8) h 22) 4, bitop .and .u8 (nth (.int .u8) h 22) 15, ishr .u8 (nth (.int .u8) h 23) 4, bitop .and .u8 (nth (.int .u8) h 23) 15, ishr .u8 (nth (.int .u8) h 24) 4, bitop .and .u8 (nth (.int .u8) h 24) 15, ishr .u8 (nth (.int .u8) h 25) 4, bitop .and .u8 (nth (.int .u8) h 25) 15, ishr .u8 (nth (.int .u8) h 26) 4, bitop .and .u8 (nth (.int .u8) h 26) 15, ishr .u8 (nth (.int .u8) h 27) 4, bitop .and .u8 (nth (.int .u8) h 27) 15, ishr .u8 (nth (.int .u8) h 28) 4, bitop .and .u8 (nth (.int .u8) h 28) 15, ishr .u8 (nth (.int .u8) h 29) 4, bitop .and .u8 (nth (.int .u8) h 29) 15, ishr .u8 (nth (.int .u8) h 30) 4, bitop .and .u8 (nth (.int .u8) h 30) 15, ishr .u8 (nth (.int .u8) h 31) 4, bitop .and .u8 (nth (.int .u8) h 31) 15] 1 x1.1 (fun n l => obind (bstr.call (n, l)) fun x => some (hhex.out x.2))) none := by kernel_rfl
theorem hhex.ok : ∀ d, hhex.Pre d → arun Try.prog hhex.G hhex.an 34 Try.f28 (hhex.st d).1 (hhex.st d).2 some = some (hhex.out (hhex.add d (hhex.F d))) := by
  rintro h ⟨hl, hb⟩
  have hl : h.length = 32 := hl
  have e1 : ∀ i, i < 32 → ishr .u8 (nth (.int .u8) h i) 4 = nth (.int .u8) h i / 16 := fun i hi => shr4 (nth_byte hb (by omega))
  have e2 : ∀ i, i < 32 → bitop .and .u8 (nth (.int .u8) h i) 15 = nth (.int .u8) h i % 16 := fun i hi => and15 (nth_byte hb (by omega))
  have rr : ∀ x : Int, Byte x → (0 ≤ x / 16 ∧ x / 16 < 16) ∧ 0 ≤ x % 16 ∧ x % 16 < 16 := fun x ⟨h1, h2⟩ => by omega
  have r1 : ∀ i, i < 32 → 0 ≤ nth (.int .u8) h i / 16 ∧ nth (.int .u8) h i / 16 < 16 := fun i hi => (rr _ (nth_byte hb (by omega))).1
  have r2 : ∀ i, i < 32 → 0 ≤ nth (.int .u8) h i % 16 ∧ nth (.int .u8) h i % 16 < 16 := fun i hi => (rr _ (nth_byte hb (by omega))).2
  have hn := list_nth h 32 hl
  have hF : hexB h = (List.range 32).flatMap fun i => hx (nth (.int .u8) h i) := by
    unfold hexB
    conv => lhs; rw [hn]
    rw [List.flatMap_map]
  show arun _ _ _ _ _ _ _ _ = some (hhex.out (strOfBytes (hexB h)))
  rw [hF, hhex.eq2]
  simp (disch := omega) only [e1, e2]
  obtain ⟨f, hf⟩ : ∃ f : Nat → Int, f = nth (.int .u8) h := ⟨_, rfl⟩
  rw [← hf] at r1 r2 ⊢
  obtain ⟨cs, hcs, hlen, hin, hfl⟩ : ∃ cs : List Int, cs = [f 0 % 16, f 1 / 16, f 1 % 16, f 2 / 16, f 2 % 16, f 3 / 16, f 3 % 16, f 4 / 16, f 4 % 16, f 5 / 16, f 5 % 16, f 6 / 16, f 6 % 16, f 7 / 16, f 7 % 16, f 8 / 16, f 8 % 16, f 9 / 16, f 9 % 16, f 10 / 16, f 10 % 16, f 11 / 16, f 11 % 16, f 12 / 16, f 12 % 16, f 13 / 16, f 13 % 16, f 14 / 16, f 14 % 16, f 15 / 16, f 15 % 16, f 16 / 16, f 16 % 16, f 17 / 16, f 17 % 16, f 18 / 16, f 18 % 16, f 19 / 16, f 19 % 16, f 20 / 16, f 20 % 16, f 21 / 16, f 21 % 16, f 22 / 16, f 22 % 16, f 23 / 16, f 23 % 16, f 24 / 16, f 24 % 16, f 25 / 16, f 25 % 16, f 26 / 16, f 26 % 16, f 27 / 16, f 27 % 16, f 28 / 16, f 28 % 16, f 29 / 16, f 29 % 16, f 30 / 16, f 30 % 16, f 31 / 16, f 31 % 16] ∧ cs.length = 63 ∧ (∀ c ∈ cs, 0 ≤ c ∧ c < 16) ∧ [dch (f 0 / 16)] ++ cs.map dch = (List.range 32).flatMap fun i => hx (f i) := by
    refine ⟨_, rfl, rfl, ?_, rfl⟩
    simp (disch := omega) only [List.forall_mem_cons, List.not_mem_nil, false_implies, implies_true, and_true, r1, r2, and_self]
  rw [← hcs, inb_true (r1 0 (by omega)).1 (r1 0 (by omega)).2, bwb1.at]
  simp only [sel_true, obind_some]
  rw [chain_run cs 1 [dch (f 0 / 16)] _ hin rfl (by omega), hfl, hlen, bstr.run (show bstr.Pre (1 + 63, _) from ⟨by rw [← hfl, List.length_append, List.length_map, hlen]; rfl, by omega⟩)]
  rfl

theorem hhex.inj : ∀ d d', hhex.st d = hhex.st d' → d = d' := fun h h' hEq => by
  have e0 : h = h' := d_inj (t := (.arr 32 (.int .u8))) (congrArg (fun s : List AVal × List Ent => (s.1.getD 0 .undef)) hEq)
  rw [e0]
noncomputable def hhex.E : Entry := Entry.of [some (.arr 32 (.int .u8))] hhex.st hhex.Pre (fun d => hhex.add d (hhex.F d)) hhex.out
noncomputable def hhex.call : hhex.D → Option hhex.X := fun d => hhex.E.run (hhex.st d).1 (hhex.st d).2
theorem hhex.run {d : hhex.D} (h : hhex.Pre d) : hhex.call d = some (hhex.add d (hhex.F d)) := Entry.of_run hhex.inj h
theorem hhex.does : Does Try.prog 28 hhex.E := Does.of (by kernel_rfl) (show Sound _ hhex.G from Sound.cons bwb.does (Sound.cons bstr.does (Sound.nil _))) (by kernel_rfl) (by kernel_rfl) (by kernel_rfl) (LOk.fn 1 (by kernel_rfl) (And.intro (LDo.none (by kernel_rfl)) trivial)) hhex.ok

end Go.Ab
