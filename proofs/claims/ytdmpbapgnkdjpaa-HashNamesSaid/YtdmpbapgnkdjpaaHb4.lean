/-
  Made by a program of mine (wip/gen), and by hand.
-/
import Derived.Test.YtdmpbapgnkdjpaaHb3
namespace Go.Ab
open Go.Proofs
set_option maxRecDepth 100000
set_option linter.unusedVariables false
set_option linter.unusedSimpArgs false

/-! ### internal/stringslite.IndexByte -/
abbrev sixb.D := ByteArray × Int
def sixb.st : sixb.D → List AVal × List Ent := fun (sv, c) => ([.d .str sv, .d (.int .u8) c], [])
abbrev sixb.Y := Int
abbrev sixb.X := Int
def sixb.out : sixb.X → GRes := fun x => ⟨.d (.int .i64) x, [], []⟩
def sixb.add : sixb.D → sixb.Y → sixb.X := fun (sv, c) y => y


def sixb.Pre : sixb.D → Prop := fun _ => True
def sixb.F : sixb.D → sixb.Y := fun (s, c) => firstIdx s c.toNat.toUInt8

noncomputable def sixb.G : Gam := gcons 57 anyArgs ixb.E (gnil)
noncomputable def sixb.an : Ann := {
  objs := [],
  loops := fun r => { keep := [], sites := [], frz := [], data := [], owns := [] },
  outs := fun r b => { keep := [], sites := [], frz := [], data := [], owns := [] },
  sums := fun r => none,
  owns := [],
  trim := [],
  res := [] }
theorem sixb.eq {R : Type} (sv : ByteArray) (c : Int) (k : GRes → Option R) : arun Try.prog sixb.G sixb.an 0 Try.f49 (sixb.st (sv, c)).1 (sixb.st (sv, c)).2 k =
  obind (ixb.call (sv, c)) fun x1 =>
  k (sixb.out x1) := by kernel_rfl


theorem sixb.ok : ∀ d, sixb.Pre d → arun Try.prog sixb.G sixb.an 0 Try.f49 (sixb.st d).1 (sixb.st d).2 some = some (sixb.out (sixb.add d (sixb.F d))) := by
  rintro ⟨s, c⟩ _
  rw [sixb.eq, ixb.run]
  rfl

theorem sixb.inj : ∀ d d', sixb.st d = sixb.st d' → d = d' := fun (sv, c) (sv', c') hEq => by
  have e0 : sv = sv' := d_inj (t := .str) (congrArg (fun s : List AVal × List Ent => (s.1.getD 0 .undef)) hEq)
  have e1 : c = c' := d_inj (t := (.int .u8)) (congrArg (fun s : List AVal × List Ent => (s.1.getD 1 .undef)) hEq)
  rw [e0, e1]
noncomputable def sixb.E : Entry := Entry.of [some .str, some (.int .u8)] sixb.st sixb.Pre (fun d => sixb.add d (sixb.F d)) sixb.out
noncomputable def sixb.call : sixb.D → Option sixb.X := fun d => sixb.E.run (sixb.st d).1 (sixb.st d).2
theorem sixb.run {d : sixb.D} (h : sixb.Pre d) : sixb.call d = some (sixb.add d (sixb.F d)) := Entry.of_run sixb.inj h
theorem sixb.does : Does Try.prog 49 sixb.E := Does.of (by kernel_rfl) (show Sound _ sixb.G from Sound.cons (ixb.of (fn := Try.f57) (by kernel_rfl) (by kernel_rfl) (by kernel_rfl) (by kernel_rfl) (by kernel_rfl)) (Sound.nil _)) (by kernel_rfl) (by kernel_rfl) (by kernel_rfl) (LOk.fn 0 (by kernel_rfl) trivial) sixb.ok

/-! ### strings.IndexByte -/
abbrev stixb.D := ByteArray × Int
def stixb.st : stixb.D → List AVal × List Ent := fun (sv, c) => ([.d .str sv, .d (.int .u8) c], [])
abbrev stixb.Y := Int
abbrev stixb.X := Int
def stixb.out : stixb.X → GRes := fun x => ⟨.d (.int .i64) x, [], []⟩
def stixb.add : stixb.D → stixb.Y → stixb.X := fun (sv, c) y => y


def stixb.Pre : stixb.D → Prop := fun _ => True
def stixb.F : stixb.D → stixb.Y := fun (s, c) => firstIdx s c.toNat.toUInt8

noncomputable def stixb.G : Gam := gcons 49 anyArgs sixb.E (gnil)
noncomputable def stixb.an : Ann := {
  objs := [],
  loops := fun r => { keep := [], sites := [], frz := [], data := [], owns := [] },
  outs := fun r b => { keep := [], sites := [], frz := [], data := [], owns := [] },
  sums := fun r => none,
  owns := [],
  trim := [],
  res := [] }
theorem stixb.eq {R : Type} (sv : ByteArray) (c : Int) (k : GRes → Option R) : arun Try.prog stixb.G stixb.an 0 Try.f37 (stixb.st (sv, c)).1 (stixb.st (sv, c)).2 k =
  obind (sixb.call (sv, c)) fun x1 =>
  k (stixb.out x1) := by kernel_rfl


theorem stixb.ok : ∀ d, stixb.Pre d → arun Try.prog stixb.G stixb.an 0 Try.f37 (stixb.st d).1 (stixb.st d).2 some = some (stixb.out (stixb.add d (stixb.F d))) := by
  rintro ⟨s, c⟩ _
  rw [stixb.eq, sixb.run (d := (s, c)) trivial]
  rfl

theorem stixb.inj : ∀ d d', stixb.st d = stixb.st d' → d = d' := fun (sv, c) (sv', c') hEq => by
  have e0 : sv = sv' := d_inj (t := .str) (congrArg (fun s : List AVal × List Ent => (s.1.getD 0 .undef)) hEq)
  have e1 : c = c' := d_inj (t := (.int .u8)) (congrArg (fun s : List AVal × List Ent => (s.1.getD 1 .undef)) hEq)
  rw [e0, e1]
noncomputable def stixb.E : Entry := Entry.of [some .str, some (.int .u8)] stixb.st stixb.Pre (fun d => stixb.add d (stixb.F d)) stixb.out
noncomputable def stixb.call : stixb.D → Option stixb.X := fun d => stixb.E.run (stixb.st d).1 (stixb.st d).2
theorem stixb.run {d : stixb.D} (h : stixb.Pre d) : stixb.call d = some (stixb.add d (stixb.F d)) := Entry.of_run stixb.inj h
theorem stixb.does : Does Try.prog 37 stixb.E := Does.of (by kernel_rfl) (show Sound _ stixb.G from Sound.cons sixb.does (Sound.nil _)) (by kernel_rfl) (by kernel_rfl) (by kernel_rfl) (LOk.fn 0 (by kernel_rfl) trivial) stixb.ok


/-- What is read of a text's bytes: place by place, of the first k. -/
def rdAt (b : List Int) (k i : Nat) : Int := if 2 * i + 1 < k then 16 * dv (b.getD (2 * i) 0) + dv (b.getD (2 * i + 1) 0) else if 2 * i < k then dv (b.getD (2 * i) 0) else 0
def rdK (b : List Int) (k : Nat) : List Int := (List.range 32).map (rdAt b k)
def digB (b : List Int) : Bool := b.all fun c => decide (0 ≤ dv c)
def readB (b : List Int) : List Int × Bool := if b.length = 64 ∧ digB b = true then (rdK b 64, true) else (List.replicate 32 0, false)
theorem rdK_length (b : List Int) (k : Nat) : (rdK b k).length = 32 := by simp [rdK]
theorem rdK_zero (b : List Int) : rdK b 0 = List.replicate 32 0 := by
  apply List.ext_getElem (by simp [rdK])
  intro i h1 h2
  simp only [rdK, List.getElem_map, List.getElem_range, List.getElem_replicate, rdAt]
  rw [if_neg (by omega), if_neg (by omega)]
theorem rdK_get (b : List Int) (k i : Nat) (h : i < 32) : nth (.int .u8) (rdK b k) i = rdAt b k i := by
  rw [nth_lt (t := .int .u8) (by rw [rdK_length]; exact h)]
  simp [rdK]
theorem rdK_step (b : List Int) (k : Nat) (h : k < 64) : rdK b (k + 1) = (rdK b k).set (k / 2) (16 * rdAt b k (k / 2) + dv (b.getD k 0)) := by
  apply List.ext_getElem (by simp [rdK])
  intro i h1 h2
  rw [rdK_length] at h1
  rw [List.getElem_set]
  simp only [rdK, List.getElem_map, List.getElem_range]
  by_cases hi : k / 2 = i
  · rw [if_pos hi]
    subst hi
    unfold rdAt
    rcases Nat.mod_two_eq_zero_or_one k with hm | hm
    · have e : 2 * (k / 2) = k := by omega
      rw [if_neg (by omega), if_pos (by omega), if_neg (by omega), if_neg (by omega), e]
      omega
    · have e : 2 * (k / 2) + 1 = k := by omega
      rw [if_pos (by omega), if_neg (by omega), if_pos (by omega), e]
  · rw [if_neg hi]
    unfold rdAt
    by_cases h3 : 2 * i + 1 < k
    · rw [if_pos (by omega), if_pos h3]
    · have h4 : ¬ 2 * i < k + 1 := by omega
      rw [if_neg (by omega), if_neg h4, if_neg h3, if_neg (by omega)]
/-- The half that is there already is a digit. -/
theorem rdAt_half {b : List Int} {k : Nat} (hd : digB (b.take k) = true) (hk : k < 64) (hb : Bytes b) (hl : b.length = 64) : 0 ≤ rdAt b k (k / 2) ∧ rdAt b k (k / 2) < 16 := by
  unfold rdAt
  rw [if_neg (by omega)]
  split
  · rename_i h2
    have hlt : 2 * (k / 2) < b.length := by omega
    have hm : b[2 * (k / 2)] ∈ b.take k := by
      have : (b.take k)[2 * (k / 2)]'(by rw [List.length_take]; omega) = b[2 * (k / 2)] := List.getElem_take
      rw [← this]
      exact List.getElem_mem _
    have h3 := List.all_eq_true.1 hd _ hm
    have h3 : 0 ≤ dv b[2 * (k / 2)] := by simpa using h3
    rw [List.getD_eq_getElem?_getD, List.getElem?_eq_getElem hlt, Option.getD_some]
    exact ⟨h3, (dch_dv (hb _ (List.getElem_mem _)) h3).1⟩
  · omega
theorem sidx_nat (s : ByteArray) (k : Nat) (h : k < s.size) : sidx s (k : Int) = (bytesOfStr s).getD k 0 := by
  unfold sidx bytesOfStr
  have h : k < s.data.toList.length := by simpa using h
  rw [Int.toNat_natCast, List.getD_eq_getElem?_getD, List.getD_eq_getElem?_getD, List.getElem?_map, List.getElem?_eq_getElem h]
  rfl
theorem bytes_of (s : ByteArray) : Bytes (bytesOfStr s) := by
  intro x hx
  unfold bytesOfStr at hx
  obtain ⟨u, _, rfl⟩ := List.mem_map.1 hx
  have := u.toNat_lt
  exact ⟨by omega, by omega⟩
theorem getD_byte {b : List Int} (hb : Bytes b) {k : Nat} (h : k < b.length) : Byte (b.getD k 0) := by
  rw [List.getD_eq_getElem?_getD, List.getElem?_eq_getElem h, Option.getD_some]
  exact hb _ (List.getElem_mem _)
theorem digB_take {b : List Int} {k : Nat} (h : k < b.length) : digB (b.take (k + 1)) = (digB (b.take k) && decide (0 ≤ dv (b.getD k 0))) := by
  unfold digB
  rw [List.take_succ_eq_append_getElem h, List.getD_eq_getElem?_getD, List.getElem?_eq_getElem h, List.all_append]
  simp only [List.all_cons, List.all_nil, Bool.and_true, Option.getD_some]
theorem digB_not {b : List Int} {k : Nat} (h : k < b.length) (hn : ¬ 0 ≤ dv (b.getD k 0)) : digB b = false := by
  rw [List.getD_eq_getElem?_getD, List.getElem?_eq_getElem h, Option.getD_some] at hn
  unfold digB
  rw [List.all_eq_false]
  exact ⟨b[k], List.getElem_mem _, by simpa using hn⟩

/-! ### corsned/hash.Read -/
abbrev hread.L0.D := ByteArray × Int × Int × (List Int)
def hread.L0.st : hread.L0.D → AS := fun (sv_2, t11, t12, n2) => ⟨[.d .str sv_2, .undef, .ptr (.new 2 0) 0 [] 0, .undef, .undef, .undef, .undef, .undef, .undef, .undef, .undef, .d (.int .i64) t11, .d (.int .i64) t12, .undef, .undef, .undef, .undef, .undef, .undef, .undef, .undef, .undef, .undef, .undef, .undef, .undef, .undef, .undef, .undef, .undef, .undef, .undef, .undef, .undef, .undef], [], [[], [], [.obj 0 false (.d (.arr 32 (.int .u8)) n2)], [], [], [], [], [], [], [], [], [], [], [], [], [], [], [], [], [], [], [], [], [], [], [], [], [], [], [], [], [], [], [], []]⟩
abbrev hread.L0.Y0 := (List Int)  -- n2
abbrev hread.L0.X0 := (List Int)
def hread.L0.ex0 : hread.L0.X0 → Exit × AS := fun x => (.ret, ⟨[.undef, .undef, .ptr (.new 2 0) 0 [] 0, .d .bool false, .undef, .undef, .undef, .undef, .undef, .undef, .undef, .undef, .undef, .undef, .undef, .undef, .undef, .undef, .undef, .undef, .undef, .undef, .undef, .undef, .undef, .undef, .undef, .undef, .undef, .undef, .undef, .undef, .undef, .undef, .undef], [], [[], [], [.obj 0 false (.d (.arr 32 (.int .u8)) x)], [], [], [], [], [], [], [], [], [], [], [], [], [], [], [], [], [], [], [], [], [], [], [], [], [], [], [], [], [], [], [], []]⟩)
abbrev hread.L0.Y1 := (List Int)  -- n2
abbrev hread.L0.X1 := (List Int)
def hread.L0.ex1 : hread.L0.X1 → Exit × AS := fun x => (.exit 0, ⟨[.undef, .undef, .ptr (.new 2 0) 0 [] 0, .undef, .undef, .undef, .undef, .undef, .undef, .undef, .undef, .undef, .undef, .undef, .undef, .undef, .undef, .undef, .undef, .undef, .undef, .undef, .undef, .undef, .undef, .undef, .undef, .undef, .undef, .undef, .undef, .undef, .undef, .undef, .undef], [], [[], [], [.obj 0 false (.d (.arr 32 (.int .u8)) x)], [], [], [], [], [], [], [], [], [], [], [], [], [], [], [], [], [], [], [], [], [], [], [], [], [], [], [], [], [], [], [], []]⟩)
abbrev hread.L0.X := (hread.L0.X0) ⊕ (hread.L0.X1)
abbrev hread.L0.Y := (hread.L0.Y0) ⊕ (hread.L0.Y1)
def hread.L0.out : hread.L0.X → Out (Exit × AS) := fun x => .br x.isLeft (.get x.getLeft? fun a => .ok (hread.L0.ex0 a)) (.get x.getRight? fun b => .ok (hread.L0.ex1 b))
def hread.L0.add : hread.L0.D → hread.L0.Y → hread.L0.X := fun (sv_2, t11, t12, n2) y => match y with | .inl y => .inl y | .inr z => .inr (z)
abbrev hread.D := ByteArray
def hread.st : hread.D → List AVal × List Ent := fun sv => ([.d .str sv], [])
abbrev hread.Y := (List Int) × Bool
abbrev hread.X := (List Int) × Bool
def hread.out : hread.X → GRes := fun x => ⟨.cons (.d (.arr 32 (.int .u8)) x.1) (.cons (.d .bool x.2) (.nil)), [], []⟩
def hread.add : hread.D → hread.Y → hread.X := fun sv y => y


def hread.L0.Pre : hread.L0.D → Prop := fun (s, m, i, l) => m = 64 ∧  s.size = 64 ∧ ∃ k : Nat, k ≤ 64 ∧ i = k ∧ digB ((bytesOfStr s).take k) = true ∧ l = rdK (bytesOfStr s) k
def hread.L0.F : hread.L0.D → hread.L0.Y := fun (s, m, i, l) => if digB (bytesOfStr s) = true then .inr (rdK (bytesOfStr s) 64) else .inl (List.replicate 32 0)
def hread.Pre : hread.D → Prop := fun _ => True
def hread.F : hread.D → hread.Y := fun s => readB (bytesOfStr s)

noncomputable def hread.G : Gam := gcons 37 anyArgs stixb.E (gnil)
noncomputable def hread.L0.E : LEntry := LEntry.of hread.L0.st hread.L0.Pre (fun d => hread.L0.add d (hread.L0.F d)) hread.L0.out
noncomputable def hread.L0.call : hread.L0.D → Option hread.L0.X := fun d => hread.L0.E.run (hread.L0.st d)
noncomputable def hread.an : Ann := {
  objs := [],
  loops := fun r => bif Nat.beq r 4 then { keep := [0, 2, 11, 12], sites := [2], frz := [], data := [], owns := [] } else { keep := [], sites := [], frz := [], data := [], owns := [] },
  outs := fun r b => bif Nat.beq r 4 then (bif b then { keep := [2, 3], sites := [2], frz := [], data := [], owns := [] } else { keep := [2], sites := [2], frz := [], data := [], owns := [] }) else { keep := [], sites := [], frz := [], data := [], owns := [] },
  sums := fun r => bif Nat.beq r 4 then some hread.L0.E else none,
  owns := [],
  trim := [],
  res := [] }
theorem hread.L0.inj : ∀ d d', hread.L0.st d = hread.L0.st d' → d = d' := fun (sv_2, t11, t12, n2) (sv_2', t11', t12', n2') hEq => by
  have e0 : sv_2 = sv_2' := d_inj (t := .str) (congrArg (fun s : AS => (s.slot 0)) hEq)
  have e1 : t11 = t11' := d_inj (t := (.int .i64)) (congrArg (fun s : AS => (s.slot 11)) hEq)
  have e2 : t12 = t12' := d_inj (t := (.int .i64)) (congrArg (fun s : AS => (s.slot 12)) hEq)
  have e3 : n2 = n2' := d_inj (t := (.arr 32 (.int .u8))) (congrArg (fun s : AS => (entC (s.ent (.new 2 0)))) hEq)
  rw [e0, e1, e2, e3]
theorem hread.L0.run {d : hread.L0.D} (h : hread.L0.Pre d) : hread.L0.call d = some (hread.L0.add d (hread.L0.F d)) := LEntry.of_run hread.L0.inj h
theorem hread.L0.byRounds (μ : hread.L0.D → Nat) (h : ∀ d, hread.L0.Pre d → (∃ d', hread.L0.Pre d' ∧ μ d' < μ d ∧ hread.L0.add d' (hread.L0.F d') = hread.L0.add d (hread.L0.F d) ∧ ∀ {R : Type} (kn : AS → Option R) (kx : Exit → AS → Option R), lround Try.prog hread.G hread.an 0 Try.f22 0 (hread.L0.st d) kn kx = kn (hread.L0.st d')) ∨ (∃ r, (hread.L0.out (hread.L0.add d (hread.L0.F d))).eval = some r ∧ ∀ {R : Type} (kn : AS → Option R) (kx : Exit → AS → Option R), lround Try.prog hread.G hread.an 0 Try.f22 0 (hread.L0.st d) kn kx = kx r.1 r.2)) : ∀ d, hread.L0.Pre d → ∃ n, lrun Try.prog hread.G hread.an 0 Try.f22 0 n (hread.L0.st d) (fun e s => some (e, s)) = (hread.L0.out (hread.L0.add d (hread.L0.F d))).eval := lrun_of (F := fun d => hread.L0.add d (hread.L0.F d)) (out := hread.L0.out) μ h
theorem hread.L0.step {R : Type} (sv_2 : ByteArray) (t11 : Int) (t12 : Int) (n2 : (List Int)) (kn : AS → Option R) (kx : Exit → AS → Option R) : lround Try.prog hread.G hread.an 0 Try.f22 0 (hread.L0.st (sv_2, t11, t12, n2)) kn kx =
  sel ((ilt t12 t11)) (
   sel (inb t12 (((ByteArray.size sv_2) : Nat) : Int)) (
   obind (stixb.call ((⟨#[48, 49, 50, 51, 52, 53, 54, 55, 56, 57, 97, 98, 99, 100, 101, 102]⟩ : ByteArray), (sidx sv_2 t12))) fun x1 =>
   sel ((ilt x1 (0 : Int))) (
    kx (hread.L0.ex0 (List.replicate 32 (0 : Int))).1 (hread.L0.ex0 (List.replicate 32 (0 : Int))).2) (
    sel (inb (iquo .i64 t12 (2 : Int)) (32 : Int)) (
    sel (decide ((Int.toNat (iquo .i64 t12 (2 : Int))) < (List.length n2))) (
    sel (decide ((((Int.toNat (iquo .i64 t12 (2 : Int))) * 1) + 0) = (0 + ((Int.toNat (iquo .i64 t12 (2 : Int))) * 1)))) (
    sel (inb (iquo .i64 t12 (2 : Int)) (32 : Int)) (
    sel (decide ((Int.toNat (iquo .i64 t12 (2 : Int))) < (List.length n2))) (
    sel (decide ((((Int.toNat (iquo .i64 t12 (2 : Int))) * 1) + 0) = (0 + ((Int.toNat (iquo .i64 t12 (2 : Int))) * 1)))) (
    sel (decide ((Int.toNat (iquo .i64 t12 (2 : Int))) < (List.length n2))) (
    kn (hread.L0.st (sv_2, t11, (iadd .i64 t12 (1 : Int)), (List.set n2 (Int.toNat (iquo .i64 t12 (2 : Int))) (bitop .or .u8 (ishl .u8 (nth (.int .u8) n2 (Int.toNat (iquo .i64 t12 (2 : Int)))) (4 : Int)) (icv .u8 x1)))))) none) none) none) none) none) none) none)) none) (
   kx (hread.L0.ex1 n2).1 (hread.L0.ex1 n2).2) := by kernel_rfl
theorem hread.eq {R : Type} (sv : ByteArray) (k : GRes → Option R) : arun Try.prog hread.G hread.an 0 Try.f22 (hread.st sv).1 (hread.st sv).2 k =
  sel ((ine (((ByteArray.size sv) : Nat) : Int) (64 : Int))) (
   k (hread.out ((List.replicate 32 (0 : Int)), false))) (
   obind (hread.L0.call (sv, (((ByteArray.size sv) : Nat) : Int), (0 : Int), (List.replicate 32 (0 : Int)))) fun x2 =>
   sel (x2.isLeft) (
    obind (x2.getLeft?) fun a3 =>
    k (hread.out (a3, false))) (
    obind (x2.getRight?) fun b4 =>
    k (hread.out (b4, true)))) := by kernel_rfl


theorem hread.L0.ok : ∀ d, hread.L0.Pre d → ∃ n, lrun Try.prog hread.G hread.an 0 Try.f22 0 n (hread.L0.st d) (fun e s => some (e, s)) = (hread.L0.out (hread.L0.add d (hread.L0.F d))).eval := by
  refine hread.L0.byRounds (fun (s, m, i, l) => 64 - i.toNat) ?_
  rintro ⟨s, m, i, l⟩ ⟨rfl, hs, k, hk, rfl, hd, rfl⟩
  have hs : s.size = 64 := hs
  have hl : (bytesOfStr s).length = 64 := by rw [bytesOfStr_length]; exact hs
  have hb := bytes_of s
  have hrl := rdK_length (bytesOfStr s) k
  by_cases hlt : k < 64
  · have hbk := getD_byte hb (k := k) (by omega)
    have hsi := sidx_nat s k (by omega)
    by_cases hdk : 0 ≤ dv ((bytesOfStr s).getD k 0)
    · left
      obtain ⟨d1, d2⟩ := dch_dv hbk hdk
      obtain ⟨a1, a2⟩ := rdAt_half hd hlt hb hl
      refine ⟨(s, 64, ((k + 1 : Nat) : Int), rdK (bytesOfStr s) (k + 1)), ⟨rfl, hs, k + 1, by omega, rfl, ?_, rfl⟩, by simp only [Int.toNat_natCast]; omega, rfl, fun kn kx => ?_⟩
      · rw [digB_take (by omega), hd, dec_true hdk]; rfl
      · rw [hread.L0.step, hsi]
        have e1 : stixb.call (digs, (bytesOfStr s).getD k 0) = some (dv ((bytesOfStr s).getD k 0)) := by
          rw [stixb.run (d := (digs, (bytesOfStr s).getD k 0)) trivial, ← idx_dv hbk]; rfl
        change sel _ (sel _ (obind (stixb.call (digs, (bytesOfStr s).getD k 0)) _) _) _ = _
        rw [e1, rdK_step _ k hlt, ← or16 a1 a2 hdk d1, ← rdK_get _ k (k / 2) (by omega)]
        simp (disch := omega) only [↓N.lt, ↓N.le, ↓N.gt, ↓N.ge, ↓N.eq, ↓N.ne, ↓N.ib, ↓N.ic, ↓N.nn, ↓N.nz, ↓N.dc, ↓N.rm, ↓N.an, ↓N.or, ↓N.no, ↓if_pos, ↓if_neg, ↓sel_true, ↓sel_false, ↓obind_some, if_pos, if_neg, obind_some, N.aNN, N.aNL, N.aLN, N.sNN, N.sNL, N.sLN, N.mNN, N.mNL, N.mLN, N.qNN, N.qNL, N.rNN, N.rNL, N.cN, N.cL, N.tL, Int.toNat_natCast, if_true, if_false, and_self, true_and, and_true, hs, hrl, Nat.mul_one, Nat.add_zero, Nat.zero_add]
    · right
      refine ⟨(hread.L0.ex0 (List.replicate 32 0)), ?_, fun kn kx => ?_⟩
      · simp only [hread.L0.add, hread.L0.F, digB_not (by omega : k < (bytesOfStr s).length) hdk, Bool.false_eq_true, if_false]
        rfl
      · have hm1 : dv ((bytesOfStr s).getD k 0) = -1 := by rcases dv_cases hbk with h1 | h1; exact h1; omega
        rw [hread.L0.step, hsi]
        have e1 : stixb.call (digs, (bytesOfStr s).getD k 0) = some (dv ((bytesOfStr s).getD k 0)) := by
          rw [stixb.run (d := (digs, (bytesOfStr s).getD k 0)) trivial, ← idx_dv hbk]; rfl
        change sel _ (sel _ (obind (stixb.call (digs, (bytesOfStr s).getD k 0)) _) _) _ = _
        rw [e1, hm1]
        simp (disch := omega) only [↓N.lt, ↓N.le, ↓N.gt, ↓N.ge, ↓N.eq, ↓N.ne, ↓N.ib, ↓N.ic, ↓N.nn, ↓N.nz, ↓N.dc, ↓N.rm, ↓N.an, ↓N.or, ↓N.no, ↓if_pos, ↓if_neg, ↓sel_true, ↓sel_false, ↓obind_some, if_pos, if_neg, obind_some, N.aNN, N.aNL, N.aLN, N.sNN, N.sNL, N.sLN, N.mNN, N.mNL, N.mLN, N.qNN, N.qNL, N.rNN, N.rNL, N.cN, N.cL, N.tL, Int.toNat_natCast, if_true, if_false, and_self, true_and, and_true, hs]
  · right
    obtain rfl : k = 64 := by omega
    rw [List.take_of_length_le (by omega)] at hd
    refine ⟨hread.L0.ex1 (rdK (bytesOfStr s) 64), ?_, fun kn kx => ?_⟩
    · simp only [hread.L0.add, hread.L0.F, hd, if_true]
      rfl
    · rw [hread.L0.step]
      simp (disch := omega) only [↓N.lt, ↓N.le, ↓N.gt, ↓N.ge, ↓N.eq, ↓N.ne, ↓N.ib, ↓N.ic, ↓N.nn, ↓N.nz, ↓N.dc, ↓N.rm, ↓N.an, ↓N.or, ↓N.no, ↓if_pos, ↓if_neg, ↓sel_true, ↓sel_false, ↓obind_some, if_pos, if_neg, obind_some, N.aNN, N.aNL, N.aLN, N.sNN, N.sNL, N.sLN, N.mNN, N.mNL, N.mLN, N.qNN, N.qNL, N.rNN, N.rNL, N.cN, N.cL, N.tL, Int.toNat_natCast, if_true, if_false, and_self, true_and, and_true]
theorem hread.ok : ∀ d, hread.Pre d → arun Try.prog hread.G hread.an 0 Try.f22 (hread.st d).1 (hread.st d).2 some = some (hread.out (hread.add d (hread.F d))) := by
  intro s _
  have hl : (bytesOfStr s).length = s.size := bytesOfStr_length s
  simp only [hread.add, hread.F, readB]
  rw [hread.eq]
  by_cases hs : s.size = 64
  · have p1 : hread.L0.Pre (s, 64, 0, List.replicate 32 0) := ⟨rfl, hs, 0, by omega, rfl, rfl, (rdK_zero _).symm⟩
    rw [hs] at hl ⊢
    rw [show (((64 : Nat) : Nat) : Int) = 64 from rfl]
    simp (disch := omega) only [↓N.lt, ↓N.le, ↓N.gt, ↓N.ge, ↓N.eq, ↓N.ne, ↓N.ib, ↓N.ic, ↓N.nn, ↓N.nz, ↓N.dc, ↓N.rm, ↓N.an, ↓N.or, ↓N.no, ↓if_pos, ↓if_neg, ↓sel_true, ↓sel_false, ↓obind_some, if_pos, if_neg, obind_some, N.aNN, N.aNL, N.aLN, N.sNN, N.sNL, N.sLN, N.mNN, N.mNL, N.mLN, N.qNN, N.qNL, N.rNN, N.rNL, N.cN, N.cL, N.tL, Int.toNat_natCast, if_true, if_false, and_self, true_and, and_true, hread.L0.run p1, hread.L0.add, hread.L0.F, hl]
    by_cases hd : digB (bytesOfStr s) = true
    · simp only [hd, if_true]; rfl
    · simp only [hd, Bool.false_eq_true, if_false]; rfl
  · rw [if_neg (by omega)]
    simp (disch := omega) only [↓N.lt, ↓N.le, ↓N.gt, ↓N.ge, ↓N.eq, ↓N.ne, ↓N.ib, ↓N.ic, ↓N.nn, ↓N.nz, ↓N.dc, ↓N.rm, ↓N.an, ↓N.or, ↓N.no, ↓if_pos, ↓if_neg, ↓sel_true, ↓sel_false, ↓obind_some, if_pos, if_neg, obind_some, N.aNN, N.aNL, N.aLN, N.sNN, N.sNL, N.sLN, N.mNN, N.mNL, N.mLN, N.qNN, N.qNL, N.rNN, N.rNL, N.cN, N.cL, N.tL, Int.toNat_natCast, if_true, if_false, and_self, true_and, and_true]

theorem hread.inj : ∀ d d', hread.st d = hread.st d' → d = d' := fun sv sv' hEq => by
  have e0 : sv = sv' := d_inj (t := .str) (congrArg (fun s : List AVal × List Ent => (s.1.getD 0 .undef)) hEq)
  rw [e0]
noncomputable def hread.E : Entry := Entry.of [some .str] hread.st hread.Pre (fun d => hread.add d (hread.F d)) hread.out
noncomputable def hread.call : hread.D → Option hread.X := fun d => hread.E.run (hread.st d).1 (hread.st d).2
theorem hread.run {d : hread.D} (h : hread.Pre d) : hread.call d = some (hread.add d (hread.F d)) := Entry.of_run hread.inj h
theorem hread.does : Does Try.prog 22 hread.E := Does.of (by kernel_rfl) (show Sound _ hread.G from Sound.cons stixb.does (Sound.nil _)) (by kernel_rfl) (by kernel_rfl) (by kernel_rfl) (LOk.fn 1 (by kernel_rfl) (And.intro (LDo.of (by kernel_rfl) hread.L0.ok) trivial)) hread.ok

/-! ### corsned/corsnedref04.digit -/
abbrev rdigit.D := Int
def rdigit.st : rdigit.D → List AVal × List Ent := fun c => ([.d (.int .u8) c], [])
abbrev rdigit.Y := Int
abbrev rdigit.X := Int
def rdigit.out : rdigit.X → GRes := fun x => ⟨.d (.int .i64) x, [], []⟩
def rdigit.add : rdigit.D → rdigit.Y → rdigit.X := fun c y => y


def rdigit.Pre : rdigit.D → Prop := fun c => Byte c
def rdigit.F : rdigit.D → rdigit.Y := fun c => if dv c = -1 then 16 else dv c

noncomputable def rdigit.G : Gam := gnil
noncomputable def rdigit.an : Ann := {
  objs := [],
  loops := fun r => { keep := [], sites := [], frz := [], data := [], owns := [] },
  outs := fun r b => { keep := [], sites := [], frz := [], data := [], owns := [] },
  sums := fun r => none,
  owns := [],
  trim := [],
  res := [] }
theorem rdigit.eq {R : Type} (c : Int) (k : GRes → Option R) : arun Try.prog rdigit.G rdigit.an 0 Try.f38 (rdigit.st c).1 (rdigit.st c).2 k =
  sel ((ige c (48 : Int))) (
   sel ((ile c (57 : Int))) (
    k (rdigit.out (icv .i64 (isub .u8 c (48 : Int))))) (
    sel ((ige c (97 : Int))) (
     sel ((ile c (102 : Int))) (
      k (rdigit.out (iadd .i64 (icv .i64 (isub .u8 c (97 : Int))) (10 : Int)))) (
      k (rdigit.out (16 : Int)))) (
     k (rdigit.out (16 : Int))))) (
   sel ((ige c (97 : Int))) (
    sel ((ile c (102 : Int))) (
     k (rdigit.out (iadd .i64 (icv .i64 (isub .u8 c (97 : Int))) (10 : Int)))) (
     k (rdigit.out (16 : Int)))) (
    k (rdigit.out (16 : Int)))) := by kernel_rfl


theorem rdigit.ok : ∀ d, rdigit.Pre d → arun Try.prog rdigit.G rdigit.an 0 Try.f38 (rdigit.st d).1 (rdigit.st d).2 some = some (rdigit.out (rdigit.add d (rdigit.F d))) := by
  rintro c ⟨h1, h2⟩
  have h1 : 0 ≤ c := h1
  have h2 : c < 256 := h2
  obtain ⟨n, rfl⟩ := Int.eq_ofNat_of_zero_le h1
  have s1 : ∀ k : Nat, k ≤ n → isub .u8 (n : Int) (k : Int) = ((n - k : Nat) : Int) := fun k hk => by unfold isub; rw [wrap_u8, vw_ofInt]; omega
  have s48 : 48 ≤ n → isub .u8 (n : Int) 48 = ((n - 48 : Nat) : Int) := s1 48
  have s97 : 97 ≤ n → isub .u8 (n : Int) 97 = ((n - 97 : Nat) : Int) := s1 97
  show arun _ _ _ _ _ _ _ _ = some (rdigit.out (if dv (n : Int) = -1 then 16 else dv (n : Int)))
  rw [rdigit.eq]
  by_cases a1 : 48 ≤ n ∧ n ≤ 57
  · have e : dv (n : Int) = ((n - 48 : Nat) : Int) := by unfold dv; rw [if_pos (by omega)]; omega
    rw [if_neg (by omega), e]
    simp (disch := omega) only [↓N.lt, ↓N.le, ↓N.gt, ↓N.ge, ↓N.eq, ↓N.ne, ↓N.ib, ↓N.ic, ↓N.nn, ↓N.nz, ↓N.dc, ↓N.rm, ↓N.an, ↓N.or, ↓N.no, ↓if_pos, ↓if_neg, ↓sel_true, ↓sel_false, ↓obind_some, if_pos, if_neg, obind_some, N.aNN, N.aNL, N.aLN, N.sNN, N.sNL, N.sLN, N.mNN, N.mNL, N.mLN, N.qNN, N.qNL, N.rNN, N.rNL, N.cN, N.cL, N.tL, Int.toNat_natCast, if_true, if_false, and_self, true_and, and_true, s48]
  · by_cases a2 : 97 ≤ n ∧ n ≤ 102
    · have e : dv (n : Int) = ((n - 97 + 10 : Nat) : Int) := by unfold dv; rw [if_neg (by omega), if_pos (by omega)]; omega
      rw [if_neg (by omega), e]
      by_cases a3 : 48 ≤ n
      · simp (disch := omega) only [↓N.lt, ↓N.le, ↓N.gt, ↓N.ge, ↓N.eq, ↓N.ne, ↓N.ib, ↓N.ic, ↓N.nn, ↓N.nz, ↓N.dc, ↓N.rm, ↓N.an, ↓N.or, ↓N.no, ↓if_pos, ↓if_neg, ↓sel_true, ↓sel_false, ↓obind_some, if_pos, if_neg, obind_some, N.aNN, N.aNL, N.aLN, N.sNN, N.sNL, N.sLN, N.mNN, N.mNL, N.mLN, N.qNN, N.qNL, N.rNN, N.rNL, N.cN, N.cL, N.tL, Int.toNat_natCast, if_true, if_false, and_self, true_and, and_true, s97]
      · omega
    · have e : dv (n : Int) = -1 := by unfold dv; rw [if_neg (by omega), if_neg (by omega)]
      rw [if_pos e]
      by_cases a3 : 48 ≤ n <;> by_cases a4 : 97 ≤ n <;> by_cases a5 : n ≤ 57 <;> by_cases a6 : n ≤ 102 <;> first | (exfalso; omega) | (simp (disch := omega) only [↓N.lt, ↓N.le, ↓N.gt, ↓N.ge, ↓N.eq, ↓N.ne, ↓N.ib, ↓N.ic, ↓N.nn, ↓N.nz, ↓N.dc, ↓N.rm, ↓N.an, ↓N.or, ↓N.no, ↓if_pos, ↓if_neg, ↓sel_true, ↓sel_false, ↓obind_some, if_pos, if_neg, obind_some, N.aNN, N.aNL, N.aLN, N.sNN, N.sNL, N.sLN, N.mNN, N.mNL, N.mLN, N.qNN, N.qNL, N.rNN, N.rNL, N.cN, N.cL, N.tL, Int.toNat_natCast, if_true, if_false, and_self, true_and, and_true])

theorem rdigit.inj : ∀ d d', rdigit.st d = rdigit.st d' → d = d' := fun c c' hEq => by
  have e0 : c = c' := d_inj (t := (.int .u8)) (congrArg (fun s : List AVal × List Ent => (s.1.getD 0 .undef)) hEq)
  rw [e0]
noncomputable def rdigit.E : Entry := Entry.of [some (.int .u8)] rdigit.st rdigit.Pre (fun d => rdigit.add d (rdigit.F d)) rdigit.out
noncomputable def rdigit.call : rdigit.D → Option rdigit.X := fun d => rdigit.E.run (rdigit.st d).1 (rdigit.st d).2
theorem rdigit.run {d : rdigit.D} (h : rdigit.Pre d) : rdigit.call d = some (rdigit.add d (rdigit.F d)) := Entry.of_run rdigit.inj h
theorem rdigit.does : Does Try.prog 38 rdigit.E := Does.of (by kernel_rfl) (show Sound _ rdigit.G from Sound.nil _) (by kernel_rfl) (by kernel_rfl) (by kernel_rfl) (LOk.fn 0 (by kernel_rfl) trivial) rdigit.ok

/-! ### corsned/corsnedref04.Read -/
abbrev rread.L0.D := ByteArray × Int × (List Int) × (List Int)
def rread.L0.st : rread.L0.D → AS := fun (sv_2, i, n2, n4) => ⟨[.d .str sv_2, .undef, .ptr (.new 2 0) 0 [] 0, .undef, .ptr (.new 4 0) 0 [] 0, .d (.int .i64) i, .undef, .undef, .undef, .undef, .undef, .undef, .undef, .undef, .undef, .undef, .undef, .undef, .undef, .undef, .undef, .undef, .undef, .undef, .undef, .undef, .undef, .undef, .undef, .undef, .undef, .undef, .undef, .undef], [], [[], [], [.obj 0 false (.d (.arr 32 (.int .u8)) n2)], [], [.obj 0 false (.d (.arr 32 (.int .u8)) n4)], [], [], [], [], [], [], [], [], [], [], [], [], [], [], [], [], [], [], [], [], [], [], [], [], [], [], [], [], []]⟩
abbrev rread.L0.Y0 := (List Int)  -- n2
abbrev rread.L0.X0 := (List Int)
def rread.L0.ex0 : rread.L0.X0 → Exit × AS := fun x => (.ret, ⟨[.undef, .undef, .ptr (.new 2 0) 0 [] 0, .d .bool false, .undef, .undef, .undef, .undef, .undef, .undef, .undef, .undef, .undef, .undef, .undef, .undef, .undef, .undef, .undef, .undef, .undef, .undef, .undef, .undef, .undef, .undef, .undef, .undef, .undef, .undef, .undef, .undef, .undef, .undef], [], [[], [], [.obj 0 false (.d (.arr 32 (.int .u8)) x)], [], [], [], [], [], [], [], [], [], [], [], [], [], [], [], [], [], [], [], [], [], [], [], [], [], [], [], [], [], [], []]⟩)
abbrev rread.L0.Y1 := (List Int)  -- n4
abbrev rread.L0.X1 := ((List Int)) × ((List Int))
def rread.L0.ex1 : rread.L0.X1 → Exit × AS := fun x => (.exit 0, ⟨[.undef, .undef, .ptr (.new 2 0) 0 [] 0, .undef, .ptr (.new 4 0) 0 [] 0, .undef, .undef, .undef, .undef, .undef, .undef, .undef, .undef, .undef, .undef, .undef, .undef, .undef, .undef, .undef, .undef, .undef, .undef, .undef, .undef, .undef, .undef, .undef, .undef, .undef, .undef, .undef, .undef, .undef], [], [[], [], [.obj 0 false (.d (.arr 32 (.int .u8)) x.1)], [], [.obj 0 false (.d (.arr 32 (.int .u8)) x.2)], [], [], [], [], [], [], [], [], [], [], [], [], [], [], [], [], [], [], [], [], [], [], [], [], [], [], [], [], []]⟩)
abbrev rread.L0.X := (rread.L0.X0) ⊕ (rread.L0.X1)
abbrev rread.L0.Y := (rread.L0.Y0) ⊕ (rread.L0.Y1)
def rread.L0.out : rread.L0.X → Out (Exit × AS) := fun x => .br x.isLeft (.get x.getLeft? fun a => .ok (rread.L0.ex0 a)) (.get x.getRight? fun b => .ok (rread.L0.ex1 b))
def rread.L0.add : rread.L0.D → rread.L0.Y → rread.L0.X := fun (sv_2, i, n2, n4) y => match y with | .inl y => .inl y | .inr z => .inr ((n2, z))
abbrev rread.D := ByteArray
def rread.st : rread.D → List AVal × List Ent := fun sv => ([.d .str sv], [])
abbrev rread.Y := (List Int) × Bool
abbrev rread.X := (List Int) × Bool
def rread.out : rread.X → GRes := fun x => ⟨.cons (.d (.arr 32 (.int .u8)) x.1) (.cons (.d .bool x.2) (.nil)), [], []⟩
def rread.add : rread.D → rread.Y → rread.X := fun sv y => y


def rread.L0.Pre : rread.L0.D → Prop := fun (s, i, z, l) => z = List.replicate 32 0 ∧  s.size = 64 ∧ ∃ k : Nat, k ≤ 64 ∧ i = k ∧ digB ((bytesOfStr s).take k) = true ∧ l = rdK (bytesOfStr s) k
def rread.L0.F : rread.L0.D → rread.L0.Y := fun (s, i, z, l) => if digB (bytesOfStr s) = true then .inr (rdK (bytesOfStr s) 64) else .inl (List.replicate 32 0)
def rread.Pre : rread.D → Prop := fun _ => True
def rread.F : rread.D → rread.Y := fun s => readB (bytesOfStr s)

noncomputable def rread.G : Gam := gcons 38 anyArgs rdigit.E (gnil)
noncomputable def rread.L0.E : LEntry := LEntry.of rread.L0.st rread.L0.Pre (fun d => rread.L0.add d (rread.L0.F d)) rread.L0.out
noncomputable def rread.L0.call : rread.L0.D → Option rread.L0.X := fun d => rread.L0.E.run (rread.L0.st d)
noncomputable def rread.an : Ann := {
  objs := [],
  loops := fun r => bif Nat.beq r 5 then { keep := [0, 2, 4, 5], sites := [2, 4], frz := [], data := [], owns := [] } else { keep := [], sites := [], frz := [], data := [], owns := [] },
  outs := fun r b => bif Nat.beq r 5 then (bif b then { keep := [2, 3], sites := [2], frz := [], data := [], owns := [] } else { keep := [2, 4], sites := [2, 4], frz := [], data := [], owns := [] }) else { keep := [], sites := [], frz := [], data := [], owns := [] },
  sums := fun r => bif Nat.beq r 5 then some rread.L0.E else none,
  owns := [],
  trim := [],
  res := [] }
theorem rread.L0.inj : ∀ d d', rread.L0.st d = rread.L0.st d' → d = d' := fun (sv_2, i, n2, n4) (sv_2', i', n2', n4') hEq => by
  have e0 : sv_2 = sv_2' := d_inj (t := .str) (congrArg (fun s : AS => (s.slot 0)) hEq)
  have e1 : i = i' := d_inj (t := (.int .i64)) (congrArg (fun s : AS => (s.slot 5)) hEq)
  have e2 : n2 = n2' := d_inj (t := (.arr 32 (.int .u8))) (congrArg (fun s : AS => (entC (s.ent (.new 2 0)))) hEq)
  have e3 : n4 = n4' := d_inj (t := (.arr 32 (.int .u8))) (congrArg (fun s : AS => (entC (s.ent (.new 4 0)))) hEq)
  rw [e0, e1, e2, e3]
theorem rread.L0.run {d : rread.L0.D} (h : rread.L0.Pre d) : rread.L0.call d = some (rread.L0.add d (rread.L0.F d)) := LEntry.of_run rread.L0.inj h
theorem rread.L0.byRounds (μ : rread.L0.D → Nat) (h : ∀ d, rread.L0.Pre d → (∃ d', rread.L0.Pre d' ∧ μ d' < μ d ∧ rread.L0.add d' (rread.L0.F d') = rread.L0.add d (rread.L0.F d) ∧ ∀ {R : Type} (kn : AS → Option R) (kx : Exit → AS → Option R), lround Try.prog rread.G rread.an 0 Try.f23 0 (rread.L0.st d) kn kx = kn (rread.L0.st d')) ∨ (∃ r, (rread.L0.out (rread.L0.add d (rread.L0.F d))).eval = some r ∧ ∀ {R : Type} (kn : AS → Option R) (kx : Exit → AS → Option R), lround Try.prog rread.G rread.an 0 Try.f23 0 (rread.L0.st d) kn kx = kx r.1 r.2)) : ∀ d, rread.L0.Pre d → ∃ n, lrun Try.prog rread.G rread.an 0 Try.f23 0 n (rread.L0.st d) (fun e s => some (e, s)) = (rread.L0.out (rread.L0.add d (rread.L0.F d))).eval := lrun_of (F := fun d => rread.L0.add d (rread.L0.F d)) (out := rread.L0.out) μ h
theorem rread.L0.step {R : Type} (sv_2 : ByteArray) (i : Int) (n2 : (List Int)) (n4 : (List Int)) (kn : AS → Option R) (kx : Exit → AS → Option R) : lround Try.prog rread.G rread.an 0 Try.f23 0 (rread.L0.st (sv_2, i, n2, n4)) kn kx =
  sel ((ilt i (64 : Int))) (
   sel (inb i (((ByteArray.size sv_2) : Nat) : Int)) (
   obind (rdigit.call (sidx sv_2 i)) fun x1 =>
   sel ((ieq x1 (16 : Int))) (
    kx (rread.L0.ex0 (List.replicate 32 (0 : Int))).1 (rread.L0.ex0 (List.replicate 32 (0 : Int))).2) (
    sel (inb (iquo .i64 i (2 : Int)) (32 : Int)) (
    sel (decide ((Int.toNat (iquo .i64 i (2 : Int))) < (List.length n4))) (
    sel (decide ((((Int.toNat (iquo .i64 i (2 : Int))) * 1) + 0) = (0 + ((Int.toNat (iquo .i64 i (2 : Int))) * 1)))) (
    sel (inb (iquo .i64 i (2 : Int)) (32 : Int)) (
    sel (decide ((Int.toNat (iquo .i64 i (2 : Int))) < (List.length n4))) (
    sel (decide ((((Int.toNat (iquo .i64 i (2 : Int))) * 1) + 0) = (0 + ((Int.toNat (iquo .i64 i (2 : Int))) * 1)))) (
    sel (decide ((Int.toNat (iquo .i64 i (2 : Int))) < (List.length n4))) (
    kn (rread.L0.st (sv_2, (iadd .i64 i (1 : Int)), n2, (List.set n4 (Int.toNat (iquo .i64 i (2 : Int))) (iadd .u8 (imul .u8 (16 : Int) (nth (.int .u8) n4 (Int.toNat (iquo .i64 i (2 : Int))))) (icv .u8 x1)))))) none) none) none) none) none) none) none)) none) (
   kx (rread.L0.ex1 (n2, n4)).1 (rread.L0.ex1 (n2, n4)).2) := by kernel_rfl
theorem rread.eq {R : Type} (sv : ByteArray) (k : GRes → Option R) : arun Try.prog rread.G rread.an 0 Try.f23 (rread.st sv).1 (rread.st sv).2 k =
  sel ((ine (((ByteArray.size sv) : Nat) : Int) (64 : Int))) (
   k (rread.out ((List.replicate 32 (0 : Int)), false))) (
   obind (rread.L0.call (sv, (0 : Int), (List.replicate 32 (0 : Int)), (List.replicate 32 (0 : Int)))) fun x2 =>
   sel (x2.isLeft) (
    obind (x2.getLeft?) fun a3 =>
    k (rread.out (a3, false))) (
    obind (x2.getRight?) fun b4 =>
    k (rread.out (b4.2, true)))) := by kernel_rfl


theorem rread.L0.ok : ∀ d, rread.L0.Pre d → ∃ n, lrun Try.prog rread.G rread.an 0 Try.f23 0 n (rread.L0.st d) (fun e s => some (e, s)) = (rread.L0.out (rread.L0.add d (rread.L0.F d))).eval := by
  refine rread.L0.byRounds (fun (s, i, z, l) => 64 - i.toNat) ?_
  rintro ⟨s, i, z, l⟩ ⟨rfl, hs, k, hk, rfl, hd, rfl⟩
  have hs : s.size = 64 := hs
  have hl : (bytesOfStr s).length = 64 := by rw [bytesOfStr_length]; exact hs
  have hb := bytes_of s
  have hrl := rdK_length (bytesOfStr s) k
  by_cases hlt : k < 64
  · have hbk := getD_byte hb (k := k) (by omega)
    have hsi := sidx_nat s k (by omega)
    by_cases hdk : 0 ≤ dv ((bytesOfStr s).getD k 0)
    · left
      obtain ⟨d1, d2⟩ := dch_dv hbk hdk
      obtain ⟨a1, a2⟩ := rdAt_half hd hlt hb hl
      refine ⟨(s, ((k + 1 : Nat) : Int), List.replicate 32 0, rdK (bytesOfStr s) (k + 1)), ⟨rfl, hs, k + 1, by omega, rfl, ?_, rfl⟩, by simp only [Int.toNat_natCast]; omega, rfl, fun kn kx => ?_⟩
      · rw [digB_take (by omega), hd, dec_true hdk]; rfl
      · rw [rread.L0.step, hsi]
        have e1 : rdigit.call ((bytesOfStr s).getD k 0) = some (if dv ((bytesOfStr s).getD k 0) = -1 then 16 else dv ((bytesOfStr s).getD k 0)) := rdigit.run (d := (bytesOfStr s).getD k 0) hbk
        rw [e1, if_neg (by omega), rdK_step _ k hlt, ← add16 a1 a2 hdk d1, ← rdK_get _ k (k / 2) (by omega)]
        simp (disch := omega) only [↓N.lt, ↓N.le, ↓N.gt, ↓N.ge, ↓N.eq, ↓N.ne, ↓N.ib, ↓N.ic, ↓N.nn, ↓N.nz, ↓N.dc, ↓N.rm, ↓N.an, ↓N.or, ↓N.no, ↓if_pos, ↓if_neg, ↓sel_true, ↓sel_false, ↓obind_some, if_pos, if_neg, obind_some, N.aNN, N.aNL, N.aLN, N.sNN, N.sNL, N.sLN, N.mNN, N.mNL, N.mLN, N.qNN, N.qNL, N.rNN, N.rNL, N.cN, N.cL, N.tL, Int.toNat_natCast, if_true, if_false, and_self, true_and, and_true, hs, hrl, Nat.mul_one, Nat.add_zero, Nat.zero_add]
    · right
      refine ⟨(rread.L0.ex0 (List.replicate 32 0)), ?_, fun kn kx => ?_⟩
      · simp only [rread.L0.add, rread.L0.F, digB_not (by omega : k < (bytesOfStr s).length) hdk, Bool.false_eq_true, if_false]
        rfl
      · have hm1 : dv ((bytesOfStr s).getD k 0) = -1 := by rcases dv_cases hbk with h1 | h1; exact h1; omega
        rw [rread.L0.step, hsi]
        have e1 : rdigit.call ((bytesOfStr s).getD k 0) = some (if dv ((bytesOfStr s).getD k 0) = -1 then 16 else dv ((bytesOfStr s).getD k 0)) := rdigit.run (d := (bytesOfStr s).getD k 0) hbk
        rw [e1, if_pos hm1]
        simp (disch := omega) only [↓N.lt, ↓N.le, ↓N.gt, ↓N.ge, ↓N.eq, ↓N.ne, ↓N.ib, ↓N.ic, ↓N.nn, ↓N.nz, ↓N.dc, ↓N.rm, ↓N.an, ↓N.or, ↓N.no, ↓if_pos, ↓if_neg, ↓sel_true, ↓sel_false, ↓obind_some, if_pos, if_neg, obind_some, N.aNN, N.aNL, N.aLN, N.sNN, N.sNL, N.sLN, N.mNN, N.mNL, N.mLN, N.qNN, N.qNL, N.rNN, N.rNL, N.cN, N.cL, N.tL, Int.toNat_natCast, if_true, if_false, and_self, true_and, and_true, hs]
  · right
    obtain rfl : k = 64 := by omega
    rw [List.take_of_length_le (by omega)] at hd
    refine ⟨rread.L0.ex1 (List.replicate 32 0, rdK (bytesOfStr s) 64), ?_, fun kn kx => ?_⟩
    · simp only [rread.L0.add, rread.L0.F, hd, if_true]
      rfl
    · rw [rread.L0.step]
      simp (disch := omega) only [↓N.lt, ↓N.le, ↓N.gt, ↓N.ge, ↓N.eq, ↓N.ne, ↓N.ib, ↓N.ic, ↓N.nn, ↓N.nz, ↓N.dc, ↓N.rm, ↓N.an, ↓N.or, ↓N.no, ↓if_pos, ↓if_neg, ↓sel_true, ↓sel_false, ↓obind_some, if_pos, if_neg, obind_some, N.aNN, N.aNL, N.aLN, N.sNN, N.sNL, N.sLN, N.mNN, N.mNL, N.mLN, N.qNN, N.qNL, N.rNN, N.rNL, N.cN, N.cL, N.tL, Int.toNat_natCast, if_true, if_false, and_self, true_and, and_true]
theorem rread.ok : ∀ d, rread.Pre d → arun Try.prog rread.G rread.an 0 Try.f23 (rread.st d).1 (rread.st d).2 some = some (rread.out (rread.add d (rread.F d))) := by
  intro s _
  have hl : (bytesOfStr s).length = s.size := bytesOfStr_length s
  simp only [rread.add, rread.F, readB]
  rw [rread.eq]
  by_cases hs : s.size = 64
  · have p1 : rread.L0.Pre (s, 0, List.replicate 32 0, List.replicate 32 0) := ⟨rfl, hs, 0, by omega, rfl, rfl, (rdK_zero _).symm⟩
    rw [hs] at hl ⊢
    rw [show (((64 : Nat) : Nat) : Int) = 64 from rfl]
    simp (disch := omega) only [↓N.lt, ↓N.le, ↓N.gt, ↓N.ge, ↓N.eq, ↓N.ne, ↓N.ib, ↓N.ic, ↓N.nn, ↓N.nz, ↓N.dc, ↓N.rm, ↓N.an, ↓N.or, ↓N.no, ↓if_pos, ↓if_neg, ↓sel_true, ↓sel_false, ↓obind_some, if_pos, if_neg, obind_some, N.aNN, N.aNL, N.aLN, N.sNN, N.sNL, N.sLN, N.mNN, N.mNL, N.mLN, N.qNN, N.qNL, N.rNN, N.rNL, N.cN, N.cL, N.tL, Int.toNat_natCast, if_true, if_false, and_self, true_and, and_true, rread.L0.run p1, rread.L0.add, rread.L0.F, hl]
    by_cases hd : digB (bytesOfStr s) = true
    · simp only [hd, if_true]; rfl
    · simp only [hd, Bool.false_eq_true, if_false]; rfl
  · rw [if_neg (by omega)]
    simp (disch := omega) only [↓N.lt, ↓N.le, ↓N.gt, ↓N.ge, ↓N.eq, ↓N.ne, ↓N.ib, ↓N.ic, ↓N.nn, ↓N.nz, ↓N.dc, ↓N.rm, ↓N.an, ↓N.or, ↓N.no, ↓if_pos, ↓if_neg, ↓sel_true, ↓sel_false, ↓obind_some, if_pos, if_neg, obind_some, N.aNN, N.aNL, N.aLN, N.sNN, N.sNL, N.sLN, N.mNN, N.mNL, N.mLN, N.qNN, N.qNL, N.rNN, N.rNL, N.cN, N.cL, N.tL, Int.toNat_natCast, if_true, if_false, and_self, true_and, and_true]

theorem rread.inj : ∀ d d', rread.st d = rread.st d' → d = d' := fun sv sv' hEq => by
  have e0 : sv = sv' := d_inj (t := .str) (congrArg (fun s : List AVal × List Ent => (s.1.getD 0 .undef)) hEq)
  rw [e0]
noncomputable def rread.E : Entry := Entry.of [some .str] rread.st rread.Pre (fun d => rread.add d (rread.F d)) rread.out
noncomputable def rread.call : rread.D → Option rread.X := fun d => rread.E.run (rread.st d).1 (rread.st d).2
theorem rread.run {d : rread.D} (h : rread.Pre d) : rread.call d = some (rread.add d (rread.F d)) := Entry.of_run rread.inj h
theorem rread.does : Does Try.prog 23 rread.E := Does.of (by kernel_rfl) (show Sound _ rread.G from Sound.cons rdigit.does (Sound.nil _)) (by kernel_rfl) (by kernel_rfl) (by kernel_rfl) (LOk.fn 1 (by kernel_rfl) (And.intro (LDo.of (by kernel_rfl) rread.L0.ok) trivial)) rread.ok

end Go.Ab
