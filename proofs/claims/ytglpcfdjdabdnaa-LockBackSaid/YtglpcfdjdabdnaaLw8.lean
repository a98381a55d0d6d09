/-
  Made by a program of mine (wip/gen), and by hand.
-/
import Derived.Test.YtglpcfdjdabdnaaLw3
import Derived.Test.YtglpcfdjdabdnaaLr2
namespace Go.Ab
open Go.Proofs
set_option maxRecDepth 100000
set_option linter.unusedVariables false
set_option linter.unusedSimpArgs false

/-! ### corsned/corsnedlaw12.LockBack -/
abbrev lockback.D := ((List ((List Int) × (Int × (Int × (Int × Unit))))) × Unit) × (List Int)
def lockback.st : lockback.D → List AVal × List Ent := fun (l, b) => ([.d (.pair (.slice (.pair (.slice (.int .u64)) (.pair (.int .i64) (.pair (.int .i64) (.pair (.int .u64) .unit))))) .unit) l, .d (.slice (.int .u8)) b], [])
abbrev lockback.Y := Bool
abbrev lockback.X := Bool
def lockback.out : lockback.X → GRes := fun x => ⟨.d .bool x, [], []⟩
def lockback.add : lockback.D → lockback.Y → lockback.X := fun (l, b) y => y


theorem bqq (b : Bool) : Ty.beq .bool b b = true := by cases b <;> rfl
theorem rowN_pos (n : Int) : 0 < (rowN n).length := by unfold rowN; rw [List.length_append]; exact Nat.succ_pos _
theorem lkB_pos {l : Lk} (h : lkOk l = true) : 0 < (lkB l).length := by
  rw [lkB_eq h, List.length_append]
  have := rowN_pos (l.1.length : Int)
  omega
def lockback.Pre : lockback.D → Prop := fun (l, b) => LkU l ∧ Bytes b
def lockback.F : lockback.D → lockback.Y := fun _ => true

noncomputable def lockback.G : Gam := gcons 8 anyArgs small12.E (gcons 9 anyArgs lfew.E (gcons 21 anyArgs lbytes.E (gcons 14 anyArgs lright.E (gcons 29 anyArgs lread.E (gcons 30 anyArgs lsame.E (gnil))))))
noncomputable def lockback.an : Ann := {
  objs := [51],
  loops := fun r => { keep := [], sites := [], frz := [], data := [], owns := [] },
  outs := fun r b => { keep := [], sites := [], frz := [], data := [], owns := [] },
  sums := fun r => none,
  owns := [],
  trim := [],
  res := [] }
theorem lockback.eq {R : Type} (l : ((List ((List Int) × (Int × (Int × (Int × Unit))))) × Unit)) (b : (List Int)) (k : GRes → Option R) : arun Try.prog lockback.G lockback.an 0 Try.f7 (lockback.st (l, b)).1 (lockback.st (l, b)).2 k =
  obind (small12.call ()) fun x4 =>
  obind (lfew.call l) fun x8 =>
  sel ((!x8)) (
   k (lockback.out x4)) (
   sel ((igt (((List.length b) : Nat) : Int) (1000 : Int))) (
    k (lockback.out x4)) (
    obind (lbytes.call l) fun x12 =>
    obind (lright.call l) fun x16 =>
    sel ((!(Ty.beq .bool x16 (igt (((List.length x12) : Nat) : Int) (0 : Int))))) (
     k (lockback.out false)) (
     sel ((igt (((List.length x12) : Nat) : Int) (0 : Int))) (
      obind (lread.call x12) fun x34 =>
      sel (inc (isub .i64 (((List.length x12) : Nat) : Int) (1 : Int)) (((List.length x12) : Nat) : Int)) (
      obind (lread.call (cut x12 0 ((Int.toNat (isub .i64 (((List.length x12) : Nat) : Int) (1 : Int))) - 0))) fun x38 =>
      sel (roomA (0 + (List.length x12)) 1) (
      sel (decide ((0 + (List.length x12)) ≤ (List.length ((List.take 0 (List.replicate 0 (0 : Int))) ++ x12)))) (
      sel (roomA ((0 + (List.length x12)) + 1) 1) (
      sel (decide (0 = 0 ∧ (0 + ((0 + (List.length x12)) + 1)) ≤ (List.length ((List.take (0 + (List.length x12)) ((List.take 0 (List.replicate 0 (0 : Int))) ++ x12)) ++ [(0 : Int)])))) (
      obind (lread.call (cut ((List.take (0 + (List.length x12)) ((List.take 0 (List.replicate 0 (0 : Int))) ++ x12)) ++ [(0 : Int)]) 0 ((0 + (List.length x12)) + 1))) fun x42 =>
      sel ((!x34.2)) (
       k (lockback.out false)) (
       obind (lsame.call (x34.1, l)) fun x44 =>
       sel ((!x44)) (
        k (lockback.out false)) (
        sel (x38.2) (
         k (lockback.out false)) (
         sel (x42.2) (
          k (lockback.out false)) (
          obind (lread.call b) fun x48 =>
          sel (x4) (
           sel ((!x48.2)) (
            sel (x48.2) (
             k (lockback.out true)) (
             k (lockback.out (ieq (((List.length x48.1.1) : Nat) : Int) (0 : Int))))) (
            obind (lright.call x48.1) fun x51 =>
            sel (x51) (
             obind (lbytes.call x48.1) fun x52 =>
             sel ((seq (strOfBytes x52) (strOfBytes b))) (
              sel (x48.2) (
               k (lockback.out true)) (
               k (lockback.out (ieq (((List.length x48.1.1) : Nat) : Int) (0 : Int))))) (
              k (lockback.out false))) (
             k (lockback.out false)))) (
           k (lockback.out false))))))) none) none) none) none) none) (
      obind (lread.call b) fun x56 =>
      sel (x4) (
       sel ((!x56.2)) (
        sel (x56.2) (
         k (lockback.out true)) (
         k (lockback.out (ieq (((List.length x56.1.1) : Nat) : Int) (0 : Int))))) (
        obind (lright.call x56.1) fun x59 =>
        sel (x59) (
         obind (lbytes.call x56.1) fun x60 =>
         sel ((seq (strOfBytes x60) (strOfBytes b))) (
          sel (x56.2) (
           k (lockback.out true)) (
           k (lockback.out (ieq (((List.length x56.1.1) : Nat) : Int) (0 : Int))))) (
          k (lockback.out false))) (
         k (lockback.out false)))) (
       k (lockback.out false)))))) := by kernel_rfl


theorem lockback.ok : ∀ d, lockback.Pre d → arun Try.prog lockback.G lockback.an 0 Try.f7 (lockback.st d).1 (lockback.st d).2 some = some (lockback.out (lockback.add d (lockback.F d))) := by
  rintro ⟨l, b⟩ ⟨hl, hb⟩
  have hl : LkU l := hl
  have hb : Bytes b := hb
  rw [lockback.eq, small12.run (d := ()) trivial, lfew.run (d := l) trivial]
  simp only [obind_some, small12.add, small12.F, lfew.add, lfew.F, lockback.add, lockback.F]
  cases hf : fewL l
  · rfl
  have h6 : l.1.length ≤ 6 := by
    unfold fewL at hf
    rw [Bool.and_eq_true, decide_eq_true_eq] at hf
    exact hf.2
  have hs : ShortK l := by
    refine ⟨by omega, fun x hx => ?_⟩
    unfold fewL fewKeys at hf
    rw [Bool.and_eq_true, List.all_eq_true] at hf
    have := hf.1 x (by rw [List.take_of_length_le (by omega)]; exact hx)
    rw [decide_eq_true_eq] at this
    omega
  by_cases hk : b.length > 1000
  · rw [igt_true (by omega)]; rfl
  rw [igt_false (by omega), lbytes.run (d := l) ⟨hl, by show l.1.length ≤ _; omega⟩, lright.run (d := l) ⟨hl, by show l.1.length ≤ _; omega⟩]
  simp only [Bool.not_true, sel_false, obind_some, lbytes.add, lbytes.F, lright.add, lright.F]
  have tail : (obind (lread.call b) fun x => sel (!x.2) (sel x.2 (some (lockback.out true)) (some (lockback.out (ieq ((x.1.1.length : Nat) : Int) 0)))) (obind (lright.call x.1) fun y => sel y (obind (lbytes.call x.1) fun z => sel (seq (strOfBytes z) (strOfBytes b)) (sel x.2 (some (lockback.out true)) (some (lockback.out (ieq ((x.1.1.length : Nat) : Int) 0)))) (some (lockback.out false))) (some (lockback.out false)))) = some (lockback.out true) := by
    rw [lread.run (d := b) ⟨hb, by show b.length ≤ _; omega⟩]
    simp only [obind_some, lread.add, lread.F]
    cases hr : (readL b).2
    · rw [readL_no hr]; rfl
    · obtain ⟨x, hx, hxb, he, hxe⟩ := readL_is hr
      have hxu := readC_u hb (by omega)
      rw [← hxe] at hxu
      have hx5 : x.1.length ≤ 5 := by have e : x.1 = readC b := (by rw [hxe]); rw [e]; exact hxu.2
      simp only [Bool.not_true, sel_false, sel_true]
      rw [he]
      simp only []
      rw [lright.run (d := x) ⟨hxu.1, by show x.1.length ≤ _; omega⟩, lbytes.run (d := x) ⟨hxu.1, by show x.1.length ≤ _; omega⟩]
      simp only [obind_some, lright.add, lright.F, hx, sel_true, lbytes.add, lbytes.F, hxb, seq_same]
  cases hok : lkOk l
  · have e0 : lkB l = [] := by unfold lkB; rw [hok, if_neg (by decide)]
    simp only [e0, List.length_nil]
    have g0 : igt ((0 : Nat) : Int) 0 = false := rfl
    rw [g0, bqq, Bool.not_true, sel_false, sel_false]
    exact tail
  · have hp := lkB_pos hok
    have hlen := lkB_len l
    have hB := lkB_bytes l
    have g1 : igt (((lkB l).length : Nat) : Int) 0 = true := igt_true (by omega)
    have e0 : (List.take 0 (List.replicate 0 0) : List Int) = [] := rfl
    have t1 : cut (lkB l) 0 ((lkB l).length - 1) = (lkB l).take ((lkB l).length - 1) := rfl
    have t2 : cut (lkB l ++ [0]) 0 ((lkB l).length + 1) = lkB l ++ [0] := cut_len (by rw [List.length_append]; rfl)
    have b1 : Bytes ((lkB l).take ((lkB l).length - 1)) := fun x hx => hB x (List.mem_of_mem_take hx)
    have b2 : Bytes (lkB l ++ [0]) := bytes_app hB fun x hx => by rw [List.mem_singleton] at hx; subst hx; exact ⟨Int.le_refl 0, by decide⟩
    have l1 : ((lkB l).take ((lkB l).length - 1)).length = (lkB l).length - 1 := by rw [List.length_take]; omega
    have l2 : (lkB l ++ [0]).length = (lkB l).length + 1 := by rw [List.length_append]; rfl
    have r1 : readL (lkB l) = (l, true) := readL_law hl hok
    have r2 : readL ((lkB l).take ((lkB l).length - 1)) = (([], ()), false) := readL_other hl hok (r1 := []) (r2 := (lkB l).drop ((lkB l).length - 1)) b1 (by omega) (by rw [List.append_nil, List.take_append_drop]) (by omega)
    have r3 : readL (lkB l ++ [0]) = (([], ()), false) := readL_other hl hok (r1 := [0]) (r2 := []) b2 (by omega) (by rw [List.append_nil]) (by omega)
    rw [g1, bqq, Bool.not_true, sel_false, sel_true, lread.run (d := lkB l) ⟨hB, by show (lkB l).length ≤ _; omega⟩]
    simp only [obind_some, lread.add, lread.F, r1]
    rw [show isub .i64 (((lkB l).length : Nat) : Int) 1 = (((lkB l).length - 1 : Nat) : Int) from N.sNL (by show 1 ≤ _; omega) (by omega), inc_true (by omega) (by omega), Int.toNat_natCast, Nat.sub_zero, t1, lread.run (d := (lkB l).take ((lkB l).length - 1)) ⟨b1, by show ((lkB l).take ((lkB l).length - 1)).length ≤ _; omega⟩]
    simp only [sel_true, obind_some, lread.add, lread.F, r2, e0, List.nil_append, Nat.zero_add, Nat.le_refl, decide_true, List.take_length]
    rw [room_true (by omega) (by omega), room_true (by omega) (by omega), dec_true ⟨by trivial, by omega⟩, t2, lread.run (d := lkB l ++ [0]) ⟨b2, by show (lkB l ++ [0]).length ≤ _; omega⟩]
    simp only [sel_true, obind_some, lread.add, lread.F, r3, Bool.not_true, sel_false]
    rw [lsame.run (d := (l, l)) hs]
    simp only [obind_some, lsame.add, lsame.F, decide_true, Bool.not_true, sel_false]
    exact tail

theorem lockback.inj : ∀ d d', lockback.st d = lockback.st d' → d = d' := fun (l, b) (l', b') hEq => by
  have e0 : l = l' := d_inj (t := (.pair (.slice (.pair (.slice (.int .u64)) (.pair (.int .i64) (.pair (.int .i64) (.pair (.int .u64) .unit))))) .unit)) (congrArg (fun s : List AVal × List Ent => (s.1.getD 0 .undef)) hEq)
  have e1 : b = b' := d_inj (t := (.slice (.int .u8))) (congrArg (fun s : List AVal × List Ent => (s.1.getD 1 .undef)) hEq)
  rw [e0, e1]
noncomputable def lockback.E : Entry := Entry.of [some (.pair (.slice (.pair (.slice (.int .u64)) (.pair (.int .i64) (.pair (.int .i64) (.pair (.int .u64) .unit))))) .unit), some (.slice (.int .u8))] lockback.st lockback.Pre (fun d => lockback.add d (lockback.F d)) lockback.out
noncomputable def lockback.call : lockback.D → Option lockback.X := fun d => lockback.E.run (lockback.st d).1 (lockback.st d).2
theorem lockback.run {d : lockback.D} (h : lockback.Pre d) : lockback.call d = some (lockback.add d (lockback.F d)) := Entry.of_run lockback.inj h
theorem lockback.does : Does Try.prog 7 lockback.E := Does.of (by kernel_rfl) (show Sound _ lockback.G from Sound.cons small12.does (Sound.cons lfew.does (Sound.cons lbytes.does (Sound.cons lright.does (Sound.cons lread.does (Sound.cons lsame.does (Sound.nil _))))))) (by kernel_rfl) (by kernel_rfl) (by kernel_rfl) (LOk.fn 0 (by kernel_rfl) trivial) lockback.ok

end Go.Ab
