/-
  Every operation of the abstract machine is sound.
-/
import Derived.Test.YtdmpbapgnkdjpaaAb17
namespace Go.Ab

section
variable {P : Program} {C : Ctx} {g : Nat → Lab} {β : Id → Option Pl} {s : AS} {a : Act} {w : World} {o : Oper}

theorem aop_runs {Γ : Gam} (hΓ : Sound P Γ) {objs : List Nat} (h : Inv C g β s a w) {s' : AS} (he : (aop P Γ objs o s).eval = some s') : Runs P o a w (Sts C s') := by
  unfold aop at he
  split at he
  · rename_i x hop
    obtain rfl := eval_ok.1 he
    exact move_runs h (.inl hop)
  · rename_i x hop
    obtain rfl := eval_ok.1 he
    exact move_runs h (.inr hop)
  · rename_i c x y hop
    obtain ⟨v, h1, h2⟩ := eval_bind.1 he
    obtain rfl := eval_ok.1 h2
    exact pick_runs h hop h1
  · rename_i T hop
    split at he
    · rename_i z q hz hq
      obtain ⟨h1, h2⟩ := eval_guard.1 he
      obtain rfl := eval_ok.1 h2
      simp only [Bool.and_eq_true] at h1
      exact alloc_runs h hop h1.1 h1.2
    · exact (eval_fail.1 he).elim
  · rename_i T x hop
    exact box_runs h hop he
  · rename_i T parts hop
    exact build_runs h hop he
  · rename_i T n parts hop
    exact buildSlice_runs h hop he
  · rename_i T x hop
    obtain ⟨v, h1, h2⟩ := eval_bind.1 he
    obtain rfl := eval_ok.1 h2
    exact load_runs h hop h1
  · rename_i T x v hop
    obtain ⟨v, h1, h2⟩ := eval_bind.1 he
    obtain rfl := eval_ok.1 h2
    exact store_runs h hop h1
  · rename_i x hop
    exact nilCheck_runs h hop he
  · rename_i op T x y U hop
    obtain ⟨v, h1, h2⟩ := eval_bind.1 he
    obtain rfl := eval_ok.1 h2
    exact binOp_runs h hop h1
  · rename_i op T x hop
    obtain ⟨v, h1, h2⟩ := eval_bind.1 he
    obtain rfl := eval_ok.1 h2
    exact unOp_runs h hop h1
  · rename_i T U x hop
    split at he
    · rename_i id ver len hTU hx
      exact convK_runs h hop hx he
    · obtain ⟨v, h1, h2⟩ := eval_bind.1 he
      obtain rfl := eval_ok.1 h2
      exact convert_runs h hop h1
  · rename_i T x hop
    exact toArr_runs h hop he
  · rename_i f first caps hop
    obtain ⟨h1, h2⟩ := eval_guard.1 he
    obtain rfl := eval_ok.1 h2
    simp only [Bool.and_eq_true] at h1
    exact makeFunc_runs h hop h1.1 h1.2
  · rename_i T l c hop
    obtain ⟨n, h1, h2⟩ := eval_bind.1 he
    obtain ⟨m, h3, h4⟩ := eval_bind.1 h2
    exact makeSlice_runs h hop h1 h3 h4
  · rename_i T x lo hi hop
    obtain ⟨v, h1, h2⟩ := eval_bind.1 he
    obtain rfl := eval_ok.1 h2
    exact slice_runs h hop h1
  · rename_i T x f hop
    obtain ⟨v, h1, h2⟩ := eval_bind.1 he
    obtain rfl := eval_ok.1 h2
    exact fieldAddr_runs h hop h1
  · rename_i T x f hop
    obtain ⟨v, h1, h2⟩ := eval_bind.1 he
    obtain rfl := eval_ok.1 h2
    exact field_runs h hop h1
  · rename_i T x i hop
    obtain ⟨n, h0, he⟩ := eval_bind.1 he
    obtain ⟨v, h1, h2⟩ := eval_bind.1 he
    obtain rfl := eval_ok.1 h2
    exact indexAddr_runs h hop h0 h1
  · rename_i T x i hop
    obtain ⟨n, h0, he⟩ := eval_bind.1 he
    obtain ⟨v, h1, h2⟩ := eval_bind.1 he
    obtain rfl := eval_ok.1 h2
    exact index_runs h hop h0 h1
  · rename_i x i hop
    obtain ⟨v, h1, h2⟩ := eval_bind.1 he
    obtain rfl := eval_ok.1 h2
    exact extract_runs h hop h1
  · rename_i c hop
    split at he
    · rename_i hc
      split at he
      · rename_i x T ha ht
        obtain ⟨v, h1, h2⟩ := eval_bind.1 he
        obtain rfl := eval_ok.1 h2
        exact len_runs h hop hc ha ht h1
      · exact (eval_fail.1 he).elim
    · rename_i hc
      split at he
      · rename_i x y T X ha ht
        exact append_runs h hop hc ha ht he
      · exact (eval_fail.1 he).elim
    · rename_i F hc
      split at he
      · rename_i f caps hF
        split at he
        · rename_i en hen
          exact call_runs h hop hc hF (hΓ f _ en hen) he
        · exact (eval_fail.1 he).elim
      · exact (eval_fail.1 he).elim
    · exact (eval_fail.1 he).elim
  · exact (eval_fail.1 he).elim

end
end Go.Ab
