/- SignJoins. -/
import Derived.Test.YtighjjielkdafaaDoorPSign
namespace Go.Mg
open Go
theorem pure_SignJoins (x0 : List (Arr 32 Int)) (h0 : w_36 x0) (x1 : Int) (h1 : w_3 x1) : ∃ n, f_law07_SignJoins n x0 x1 = some true := by
  refine ⟨100000, ?_⟩
  unfold f_law07_SignJoins
  have hl : lok x0 := fun a ha y hy => h0.2 a ha y hy
  rw [awake07, Option.bind_some]
  simp only [Bool.not_true, cond_false]
  by_cases h60 : (x0.length : Int) > 60
  · rw [decide_eq_true h60, cond_true]
  · rw [decide_eq_false h60, cond_false]
    have hw : w64 (wi ((x0.length : Int) + 1)) = (x0.length : Int) + 1 := by rw [wi_eq _ (by omega) (by omega), w64_eq]; omega
    rw [hw]
    obtain ⟨m, he, hm⟩ : ∃ m : Nat, wi ((w64 x1).tmod ((x0.length : Int) + 1)) = m ∧ m ≤ x0.length := by
      have h := w64_eq x1
      have h2 := Int.emod_nonneg (w64 x1) (show ((x0.length : Int) + 1) ≠ 0 by omega)
      have h3 := Int.emod_lt_of_pos (w64 x1) (show 0 < ((x0.length : Int) + 1) by omega)
      rw [tmod_pos' (by omega), wi_eq _ (by omega) (by omega)]
      exact ⟨(w64 x1 % ((x0.length : Int) + 1)).toNat, by omega, by omega⟩
    rw [he, Int.toNat_natCast, ask_of (by omega), ask_of (by omega), ask_of (by omega), ask_of (by simp; omega), ask_of (by simp; omega), ask_of (by simp; omega)]
    have ht : lok (x0.take m) := fun a ha => hl a (List.mem_of_mem_take ha)
    have hd : lok (x0.drop m) := fun a ha => hl a (List.mem_of_mem_drop ha)
    have e1 : jn x0 = ax (jn (x0.take m)) (jn (x0.drop m)) := by rw [← jn_append ht hd, List.take_append_drop]
    have e2 : jn (x0.drop m ++ x0.take m) = jn x0 := by rw [jn_append hd ht, e1, ax_comm (jn_ok hd) (jn_ok ht)]
    rw [List.nil_append, List.nil_append, sign_Join_eq _ _ (by omega) (by omega), Option.bind_some, sign_Join_eq _ _ (by simp; omega) (by simp; omega), Option.bind_some, e2, decide_eq_true rfl, cond_true,
      sign_Join_eq _ _ (by simp; omega) (by simp; omega), Option.bind_some, sign_Join_eq _ _ (by simp; omega) (by simp; omega), Option.bind_some, sign_Join_eq _ _ (by simp) (by simp), Option.bind_some, jn_two (jn_ok ht), ← e1, decide_eq_true rfl, cond_true,
      sign_Join_eq _ _ (by simp) (by simp), Option.bind_some, jn_two (jn_ok hl), ax_self (jn_ok hl), decide_eq_true rfl]
end Go.Mg
