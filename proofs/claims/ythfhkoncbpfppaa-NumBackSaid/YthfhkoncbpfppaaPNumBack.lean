/- The plain law of NumBack. -/
import Derived.Test.YthfhkoncbpfppaaPNum
namespace Go.Mg
open Go
theorem back_j1 (a b : Nat) (ha : a < 18446744073709551616) (hb : b < 18446744073709551616) : f_law01_NumBack_j1 40 a b = some true := by
  unfold f_law01_NumBack_j1
  rw [most_eq _ _ _ ha hb, less_eq _ _ _ ha]
  simp only [Option.bind_some, gmax_eq]
  have h1 : decide ((if a + b < 18446744073709551616 then ((a + b : Nat) : Int) else 18446744073709551615) ≥ max (a : Int) b) = true := by
    simp only [decide_eq_true_eq, ge_iff_le]; split <;> omega
  have h2 : decide (((a - b : Nat) : Int) ≤ (a : Int)) = true := by simp only [decide_eq_true_eq]; omega
  rw [h1, h2]; rfl
theorem back_j0 (a b : Nat) (ha : a < 18446744073709551616) (hb : b < 18446744073709551616) : f_law01_NumBack_j0 40 a b = some true := by
  unfold f_law01_NumBack_j0
  rw [mul_eq _ _ _ ha hb, back_j1 a b ha hb]
  simp only [Option.bind_some]
  by_cases h : a * b < 18446744073709551616
  · rw [if_pos h]
    by_cases h0 : b = 0
    · subst h0; rfl
    · rw [div_eq _ _ _ h, if_neg h0, Nat.mul_div_cancel a (by omega)]
      simp
  · rw [if_neg h]; rfl
theorem pure_NumBack (a : Int) (ha : w_22 a) (b : Int) (hb : w_22 b) : ∃ n, f_law01_NumBack n a b = some true := by
  obtain ⟨a, rfl, ha'⟩ := u64_nat ha; clear ha; have ha := ha'; clear ha'
  obtain ⟨b, rfl, hb'⟩ := u64_nat hb; clear hb; have hb := hb'; clear hb'
  refine ⟨40, ?_⟩
  unfold f_law01_NumBack
  rw [awake01, add_eq _ _ _ ha hb, back_j0 a b ha hb]
  have hs : f_num_Sub 40 18446744073709551615 a = some (((18446744073709551615 - a : Nat) : Int), true) := by
    have := sub_eq 40 18446744073709551615 a (by omega) ha
    rw [if_pos (by omega)] at this
    exact this
  rw [hs]
  simp only [Option.bind_some, Bool.not_true, cond_false]
  by_cases h : a + b < 18446744073709551616
  · rw [if_pos h]
    simp only [cond_true]
    rw [sub_eq _ _ _ h hb, if_pos (by omega), show a + b - b = a by omega]
    simp
  · rw [if_neg h]
    have : decide (((18446744073709551615 - a : Nat) : Int) ≥ b) = false := by simp; omega
    simp only [cond_false, this]
end Go.Mg
