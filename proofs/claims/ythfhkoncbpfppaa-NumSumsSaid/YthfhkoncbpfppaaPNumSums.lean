/- The plain law of NumSums. -/
import Derived.Test.YthfhkoncbpfppaaPNum
namespace Go.Mg
open Go
theorem pure_NumSums (a : Int) (ha : w_22 a) (b : Int) (hb : w_22 b) : ∃ n, f_law01_NumSums n a b = some true := by
  obtain ⟨a, rfl, ha'⟩ := u64_nat ha; clear ha; have ha := ha'; clear ha'
  obtain ⟨b, rfl, hb'⟩ := u64_nat hb; clear hb; have hb := hb'; clear hb'
  refine ⟨40, ?_⟩
  unfold f_law01_NumSums
  rw [awake01, add_eq _ _ _ ha hb, radd_eq _ _ _ ha hb, mul_eq _ _ _ ha hb, rmul_eq _ _ _ ha hb, sub_eq _ _ _ ha hb, div_eq _ _ _ ha]
  simp only [Option.bind_some, Bool.not_true, cond_false]
  unfold f_law01_NumSums_j0 f_law01_NumSums_j1
  rw [less_eq _ _ _ ha, rless_eq _ _ _ ha, most_eq _ _ _ ha hb]
  simp only [Option.bind_some, bne_self_eq_false, beq_self_eq_true, Bool.not_true, cond_false, cond_true]
  have hd : w64 ((a : Int).tdiv b) = ((a / b : Nat) : Int) := by rw [← Int.ofNat_tdiv, w64_nat, Nat.mod_eq_of_lt (Nat.lt_of_le_of_lt (Nat.div_le_self _ _) ha)]
  simp only [hd]
  have e1 : ((b : Int) == 0) = decide (b = 0) := by rw [Bool.eq_iff_iff]; simp
  have e2 : ((b : Int) != 0) = !decide (b = 0) := by rw [bne, e1]
  have e3 : decide ((a : Int) ≥ b) = decide (b ≤ a) := decide_eq_decide.2 (by omega)
  simp only [e1, e2, e3, ask]
  clear e1 e2 e3 hd
  have hz : ¬ b ≤ a → ((a - b : Nat) : Int) = 0 := by omega
  generalize ((a - b : Nat) : Int) = d at hz ⊢
  generalize ((a / b : Nat) : Int) = q
  by_cases h3 : b = 0
  · subst h3
    have h1 : a + 0 < 18446744073709551616 := by omega
    have h2 : 0 ≤ a := by omega
    simp only [h1, h2, if_true, if_false, decide_true, decide_false, Bool.not_true, Bool.not_false, cond_true, cond_false, bne_self_eq_false, beq_self_eq_true]
  · have h4 : decide (¬ (b : Int) = 0) = true := decide_eq_true (by omega)
    by_cases h1 : a + b < 18446744073709551616 <;> by_cases h2 : b ≤ a <;> simp only [h1, h2, h3, h4, ne_eq, if_true, if_false, decide_true, decide_false, Bool.not_true, Bool.not_false, cond_true, cond_false, bne_self_eq_false, beq_self_eq_true]
    all_goals (rw [hz h2]; rfl)
end Go.Mg
