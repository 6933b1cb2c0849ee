/- The plain law of NumRoots. -/
import Derived.Test.YthfhkoncbpfppaaPRoots
namespace Go.Mg
open Go
theorem awake01r : f_law01_Awake 5000000000 = some true := by decide +kernel
theorem pure_NumRoots (a : Int) (ha : w_22 a) : ∃ n, f_law01_NumRoots n a = some true := by
  obtain ⟨a, rfl, ha'⟩ := u64_nat ha
  refine ⟨5000000000, ?_⟩
  obtain ⟨r, h1, h2⟩ := root_num 5000000000 a ha' (by omega)
  obtain ⟨s, h3, h4⟩ := root_ref 5000000000 a ha' (by omega)
  have hrs : r = s := isRoot_unique h2 h4
  subst hrs
  have hr : r < 4294967296 := by
    have : ¬ 4294967296 ≤ r := fun hh => by have := Nat.mul_le_mul hh hh; have := h2.1; omega
    omega
  have hr2 : w64 ((r : Int) + 1) = ((r + 1 : Nat) : Int) := by rw [w64_eq]; omega
  have hrr : r * r < 18446744073709551616 := by have := h2.1; omega
  unfold f_law01_NumRoots
  rw [awake01r, h1, h3]
  simp only [Option.bind_some, Bool.not_true, cond_false, hr2]
  rw [mul64 _ _ _ (by omega) (by omega), mul64 _ _ _ (by omega) (by omega)]
  simp only [Option.bind_some, beq_self_eq_true, cond_true]
  rw [Nat.div_eq_of_lt hrr, Nat.mod_eq_of_lt hrr]
  rw [show (((0 : Nat) : Int) == 0) = true from rfl]
  rw [decide_eq_true (show ((r * r : Nat) : Int) ≤ (a : Int) by have := h2.1; omega)]
  simp only [cond_true]
  have h5 := h2.2
  by_cases h6 : (r + 1) * (r + 1) < 18446744073709551616
  · rw [Nat.div_eq_of_lt h6, Nat.mod_eq_of_lt h6]
    rw [decide_eq_true (show (((r + 1) * (r + 1) : Nat) : Int) > (a : Int) by omega)]
    rfl
  · have : 0 < (r + 1) * (r + 1) / 18446744073709551616 := Nat.div_pos (by omega) (by decide)
    rw [decide_eq_true (by omega)]
    rfl
end Go.Mg
