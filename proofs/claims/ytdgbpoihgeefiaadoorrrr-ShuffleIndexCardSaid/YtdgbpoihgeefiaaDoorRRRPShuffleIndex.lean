/- ShuffleIndex. -/
import Derived.Test.YtdgbpoihgeefiaaDoorRRRPShuf
import Derived.Test.YtdgbpoihgeefiaaDoorRRRPShufAwake
namespace Go.Mg
open Go
theorem pure_ShuffleIndex (i : Int) (h0 : w_22 i) (nn : Int) (h1 : w_22 nn) (seed : Arr 32 Int) (h2 : w_24 seed) : ∃ n, f_law08_ShuffleIndex n i nn seed = some true := by
  refine ⟨100000, ?_⟩
  obtain ⟨a, rfl, ha⟩ := u64_nat h0
  obtain ⟨b, rfl, hb⟩ := u64_nat h1
  unfold f_law08_ShuffleIndex
  rw [awake08, Option.bind_some]
  simp only [Bool.not_true, cond_false]
  unfold f_shuffle_Index f_ref07_Index
  by_cases z : b = 0
  · subst z; rfl
  rw [show ((b : Int) == 0) = false by rw [beq_eq_false_iff_ne]; omega, cond_false, cond_false]
  by_cases y : (a : Int) ≥ (b : Int)
  · rw [decide_eq_true y, cond_true, cond_true]; rfl
  rw [decide_eq_false y, cond_false, cond_false]
  by_cases x : (b : Int) > 1099511627776
  · rw [decide_eq_true x, cond_true, cond_true]; rfl
  rw [decide_eq_false x, cond_false, cond_false, index_loop seed 100000 b a (by omega) (by omega) (by omega), Option.bind_some, Option.bind_some, rindex_loop seed 100000 b a (by omega) (by omega) (by omega), Option.bind_some, Option.bind_some]
  simp
end Go.Mg
