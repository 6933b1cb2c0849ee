/- DigestPairs. -/
import Derived.Test.YtighjjielkdafaaDoorPDig
namespace Go.Mg
open Go
theorem pure_DigestPairs (x0 : Arr 32 Int) (h0 : w_24 x0) (x1 : Arr 32 Int) (h1 : w_24 x1) : ∃ n, f_law02_DigestPairs n x0 x1 = some true := by
  refine ⟨100000, ?_⟩
  unfold f_law02_DigestPairs
  rw [awake02, Option.bind_some]
  simp only [Bool.not_true, cond_false]
  rw [ask_of (by simp [x0.h]), ask_of (by simp [x0.h, x1.h]), digest_Pair_eq _ _ _ (by omega), Option.bind_some, List.nil_append, digest_Of_eq _ _ (by simp [x0.h, x1.h]) (by simp [x0.h, x1.h]), Option.bind_some, decide_eq_true rfl, cond_true,
    ref_Pair_eq _ _ _ (by omega), Option.bind_some, decide_eq_true rfl, cond_true, digest_Hex_eq _ _ (w24_ok h0) (by omega), Option.bind_some, ref_Hex_eq _ _ (w24_ok h0) (by omega), Option.bind_some]
  simp
end Go.Mg
