/- The plain law of DutySlashable. -/
import Derived.Test.YthfhkoncbpfppaaAF
namespace Go.Mg
open Go
theorem slash_awake : f_law09_Awake 2 = some true := by decide +kernel
theorem slash_same (a : GVote) : f_duty_Slashable 2 a a = some false := by simp [f_duty_Slashable]
theorem slash_same' (a : GVote) : f_ref07_Slashable 2 a a = some false := by simp [f_ref07_Slashable]
theorem pure_DutySlashable (a : GVote) (_ : w_28 a) (b : GVote) (_ : w_28 b) : ∃ n, f_law09_DutySlashable n a b = some true := by
  refine ⟨2, ?_⟩
  unfold f_law09_DutySlashable
  rw [slash_awake]
  by_cases hab : a = b
  · subst hab
    rw [slash_same, slash_same']
    simp
  · rw [slash_same]
    simp only [f_duty_Slashable, f_ref07_Slashable]
    have hne : decide (b = a) = false := by simp [Ne.symm hab]
    have hne2 : (b.Target.Epoch == a.Target.Epoch) = (a.Target.Epoch == b.Target.Epoch) := by simp [Bool.beq_eq_decide_eq, eq_comm]
    have hab' : decide (a = b) = false := by simp [hab]
    simp only [hne, hab', hne2, bne, GT.gt]
    generalize (a.Target.Epoch == b.Target.Epoch) = y
    generalize decide (a.Source.Epoch < b.Source.Epoch) = z1
    generalize decide (b.Source.Epoch < a.Source.Epoch) = z2
    generalize decide (b.Target.Epoch < a.Target.Epoch) = z3
    generalize decide (a.Target.Epoch < b.Target.Epoch) = z4
    revert y z1 z2 z3 z4
    decide
end Go.Mg
