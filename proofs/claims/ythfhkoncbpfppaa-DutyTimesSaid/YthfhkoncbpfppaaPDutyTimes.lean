/- The plain law of DutyTimes. -/
import Derived.Test.YthfhkoncbpfppaaAF
namespace Go.Mg
open Go
theorem times_awake : f_law09_Awake 2 = some true := by decide +kernel
theorem pure_DutyTimes (slot : Int) (hs : w_22 slot) (epoch : Int) (_ : w_22 epoch) (v : GValidator) (_ : w_32 v) : ∃ n, f_law09_DutyTimes n slot epoch v = some true := by
  refine ⟨2, ?_⟩
  unfold f_law09_DutyTimes
  rw [times_awake]
  obtain ⟨h1, h2⟩ := hs
  simp only [IntKind.min, IntKind.max, IntKind.signed, IntKind.bits] at h1 h2
  have h0 : 0 ≤ slot := by simpa using h1
  have hd : w64 (slot.tdiv (4:Int)) = slot.tdiv 4 ∧ 0 ≤ slot.tdiv 4 := by
    have : slot ≤ 18446744073709551615 := by simpa using h2
    rw [tdiv_pos' h0, w64_eq]; omega
  simp only [f_duty_Epoch, f_duty_Start, f_duty_Now, f_duty_Before, f_num_Less, f_ref01_Less, f_duty_IsActive, f_ref07_IsActive, Option.bind_some]
  rw [hd.1]
  have e1 : decide ((1:Int) > slot.tdiv 4) = decide (slot.tdiv 4 < (1:Int)) := rfl
  rw [e1]
  have e2 : (4 * epoch) = (epoch * 4) := Int.mul_comm _ _
  simp only [e2, beq_self_eq_true, cond_true, Bool.not_true, cond_false]
  cases decide (slot.tdiv 4 < (1:Int)) <;> cases decide (v.Active ≤ epoch) <;> cases h : decide (epoch < v.Exit) <;> simp_all
end Go.Mg
