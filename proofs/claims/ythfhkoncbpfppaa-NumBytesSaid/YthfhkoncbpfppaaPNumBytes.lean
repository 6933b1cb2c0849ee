/- The plain law of NumBytes. -/
import Derived.Test.YthfhkoncbpfppaaPBytes
namespace Go.Mg
open Go
theorem awake01k : f_law01_Awake 1100 = some true := by decide +kernel
theorem pure_NumBytes (a : Int) (ha : w_22 a) (size : Int) (hs : w_3 size) (b : List Int) (hb : w_52 b) : ∃ n, f_law01_NumBytes n a size b = some true := by
  obtain ⟨a, rfl, ha'⟩ := u64_nat ha
  obtain ⟨l, rfl, hl⟩ := bytes_nat hb.2
  refine ⟨1100, ?_⟩
  unfold f_law01_NumBytes
  rw [awake01k]
  simp only [Option.bind_some, Bool.not_true, cond_false, ints_len]
  by_cases hlen : (l.length : Int) > 1000
  · rw [decide_eq_true hlen]; rfl
  · rw [decide_eq_false hlen]
    have hsz : size.tmod 40 < 1000 := by
      have := Int.tmod_lt_of_pos size (show (0:Int) < 40 by decide)
      omega
    simp only [cond_false]
    rw [put_num _ _ ha' _ hsz (by omega), put_ref _ _ ha' _ hsz (by omega), put_num _ _ ha' 8 (by omega) (by omega)]
    simp only [Option.bind_some, beq_self_eq_true, cond_true, List.nil_append, List.length_nil]
    rw [ask_of (by omega), take_num _ _ hl (by omega) (by omega), take_ref _ _ hl (by omega) (by omega)]
    simp only [Option.bind_some, beq_self_eq_true, cond_true]
    rw [take_num _ _ (putN_byte _ _) (by rw [putN_len]; decide) (by omega)]
    simp only [Option.bind_some]
    rw [List.take_of_length_le (by rw [putN_len]; decide), val_put]
    rw [show (Int.toNat 8) = 8 from rfl, Nat.mod_eq_of_lt (by omega)]
    simp
end Go.Mg
