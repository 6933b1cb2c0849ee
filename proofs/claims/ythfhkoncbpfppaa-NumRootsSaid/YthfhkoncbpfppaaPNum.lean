/- Plain laws of numbers: what the functions of layer 1 compute. -/
import Derived.Test.YthfhkoncbpfppaaAF
namespace Go.Mg
open Go
theorem awake01 : f_law01_Awake 40 = some true := by decide +kernel
theorem u64_of {x : Int} (h : w_22 x) : 0 ≤ x ∧ x < 18446744073709551616 := by
  obtain ⟨h1, h2⟩ := h
  simp only [IntKind.min, IntKind.max, IntKind.signed, IntKind.bits] at h1 h2
  constructor
  · simpa using h1
  · have : x ≤ 18446744073709551615 := by simpa using h2
    omega
theorem u64_nat {x : Int} (h : w_22 x) : ∃ a : Nat, x = a ∧ a < 18446744073709551616 := by
  obtain ⟨h1, h2⟩ := u64_of h
  exact ⟨x.toNat, by omega, by omega⟩
theorem w64_nat (x : Nat) : w64 (x : Int) = ((x % 18446744073709551616 : Nat) : Int) := by rw [w64_eq]; omega
theorem shr32_nat (x : Nat) : shr .u64 (x : Int) (32 : Int) = ((x / 4294967296 : Nat) : Int) := by
  have := shr_nat .u64 x 32 (by decide)
  simpa using this
theorem and32_nat (x : Nat) (h : x < 18446744073709551616) : bits .and .u64 (x : Int) (4294967295 : Int) = ((x % 4294967296 : Nat) : Int) := by
  have := bits_and (k := .u64) rfl (a := x) (b := 4294967295) (by simpa [IntKind.bits] using h) (by decide)
  have e : x &&& 4294967295 = x % 4294967296 := Nat.and_two_pow_sub_one_eq_mod x 32
  rw [e] at this
  simpa using this
theorem mul64 (n a b : Nat) (ha : a < 18446744073709551616) (hb : b < 18446744073709551616) : f_bits_Mul64 n a b = some (((a * b / 18446744073709551616 : Nat) : Int), ((a * b % 18446744073709551616 : Nat) : Int)) := by
  have hx : a = (a / 4294967296) * 4294967296 + a % 4294967296 := by omega
  have hy : b = (b / 4294967296) * 4294967296 + b % 4294967296 := by omega
  have e1 : a / 4294967296 < 4294967296 := by omega
  have e2 : b / 4294967296 < 4294967296 := by omega
  have e3 : a % 4294967296 < 4294967296 := by omega
  have e4 : b % 4294967296 < 4294967296 := by omega
  unfold f_bits_Mul64
  simp only [shr32_nat, and32_nat _ ha, and32_nat _ hb]
  generalize hx1 : a / 4294967296 = x1 at *
  generalize hx0 : a % 4294967296 = x0 at *
  generalize hy1 : b / 4294967296 = y1 at *
  generalize hy0 : b % 4294967296 = y0 at *
  have hab : a * b = (x1 * y1) * 18446744073709551616 + (x1 * y0 + x0 * y1) * 4294967296 + x0 * y0 := by
    rw [hx, hy]
    simp only [Nat.add_mul, Nat.mul_add]
    have : x1 * 4294967296 * (y1 * 4294967296) = x1 * y1 * 18446744073709551616 := by
      rw [Nat.mul_assoc, Nat.mul_left_comm 4294967296, ← Nat.mul_assoc]
    have h2 : x1 * 4294967296 * y0 = x1 * y0 * 4294967296 := by rw [Nat.mul_right_comm]
    have h3 : x0 * (y1 * 4294967296) = x0 * y1 * 4294967296 := by rw [Nat.mul_assoc]
    omega
  have b11 : x1 * y1 ≤ 18446744065119617025 := Nat.mul_le_mul (show x1 ≤ 4294967295 by omega) (show y1 ≤ 4294967295 by omega)
  have b10 : x1 * y0 ≤ 18446744065119617025 := Nat.mul_le_mul (show x1 ≤ 4294967295 by omega) (show y0 ≤ 4294967295 by omega)
  have b01 : x0 * y1 ≤ 18446744065119617025 := Nat.mul_le_mul (show x0 ≤ 4294967295 by omega) (show y1 ≤ 4294967295 by omega)
  have b00 : x0 * y0 ≤ 18446744065119617025 := Nat.mul_le_mul (show x0 ≤ 4294967295 by omega) (show y0 ≤ 4294967295 by omega)
  simp only [← Int.natCast_mul, ← Int.natCast_add, w64_nat, shr32_nat]
  rw [and32_nat _ (by omega)]
  simp only [← Int.natCast_mul, ← Int.natCast_add, w64_nat, shr32_nat]
  rw [hab]
  generalize x1 * y1 = p11 at *
  generalize x1 * y0 = p10 at *
  generalize x0 * y1 = p01 at *
  generalize x0 * y0 = p00 at *
  congr 2
  · congr 1; omega
theorem add_eq (n a b : Nat) (ha : a < 18446744073709551616) (hb : b < 18446744073709551616) : f_num_Add n a b = some (if a + b < 18446744073709551616 then (((a + b : Nat) : Int), true) else (0, false)) := by
  unfold f_num_Add f_bits_Add64
  rw [ask_of ⟨by omega, by omega, by omega, by omega⟩]
  simp only [Option.bind_some]
  split
  · have h1 : ((a : Int) + b + 0) / 18446744073709551616 = 0 := by omega
    have h2 : ((a : Int) + b + 0) % 18446744073709551616 = ((a + b : Nat) : Int) := by omega
    simp only [h1, h2]; rfl
  · have h1 : ((a : Int) + b + 0) / 18446744073709551616 = 1 := by omega
    simp only [h1]; rfl
theorem radd_eq (n a b : Nat) (ha : a < 18446744073709551616) (hb : b < 18446744073709551616) : f_ref01_Add n a b = some (if a + b < 18446744073709551616 then (((a + b : Nat) : Int), true) else (0, false)) := by
  unfold f_ref01_Add
  rw [show w64 ((18446744073709551615 : Int) - b) = ((18446744073709551615 - b : Nat) : Int) by rw [w64_eq]; omega]
  rw [show (a : Int) + b = ((a + b : Nat) : Int) by omega, w64_nat]
  split
  · rw [decide_eq_false (show ¬ ((a : Int) > ((18446744073709551615 - b : Nat) : Int)) by omega)]
    simp only [cond_false]; rw [Nat.mod_eq_of_lt (by assumption)]
  · rw [decide_eq_true (show ((a : Int) > ((18446744073709551615 - b : Nat) : Int)) by omega)]
    rfl
theorem mul_eq (n a b : Nat) (ha : a < 18446744073709551616) (hb : b < 18446744073709551616) : f_num_Mul n a b = some (if a * b < 18446744073709551616 then (((a * b : Nat) : Int), true) else (0, false)) := by
  unfold f_num_Mul
  rw [mul64 n a b ha hb]
  simp only [Option.bind_some]
  split
  · rename_i h
    rw [Nat.div_eq_of_lt h, Nat.mod_eq_of_lt h]; rfl
  · rename_i h
    have : a * b / 18446744073709551616 ≠ 0 := by
      have := (Nat.div_pos_iff (a := a * b) (b := 18446744073709551616)).2 ⟨by omega, by omega⟩
      omega
    rw [show (((a * b / 18446744073709551616 : Nat) : Int) != 0) = true from bne_iff_ne.2 (by omega)]
    rfl
theorem rmul_eq (n a b : Nat) (ha : a < 18446744073709551616) (hb : b < 18446744073709551616) : f_ref01_Mul n a b = some (if a * b < 18446744073709551616 then (((a * b : Nat) : Int), true) else (0, false)) := by
  unfold f_ref01_Mul
  by_cases h0 : a = 0
  · subst h0
    simp only [Nat.zero_mul, show ((0 : Nat) : Int) = 0 from rfl, bne_self_eq_false, cond_false, Int.zero_mul]
    rfl
  · rw [show ((a : Int) != 0) = true from bne_iff_ne.2 (by omega)]
    simp only [cond_true]
    rw [ask_of (by omega)]
    rw [show w64 ((18446744073709551615 : Int).tdiv a) = ((18446744073709551615 / a : Nat) : Int) by
      rw [show (18446744073709551615 : Int) = ((18446744073709551615 : Nat) : Int) from rfl, ← Int.ofNat_tdiv, w64_nat]
      rw [Nat.mod_eq_of_lt (Nat.lt_of_le_of_lt (Nat.div_le_self _ _) (by omega))]]
    rw [← Int.natCast_mul, w64_nat]
    have key : b ≤ 18446744073709551615 / a ↔ a * b < 18446744073709551616 := by
      rw [Nat.le_div_iff_mul_le (by omega), Nat.mul_comm b a]; omega
    split
    · rename_i h
      rw [show decide ((b : Int) > ((18446744073709551615 / a : Nat) : Int)) = false by exact decide_eq_false (by have := key.2 h; omega)]
      simp only [cond_false]; rw [Nat.mod_eq_of_lt h]
    · rename_i h
      rw [show decide ((b : Int) > ((18446744073709551615 / a : Nat) : Int)) = true by
        simp only [decide_eq_true_eq, gt_iff_lt]
        have : ¬ b ≤ 18446744073709551615 / a := fun hh => h (key.1 hh)
        omega]
      rfl
theorem sub_eq (n a b : Nat) (ha : a < 18446744073709551616) (hb : b < 18446744073709551616) : f_num_Sub n a b = some (if b ≤ a then (((a - b : Nat) : Int), true) else (0, false)) := by
  unfold f_num_Sub
  split
  · rw [decide_eq_false (show ¬ ((b : Int) > a) by omega)]
    rw [show w64 ((a : Int) - b) = ((a - b : Nat) : Int) by rw [w64_eq]; omega]; rfl
  · rw [decide_eq_true (show ((b : Int) > a) by omega)]; rfl
theorem div_eq (n a b : Nat) (ha : a < 18446744073709551616) : f_num_Div n a b = some (if b = 0 then (0, false) else (((a / b : Nat) : Int), true)) := by
  unfold f_num_Div
  split
  · rename_i h; subst h; rfl
  · rw [show ((b : Int) == 0) = false from beq_eq_false_iff_ne.2 (by omega)]
    rw [← Int.ofNat_tdiv, w64_nat, Nat.mod_eq_of_lt (Nat.lt_of_le_of_lt (Nat.div_le_self _ _) ha)]; rfl
theorem less_eq (n a b : Nat) (ha : a < 18446744073709551616) : f_num_Less n a b = some ((a - b : Nat) : Int) := by
  unfold f_num_Less
  by_cases h : b ≤ a
  · rw [decide_eq_false (show ¬ ((b : Int) > a) by omega)]
    rw [show w64 ((a : Int) - b) = ((a - b : Nat) : Int) by rw [w64_eq]; omega]; rfl
  · rw [decide_eq_true (show ((b : Int) > a) by omega)]
    rw [show a - b = 0 by omega]; rfl
theorem rless_eq (n a b : Nat) (ha : a < 18446744073709551616) : f_ref01_Less n a b = some ((a - b : Nat) : Int) := by
  unfold f_ref01_Less
  by_cases h : b ≤ a
  · rw [decide_eq_false (show ¬ ((a : Int) < b) by omega)]
    rw [show w64 ((a : Int) - b) = ((a - b : Nat) : Int) by rw [w64_eq]; omega]; rfl
  · rw [decide_eq_true (show ((a : Int) < b) by omega)]
    rw [show a - b = 0 by omega]; rfl
theorem most_eq (n a b : Nat) (ha : a < 18446744073709551616) (hb : b < 18446744073709551616) : f_num_Most n a b = some (if a + b < 18446744073709551616 then ((a + b : Nat) : Int) else 18446744073709551615) := by
  unfold f_num_Most
  rw [add_eq n a b ha hb]
  split <;> rfl
end Go.Mg
