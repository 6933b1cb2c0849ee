/- Bytes of numbers: Put and Take. -/
import Derived.Test.YtdgbpoihgeefiaaDoorRRRPShb
namespace Go.Mg
open Go
theorem u64_of {x : Int} (h : w_22 x) : 0 ≤ x ∧ x < 18446744073709551616 := by
  obtain ⟨h1, h2⟩ := h
  simp only [IntKind.min, IntKind.max, IntKind.signed, IntKind.bits] at h1 h2
  constructor
  · simpa using h1
  · have : x ≤ 18446744073709551615 := by simpa using h2
    omega
theorem u64_nat {x : Int} (h : w_22 x) : ∃ a : Nat, x = a ∧ a < 18446744073709551616 := by
  obtain ⟨h1, h2⟩ := u64_of h
  exact ⟨x.toNat, by omega, by omega⟩
theorem w64_nat (x : Nat) : w64 (x : Int) = ((x % 18446744073709551616 : Nat) : Int) := by rw [w64_eq]; omega
def putN (a k : Nat) : List Nat := (List.range k).map fun i => a / 256 ^ i % 256
def ints (l : List Nat) : List Int := l.map fun (i : Nat) => (i : Int)
def val : List Nat → Nat
  | [] => 0
  | b :: l => b + 256 * val l
theorem val_app : ∀ (l : List Nat) (b : Nat), val (l ++ [b]) = val l + b * 256 ^ l.length
  | [], b => by simp [val]
  | x :: l, b => by
    simp only [List.cons_append, val, val_app l b, List.length_cons, Nat.pow_succ]
    rw [Nat.mul_add, ← Nat.add_assoc]
    congr 1
    rw [Nat.mul_comm 256, Nat.mul_assoc]
theorem val_lt : ∀ (l : List Nat), (∀ b ∈ l, b < 256) → val l < 256 ^ l.length
  | [], _ => by simp [val]
  | x :: l, h => by
    have h1 := h x (by simp)
    have h2 := val_lt l (fun b hb => h b (by simp [hb]))
    simp only [val, List.length_cons, Nat.pow_succ]
    omega
theorem putN_succ (a k : Nat) : putN a (k + 1) = putN a k ++ [a / 256 ^ k % 256] := by simp [putN, List.range_succ]
theorem putN_len (a k : Nat) : (putN a k).length = k := by simp [putN]
theorem val_put (a k : Nat) : val (putN a k) = a % 256 ^ k := by
  induction k with
  | zero => simp [putN, val, Nat.mod_one]
  | succ k ih => rw [putN_succ, val_app, ih, putN_len, Nat.mod_pow_succ, Nat.mul_comm]
theorem putN_byte (a k : Nat) : ∀ b ∈ putN a k, b < 256 := by
  intro b hb
  simp only [putN, List.mem_map] at hb
  obtain ⟨i, _, rfl⟩ := hb
  exact Nat.mod_lt _ (by decide)
theorem ints_app (l : List Nat) (b : Nat) : ints l ++ ([(b : Int)] : List Int) = ints (l ++ [b]) := by simp [ints]
theorem ints_len (l : List Nat) : (ints l).length = l.length := by simp [ints]
theorem wi_small (k : Nat) (h : k ≤ 4611686018427387904) : wi (k : Int) = k := wi_eq _ (by omega) (by omega)
theorem wi_succ (k : Nat) (h : k < 4611686018427387904) : wi ((k : Int) + 1) = ((k + 1 : Nat) : Int) := by rw [wi_eq _ (by omega) (by omega)]; omega
theorem w8_nat (x : Nat) : w8 (x : Int) = ((x % 256 : Nat) : Int) := by rw [w8_eq]; omega
theorem put_num (n a : Nat) (ha : a < 18446744073709551616) (size : Int) (hs : size < 1000) (hn : 1000 < n) : f_num_Put n a size = some (ints (putN a size.toNat)) := by
  unfold f_num_Put
  have key := iter_steps (b := fun ((a0, a1) : List Int × Int) => f_num_Put_b0 n a size a0 a1) (fun k => (ints (putN a k), (k : Int))) size.toNat (x := ints (putN a size.toNat)) ?_ ?_ n (by omega)
  · have : (([] : List Int), (0 : Int)) = (ints (putN a 0), ((0 : Nat) : Int)) := rfl
    rw [this, key]; rfl
  · intro k hk
    simp only [f_num_Put_b0]
    rw [decide_eq_true (show (k : Int) < gmax size 0 by rw [gmax_eq]; omega)]
    simp only [cond_true]
    by_cases h8 : k < 8
    · rw [decide_eq_true (show (k : Int) < 8 by omega)]
      have e1 : wi (8 * (k : Int)) = ((8 * k : Nat) : Int) := by rw [wi_eq _ (by omega) (by omega)]; omega
      simp only [cond_true, e1]
      rw [ask_of (by omega), ask_of (by rw [ints_len, putN_len]; simp only [List.length_singleton]; omega), shr_nat _ _ _ (by simp only [IntKind.bits]; omega), w8_nat, wi_succ _ (by omega)]
      have e2 : (2 : Nat) ^ (8 * k) = 256 ^ k := by rw [Nat.pow_mul]
      rw [e2, ints_app, ← putN_succ]
    · rw [decide_eq_false (show ¬ (k : Int) < 8 by omega)]
      simp only [cond_false]
      rw [ask_of (by rw [ints_len, putN_len]; simp only [List.length_singleton]; omega), wi_succ _ (by omega)]
      have e3 : a / 256 ^ k % 256 = 0 := by
        have : 256 ^ 8 ≤ 256 ^ k := Nat.pow_le_pow_right (by decide) (by omega)
        rw [Nat.div_eq_of_lt (by omega)]
      rw [putN_succ, e3, ← ints_app]; rfl
  · simp only [f_num_Put_b0]
    rw [decide_eq_false (show ¬ ((size.toNat : Nat) : Int) < gmax size 0 by rw [gmax_eq]; omega)]
    rfl
theorem put_ref (n a : Nat) (ha : a < 18446744073709551616) (size : Int) (hs : size < 1000) (hn : 1000 < n) : f_ref01_Put n a size = some (ints (putN a size.toNat)) := by
  unfold f_ref01_Put
  have key := iter_steps (b := fun ((a0, a1, a2) : Int × List Int × Int) => f_ref01_Put_b0 n size a0 a1 a2) (fun k => (((a / 256 ^ k : Nat) : Int), ints (putN a k), (k : Int))) size.toNat (x := ints (putN a size.toNat)) ?_ ?_ n (by omega)
  · have : ((a : Int), ([] : List Int), (0 : Int)) = (((a / 256 ^ 0 : Nat) : Int), ints (putN a 0), ((0 : Nat) : Int)) := by simp [putN, ints]
    rw [this, key]; rfl
  · intro k hk
    simp only [f_ref01_Put_b0]
    rw [decide_eq_true (show (k : Int) < size by omega)]
    have hle : a / 256 ^ k ≤ a := Nat.div_le_self _ _
    have e1 : w8 (((a / 256 ^ k : Nat) : Int).tmod 256) = ((a / 256 ^ k % 256 : Nat) : Int) := by
      generalize a / 256 ^ k = q
      rw [tmod_pos' (by omega), w8_eq]; omega
    have e2 : w64 (((a / 256 ^ k : Nat) : Int).tdiv 256) = ((a / 256 ^ (k + 1) : Nat) : Int) := by
      rw [Nat.pow_succ, ← Nat.div_div_eq_div_mul]
      generalize a / 256 ^ k = q at *
      rw [tdiv_pos' (by omega), w64_eq]; omega
    simp only [cond_true, e1, e2]
    rw [ask_of (by rw [ints_len, putN_len]; simp only [List.length_singleton]; omega), wi_succ _ (by omega), ints_app, ← putN_succ]
  · simp only [f_ref01_Put_b0]
    rw [decide_eq_false (show ¬ ((size.toNat : Nat) : Int) < size by omega)]
    rfl
theorem ints_get (l : List Nat) (k : Nat) (h : k < l.length) : (ints l)[k]? = some ((l[k] : Nat) : Int) := by simp [ints, h]
theorem ints_take (l : List Nat) (k : Nat) : (ints l).take k = ints (l.take k) := by simp [ints, List.map_take]
theorem val_step (l : List Nat) (k : Nat) (h : k < l.length) : val (l.take (k + 1)) = val (l.take k) + l[k] * 256 ^ k := by
  rw [List.take_succ_eq_append_getElem h, val_app]
  have : (l.take k).length = k := by rw [List.length_take]; omega
  rw [this]
theorem take_num (n : Nat) (l : List Nat) (hl : ∀ b ∈ l, b < 256) (hlen : l.length ≤ 100000) (hn : 8 < n) : f_num_Take n (ints l) = some ((val (l.take 8) : Nat) : Int) := by
  unfold f_num_Take
  have hg : gmin ((ints l).length : Int) 8 = ((min l.length 8 : Nat) : Int) := by rw [gmin_eq, ints_len]; omega
  rw [hg, ask_of (by omega), ask_of (by rw [ints_len]; omega)]
  have hm : (min l.length 8) ≤ 8 := by omega
  have e0 : l.take 8 = l.take (min l.length 8) := by
    by_cases h : 8 ≤ l.length
    · rw [Nat.min_eq_right h]
    · rw [Nat.min_eq_left (by omega), List.take_of_length_le (by omega), List.take_of_length_le (by omega)]
  have key := iter_steps (b := fun ((a0, a1) : Int × Int) => f_num_Take_b0 n (ints l) a0 a1) (fun k => (((val (l.take k) : Nat) : Int), (k : Int))) (min l.length 8) (x := ((val (l.take 8) : Nat) : Int)) ?_ ?_ n (by omega)
  · have : ((0 : Int), (0 : Int)) = (((val (l.take 0) : Nat) : Int), ((0 : Nat) : Int)) := rfl
    rw [this, key]; rfl
  · intro k hk
    have hk' : k < l.length := by omega
    simp only [f_num_Take_b0, hg, Int.toNat_natCast, ints_take]
    rw [decide_eq_true (show (k : Int) < ((ints (l.take (min l.length 8))).length : Int) by rw [ints_len, List.length_take]; omega)]
    simp only [cond_true]
    rw [ask_of (by omega), ints_get _ _ (by rw [List.length_take]; omega)]
    have hb := hl l[k] (List.getElem_mem hk')
    have e1 : wi (8 * (k : Int)) = ((8 * k : Nat) : Int) := by rw [wi_eq _ (by omega) (by omega)]; omega
    have ht : (l.take (min l.length 8))[k]'(by rw [List.length_take]; omega) = l[k] := by simp
    simp only [Option.bind_some, e1, ht]
    rw [ask_of (by omega)]
    have e2 : (2 : Nat) ^ (8 * k) = 256 ^ k := by rw [Nat.pow_mul]
    have hp : 256 ^ (k + 1) ≤ 256 ^ 8 := Nat.pow_le_pow_right (by decide) (by omega)
    have hx : l[k] * 256 ^ k < 256 ^ (k + 1) := by
      rw [Nat.pow_succ, Nat.mul_comm (256 ^ k)]
      exact Nat.mul_lt_mul_of_pos_right hb (Nat.pow_pos (by decide))
    have hv : val (l.take k) < 256 ^ k := by
      have := val_lt (l.take k) (fun b hb => hl b (List.mem_of_mem_take hb))
      rwa [List.length_take, Nat.min_eq_left (by omega)] at this
    have e3 : w64 ((l[k] : Nat) : Int) = ((l[k] : Nat) : Int) := by rw [w64_nat, Nat.mod_eq_of_lt (by omega)]
    rw [e3, shl_nat .u64 rfl _ _ (by simp only [IntKind.bits]; omega) (by simp only [IntKind.bits]; rw [e2]; omega)]
    have hpk : 256 ^ k ≤ 256 ^ (k + 1) := Nat.pow_le_pow_right (by decide) (by omega)
    rw [bits_or rfl (by simp only [IntKind.bits]; omega) (by simp only [IntKind.bits]; rw [e2]; omega), or_add (by rw [e2]; exact hv), e2, ← val_step l k hk', wi_succ _ (by omega)]
  · simp only [f_num_Take_b0, hg, Int.toNat_natCast, ints_take]
    rw [decide_eq_false (show ¬ ((min l.length 8 : Nat) : Int) < ((ints (l.take (min l.length 8))).length : Int) by rw [ints_len, List.length_take]; omega)]
    rw [← e0]; rfl
theorem take_ref (n : Nat) (l : List Nat) (hl : ∀ b ∈ l, b < 256) (hlen : l.length ≤ 100000) (hn : l.length < n) : f_ref01_Take n (ints l) = some ((val (l.take 8) : Nat) : Int) := by
  unfold f_ref01_Take
  have key := iter_steps (b := fun ((a0, a1) : Int × Int) => f_ref01_Take_b0 n (ints l) a0 a1) (fun j => (((val ((l.take 8).drop (l.length - j)) : Nat) : Int), (l.length : Int) - 1 - j)) l.length (x := ((val (l.take 8) : Nat) : Int)) ?_ ?_ n hn
  · have e : wi (((ints l).length : Int) - 1) = (l.length : Int) - 1 - ((0 : Nat) : Int) := by rw [ints_len, wi_eq _ (by omega) (by omega)]; omega
    have e2 : (0 : Int) = ((val ((l.take 8).drop (l.length - 0)) : Nat) : Int) := by rw [List.drop_of_length_le (by rw [List.length_take]; omega)]; rfl
    rw [e, e2, key]; rfl
  · intro j hj
    simp only [f_ref01_Take_b0]
    obtain ⟨i, hi⟩ : ∃ i, i + j + 1 = l.length := ⟨l.length - j - 1, by omega⟩
    have e1 : (l.length : Int) - 1 - j = (i : Int) := by omega
    have e2 : wi ((l.length : Int) - 1 - j - 1) = (l.length : Int) - 1 - ((j + 1 : Nat) : Int) := by rw [wi_eq _ (by omega) (by omega)]; omega
    have e3 : l.length - j = i + 1 := by omega
    have e4 : l.length - (j + 1) = i := by omega
    rw [e2, e1, e3, e4, decide_eq_true (show (i : Int) ≥ 0 by omega)]
    simp only [cond_true]
    by_cases h8 : i < 8
    · rw [decide_eq_true (show (i : Int) < 8 by omega), ask_true rfl, Int.toNat_natCast, ints_get _ _ (by omega)]
      simp only [cond_true, Option.bind_some]
      have hb := hl l[i] (List.getElem_mem (by omega))
      have hlt : i < (l.take 8).length := by rw [List.length_take]; omega
      have hd : (l.take 8).drop i = l[i] :: (l.take 8).drop (i + 1) := by rw [List.drop_eq_getElem_cons hlt]; simp
      have hv := val_lt ((l.take 8).drop i) (fun b hb => hl b (List.mem_of_mem_take (List.mem_of_mem_drop hb)))
      have hp : 256 ^ ((l.take 8).drop i).length ≤ 256 ^ 8 := Nat.pow_le_pow_right (by decide) (by simp; omega)
      rw [hd] at hv hp
      rw [hd]
      simp only [val] at hv ⊢
      have e5 : ((val ((l.take 8).drop (i + 1)) : Nat) : Int) * 256 = ((val ((l.take 8).drop (i + 1)) * 256 : Nat) : Int) := by omega
      rw [e5, w64_nat, w64_nat, ← Int.natCast_add, w64_nat]
      congr 4
      omega
    · rw [decide_eq_false (show ¬ (i : Int) < 8 by omega)]
      simp only [cond_false]
      rw [List.drop_of_length_le (show (l.take 8).length ≤ i by rw [List.length_take]; omega), List.drop_of_length_le (show (l.take 8).length ≤ i + 1 by rw [List.length_take]; omega)]
  · simp only [f_ref01_Take_b0]
    rw [decide_eq_false (show ¬ ((l.length : Int) - 1 - (l.length : Int) ≥ 0) by omega)]
    simp
theorem bytes_nat {l : List Int} (h : ∀ y ∈ l, w_5 y) : ∃ m : List Nat, l = ints m ∧ ∀ b ∈ m, b < 256 := by
  refine ⟨l.map Int.toNat, ?_, ?_⟩
  · simp only [ints, List.map_map]
    conv => lhs; rw [← List.map_id l]
    apply List.map_congr_left
    intro y hy
    obtain ⟨h1, _⟩ := h y hy
    simp only [IntKind.min, IntKind.signed] at h1
    have : 0 ≤ y := by simpa using h1
    simp; omega
  · intro b hb
    simp only [List.mem_map] at hb
    obtain ⟨y, hy, rfl⟩ := hb
    obtain ⟨_, h2⟩ := h y hy
    have : y ≤ 255 := by simpa [IntKind.max, IntKind.signed, IntKind.bits] using h2
    omega
end Go.Mg
