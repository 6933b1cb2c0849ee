/- Bytes of numbers, and words out of them. -/
import Derived.Test.YtighjjielkdafaaDoorPDig
namespace Go.Mg
open Go
theorem u64_of {x : Int} (h : w_39 x) : 0 ≤ x ∧ x < 18446744073709551616 := by
  obtain ⟨h1, h2⟩ := h
  simp only [IntKind.min, IntKind.max, IntKind.signed, IntKind.bits] at h1 h2
  constructor
  · simpa using h1
  · have : x ≤ 18446744073709551615 := by simpa using h2
    omega
theorem u64_nat {x : Int} (h : w_39 x) : ∃ a : Nat, x = a ∧ a < 18446744073709551616 := by
  obtain ⟨h1, h2⟩ := u64_of h
  exact ⟨x.toNat, by omega, by omega⟩
theorem w64_nat (x : Nat) : w64 (x : Int) = ((x % 18446744073709551616 : Nat) : Int) := by rw [w64_eq]; omega
def putN (a k : Nat) : List Nat := (List.range k).map fun i => a / 256 ^ i % 256
def ints (l : List Nat) : List Int := l.map fun (i : Nat) => (i : Int)
theorem putN_succ (a k : Nat) : putN a (k + 1) = putN a k ++ [a / 256 ^ k % 256] := by simp [putN, List.range_succ]
theorem putN_len (a k : Nat) : (putN a k).length = k := by simp [putN]
theorem ints_app (l : List Nat) (b : Nat) : ints l ++ ([(b : Int)] : List Int) = ints (l ++ [b]) := by simp [ints]
theorem ints_len (l : List Nat) : (ints l).length = l.length := by simp [ints]
theorem wi_small (k : Nat) (h : k ≤ 4611686018427387904) : wi (k : Int) = k := wi_eq _ (by omega) (by omega)
theorem wi_succ (k : Nat) (h : k < 4611686018427387904) : wi ((k : Int) + 1) = ((k + 1 : Nat) : Int) := by rw [wi_eq _ (by omega) (by omega)]; omega
theorem w8_nat (x : Nat) : w8 (x : Int) = ((x % 256 : Nat) : Int) := by rw [w8_eq]; omega
theorem put_num (n a : Nat) (ha : a < 18446744073709551616) (size : Int) (hs : size < 1000) (hn : 1000 < n) : f_num_Put n a size = some (ints (putN a size.toNat)) := by
  unfold f_num_Put
  have key := iter_steps (b := fun ((a0, a1) : List Int × Int) => f_num_Put_b0 n a size a0 a1) (fun k => (ints (putN a k), (k : Int))) size.toNat (x := ints (putN a size.toNat)) ?_ ?_ n (by omega)
  · have : (([] : List Int), (0 : Int)) = (ints (putN a 0), ((0 : Nat) : Int)) := rfl
    rw [this, key]; rfl
  · intro k hk
    simp only [f_num_Put_b0]
    rw [decide_eq_true (show (k : Int) < gmax size 0 by rw [gmax_eq]; omega)]
    simp only [cond_true]
    by_cases h8 : k < 8
    · rw [decide_eq_true (show (k : Int) < 8 by omega)]
      have e1 : wi (8 * (k : Int)) = ((8 * k : Nat) : Int) := by rw [wi_eq _ (by omega) (by omega)]; omega
      simp only [cond_true, e1]
      rw [ask_of (by omega), ask_of (by rw [ints_len, putN_len]; simp only [List.length_singleton]; omega), shr_nat _ _ _ (by simp only [IntKind.bits]; omega), w8_nat, wi_succ _ (by omega)]
      have e2 : (2 : Nat) ^ (8 * k) = 256 ^ k := by rw [Nat.pow_mul]
      rw [e2, ints_app, ← putN_succ]
    · rw [decide_eq_false (show ¬ (k : Int) < 8 by omega)]
      simp only [cond_false]
      rw [ask_of (by rw [ints_len, putN_len]; simp only [List.length_singleton]; omega), wi_succ _ (by omega)]
      have e3 : a / 256 ^ k % 256 = 0 := by
        have : 256 ^ 8 ≤ 256 ^ k := Nat.pow_le_pow_right (by decide) (by omega)
        rw [Nat.div_eq_of_lt (by omega)]
      rw [putN_succ, e3, ← ints_app]; rfl
  · simp only [f_num_Put_b0]
    rw [decide_eq_false (show ¬ ((size.toNat : Nat) : Int) < gmax size 0 by rw [gmax_eq]; omega)]
    rfl
theorem put_ref (n a : Nat) (ha : a < 18446744073709551616) (size : Int) (hs : size < 1000) (hn : 1000 < n) : f_ref01_Put n a size = some (ints (putN a size.toNat)) := by
  unfold f_ref01_Put
  have key := iter_steps (b := fun ((a0, a1, a2) : Int × List Int × Int) => f_ref01_Put_b0 n size a0 a1 a2) (fun k => (((a / 256 ^ k : Nat) : Int), ints (putN a k), (k : Int))) size.toNat (x := ints (putN a size.toNat)) ?_ ?_ n (by omega)
  · have : ((a : Int), ([] : List Int), (0 : Int)) = (((a / 256 ^ 0 : Nat) : Int), ints (putN a 0), ((0 : Nat) : Int)) := by simp [putN, ints]
    rw [this, key]; rfl
  · intro k hk
    simp only [f_ref01_Put_b0]
    rw [decide_eq_true (show (k : Int) < size by omega)]
    have hle : a / 256 ^ k ≤ a := Nat.div_le_self _ _
    have e1 : w8 (((a / 256 ^ k : Nat) : Int).tmod 256) = ((a / 256 ^ k % 256 : Nat) : Int) := by
      generalize a / 256 ^ k = q
      rw [tmod_pos' (by omega), w8_eq]; omega
    have e2 : w64 (((a / 256 ^ k : Nat) : Int).tdiv 256) = ((a / 256 ^ (k + 1) : Nat) : Int) := by
      rw [Nat.pow_succ, ← Nat.div_div_eq_div_mul]
      generalize a / 256 ^ k = q at *
      rw [tdiv_pos' (by omega), w64_eq]; omega
    simp only [cond_true, e1, e2]
    rw [ask_of (by rw [ints_len, putN_len]; simp only [List.length_singleton]; omega), wi_succ _ (by omega), ints_app, ← putN_succ]
  · simp only [f_ref01_Put_b0]
    rw [decide_eq_false (show ¬ ((size.toNat : Nat) : Int) < size by omega)]
    rfl

def wordA (a : Nat) : Arr 32 Int := ⟨ints (putN a 8) ++ List.replicate 24 0, by simp [ints_len, putN_len]⟩
theorem word_put (a : Nat) : Arr.put (Arr.rep 32 (0:Int)) (over (Arr.rep 32 (0:Int)).l 0 32 (ints (putN a 8))) = wordA a := by
  apply Arr.ext
  have e : over (Arr.rep 32 (0:Int)).l 0 32 (ints (putN a 8)) = ints (putN a 8) ++ List.replicate 24 0 := by
    simp only [over, List.take_zero, List.nil_append, ints_len, putN_len, Arr.rep, List.drop_replicate]
    rw [List.take_of_length_le (by rw [ints_len, putN_len]; omega)]
    rfl
  rw [Arr.put_l _ (by rw [e]; simp [ints_len, putN_len]), e]; rfl
theorem word_ref (n a : Nat) (ha : a < 18446744073709551616) (hn : 1000 < n) : f_ref02_Word n a = some (wordA a) := by
  unfold f_ref02_Word
  rw [put_ref n a ha 8 (by omega) hn, Option.bind_some]
  have hl : (ints (putN a 8)).length = 8 := by rw [ints_len, putN_len]
  show Option.bind (iter (fun ((a0, a1) : ((Arr 32 Int) × Int)) => f_ref02_Word_b0 n (ints (putN a 8)) a0 a1) n ((Arr.rep 32 (0:Int)), (0:Int))) _ = _
  generalize hL : ints (putN a 8) = L at hl
  have := iter_cnt (b := fun ((a0, a1) : ((Arr 32 Int) × Int)) => f_ref02_Word_b0 n L a0 a1) (fun k => (⟨fil L 8 (min k 8) ++ List.replicate 24 0, by simp [fil_length hl (show min k 8 ≤ 8 by omega)]⟩ : Arr 32 Int)) 0 8 (x := wordA a) (fun k _ hk => by
    show f_ref02_Word_b0 n L _ _ = _
    unfold f_ref02_Word_b0
    have e4 : (k : Int).toNat = k := by omega
    rw [decide_eq_true (show (k : Int) < 8 by omega), cond_true, ask_of (by omega), e4, ask_of (by omega), getD_get (by omega), Option.bind_some, ask_of (by omega), Arr.get _ (show k < 32 by omega), Option.bind_some, wi_eq _ (by omega) (by omega)]
    congr 3
    apply Arr.ext
    show (fil L 8 (min k 8) ++ List.replicate 24 0).set k _ = fil L 8 (min (k + 1) 8) ++ List.replicate 24 0
    rw [Nat.min_eq_left (show k ≤ 8 by omega), Nat.min_eq_left (show k + 1 ≤ 8 by omega), List.set_append_left _ _ (by rw [fil_length hl (by omega)]; omega), fil_set hl hk]) (by
    show f_ref02_Word_b0 n L _ _ = _
    unfold f_ref02_Word_b0
    rw [decide_eq_false (by omega), cond_false]
    congr 2
    apply Arr.ext
    show fil L 8 (min 8 8) ++ List.replicate 24 0 = ints (putN a 8) ++ List.replicate 24 0
    rw [Nat.min_self, fil_end hl, hL]) (by omega) n (by omega)
  rw [show iter (fun ((a0, a1) : ((Arr 32 Int) × Int)) => f_ref02_Word_b0 n L a0 a1) n ((Arr.rep 32 (0:Int)), (0:Int)) = some (wordA a) from this, Option.bind_some]
end Go.Mg
