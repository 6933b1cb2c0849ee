/- Roots of squares: Newton's way and bit by bit. -/
import Derived.Test.YthfhkoncbpfppaaPNum
namespace Go.Mg
open Go
def isRoot (r n : Nat) : Prop := r * r ≤ n ∧ n < (r + 1) * (r + 1)
theorem isRoot_unique {r s n : Nat} (h : isRoot r n) (k : isRoot s n) : r = s := by
  have h1 : ¬ r < s := fun hlt => by
    have := Nat.mul_le_mul (show r + 1 ≤ s from hlt) (show r + 1 ≤ s from hlt)
    have := h.2; have := k.1; omega
  have h2 : ¬ s < r := fun hlt => by
    have := Nat.mul_le_mul (show s + 1 ≤ r from hlt) (show s + 1 ≤ r from hlt)
    have := k.2; have := h.1; omega
  omega
theorem root_ex : ∀ n : Nat, ∃ r, isRoot r n
  | 0 => ⟨0, by simp [isRoot]⟩
  | n + 1 => by
    obtain ⟨r, h1, h2⟩ := root_ex n
    by_cases h : (r + 1) * (r + 1) ≤ n + 1
    · refine ⟨r + 1, h, ?_⟩
      have : (r + 1 + 1) * (r + 1 + 1) = (r + 1) * (r + 1) + 2 * (r + 1) + 1 := by simp only [Nat.add_mul, Nat.mul_add]; omega
      omega
    · exact ⟨r, by omega, by omega⟩
/-! ### the length in bits -/
theorem tab8 (b : Nat) (h : b < 256) : ∃ t : Nat, strAt str_0 b = some (t : Int) ∧ b < 2 ^ t ∧ t ≤ 8 := by
  have key : ∀ b : _root_.Fin 256, ∃ t : _root_.Fin 9, strAt str_0 b.1 = some ((t.1 : Nat) : Int) ∧ b.1 < 2 ^ t.1 := by decide +kernel
  obtain ⟨t, h1, h2⟩ := key ⟨b, h⟩
  exact ⟨t.1, h1, h2, by omega⟩
theorem shr_lit (x k : Nat) (h : k ≤ 64) : shr .u64 (x : Int) ((k : Nat) : Int) = ((x / 2 ^ k : Nat) : Int) := shr_nat .u64 x k h
theorem len8 (x s : Nat) (hx : x / 2 ^ s < 256) : ∃ t : Nat, strAt str_0 (w8 ((x / 2 ^ s : Nat) : Int)).toNat = some (t : Int) ∧ x < 2 ^ (s + t) ∧ t ≤ 8 := by
  obtain ⟨t, h1, h2, h3⟩ := tab8 _ hx
  refine ⟨t, ?_, ?_, h3⟩
  · rw [w8_eq]
    generalize x / 2 ^ s = q at *
    have : (((q : Nat) : Int) % 256).toNat = q := by omega
    rw [this]; exact h1
  · rw [Nat.pow_add, Nat.mul_comm]
    exact (Nat.div_lt_iff_lt_mul (Nat.pow_pos (by decide))).1 h2
theorem len64 (n x : Nat) (hx : x < 18446744073709551616) : ∃ L : Nat, f_bits_Len64 n x = some (L : Int) ∧ x < 2 ^ L ∧ L ≤ 64 := by
  have e32 : ∀ y : Nat, shr .u64 (y : Int) 32 = ((y / 2 ^ 32 : Nat) : Int) := fun y => shr_lit y 32 (by decide)
  have e16 : ∀ y : Nat, shr .u64 (y : Int) 16 = ((y / 2 ^ 16 : Nat) : Int) := fun y => shr_lit y 16 (by decide)
  have e8 : ∀ y : Nat, shr .u64 (y : Int) 8 = ((y / 2 ^ 8 : Nat) : Int) := fun y => shr_lit y 8 (by decide)
  have dd : ∀ y a b : Nat, y / 2 ^ a / 2 ^ b = y / 2 ^ (a + b) := fun y a b => by rw [Nat.div_div_eq_div_mul, Nat.pow_add]
  have fin : ∀ (s : Nat) (sx : Int), sx = s → s ≤ 56 → x / 2 ^ s < 256 → ∃ L : Nat, (ask (decide (0 ≤ w8 ((x / 2 ^ s : Nat) : Int))) <| Option.bind (strAt str_0 (w8 ((x / 2 ^ s : Nat) : Int)).toNat) fun v0 => some (wi (sx + wi v0))) = some (L : Int) ∧ x < 2 ^ L ∧ L ≤ 64 := by
    intro s sx hsx hs h
    obtain ⟨t, h1, h2, h3⟩ := len8 x s h
    refine ⟨s + t, ?_, h2, by omega⟩
    rw [ask_of (by rw [w8_eq]; omega), h1]
    simp only [Option.bind_some, hsx]
    rw [wi_eq (t : Int) (by omega) (by omega), wi_eq _ (by omega) (by omega)]
    congr 1
  have w0 : ∀ y : Int, 0 ≤ y → y ≤ 1000 → wi y = y := fun y a b => wi_eq y (by omega) (by omega)
  unfold f_bits_Len64
  simp only [e32, e16, e8, dd, Nat.reduceAdd]
  rw [show wi (wi ((32 : Int) + 16) + 8) = 56 from rfl, show wi ((32 : Int) + 16) = 48 from rfl, show wi ((32 : Int) + 8) = 40 from rfl, show wi (wi ((0 : Int) + 16) + 8) = 24 from rfl, show wi ((0 : Int) + 16) = 16 from rfl, show wi ((0 : Int) + 8) = 8 from rfl]
  have c : ∀ (y k : Nat), decide ((y : Int) ≥ (k : Int)) = decide (k ≤ y) := fun y k => decide_eq_decide.2 (by omega)
  have c1 := c x 4294967296
  have c2 := c x 65536
  have c3 := c x 256
  have c4 := c (x / 2 ^ 32) 65536
  have c5 := c (x / 2 ^ 32) 256
  have c6 := c (x / 2 ^ 48) 256
  have c7 := c (x / 2 ^ 16) 256
  simp only [show ((4294967296 : Nat) : Int) = 4294967296 from rfl, show ((65536 : Nat) : Int) = 65536 from rfl, show ((256 : Nat) : Int) = 256 from rfl] at c1 c2 c3 c4 c5 c6 c7
  simp only [c1, c2, c3, c4, c5, c6, c7]
  by_cases h1 : 4294967296 ≤ x
  · rw [decide_eq_true h1]
    by_cases h2 : 65536 ≤ x / 2 ^ 32
    · rw [decide_eq_true h2]
      by_cases h3 : 256 ≤ x / 2 ^ 48
      · rw [decide_eq_true h3]; simp only [cond_true, cond_false]; exact fin 56 56 rfl (by omega) (by omega)
      · rw [decide_eq_false h3]; simp only [cond_true, cond_false]; exact fin 48 48 rfl (by omega) (by omega)
    · rw [decide_eq_false h2]
      by_cases h3 : 256 ≤ x / 2 ^ 32
      · rw [decide_eq_true h3]; simp only [cond_true, cond_false]; exact fin 40 40 rfl (by omega) (by omega)
      · rw [decide_eq_false h3]; simp only [cond_true, cond_false]; exact fin 32 32 rfl (by omega) (by omega)
  · rw [decide_eq_false h1]
    by_cases h2 : 65536 ≤ x
    · rw [decide_eq_true h2]
      by_cases h3 : 256 ≤ x / 2 ^ 16
      · rw [decide_eq_true h3]; simp only [cond_true, cond_false]; exact fin 24 24 rfl (by omega) (by omega)
      · rw [decide_eq_false h3]; simp only [cond_true, cond_false]; exact fin 16 16 rfl (by omega) (by omega)
    · rw [decide_eq_false h2]
      by_cases h3 : 256 ≤ x
      · rw [decide_eq_true h3]; simp only [cond_true, cond_false]; exact fin 8 8 rfl (by omega) (by omega)
      · rw [decide_eq_false h3]
        have := fin 0 0 rfl (by omega) (by simpa using h3)
        simpa using this
/-! ### Newton -/
theorem newton (a r : Nat) (ha : a < 18446744073709551616) (hr : isRoot r a) (hr0 : 0 < r) : ∀ (x m : Nat), r ≤ x → x ≤ 4294967296 → x < m → ∀ n, iter (fun a0 : Int => f_num_Root_b0 n a a0) m (x : Int) = some (.inl (r : Int)) := by
  intro x
  induction x using Nat.strongRecOn with
  | ind x ih =>
    intro m hrx hx hm n
    have h0 : 0 < x := by omega
    obtain ⟨m, rfl⟩ : ∃ k, m = k + 1 := ⟨m - 1, by omega⟩
    have hqm : a / x * x ≤ a := Nat.div_mul_le_self _ _
    have hqm2 : a < (a / x + 1) * x := by
      have := Nat.lt_mul_div_succ a h0
      rw [Nat.mul_comm]; exact this
    have hq3 : a / x < x + 3 := by
      rw [Nat.div_lt_iff_lt_mul h0]
      have h1 := Nat.mul_le_mul (show r + 1 ≤ x + 1 by omega) (show r + 1 ≤ x + 1 by omega)
      have h2 := hr.2
      have h3 : (x + 1) * (x + 1) = x * x + 2 * x + 1 := by simp only [Nat.add_mul, Nat.mul_add]; omega
      have h4 : (x + 3) * x = x * x + 3 * x := by rw [Nat.add_mul]
      omega
    have e0 : (a : Int).tdiv x = ((a / x : Nat) : Int) := (Int.ofNat_tdiv _ _).symm
    generalize hq : a / x = q at *
    have e1 : w64 ((w64 ((x : Int) + w64 ((a : Int).tdiv x))).tdiv 2) = (((x + q) / 2 : Nat) : Int) := by
      rw [e0, w64_nat, Nat.mod_eq_of_lt (by omega), ← Int.natCast_add, w64_nat, Nat.mod_eq_of_lt (by omega), tdiv_pos' (by omega), w64_eq]; omega
    by_cases hge : x ≤ (x + q) / 2
    · refine iter_end ?_ m
      simp only [f_num_Root_b0]
      rw [ask_of (by omega), e1, decide_eq_true (by omega)]
      have : x = r := by
        have hxx : x ≤ q := by omega
        have : x * x ≤ a := Nat.le_trans (Nat.mul_le_mul_right x hxx) hqm
        have h2 := hr.2
        have : ¬ r + 1 ≤ x := fun hh => by have := Nat.mul_le_mul hh hh; omega
        omega
      rw [this]; rfl
    · have hstep : f_num_Root_b0 n a (x : Int) = some (.inl ((((x + q) / 2 : Nat) : Int))) := by
        simp only [f_num_Root_b0]
        rw [ask_of (by omega), e1, decide_eq_false (by omega)]; rfl
      rw [iter_go hstep]
      have hmean : r ≤ (x + q) / 2 := by
        have : ¬ (x + q) / 2 + 1 ≤ r := by
          intro hh
          have hsum : x + q + 1 ≤ 2 * r := by omega
          have h1 := hr.1
          have hle := Nat.mul_le_mul hsum hsum
          have hsq : 4 * ((q + 1) * x) ≤ (x + (q + 1)) * (x + (q + 1)) := by
            generalize q + 1 = y
            rcases Nat.le_total x y with hc | hc
            · obtain ⟨d, rfl⟩ := Nat.le.dest hc
              simp only [Nat.add_mul, Nat.mul_add]
              have := Nat.zero_le (d * d)
              have e := Nat.mul_comm d x
              omega
            · obtain ⟨d, rfl⟩ := Nat.le.dest hc
              simp only [Nat.add_mul, Nat.mul_add]
              have := Nat.zero_le (d * d)
              have e := Nat.mul_comm d y
              omega
          have e2 : 2 * r * (2 * r) = 4 * (r * r) := by
            rw [Nat.mul_assoc, Nat.mul_left_comm r 2 r]; omega
          have e3 : x + q + 1 = x + (q + 1) := by omega
          rw [e3] at hle
          omega
        omega
      exact ih _ (by omega) m hmean (by omega) (by omega) n
theorem root_num (n a : Nat) (ha : a < 18446744073709551616) (hn : 4294967296 < n) : ∃ r : Nat, f_num_Root n a = some (r : Int) ∧ isRoot r a := by
  obtain ⟨r, hr⟩ := root_ex a
  refine ⟨r, ?_, hr⟩
  unfold f_num_Root
  by_cases h2 : a < 2
  · rw [decide_eq_true (by omega)]
    have : r = a := by
      refine isRoot_unique hr ⟨?_, ?_⟩
      · have : a = 0 ∨ a = 1 := by omega
        rcases this with rfl | rfl <;> decide
      · have : a = 0 ∨ a = 1 := by omega
        rcases this with rfl | rfl <;> decide
    rw [this]; rfl
  · rw [decide_eq_false (by omega)]
    obtain ⟨L, h3, h4, h5⟩ := len64 n a ha
    have e1 : wi ((wi ((L : Int) + 1)).tdiv 2) = (((L + 1) / 2 : Nat) : Int) := by
      rw [show wi ((L : Int) + 1) = (L : Int) + 1 from wi_eq _ (by omega) (by omega), tdiv_pos' (by omega), wi_eq _ (by omega) (by omega)]; omega
    simp only [cond_false, h3, Option.bind_some, e1]
    rw [ask_of (by omega)]
    have hp : 2 ^ ((L + 1) / 2) ≤ 2 ^ 32 := Nat.pow_le_pow_right (by decide) (by omega)
    have e2 : shl .u64 1 (((L + 1) / 2 : Nat) : Int) = ((2 ^ ((L + 1) / 2) : Nat) : Int) := by
      have := shl_nat .u64 rfl 1 ((L + 1) / 2) (by simp only [IntKind.bits]; omega) (by simp only [IntKind.bits, Nat.one_mul]; omega)
      simpa using this
    have hsq : a < 2 ^ ((L + 1) / 2) * 2 ^ ((L + 1) / 2) := by
      rw [← Nat.pow_add]
      exact Nat.lt_of_lt_of_le h4 (Nat.pow_le_pow_right (by decide) (by omega))
    rw [e2]
    generalize 2 ^ ((L + 1) / 2) = x0 at *
    have hrx : r ≤ x0 := by
      have : ¬ x0 + 1 ≤ r := fun hh => by
        have h6 := Nat.mul_le_mul (show x0 ≤ r by omega) (show x0 ≤ r by omega)
        have := hr.1; omega
      omega
    have hr0 : 0 < r := by
      rcases Nat.eq_zero_or_pos r with h | h
      · subst h; have := hr.2; omega
      · exact h
    rw [newton a r ha hr hr0 x0 n hrx (by omega) (by omega) n]
    rfl
/-! ### bit by bit -/
theorem root_ref (n a : Nat) (ha : a < 18446744073709551616) (hn : 32 < n) : ∃ r : Nat, f_ref01_Root n a = some (r : Int) ∧ isRoot r a := by
  have key : ∀ (k m r c : Nat), k ≤ 32 → k < m → r = c * 2 ^ k → r < 4294967296 → r * r ≤ a → a < (r + 2 ^ k) * (r + 2 ^ k) → ∃ s : Nat, iter (fun ((a0, a1) : Int × Int) => f_ref01_Root_b0 n a a0 a1) m ((r : Int), (k : Int) - 1) = some (s : Int) ∧ isRoot s a := by
    intro k
    induction k with
    | zero =>
      intro m r c _ hm _ _ h1 h2
      obtain ⟨m, rfl⟩ : ∃ j, m = j + 1 := ⟨m - 1, by omega⟩
      refine ⟨r, iter_end ?_ m, h1, by simpa using h2⟩
      simp only [f_ref01_Root_b0]
      rw [decide_eq_false (by omega)]; rfl
    | succ k ih =>
      intro m r c hk hm hc hr h1 h2
      obtain ⟨m, rfl⟩ : ∃ j, m = j + 1 := ⟨m - 1, by omega⟩
      have hp : 2 ^ k ≤ 2 ^ 31 := Nat.pow_le_pow_right (by decide) (by omega)
      have hpos : 0 < 2 ^ k := Nat.pow_pos (by decide)
      have e0 : ((k + 1 : Nat) : Int) - 1 = (k : Int) := by omega
      have e1 : shl .u64 1 (k : Int) = ((2 ^ k : Nat) : Int) := by
        have := shl_nat .u64 rfl 1 k (by simp only [IntKind.bits]; omega) (by simp only [IntKind.bits, Nat.one_mul]; omega)
        simpa using this
      have hrc : r = 2 * c * 2 ^ k := by rw [hc, Nat.pow_succ]; rw [Nat.mul_comm (2 ^ k) 2, ← Nat.mul_assoc, Nat.mul_comm c 2]
      have hor : r ||| 2 ^ k = r + 2 ^ k := by
        have := or_add (a := 2 ^ k) (b := c) (k := k + 1) (by rw [Nat.pow_succ]; omega)
        rw [← hc] at this
        rw [Nat.or_comm, this, Nat.add_comm]
      have hlt : r + 2 ^ k < 4294967296 := by
        rcases Nat.lt_or_ge k 31 with h31 | h31
        · -- r is a multiple of 2^(k+1) below 2^32
          have hm : r + 2 ^ (k + 1) ≤ 4294967296 := by
            have e32 : (4294967296 : Nat) = 2 ^ (31 - k) * 2 ^ (k + 1) := by rw [← Nat.pow_add, show 31 - k + (k + 1) = 32 by omega]
            have hcl : c < 2 ^ (31 - k) := by
              have : c * 2 ^ (k + 1) < 2 ^ (31 - k) * 2 ^ (k + 1) := by rw [← hc, ← e32]; exact hr
              exact Nat.lt_of_mul_lt_mul_right this
            have := Nat.mul_le_mul_right (2 ^ (k + 1)) (show c + 1 ≤ 2 ^ (31 - k) from hcl)
            rw [Nat.add_mul, ← hc, ← e32] at this
            omega
          rw [Nat.pow_succ] at hm; omega
        · have : k = 31 := by omega
          subst this
          have hc0 : c = 0 := by
            rcases Nat.eq_zero_or_pos c with h | h
            · exact h
            · have := Nat.mul_le_mul_right (2 ^ 32) h; omega
          subst hc0; omega
      have e2 : bits .or .u64 (r : Int) (shl .u64 1 (k : Int)) = ((r + 2 ^ k : Nat) : Int) := by
        rw [e1, bits_or rfl (by simp only [IntKind.bits]; omega) (by simp only [IntKind.bits]; omega), hor]
      have hsq : (r + 2 ^ k) * (r + 2 ^ k) < 18446744073709551616 := by
        have := Nat.mul_le_mul (show r + 2 ^ k ≤ 4294967295 by omega) (show r + 2 ^ k ≤ 4294967295 by omega)
        omega
      have e3 : wi ((k : Int) - 1) = (k : Int) - 1 := wi_eq _ (by omega) (by omega)
      by_cases hle : (r + 2 ^ k) * (r + 2 ^ k) ≤ a
      · have hstep : f_ref01_Root_b0 n a (r : Int) (((k + 1 : Nat) : Int) - 1) = some (.inl (((r + 2 ^ k : Nat) : Int), (k : Int) - 1)) := by
          simp only [f_ref01_Root_b0]
          rw [e0, decide_eq_true (show (k : Int) ≥ 0 by omega), ask_true rfl, e2, e3, ← Int.natCast_mul, w64_nat, Nat.mod_eq_of_lt hsq, decide_eq_true (by omega)]; rfl
        obtain ⟨s, s1, s2⟩ := ih m (r + 2 ^ k) (2 * c + 1) (by omega) (by omega) (by rw [Nat.add_mul, ← hrc]; omega) hlt hle (by
          rw [Nat.pow_succ] at h2
          rw [show r + 2 ^ k + 2 ^ k = r + 2 ^ k * 2 by omega]; exact h2)
        exact ⟨s, (iter_go (b := fun ((a0, a1) : Int × Int) => f_ref01_Root_b0 n a a0 a1) (d := ((r : Int), ((k + 1 : Nat) : Int) - 1)) hstep m).trans s1, s2⟩
      · have hstep : f_ref01_Root_b0 n a (r : Int) (((k + 1 : Nat) : Int) - 1) = some (.inl ((r : Int), (k : Int) - 1)) := by
          simp only [f_ref01_Root_b0]
          rw [e0, decide_eq_true (show (k : Int) ≥ 0 by omega), ask_true rfl, e2, e3, ← Int.natCast_mul, w64_nat, Nat.mod_eq_of_lt hsq, decide_eq_false (by omega)]; rfl
        obtain ⟨s, s1, s2⟩ := ih m r (2 * c) (by omega) (by omega) hrc hr h1 (by omega)
        exact ⟨s, (iter_go (b := fun ((a0, a1) : Int × Int) => f_ref01_Root_b0 n a a0 a1) (d := ((r : Int), ((k + 1 : Nat) : Int) - 1)) hstep m).trans s1, s2⟩
  obtain ⟨s, h1, h2⟩ := key 32 n 0 0 (by omega) hn (by simp) (by omega) (by simp) (by simpa using ha)
  refine ⟨s, ?_, h2⟩
  unfold f_ref01_Root
  have e : ((0 : Int), (31 : Int)) = (((0 : Nat) : Int), ((32 : Nat) : Int) - 1) := rfl
  rw [e, h1]; rfl
end Go.Mg
