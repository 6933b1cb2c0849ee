/- Plain lemmas for plain laws: iterations, bits, shifts. -/
import Derived.Test.YtighjjielkdafaaDoorMhL
namespace Go.Mg
open Go
theorem iter_succ {D X : Type} (b : D → Option (D ⊕ X)) (n : Nat) (d : D) : iter b (n + 1) d = (b d).bind fun | .inl d' => iter b n d' | .inr x => some x := rfl
theorem iter_go {D X : Type} {b : D → Option (D ⊕ X)} {d d' : D} (h : b d = some (.inl d')) (n : Nat) : iter b (n + 1) d = iter b n d' := by simp [iter, h]
theorem iter_end {D X : Type} {b : D → Option (D ⊕ X)} {d : D} {x : X} (h : b d = some (.inr x)) (n : Nat) : iter b (n + 1) d = some x := by simp [iter, h]
/-- A loop by its states, one behind the other. -/
theorem iter_steps {D X : Type} {b : D → Option (D ⊕ X)} (s : Nat → D) (N : Nat) {x : X} (hs : ∀ k, k < N → b (s k) = some (.inl (s (k + 1)))) (he : b (s N) = some (.inr x)) : ∀ n, N < n → iter b n (s 0) = some x := by
  have key : ∀ j k n, k + j = N → j < n → iter b n (s k) = some x := by
    intro j
    induction j with
    | zero =>
      intro k n hk hn
      obtain ⟨m, rfl⟩ : ∃ m, n = m + 1 := ⟨n - 1, by omega⟩
      have : k = N := by omega
      rw [this]; exact iter_end he m
    | succ j ih =>
      intro k n hk hn
      obtain ⟨m, rfl⟩ : ∃ m, n = m + 1 := ⟨n - 1, by omega⟩
      rw [iter_go (hs k (by omega)) m]
      exact ih (k + 1) m (by omega) (by omega)
  exact fun n hn => key N 0 n (by omega) hn
theorem iter_mono {D X : Type} {b c : D → Option (D ⊕ X)} (h : ∀ d o, b d = some o → c d = some o) {x : X} : ∀ (n m : Nat) (d : D), n ≤ m → iter b n d = some x → iter c m d = some x
  | 0, _, _, _, hb => by cases hb
  | n + 1, 0, _, hn, _ => by omega
  | n + 1, m + 1, d, hn, hb => by
    rw [iter_succ] at hb ⊢
    obtain ⟨o, ho, hb⟩ := bind_some hb
    rw [h d o ho]
    cases o with
    | inl d' => exact iter_mono h n m d' (by omega) hb
    | inr y => exact hb
theorem ask_true {α : Type} {b : Bool} (h : b = true) (x : Option α) : ask b x = x := by subst h; rfl
theorem ask_of {α : Type} {p : Prop} [Decidable p] (h : p) (x : Option α) : ask (decide p) x = x := by simp [ask, h]
/-! ### bits -/
theorem wrap_u (k : IntKind) (hk : k.signed = false) (x : Nat) (h : x < 2 ^ k.bits) : k.wrap (x : Int) = x := by
  simp only [IntKind.wrap, hk, Bool.false_and, Bool.false_eq_true, if_false]
  have : ((2 : Int) ^ k.bits) = ((2 ^ k.bits : Nat) : Int) := by simp
  rw [this, ← Int.natCast_emod, Nat.mod_eq_of_lt h]
theorem ofInt_toNat (n a : Nat) (h : a < 2 ^ n) : (BitVec.ofInt n (a : Int)).toNat = a := by
  rw [BitVec.ofInt_natCast, BitVec.toNat_ofNat, Nat.mod_eq_of_lt h]
theorem bits_or {k : IntKind} (hk : k.signed = false) {a b : Nat} (ha : a < 2 ^ k.bits) (hb : b < 2 ^ k.bits) : bits .or k a b = ((a ||| b : Nat) : Int) := by
  simp only [bits, BitVec.toNat_or, ofInt_toNat _ _ ha, ofInt_toNat _ _ hb]
  exact wrap_u k hk _ (Nat.or_lt_two_pow ha hb)
theorem bits_and {k : IntKind} (hk : k.signed = false) {a b : Nat} (ha : a < 2 ^ k.bits) (hb : b < 2 ^ k.bits) : bits .and k a b = ((a &&& b : Nat) : Int) := by
  simp only [bits, BitVec.toNat_and, ofInt_toNat _ _ ha, ofInt_toNat _ _ hb]
  exact wrap_u k hk _ (Nat.and_lt_two_pow a hb)
theorem bits_xor {k : IntKind} (hk : k.signed = false) {a b : Nat} (ha : a < 2 ^ k.bits) (hb : b < 2 ^ k.bits) : bits .xor k a b = ((a ^^^ b : Nat) : Int) := by
  simp only [bits, BitVec.toNat_xor, ofInt_toNat _ _ ha, ofInt_toNat _ _ hb]
  exact wrap_u k hk _ (Nat.xor_lt_two_pow ha hb)
theorem shr_nat (k : IntKind) (x y : Nat) (h : y ≤ k.bits) : shr k x y = ((x / 2 ^ y : Nat) : Int) := by
  simp only [shr, Int.toNat_natCast, Nat.min_eq_left h]
  rw [Int.fdiv_eq_ediv_of_nonneg _ (Int.pow_nonneg (by decide))]
  simp
theorem shl_nat (k : IntKind) (hk : k.signed = false) (x y : Nat) (h : y ≤ k.bits) (hx : x * 2 ^ y < 2 ^ k.bits) : shl k x y = ((x * 2 ^ y : Nat) : Int) := by
  simp only [shl, Int.toNat_natCast, Nat.min_eq_left h]
  have : (x : Int) * 2 ^ y = ((x * 2 ^ y : Nat) : Int) := by simp
  rw [this]
  exact wrap_u k hk _ hx
theorem or_add {a b k : Nat} (h : a < 2 ^ k) : a ||| b * 2 ^ k = a + b * 2 ^ k := by
  rw [Nat.or_comm, ← Nat.shiftLeft_eq, ← Nat.shiftLeft_add_eq_or_of_lt h, Nat.add_comm]
theorem gmin_eq (x y : Int) : gmin x y = min x y := by simp only [gmin]; split <;> omega
theorem gmax_eq (x y : Int) : gmax x y = max x y := by simp only [gmax]; split <;> omega
end Go.Mg
