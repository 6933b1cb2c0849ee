/- ShuffleLists. -/
import Derived.Test.YtdgbpoihgeefiaaDoorRRRPShufList
import Derived.Test.YtdgbpoihgeefiaaDoorRRRPShufAwake
namespace Go.Mg
open Go
theorem iter_inv {D X : Type} {b : D → Option (D ⊕ X)} (Inv : D → Prop) (μ : D → Nat) (Q : X → Prop) (h : ∀ d, Inv d → (∃ d', b d = some (.inl d') ∧ Inv d' ∧ μ d' < μ d) ∨ ∃ x, b d = some (.inr x) ∧ Q x) : ∀ (n : Nat) (d : D), Inv d → μ d < n → ∃ x, iter b n d = some x ∧ Q x
  | 0, d, hi, hm => by omega
  | n + 1, d, hi, hm => by
    rcases h d hi with ⟨d', h1, h2, h3⟩ | ⟨x, h1, h2⟩
    · obtain ⟨x, h4, h5⟩ := iter_inv Inv μ Q h n d' h2 (by omega)
      exact ⟨x, by rw [iter_go h1]; exact h4, h5⟩
    · exact ⟨x, iter_end h1 n, h2⟩
theorem pure_ShuffleLists (nn : Int) (h1 : w_22 nn) (seed : Arr 32 Int) (h2 : w_24 seed) : ∃ n, f_law08_ShuffleLists n nn seed = some true := by
  refine ⟨100000, ?_⟩
  obtain ⟨b, rfl, hb⟩ := u64_nat h1
  unfold f_law08_ShuffleLists
  rw [awake08, Option.bind_some]
  simp only [Bool.not_true, cond_false]
  have e : (b : Int).tmod 700 = ((b % 700 : Nat) : Int) := by rw [tmod_pos' (by omega)]; omega
  have hm : b % 700 < 700 := Nat.mod_lt _ (by omega)
  obtain ⟨x, hx, rfl⟩ := iter_inv (b := fun (a0 : Int) => f_law08_ShuffleLists_b0 100000 (b : Int) seed (lst seed (b % 700) 5, 0) a0) (fun a => 0 ≤ a ∧ a ≤ ((b % 700 : Nat) : Int)) (fun a => b % 700 - a.toNat) (fun x => x = .inr ()) (by
    rintro a ⟨h1, h2⟩
    obtain ⟨k, rfl⟩ := Int.eq_ofNat_of_zero_le h1
    show (∃ d', f_law08_ShuffleLists_b0 100000 (b : Int) seed (lst seed (b % 700) 5, 0) (k : Int) = _ ∧ _) ∨ ∃ x, f_law08_ShuffleLists_b0 100000 (b : Int) seed (lst seed (b % 700) 5, 0) (k : Int) = _ ∧ _
    unfold f_law08_ShuffleLists_b0
    rw [e]
    dsimp only
    rw [lst_length]
    generalize b % 700 = m at hm h2 ⊢
    by_cases hlt : k < m
    · left
      rw [decide_eq_true (show (k : Int) < (m : Int) by omega), cond_true, show w64 (k : Int) = (k : Int) by rw [w64_eq]; omega, rindex_eq seed 100000 m k (by omega) hlt (by omega), Option.bind_some, Bool.not_true, cond_false, ask_of (by omega), Int.toNat_natCast, ask_of hlt, lst_get seed m 5 hlt, Option.bind_some, bne_self_eq_false, cond_false, wi_eq _ (by omega) (by omega)]
      exact ⟨_, rfl, ⟨by omega, by omega⟩, by omega⟩
    · right
      rw [decide_eq_false (show ¬ (k : Int) < (m : Int) by omega), cond_false]
      exact ⟨_, rfl, rfl⟩) 100000 0 ⟨by omega, by omega⟩ (by show b % 700 - _ < _; omega)
  rw [e, list_eq seed 100000 (b % 700) (by omega) (by omega), Option.bind_some, hx]
  show (bif (w64 (((lst seed (b % 700) 5).length : Nat) : Int) != ((b % 700 : Nat) : Int)) then _ else _) = _
  rw [lst_length, show w64 ((b % 700 : Nat) : Int) = ((b % 700 : Nat) : Int) by rw [w64_eq]; omega, bne_self_eq_false, cond_false, Option.bind_some]
  rfl
end Go.Mg
