/- DigestEnds. -/
import Derived.Test.YtighjjielkdafaaDoorPDig
namespace Go.Mg
open Go
theorem pure_DigestEnds (x0 : Int) (h0 : w_3 x0) (x1 : Int) (h1 : w_5 x1) : ∃ n, f_law02_DigestEnds n x0 x1 = some true := by
  refine ⟨100000, ?_⟩
  unfold f_law02_DigestEnds
  rw [awake02, Option.bind_some]
  simp only [Bool.not_true, cond_false]
  obtain ⟨m, he, hm⟩ : ∃ m : Nat, wi ((w64 x0).tmod 260) = m ∧ m < 260 := by
    have h := w64_eq x0
    rw [tmod_pos' (by omega), wi_eq _ (by omega) (by omega)]
    exact ⟨(w64 x0 % 260).toNat, by omega, by omega⟩
  obtain ⟨x, hx, hl⟩ := iter_inv (b := fun ((a0, a1) : (List Int) × Int) => f_law02_DigestEnds_b0 100000 x1 x0 a0 a1) (fun d => d.1.length = m ∧ 0 ≤ d.2 ∧ d.2 ≤ (m : Int)) (fun d => m - d.2.toNat) (fun x => x.length = m) (by
    rintro ⟨l, i⟩ ⟨h1, h2, h3⟩
    simp only at h1 h2 h3
    show (∃ d', f_law02_DigestEnds_b0 100000 x1 x0 l i = _ ∧ _) ∨ ∃ x, f_law02_DigestEnds_b0 100000 x1 x0 l i = _ ∧ _
    unfold f_law02_DigestEnds_b0
    rw [he, List.length_replicate, Int.toNat_natCast]
    by_cases hi : i < m
    · left
      rw [decide_eq_true hi, cond_true, ask_of h2, ask_of (by omega), List.getElem?_eq_getElem (by omega), Option.bind_some, wi_eq _ (by omega) (by omega)]
      exact ⟨_, rfl, ⟨by simpa using h1, by show 0 ≤ i + 1; omega, by show i + 1 ≤ m; omega⟩, by show m - (i + 1).toNat < m - i.toNat; omega⟩
    · right
      rw [decide_eq_false hi, cond_false]
      exact ⟨_, rfl, h1⟩) 100000 (List.replicate m 0, 0) ⟨by simp, by simp, by simp⟩ (by show m - _ < _; omega)
  rw [he, ask_of (by omega), ask_of (by omega), Int.toNat_natCast, hx, Option.bind_some, digest_Of_eq _ _ (by omega) (by omega), Option.bind_some, ref_Of_eq _ _ (by omega) (by omega), Option.bind_some]
  simp
end Go.Mg
