/- Package-level variables: arrays of integers that a row lists as laid. -/
import Derived.Test.YtighjjielkdafaaDoorMhM
import Derived.OpenShut
import Derived.LaidMore
namespace Go.Mg
open Go
theorem reS_ints (m : Mem) (k : IntKind) : ∀ l : List Int, REs m 1 (l.map (T.int k)) (l.map (Value.int k))
  | [] => by simp [REs]
  | x :: l => by
    simp only [List.map_cons, REs]
    exact ⟨[.int k x], l.map (Value.int k), rfl, rfl, by simp [RT], reS_ints m k l⟩
theorem laid_ints {H : Type} {enc : TypeId × Value → H} {P : Program} {W : World} {base : Nat} {spare : Nat → Bool} {held : Bool} {fuel : Nat} {t e : TypeId} {len : Nat} {k : IntKind} {cs : List Value} {l : List Int} {ps : List MemPlace}
    (ht : P.underlying t = some (.array len e)) (he : P.underlying e = some (.int k)) (hc : P.cellsOf e = 1)
    (h : DataW.trod enc P W base spare held fuel t cs = some (.agg (l.map fun x => .lit (.int k x)), ps)) (i : Nat) (x : Int) (hx : l[i]? = some x) : cs[i]? = some (.int k x) := by
  obtain ⟨xs, m, -, h1, h2, h3, h4⟩ := DataW.trod_array ht h
  simp only [Prod.mk.injEq, DataW.agg.injEq] at h1
  have hi : i < len := by
    have := congrArg List.length h1.1
    simp at this
    have := (List.getElem?_eq_some_iff.1 hx).1
    omega
  have h5 := h4 i hi
  have h6 : xs[i]? = some (xs[i]'(by omega)) := List.getElem?_eq_getElem _
  rw [h6] at h5
  obtain ⟨z, e1, e2, _⟩ := DataW.trod_int he h5
  have h7 : (xs.map (·.1))[i]? = some (xs[i]'(by omega)).1 := by rw [List.getElem?_map, h6]; rfl
  rw [← h1.1, e2, List.getElem?_map, hx] at h7
  simp only [Option.map_some, Option.some.injEq, DataW.lit.injEq, Lit.int.injEq, true_and] at h7
  subst h7
  rw [hc, Nat.mul_one] at e1
  have h8 := congrArg (fun q => q[0]?) e1
  simp [List.getElem?_take] at h8
  simpa using h8
theorem glob_ints {P : Program} {W : World} {n : String} {g : Nat} {arr : Array Value} {k : IntKind} {l : List Int} (hg : P.globalNamed n = some g) (hv : W.var? P n = some arr)
    (h : ∀ (i : Nat) (x : Int), l[i]? = some x → arr.toList[i]? = some (.int k x)) (len : Nat) (hl : l.length = len) : ∃ us, RT (memW W) (.arr 1 len (l.map (T.int k))) us ∧ At (memW W) g 0 us := by
  refine ⟨l.map (Value.int k), ?_, ?_⟩
  · simp only [RT]
    exact ⟨by simpa using hl, reS_ints _ k l⟩
  · intro i v hi
    rw [List.getElem?_map] at hi
    cases hx : l[i]? with
    | none => rw [hx] at hi; cases hi
    | some x =>
      rw [hx] at hi
      cases hi
      show W.cell? _ = _
      rw [Nat.zero_add, World.var?_cell hg hv i, ← Array.getElem?_toList]
      exact h i x hx
end Go.Mg
