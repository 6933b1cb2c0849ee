/- The simulation: what it means that a state of the evaluator stands for a frame and a world; how it goes on. -/
import Derived.Test.YtdgbpoihgeefiaaDoorRRRMgB
namespace Go.Mg
open Go.RowKit

section
variable {m : Mem} {ρ : Rho}
theorem RAs.at_ : ∀ {l : List AV} {cs : List Value} (_ : RAs m ρ l cs) {i : Nat} {t : AV} (_ : l[i]? = some t), RA m ρ t ((cs.drop (AV.sizes (l.take i))).take t.size) ∧ AV.sizes (l.take i) + t.size ≤ cs.length
  | [], _, _, _, _, h => by simp at h
  | u :: l, cs, h, 0, t, hi => by
    simp only [RAs] at h
    obtain ⟨c, d, rfl, a, b⟩ := h
    simp at hi; subst hi
    have := RA.len u c a
    simp only [List.take_zero, AV.sizes, List.drop_zero, List.length_append]
    exact ⟨by rw [← this, List.take_left]; exact a, by omega⟩
  | u :: l, cs, h, i + 1, t, hi => by
    simp only [RAs] at h
    obtain ⟨c, d, rfl, a, b⟩ := h
    have hl := RA.len u c a
    obtain ⟨h1, h2⟩ := RAs.at_ b (i := i) (t := t) (by simpa using hi)
    simp only [List.take_succ_cons, AV.sizes, List.length_append]
    refine ⟨?_, by omega⟩
    rw [← hl, List.drop_length_add_append]; exact h1
theorem RAs.set : ∀ {l : List AV} {cs : List Value} (_ : RAs m ρ l cs) {i : Nat} {t u : AV} {c : List Value} (_ : l[i]? = some t) (_ : RA m ρ u c) (_ : u.size = t.size),
    RAs m ρ (l.set i u) (cs.take (AV.sizes (l.take i)) ++ (c ++ cs.drop (AV.sizes (l.take i) + t.size)))
  | [], _, _, _, _, _, _, h, _, _ => by simp at h
  | x :: l, cs, h, 0, t, u, c, hi, hc, hs => by
    simp only [RAs] at h
    obtain ⟨e, d, rfl, a, b⟩ := h
    simp at hi; subst hi
    have := RA.len x e a
    simp only [List.take_zero, AV.sizes, List.set_cons_zero, RAs, List.nil_append, Nat.zero_add]
    exact ⟨c, d, by rw [← this, List.drop_left], hc, b⟩
  | x :: l, cs, h, i + 1, t, u, c, hi, hc, hs => by
    simp only [RAs] at h
    obtain ⟨e, d, rfl, a, b⟩ := h
    have hl := RA.len x e a
    have ih := RAs.set b (i := i) (t := t) (by simpa using hi) hc hs
    simp only [List.take_succ_cons, AV.sizes, List.set_cons_succ, RAs]
    refine ⟨e, _, ?_, a, ih⟩
    rw [← hl, List.take_length_add_append, Nat.add_assoc, List.drop_length_add_append]
    simp
theorem RAs.of_trees : ∀ {l : List T} {cs : List Value}, RTs m l cs → RAs m ρ (l.map AV.t) cs
  | [], _, h => by simpa [RAs, RTs] using h
  | t :: l, _, h => by
    simp only [RTs] at h
    obtain ⟨c, d, rfl, a, b⟩ := h
    simp only [List.map_cons, RAs]
    exact ⟨c, d, rfl, by simpa [RA] using a, RAs.of_trees b⟩
theorem sizes_map : ∀ l : List T, AV.sizes (l.map AV.t) = T.sizes l
  | [] => rfl
  | t :: l => by simp [AV.sizes, T.sizes, AV.size, sizes_map l]
theorem avsizes_set : ∀ (l : List AV) (i : Nat) (t u : AV), l[i]? = some t → u.size = t.size → AV.sizes (l.set i u) = AV.sizes l
  | [], _, _, _, h, _ => by simp at h
  | x :: l, 0, t, u, h, hs => by simp at h; subst h; simp [AV.sizes, hs]
  | x :: l, i + 1, t, u, h, hs => by simp [AV.sizes, avsizes_set l i t u (by simpa using h) hs]

/-- take and drop of cells, joined -/
theorem cut_cut (cs : List Value) (o o' n k : Nat) (h : o' + k ≤ n) : ((((cs.drop o).take n).drop o').take k) = (cs.drop (o + o')).take k := by
  rw [List.drop_take, List.take_take, List.drop_drop, Nat.min_eq_left (by omega)]

theorem look_RA : ∀ (p : List Nat) (v : AV) (cs : List Value) (x : AV) (o : Nat), RA m ρ v cs → look v p = some (x, o) → RA m ρ x ((cs.drop o).take x.size) ∧ o + x.size ≤ cs.length
  | [], v, cs, x, o, h, hl => by
    simp [look] at hl
    obtain ⟨rfl, rfl⟩ := hl
    have := RA.len _ _ h
    simp [← this, h]
  | i :: p, v, cs, x, o, h, hl => by
    have step : ∀ (k : AV) (b n : Nat), RA m ρ k ((cs.drop b).take n) → n = k.size → b + n ≤ cs.length → ∀ o', look k p = some (x, o') → o = b + o' →
        RA m ρ x ((cs.drop o).take x.size) ∧ o + x.size ≤ cs.length := by
      intro k b n hk hn hb o' ho' e
      obtain ⟨h1, h2⟩ := look_RA p k _ x o' hk ho'
      have hlen : ((cs.drop b).take n).length = n := by simp; omega
      rw [hlen] at h2
      rw [cut_cut _ _ _ _ _ h2] at h1
      subst e
      exact ⟨h1, by omega⟩
    cases v with
    | tup l =>
      simp only [look] at hl
      cases hi : l[i]? with
      | none => simp [hi] at hl
      | some k =>
        simp only [hi, Option.map_eq_some_iff] at hl
        obtain ⟨⟨y, o'⟩, ho', e⟩ := hl
        simp only [Prod.mk.injEq] at e
        obtain ⟨rfl, rfl⟩ := e
        simp only [RA] at h
        obtain ⟨h1, h2⟩ := RAs.at_ h hi
        exact step k _ _ h1 rfl h2 o' ho' rfl
    | t u =>
      cases u with
      | tup l =>
        simp only [look] at hl
        cases hi : l[i]? with
        | none => simp [hi] at hl
        | some k =>
          simp only [hi, Option.map_eq_some_iff] at hl
          obtain ⟨⟨y, o'⟩, ho', e⟩ := hl
          simp only [Prod.mk.injEq] at e
          obtain ⟨rfl, rfl⟩ := e
          simp only [RA, RT] at h
          obtain ⟨h1, h2⟩ := RTs.at_ h hi
          exact step (.t k) _ _ (by simpa [RA] using h1) (by simp [AV.size]) h2 o' ho' rfl
      | arr es n l =>
        simp only [look] at hl
        cases hi : l[i]? with
        | none => simp [hi] at hl
        | some k =>
          simp only [hi, Option.map_eq_some_iff] at hl
          obtain ⟨⟨y, o'⟩, ho', e⟩ := hl
          simp only [Prod.mk.injEq] at e
          obtain ⟨rfl, rfl⟩ := e
          simp only [RA, RT] at h
          obtain ⟨h1, h2⟩ := REs.at_ h.2 hi
          have hsz := RT.len k _ h1
          simp at hsz
          exact step (.t k) _ _ (by simpa [RA] using h1) (by simp [AV.size]; omega) h2 o' ho' rfl
      | _ => simp [look] at hl
    | _ => simp [look] at hl

theorem put_size : ∀ (p : List Nat) (v x v' : AV), put v p x = some v' → v'.size = v.size ∧ v'.agg = v.agg
  | [], v, x, v', h => by
    simp [put] at h
    obtain ⟨⟨⟨_, h1⟩, h2⟩, rfl⟩ := h
    exact ⟨h1, h2⟩
  | i :: p, v, x, v', h => by
    cases v with
    | tup l =>
      simp only [put] at h
      cases hi : l[i]? with
      | none => simp [hi] at h
      | some k =>
        simp only [hi, Option.map_eq_some_iff] at h
        obtain ⟨k', hk, rfl⟩ := h
        exact ⟨by simp [AV.size, avsizes_set l i k k' hi (put_size p k x k' hk).1], by simp [AV.agg]⟩
    | t u =>
      cases u with
      | tup l =>
        simp only [put] at h
        cases hi : l[i]? with
        | none => simp [hi] at h
        | some k =>
          simp only [hi] at h
          cases hk : put (.t k) p x with
          | none => simp [hk] at h
          | some k' =>
            have hs := (put_size p (.t k) x k' hk).1
            simp only [hk] at h
            cases k' with
            | t k'' =>
              simp at h; subst h
              exact ⟨by simp [AV.size, T.size, sizes_set l i k k'' hi (by simpa [AV.size] using hs)], by simp [AV.agg, T.agg]⟩
            | _ =>
              simp at h; subst h
              refine ⟨?_, by simp [AV.agg, T.agg]⟩
              simp only [AV.size, T.size]
              rw [avsizes_set _ i (.t k) _ (by simp [hi]) hs, sizes_map]
      | arr es n l =>
        simp only [put] at h
        cases hi : l[i]? with
        | none => simp [hi] at h
        | some k =>
          simp only [hi] at h
          cases hk : put (.t k) p x with
          | none => simp [hk] at h
          | some k' =>
            simp only [hk] at h
            cases k' with
            | t k'' => simp at h; subst h; exact ⟨by simp [AV.size, T.size], by simp [AV.agg, T.agg]⟩
            | _ => simp at h
      | _ => simp [put] at h
    | _ => simp [put] at h

theorem splice_in (cs xs : List Value) (b o n k : Nat) (h1 : b + n ≤ cs.length) (h2 : o + k ≤ n) (h3 : xs.length = k) :
    cs.take b ++ ((((cs.drop b).take n).take o ++ (xs ++ ((cs.drop b).take n).drop (o + k))) ++ cs.drop (b + n)) = cs.take (b + o) ++ (xs ++ cs.drop (b + o + k)) := by
  have e1 : ((cs.drop b).take n).take o = (cs.drop b).take o := by rw [List.take_take, Nat.min_eq_left (by omega)]
  have e2 : cs.take b ++ (cs.drop b).take o = cs.take (b + o) := by rw [List.take_add]
  have e3 : ((cs.drop b).take n).drop (o + k) = (cs.drop (b + o + k)).take (n - (o + k)) := by rw [List.drop_take, List.drop_drop, Nat.add_assoc]
  have e4 : (cs.drop (b + o + k)).take (n - (o + k)) ++ cs.drop (b + n) = cs.drop (b + o + k) := by
    have : cs.drop (b + n) = (cs.drop (b + o + k)).drop (n - (o + k)) := by rw [List.drop_drop]; congr 1; omega
    rw [this, List.take_append_drop]
  rw [e1, e3]
  simp only [List.append_assoc]
  rw [← List.append_assoc, e2, e4]

theorem put_RA : ∀ (p : List Nat) (v : AV) (cs : List Value) (x v' y : AV) (o : Nat) (xs : List Value), RA m ρ v cs → put v p x = some v' → look v p = some (y, o) → RA m ρ x xs →
    x.size = y.size ∧ RA m ρ v' (cs.take o ++ (xs ++ cs.drop (o + xs.length)))
  | [], v, cs, x, v', y, o, xs, h, hp, hl, hx => by
    simp [put] at hp
    obtain ⟨⟨⟨_, h1⟩, h2⟩, rfl⟩ := hp
    simp [look] at hl
    obtain ⟨rfl, rfl⟩ := hl
    have e1 := RA.len _ _ h
    have e2 := RA.len _ _ hx
    refine ⟨h1, ?_⟩
    rw [List.take_zero, Nat.zero_add, List.drop_of_length_le (by omega)]
    simpa using hx
  | i :: p, v, cs, x, v', y, o, xs, h, hp, hl, hx => by
    have hxl := RA.len _ _ hx
    -- what is wanted, from what lies at place b, n cells
    have step : ∀ (k k' : AV) (b n o' : Nat), RA m ρ k ((cs.drop b).take n) → n = k.size → b + n ≤ cs.length → put k p x = some k' → look k p = some (y, o') → o = b + o' →
        x.size = y.size ∧ k'.size = k.size ∧ ∃ ds, RA m ρ k' ds ∧ cs.take b ++ (ds ++ cs.drop (b + n)) = cs.take o ++ (xs ++ cs.drop (o + xs.length)) := by
      intro k k' b n o' hk hn hb hput hlk e
      obtain ⟨h1, h2⟩ := put_RA p k _ x k' y o' xs hk hput hlk hx
      obtain ⟨_, h3⟩ := look_RA p k _ y o' hk hlk
      have hlen : ((cs.drop b).take n).length = n := by simp; omega
      rw [hlen] at h3
      refine ⟨h1, (put_size p k x k' hput).1, _, h2, ?_⟩
      subst e
      exact splice_in cs xs b o' n xs.length hb (by omega) rfl
    cases v with
    | tup l =>
      simp only [put] at hp
      simp only [look] at hl
      cases hi : l[i]? with
      | none => simp [hi] at hp
      | some k =>
        simp only [hi, Option.map_eq_some_iff] at hp hl
        obtain ⟨k', hk', rfl⟩ := hp
        obtain ⟨⟨y', o'⟩, ho', e⟩ := hl
        simp only [Prod.mk.injEq] at e
        obtain ⟨rfl, rfl⟩ := e
        simp only [RA] at h
        obtain ⟨h1, h2⟩ := RAs.at_ h hi
        obtain ⟨q1, q2, ds, q3, q4⟩ := step k k' _ _ o' h1 rfl h2 hk' ho' rfl
        refine ⟨q1, ?_⟩
        rw [← q4]
        simp only [RA]
        exact RAs.set h hi q3 q2
    | t u =>
      cases u with
      | tup l =>
        simp only [put] at hp
        simp only [look] at hl
        cases hi : l[i]? with
        | none => simp [hi] at hp
        | some k =>
          simp only [hi, Option.map_eq_some_iff] at hp hl
          obtain ⟨⟨y', o'⟩, ho', e⟩ := hl
          simp only [Prod.mk.injEq] at e
          obtain ⟨rfl, rfl⟩ := e
          cases hk : put (.t k) p x with
          | none => simp [hk] at hp
          | some k' =>
            simp only [hk] at hp
            simp only [RA, RT] at h
            obtain ⟨h1, h2⟩ := RTs.at_ h hi
            obtain ⟨q1, q2, ds, q3, q4⟩ := step (.t k) k' _ _ o' (by simpa [RA] using h1) (by simp [AV.size]) h2 hk ho' rfl
            refine ⟨q1, ?_⟩
            rw [← q4]
            cases k' with
            | t k'' =>
              simp at hp; subst hp
              simp only [RA, RT] at q3 ⊢
              exact RTs.set h hi q3 (by simpa [AV.size] using q2)
            | _ =>
              simp at hp; subst hp
              simp only [RA]
              have := RAs.set (ρ := ρ) (RAs.of_trees (ρ := ρ) h) (i := i) (t := .t k) (by simp [hi]) q3 q2
              rw [← List.map_take, sizes_map] at this
              simpa [AV.size] using this
      | arr es n l =>
        simp only [put] at hp
        simp only [look] at hl
        cases hi : l[i]? with
        | none => simp [hi] at hp
        | some k =>
          simp only [hi, Option.map_eq_some_iff] at hp hl
          obtain ⟨⟨y', o'⟩, ho', e⟩ := hl
          simp only [Prod.mk.injEq] at e
          obtain ⟨rfl, rfl⟩ := e
          cases hk : put (.t k) p x with
          | none => simp [hk] at hp
          | some k' =>
            simp only [hk] at hp
            simp only [RA, RT] at h
            obtain ⟨h1, h2⟩ := REs.at_ h.2 hi
            have hsz := RT.len k _ h1
            simp at hsz
            obtain ⟨q1, q2, ds, q3, q4⟩ := step (.t k) k' _ _ o' (by simpa [RA] using h1) (by simp [AV.size]; omega) h2 hk ho' rfl
            refine ⟨q1, ?_⟩
            rw [← q4]
            cases k' with
            | t k'' =>
              simp at hp; subst hp
              simp only [RA, RT] at q3 ⊢
              refine ⟨by simpa using h.1, REs.set h.2 (List.getElem?_eq_some_iff.1 hi).1 q3 ?_⟩
              have := RT.len k'' _ q3
              simp only [AV.size] at q2
              omega
            | _ => simp at hp
      | _ => simp [put] at hp
    | _ => simp [put] at hp
end
end Go.Mg
