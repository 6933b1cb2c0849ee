/- Nil as an empty slice; states made tidy; loops as iterations; ends; specifications out of plain functions. -/
import Derived.Test.YtighjjielkdafaaDoorMhE
namespace Go.Mg
open Go Go.RowKit

/-! ### Nil is as good as an empty slice -/
mutual
def leT : T → T → Prop
  | .nils, .slc _ l => l = []
  | .tup l, .tup r => leTs l r
  | a, b => a = b
def leTs : List T → List T → Prop
  | [], [] => True
  | a :: l, b :: r => leT a b ∧ leTs l r
  | _, _ => False
end
mutual
theorem leT.refl : ∀ t : T, leT t t
  | .tup l => by simp only [leT]; exact leTs.refl l
  | .int _ _ => by simp [leT]
  | .bool _ => by simp [leT]
  | .str _ => by simp [leT]
  | .nilp => by simp [leT]
  | .ptr _ => by simp [leT]
  | .nils => by simp [leT]
  | .slc _ _ => by simp [leT]
  | .arr _ _ _ => by simp [leT]
  | .fn _ => by simp [leT]
  | .nilf => by simp [leT]
theorem leTs.refl : ∀ l : List T, leTs l l
  | [] => by simp [leTs]
  | t :: l => by simp only [leTs]; exact ⟨leT.refl t, leTs.refl l⟩
end
theorem leT_tup {t : T} {r : List T} (h : leT t (.tup r)) : ∃ l, t = .tup l ∧ leTs l r := by
  cases t <;> simp [leT] at h
  case tup l => exact ⟨l, rfl, h⟩
theorem leTs_cons {l : List T} {b : T} {r : List T} (h : leTs l (b :: r)) : ∃ a l', l = a :: l' ∧ leT a b ∧ leTs l' r := by
  cases l with
  | nil => simp [leTs] at h
  | cons a l' => simp only [leTs] at h; exact ⟨a, l', rfl, h.1, h.2⟩
theorem leTs_nil {l : List T} (h : leTs l []) : l = [] := by
  cases l with
  | nil => rfl
  | cons a l' => simp [leTs] at h
theorem leT_cases {t u : T} (h : leT t u) : (t = .nils ∧ ∃ es, u = .slc es []) ∨ (∃ l r, t = .tup l ∧ u = .tup r ∧ leTs l r) ∨ t = u := by
  cases t with
  | nils => cases u <;> simp [leT] at h; case nils => exact .inr (.inr rfl)
            case slc es l => subst h; exact .inl ⟨rfl, _, rfl⟩
  | tup l => cases u <;> simp [leT] at h; case tup r => exact .inr (.inl ⟨l, r, rfl, rfl, h⟩)
  | _ => simp [leT] at h; exact .inr (.inr h)
theorem leT_agg {t u : T} (h : leT t u) : t.agg = u.agg := by
  rcases leT_cases h with ⟨rfl, es, rfl⟩ | ⟨l, r, rfl, rfl, _⟩ | rfl <;> rfl
mutual
theorem leT_size : ∀ {t u : T}, leT t u → t.size = u.size
  | .tup l, u, h => by
    cases u <;> simp only [leT] at h <;> try (cases h)
    simp only [T.size]; exact leTs_size h
  | .nils, u, h => by
    cases u <;> simp only [leT] at h <;> try (cases h)
    all_goals rfl
  | .int _ _, u, h => by simp [leT] at h; rw [h]
  | .bool _, u, h => by simp [leT] at h; rw [h]
  | .str _, u, h => by simp [leT] at h; rw [h]
  | .nilp, u, h => by simp [leT] at h; rw [h]
  | .ptr _, u, h => by simp [leT] at h; rw [h]
  | .slc _ _, u, h => by simp [leT] at h; rw [h]
  | .arr _ _ _, u, h => by simp [leT] at h; rw [h]
  | .fn _, u, h => by simp [leT] at h; rw [h]
  | .nilf, u, h => by simp [leT] at h; rw [h]
theorem leTs_size : ∀ {l r : List T}, leTs l r → T.sizes l = T.sizes r
  | [], r, h => by
    cases r with
    | nil => rfl
    | cons => simp [leTs] at h
  | t :: l, r, h => by
    cases r with
    | nil => simp [leTs] at h
    | cons u r => simp only [leTs] at h; simp only [T.sizes]; rw [leT_size h.1, leTs_size h.2]
end
mutual
theorem RT.le {m : Mem} : ∀ {t u : T} {cs : List Value}, leT t u → RT m t cs → RT m u cs
  | .tup l, u, cs, h, k => by
    cases u <;> simp only [leT] at h <;> try (cases h)
    simp only [RT] at k ⊢; exact RTs.le h k
  | .nils, u, cs, h, k => by
    rcases leT_cases h with ⟨_, es, rfl⟩ | ⟨l, r, e, _, _⟩ | rfl
    · simp only [RT] at k ⊢
      exact ⟨none, 0, by simpa using k, by simp, by simp⟩
    · cases e
    · exact k
  | .int _ _, u, cs, h, k => by simp [leT] at h; rw [← h]; exact k
  | .bool _, u, cs, h, k => by simp [leT] at h; rw [← h]; exact k
  | .str _, u, cs, h, k => by simp [leT] at h; rw [← h]; exact k
  | .nilp, u, cs, h, k => by simp [leT] at h; rw [← h]; exact k
  | .ptr _, u, cs, h, k => by simp [leT] at h; rw [← h]; exact k
  | .slc _ _, u, cs, h, k => by simp [leT] at h; rw [← h]; exact k
  | .arr _ _ _, u, cs, h, k => by simp [leT] at h; rw [← h]; exact k
  | .fn _, u, cs, h, k => by simp [leT] at h; rw [← h]; exact k
  | .nilf, u, cs, h, k => by simp [leT] at h; rw [← h]; exact k
theorem RTs.le {m : Mem} : ∀ {l r : List T} {cs : List Value}, leTs l r → RTs m l cs → RTs m r cs
  | [], r, cs, h, k => by
    cases r with
    | nil => exact k
    | cons => simp [leTs] at h
  | t :: l, r, cs, h, k => by
    cases r with
    | nil => simp [leTs] at h
    | cons u r =>
      simp only [leTs] at h
      simp only [RTs] at k ⊢
      obtain ⟨c, d, e, h1, h2⟩ := k
      exact ⟨c, d, e, RT.le h.1 h1, RTs.le h.2 h2⟩
end
theorem RV0.le {m : Mem} {ρ : Rho} {t u : T} {x : Value} (h : leT t u) (k : RV0 m ρ (.t t) x) : RV0 m ρ (.t u) x := by
  unfold RV0 at k ⊢
  have ha := leT_agg h
  by_cases hq : t.agg = true
  · have hq1 : (AV.t t).agg = true := hq
    have hq2 : (AV.t u).agg = true := by simp only [AV.agg]; rw [← ha]; exact hq
    rw [if_pos hq1] at k
    rw [if_pos hq2]
    obtain ⟨cs, e, k⟩ := k
    simp only [RA] at k ⊢
    exact ⟨cs, e, RT.le h k⟩
  · have hq1 : ¬ (AV.t t).agg = true := hq
    have hq2 : ¬ (AV.t u).agg = true := by simp only [AV.agg]; rw [← ha]; exact hq
    rw [if_neg hq1] at k
    rw [if_neg hq2]
    simp only [RA] at k ⊢
    exact RT.le h k
theorem ArgsOK.le {m : Mem} {w : World} : ∀ {bs : List Bool} {ts us : List T} {vs : List Value} {gs : List Nat}, leTs ts us → ArgsOK m w bs ts vs gs → ArgsOK m w bs us vs gs
  | bs, [], us, vs, gs, h, k => by
    cases us with
    | nil => exact k
    | cons => simp [leTs] at h
  | true :: bs, t :: ts, us, vs, gs, h, k => by
    cases us with
    | nil => simp [leTs] at h
    | cons u us =>
      simp only [leTs] at h
      simp only [ArgsOK] at k ⊢
      obtain ⟨v, vs', g, gs', cs, ty, h1, h2, h3, h4, h5, h6, h7⟩ := k
      exact ⟨v, vs', g, gs', cs, ty, h1, h2, h3, h4, RT.le h.1 h5, h6, ArgsOK.le h.2 h7⟩
  | false :: bs, t :: ts, us, vs, gs, h, k => by
    cases us with
    | nil => simp [leTs] at h
    | cons u us =>
      simp only [leTs] at h
      simp only [ArgsOK] at k ⊢
      obtain ⟨v, vs', h1, h2, h3⟩ := k
      exact ⟨v, vs', h1, RV0.le h.1 h2, ArgsOK.le h.2 h3⟩
  | [], t :: ts, us, vs, gs, h, k => by
    cases us with
    | nil => simp [leTs] at h
    | cons u us =>
      simp only [leTs] at h
      simp only [ArgsOK] at k ⊢
      obtain ⟨v, vs', h1, h2, h3⟩ := k
      exact ⟨v, vs', h1, RV0.le h.1 h2, ArgsOK.le h.2 h3⟩

/-! ### Specifications out of plain functions -/
open Classical in
noncomputable def specP {A R : Type} (lent : List Bool) (flat : Bool) (ea : A → List T) (F : A → Option R) (er : A → R → List RR × List T) : Spec :=
  { lent := lent, flat := flat, fn := fun ts => if h : ∃ x : A × R, leTs ts (ea x.1) ∧ F x.1 = some x.2 then some (er (Classical.choose h).1 (Classical.choose h).2) else none }
def Inj {α : Type} (e : α → T) : Prop := ∀ t a b, leT t (e a) → leT t (e b) → a = b
def InjA {α : Type} (e : α → List T) : Prop := ∀ t a b, leTs t (e a) → leTs t (e b) → a = b
theorem specP_fn {A R : Type} {lent : List Bool} {flat : Bool} {ea : A → List T} {F : A → Option R} {er : A → R → List RR × List T} (hi : InjA ea) {ts : List T} {a : A} {r : R} (hle : leTs ts (ea a)) (h : F a = some r) : (specP lent flat ea F er).fn ts = some (er a r) := by
  have hx : ∃ x : A × R, leTs ts (ea x.1) ∧ F x.1 = some x.2 := ⟨(a, r), hle, h⟩
  simp only [specP]
  rw [dif_pos hx]
  have h1 := Classical.choose_spec hx
  have h2 := hi _ _ _ h1.1 hle
  have h3 := h1.2
  rw [h2, h] at h3
  rw [h2, ← Option.some.inj h3]
theorem specP_inv {A R : Type} {lent : List Bool} {flat : Bool} {ea : A → List T} {F : A → Option R} {er : A → R → List RR × List T} {ts : List T} {x : List RR × List T} (h : (specP lent flat ea F er).fn ts = some x) : ∃ a r, leTs ts (ea a) ∧ F a = some r ∧ er a r = x := by
  simp only [specP] at h
  split at h
  · rename_i hx
    exact ⟨_, _, (Classical.choose_spec hx).1, (Classical.choose_spec hx).2, Option.some.inj h⟩
  · cases h
variable {P : Program} {E : Env} {C : Ctx} {m m' : Mem} {ρ ρ' : Rho} {w w' : World} {a : Act} {s s' : St} {K : Out → Prop} {c x y : Code}
open Classical in
/-- A function's specification, out of its walk. -/
theorem specP_B (hE : EnvOK P E) {f : Nat} {fn : Func} {A R : Type} {lent : List Bool} {flat : Bool} {ea : A → List T} {F : A → Option R} {er : A → R → List RR × List T} (hf : P.funcs[f]? = some fn) (hb : fn.body = some c) (hname : fn.name ≠ "runtime.NumGoroutine") (hnt : fn.ntmps = E.ntmps)
    (hlen : ∀ a, (ea a).length ≤ E.ntmps) 
    (h : ∀ a r, F a = some r → ∀ C : Ctx, (∀ n g, (n, g) ∈ C.lent → n ∈ (initOb 0 lent (ea a)).map (·.1)) → (∀ n g, (n, g) ∈ C.lent → 50000 ≤ n) →
      Ab P E C c ⟨initTm 0 lent (ea a), initOb 0 lent (ea a)⟩ (End (Done E fn.results.toList lent (ea a) (er a r).1 (er a r).2))) : SpecB P E.glob f (specP lent flat ea F er) := by
    refine ⟨⟨fn, c, hf, hb, hname⟩, ?_⟩
    intro m w ts vs gs rs us h1 h2 h3 h4 h5
    obtain ⟨a, r, k1, k2, k3⟩ := specP_inv h5
    have hB : SpecB P E.glob f { lent := lent, fn := fun ts => if ts = ea a then some (rs, us) else none } := by
      refine spec_of_body hE hf hb hname hnt ?_
      intro ts' rs' us' hh
      simp only at hh
      split at hh
      · rename_i e
        subst e
        injection hh with hh
        injection hh with e1 e2
        subst e1 e2
        refine ⟨hlen a, ?_⟩
        intro C q1 q2
        have := h a r k2 C q1 q2
        rw [k3] at this
        exact this
      · cases hh
    exact hB.2 m w (ea a) vs gs rs us h1 h2 (ArgsOK.le k1 h3) h4 (by simp)
/-- .. with the word on what its results hang on -/
theorem specP_ok (hE : EnvOK P E) {f : Nat} {fn : Func} {A R : Type} {lent : List Bool} {flat : Bool} {ea : A → List T} {F : A → Option R} {er : A → R → List RR × List T} (hf : P.funcs[f]? = some fn) (hb : fn.body = some c) (hname : fn.name ≠ "runtime.NumGoroutine") (hnt : fn.ntmps = E.ntmps)
    (hlen : ∀ a, (ea a).length ≤ E.ntmps) (hfl : flat = true → ∀ a r, RR.flats (er a r).1 = true ∧ T.flats (er a r).2 = true)
    (h : ∀ a r, F a = some r → ∀ C : Ctx, (∀ n g, (n, g) ∈ C.lent → n ∈ (initOb 0 lent (ea a)).map (·.1)) → (∀ n g, (n, g) ∈ C.lent → 50000 ≤ n) →
      Ab P E C c ⟨initTm 0 lent (ea a), initOb 0 lent (ea a)⟩ (End (Done E fn.results.toList lent (ea a) (er a r).1 (er a r).2))) : SpecOK P E.glob f (specP lent flat ea F er) := by
  refine ⟨.inl (specP_B hE hf hb hname hnt hlen h), ?_⟩
  intro hfl' ts rs us hh
  obtain ⟨a, r, _, _, k3⟩ := specP_inv hh
  have := hfl hfl' a r
  rw [k3] at this
  exact this
end Go.Mg
