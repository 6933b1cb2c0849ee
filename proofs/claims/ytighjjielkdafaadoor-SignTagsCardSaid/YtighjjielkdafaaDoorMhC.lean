/- The evaluator that is told: what it can't decide of symbols it is told, and gives back as conditions. -/
import Derived.Test.YtighjjielkdafaaDoorMhA
namespace Go.Mg
open Go

/-- what the evaluator is told of an operation -/
inductive Orc where
  | c
  | t (u : T)
  | l (l : List T)
  | n (i : Int)
  | b (x : Bool)
  | s (x : ByteArray)
  | r (rs : List RR) (us : List T)

def AllP : List Prop → Prop
  | [] => True
  | p :: l => p ∧ AllP l
theorem AllP_append : ∀ {l r : List Prop}, AllP (l ++ r) → AllP l ∧ AllP r
  | [], _, h => ⟨trivial, h⟩
  | _ :: _, _, h => ⟨⟨h.1, (AllP_append h.2).1⟩, (AllP_append h.2).2⟩

/-! ### Paths -/
def lookO : AV → List Nat → List Orc → Option (AV × Nat × List Prop)
  | v, [], _ => some (v, 0, [])
  | .tup l, i :: p, q => match l[i]? with
    | some k => (lookO k p q).map fun x => (x.1, AV.sizes (l.take i) + x.2.1, x.2.2)
    | none => none
  | .t (.tup l), i :: p, q => match l[i]? with
    | some k => (lookO (.t k) p q).map fun x => (x.1, T.sizes (l.take i) + x.2.1, x.2.2)
    | none => none
  | .t (.arr es _ l), i :: p, .t u :: q => (lookO (.t u) p q).map fun x => (x.1, i * es + x.2.1, (l[i]? = some u) :: x.2.2)
  | _, _ :: _, _ => none
theorem lookO_ok : ∀ (v : AV) (p : List Nat) (q : List Orc) (x : AV) (o : Nat) (cs : List Prop), lookO v p q = some (x, o, cs) → AllP cs → look v p = some (x, o) := by
  intro v p
  induction p generalizing v with
  | nil =>
    intro q x o cs h _
    cases v <;> simp only [lookO, look, Option.some.injEq, Prod.mk.injEq] at h ⊢ <;> exact ⟨h.1, h.2.1⟩
  | cons i p ih =>
    intro q x o cs h hc
    cases v with
    | tup l =>
      simp only [lookO, look] at h ⊢
      cases hl : l[i]? with
      | none => rw [hl] at h; simp at h
      | some k =>
        rw [hl] at h
        simp only [Option.map_eq_some_iff] at h ⊢
        obtain ⟨⟨x', o', cs'⟩, h1, h2⟩ := h
        simp only [Prod.mk.injEq] at h2
        obtain ⟨rfl, rfl, rfl⟩ := h2
        exact ⟨_, ih k q _ _ _ h1 hc, rfl⟩
    | t u =>
      cases u with
      | tup l =>
        simp only [lookO, look] at h ⊢
        cases hl : l[i]? with
        | none => rw [hl] at h; simp at h
        | some k =>
          rw [hl] at h
          simp only [Option.map_eq_some_iff] at h ⊢
          obtain ⟨⟨x', o', cs'⟩, h1, h2⟩ := h
          simp only [Prod.mk.injEq] at h2
          obtain ⟨rfl, rfl, rfl⟩ := h2
          exact ⟨_, ih _ q _ _ _ h1 hc, rfl⟩
      | arr es n l =>
        cases q with
        | nil => simp [lookO] at h
        | cons q0 q =>
          cases q0 with
          | t u =>
            simp only [lookO, look, Option.map_eq_some_iff] at h ⊢
            obtain ⟨⟨x', o', cs'⟩, h1, h2⟩ := h
            simp only [Prod.mk.injEq] at h2
            obtain ⟨rfl, rfl, rfl⟩ := h2
            obtain ⟨hc1, hc2⟩ := hc
            rw [hc1]
            simp only [Option.map_eq_some_iff]
            exact ⟨_, ih _ q _ _ _ h1 hc2, rfl⟩
          | _ => simp [lookO] at h
      | _ => simp [lookO] at h
    | _ => simp [lookO] at h
def Ob.lookO : Ob → List Nat → List Orc → Option (AV × Nat × List Prop)
  | .var _ _ c, p, q => Mg.lookO c p q
  | .row _ _ es l, i :: p, .t u :: q => (Mg.lookO (.t u) p q).map fun x => (x.1, i * es + x.2.1, (l[i]? = some u) :: x.2.2)
  | _, _, _ => none
theorem Ob.lookO_ok {b : Ob} {p : List Nat} {q : List Orc} {x : AV} {o : Nat} {cs : List Prop} (h : b.lookO p q = some (x, o, cs)) (hc : AllP cs) : b.look p = some (x, o) := by
  cases b with
  | var sh ty c => exact Mg.lookO_ok c p q x o cs h hc
  | row sh ty es l =>
    cases p with
    | nil => simp [Ob.lookO] at h
    | cons i p =>
      cases q with
      | nil => simp [Ob.lookO] at h
      | cons q0 q =>
        cases q0 with
        | t u =>
          simp only [Ob.lookO, Ob.look, Option.map_eq_some_iff] at h ⊢
          obtain ⟨⟨x', o', cs'⟩, h1, h2⟩ := h
          simp only [Prod.mk.injEq] at h2
          obtain ⟨rfl, rfl, rfl⟩ := h2
          obtain ⟨hc1, hc2⟩ := hc
          rw [hc1]
          simp only [Option.map_eq_some_iff]
          exact ⟨_, Mg.lookO_ok _ p q _ _ _ h1 hc2, rfl⟩
        | _ => simp [Ob.lookO] at h
  | gone => simp [Ob.lookO] at h
def putO : AV → List Nat → AV → List Orc → Option (AV × List Prop)
  | v, [], x, _ => if x.good && x.size == v.size && x.agg == v.agg then some (x, []) else none
  | .tup l, i :: p, x, q => match l[i]? with
    | some k => (putO k p x q).map fun k' => (.tup (l.set i k'.1), k'.2)
    | none => none
  | .t (.tup l), i :: p, x, q => match l[i]? with
    | some k => match putO (.t k) p x q with
      | some (.t k', cs) => some (.t (.tup (l.set i k')), cs)
      | some (k', cs) => some (.tup ((l.map AV.t).set i k'), cs)
      | none => none
    | none => none
  | .t (.arr es n l), i :: p, x, .t u :: .l l' :: q => match putO (.t u) p x q with
      | some (.t k', cs) => some (.t (.arr es n l'), (l[i]? = some u) :: (l.set i k' = l') :: cs)
      | _ => none
  | _, _ :: _, _, _ => none
theorem putO_ok : ∀ (p : List Nat) (v x : AV) (q : List Orc) (y : AV) (cs : List Prop), putO v p x q = some (y, cs) → AllP cs → put v p x = some y := by
  intro p
  induction p with
  | nil =>
    intro v x q y cs h _
    cases v <;> simp only [putO, put] at h ⊢ <;> split at h <;> simp_all
  | cons i p ih =>
    intro v x q y cs h hc
    cases v with
    | tup l =>
      simp only [putO, put] at h ⊢
      cases hl : l[i]? with
      | none => rw [hl] at h; simp at h
      | some k =>
        rw [hl] at h
        simp only [Option.map_eq_some_iff] at h ⊢
        obtain ⟨⟨y', cs'⟩, h1, h2⟩ := h
        simp only [Prod.mk.injEq] at h2
        obtain ⟨rfl, rfl⟩ := h2
        exact ⟨_, ih k x q _ _ h1 hc, rfl⟩
    | t u =>
      cases u with
      | tup l =>
        simp only [putO, put] at h ⊢
        cases hl : l[i]? with
        | none => rw [hl] at h; simp at h
        | some k =>
          rw [hl] at h
          simp only at h ⊢
          split at h
          · rename_i k' cs' h1
            simp only [Option.some.injEq, Prod.mk.injEq] at h
            obtain ⟨rfl, rfl⟩ := h
            rw [ih _ x q _ _ h1 hc]
          · rename_i k' cs' hne h1
            simp only [Option.some.injEq, Prod.mk.injEq] at h
            obtain ⟨rfl, rfl⟩ := h
            rw [ih _ x q _ _ h1 hc]
            cases k' with
            | t k'' => exact (hne k'' rfl).elim
            | _ => rfl
          · cases h
      | arr es n l =>
        match q, h with
        | .t u :: .l l' :: q, h =>
          simp only [putO] at h
          split at h
          · rename_i k' cs' h1
            simp only [Option.some.injEq, Prod.mk.injEq] at h
            obtain ⟨rfl, rfl⟩ := h
            obtain ⟨hc1, hc2, hc3⟩ := hc
            simp only [put, hc1, ih _ x q _ _ h1 hc3, hc2]
          · cases h
      | _ => simp [putO] at h
    | _ => simp [putO] at h
def Ob.putO : Ob → List Nat → AV → List Orc → Option (Ob × List Prop)
  | .var sh ty c, p, x, q => (Mg.putO c p x q).map fun y => (.var sh ty y.1, y.2)
  | .row sh ty es l, i :: p, x, .t u :: .l l' :: q => match Mg.putO (.t u) p x q with
      | some (.t k', cs) => some (.row sh ty es l', (l[i]? = some u) :: (l.set i k' = l') :: cs)
      | _ => none
  | _, _, _, _ => none
theorem Ob.putO_ok {b : Ob} {p : List Nat} {x : AV} {q : List Orc} {y : Ob} {cs : List Prop} (h : b.putO p x q = some (y, cs)) (hc : AllP cs) : b.put p x = some y := by
  cases b with
  | var sh ty c =>
    simp only [Ob.putO, Ob.put, Option.map_eq_some_iff] at h ⊢
    obtain ⟨⟨y', cs'⟩, h1, h2⟩ := h
    simp only [Prod.mk.injEq] at h2
    obtain ⟨rfl, rfl⟩ := h2
    exact ⟨_, Mg.putO_ok p c x q _ _ h1 hc, rfl⟩
  | row sh ty es l =>
    match p, q, h with
    | i :: p, .t u :: .l l' :: q, h =>
      simp only [Ob.putO] at h
      split at h
      · rename_i k' cs' h1
        simp only [Option.some.injEq, Prod.mk.injEq] at h
        obtain ⟨rfl, rfl⟩ := h
        obtain ⟨hc1, hc2, hc3⟩ := hc
        simp only [Ob.put, hc1, Mg.putO_ok p _ x q _ _ h1 hc3, hc2]
      · cases h
  | gone => simp [Ob.putO] at h

/-! ### Elements -/
def Ob.elemsAtO (o : Ob) (p : List Nat) (off es lo : Nat) : Option (List T × List Prop) :=
  match o, p with
  | .row _ _ es' l, [] => if es' = es then some (l, [off = lo * es]) else none
  | .var _ _ c, p => match Mg.look c p with
    | some (.t (.arr es' _ l), o) => if es' = es then some (l, [off = o + lo * es]) else none
    | _ => none
  | _, _ => none
theorem Ob.elemsAtO_ok {o : Ob} {p : List Nat} {off es lo : Nat} {l : List T} {cs : List Prop} (h : o.elemsAtO p off es lo = some (l, cs)) (hc : AllP cs) : o.elemsAt p off es lo = some l := by
  unfold Ob.elemsAtO at h
  split at h
  · split at h
    · simp only [Option.some.injEq, Prod.mk.injEq] at h
      obtain ⟨rfl, rfl⟩ := h
      rename_i he
      simp only [Ob.elemsAt, he, hc.1, and_self, if_true]
    · cases h
  · split at h
    · rename_i hl
      split at h
      · simp only [Option.some.injEq, Prod.mk.injEq] at h
        obtain ⟨rfl, rfl⟩ := h
        rename_i he
        simp only [Ob.elemsAt, hl, he, hc.1, and_self, if_true]
      · cases h
    · cases h
  · cases h
def elemsO (ob : Nat → Option Ob) : AV → Option (List T × List Prop)
  | .win n p off es lo len => match ob n with
    | some o => match o.elemsAtO p off es lo with
      | some (l, cs) => some ((l.drop lo).take len, (lo + len ≤ l.length) :: cs)
      | none => none
    | none => none
  | v => (elemsOf ob v).map fun l => (l, [])
theorem elemsO_ok {ob : Nat → Option Ob} {v : AV} {l : List T} {cs : List Prop} (h : elemsO ob v = some (l, cs)) (hc : AllP cs) : elemsOf ob v = some l := by
  unfold elemsO at h
  split at h
  · split at h
    · rename_i o ho
      split at h
      · rename_i l' cs' hl
        simp only [Option.some.injEq, Prod.mk.injEq] at h
        obtain ⟨rfl, rfl⟩ := h
        simp only [elemsOf, ho, Ob.elemsAtO_ok hl hc.2]
        rw [if_pos hc.1]
      · cases h
    · cases h
  · simp only [Option.map_eq_some_iff, Prod.mk.injEq] at h
    obtain ⟨l', h1, rfl, _⟩ := h
    exact h1
end Go.Mg
