/- Regions that are told; loops as iterations; ends. -/
import Derived.Test.YtighjjielkdafaaDoorMhH
namespace Go.Mg
open Go Go.RowKit
variable {P : Program} {E : Env} {C : Ctx} {m m' : Mem} {ρ ρ' : Rho} {w w' : World} {a : Act} {s s' : St} {K : Out → Prop} {c x y : Code} {L : List Nat}

theorem bind_some {α β : Type} {o : Option α} {f : α → Option β} {r : β} (h : o.bind f = some r) : ∃ v, o = some v ∧ f v = some r := Option.bind_eq_some_iff.1 h
theorem cond_t {α : Type} {b : Bool} {x y r : α} (hb : b = true) (h : (bif b then x else y) = r) : x = r := by subst hb; exact h
theorem cond_f {α : Type} {b : Bool} {x y r : α} (hb : b = false) (h : (bif b then x else y) = r) : y = r := by subst hb; exact h
/-- a condition that is asked -/
def ask {α : Type} (b : Bool) (x : Option α) : Option α := bif b then x else none
theorem ask_some {α : Type} {b : Bool} {x : Option α} {r : α} (h : ask b x = some r) : b = true ∧ x = some r := by
  cases b
  · cases h
  · exact ⟨rfl, h⟩
theorem ask_dec {α : Type} {p : Prop} [Decidable p] {x : Option α} {r : α} (h : ask (decide p) x = some r) : p ∧ x = some r := ⟨of_decide_eq_true (ask_some h).1, (ask_some h).2⟩

/-- tidied behind -/
def tidyT (L : List Nat) (q : Tidy) : Option (St × List Prop) → Option (St × List Prop)
  | some x => match x.1.tidy L q with
    | some s => some (s, x.2)
    | none => none
  | none => none
theorem tidyT_some {L : List Nat} {q : Tidy} {o : Option (St × List Prop)} {s : St} {cs : List Prop} (h : tidyT L q o = some (s, cs)) : ∃ s1, o = some (s1, cs) ∧ s1.tidy L q = some s := by
  unfold tidyT at h
  split at h
  · rename_i x
    split at h
    · rename_i s2 h2
      simp only [Option.some.injEq, Prod.mk.injEq] at h
      obtain ⟨rfl, rfl⟩ := h
      exact ⟨x.1, rfl, h2⟩
    · cases h
  · cases h
theorem Ab.tidyK {q : Tidy} (hC : ∀ n g, (n, g) ∈ C.lent → 50000 ≤ n) (hL : ∀ n g, (n, g) ∈ C.lent → n ∈ L) {s1 : St} (ht : s1.tidy L q = some s') (h : Ab P E C c s' K) : Ab P E C c s1 K := by
  intro m ρ a w Q h1 h2 h3
  obtain ⟨m', ρ', k1, k2⟩ := tidy_ok hC hL h1 ht
  exact h m' ρ' a w Q k2 (h2.mono k1) (fun out ho => (h3 out ho).mono k1)
theorem Fin.tidy {q : Tidy} {Q : Exit → Act → World → Prop} {m0 : Mem} (hC : ∀ n g, (n, g) ∈ C.lent → 50000 ≤ n) (hL : ∀ n g, (n, g) ∈ C.lent → n ∈ L) {s1 : St} (ht : s1.tidy L q = some s') (h : Fin E C Q m0 (.norm s')) : Fin E C Q m0 (.norm s1) := by
  intro m ρ a w h1 h2
  obtain ⟨m', ρ', k1, k2⟩ := tidy_ok hC hL h2 ht
  exact h m' ρ' a w (h1.trans k1) k2
theorem Ab.regT (hE : EnvOK P E) (hC : ∀ n g, (n, g) ∈ C.lent → 50000 ≤ n) (hL : ∀ n g, (n, g) ∈ C.lent → n ∈ L) {id : Nat} {ops : Array Oper} (qs : List (List Orc)) (q : Tidy) (s' : St) (cs : List Prop) (he : tidyT L q (evT E ops ops.toList qs s) = some (s', cs)) (hc : AllP cs) (hk : K (.norm s')) :
    Ab P E C (.region id ops false) s K := by
  obtain ⟨s1, h1, h2⟩ := tidyT_some he
  have h3 := evT_ok h1 hc
  intro m ρ a w Q k1 k2 k3
  refine Ab.region (K := fun o => o = .norm s1) hE hC h3 rfl m ρ a w Q k1 k2 ?_
  rintro out rfl
  exact Fin.tidy hC hL h2 (k3 _ hk)
theorem Ab.regA (hE : EnvOK P E) (hC : ∀ n g, (n, g) ∈ C.lent → 50000 ≤ n) (hL : ∀ n g, (n, g) ∈ C.lent → n ∈ L) {id : Nat} {ops : Array Oper} (qs : List (List Orc)) (q : Tidy) (s' : St) (cs : List Prop) (hok : anyOK ops (preOf ops.toList []) = true) (he : tidyT L q (evTA E ops (preOf ops.toList []) 0 ops.toList qs [] [] s) = some (s', cs)) (hc : AllP cs) (hk : K (.norm s')) :
    Ab P E C (.region id ops true) s K := by
  obtain ⟨s1, h1, h2⟩ := tidyT_some he
  have h3 := evTA_ok h1 hc
  intro m ρ a w Q k1 k2 k3
  refine Ab.regionAny (K := fun o => o = .norm s1) hE hC _ hok h3 rfl m ρ a w Q k1 k2 ?_
  rintro out rfl
  exact Fin.tidy hC hL h2 (k3 _ hk)

/-! ### Where a way goes on -/
theorem Nxt_norm {J : St → Prop} (h : J s) : Nxt J K (.norm s) := h
theorem Nxt_exit {J : St → Prop} {id : Nat} (h : K (.exit id s)) : Nxt J K (.exit id s) := h
theorem Nxt_ret {J : St → Prop} (h : K (.ret s)) : Nxt J K (.ret s) := h
theorem Blk_norm {id : Nat} (h : K (.norm s)) : Blk id K (.norm s) := h
theorem Blk_ret {id : Nat} (h : K (.ret s)) : Blk id K (.ret s) := h
theorem Blk_same {id : Nat} (h : K (.norm s)) : Blk id K (.exit id s) := by simp only [Blk, if_true]; exact h
theorem Blk_other {id id' : Nat} (hne : (id' == id) = false) (h : K (.exit id' s)) : Blk id K (.exit id' s) := by
  have : id' ≠ id := by simpa using hne
  simp only [Blk, if_neg this]; exact h
/-- ways that meet: the states of a family -/
theorem Ab.seqJ {D : Type} (st : D → St) (I : D → Prop) (hC : ∀ n g, (n, g) ∈ C.lent → 50000 ≤ n) (hL : ∀ n g, (n, g) ∈ C.lent → n ∈ L) (hx : Ab P E C x s (Nxt (fun s1 => ∃ d q, I d ∧ s1.tidy L q = some (st d)) K)) (hy : ∀ d, I d → Ab P E C y (st d) K) : Ab P E C (.seq x y) s K := by
  refine Ab.seq (hx.mono ?_)
  intro out ho
  cases out with
  | norm s1 =>
    obtain ⟨d, q, h1, h2⟩ := ho
    exact Ab.tidyK hC hL h2 (hy d h1)
  | exit id s1 => exact ho
  | ret s1 => exact ho
theorem Ab.skipK (h : K (.norm s)) : Ab P E C .skip s K := Ab.skip h
/-! ### Loops -/
def iter {D X : Type} (b : D → Option (D ⊕ X)) : Nat → D → Option X
  | 0, _ => none
  | n + 1, d => (b d).bind fun
    | .inl d' => iter b n d'
    | .inr x => some x
/-- what a round comes to -/
def LK {D X : Type} (L : List Nat) (st : D → St) (Px : X → Out → Prop) (o : D ⊕ X) : Out → Prop
  | .norm s1 => ∃ d' q, o = .inl d' ∧ s1.tidy L q = some (st d')
  | .exit id s1 => ∃ x, o = .inr x ∧ Px x (.exit id s1)
  | .ret s1 => ∃ x, o = .inr x ∧ Px x (.ret s1)
theorem LK_norm {D X : Type} {st : D → St} {Px : X → Out → Prop} {o : D ⊕ X} {s1 : St} (d' : D) (q : Tidy) (ho : some (Sum.inl d') = some o) (h : s1.tidy L q = some (st d')) : LK L st Px o (.norm s1) := ⟨d', q, (Option.some.inj ho).symm, h⟩
theorem LK_exit {D X : Type} {st : D → St} {Px : X → Out → Prop} {o : D ⊕ X} {s1 : St} {id : Nat} (x : X) (ho : some (Sum.inr x) = some o) (h : Px x (.exit id s1)) : LK L st Px o (.exit id s1) := ⟨x, (Option.some.inj ho).symm, h⟩
theorem LK_ret {D X : Type} {st : D → St} {Px : X → Out → Prop} {o : D ⊕ X} {s1 : St} (x : X) (ho : some (Sum.inr x) = some o) (h : Px x (.ret s1)) : LK L st Px o (.ret s1) := ⟨x, (Option.some.inj ho).symm, h⟩
/-- the end of a loop: by its exit; or by a return -/
def PX {X : Type} (L : List Nat) (id : Nat) (st : X → St) (x : X) : Out → Prop
  | .exit id' s1 => id' = id ∧ ∃ q, s1.tidy L q = some (st x)
  | _ => False
theorem PX_mk {X : Type} {id : Nat} {st : X → St} {x : X} {s1 : St} (q : Tidy) (h : s1.tidy L q = some (st x)) : PX L id st x (.exit id s1) := ⟨rfl, q, h⟩
def PR {R X : Type} (L : List Nat) (id : Nat) (st : X → St) (Kr : R → St → Prop) : R ⊕ X → Out → Prop
  | .inl r, .ret s1 => Kr r s1
  | .inr x, .exit id' s1 => id' = id ∧ ∃ q, s1.tidy L q = some (st x)
  | _, _ => False
theorem PR_mk {R X : Type} {id : Nat} {st : X → St} {Kr : R → St → Prop} {x : X} {s1 : St} (q : Tidy) (h : s1.tidy L q = some (st x)) : PR L id st Kr (.inr x) (.exit id s1) := ⟨rfl, q, h⟩
theorem PR_ret {R X : Type} {id : Nat} {st : X → St} {Kr : R → St → Prop} {r : R} {s1 : St} (h : Kr r s1) : PR L id st Kr (.inl r) (.ret s1) := h
theorem Ab.iter {D X : Type} {b : D → Option (D ⊕ X)} {st : D → St} {Px : X → Out → Prop} (hC : ∀ n g, (n, g) ∈ C.lent → 50000 ≤ n) (hL : ∀ n g, (n, g) ∈ C.lent → n ∈ L) (hr : ∀ d o, b d = some o → Ab P E C c (st d) (LK L st Px o)) {n : Nat} {d : D} {x : X} (h : Mg.iter b n d = some x) : Ab P E C (.loop c) (st d) (Px x) := by
  intro m ρ a w Q h1 h2 h3
  refine wp_loop_rounds (n + 1) ?_
  have key : ∀ (n : Nat) (d : D) (m : Mem) (ρ : Rho) (a : Act) (w : World), Mg.iter b n d = some x → SRel E C (st d) m ρ a w → GlobOK E.glob m → (∀ out, Px x out → Fin E C Q m out) → Code.rounds P c Q (n + 1) a w := by
    intro n
    induction n with
    | zero => intro d m ρ a w h; cases h
    | succ n ih =>
      intro d m ρ a w hi k1 k2 k3
      rw [rounds_succ]
      simp only [Mg.iter] at hi
      obtain ⟨o, ho, hi⟩ := bind_some hi
      refine hr d o ho m ρ a w _ k1 k2 ?_
      intro out hout
      cases out with
      | norm s1 =>
        obtain ⟨d', q, e, q3⟩ := hout
        subst e
        intro m' ρ' a' w' r1 r2
        obtain ⟨m2, ρ2, r3, r4⟩ := tidy_ok hC hL r2 q3
        exact ih d' m2 ρ2 a' w' hi r4 (k2.mono (r1.trans r3)) (fun out ho' => (k3 out ho').mono (r1.trans r3))
      | exit id s1 =>
        obtain ⟨x', e, hx⟩ := hout
        subst e
        injection hi with hi; subst hi
        exact fun m' ρ' a' w' q1 q2 => k3 _ hx m' ρ' a' w' q1 q2
      | ret s1 =>
        obtain ⟨x', e, hx⟩ := hout
        subst e
        injection hi with hi; subst hi
        exact fun m' ρ' a' w' q1 q2 => k3 _ hx m' ρ' a' w' q1 q2
  exact key n d m ρ a w h h1 h2 h3
/-- a loop, and what is behind it -/
theorem Ab.loopX {D X : Type} {b : D → Option (D ⊕ X)} (st : D → St) (stx : X → St) {id : Nat} (q : Tidy) (d : D) (hC : ∀ n g, (n, g) ∈ C.lent → 50000 ≤ n) (hL : ∀ n g, (n, g) ∈ C.lent → n ∈ L) {n : Nat} {x : X} (h : Mg.iter b n d = some x) (hs : s.tidy L q = some (st d))
    (hr : ∀ d o, b d = some o → Ab P E C c (st d) (LK L st (PX L id stx) o)) (hy : Ab P E C y (stx x) K) : Ab P E C (.seq (.block id (.loop c)) y) s K := by
  refine Ab.seq (Ab.block (Ab.tidyK hC hL hs ((Ab.iter hC hL hr h).mono ?_)))
  intro out ho
  cases out with
  | norm s1 => exact ho.elim
  | ret s1 => exact ho.elim
  | exit id' s1 =>
    obtain ⟨rfl, q', hq⟩ := ho
    exact Blk_same (Ab.tidyK hC hL hq hy)
theorem Ab.loopR {D R X : Type} {b : D → Option (D ⊕ (R ⊕ X))} (st : D → St) (stx : X → St) (Kr : R → St → Prop) {id : Nat} (q : Tidy) (d : D) (hC : ∀ n g, (n, g) ∈ C.lent → 50000 ≤ n) (hL : ∀ n g, (n, g) ∈ C.lent → n ∈ L) {n : Nat} {x : R ⊕ X} (h : Mg.iter b n d = some x) (hs : s.tidy L q = some (st d))
    (hr : ∀ d o, b d = some o → Ab P E C c (st d) (LK L st (PR L id stx Kr) o)) (hret : ∀ r s1, x = .inl r → Kr r s1 → K (.ret s1)) (hy : ∀ x', x = .inr x' → Ab P E C y (stx x') K) : Ab P E C (.seq (.block id (.loop c)) y) s K := by
  refine Ab.seq (Ab.block (Ab.tidyK hC hL hs ((Ab.iter hC hL hr h).mono ?_)))
  intro out ho
  cases out with
  | norm s1 => cases x <;> exact ho.elim
  | ret s1 =>
    cases x with
    | inl r => exact hret r s1 rfl ho
    | inr x => exact ho.elim
  | exit id' s1 =>
    cases x with
    | inl r => exact ho.elim
    | inr x =>
      obtain ⟨rfl, q', hq⟩ := ho
      exact Blk_same (Ab.tidyK hC hL hq (hy x rfl))

/-- .. with nothing behind it in its own piece of code -/
theorem Ab.loopX0 {D X : Type} {b : D → Option (D ⊕ X)} (st : D → St) (stx : X → St) {id : Nat} (q : Tidy) (d : D) (hC : ∀ n g, (n, g) ∈ C.lent → 50000 ≤ n) (hL : ∀ n g, (n, g) ∈ C.lent → n ∈ L) {n : Nat} {x : X} (h : Mg.iter b n d = some x) (hs : s.tidy L q = some (st d))
    (hr : ∀ d o, b d = some o → Ab P E C c (st d) (LK L st (PX L id stx) o)) (hy : K (.norm (stx x))) : Ab P E C (.block id (.loop c)) s K := by
  intro m ρ a w Q k1 k2 k3
  refine Ab.block (K := fun o => ∃ s1 q', o = .norm s1 ∧ s1.tidy L q' = some (stx x)) (Ab.tidyK hC hL hs ((Ab.iter hC hL hr h).mono ?_)) m ρ a w Q k1 k2 ?_
  · intro out ho
    cases out with
    | norm s1 => exact ho.elim
    | ret s1 => exact ho.elim
    | exit id' s1 =>
      obtain ⟨rfl, q', hq⟩ := ho
      exact Blk_same ⟨s1, q', rfl, hq⟩
  · rintro out ⟨s1, q', rfl, hq⟩
    exact Fin.tidy hC hL hq (k3 _ hy)
theorem Ab.loopR0 {D R X : Type} {b : D → Option (D ⊕ (R ⊕ X))} (st : D → St) (stx : X → St) (Kr : R → St → Prop) {id : Nat} (q : Tidy) (d : D) (hC : ∀ n g, (n, g) ∈ C.lent → 50000 ≤ n) (hL : ∀ n g, (n, g) ∈ C.lent → n ∈ L) {n : Nat} {x : R ⊕ X} (h : Mg.iter b n d = some x) (hs : s.tidy L q = some (st d))
    (hr : ∀ d o, b d = some o → Ab P E C c (st d) (LK L st (PR L id stx Kr) o)) (hret : ∀ r s1, x = .inl r → Kr r s1 → K (.ret s1)) (hy : ∀ x', x = .inr x' → K (.norm (stx x'))) : Ab P E C (.block id (.loop c)) s K := by
  intro m ρ a w Q k1 k2 k3
  refine Ab.block (K := fun o => (∃ s1 q' x', x = .inr x' ∧ o = .norm s1 ∧ s1.tidy L q' = some (stx x')) ∨ ∃ r s1, x = .inl r ∧ o = .ret s1 ∧ Kr r s1) (Ab.tidyK hC hL hs ((Ab.iter hC hL hr h).mono ?_)) m ρ a w Q k1 k2 ?_
  · intro out ho
    cases out with
    | norm s1 => cases x <;> exact ho.elim
    | ret s1 =>
      cases x with
      | inl r => exact Blk_ret (.inr ⟨r, s1, rfl, rfl, ho⟩)
      | inr x => exact ho.elim
    | exit id' s1 =>
      cases x with
      | inl r => exact ho.elim
      | inr x =>
        obtain ⟨rfl, q', hq⟩ := ho
        exact Blk_same (.inl ⟨s1, q', x, rfl, rfl, hq⟩)
  · rintro out (⟨s1, q', x', e, rfl, hq⟩ | ⟨r, s1, e, rfl, hq⟩)
    · exact Fin.tidy hC hL hq (k3 _ (hy x' e))
    · exact k3 _ (hret r s1 e hq)

/-! ### The end of a function -/
def expO (ob : Nat → Option Ob) : List AV → List Bool → Option (List RR × List Nat × List Nat)
  | [], [] => some ([], [], [])
  | v :: vs, false :: md => match asTreeAll ob v, expO ob vs md with
    | some (t, s1), some (rs, sh, own) => some (.tree t :: rs, s1 ++ sh, own)
    | _, _ => none
  | .own n :: vs, true :: md => match ob n, expO ob vs md with
    | some (.row false ty es l), some (rs, sh, own) => some (.row ty es l :: rs, sh, n :: own)
    | _, _ => none
  | _, _ => none
theorem expO_ok {ob : Nat → Option Ob} : ∀ {vs : List AV} {md : List Bool} {rs : List RR} {sh own : List Nat}, expO ob vs md = some (rs, sh, own) → Exp ob vs rs sh own := by
  intro vs md
  fun_induction expO ob vs md with
  | case1 =>
    intro rs sh own h
    simp only [Option.some.injEq, Prod.mk.injEq] at h
    obtain ⟨rfl, rfl, rfl⟩ := h
    exact ⟨rfl, rfl⟩
  | case2 v vs md t s1 rs sh own h1 h2 ih =>
    intro rs' sh' own' h
    simp only [Option.some.injEq, Prod.mk.injEq] at h
    obtain ⟨rfl, rfl, rfl⟩ := h
    simp only [Exp]
    first | exact ⟨s1, sh, h1, rfl, ih h2⟩ | exact ⟨s1, sh, h2, rfl, ih h1⟩
  | case3 => intro _ _ _ h; cases h
  | case4 n vs md ty es l rs sh own h1 h2 ih =>
    intro rs' sh' own' h
    simp only [Option.some.injEq, Prod.mk.injEq] at h
    obtain ⟨rfl, rfl, rfl⟩ := h
    simp only [Exp]
    first | exact .inl ⟨n, own, rfl, h1, rfl, ih h2⟩ | exact .inl ⟨n, own, rfl, h2, rfl, ih h1⟩
  | case5 => intro _ _ _ h; cases h
  | case6 => intro _ _ _ h; cases h
def lentO (ob : Nat → Option Ob) : Nat → List Bool → List T → Option (List T)
  | _, _, [] => some []
  | i, true :: bs, c :: ts => match ob (50000 + i), lentO ob (i + 1) bs ts with
    | some (.var false _ (.t u)), some us => if u.size = c.size then some (u :: us) else none
    | _, _ => none
  | i, false :: bs, _ :: ts => lentO ob (i + 1) bs ts
  | _, [], _ => some []
theorem lentO_ok {ob : Nat → Option Ob} : ∀ {bs : List Bool} {ts : List T} {i : Nat} {us : List T}, lentO ob i bs ts = some us → LentEnd ob i bs ts us
  | bs, [], i, us, h => by
    simp only [lentO, Option.some.injEq] at h
    cases bs <;> (subst h; simp [LentEnd])
  | true :: bs, c :: ts, i, us, h => by
    simp only [lentO] at h
    split at h
    · rename_i ty u us' h1 h2
      split at h
      · rename_i hs
        simp only [Option.some.injEq] at h; subst h
        simp only [LentEnd]
        exact ⟨u, us', ty, rfl, h1, hs, lentO_ok h2⟩
      · cases h
    · cases h
  | false :: bs, _ :: ts, i, us, h => by
    simp only [lentO] at h
    simp only [LentEnd]
    exact lentO_ok h
  | [], _ :: _, i, us, h => by
    simp only [lentO, Option.some.injEq] at h
    subst h; simp [LentEnd]
def doneO (E : Env) (results : List ResultVar) (bs : List Bool) (ts : List T) (md : List Bool) (s : St) : Option (List RR × List T) :=
  match resAVs E s results with
  | some vs => match expO (get s.ob) vs md with
    | some (rs, sh, own) => if decide own.Nodup && own.all (fun n => !sh.contains n) then (lentO (get s.ob) 0 bs ts).map fun us => (rs, us) else none
    | none => none
  | none => none
theorem doneO_ok {results : List ResultVar} {bs : List Bool} {ts : List T} {md : List Bool} {rs : List RR} {us : List T} (h : doneO E results bs ts md s = some (rs, us)) : Done E results bs ts rs us s := by
  unfold doneO at h
  split at h
  · rename_i vs hv
    split at h
    · rename_i rs' sh own he
      split at h
      · rename_i hq
        simp only [Option.map_eq_some_iff, Prod.mk.injEq] at h
        obtain ⟨us', h1, rfl, rfl⟩ := h
        simp only [Bool.and_eq_true, decide_eq_true_eq, List.all_eq_true] at hq
        exact ⟨vs, sh, own, hv, expO_ok he, hq.1, fun n hn => by have := hq.2 n hn; simpa using this, lentO_ok h1⟩
      · cases h
    · cases h
  · cases h
theorem End_norm {Φ : St → Prop} (h : Φ s) : End Φ (.norm s) := h
theorem End_ret {Φ : St → Prop} (h : Φ s) : End Φ (.ret s) := h
end Go.Mg
