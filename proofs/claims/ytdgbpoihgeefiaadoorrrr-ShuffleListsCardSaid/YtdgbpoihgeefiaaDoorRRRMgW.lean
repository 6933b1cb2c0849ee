/- From a function's body to its specification. -/
import Derived.Test.YtdgbpoihgeefiaaDoorRRRMgV
namespace Go.Mg
open Go.RowKit
variable {P : Program} {E : Env} {C : Ctx} {m m' : Mem} {ρ ρ' : Rho} {w w' : World} {a : Act} {s s' : St} {c : Code}

def initTm : Nat → List Bool → List T → List (Nat × AV)
  | _, _, [] => []
  | i, true :: bs, _ :: ts => (i, .ref (50000 + i) [] 0) :: initTm (i + 1) bs ts
  | i, false :: bs, t :: ts => (i, .t t) :: initTm (i + 1) bs ts
  | i, [], t :: ts => (i, .t t) :: initTm (i + 1) [] ts
def initOb : Nat → List Bool → List T → List (Nat × Ob)
  | _, _, [] => []
  | i, true :: bs, c :: ts => (50000 + i, .var false 0 (.t c)) :: initOb (i + 1) bs ts
  | i, false :: bs, _ :: ts => initOb (i + 1) bs ts
  | _, [], _ => []
def pairs : Nat → List Bool → List T → List Nat → List (Nat × Nat)
  | i, true :: bs, _ :: ts, g :: gs => (50000 + i, g) :: pairs (i + 1) bs ts gs
  | i, false :: bs, _ :: ts, gs => pairs (i + 1) bs ts gs
  | _, _, _, _ => []
def rho (l : List (Nat × Nat)) : Rho := fun n => match get l n with
  | some g => .pointer (some ⟨g, 0, none⟩)
  | none => .bool false
def resAV (E : Env) (s : St) : ResultVar → Option AV
  | .tmp t => get s.tm t
  | .cell a t => match get s.tm a with
    | some v => (opLoad E t (get s.ob) [v]).map (·.v)
    | none => none
def resAVs (E : Env) (s : St) : List ResultVar → Option (List AV)
  | [] => some []
  | r :: l => match resAV E s r, resAVs E s l with
    | some v, some vs => some (v :: vs)
    | _, _ => none
/-- values as what a call gives: what is shared for it, which rows go out. -/
def Exp (ob : Nat → Option Ob) : List AV → List RR → List Nat → List Nat → Prop
  | [], [], sh, own => sh = [] ∧ own = []
  | v :: vs, .tree t :: rs, sh, own => ∃ s1 s2, asTreeAll ob v = some (t, s1) ∧ sh = s1 ++ s2 ∧ Exp ob vs rs s2 own
  | v :: vs, .row ty es l :: rs, sh, own => (∃ n o2, v = .own n ∧ ob n = some (.row false ty es l) ∧ own = n :: o2 ∧ Exp ob vs rs sh o2) ∨ (v = .t .nils ∧ l = [] ∧ Exp ob vs rs sh own)
  | _, _, _, _ => False
def LentEnd (ob : Nat → Option Ob) : Nat → List Bool → List T → List T → Prop
  | _, _, [], us => us = []
  | i, true :: bs, c :: ts, us => ∃ u us' ty, us = u :: us' ∧ ob (50000 + i) = some (.var false ty (.t u)) ∧ u.size = c.size ∧ LentEnd ob (i + 1) bs ts us'
  | i, false :: bs, _ :: ts, us => LentEnd ob (i + 1) bs ts us
  | _, [], _, us => us = []
def Done (E : Env) (results : List ResultVar) (bs : List Bool) (ts : List T) (rs : List RR) (us : List T) (s : St) : Prop :=
  ∃ vs sh own, resAVs E s results = some vs ∧ Exp (get s.ob) vs rs sh own ∧ own.Nodup ∧ (∀ n ∈ own, n ∉ sh) ∧ LentEnd (get s.ob) 0 bs ts us
def End (Φ : St → Prop) : Out → Prop
  | .norm s => Φ s
  | .ret s => Φ s
  | .exit _ _ => False

theorem ArgsOK.len : ∀ {bs : List Bool} {ts : List T} {vs : List Value} {gs : List Nat}, ArgsOK m w bs ts vs gs → vs.length = ts.length
  | bs, [], vs, gs, h => by
    have : vs = [] ∧ gs = [] := by cases bs <;> simpa [ArgsOK] using h
    simp [this.1]
  | true :: bs, c :: ts, vs, gs, h => by
    simp only [ArgsOK] at h
    obtain ⟨v, vs', g, gs', cs, t, rfl, _, _, _, _, _, h⟩ := h
    simp [h.len]
  | false :: bs, c :: ts, vs, gs, h => by
    simp only [ArgsOK] at h
    obtain ⟨v, vs', rfl, _, h⟩ := h
    simp [h.len]
  | [], c :: ts, vs, gs, h => by
    simp only [ArgsOK] at h
    obtain ⟨v, vs', rfl, _, h⟩ := h
    simp [h.len]
theorem get_hi {α : Type} : ∀ (l : List (Nat × α)) (n : Nat), (∀ x ∈ l, n < x.1) → get l n = none
  | [], _, _ => rfl
  | (k, v) :: l, n, h => by
    simp only [get]
    have := h (k, v) (by simp)
    rw [if_neg (by simp at this; omega)]
    exact get_hi l n (fun x hx => h x (by simp [hx]))
theorem initOb_hi : ∀ (i : Nat) (bs : List Bool) (ts : List T), ∀ x ∈ initOb i bs ts, 50000 + i ≤ x.1
  | i, bs, [], x, hx => by cases bs <;> simp [initOb] at hx
  | i, true :: bs, c :: ts, x, hx => by
    simp only [initOb, List.mem_cons] at hx
    rcases hx with rfl | hx
    · exact Nat.le_refl _
    · have := initOb_hi (i + 1) bs ts x hx; omega
  | i, false :: bs, c :: ts, x, hx => by
    simp only [initOb] at hx
    have := initOb_hi (i + 1) bs ts x hx; omega
  | i, [], c :: ts, x, hx => by simp [initOb] at hx
theorem pairs_hi : ∀ (i : Nat) (bs : List Bool) (ts : List T) (gs : List Nat), ∀ x ∈ pairs i bs ts gs, 50000 + i ≤ x.1 ∧ x.2 ∈ gs
  | i, true :: bs, c :: ts, g :: gs, x, hx => by
    simp only [pairs, List.mem_cons] at hx
    rcases hx with rfl | hx
    · exact ⟨Nat.le_refl _, by simp⟩
    · have := pairs_hi (i + 1) bs ts gs x hx
      exact ⟨by omega, by simp [this.2]⟩
  | i, false :: bs, c :: ts, gs, x, hx => by
    simp only [pairs] at hx
    have := pairs_hi (i + 1) bs ts gs x hx
    exact ⟨by omega, this.2⟩
  | i, [], ts, gs, x, hx => by cases ts <;> cases gs <;> simp [pairs] at hx
  | i, true :: bs, [], gs, x, hx => by cases gs <;> simp [pairs] at hx
  | i, false :: bs, [], gs, x, hx => by cases gs <;> simp [pairs] at hx
  | i, true :: bs, c :: ts, [], x, hx => by simp [pairs] at hx
theorem pairs_inj : ∀ (i : Nat) (bs : List Bool) (ts : List T) (gs : List Nat), gs.Nodup → ∀ n n' g, (n, g) ∈ pairs i bs ts gs → (n', g) ∈ pairs i bs ts gs → n = n'
  | i, true :: bs, c :: ts, g :: gs, hnd, n, n', g0, h, h' => by
    rw [List.nodup_cons] at hnd
    simp only [pairs, List.mem_cons, Prod.mk.injEq] at h h'
    rcases h with ⟨rfl, rfl⟩ | h
    · rcases h' with ⟨rfl, _⟩ | h'
      · rfl
      · exact absurd (pairs_hi (i + 1) bs ts gs _ h').2 hnd.1
    · rcases h' with ⟨rfl, rfl⟩ | h'
      · exact absurd (pairs_hi (i + 1) bs ts gs _ h).2 hnd.1
      · exact pairs_inj (i + 1) bs ts gs hnd.2 n n' g0 h h'
  | i, false :: bs, c :: ts, gs, hnd, n, n', g0, h, h' => by
    simp only [pairs] at h h'
    exact pairs_inj (i + 1) bs ts gs hnd n n' g0 h h'
  | i, [], ts, gs, _, n, n', g0, h, _ => by cases ts <;> cases gs <;> simp [pairs] at h
  | i, true :: bs, [], gs, _, n, n', g0, h, _ => by cases gs <;> simp [pairs] at h
  | i, false :: bs, [], gs, _, n, n', g0, h, _ => by cases gs <;> simp [pairs] at h
  | i, true :: bs, c :: ts, [], _, n, n', g0, h, _ => by simp [pairs] at h
theorem init_objs : ∀ {bs : List Bool} {ts : List T} {vs : List Value} {gs : List Nat} (i : Nat), ArgsOK m w bs ts vs gs →
    (∀ n o, get (initOb i bs ts) n = some o → ∃ g c cs t, get (pairs i bs ts gs) n = some g ∧ o = .var false 0 (.t c) ∧ w.heap[g]? = some (.cells cs t (0, 0)) ∧ RT m c cs.toList ∧ ∀ j, m g j = none) ∧
    (∀ n g, (n, g) ∈ pairs i bs ts gs → get (pairs i bs ts gs) n = some g ∧ ∃ c, get (initOb i bs ts) n = some (.var false 0 (.t c)))
  | bs, [], vs, gs, i, h => by
    have e1 : initOb i bs [] = [] := by cases bs <;> rfl
    have e2 : pairs i bs [] gs = [] := by
      cases bs with
      | nil => cases gs <;> rfl
      | cons b bs => cases b <;> cases gs <;> simp [pairs]
    rw [e1, e2]
    simp [get]
  | true :: bs, c :: ts, vs, gs, i, h => by
    simp only [ArgsOK] at h
    obtain ⟨v, vs', g, gs', cs, t, rfl, rfl, _, hh, hr, hm, h⟩ := h
    obtain ⟨q1, q2⟩ := init_objs (i + 1) h
    refine ⟨?_, ?_⟩
    · intro n o hn
      simp only [initOb, get] at hn
      simp only [pairs, get]
      split at hn
      · rename_i e
        injection hn with hn; subst hn
        exact ⟨g, c, cs, t, by rw [if_pos e], rfl, hh, hr, hm⟩
      · rename_i e
        obtain ⟨g', c', cs', t', p1, p2⟩ := q1 n o hn
        exact ⟨g', c', cs', t', by rw [if_neg e]; exact p1, p2⟩
    · intro n g' hng
      simp only [pairs, List.mem_cons, Prod.mk.injEq] at hng
      simp only [pairs, initOb, get]
      rcases hng with ⟨rfl, rfl⟩ | hng
      · exact ⟨by simp, c, by simp⟩
      · have := (pairs_hi (i + 1) bs ts gs' _ hng).1
        simp only at this
        rw [if_neg (by omega), if_neg (by omega)]
        exact q2 n g' hng
  | false :: bs, c :: ts, vs, gs, i, h => by
    simp only [ArgsOK] at h
    obtain ⟨v, vs', rfl, _, h⟩ := h
    have := init_objs (i + 1) h
    simpa only [initOb, pairs] using this
  | [], c :: ts, vs, gs, i, h => by
    have e2 : pairs i [] (c :: ts) gs = [] := by cases gs <;> rfl
    rw [e2]
    simp [initOb, get]
theorem init_tmps : ∀ {bs : List Bool} {ts : List T} {vs : List Value} {gs : List Nat} (i : Nat), ArgsOK m w bs ts vs gs → (∀ n g, (n, g) ∈ pairs i bs ts gs → ρ n = .pointer (some ⟨g, 0, none⟩)) →
    (∀ k, get (initTm i bs ts) k ≠ none → i ≤ k) ∧ (∀ k, RV m ρ ((get (initTm i bs ts) (i + k)).getD .bad) (vs.getD k undef)) ∧ ∀ k, ∀ n ∈ ((get (initTm i bs ts) k).getD .bad).names, get (initOb i bs ts) n ≠ none
  | bs, [], vs, gs, i, h, _ => by
    have e1 : initTm i bs [] = [] := by cases bs <;> rfl
    rw [e1]
    simp [get, RV, AV.names]
  | b :: bs, c :: ts, vs, gs, i, h, hρ => by
    have fin : ∀ (v : AV) (x : Value) (vs' : List Value) (gs' : List Nat), vs = x :: vs' → initTm i (b :: bs) (c :: ts) = (i, v) :: initTm (i + 1) bs ts → RV m ρ v x → (∀ n ∈ v.names, get (initOb i (b :: bs) (c :: ts)) n ≠ none) → (∀ n, get (initOb (i + 1) bs ts) n ≠ none → get (initOb i (b :: bs) (c :: ts)) n ≠ none) →
        ArgsOK m w bs ts vs' gs' → (∀ n g, (n, g) ∈ pairs (i + 1) bs ts gs' → ρ n = .pointer (some ⟨g, 0, none⟩)) →
        (∀ k, get (initTm i (b :: bs) (c :: ts)) k ≠ none → i ≤ k) ∧ (∀ k, RV m ρ ((get (initTm i (b :: bs) (c :: ts)) (i + k)).getD .bad) (vs.getD k undef)) ∧ ∀ k, ∀ n ∈ ((get (initTm i (b :: bs) (c :: ts)) k).getD .bad).names, get (initOb i (b :: bs) (c :: ts)) n ≠ none := by
      intro v x vs' gs' e1 e2 hv hn hsub h' hρ'
      obtain ⟨q1, q2, q3⟩ := init_tmps (i + 1) h' hρ'
      rw [e2]
      refine ⟨?_, ?_, ?_⟩
      · intro k hk
        simp only [get] at hk
        split at hk
        · omega
        · have := q1 k hk; omega
      · intro k
        cases k with
        | zero => simpa [get, e1] using hv
        | succ k =>
          simp only [get]
          rw [if_neg (by omega), e1, show i + (k + 1) = i + 1 + k by omega]
          simpa using q2 k
      · intro k n hn'
        simp only [get] at hn'
        split at hn'
        · exact hn n hn'
        · exact hsub n (q3 k n hn')
    cases b with
    | true =>
      simp only [ArgsOK] at h
      obtain ⟨v, vs', g, gs', cs, t, rfl, rfl, rfl, hh, hr, hm, h⟩ := h
      refine fin (.ref (50000 + i) [] 0) _ vs' gs' rfl rfl ?_ ?_ ?_ h (fun n g' hng => hρ n g' (by simp [pairs, hng]))
      · simp only [RV, RV0, AV.agg, RA]
        have := hρ (50000 + i) g (by simp [pairs])
        simp [this, blk]
      · intro n hn
        simp only [AV.names, List.mem_singleton] at hn
        subst hn
        simp [initOb, get]
      · intro n hn
        simp only [initOb, get]
        split
        · simp
        · exact hn
    | false =>
      simp only [ArgsOK] at h
      obtain ⟨v, vs', rfl, hv, h⟩ := h
      exact fin (.t c) v vs' gs rfl rfl (RV_of_good (rv0_t hv)) (by simp [AV.names]) (fun n hn => by simpa only [initOb] using hn) h (fun n g' hng => hρ n g' (by simpa only [pairs] using hng))
  | [], c :: ts, vs, gs, i, h, hρ => by
    simp only [ArgsOK] at h
    obtain ⟨v, vs', rfl, hv, h⟩ := h
    obtain ⟨q1, q2, q3⟩ := init_tmps (i + 1) h (by intro n g hng; cases ts <;> cases gs <;> simp [pairs] at hng)
    have e2 : initTm i [] (c :: ts) = (i, .t c) :: initTm (i + 1) [] ts := rfl
    rw [e2]
    refine ⟨?_, ?_, ?_⟩
    · intro k hk
      simp only [get] at hk
      split at hk
      · omega
      · have := q1 k hk; omega
    · intro k
      cases k with
      | zero => simpa [get] using RV_of_good (rv0_t hv)
      | succ k =>
        simp only [get]
        rw [if_neg (by omega), show i + (k + 1) = i + 1 + k by omega]
        simpa using q2 k
    · intro k n hn'
      simp only [get] at hn'
      split at hn'
      · simp [AV.names] at hn'
      · have := q3 k n hn'
        have e3 : initOb (i + 1) [] ts = [] := by cases ts <;> rfl
        rw [e3] at this
        simp [get] at this
/-- How a call begins. -/
theorem init_ok {bs : List Bool} {ts : List T} {vs : List Value} {gs : List Nat} (hok : m.ok w) (h : ArgsOK m w bs ts vs gs) (hnd : gs.Nodup) {n : Nat} (hn : n = E.ntmps) (hle : ts.length ≤ E.ntmps) :
    SRel E ⟨w, m, pairs 0 bs ts gs⟩ ⟨initTm 0 bs ts, initOb 0 bs ts⟩ m (rho (pairs 0 bs ts gs)) { tmps := vs.toArray ++ Array.replicate (n - vs.toArray.size) undef, defers := [] } w := by
  obtain ⟨q1, q2⟩ := init_objs 0 h
  have hρ : ∀ n g, get (pairs 0 bs ts gs) n = some g → rho (pairs 0 bs ts gs) n = .pointer (some ⟨g, 0, none⟩) := by
    intro n g hg
    unfold rho
    rw [hg]
  obtain ⟨r1, r2, r3⟩ := init_tmps (ρ := rho (pairs 0 bs ts gs)) 0 h (fun n g hng => hρ n g (q2 n g hng).1)
  have hl := h.len
  refine ⟨⟨?_, ?_, ?_, hok, ?_, Sub.refl m, fun _ _ _ hv => .inl hv, ?_, ?_, ?_, ⟨rfl, rfl, rfl, Nat.le_refl _, fun _ _ _ => rfl⟩⟩, ⟨rfl, ?_, ?_, r3⟩⟩
  · intro n
    unfold rho
    split <;> rfl
  · intro n o hn
    obtain ⟨g, c, cs, t, p1, rfl, p2, p3, _⟩ := q1 n o hn
    exact ⟨g, cs, t, hρ n g p1, p2, by simpa [RA] using p3⟩
  · intro n n' o o' g hn hn' _ _ hb hb'
    obtain ⟨g1, _, _, _, p1, _⟩ := q1 n o hn
    obtain ⟨g2, _, _, _, p2, _⟩ := q1 n' o' hn'
    rw [hρ n g1 p1] at hb
    rw [hρ n' g2 p2] at hb'
    simp [blk] at hb hb'
    rw [hb] at p1; rw [hb'] at p2
    exact pairs_inj 0 bs ts gs hnd n n' g (get_mem p1) (get_mem p2)
  · intro n o g i v hn _ hb hv
    obtain ⟨g1, _, _, _, p1, _, _, _, p5⟩ := q1 n o hn
    rw [hρ n g1 p1] at hb
    simp [blk] at hb; subst hb
    rw [p5 i] at hv; cases hv
  · intro n o g hn _ hb
    obtain ⟨g1, _, _, _, p1, _⟩ := q1 n o hn
    rw [hρ n g1 p1] at hb
    simp [blk] at hb; subst hb
    exact .inr (get_mem p1)
  · intro n g hng
    obtain ⟨p1, c, p2⟩ := q2 n g hng
    exact ⟨by rw [hρ n g p1]; rfl, 0, .t c, p2⟩
  · intro n o hn k hk
    obtain ⟨g1, c, _, _, _, rfl, _⟩ := q1 n o hn
    simp [Ob.names, AV.names] at hk
  · simp; omega
  · intro i
    have := r2 i
    rw [Nat.zero_add] at this
    by_cases hi : i < vs.length
    · have e : (vs.toArray ++ Array.replicate (n - vs.toArray.size) undef).getD i undef = vs.getD i undef := by
        rw [Array.getD_eq_getD_getElem?, Array.getElem?_append_left (by simpa using hi)]
        simp [List.getD_eq_getElem?_getD]
      simp only [e]; exact this
    · have e : get (initTm 0 bs ts) i = none := by
        have hx : ∀ (bs : List Bool) (ts : List T) (j : Nat), ∀ x ∈ initTm j bs ts, x.1 < j + ts.length := by
          intro bs ts
          induction ts generalizing bs with
          | nil => intro j x hx; cases bs <;> simp [initTm] at hx
          | cons t ts ih =>
            intro j x hx
            have : ∃ v bs', initTm j bs (t :: ts) = (j, v) :: initTm (j + 1) bs' ts := by
              cases bs with
              | nil => exact ⟨_, [], rfl⟩
              | cons b bs => cases b <;> exact ⟨_, bs, rfl⟩
            obtain ⟨v, bs', e⟩ := this
            rw [e] at hx
            rcases List.mem_cons.1 hx with rfl | hx
            · simp
            · have := ih bs' (j + 1) x hx
              simp; omega
        cases hg : get (initTm 0 bs ts) i with
        | none => rfl
        | some v => have := hx bs ts 0 _ (get_mem hg); simp at this; omega
      simp [e, RV]
end Go.Mg
