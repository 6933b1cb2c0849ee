/- Regions whose operations come in any order. -/
import Derived.Test.YtighjjielkdafaaDoorMgR
namespace Go.Mg
open Go.RowKit
variable {P : Program} {E : Env} {C : Ctx} {m m' : Mem} {ρ ρ' : Rho} {w w' : World} {o : Oper} {a : Act} {r : Res} {ops : Array Oper}

abbrev Log := List (Oper × Res × List Nat)
def wrn (r : Res) : List Nat := r.wr.map (·.1)
/-- the state behind those operations of a log that are in S, in the order of the text -/
def stS : Log → (Nat → Bool) → Nat → St → St
  | [], _, _, s => s
  | x :: L, S, i, s => stS L S (i + 1) (if S i = true then apply s x.1 x.2.1 else s)
theorem stS_eq : ∀ (L : Log) (S S' : Nat → Bool) (i : Nat) (s : St), (∀ k, k < L.length → S (i + k) = S' (i + k)) → stS L S i s = stS L S' i s
  | [], _, _, _, _, _ => rfl
  | x :: L, S, S', i, s, h => by
    simp only [stS]
    have h0 := h 0 (by simp)
    simp only [Nat.add_zero] at h0
    rw [h0]
    exact stS_eq L S S' (i + 1) _ (fun k hk => by have := h (k + 1) (by simpa using hk); rwa [show i + 1 + k = i + (k + 1) by omega])
theorem stS_none : ∀ (L : Log) (i : Nat) (s : St), stS L (fun _ => false) i s = s
  | [], _, _ => rfl
  | x :: L, i, s => by simp only [stS]; rw [if_neg (by simp)]; exact stS_none L (i + 1) s

/-- something that is read of a state -/
structure Rd (α : Type) where
  g : St → α
  wr : Oper → Res → Prop
  val : Oper → Res → α
  yes : ∀ s o r, wr o r → g (apply s o r) = val o r
  no : ∀ s o r, ¬ wr o r → g (apply s o r) = g s
def rdT (x : Nat) : Rd (Option AV) where
  g s := get s.tm x
  wr o _ := o.dst = some x
  val _ r := some r.v
  yes s o r h := by rw [get_apply_tm, if_pos h]
  no s o r h := by rw [get_apply_tm, if_neg h]
theorem updf_in : ∀ (l : List (Nat × Ob)) (f g : Nat → Option Ob) (n : Nat), n ∈ l.map (·.1) → updf f l n = updf g l n
  | [], _, _, _, h => by simp at h
  | (k, x) :: l, f, g, n, h => by
    simp only [updf]
    by_cases hn : n ∈ l.map (·.1)
    · exact updf_in l _ _ n hn
    · rw [updf_notin l _ n hn, updf_notin l _ n hn]
      simp only [List.map_cons, List.mem_cons] at h
      have : n = k := h.resolve_right hn
      subst this
      rw [upd_same, upd_same]
def rdO (n : Nat) : Rd (Option Ob) where
  g s := get s.ob n
  wr _ r := n ∈ wrn r
  val _ r := updf (fun _ => none) r.wr n
  yes s o r h := by rw [get_apply_ob]; exact updf_in _ _ _ n h
  no s o r h := by rw [get_apply_ob]; exact updf_notin _ _ n h
section
variable {α : Type} (R : Rd α)
theorem Rd.congr : ∀ (L : Log) (S S' : Nat → Bool) (i : Nat) (s s' : St), R.g s = R.g s' → (∀ k x, L[k]? = some x → R.wr x.1 x.2.1 → S (i + k) = S' (i + k)) → R.g (stS L S i s) = R.g (stS L S' i s')
  | [], _, _, _, _, _, h, _ => h
  | x :: L, S, S', i, s, s', h, hw => by
    simp only [stS]
    refine Rd.congr L S S' (i + 1) _ _ ?_ (fun k y hk hy => by have := hw (k + 1) y (by simpa using hk) hy; rwa [show i + 1 + k = i + (k + 1) by omega])
    by_cases hx : R.wr x.1 x.2.1
    · have h0 := hw 0 x (by simp) hx
      simp only [Nat.add_zero] at h0
      rw [h0]
      split
      · rw [R.yes _ _ _ hx, R.yes _ _ _ hx]
      · exact h
    · have e : ∀ (b : Bool) (t : St), R.g (if b = true then apply t x.1 x.2.1 else t) = R.g t := by
        intro b t
        split
        · exact R.no _ _ _ hx
        · rfl
      rw [e, e]; exact h
theorem Rd.last : ∀ (L : Log) (S : Nat → Bool) (p i : Nat) (s : St) (x : Oper × Res × List Nat), L[p]? = some x → R.wr x.1 x.2.1 → S (i + p) = true → (∀ k y, p < k → L[k]? = some y → S (i + k) = true → ¬ R.wr y.1 y.2.1) → R.g (stS L S i s) = R.val x.1 x.2.1
  | [], _, _, _, _, _, h, _, _, _ => by simp at h
  | y :: L, S, 0, i, s, x, h, hx, hS, hl => by
    simp at h; subst h
    simp only [stS]
    rw [if_pos (by simpa using hS)]
    have := Rd.congr R L S (fun _ => false) (i + 1) (apply s y.1 y.2.1) (apply s y.1 y.2.1) rfl (by
      intro k z hk hz
      cases hs : S (i + 1 + k) with
      | false => rfl
      | true => exact absurd hz (hl (k + 1) z (by omega) (by simpa using hk) (by rwa [show i + (k + 1) = i + 1 + k by omega])))
    rw [this, stS_none, R.yes _ _ _ hx]
  | y :: L, S, p + 1, i, s, x, h, hx, hS, hl => by
    simp only [stS]
    exact Rd.last L S p (i + 1) _ x (by simpa using h) hx (by rwa [show i + 1 + p = i + (p + 1) by omega]) (fun k z hpk hk hs => hl (k + 1) z (by omega) (by simpa using hk) (by rwa [show i + (k + 1) = i + 1 + k by omega]))
/-- One more. -/
theorem Rd.comm (L : Log) (S : Nat → Bool) (p : Nat) (s : St) (x : Oper × Res × List Nat) (h : L[p]? = some x) (hl : ∀ k y, p < k → L[k]? = some y → S k = true → R.wr x.1 x.2.1 → ¬ R.wr y.1 y.2.1) :
    R.g (apply (stS L S 0 s) x.1 x.2.1) = R.g (stS L (fun k => S k || k == p) 0 s) := by
  by_cases hx : R.wr x.1 x.2.1
  · rw [R.yes _ _ _ hx]
    symm
    refine Rd.last R L _ p 0 s x h hx (by simp) ?_
    intro k y hpk hk hs
    refine hl k y hpk hk ?_ hx
    simp only [Nat.zero_add] at hs
    have : (k == p) = false := by simp; omega
    simpa [this] using hs
  · rw [R.no _ _ _ hx]
    refine Rd.congr R L S _ 0 s s rfl ?_
    intro k y hk hy
    simp only [Nat.zero_add]
    have : (k == p) = false := by
      simp
      rintro rfl
      rw [h] at hk; injection hk with hk; subst hk
      exact hx hy
    rw [this]; simp
end

/-! ### What an operation does hangs on what it reads -/
theorem mem_tmpsOf : ∀ (l : List Operand) (t : Nat), .tmp t ∈ l → t ∈ tmpsOf l
  | [], _, h => by simp at h
  | x :: l, t, h => by
    rcases List.mem_cons.1 h with rfl | h
    · simp [tmpsOf]
    · have := mem_tmpsOf l t h
      cases x <;> simp [tmpsOf, this]
theorem opEff_congr {s s' : St} (ht : ∀ x ∈ readsOf ops o, get s.tm x = get s'.tm x) (hn : ∀ n ∈ touched o ((opnds o.op).map (evalAV E s'.tm)), get s.ob n = get s'.ob n) :
    opEff E ops s o = opEff E ops s' o ∧ (opnds o.op).map (evalAV E s.tm) = (opnds o.op).map (evalAV E s'.tm) := by
  have hps : (opnds o.op).map (evalAV E s.tm) = (opnds o.op).map (evalAV E s'.tm) := by
    refine List.map_congr_left ?_
    intro x hx
    cases x with
    | tmp t =>
      simp only [evalAV]
      rw [ht t (by unfold readsOf; exact List.mem_append.2 (.inl (mem_tmpsOf _ _ hx)))]
    | _ => rfl
  have hres : opRes E s o = opRes E s' o := by
    unfold opRes
    rw [hps]
    congr 1
    funext n
    split
    · rename_i h; exact hn n h
    · rfl
  have hw : wantedAV ops s.tm o = wantedAV ops s'.tm o := by
    unfold wantedAV
    split
    · rfl
    · rename_i j want hg
      split
      · rename_i t hj
        rw [ht t (by unfold readsOf; rw [hg]; simp [hj])]
      · rfl
  refine ⟨?_, hps⟩
  unfold opEff
  rw [hw, hres]

/-! ### The run, and what was looked at -/
def Run (E : Env) (ops : Array Oper) : St → Log → Prop
  | _, [] => True
  | s, x :: L => opEff E ops s x.1 = some x.2.1 ∧ x.2.2 = touched x.1 ((opnds x.1.op).map (evalAV E s.tm)) ∧ Run E ops (apply s x.1 x.2.1) L
def Chk (pre : List Nat) : Nat → List (Nat × List Nat) → List (Nat × List Nat) → Log → Prop
  | _, _, _, [] => True
  | i, wl, tl, x :: L => (∀ y ∈ wl, ordered pre y.1 i = true ∨ ∀ n ∈ y.2, n ∉ x.2.2 ∧ n ∉ wrn x.2.1) ∧ (∀ y ∈ tl, ordered pre y.1 i = true ∨ ∀ n ∈ wrn x.2.1, n ∉ y.2) ∧ Chk pre (i + 1) ((i, wrn x.2.1) :: wl) ((i, x.2.2) :: tl) L
theorem disj_ok {l r : List Nat} (h : disj l r = true) : ∀ n ∈ l, n ∉ r := by
  intro n hn hr
  unfold disj at h
  rw [List.all_eq_true] at h
  have := h n hn
  simp [hr] at this
theorem evAny_log : ∀ (l : List Oper) (i : Nat) (wl tl wl' : List (Nat × List Nat)) (s s' : St) (pre : List Nat), evAny E ops pre i l wl tl s = some s' → (∀ y ∈ wl', y ∈ wl ∨ y.2 = []) →
    ∃ L : Log, L.map (·.1) = l ∧ Run E ops s L ∧ Chk pre i wl' tl L ∧ s' = stS L (fun _ => true) i s
  | [], i, wl, tl, wl', s, s', pre, h, _ => by
    simp [evAny] at h
    exact ⟨[], rfl, trivial, trivial, h.symm⟩
  | o :: l, i, wl, tl, wl', s, s', pre, h, hwl => by
    simp only [evAny] at h
    split at h
    · rename_i e he
      split at h
      · rename_i hc
        simp only [Bool.and_eq_true, Bool.or_eq_true, List.all_eq_true] at hc
        obtain ⟨h1, h2⟩ := hc
        obtain ⟨L, q1, q2, q3, q4⟩ := evAny_log l (i + 1) _ _ ((i, wrn e) :: wl') _ s' pre h (by
          intro y hy
          rcases List.mem_cons.1 hy with rfl | hy
          · by_cases hemp : (e.wr.map (·.1)).isEmpty = true
            · exact .inr (by simpa [wrn] using hemp)
            · rw [if_neg hemp]; exact .inl (by simp [wrn])
          · rcases hwl y hy with h3 | h3
            · left
              split
              · exact h3
              · exact List.mem_cons_of_mem _ h3
            · exact .inr h3)
        refine ⟨(o, e, touched o ((opnds o.op).map (evalAV E s.tm))) :: L, by simp [q1], ⟨he, rfl, q2⟩, ⟨?_, ?_, q3⟩, ?_⟩
        · intro y hy
          rcases hwl y hy with h3 | h3
          · rcases h1 y h3 with h4 | h4
            · exact .inl h4
            · right
              intro n hn
              have := disj_ok h4 n hn
              simp only [List.mem_append, not_or] at this
              exact this
          · right; intro n hn; rw [h3] at hn; simp at hn
        · intro y hy
          rcases h2 with h3 | h3
          · right
            intro n hn
            simp only [wrn] at hn
            rw [List.isEmpty_iff.1 h3] at hn; simp at hn
          · rcases h3 y hy with h4 | h4
            · exact .inl h4
            · exact .inr (disj_ok h4)
        · simp only [stS, if_true]; exact q4
      · cases h
    · cases h
theorem Chk.wl {pre : List Nat} : ∀ (L : Log) (i : Nat) (wl tl : List (Nat × List Nat)), Chk pre i wl tl L → ∀ y ∈ wl, ∀ q z, L[q]? = some z → ordered pre y.1 (i + q) = true ∨ ∀ n ∈ y.2, n ∉ z.2.2 ∧ n ∉ wrn z.2.1
  | [], _, _, _, _, _, _, q, z, hq => by simp at hq
  | x :: L, i, wl, tl, h, y, hy, 0, z, hq => by
    simp at hq; subst hq
    exact h.1 y hy
  | x :: L, i, wl, tl, h, y, hy, q + 1, z, hq => by
    have := Chk.wl L (i + 1) _ _ h.2.2 y (List.mem_cons_of_mem _ hy) q z (by simpa using hq)
    rwa [show i + 1 + q = i + (q + 1) by omega] at this
theorem Chk.tl {pre : List Nat} : ∀ (L : Log) (i : Nat) (wl tl : List (Nat × List Nat)), Chk pre i wl tl L → ∀ y ∈ tl, ∀ q z, L[q]? = some z → ordered pre y.1 (i + q) = true ∨ ∀ n ∈ wrn z.2.1, n ∉ y.2
  | [], _, _, _, _, _, _, q, z, hq => by simp at hq
  | x :: L, i, wl, tl, h, y, hy, 0, z, hq => by
    simp at hq; subst hq
    exact h.2.1 y hy
  | x :: L, i, wl, tl, h, y, hy, q + 1, z, hq => by
    have := Chk.tl L (i + 1) _ _ h.2.2 y (List.mem_cons_of_mem _ hy) q z (by simpa using hq)
    rwa [show i + 1 + q = i + (q + 1) by omega] at this
theorem Chk.pair {pre : List Nat} : ∀ (L : Log) (i : Nat) (wl tl : List (Nat × List Nat)), Chk pre i wl tl L → ∀ p q x z, p < q → L[p]? = some x → L[q]? = some z →
    (ordered pre (i + p) (i + q) = true ∨ ∀ n ∈ wrn x.2.1, n ∉ z.2.2 ∧ n ∉ wrn z.2.1) ∧ (ordered pre (i + p) (i + q) = true ∨ ∀ n ∈ wrn z.2.1, n ∉ x.2.2)
  | [], _, _, _, _, p, _, _, _, _, hp, _ => by simp at hp
  | y :: L, i, wl, tl, h, 0, 0, x, z, hlt, _, _ => by omega
  | y :: L, i, wl, tl, h, 0, q + 1, x, z, _, hp, hq => by
    simp at hp; subst hp
    have h1 := Chk.wl L (i + 1) _ _ h.2.2 (i, wrn y.2.1) (by simp) q z (by simpa using hq)
    have h2 := Chk.tl L (i + 1) _ _ h.2.2 (i, y.2.2) (by simp) q z (by simpa using hq)
    rw [show i + 1 + q = i + (q + 1) by omega] at h1 h2
    exact ⟨h1, h2⟩
  | y :: L, i, wl, tl, h, p + 1, 0, x, z, hlt, _, _ => by omega
  | y :: L, i, wl, tl, h, p + 1, q + 1, x, z, hlt, hp, hq => by
    have := Chk.pair L (i + 1) _ _ h.2.2 p q x z (by omega) (by simpa using hp) (by simpa using hq)
    rwa [show i + 1 + p = i + (p + 1) by omega, show i + 1 + q = i + (q + 1) by omega] at this
theorem Run.at_ : ∀ (L : Log) (i : Nat) (s : St) (p : Nat) (x : Oper × Res × List Nat), Run E ops s L → L[p]? = some x →
    opEff E ops (stS L (fun k => decide (k < i + p)) i s) x.1 = some x.2.1 ∧ x.2.2 = touched x.1 ((opnds x.1.op).map (evalAV E (stS L (fun k => decide (k < i + p)) i s).tm))
  | [], _, _, _, _, _, h => by simp at h
  | y :: L, i, s, 0, x, hr, h => by
    simp at h; subst h
    have e : stS (y :: L) (fun k => decide (k < i + 0)) i s = s := by
      rw [stS_eq (y :: L) _ (fun _ => false) i s (fun k _ => by simp), stS_none]
    rw [e]
    exact ⟨hr.1, hr.2.1⟩
  | y :: L, i, s, p + 1, x, hr, h => by
    have := Run.at_ L (i + 1) _ p x hr.2.2 (by simpa using h)
    simp only [stS]
    rw [if_pos (by simp)]
    rw [show i + (p + 1) = i + 1 + p by omega]
    exact this
end Go.Mg
