/- The state of a function's frame; one operation in a region; regions. -/
import Derived.Test.YtdgbpoihgeefiaaDoorRRRMgQ
namespace Go.Mg
open Go.RowKit
variable {P : Program} {E : Env} {C : Ctx} {ob obr : Nat → Option Ob} {m m' : Mem} {ρ ρ' : Rho} {w w' : World} {o : Oper} {a : Act} {r : Res} {ops : Array Oper}

/-- What a state of the evaluator says of the machine. -/
structure SRel (E : Env) (C : Ctx) (s : St) (m : Mem) (ρ : Rho) (a : Act) (w : World) : Prop where
  ms : MS C (get s.ob) m ρ w
  ts : TS E s.tm (get s.ob) m ρ a
theorem SRel.ext {s s' : St} (h : SRel E C s m ρ a w) (h1 : ∀ i, get s'.tm i = get s.tm i) (h2 : ∀ n, get s'.ob n = get s.ob n) : SRel E C s' m ρ a w := by
  have e : get s'.ob = get s.ob := funext h2
  refine ⟨by rw [e]; exact h.ms, ⟨h.ts.defers, h.ts.size, ?_, ?_⟩⟩
  · intro i; rw [h1 i]; exact h.ts.tmps i
  · intro i n hn
    rw [h1 i] at hn
    rw [e]; exact h.ts.names i n hn
theorem get_apply_ob (s : St) (o : Oper) (r : Res) (n : Nat) : get (apply s o r).ob n = updf (get s.ob) r.wr n := by
  have : (apply s o r).ob = sets s.ob r.wr := by
    unfold apply St.putd
    split <;> rfl
  rw [this, get_sets, updf_eq]
theorem get_apply_tm (s : St) (o : Oper) (r : Res) (i : Nat) : get (apply s o r).tm i = if o.dst = some i then some r.v else get s.tm i := by
  unfold apply St.putd
  split
  · rename_i d hd
    simp only [hd, get, Option.some.injEq]
  · rename_i hd
    rw [hd]; simp
theorem SRel.put {s : St} (h : SRel E C s m ρ a w) {x : Value} (hd : ∀ d, o.dst = some d → d < E.ntmps ∨ x = undef) (hm : Sub m m') (hag : Agree (get s.ob) ρ ρ') (hms : MS C (updf (get s.ob) r.wr) m' ρ' w') (hrv : RV m' ρ' r.v x) (hn : ∀ n ∈ r.v.names, updf (get s.ob) r.wr n ≠ none) :
    SRel E C (apply s o r) m' ρ' (a.put o.dst x) w' := by
  have e : get (apply s o r).ob = updf (get s.ob) r.wr := funext (get_apply_ob s o r)
  refine ⟨by rw [e]; exact hms, ⟨?_, ?_, ?_, ?_⟩⟩
  · unfold Act.put; split <;> exact h.ts.defers
  · unfold Act.put; split
    · simpa using h.ts.size
    · exact h.ts.size
  · intro i
    rw [get_apply_tm]
    split
    · rename_i hdi
      simp only [Option.getD_some]
      unfold Act.put
      rw [hdi]
      simp only
      by_cases hlt : i < a.tmps.size
      · have : (a.tmps.setIfInBounds i x).getD i undef = x := by
          simp [Array.getD_eq_getD_getElem?, hlt]
        rw [this]; exact hrv
      · have : (a.tmps.setIfInBounds i x).getD i undef = undef := by
          simp [Array.getD_eq_getD_getElem?, hlt]
        rw [this]
        rcases hd i hdi with h1 | h1
        · rw [h.ts.size] at hlt; exact absurd h1 hlt
        · rw [← h1]; exact hrv
    · rename_i hdi
      have hold := (h.ts.tmps i).mono hm (fun n hn => hag n (h.ts.names i n hn))
      have : (a.put o.dst x).tmps.getD i undef = a.tmps.getD i undef := by
        unfold Act.put
        split
        · rename_i d hd'
          have : d ≠ i := by rintro rfl; exact hdi hd'
          simp [Array.getD_eq_getD_getElem?, Array.getElem?_setIfInBounds, this]
        · rfl
      rw [this]; exact hold
  · intro i n hn'
    rw [e]
    rw [get_apply_tm] at hn'
    split at hn'
    · exact hn n hn'
    · exact updf_none _ _ _ (h.ts.names i n hn')
theorem rv_undef : RV m ρ (.many []) undef := by
  simp only [RV]
  exact ⟨[], rfl, by simp [RVs]⟩
theorem wanted_ok {s : St} (h : SRel E C s m ρ a w) {b : Bool} (hw : wantedAV ops s.tm o = some b) : Region.wanted o (yielded ops a.tmps) = b := by
  unfold wantedAV at hw
  unfold Region.wanted
  split at hw
  · rename_i hg
    rw [hg]; simpa using hw
  · rename_i j want hg
    rw [hg]
    simp only
    split at hw
    · rename_i t ht
      have ht2 := h.ts.tmps t
      split at hw
      · rename_i b' hb
        simp at hw
        rw [hb] at ht2
        have ex := rv_bool ht2
        have hlt : t < a.tmps.size := by
          false_or_by_contra
          rename_i hc
          have : a.tmps.getD t undef = undef := by simp [Array.getD_eq_getD_getElem?, hc]
          rw [this] at ex; cases ex
        have hy : yielded ops a.tmps j = some b' := by
          unfold yielded
          rw [ht]
          have : a.tmps[t]? = some (.bool b') := by
            simp [Array.getD_eq_getD_getElem?, hlt] at ex
            simp [hlt, ex]
          simp [this]
        rw [hy, ← hw]; cases b' <;> cases want <;> rfl
      · rename_i hb
        simp at hw; subst hw
        rw [hb] at ht2
        simp only [Option.getD_some, RV] at ht2
        obtain ⟨xs, ex, hx⟩ := ht2
        simp only [RVs] at hx; subst hx
        have hy : yielded ops a.tmps j = none := by
          unfold yielded
          rw [ht]
          by_cases hlt : t < a.tmps.size
          · have : a.tmps[t]? = some (.tuple #[]) := by
              simp [Array.getD_eq_getD_getElem?, hlt] at ex
              simp [hlt, ex]
            simp [this]
          · have : a.tmps[t]? = none := Array.getElem?_eq_none (Nat.le_of_not_lt hlt)
            simp [this]
        rw [hy]; rfl
      · cases hw
    · cases hw
/-- One operation in a region. -/
theorem opEff_ok (hE : EnvOK P E) (hC : ∀ n g, (n, g) ∈ C.lent → 50000 ≤ n) {s : St} (h : SRel E C s m ρ a w) (hG : GlobOK E.glob m) {i : Nat} (hi : ops[i]? = some o) (hr : opEff E ops s o = some r) {Q : Exit → Act → World → Prop} {K : Act → World → Prop}
    (hK : ∀ m' ρ' a' w', Sub m m' → SRel E C (apply s o r) m' ρ' a' w' → K a' w') : wpOp P ops Q i K a w := by
  have hev : ∀ x : Operand, OpdOK (get s.ob) m ρ (evalAV E s.tm x) (a.eval x) := eval_ok h.ts hG
  unfold wpOp
  rw [hi]
  simp only
  unfold opEff at hr
  split at hr
  · rename_i hw
    rw [wanted_ok h hw]
    simp only [if_true]
    have main : opRes E s o = some r → (∀ d, o.dst = some d → d < E.ntmps) → o.wp P a w K Q := by
      intro hr hd
      unfold opRes at hr
      refine opSem_ok hE hC h.ms hG ?_ ?_ hev hr K Q ?_
      · intro n o' hn
        simp only at hn
        split at hn
        · exact hn
        · cases hn
      · intro d i hd hi4 hn
        simp only at hn
        rw [if_pos] at hn
        · exact hn
        · unfold touched
          rw [hd]
          simp only [List.mem_append]
          right
          have : i = 0 ∨ i = 1 ∨ i = 2 ∨ i = 3 := by omega
          rcases this with rfl | rfl | rfl | rfl <;> simp
      · intro x m' ρ' w' h1 h2 h3 h4 h5
        exact hK m' ρ' _ w' h1 (h.put (fun d hd' => .inl (hd d hd')) h1 h2 h3 h4 h5)
    split at hr
    · rename_i d hd
      split at hr
      · rename_i hlt
        exact .inl (main hr (fun d' hd' => by rw [hd] at hd'; injection hd' with e; exact e ▸ hlt))
      · cases hr
    · rename_i hd
      exact .inl (main hr (fun d' hd' => by rw [hd] at hd'; cases hd'))
  · rename_i hw
    rw [wanted_ok h hw]
    simp only [Bool.false_eq_true, if_false]
    injection hr with hr; subst hr
    exact hK m ρ _ w (Sub.refl m) (h.put (r := ⟨.many [], []⟩) (fun d _ => .inr rfl) (Sub.refl m) (Agree.refl _ _) h.ms rv_undef (by simp [AV.names, AV.namesL]))
  · cases hr
theorem wpOps_wpOp (Q : Exit → Act → World → Prop) (i : Nat) (rest : List Nat) : wpOp P ops Q i (wpOps P ops Q rest) a w → wpOps P ops Q (i :: rest) a w := fun h => by rw [wpOps_cons]; exact h
/-- Operations in the order of the text. -/
theorem evOps_ok (hE : EnvOK P E) (hC : ∀ n g, (n, g) ∈ C.lent → 50000 ≤ n) {Q : Exit → Act → World → Prop} : ∀ (l : List Oper) (i : Nat) (s s' : St) (m : Mem) (ρ : Rho) (a : Act) (w : World), (∀ j o, l[j]? = some o → ops[i + j]? = some o) → SRel E C s m ρ a w → GlobOK E.glob m → evOps E ops l s = some s' →
    (∀ m' ρ' a' w', Sub m m' → SRel E C s' m' ρ' a' w' → Q .normal a' w') → wpOps P ops Q (List.range' i l.length) a w
  | [], i, s, s', m, ρ, a, w, _, h, _, hev, hQ => by
    simp [evOps] at hev; subst hev
    simpa [wpOps] using hQ m ρ a w (Sub.refl m) h
  | o :: l, i, s, s', m, ρ, a, w, hl, h, hG, hev, hQ => by
    simp only [evOps, opStep] at hev
    cases hr : opEff E ops s o with
    | none => rw [hr] at hev; cases hev
    | some r =>
      rw [hr] at hev
      simp only [Option.map_some] at hev
      simp only [List.length_cons, List.range'_succ]
      refine wpOps_wpOp Q i _ (opEff_ok hE hC h hG (hl 0 o (by simp)) hr ?_)
      intro m' ρ' a' w' h1 h2
      exact evOps_ok hE hC l (i + 1) _ s' m' ρ' a' w' (fun j o' hj => by have := hl (j + 1) o' (by simpa using hj); rwa [show i + 1 + j = i + (j + 1) by omega]) h2 (hG.mono h1) hev (fun m2 ρ2 a2 w2 h3 h4 => hQ m2 ρ2 a2 w2 (h1.trans h3) h4)
end Go.Mg
