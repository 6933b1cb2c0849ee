/- All operations; one operation in a region. -/
import Derived.Test.YtighjjielkdafaaDoorMgP
namespace Go.Mg
open Go.RowKit
variable {P : Program} {E : Env} {C : Ctx} {ob obr : Nat → Option Ob} {m m' : Mem} {ρ ρ' : Rho} {w w' : World} {o : Oper} {a : Act} {r : Res}

theorem arr_eq {α : Type} {x : Array α} {l : List α} (h : x.toList = l) : x = l.toArray := by
  rw [← Array.toList_inj]; simpa using h
theorem opSem_ok (hE : EnvOK P E) (hC : ∀ n g, (n, g) ∈ C.lent → 50000 ≤ n) (h : MS C ob m ρ w) (hG : GlobOK E.glob m) (hs : SubO obr ob) (hf : FreeO o obr ob) {tm : List (Nat × AV)} (hev : ∀ x : Operand, OpdOK ob m ρ (evalAV E tm x) (a.eval x))
    (hr : opSem E o ((opnds o.op).map (evalAV E tm)) obr = some r) : Step P C ob m ρ w o a r := by
  unfold opSem at hr
  split at hr <;> rename_i e
  · rw [e] at hr; exact (opMove_ok h (.inl e) (hev _) hr).step
  · rw [e] at hr; exact (opMove_ok h (.inr e) (hev _) hr).step
  · rw [e] at hr; exact (opPick_ok h e (hev _) (hev _) (hev _) hr).step
  · exact (opAlloc_ok hE h hf e hr).step
  · rw [e] at hr; exact (opBox_ok h hf e (hev _) hr).step
  · rw [e] at hr; exact (opBuild_ok hE h hev e hr).step
  · rw [e] at hr; exact (opBuildSlice_ok hE hC h hs hf hev e hr).step
  · rw [e] at hr; exact (opLoad_ok hE h hs e (hev _) hr).step
  · rw [e] at hr; exact (opStore_ok hE h hs e (hev _) (hev _) hr).step
  · rw [e] at hr; exact (opNil_ok h e (hev _) hr).step
  · rw [e] at hr; exact (opBin_ok hE h e (hev _) (hev _) hr).step
  · rw [e] at hr; exact (opUn_ok h e (hev _) hr).step
  · rw [e] at hr; exact (opConv_ok hE h hs e (hev _) hr).step
  · rw [e] at hr; exact (opFieldAddr_ok hE h e (hev _) hr).step
  · rw [e] at hr; exact (opField_ok hE h e (hev _) hr).step
  · rw [e] at hr; exact (opIndexAddr_ok hE h hs e (hev _) (hev _) hr).step
  · rw [e] at hr; exact (opIndex_ok hE h e (hev _) (hev _) hr).step
  · rw [e] at hr; exact (opExtract_ok h e (hev _) hr).step
  · rw [e] at hr; exact (opMake_ok hE h hf e (hev _) (hev _) hr).step
  · rw [e] at hr; exact (opSlice_ok hE h hs hev e hr).step
  · rename_i c
    rw [e] at hr
    unfold opCall at hr
    have one : ∀ ps : List AV, ps = c.args.toList.map (evalAV E tm) → ∀ v, ps = [v] → ∃ x, c.args = #[x] ∧ evalAV E tm x = v := by
      intro ps h1 v h2
      rw [h1] at h2
      cases hl : c.args.toList with
      | nil => rw [hl] at h2; simp at h2
      | cons x l =>
        rw [hl] at h2
        simp at h2
        obtain ⟨h3, rfl⟩ := h2
        exact ⟨x, arr_eq hl, h3⟩
    have two : ∀ ps : List AV, ps = c.args.toList.map (evalAV E tm) → ∀ v v', ps = [v, v'] → ∃ x y, c.args = #[x, y] ∧ evalAV E tm x = v ∧ evalAV E tm y = v' := by
      intro ps h1 v v' h2
      rw [h1] at h2
      cases hl : c.args.toList with
      | nil => rw [hl] at h2; simp at h2
      | cons x l =>
        rw [hl] at h2
        cases l with
        | nil => simp at h2
        | cons y l =>
          simp at h2
          obtain ⟨h3, h4, rfl⟩ := h2
          exact ⟨x, y, arr_eq hl, h3, h4⟩
    split at hr <;> rename_i ec
    · have hps : opnds (.call c) = c.args.toList := by simp [opnds, ec]
      rw [hps] at hr
      unfold opLen at hr
      split at hr
      · rename_i v hv
        obtain ⟨x, hx1, rfl⟩ := one _ rfl v hv
        exact (opLen_ok hE h hs e ec hx1 (hev x) (by simpa [opLen] using hr)).step
      · cases hr
    · have hps : opnds (.call c) = c.args.toList := by simp [opnds, ec]
      rw [hps] at hr
      unfold opMinMax at hr
      split at hr
      · rename_i p q hv
        obtain ⟨x, y, hx1, hx2, hx3⟩ := two _ rfl _ _ hv
        exact (opMinMax_ok (mx := true) (vx := .t p) (vy := .t q) h e (by simpa using ec) hx1 (by rw [← hx2]; exact hev x) (by rw [← hx3]; exact hev y) hr).step
      · cases hr
    · have hps : opnds (.call c) = c.args.toList := by simp [opnds, ec]
      rw [hps] at hr
      unfold opMinMax at hr
      split at hr
      · rename_i p q hv
        obtain ⟨x, y, hx1, hx2, hx3⟩ := two _ rfl _ _ hv
        exact (opMinMax_ok (mx := false) (vx := .t p) (vy := .t q) h e (by simpa using ec) hx1 (by rw [← hx2]; exact hev x) (by rw [← hx3]; exact hev y) hr).step
      · cases hr
    · have hps : opnds (.call c) = c.args.toList := by simp [opnds, ec]
      rw [hps] at hr
      generalize hq : c.args.toList.map (evalAV E tm) = ps at hr
      have hr' := hr
      unfold opAppend at hr
      split at hr
      · rename_i s x
        obtain ⟨u, v, hx1, rfl, rfl⟩ := two _ hq.symm _ _ rfl
        exact (opAppend_ok hE h hs hf e ec hx1 (hev u) (hev v) hr').step
      · cases hr
    · have hps : opnds (.call c) = c.args.toList := by simp [opnds, ec]
      rw [hps] at hr
      generalize hq : c.args.toList.map (evalAV E tm) = ps at hr
      have hr' := hr
      unfold opCopy at hr
      split at hr
      · rename_i s x
        obtain ⟨u, v, hx1, rfl, rfl⟩ := two _ hq.symm _ _ rfl
        exact (opCopy_ok hE h hs e ec hx1 (hev u) (hev v) hr').step
      · cases hr
    · rename_i f
      have hps : opnds (.call c) = f :: c.args.toList := by simp [opnds, ec]
      rw [hps] at hr
      exact opFn_ok hE hC h hG hs hf hev e ec hr
    · cases hr
  · cases hr
end Go.Mg
