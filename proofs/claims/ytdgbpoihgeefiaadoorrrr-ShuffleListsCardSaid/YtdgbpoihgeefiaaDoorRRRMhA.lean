/- A law's row: arguments as trees; the end. -/
import Derived.Test.YtdgbpoihgeefiaaDoorRRRMgZ
namespace Go.Mg
open Go.RowKit Go.ChangeShapes Go.WideShapes
variable {P : Program} {W W' : World} {H : Type} {enc : TypeId × Value → H}

/-- the readings of the arguments stay -/
theorem trodAll_stays (hl : laidOutB P = true) {sp : Nat → Bool} : ∀ (ts : List TypeId) (vs : List Value) (ds : List (DataW H)) (p : List MemPlace), (∀ t ∈ ts, P.readableRec t = true ∧ t < P.types.size) → DataW.TrodAll enc P W 0 (fun _ => true) true ts vs ds p → (∀ x ∈ p, W.sameAt W' x ∧ sp x.block = true) →
    DataW.TrodAll enc P W' 0 sp true ts vs ds p
  | [], [], [], p, _, h, _ => h
  | t :: ts, v :: vs, d :: ds, p, hr, h, hx => by
    obtain ⟨p1, q1, h1, h2, rfl⟩ := h
    have hrt := hr t (by simp)
    exact ⟨p1, q1, WideElems.Trod_stays hl hrt.1 hrt.2 h1 (fun x hx' => (hx x (by simp [hx'])).1) (fun x hx' => (hx x (by simp [hx'])).2), trodAll_stays hl ts vs ds q1 (fun t ht => hr t (by simp [ht])) h2 (fun x hx' => hx x (by simp [hx'])), rfl⟩
  | [], _ :: _, _, _, _, h, _ => h.elim
  | [], [], _ :: _, _, _, h, _ => h.elim
  | _ :: _, [], _, _, _, h, _ => h.elim
  | _ :: _, _ :: _, [], _, _, h, _ => h.elim
/-- A law returns true, and leaves what was there. -/
theorem law_post {f : Func} {s : ChangeSpec} {apart handsOn : Bool} {args : Array Value} {ds gs : List (DataW H)} {before : List MemPlace} {tb : TypeId} (hW : DataW.Whole enc P f.params.toList s.vars apart W args.toList ds gs before) (hsv : s.vars = [])
    (hr1 : (s.fn H (ds ++ gs)).results = [.lit (.bool true)]) (hr2 : (s.fn H (ds ++ gs)).args = ds) (hr3 : (s.fn H (ds ++ gs)).vars = []) (hl : laidOutB P = true) (hrd : ∀ t ∈ f.params.toList, P.readableRec t = true ∧ t < P.types.size) (hrt : f.resultTypes = #[tb]) (htb : P.underlying tb = some .bool)
    (hb : Below W.heap.size W W') : s.post enc P f apart true handsOn false W args (.bool true) W' := by
  have hlt : ∀ p ∈ before, p.block < W.heap.size := fun p hp => hW.lt p hp
  have hW' := hW
  obtain ⟨p, q, hA, hV, rfl, _, _⟩ := hW'
  have hq : gs = [] ∧ q = [] := by
    rw [hsv] at hV
    cases gs with
    | nil => exact ⟨rfl, hV⟩
    | cons => exact hV.elim
  obtain ⟨rfl, rfl⟩ := hq
  refine ⟨ds, [], _, [], p, [], hW, ?_, ?_, ?_, ?_, fun h => by cases h⟩
  · rw [hr1, hrt]
    refine ⟨[], [], ⟨1, ?_⟩, rfl, rfl⟩
    simp [DataW.trod, Value.cells, htb]
  · rw [hr2]
    exact trodAll_stays hl _ _ _ _ hrd hA (fun x hx => ⟨hb.same (hlt x (by simp [hx])), by simpa using hlt x (by simp [hx])⟩)
  · rw [hr3, hsv]; rfl
  · refine World.keptBut_mono (fun x hx => ⟨hx, .inr (.inl ?_)⟩) (hb.frame (· ∈ p ++ []))
    simpa using hx
/-- trees of the arguments' types -/
def TypedAll (ty : Nat → Option TyD) : List Nat → List T → Prop
  | [], [] => True
  | t :: ts, v :: vs => (∃ n, typed ty n t v) ∧ TypedAll ty ts vs
  | _, _ => False
theorem typed_agg {tl : List (Nat × TyD)} {n t : Nat} {v : T} {i : TyD} (hi : get tl t = some i) (h : typed (get tl) n t v) : v.agg = i.d.agg := by
  cases n with
  | zero => simp [typed] at h
  | succ n =>
    simp only [typed, hi] at h
    cases hd : i.d <;> rw [hd] at h <;> simp only at h
    case int => obtain ⟨x, rfl, _⟩ := h; rfl
    case bool => obtain ⟨x, rfl⟩ := h; rfl
    case str => obtain ⟨x, rfl, _⟩ := h; rfl
    case ptr => rcases h with rfl | ⟨u, rfl, _⟩ <;> rfl
    case slice =>
      split at h
      · obtain ⟨l, rfl, _⟩ := h; rfl
      · exact h.elim
    case struct => obtain ⟨l, rfl, _⟩ := h; rfl
    case array =>
      split at h
      · obtain ⟨l, rfl, _⟩ := h; rfl
      · exact h.elim
theorem args_ok {tl : List (Nat × TyD)} (hty : ∀ t d, get tl t = some d → TyOK P t d) (hcl : closedTys tl = true) {base base' : Nat} {spare : Nat → Bool} {held : Bool} : ∀ (ts : List TypeId) (vs : List Value) (ds : List (DataW H)) (p : List MemPlace), (∀ t ∈ ts, (get tl t).isSome = true) →
    DataW.TrodAll enc P W base spare held ts vs ds p → (∀ (j : Nat) t v, ts[j]? = some t → vs[j]? = some v → Value.okWide P W .any base' t v) → ∃ us, TypedAll (get tl) ts us ∧ ArgsOK (memW W) W [] us vs []
  | [], [], ds, p, _, h, _ => ⟨[], trivial, by simp [ArgsOK]⟩
  | t :: ts, v :: vs, d :: ds, p, hin, h, hv => by
    obtain ⟨p1, q1, ⟨fuel, h1⟩, h2, rfl⟩ := h
    obtain ⟨i, hi⟩ := Option.isSome_iff_exists.1 (hin t (by simp))
    obtain ⟨u, k1, k2⟩ := trod_typed hty hcl fuel t i _ d p1 hi h1
    obtain ⟨us, k3, k4⟩ := args_ok hty hcl ts vs ds q1 (fun t ht => hin t (by simp [ht])) h2 (fun j t v h1 h2 => hv (j + 1) t v (by simpa using h1) (by simpa using h2))
    refine ⟨u :: us, ⟨⟨fuel, k1⟩, k3⟩, ?_⟩
    simp only [ArgsOK]
    refine ⟨v, vs, rfl, ?_, k4⟩
    have hagg := typed_agg hi k1
    have hdesc := (hty t i hi).desc
    have hok := hv 0 t v rfl rfl
    unfold Value.okWide at hok
    unfold RV0
    simp only [AV.agg, hagg]
    cases hd : i.d <;> rw [hd] at hdesc <;> simp only at hdesc
    case struct fs =>
      obtain ⟨fields, hu, _⟩ := hdesc
      rw [hu] at hok
      obtain ⟨cs, rfl, _⟩ := hok
      rw [if_pos (show (Ty.struct fs).agg = true from rfl)]
      exact ⟨cs.toList, by simp, by simpa [RA, Value.cells] using k2⟩
    case array n e =>
      rw [hdesc] at hok
      obtain ⟨cs, rfl, _⟩ := hok
      rw [if_pos (show (Ty.array n e).agg = true from rfl)]
      exact ⟨cs.toList, by simp, by simpa [RA, Value.cells] using k2⟩
    case func =>
      obtain ⟨_, _, _, hu⟩ := hdesc
      rw [hu] at hok
      rw [if_neg (by simp [Ty.agg])]
      simp only [RA]
      cases v with
      | agg cs => simp [Cell.okWide, Cell.ok, hu] at hok
      | _ => simpa [Value.cells] using k2
    all_goals
      rw [hdesc] at hok
      rw [if_neg (by simp [Ty.agg])]
      simp only [RA]
      cases v with
      | agg cs => simp [Cell.okWide, Cell.ok, hdesc] at hok
      | _ => simpa [Value.cells] using k2
  | [], _ :: _, _, _, _, h, _ => h.elim
  | _ :: _, [], _, _, _, h, _ => h.elim
  | _ :: _, _ :: _, [], _, _, h, _ => h.elim
/-- The walk of a law, out of its specification. -/
theorem law_walk {glob : Nat → Option T} {f : Nat} {sp : Spec} (hB : SpecB P glob f sp) (hle : sp.lent = []) (hG : GlobOK glob (memW W)) {us : List T} {vs : List Value} (ha : ArgsOK (memW W) W [] us vs []) (hsp : sp.fn us = some ([.tree (.bool true)], [])) :
    Calls P f vs.toArray W fun e W' => e = .returned (.bool true) ∧ Below W.heap.size W W' := by
  refine (hB.2 (memW W) W us vs [] _ _ (memW_ok W) hG (by rw [hle]; exact ha) (by simp) hsp).mono ?_
  rintro e W' ⟨m', xs, rfl, _, _, _, h1, _, _, h2⟩
  simp only [ResOK] at h1
  obtain ⟨x, r, rfl, h3, rfl⟩ := h1
  have hx := rv_bool (m := m') (ρ := ρ0) (b := true) (RV_of_good h3)
  subst hx
  exact ⟨rfl, h2.os, h2.tape, h2.output, h2.size, fun k hk => h2.block k hk (by simp)⟩
end Go.Mg
