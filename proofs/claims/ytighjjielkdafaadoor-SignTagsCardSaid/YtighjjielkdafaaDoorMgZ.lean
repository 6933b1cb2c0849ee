/- What a statement's reading of an argument says: a tree of the argument's type. -/
import Derived.Test.YtighjjielkdafaaDoorMgY
import Derived.ProofKit
namespace Go.Mg
open Go.RowKit
variable {P : Program} {W : World}

def allT (p : Nat → T → Prop) : List Nat → List T → Prop
  | [], [] => True
  | t :: ts, v :: vs => p t v ∧ allT p ts vs
  | _, _ => False
/-- A tree of a type, by the table (n: how deep, at most). -/
def typed (ty : Nat → Option TyD) : Nat → Nat → T → Prop
  | 0, _, _ => False
  | n + 1, t, v => match ty t with
    | some i => match i.d with
      | .int k => ∃ x, v = .int k x ∧ (Lit.int k x).wf = true
      | .bool => ∃ b, v = .bool b
      | .str => ∃ s, v = .str s ∧ s.size ≤ maxLen
      | .ptr e => v = .nilp ∨ ∃ u, v = .ptr u ∧ typed ty n e u
      | .slice e => match ty e with
        | some j => ∃ l, v = .slc j.size l ∧ l.length ≤ maxLen ∧ ∀ u ∈ l, typed ty n e u
        | none => False
      | .struct fs => ∃ l, v = .tup l ∧ allT (typed ty n) (fs.map (·.1)) l
      | .array k e => match ty e with
        | some j => ∃ l, v = .arr j.size k l ∧ l.length = k ∧ ∀ u ∈ l, typed ty n e u
        | none => False
      | .func => False
    | none => False
/-- The table has the types of a type's parts; no functions. -/
def closedTys (l : List (Nat × TyD)) : Bool := l.all fun x => match x.2.d with
  | .ptr e | .slice e => match get l e with
    | some j => decide (0 < j.size)
    | none => false
  | .array _ e => (get l e).isSome
  | .struct fs => fs.all fun f => (get l f.1).isSome
  | .func => false
  | _ => true
abbrev memW (W : World) : Mem := fun b o => W.cell? ⟨b, o, none⟩
theorem memW_ok (W : World) : (memW W).ok W := fun _ _ _ h => h
theorem build_es {m : Mem} {c : Nat} {p : T → Prop} (cs : List Value) (n : Nat) (hl : n * c ≤ cs.length) (h : ∀ i, i < n → ∃ v, p v ∧ RT m v ((cs.drop (i * c)).take c)) : ∃ l, l.length = n ∧ (∀ u ∈ l, p u) ∧ REs m c l (cs.take (n * c)) := by
  induction n with
  | zero => exact ⟨[], rfl, by simp, by simp [REs]⟩
  | succ n ih =>
    have hs : (n + 1) * c = n * c + c := by rw [Nat.add_mul]; omega
    obtain ⟨l, h1, h2, h3⟩ := ih (by omega) (fun i hi => h i (by omega))
    obtain ⟨v, h4, h5⟩ := h n (by omega)
    refine ⟨l ++ [v], by simp [h1], ?_, ?_⟩
    · intro u hu
      rcases List.mem_append.1 hu with hu | hu
      · exact h2 u hu
      · simp at hu; subst hu; exact h4
    · rw [hs, List.take_add]
      refine REs.append l [v] _ _ h3 ?_
      simp only [REs]
      exact ⟨_, [], by simp, by simp; omega, h5, rfl⟩
theorem build_row {c b of : Nat} {p : T → Prop} (n : Nat) (h : ∀ i, i < n → ∃ v us, p v ∧ RT (memW W) v us ∧ us.length = c ∧ ∀ j, j < c → W.cell? ⟨b, of + i * c + j, none⟩ = us[j]?) :
    ∃ l us, l.length = n ∧ (∀ u ∈ l, p u) ∧ REs (memW W) c l us ∧ At (memW W) b of us := by
  induction n with
  | zero => exact ⟨[], [], rfl, by simp, rfl, by intro i v h; simp at h⟩
  | succ n ih =>
    obtain ⟨l, us, h1, h2, h3, h4⟩ := ih (fun i hi => h i (by omega))
    obtain ⟨v, vs, h5, h6, h7, h8⟩ := h n (by omega)
    have hul := REs.len _ _ _ h3
    refine ⟨l ++ [v], us ++ vs, by simp [h1], ?_, ?_, ?_⟩
    · intro u hu
      rcases List.mem_append.1 hu with hu | hu
      · exact h2 u hu
      · simp at hu; subst hu; exact h5
    · refine REs.append l [v] _ _ h3 ?_
      simp only [REs]
      exact ⟨vs, [], by simp, h7, h6, rfl⟩
    · intro i x hx
      by_cases hi : i < us.length
      · rw [List.getElem?_append_left hi] at hx; exact h4 i x hx
      · rw [List.getElem?_append_right (by omega)] at hx
        have hj : i - us.length < c := by
          have := (List.getElem?_eq_some_iff.1 hx).1; omega
        have := h8 (i - us.length) hj
        rw [hx] at this
        rw [show of + i = of + n * c + (i - us.length) by rw [hul, h1] at hi ⊢; omega]
        exact this
theorem mapM_at {α β : Type} {f : α → Option β} : ∀ {l : List α} {xs : List β}, l.mapM f = some xs → ∀ (i : Nat) (a : α), l[i]? = some a → ∃ x, f a = some x
  | [], _, _, i, a, h => by simp at h
  | y :: l, xs, hm, i, a, h => by
    rw [List.mapM_cons] at hm
    cases hy : f y with
    | none => simp [hy] at hm
    | some z =>
      cases hl : l.mapM f with
      | none => simp [hy, hl] at hm
      | some zs =>
        cases i with
        | zero => simp at h; subst h; exact ⟨z, hy⟩
        | succ i => exact mapM_at hl i a (by simpa using h)
theorem trod_typed {H : Type} {enc : TypeId × Value → H} {tl : List (Nat × TyD)} (hty : ∀ t d, get tl t = some d → TyOK P t d) (hcl : closedTys tl = true) {base : Nat} {spare : Nat → Bool} {held : Bool} :
    ∀ (fuel t : Nat) (i : TyD) (cs : List Value) (d : DataW H) (ps : List MemPlace), get tl t = some i → DataW.trod enc P W base spare held fuel t cs = some (d, ps) → ∃ v, typed (get tl) fuel t v ∧ RT (memW W) v cs
  | 0, t, i, cs, d, ps, _, h => by simp [DataW.trod] at h
  | fuel + 1, t, i, cs, d, ps, hi, h => by
    have hok := hty t i hi
    have hdesc := hok.desc
    have hlay := hok.lay
    have hcl' : (match i.d with
        | .ptr e | .slice e => match get tl e with
          | some j => decide (0 < j.size)
          | none => false
        | .array _ e => (get tl e).isSome
        | .struct fs => fs.all fun f => (get tl f.1).isSome
        | .func => false
        | _ => true) = true := by
      unfold closedTys at hcl
      rw [List.all_eq_true] at hcl
      exact hcl _ (get_mem hi)
    have cells : ∀ e j, get tl e = some j → P.cellsOf e = j.size := by
      intro e j hj
      obtain ⟨q, hq, h1, _⟩ := (hty e j hj).info
      simp [Program.cellsOf, hq, h1]
    simp only [typed, hi]
    have struct : ∀ (fields : List Field) (l : List T) (o : Nat) (xs : List (DataW H × List MemPlace)), (∀ f ∈ fields, (get tl f.type).isSome = true) → fields.mapM (fun f => (P.info? f.type).map fun i => (f.offset, i.size)) = some (placesOf o l) →
        fields.mapM (fun f => DataW.trod enc P W base spare held fuel f.type ((cs.drop f.offset).take (P.cellsOf f.type))) = some xs → cs.length = o + T.sizes l → ∃ vs, allT (typed (get tl) fuel) (fields.map (·.type)) vs ∧ RTs (memW W) vs (cs.drop o) := by
      intro fields
      induction fields with
      | nil =>
        intro l o xs _ h1 _ h3
        cases l with
        | nil =>
          refine ⟨[], trivial, ?_⟩
          simp only [RTs]
          exact List.drop_of_length_le (by simp [T.sizes] at h3; omega)
        | cons z l => simp [placesOf] at h1
      | cons f fields ih =>
        intro l o xs hin h1 h2 h3
        rw [List.mapM_cons] at h1 h2
        cases hf : P.info? f.type with
        | none => simp [hf] at h1
        | some fi =>
          cases hr : fields.mapM (fun f => (P.info? f.type).map fun i => (f.offset, i.size)) with
          | none => simp [hf, hr] at h1
          | some r =>
            simp [hf, hr] at h1
            cases l with
            | nil => simp [placesOf] at h1
            | cons z l =>
              simp only [placesOf, List.cons.injEq, Prod.mk.injEq] at h1
              obtain ⟨⟨e1, e2⟩, e3⟩ := h1
              cases hx : DataW.trod enc P W base spare held fuel f.type ((cs.drop f.offset).take (P.cellsOf f.type)) with
              | none => simp [hx] at h2
              | some x =>
                cases hxs : fields.mapM (fun f => DataW.trod enc P W base spare held fuel f.type ((cs.drop f.offset).take (P.cellsOf f.type))) with
                | none => simp [hx, hxs] at h2
                | some xs' =>
                  simp only [T.sizes] at h3
                  obtain ⟨vs, q1, q2⟩ := ih l (o + z.size) xs' (fun g hg => hin g (by simp [hg])) (by rw [hr, e3]) hxs (by omega)
                  obtain ⟨j, hj⟩ := Option.isSome_iff_exists.1 (hin f (by simp))
                  obtain ⟨v, p1, p2⟩ := trod_typed hty hcl fuel f.type j _ x.1 x.2 hj hx
                  refine ⟨v :: vs, ⟨p1, q1⟩, ?_⟩
                  simp only [RTs]
                  have hc : P.cellsOf f.type = z.size := by simp [Program.cellsOf, hf, e2]
                  refine ⟨(cs.drop o).take z.size, cs.drop (o + z.size), ?_, ?_, q2⟩
                  · rw [← List.drop_drop, List.take_append_drop]
                  · rw [e1, hc] at p2; exact p2
    cases hd : i.d with
    | int k =>
      rw [hd] at hdesc
      unfold DataW.trod at h
      rw [hdesc] at h
      split at h <;> try (simp_all; done)
      all_goals first | (cases h; done) | skip
      rename_i k1 k2 n e1
      injection e1 with e1
      injection e1 with e1
      subst e1
      split at h
      · rename_i hc
        obtain ⟨rfl, hw⟩ := hc
        exact ⟨_, ⟨n, rfl, hw⟩, by simp [RT]⟩
      · cases h
    | bool =>
      rw [hd] at hdesc
      unfold DataW.trod at h
      rw [hdesc] at h
      split at h <;> try (simp_all; done)
      all_goals first | (cases h; done) | skip
      rename_i b _
      exact ⟨_, ⟨b, rfl⟩, by simp [RT]⟩
    | str =>
      rw [hd] at hdesc
      unfold DataW.trod at h
      rw [hdesc] at h
      split at h <;> try (simp_all; done)
      all_goals first | (cases h; done) | skip
      rename_i b _
      split at h
      · rename_i hc
        exact ⟨_, ⟨b, rfl, hc⟩, by simp [RT]⟩
      · cases h
    | ptr e =>
      rw [hd] at hdesc hcl'
      simp only at hcl'
      cases hj : get tl e with
      | none => rw [hj] at hcl'; cases hcl'
      | some j =>
        rw [hj] at hcl'
        simp only [decide_eq_true_eq] at hcl'
        unfold DataW.trod at h
        rw [hdesc] at h
        split at h <;> try (simp_all; done)
        all_goals first | (cases h; done) | skip
        · exact ⟨.nilp, .inl rfl, by simp [RT]⟩
        · rename_i e1 ad e2
          injection e2 with e2
          injection e2 with e2
          subst e2
          rw [Option.map_eq_some_iff] at h
          obtain ⟨x, hx, _⟩ := h
          rw [Option.bind_eq_some_iff] at hx
          obtain ⟨us, hu, hx⟩ := hx
          obtain ⟨_, hl, hc⟩ := World.cells?_some hu
          rw [cells e j hj] at hl hc
          obtain ⟨v, p1, p2⟩ := trod_typed hty hcl fuel e j us x.1 x.2 hj hx
          have h0 : W.cell? (ad.add 0) = us[0]? := hc 0 hcl'
          have hspot : ad.spot = none := by
            rw [List.getElem?_eq_getElem (by omega)] at h0
            have := World.cell?_spot h0
            simpa [Addr.add] using this
          obtain ⟨b, of, sp⟩ := ad
          simp only at hspot; subst hspot
          refine ⟨.ptr v, .inr ⟨v, rfl, p1⟩, ?_⟩
          simp only [RT]
          refine ⟨b, of, us, rfl, p2, fun k y hy => ?_⟩
          have hk := (List.getElem?_eq_some_iff.1 hy).1
          have := hc k (by omega)
          rw [Addr.add_mid] at this
          exact this.trans hy
    | slice e =>
      rw [hd] at hdesc hcl'
      simp only at hcl'
      cases hj : get tl e with
      | none => rw [hj] at hcl'; cases hcl'
      | some j =>
        rw [hj] at hcl'
        simp only [decide_eq_true_eq] at hcl'
        simp only [hj]
        unfold DataW.trod at h
        rw [hdesc] at h
        split at h <;> try (simp_all; done)
        all_goals first | (cases h; done) | skip
        · refine ⟨.slc j.size [], ⟨[], rfl, by simp, by simp⟩, ?_⟩
          simp only [RT]
          exact ⟨none, 0, rfl, by simp, by simp⟩
        · rename_i e1 ad len cap e2
          injection e2 with e2
          injection e2 with e2
          subst e2
          simp only at h
          split at h
          · rename_i hc
            obtain ⟨_, hlc, hcm⟩ := hc
            rw [Option.bind_eq_some_iff] at h
            obtain ⟨xs, hm, _⟩ := h
            have at_ : ∀ k, k < len → ∃ v us, typed (get tl) fuel e v ∧ RT (memW W) v us ∧ us.length = j.size ∧ ∀ q, q < j.size → W.cell? ((ad.add (k * j.size)).add q) = us[q]? := by
              intro k hk
              obtain ⟨x, hx⟩ := mapM_at hm k k (by simp [hk])
              rw [Option.bind_eq_some_iff] at hx
              obtain ⟨us, hu, hx⟩ := hx
              obtain ⟨_, hl, hc⟩ := World.cells?_some hu
              rw [cells e j hj] at hl hc
              obtain ⟨v, p1, p2⟩ := trod_typed hty hcl fuel e j us x.1 x.2 hj hx
              exact ⟨v, us, p1, p2, hl, hc⟩
            by_cases hz : len = 0
            · subst hz
              refine ⟨.slc j.size [], ⟨[], rfl, by simp, by simp⟩, ?_⟩
              simp only [RT]
              exact ⟨some ad, cap, rfl, by simp, by simp⟩
            · have hspot : ad.spot = none := by
                obtain ⟨v, us, _, _, q3, q4⟩ := at_ 0 (by omega)
                have h0 := q4 0 hcl'
                rw [List.getElem?_eq_getElem (by omega)] at h0
                have := World.cell?_spot h0
                simpa [Addr.add] using this
              obtain ⟨b, of, sp⟩ := ad
              simp only at hspot; subst hspot
              obtain ⟨l, us, q1, q2, q3, q4⟩ := build_row (c := j.size) (b := b) (of := of) (p := typed (get tl) fuel e) len (fun k hk => by
                obtain ⟨v, us, p1, p2, p3, p4⟩ := at_ k hk
                exact ⟨v, us, p1, p2, p3, fun q hq => by have := p4 q hq; rwa [Addr.add_mid, Addr.add_mid] at this⟩)
              refine ⟨.slc j.size l, ⟨l, rfl, by omega, q2⟩, ?_⟩
              simp only [RT]
              exact ⟨_, cap, by rw [q1], by omega, .inr ⟨b, of, us, rfl, q3, q4⟩⟩
          · cases h
    | func => rw [hd] at hcl'; simp at hcl'
    | struct fs =>
      rw [hd] at hdesc hcl' hlay
      simp only [List.all_eq_true] at hcl'
      obtain ⟨fields, hu, hfs, _⟩ := hdesc
      obtain ⟨l, hzero, hl⟩ := hlay
      unfold DataW.trod at h
      rw [hu] at h
      simp only at h
      split at h
      · rename_i hlen
        rw [Option.map_eq_some_iff] at h
        obtain ⟨xs, hxs, _⟩ := h
        have hsz : cs.length = 0 + T.sizes l := by
          rw [hlen, cells t i hi, ← hok.zsize, hzero]; simp [T.size]
        obtain ⟨vs, q1, q2⟩ := struct fields.toList l 0 xs (fun f hf => by
          have := hcl' (f.type, f.offset) (by rw [← hfs]; exact List.mem_map.2 ⟨f, hf, rfl⟩)
          simpa using this) (hl fields hu) hxs hsz
        refine ⟨.tup vs, ⟨vs, rfl, ?_⟩, by simpa [RT] using q2⟩
        rw [← hfs, List.map_map]
        exact q1
      · cases h
    | array n e =>
      rw [hd] at hdesc hcl' hlay
      simp only at hcl'
      obtain ⟨es, l0, hzero, jj, hjj, hes⟩ := hlay
      obtain ⟨j, hj⟩ := Option.isSome_iff_exists.1 hcl'
      simp only [hj]
      unfold DataW.trod at h
      rw [hdesc] at h
      simp only at h
      split at h
      · rename_i hlen
        rw [Option.map_eq_some_iff] at h
        obtain ⟨xs, hxs, _⟩ := h
        have hce := cells e j hj
        have hsz : cs.length = n * j.size := by
          rw [hlen, cells t i hi, ← hok.zsize, hzero]
          simp only [T.size]
          have : es = j.size := by rw [← hes, ← hce]; simp [Program.cellsOf, hjj]
          rw [this]
        rw [hce] at hxs
        obtain ⟨l, q1, q2, q3⟩ := build_es (m := memW W) (c := j.size) (p := typed (get tl) fuel e) cs n (by omega) (fun k hk => by
          obtain ⟨x, hx⟩ := mapM_at hxs k k (by simp [hk])
          exact trod_typed hty hcl fuel e j _ x.1 x.2 hj hx)
        rw [List.take_of_length_le (by omega)] at q3
        refine ⟨.arr j.size n l, ⟨l, rfl, q1, q2⟩, ?_⟩
        simp only [RT]
        exact ⟨q1, q3⟩
      · cases h
end Go.Mg
