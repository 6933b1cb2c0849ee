/- States are tidied: temporaries that nobody reads any more go, objects get other names or go. -/
import Derived.Test.YtdgbpoihgeefiaaDoorRRRMgT
namespace Go.Mg
open Go.RowKit
variable {P : Program} {E : Env} {C : Ctx} {m m' : Mem} {ρ ρ' : Rho} {w w' : World} {a : Act}

def ren (R : List (Nat × Nat)) (n : Nat) : Nat := (get R n).getD n
mutual
def AV.renm (R : List (Nat × Nat)) : AV → AV
  | .t v => .t v
  | .ref n p off => .ref (ren R n) p off
  | .own n => .own (ren R n)
  | .win n p off es lo len => .win (ren R n) p off es lo len
  | .tight es l => .tight es l
  | .tup l => .tup (AV.renmL R l)
  | .many l => .many (AV.renmL R l)
  | .bad => .bad
def AV.renmL (R : List (Nat × Nat)) : List AV → List AV
  | [] => []
  | v :: l => v.renm R :: AV.renmL R l
end
def Ob.renm (R : List (Nat × Nat)) : Ob → Ob
  | .var sh ty c => .var sh ty (c.renm R)
  | .row sh ty es l => .row sh ty es l
  | .gone => .gone
def isIn {α : Type} (R : List (Nat × α)) (n : Nat) : Bool := (get R n).isSome
def keepT (K : List Nat) (R : List (Nat × Nat)) (tm : List (Nat × AV)) : List (Nat × AV) :=
  match K with
  | [] => []
  | t :: K => match get tm t with
    | some v => (t, v.renm R) :: keepT K R tm
    | none => keepT K R tm
def keepO (R0 R : List (Nat × Nat)) (ob : List (Nat × Ob)) : List (Nat × Ob) :=
  match R0 with
  | [] => []
  | x :: R0 => match get ob x.1 with
    | some o => (x.2, o.renm R) :: keepO R0 R ob
    | none => keepO R0 R ob
/-- K: the temporaries that are kept; R: the objects that are kept, with their new names. -/
def St.norm (L : List Nat) (K : List Nat) (R : List (Nat × Nat)) (s : St) : Option St :=
  if (K.all fun t => ((get s.tm t).getD .bad).names.all (isIn R)) && (R.all fun x => ((get s.ob x.1).getD .gone).names.all (isIn R)) && decide (R.map (·.1)).Nodup && decide (R.map (·.2)).Nodup && (L.all fun n => get R n == some n) then
    some ⟨keepT K R s.tm, keepO R R s.ob⟩ else none

mutual
theorem renm_names (R : List (Nat × Nat)) : ∀ v : AV, (v.renm R).names = v.names.map (ren R)
  | .t _ => by simp [AV.renm, AV.names]
  | .ref _ _ _ => by simp [AV.renm, AV.names]
  | .own _ => by simp [AV.renm, AV.names]
  | .win _ _ _ _ _ _ => by simp [AV.renm, AV.names]
  | .tight _ _ => by simp [AV.renm, AV.names]
  | .tup l => by simp only [AV.renm, AV.names]; exact renm_namesL R l
  | .many l => by simp only [AV.renm, AV.names]; exact renm_namesL R l
  | .bad => by simp [AV.renm, AV.names]
theorem renm_namesL (R : List (Nat × Nat)) : ∀ l : List AV, AV.namesL (AV.renmL R l) = (AV.namesL l).map (ren R)
  | [] => by simp [AV.renmL, AV.namesL]
  | v :: l => by simp only [AV.renmL, AV.namesL, List.map_append]; rw [renm_names R v, renm_namesL R l]
end
mutual
theorem RA.renm (R : List (Nat × Nat)) : ∀ (v : AV) (cs : List Value), (∀ n ∈ v.names, ρ' (ren R n) = ρ n) → RA m ρ v cs → RA m ρ' (v.renm R) cs
  | .t v, cs, _, k => by simp only [AV.renm, RA] at k ⊢; exact k
  | .ref n p off, cs, e, k => by simp only [AV.renm, RA] at k ⊢; rw [e n (by simp [AV.names])]; exact k
  | .own n, cs, e, k => by simp only [AV.renm, RA] at k ⊢; rw [e n (by simp [AV.names])]; exact k
  | .win n p off es lo len, cs, e, k => by simp only [AV.renm, RA] at k ⊢; rw [e n (by simp [AV.names])]; exact k
  | .tight es l, cs, _, k => by simp only [AV.renm, RA] at k ⊢; exact k
  | .tup l, cs, e, k => by simp only [AV.renm, RA] at k ⊢; exact RAs.renm R l cs e k
  | .many l, cs, _, k => by simp [RA] at k
  | .bad, cs, _, k => by simp [RA] at k
theorem RAs.renm (R : List (Nat × Nat)) : ∀ (l : List AV) (cs : List Value), (∀ n ∈ AV.namesL l, ρ' (ren R n) = ρ n) → RAs m ρ l cs → RAs m ρ' (AV.renmL R l) cs
  | [], _, _, k => by simpa [AV.renmL, RAs] using k
  | v :: l, _, e, k => by
    simp only [AV.renmL, RAs] at k ⊢
    obtain ⟨c, d, rfl, r, q⟩ := k
    exact ⟨c, d, rfl, RA.renm R v c (fun n hn => e n (by simp [AV.namesL, hn])) r, RAs.renm R l d (fun n hn => e n (by simp [AV.namesL, hn])) q⟩
end
theorem renm_agg (R : List (Nat × Nat)) (v : AV) : (v.renm R).agg = v.agg := by cases v <;> rfl
theorem RV0.renm (R : List (Nat × Nat)) {v : AV} {x : Value} (e : ∀ n ∈ v.names, ρ' (ren R n) = ρ n) (k : RV0 m ρ v x) : RV0 m ρ' (v.renm R) x := by
  unfold RV0 at k ⊢
  rw [renm_agg]
  split at k
  · rw [if_pos (by assumption)]
    obtain ⟨cs, hx, k⟩ := k
    exact ⟨cs, hx, RA.renm R v cs e k⟩
  · rw [if_neg (by assumption)]
    exact RA.renm R v _ e k
theorem RVs.renm (R : List (Nat × Nat)) : ∀ (l : List AV) (xs : List Value), (∀ n ∈ AV.namesL l, ρ' (ren R n) = ρ n) → RVs m ρ l xs → RVs m ρ' (AV.renmL R l) xs
  | [], _, _, k => by simpa [RVs, AV.renmL] using k
  | v :: l, _, e, k => by
    simp only [RVs, AV.renmL] at k ⊢
    obtain ⟨x, r, rfl, p, q⟩ := k
    exact ⟨x, r, rfl, p.renm R (fun n hn => e n (by simp [AV.namesL, hn])), RVs.renm R l r (fun n hn => e n (by simp [AV.namesL, hn])) q⟩
theorem RV.renm (R : List (Nat × Nat)) {v : AV} {x : Value} (e : ∀ n ∈ v.names, ρ' (ren R n) = ρ n) (k : RV m ρ v x) : RV m ρ' (v.renm R) x := by
  cases v with
  | bad => simp [AV.renm, RV]
  | many l =>
    simp only [AV.renm, RV] at k ⊢
    obtain ⟨xs, rfl, k⟩ := k
    exact ⟨xs, rfl, RVs.renm R l xs (by simpa [AV.names] using e) k⟩
  | t v => exact RV0.renm R (v := .t v) e k
  | ref n p off => exact RV0.renm R (v := .ref n p off) e k
  | own n => exact RV0.renm R (v := .own n) e k
  | win n p off es lo len => exact RV0.renm R (v := .win n p off es lo len) e k
  | tight es l => exact RV0.renm R (v := .tight es l) e k
  | tup l => exact RV0.renm R (v := .tup l) e k

theorem get_mem {α : Type} : ∀ {l : List (Nat × α)} {n : Nat} {x : α}, get l n = some x → (n, x) ∈ l
  | [], _, _, h => by simp [get] at h
  | (k, v) :: l, n, x, h => by
    simp only [get] at h
    split at h
    · rename_i e; subst e; injection h with h; subst h; simp
    · exact List.mem_cons_of_mem _ (get_mem h)
theorem get_of_mem {α : Type} : ∀ {l : List (Nat × α)} {n : Nat} {x : α}, (l.map (·.1)).Nodup → (n, x) ∈ l → get l n = some x
  | [], _, _, _, h => by simp at h
  | (k, v) :: l, n, x, hnd, h => by
    simp only [List.map_cons, List.nodup_cons] at hnd
    simp only [get]
    rcases List.mem_cons.1 h with e | h
    · injection e with e1 e2; subst e1; subst e2; simp
    · split
      · rename_i e; subst e
        exact absurd (List.mem_map.2 ⟨(k, x), h, rfl⟩) hnd.1
      · exact get_of_mem hnd.2 h
theorem keepT_get : ∀ (K : List Nat) (R : List (Nat × Nat)) (tm : List (Nat × AV)) (i : Nat) (v : AV), get (keepT K R tm) i = some v → i ∈ K ∧ ∃ u, get tm i = some u ∧ v = u.renm R
  | [], R, tm, i, v, h => by simp [keepT, get] at h
  | t :: K, R, tm, i, v, h => by
    simp only [keepT] at h
    split at h
    · rename_i u hu
      simp only [get] at h
      split at h
      · rename_i e; subst e; injection h with h
        exact ⟨by simp, u, hu, h.symm⟩
      · obtain ⟨h1, h2⟩ := keepT_get K R tm i v h
        exact ⟨by simp [h1], h2⟩
    · obtain ⟨h1, h2⟩ := keepT_get K R tm i v h
      exact ⟨by simp [h1], h2⟩
theorem keepO_mem : ∀ (R0 R : List (Nat × Nat)) (ob : List (Nat × Ob)) (k : Nat) (o' : Ob), (k, o') ∈ keepO R0 R ob → ∃ n o, (n, k) ∈ R0 ∧ get ob n = some o ∧ o' = o.renm R
  | [], R, ob, k, o', h => by simp [keepO] at h
  | x :: R0, R, ob, k, o', h => by
    simp only [keepO] at h
    split at h
    · rename_i o ho
      rcases List.mem_cons.1 h with e | h
      · injection e with e1 e2; subst e1
        exact ⟨x.1, o, by simp, ho, e2⟩
      · obtain ⟨n, o2, h1, h2⟩ := keepO_mem R0 R ob k o' h
        exact ⟨n, o2, by simp [h1], h2⟩
    · obtain ⟨n, o2, h1, h2⟩ := keepO_mem R0 R ob k o' h
      exact ⟨n, o2, by simp [h1], h2⟩
theorem mem_keepO : ∀ (R0 R : List (Nat × Nat)) (ob : List (Nat × Ob)) (n k : Nat) (o : Ob), (n, k) ∈ R0 → get ob n = some o → (k, o.renm R) ∈ keepO R0 R ob
  | [], R, ob, n, k, o, h, _ => by simp at h
  | x :: R0, R, ob, n, k, o, h, ho => by
    simp only [keepO]
    rcases List.mem_cons.1 h with e | h
    · subst e
      simp only [ho]
      simp
    · have := mem_keepO R0 R ob n k o h ho
      split
      · exact List.mem_cons_of_mem _ this
      · exact this
theorem keepO_nodup : ∀ (R0 R : List (Nat × Nat)) (ob : List (Nat × Ob)), (R0.map (·.2)).Nodup → ((keepO R0 R ob).map (·.1)).Nodup
  | [], _, _, _ => by simp [keepO]
  | x :: R0, R, ob, h => by
    simp only [List.map_cons, List.nodup_cons] at h
    simp only [keepO]
    split
    · rename_i o ho
      simp only [List.map_cons, List.nodup_cons]
      refine ⟨?_, keepO_nodup R0 R ob h.2⟩
      intro hm
      obtain ⟨⟨k, o'⟩, h1, h2⟩ := List.mem_map.1 hm
      simp at h2; subst h2
      obtain ⟨n, o2, h3, _⟩ := keepO_mem R0 R ob _ o' h1
      exact h.1 (List.mem_map.2 ⟨_, h3, rfl⟩)
    · exact keepO_nodup R0 R ob h.2
/-- the name's old name -/
def back : List (Nat × Nat) → Nat → Option Nat
  | [], _ => none
  | x :: R, k => if x.2 = k then some x.1 else back R k
theorem back_of : ∀ (R : List (Nat × Nat)) (n k : Nat), (R.map (·.2)).Nodup → (n, k) ∈ R → back R k = some n
  | [], _, _, _, h => by simp at h
  | x :: R, n, k, hnd, h => by
    simp only [List.map_cons, List.nodup_cons] at hnd
    simp only [back]
    rcases List.mem_cons.1 h with e | h
    · subst e; simp
    · split
      · rename_i e
        exact absurd (List.mem_map.2 ⟨(n, k), h, e.symm⟩) hnd.1
      · exact back_of R n k hnd.2 h
theorem SRel.norm {s s' : St} {L K : List Nat} {R : List (Nat × Nat)} (hL : ∀ n g, (n, g) ∈ C.lent → n ∈ L) (h : SRel E C s m ρ a w) (hn : s.norm L K R = some s') : ∃ ρ', SRel E C s' m ρ' a w := by
  unfold St.norm at hn
  split at hn
  · rename_i hc
    injection hn with hn; subst hn
    simp only [Bool.and_eq_true, List.all_eq_true, decide_eq_true_eq] at hc
    obtain ⟨⟨⟨⟨c1, c2⟩, c3⟩, c4⟩, c5⟩ := hc
    have inR : ∀ n, isIn R n = true → ∃ k, (n, k) ∈ R ∧ ren R n = k := by
      intro n hn
      unfold isIn at hn
      cases hg : get R n with
      | none => rw [hg] at hn; cases hn
      | some k => exact ⟨k, get_mem hg, by simp [ren, hg]⟩
    let ρ' : Rho := fun k => match back R k with
      | some n => ρ n
      | none => .bool false
    have hρ : ∀ n k, (n, k) ∈ R → ρ' k = ρ n := by
      intro n k hk
      show (match back R k with | some n => ρ n | none => .bool false) = ρ n
      rw [back_of R n k c4 hk]
    have hren : ∀ n k, (n, k) ∈ R → ren R n = k := by
      intro n k hk
      simp [ren, get_of_mem c3 hk]
    have inj : ∀ n n' k, (n, k) ∈ R → (n', k) ∈ R → n = n' := by
      intro n n' k h1 h2
      have e1 := back_of R n k c4 h1
      have e2 := back_of R n' k c4 h2
      rw [e1] at e2; injection e2
    have agree : ∀ l : List Nat, l.all (isIn R) = true → ∀ n ∈ l, ρ' (ren R n) = ρ n := by
      intro l hl n hn
      rw [List.all_eq_true] at hl
      obtain ⟨k, h1, h2⟩ := inR n (hl n hn)
      rw [h2]; exact hρ n k h1
    have key : ∀ k o', get (keepO R R s.ob) k = some o' → ∃ n o, (n, k) ∈ R ∧ get s.ob n = some o ∧ o' = o.renm R := fun k o' hk => keepO_mem R R s.ob k o' (get_mem hk)
    have there : ∀ n k, (n, k) ∈ R → get s.ob n ≠ none → get (keepO R R s.ob) k ≠ none := by
      intro n k hk hne
      cases ho : get s.ob n with
      | none => exact absurd ho hne
      | some o =>
        rw [get_of_mem (keepO_nodup R R s.ob c4) (mem_keepO R R s.ob n k o hk ho)]
        simp
    have live_ : ∀ o : Ob, (o.renm R).live = o.live := by intro o; cases o <;> rfl
    have c2' : ∀ n k, (n, k) ∈ R → ∀ o, get s.ob n = some o → o.names.all (isIn R) = true := by
      intro n k hk o ho
      have := c2 _ hk
      simpa [ho] using this
    have hms := h.ms
    refine ⟨ρ', ⟨⟨?_, ?_, ?_, hms.mem, ?_, hms.old, hms.new, ?_, ?_, ?_, hms.frame⟩, ⟨h.ts.defers, h.ts.size, ?_, ?_⟩⟩⟩
    · intro k
      show (match back R k with | some n => ρ n | none => .bool false).oneCell' = true
      split
      · exact hms.one _
      · rfl
    · intro k o' hk
      obtain ⟨n, o, h1, h2, rfl⟩ := key k o' hk
      rw [hρ n k h1]
      have hro := hms.objs n o h2
      have hag := agree _ (c2' n k h1 o h2)
      cases o with
      | var sh ty c =>
        obtain ⟨g, cs, t, e, hh, hc⟩ := hro
        exact ⟨g, cs, t, e, hh, RA.renm R c _ hag hc⟩
      | row sh ty es l => exact hro
      | gone => trivial
    · intro k k' o1 o2 g h1 h2 l1 l2 b1 b2
      obtain ⟨n, p, q1, q2, rfl⟩ := key k o1 h1
      obtain ⟨n', p', q1', q2', rfl⟩ := key k' o2 h2
      rw [live_] at l1 l2
      rw [hρ n k q1] at b1
      rw [hρ n' k' q1'] at b2
      have := hms.dist n n' p p' g q2 q2' l1 l2 b1 b2
      subst this
      rw [← hren n k q1, ← hren n k' q1']
    · intro k o' g i v h1 l1 b1 hv
      obtain ⟨n, p, q1, q2, rfl⟩ := key k o' h1
      rw [live_] at l1
      rw [hρ n k q1] at b1
      have := hms.shy n p g i v q2 l1 b1 hv
      cases p <;> exact this
    · intro k o' g h1 l1 b1
      obtain ⟨n, p, q1, q2, rfl⟩ := key k o' h1
      rw [live_] at l1
      rw [hρ n k q1] at b1
      rcases hms.home n p g q2 l1 b1 with h3 | h3
      · exact .inl h3
      · right
        have := c5 n (hL n g h3)
        simp at this
        have e : k = n := by rw [← hren n k q1]; simp [ren, this]
        rw [e]; exact h3
    · intro n g hng
      obtain ⟨h1, ty, c, h2⟩ := hms.lent n g hng
      have := c5 n (hL n g hng)
      simp at this
      have hR := get_mem this
      refine ⟨by rw [hρ n n hR]; exact h1, ty, c.renm R, ?_⟩
      exact get_of_mem (keepO_nodup R R s.ob c4) (mem_keepO R R s.ob n n _ hR h2)
    · intro k o' hk x hx
      obtain ⟨n, o, h1, h2, rfl⟩ := key k o' hk
      have hnm : (o.renm R).names = o.names.map (ren R) := by
        cases o with
        | var sh ty c => exact renm_names R c
        | row => rfl
        | gone => rfl
      rw [hnm] at hx
      obtain ⟨y, hy, rfl⟩ := List.mem_map.1 hx
      have := c2' n k h1 o h2
      rw [List.all_eq_true] at this
      obtain ⟨j, q1, q2⟩ := inR y (this y hy)
      rw [q2]
      exact there y j q1 (hms.named n o h2 y hy)
    · intro i
      cases hg : get (keepT K R s.tm) i with
      | none => simp [RV]
      | some v =>
        obtain ⟨h1, u, h2, rfl⟩ := keepT_get K R s.tm i v hg
        simp only [Option.getD_some]
        have hr := h.ts.tmps i
        rw [h2] at hr
        refine RV.renm R (agree _ ?_) hr
        have := c1 i h1
        simpa [h2] using this
    · intro i x hx
      cases hg : get (keepT K R s.tm) i with
      | none => rw [hg] at hx; simp [AV.names] at hx
      | some v =>
        obtain ⟨h1, u, h2, rfl⟩ := keepT_get K R s.tm i v hg
        rw [hg] at hx
        simp only [Option.getD_some] at hx
        rw [renm_names] at hx
        obtain ⟨y, hy, rfl⟩ := List.mem_map.1 hx
        have := c1 i h1
        rw [h2] at this
        simp only [Option.getD_some, List.all_eq_true] at this
        obtain ⟨j, q1, q2⟩ := inR y (this y hy)
        rw [q2]
        refine there y j q1 (h.ts.names i y ?_)
        rw [h2]; exact hy
  · cases hn
end Go.Mg
