/- States made to fit: nil as an empty row or as an empty tree, rows as trees. -/
import Derived.Test.YtighjjielkdafaaDoorMhF
namespace Go.Mg
open Go Go.RowKit
variable {P : Program} {E : Env} {C : Ctx} {m m' : Mem} {ρ ρ' : Rho} {w w' : World} {a : Act} {s s' : St} {K : Out → Prop} {c x y : Code}

/-- a value with a part at a path turned -/
def modAt (f : AV → Option AV) : List Nat → AV → Option AV
  | [], v => f v
  | i :: p, .tup l => match l[i]? with
    | some k => (modAt f p k).map fun k' => .tup (l.set i k')
    | none => none
  | i :: p, .t (.tup l) => match l[i]? with
    | some k => match modAt f p (.t k) with
      | some (.t k') => some (.t (.tup (l.set i k')))
      | some k' => some (.tup ((l.map AV.t).set i k'))
      | none => none
    | none => none
  | _ :: _, _ => none
theorem RAs_map {m : Mem} {ρ : Rho} : ∀ {l : List T} {cs : List Value}, RTs m l cs → RAs m ρ (l.map AV.t) cs
  | [], cs, h => by simpa [RTs, RAs] using h
  | t :: l, cs, h => by
    simp only [RTs] at h
    obtain ⟨c, d, e, h1, h2⟩ := h
    simp only [List.map_cons, RAs]
    exact ⟨c, d, e, by simpa [RA] using h1, RAs_map h2⟩
theorem RAs_set {m m' : Mem} {ρ ρ' : Rho} (hm : Sub m m') : ∀ {l : List AV} {i : Nat} {k k' : AV} {cs : List Value}, l[i]? = some k → (∀ n ∈ AV.namesL l, ρ' n = ρ n) → (∀ cs, RA m ρ k cs → RA m' ρ' k' cs) → RAs m ρ l cs → RAs m' ρ' (l.set i k') cs
  | [], _, _, _, _, h, _, _, _ => by simp at h
  | v :: l, 0, k, k', cs, h, hn, hk, hr => by
    simp at h; subst h
    simp only [RAs] at hr
    obtain ⟨c, d, e, h1, h2⟩ := hr
    simp only [List.set_cons_zero, RAs]
    exact ⟨c, d, e, hk c h1, RAs.mono hm l d (fun n hn' => hn n (by simp [AV.namesL, hn'])) h2⟩
  | v :: l, i + 1, k, k', cs, h, hn, hk, hr => by
    simp only [RAs] at hr
    obtain ⟨c, d, e, h1, h2⟩ := hr
    simp only [List.set_cons_succ, RAs]
    exact ⟨c, d, e, RA.mono hm v c (fun n hn' => hn n (by simp [AV.namesL, hn'])) h1, RAs_set hm (by simpa using h) (fun n hn' => hn n (by simp [AV.namesL, hn'])) hk h2⟩
theorem namesL_mem : ∀ {l : List AV} {i : Nat} {k : AV}, l[i]? = some k → ∀ n ∈ k.names, n ∈ AV.namesL l
  | [], _, _, h => by simp at h
  | v :: l, 0, k, h => by simp at h; subst h; intro n hn; simp [AV.namesL, hn]
  | v :: l, i + 1, k, h => by intro n hn; simp [AV.namesL, namesL_mem (l := l) (i := i) (by simpa using h) n hn]
theorem namesL_set : ∀ {l : List AV} {i : Nat} {k' : AV}, ∀ n ∈ AV.namesL (l.set i k'), n ∈ AV.namesL l ∨ n ∈ k'.names
  | [], _, _ => by simp [AV.namesL]
  | v :: l, 0, k' => by intro n hn; simp only [List.set_cons_zero, AV.namesL, List.mem_append] at hn ⊢; rcases hn with h | h <;> simp [h]
  | v :: l, i + 1, k' => by
    intro n hn
    simp only [List.set_cons_succ, AV.namesL, List.mem_append] at hn ⊢
    rcases hn with h | h
    · simp [h]
    · rcases namesL_set n h with h | h <;> simp [h]
theorem namesL_map : ∀ l : List T, AV.namesL (l.map AV.t) = []
  | [] => rfl
  | t :: l => by simp [AV.namesL, AV.names, namesL_map l]
theorem modAt_ok {f : AV → Option AV} (hm : Sub m m') : ∀ {p : List Nat} {v v' : AV}, modAt f p v = some v' → (∀ n ∈ v.names, ρ' n = ρ n) → (∀ u u', f u = some u' → (∀ n ∈ u.names, n ∈ v.names) → ∀ cs, RA m ρ u cs → RA m' ρ' u' cs) → ∀ cs, RA m ρ v cs → RA m' ρ' v' cs
  | [], v, v', h, _, hf, cs, hr => hf v v' h (fun _ h => h) cs hr
  | i :: p, v, v', h, hn, hf, cs, hr => by
    cases v with
    | tup l =>
      simp only [modAt] at h
      cases hl : l[i]? with
      | none => rw [hl] at h; cases h
      | some k =>
        rw [hl] at h
        simp only [Option.map_eq_some_iff] at h
        obtain ⟨k', hk, rfl⟩ := h
        simp only [RA] at hr ⊢
        have hsub := namesL_mem hl
        exact RAs_set hm hl (by simpa [AV.names] using hn) (fun cs h => modAt_ok hm hk (fun n h => hn n (by simpa [AV.names] using hsub n h)) (fun u u' h1 h2 => hf u u' h1 (fun n h => by simpa [AV.names] using hsub n (h2 n h))) cs h) hr
    | t u =>
      cases u with
      | tup l =>
        simp only [modAt] at h
        cases hl : l[i]? with
        | none => rw [hl] at h; cases h
        | some k =>
          rw [hl] at h
          simp only at h
          simp only [RA, RT] at hr
          have hl2 : (l.map AV.t)[i]? = some (.t k) := by simp [hl]
          have key : ∀ k', modAt f p (.t k) = some k' → RAs m' ρ' ((l.map AV.t).set i k') cs := by
            intro k' hk
            refine RAs_set hm hl2 (by simp [namesL_map]) (fun cs h => modAt_ok hm hk (by simp [AV.names]) (fun u u' h1 h2 => hf u u' h1 (fun n h => by have := h2 n h; simp [AV.names] at this)) cs h) (RAs_map hr)
          split at h
          · rename_i k' hk
            simp only [Option.some.injEq] at h; subst h
            have := key _ hk
            rw [← List.map_set] at this
            simp only [RA, RT]
            exact RAs_unmap this
          · rename_i k' _ hk
            simp only [Option.some.injEq] at h; subst h
            simp only [RA]
            exact key _ hk
          · cases h
      | _ => simp [modAt] at h
    | _ => simp [modAt] at h
where RAs_unmap {m : Mem} {ρ : Rho} : ∀ {l : List T} {cs : List Value}, RAs m ρ (l.map AV.t) cs → RTs m l cs
  | [], cs, h => by simpa [RTs, RAs] using h
  | t :: l, cs, h => by
    simp only [List.map_cons, RAs] at h
    obtain ⟨c, d, e, h1, h2⟩ := h
    simp only [RTs]
    exact ⟨c, d, e, by simpa [RA] using h1, RAs_unmap h2⟩
theorem modAt_names {f : AV → Option AV} : ∀ {p : List Nat} {v v' : AV}, modAt f p v = some v' → ∃ u u', f u = some u' ∧ (∀ n ∈ u.names, n ∈ v.names) ∧ ∀ n ∈ v'.names, n ∈ v.names ∨ n ∈ u'.names
  | [], v, v', h => ⟨v, v', h, fun _ h => h, fun _ h => .inr h⟩
  | i :: p, v, v', h => by
    cases v with
    | tup l =>
      simp only [modAt] at h
      cases hl : l[i]? with
      | none => rw [hl] at h; cases h
      | some k =>
        rw [hl] at h
        simp only [Option.map_eq_some_iff] at h
        obtain ⟨k', hk, rfl⟩ := h
        obtain ⟨u, u', h1, h2, h3⟩ := modAt_names hk
        refine ⟨u, u', h1, fun n hn => by simpa [AV.names] using namesL_mem hl n (h2 n hn), ?_⟩
        intro n hn
        simp only [AV.names] at hn ⊢
        rcases namesL_set n hn with h | h
        · exact .inl h
        · rcases h3 n h with h | h
          · exact .inl (namesL_mem hl n h)
          · exact .inr h
    | t u =>
      cases u with
      | tup l =>
        simp only [modAt] at h
        cases hl : l[i]? with
        | none => rw [hl] at h; cases h
        | some k =>
          rw [hl] at h
          simp only at h
          split at h
          · rename_i k' hk
            simp only [Option.some.injEq] at h; subst h
            obtain ⟨u, u', h1, h2, h3⟩ := modAt_names hk
            exact ⟨u, u', h1, by simpa [AV.names] using h2, by simp [AV.names]⟩
          · rename_i k' _ hk
            simp only [Option.some.injEq] at h; subst h
            obtain ⟨u, u', h1, h2, h3⟩ := modAt_names hk
            refine ⟨u, u', h1, by simpa [AV.names] using h2, ?_⟩
            intro n hn
            simp only [AV.names] at hn
            rcases namesL_set n hn with h | h
            · rw [namesL_map] at h; simp at h
            · rcases h3 n h with h | h
              · simp [AV.names] at h
              · exact .inr h
          · cases h
      | _ => simp [modAt] at h
    | _ => simp [modAt] at h
/-- where a value stands -/
inductive Loc where
  | t (t : Nat)
  | o (n : Nat)
inductive Kind where
  | le (es : Nat)
  | own (d ty es : Nat)
  | tree
  | tt
structure Fix where
  loc : Loc
  path : List Nat
  kind : Kind
def St.at_ (s : St) : Loc → Option AV
  | .t t => get s.tm t
  | .o n => match get s.ob n with
    | some (.var _ _ c) => some c
    | _ => none
def St.with_ (s : St) : Loc → AV → Option St
  | .t t, v => some { s with tm := (t, v) :: s.tm }
  | .o n, v => match get s.ob n with
    | some (.var sh ty _) => if v.good then some { s with ob := (n, .var sh ty v) :: s.ob } else none
    | _ => none
def fLe (es : Nat) : AV → Option AV
  | .t .nils => some (.t (.slc es []))
  | _ => none
def fOwn (d : Nat) : AV → Option AV
  | .t .nils => some (.own d)
  | _ => none
def fTree (ob : Nat → Option Ob) : AV → Option (T × List Nat)
  | .own n => match ob n with
    | some (.row _ _ es l) => some (.slc es l, [n])
    | _ => none
  | _ => none
def fTT : AV → Option AV
  | .tup l => (treesOf l).map fun ts => .t (.tup ts)
  | _ => none
/-- the value at a path -/
def valAt : List Nat → AV → Option AV
  | [], v => some v
  | i :: p, .tup l => match l[i]? with
    | some k => valAt p k
    | none => none
  | i :: p, .t (.tup l) => match l[i]? with
    | some k => valAt p (.t k)
    | none => none
  | _ :: _, _ => none
/-- of the objects a row is shared -/
def St.shareRow (s : St) (n : Nat) : Option St :=
  match get s.ob n with
  | some (.row _ ty es l) => if n < 50000 then some { s with ob := (n, .row true ty es l) :: s.ob } else none
  | _ => none
def St.fix (s : St) (f : Fix) : Option St :=
  match s.at_ f.loc with
  | some v => match f.kind with
    | .le es => (modAt (fLe es) f.path v).bind (s.with_ f.loc)
    | .own d ty es => match get s.ob d with
      | none => (modAt (fOwn d) f.path v).bind ((⟨s.tm, (d, .row false ty es []) :: s.ob⟩ : St).with_ f.loc)
      | some _ => none
    | .tt => (modAt fTT f.path v).bind (s.with_ f.loc)
    | .tree => match valAt f.path v with
      | some (.own n) => match s.shareRow n, get s.ob n with
        | some s1, some (.row _ _ es l) => (modAt (fun u => match u with | .own k => if k = n then some (.t (.slc es l)) else none | _ => none) f.path v).bind (s1.with_ f.loc)
        | _, _ => none
      | _ => none
  | none => none
def St.fixes (s : St) : List Fix → Option St
  | [] => some s
  | f :: l => match s.fix f with
    | some s1 => s1.fixes l
    | none => none
theorem MS.turn {ob : Nat → Option Ob} (h : MS C ob m ρ w) {n : Nat} {sh : Bool} {ty : Nat} {c c' : AV} (hn : ob n = some (.var sh ty c)) (hr : ∀ cs, RA m ρ c cs → RA m ρ c' cs) (hk : ∀ k ∈ c'.names, ob k ≠ none) : MS C (upd ob n (.var sh ty c')) m ρ w := by
  have key : ∀ k o', upd ob n (.var sh ty c') k = some o' → (k = n ∧ o' = .var sh ty c') ∨ (n ≠ k ∧ ob k = some o') := by
    intro k o' hk
    by_cases e : n = k
    · subst e; rw [upd_same] at hk; exact .inl ⟨rfl, by injection hk with h; exact h.symm⟩
    · rw [upd_other _ _ e] at hk; exact .inr ⟨e, hk⟩
  refine ⟨h.one, ?_, ?_, h.mem, ?_, h.old, h.new, ?_, ?_, ?_, h.frame⟩
  · intro k o' hko
    rcases key k o' hko with ⟨rfl, rfl⟩ | ⟨_, q⟩
    · obtain ⟨g, cs, t, e, hh, hc⟩ := h.objs _ _ hn
      exact ⟨g, cs, t, e, hh, hr _ hc⟩
    · exact h.objs k o' q
  · intro n1 n2 o1 o2 g h1 h2 l1 l2 b1 b2
    rcases key n1 o1 h1 with ⟨rfl, rfl⟩ | ⟨_, q1⟩ <;> rcases key n2 o2 h2 with ⟨rfl, rfl⟩ | ⟨_, q2⟩
    · rfl
    · exact h.dist _ _ _ o2 g hn q2 rfl l2 b1 b2
    · exact h.dist _ _ o1 _ g q1 hn l1 rfl b1 b2
    · exact h.dist _ _ o1 o2 g q1 q2 l1 l2 b1 b2
  · intro k o' g i v hko hlo hb hv
    rcases key k o' hko with ⟨rfl, rfl⟩ | ⟨_, q⟩
    · have := h.shy _ _ g i v hn rfl hb hv
      exact this
    · exact h.shy k o' g i v q hlo hb hv
  · intro k o' g hko hlo hb
    rcases key k o' hko with ⟨rfl, rfl⟩ | ⟨_, q⟩
    · exact h.home _ _ g hn rfl hb
    · exact h.home k o' g q hlo hb
  · intro k g hkg
    obtain ⟨h1, ty', c0, h2⟩ := h.lent k g hkg
    refine ⟨h1, ?_⟩
    by_cases e : n = k
    · subst e; rw [hn] at h2; injection h2 with h2; injection h2 with e1 e2 e3; subst e1 e2 e3
      exact ⟨ty, c', upd_same _ _ _⟩
    · exact ⟨ty', c0, by rw [upd_other _ _ e]; exact h2⟩
  · intro k o' hko j hj
    rcases key k o' hko with ⟨rfl, rfl⟩ | ⟨_, q⟩
    · exact upd_none (hk j hj)
    · exact upd_none (h.named k o' q j hj)
theorem with_ok {l : Loc} {v v' : AV} (h : SRel E C s m ρ a w) (hv : s.at_ l = some v) (hr : ∀ cs, RA m ρ v cs → RA m ρ v' cs) (hrv : ∀ x, RV m ρ v x → RV m ρ v' x) (hk : ∀ k ∈ v'.names, get s.ob k ≠ none) (hs : s.with_ l v' = some s') : SRel E C s' m ρ a w := by
  cases l with
  | t t =>
    simp only [St.with_, Option.some.injEq] at hs
    subst hs
    simp only [St.at_] at hv
    refine ⟨h.ms, ⟨h.ts.defers, h.ts.size, ?_, ?_⟩⟩
    · intro i
      by_cases e : t = i
      · subst e
        simp only [get, if_true, Option.getD_some]
        have := h.ts.tmps t
        rw [hv] at this
        exact hrv _ this
      · simp only [get, if_neg e]; exact h.ts.tmps i
    · intro i
      by_cases e : t = i
      · subst e
        simp only [get, if_true, Option.getD_some]
        exact hk
      · simp only [get, if_neg e]; exact h.ts.names i
  | o n =>
    simp only [St.with_] at hs
    simp only [St.at_] at hv
    split at hs
    · rename_i sh ty c ho
      rw [ho] at hv
      simp only [Option.some.injEq] at hv
      subst hv
      split at hs
      · simp only [Option.some.injEq] at hs
        subst hs
        have e : get ((n, Ob.var sh ty v') :: s.ob) = upd (get s.ob) n (.var sh ty v') := by
          funext k; simp only [get, upd]
        refine ⟨by rw [e]; exact h.ms.turn ho hr hk, ⟨h.ts.defers, h.ts.size, h.ts.tmps, ?_⟩⟩
        intro i k hik
        show get ((n, Ob.var sh ty v') :: s.ob) k ≠ none
        rw [e]; exact upd_none (h.ts.names i k hik)
      · cases hs
    · cases hs
end Go.Mg
