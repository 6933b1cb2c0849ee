/- States made tidy: fixes, then what is kept; regions, loops, ends. -/
import Derived.Test.YtighjjielkdafaaDoorMhG
namespace Go.Mg
open Go Go.RowKit
variable {P : Program} {E : Env} {C : Ctx} {m m' : Mem} {ρ ρ' : Rho} {w w' : World} {a : Act} {s s' : St} {K : Out → Prop} {c x y : Code}

theorem valAt_names : ∀ {p : List Nat} {v u : AV}, valAt p v = some u → ∀ n ∈ u.names, n ∈ v.names
  | [], v, u, h => by simp only [valAt, Option.some.injEq] at h; subst h; exact fun _ h => h
  | i :: p, v, u, h => by
    cases v with
    | tup l =>
      simp only [valAt] at h
      split at h
      · rename_i k hk
        intro n hn
        simp only [AV.names]
        exact namesL_mem hk n (valAt_names h n hn)
      · cases h
    | t t =>
      cases t with
      | tup l =>
        simp only [valAt] at h
        split at h
        · intro n hn
          have := valAt_names h n hn
          simp [AV.names] at this
        · cases h
      | _ => simp [valAt] at h
    | _ => simp [valAt] at h
theorem at_names (h : SRel E C s m ρ a w) {l : Loc} {v : AV} (hv : s.at_ l = some v) : ∀ n ∈ v.names, get s.ob n ≠ none := by
  cases l with
  | t t =>
    simp only [St.at_] at hv
    intro n hn
    exact h.ts.names t n (by rw [hv]; exact hn)
  | o k =>
    simp only [St.at_] at hv
    split at hv
    · rename_i sh ty c ho
      simp only [Option.some.injEq] at hv; subst hv
      exact fun n hn => h.ms.named k _ ho n hn
    · cases hv
theorem modAt_good {f : AV → Option AV} (hf : ∀ u u', f u = some u' → u'.good = true ∧ u.good = true ∧ u'.agg = u.agg) : ∀ {p : List Nat} {v v' : AV}, modAt f p v = some v' → v ≠ .bad ∧ (∀ l, v ≠ .many l) ∧ v'.agg = v.agg ∧ v' ≠ .bad ∧ (∀ l, v' ≠ .many l)
  | [], v, v', h => by
    obtain ⟨h1, h2, h3⟩ := hf v v' h
    refine ⟨?_, ?_, h3, ?_, ?_⟩ <;> (first | (rintro rfl; simp [AV.good] at h2) | (rintro l rfl; simp [AV.good] at h2) | (rintro rfl; simp [AV.good] at h1) | (rintro l rfl; simp [AV.good] at h1))
  | i :: p, v, v', h => by
    cases v with
    | tup l =>
      simp only [modAt] at h
      split at h
      · simp only [Option.map_eq_some_iff] at h
        obtain ⟨k', _, rfl⟩ := h
        simp [AV.agg]
      · cases h
    | t t =>
      cases t with
      | tup l =>
        simp only [modAt] at h
        split at h
        · split at h
          · simp only [Option.some.injEq] at h; subst h; simp [AV.agg, T.agg]
          · simp only [Option.some.injEq] at h; subst h; simp [AV.agg, T.agg]
          · cases h
        · cases h
      | _ => simp [modAt] at h
    | _ => simp [modAt] at h
theorem rv_of_ra {v v' : AV} (h1 : v ≠ .bad ∧ (∀ l, v ≠ .many l) ∧ v'.agg = v.agg ∧ v' ≠ .bad ∧ (∀ l, v' ≠ .many l)) (hr : ∀ cs, RA m ρ v cs → RA m' ρ' v' cs) : ∀ x, RV m ρ v x → RV m' ρ' v' x := by
  obtain ⟨a1, a2, a3, a4, a5⟩ := h1
  intro x hx
  have hx0 : RV0 m ρ v x := by
    cases v with
    | bad => exact (a1 rfl).elim
    | many l => exact (a2 l rfl).elim
    | _ => exact hx
  have : RV0 m' ρ' v' x := by
    unfold RV0 at hx0 ⊢
    by_cases hq : v.agg = true
    · rw [if_pos hq] at hx0
      rw [if_pos (a3.trans hq)]
      obtain ⟨cs, e, k⟩ := hx0
      exact ⟨cs, e, hr cs k⟩
    · rw [if_neg hq] at hx0
      rw [if_neg (by rw [a3]; exact hq)]
      exact hr _ hx0
  exact RV_of_good this
theorem fix_ok (hC : ∀ n g, (n, g) ∈ C.lent → 50000 ≤ n) {f : Fix} (h : SRel E C s m ρ a w) (hf : s.fix f = some s') : ∃ m' ρ', Sub m m' ∧ SRel E C s' m' ρ' a w := by
  unfold St.fix at hf
  split at hf
  · rename_i v hv
    have hvn := at_names h hv
    split at hf
    · rename_i es _
      simp only [Option.bind_eq_some_iff] at hf
      obtain ⟨v', hm, hw⟩ := hf
      have hra : ∀ cs, RA m ρ v cs → RA m ρ v' cs := modAt_ok (Sub.refl m) hm (fun _ _ => rfl) (by
        intro u u' hu _ cs hr
        unfold fLe at hu
        split at hu
        · simp only [Option.some.injEq] at hu; subst hu
          simp only [RA] at hr ⊢
          exact RT.le (by simp [leT]) hr
        · cases hu)
      have hg := modAt_good (f := fLe es) (by
        intro u u' hu
        unfold fLe at hu
        split at hu
        · simp only [Option.some.injEq] at hu; subst hu; simp [AV.good, AV.agg, T.agg]
        · cases hu) hm
      refine ⟨m, ρ, Sub.refl m, with_ok h hv hra (rv_of_ra hg hra) ?_ hw⟩
      obtain ⟨u, u', h1, h2, h3⟩ := modAt_names hm
      intro k hk
      rcases h3 k hk with hk | hk
      · exact hvn k hk
      · unfold fLe at h1
        split at h1
        · simp only [Option.some.injEq] at h1; subst h1; simp [AV.names] at hk
        · cases h1
    · rename_i d ty es _
      split at hf
      · rename_i hd
        simp only [Option.bind_eq_some_iff] at hf
        obtain ⟨v', hm, hw⟩ := hf
        have hadd := h.ms.add (d := d) hd (o := .row false ty es []) (v := .slice none 0 0) rfl (.inl ⟨rfl, rfl⟩) (by simp [Ob.names]) (by intro g hg; simp [blk] at hg)
        have hag : ∀ n, get s.ob n ≠ none → updr ρ d (.slice none 0 0) n = ρ n := fun n hn => updr_other _ _ (by rintro rfl; exact hn hd)
        have e : get ((d, Ob.row false ty es []) :: s.ob) = upd (get s.ob) d (.row false ty es []) := by funext k; simp only [get, upd]
        have h2 : SRel E C ⟨s.tm, (d, .row false ty es []) :: s.ob⟩ m (updr ρ d (.slice none 0 0)) a w := by
          refine ⟨by rw [e]; exact hadd, ⟨h.ts.defers, h.ts.size, ?_, ?_⟩⟩
          · intro i
            exact (h.ts.tmps i).mono (Sub.refl m) (fun n hn => hag n (h.ts.names i n hn))
          · intro i n hn
            rw [e]; exact upd_none (h.ts.names i n hn)
        have hv2 : (⟨s.tm, (d, .row false ty es []) :: s.ob⟩ : St).at_ f.loc = some v := by
          cases hl : f.loc with
          | t t => rw [hl] at hv; exact hv
          | o k =>
            rw [hl] at hv
            simp only [St.at_] at hv ⊢
            have hk : d ≠ k := by rintro rfl; rw [hd] at hv; cases hv
            simp only [get, if_neg hk]
            exact hv
        have hra : ∀ cs, RA m (updr ρ d (.slice none 0 0)) v cs → RA m (updr ρ d (.slice none 0 0)) v' cs := modAt_ok (Sub.refl m) hm (fun _ _ => rfl) (by
          intro u u' hu _ cs hr
          unfold fOwn at hu
          split at hu
          · simp only [Option.some.injEq] at hu; subst hu
            simp only [RA, RT] at hr ⊢
            rw [updr_same]; exact hr
          · cases hu)
        have hg := modAt_good (f := fOwn d) (by
          intro u u' hu
          unfold fOwn at hu
          split at hu
          · simp only [Option.some.injEq] at hu; subst hu; simp [AV.good, AV.agg, T.agg]
          · cases hu) hm
        refine ⟨m, _, Sub.refl m, with_ok h2 hv2 hra (rv_of_ra hg hra) ?_ hw⟩
        obtain ⟨u, u', h1, h3, h4⟩ := modAt_names hm
        intro k hk
        show get ((d, Ob.row false ty es []) :: s.ob) k ≠ none
        rw [e]
        rcases h4 k hk with hk | hk
        · exact upd_none (hvn k hk)
        · unfold fOwn at h1
          split at h1
          · simp only [Option.some.injEq] at h1; subst h1
            simp only [AV.names, List.mem_singleton] at hk
            subst hk; rw [upd_same]; simp
          · cases h1
      · cases hf
    · simp only [Option.bind_eq_some_iff] at hf
      obtain ⟨v', hm, hw⟩ := hf
      have hra : ∀ cs, RA m ρ v cs → RA m ρ v' cs := modAt_ok (Sub.refl m) hm (fun _ _ => rfl) (by
        intro u u' hu _ cs hr
        unfold fTT at hu
        split at hu
        · rename_i l
          simp only [Option.map_eq_some_iff] at hu
          obtain ⟨ts, ht, rfl⟩ := hu
          simp only [RA, RT] at hr ⊢
          exact treesRA ht hr
        · cases hu)
      have hg := modAt_good (f := fTT) (by
        intro u u' hu
        unfold fTT at hu
        split at hu
        · rename_i l
          simp only [Option.map_eq_some_iff] at hu
          obtain ⟨ts, ht, rfl⟩ := hu
          refine ⟨rfl, ?_, rfl⟩
          simp only [AV.good]
          exact treesGood ht
        · cases hu) hm
      refine ⟨m, ρ, Sub.refl m, with_ok h hv hra (rv_of_ra hg hra) ?_ hw⟩
      obtain ⟨u, u', h1, h2, h3⟩ := modAt_names hm
      intro k hk
      rcases h3 k hk with hk | hk
      · exact hvn k hk
      · unfold fTT at h1
        split at h1
        · simp only [Option.map_eq_some_iff] at h1
          obtain ⟨ts, ht, rfl⟩ := h1
          simp [AV.names] at hk
        · cases h1
    · split at hf
      · rename_i n hn
        split at hf
        · rename_i s1 sh ty es l hs1 hob
          simp only [Option.bind_eq_some_iff] at hf
          obtain ⟨v', hm, hw⟩ := hf
          unfold St.shareRow at hs1
          rw [hob] at hs1
          simp only at hs1
          split at hs1
          · rename_i hlt
            simp only [Option.some.injEq] at hs1
            subst hs1
            have hlent : ∀ g, (n, g) ∉ C.lent := fun g hg => by have := hC n g hg; omega
            obtain ⟨hsh, hsub⟩ := h.ms.share hob rfl hlent
            have e : get ((n, Ob.row true ty es l) :: s.ob) = upd (get s.ob) n (.row true ty es l) := by funext k; simp only [get, upd]
            have h2 : SRel E C ⟨s.tm, (n, .row true ty es l) :: s.ob⟩ (shareMem m ρ w n (.row sh ty es l)) ρ a w := by
              refine ⟨by rw [e]; exact hsh, ⟨h.ts.defers, h.ts.size, ?_, ?_⟩⟩
              · intro i
                exact (h.ts.tmps i).mono hsub (fun _ _ => rfl)
              · intro i k hk
                rw [e]; exact upd_none (h.ts.names i k hk)
            have hv2 : (⟨s.tm, (n, .row true ty es l) :: s.ob⟩ : St).at_ f.loc = some v := by
              cases hl : f.loc with
              | t t => rw [hl] at hv; exact hv
              | o k =>
                rw [hl] at hv
                simp only [St.at_] at hv ⊢
                have hk : n ≠ k := by rintro rfl; rw [hob] at hv; cases hv
                simp only [get, if_neg hk]
                exact hv
            have hrow := (h2.ms.objs n (.row true ty es l) (by show get _ n = _; rw [e, upd_same]))
            have hra : ∀ cs, RA (shareMem m ρ w n (.row sh ty es l)) ρ v cs → RA (shareMem m ρ w n (.row sh ty es l)) ρ v' cs := modAt_ok (Sub.refl _) hm (fun _ _ => rfl) (by
              intro u u' hu _ cs hr
              split at hu
              · rename_i k
                split at hu
                · rename_i hkn
                  subst hkn
                  simp only [Option.some.injEq] at hu; subst hu
                  simp only [RA, RT] at hr ⊢
                  subst hr
                  rcases hrow with ⟨e1, rfl⟩ | ⟨g, cap, cur, e1, hh, hlc, _, hsz, hre⟩
                  · exact ⟨none, 0, by rw [e1]; simp, by simp, .inl rfl⟩
                  · refine ⟨some ⟨g, 0, none⟩, cap, by rw [e1], hlc, .inr ⟨g, 0, _, rfl, hre, ?_⟩⟩
                    intro i y hi
                    rw [List.getElem?_take] at hi
                    split at hi
                    · rename_i hlt'
                      have hcell : w.cell? ⟨g, i, none⟩ = some y := by
                        rw [cell_of_row w g _ cur ty (0, 0) hh]
                        simpa using hi
                      unfold shareMem
                      rw [Nat.zero_add, if_pos ⟨by rw [e1]; rfl, by simp [Ob.within, hlt']⟩]
                      exact hcell
                    · cases hi
                · cases hu
              · cases hu)
            have hg := modAt_good (by
              intro u u' hu
              split at hu
              · split at hu
                · simp only [Option.some.injEq] at hu; subst hu; simp [AV.good, AV.agg, T.agg]
                · cases hu
              · cases hu) hm
            refine ⟨_, ρ, hsub, with_ok h2 hv2 hra (rv_of_ra hg hra) ?_ hw⟩
            obtain ⟨u, u', h1, h3, h4⟩ := modAt_names hm
            intro k hk
            show get ((n, Ob.row true ty es l) :: s.ob) k ≠ none
            rw [e]
            rcases h4 k hk with hk | hk
            · exact upd_none (hvn k hk)
            · split at h1
              · split at h1
                · simp only [Option.some.injEq] at h1; subst h1; simp [AV.names] at hk
                · cases h1
              · cases h1
          · cases hs1
        · cases hf
      · cases hf
  · cases hf
where
  treesRA {m : Mem} {ρ : Rho} : ∀ {l : List AV} {ts : List T} {cs : List Value}, treesOf l = some ts → RAs m ρ l cs → RTs m ts cs
  | [], ts, cs, h, k => by
    simp only [treesOf, Option.some.injEq] at h; subst h
    simpa [RAs, RTs] using k
  | v :: l, ts, cs, h, k => by
    cases v with
    | t t =>
      simp only [treesOf, Option.map_eq_some_iff] at h
      obtain ⟨ts', h1, rfl⟩ := h
      simp only [RAs] at k
      obtain ⟨c, d, e, k1, k2⟩ := k
      simp only [RTs]
      exact ⟨c, d, e, by simpa [RA] using k1, treesRA h1 k2⟩
    | _ => simp [treesOf] at h
  treesGood : ∀ {l : List AV} {ts : List T}, treesOf l = some ts → AV.goods l = true
  | [], _, _ => rfl
  | v :: l, ts, h => by
    cases v with
    | t t =>
      simp only [treesOf, Option.map_eq_some_iff] at h
      obtain ⟨ts', h1, rfl⟩ := h
      simp only [AV.goods, AV.good, Bool.true_and]
      exact treesGood h1
    | _ => simp [treesOf] at h
theorem fixes_ok (hC : ∀ n g, (n, g) ∈ C.lent → 50000 ≤ n) : ∀ {fs : List Fix} {s : St} {m : Mem} {ρ : Rho}, SRel E C s m ρ a w → s.fixes fs = some s' → ∃ m' ρ', Sub m m' ∧ SRel E C s' m' ρ' a w
  | [], s, m, ρ, h, hf => by
    simp only [St.fixes, Option.some.injEq] at hf; subst hf
    exact ⟨m, ρ, Sub.refl m, h⟩
  | f :: fs, s, m, ρ, h, hf => by
    simp only [St.fixes] at hf
    split at hf
    · rename_i s1 h1
      obtain ⟨m1, ρ1, k1, k2⟩ := fix_ok hC h h1
      obtain ⟨m2, ρ2, k3, k4⟩ := fixes_ok hC k2 hf
      exact ⟨m2, ρ2, k1.trans k3, k4⟩
    · cases hf
/-- Fixes, then what is kept. -/
structure Tidy where
  fs : List Fix := []
  keep : List Nat
  ren : List (Nat × Nat)
def St.tidy (L : List Nat) (q : Tidy) (s : St) : Option St := (s.fixes q.fs).bind (·.norm L q.keep q.ren)
theorem tidy_ok {L : List Nat} (hC : ∀ n g, (n, g) ∈ C.lent → 50000 ≤ n) (hL : ∀ n g, (n, g) ∈ C.lent → n ∈ L) {q : Tidy} (h : SRel E C s m ρ a w) (hf : s.tidy L q = some s') : ∃ m' ρ', Sub m m' ∧ SRel E C s' m' ρ' a w := by
  simp only [St.tidy, Option.bind_eq_some_iff] at hf
  obtain ⟨s1, h1, h2⟩ := hf
  obtain ⟨m1, ρ1, k1, k2⟩ := fixes_ok hC h h1
  obtain ⟨ρ2, k3⟩ := k2.norm hL h2
  exact ⟨m1, ρ2, k1, k3⟩
end Go.Mg
