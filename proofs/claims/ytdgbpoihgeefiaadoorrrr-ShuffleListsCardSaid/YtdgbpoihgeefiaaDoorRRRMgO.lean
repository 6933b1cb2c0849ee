/- Calls. -/
import Derived.Test.YtdgbpoihgeefiaaDoorRRRMgN
namespace Go.Mg
open Go.RowKit
variable {P : Program} {E : Env} {C : Ctx} {ob obr : Nat → Option Ob} {m m' : Mem} {ρ ρ' : Rho} {w w' : World} {o : Oper} {a : Act} {r : Res}

mutual
theorem RT.flat : ∀ (t : T) (cs : List Value), t.flat = true → RT m t cs → RT m' t cs
  | .int _ _, _, _, k => by simpa [RT] using k
  | .bool _, _, _, k => by simpa [RT] using k
  | .str _, _, _, k => by simpa [RT] using k
  | .nilp, _, _, k => by simpa [RT] using k
  | .ptr _, _, h, _ => by simp [T.flat] at h
  | .nils, _, _, k => by simpa [RT] using k
  | .slc es l, _, h, k => by
    simp [T.flat] at h; subst h
    simp only [RT] at k ⊢
    obtain ⟨a, c, e, hc, _⟩ := k
    exact ⟨a, c, e, hc, by simp⟩
  | .tup l, cs, h, k => by
    simp only [T.flat] at h
    simp only [RT] at k ⊢
    exact RTs.flat l cs h k
  | .arr es n l, cs, h, k => by
    simp only [T.flat] at h
    simp only [RT] at k ⊢
    exact ⟨k.1, REs.flat es l cs h k.2⟩
  | .fn _, _, _, k => by simpa [RT] using k
  | .nilf, _, _, k => by simpa [RT] using k
theorem RTs.flat : ∀ (l : List T) (cs : List Value), T.flats l = true → RTs m l cs → RTs m' l cs
  | [], _, _, k => by simpa [RTs] using k
  | t :: l, _, h, k => by
    simp only [T.flats, Bool.and_eq_true] at h
    simp only [RTs] at k ⊢
    obtain ⟨c, d, e, r, q⟩ := k
    exact ⟨c, d, e, RT.flat t c h.1 r, RTs.flat l d h.2 q⟩
theorem REs.flat (es : Nat) : ∀ (l : List T) (cs : List Value), T.flats l = true → REs m es l cs → REs m' es l cs
  | [], _, _, k => by simpa [REs] using k
  | t :: l, _, h, k => by
    simp only [T.flats, Bool.and_eq_true] at h
    simp only [REs] at k ⊢
    obtain ⟨c, d, e, n, r, q⟩ := k
    exact ⟨c, d, e, n, RT.flat t c h.1 r, REs.flat es l d h.2 q⟩
end
theorem RV0.flat {t : T} {x : Value} (h : t.flat = true) (k : RV0 m ρ (.t t) x) : RV0 m' ρ' (.t t) x := by
  unfold RV0 at k ⊢
  split at k
  · rw [if_pos (by assumption)]
    obtain ⟨cs, e, q⟩ := k
    exact ⟨cs, e, by simp only [RA] at q ⊢; exact RT.flat t cs h q⟩
  · rw [if_neg (by assumption)]
    simp only [RA] at k ⊢
    exact RT.flat t _ h k
theorem ResOK.flat (hm : Sub m m') {base : Nat} : ∀ (rs : List RR) (xs : List Value), RR.flats rs = true → ResOK m' w base rs xs → ResOK m w base rs xs
  | [], _, _, k => by simpa [ResOK] using k
  | .tree t :: rs, _, h, k => by
    simp only [RR.flats, Bool.and_eq_true] at h
    simp only [ResOK] at k ⊢
    obtain ⟨x, xs', e, q, r⟩ := k
    exact ⟨x, xs', e, q.flat h.1, ResOK.flat hm rs xs' h.2 r⟩
  | .row ty es l :: rs, _, h, k => by
    simp only [RR.flats, Bool.and_eq_true] at h
    simp only [ResOK] at k ⊢
    obtain ⟨x, xs', us, e, q, r, hn, r2⟩ := k
    refine ⟨x, xs', us, e, q, REs.flat es l us h.1 r, fun g hg i => ?_, ResOK.flat hm rs xs' h.2 r2⟩
    cases hh : m g i with
    | none => rfl
    | some v => have := hm _ _ _ hh; rw [hn g hg i] at this; cases this
theorem LentOK.flat (hm : Sub m m') : ∀ (us : List T) (gs : List Nat), T.flats us = true → LentOK m' w w' us gs → LentOK m w w' us gs
  | [], _, _, k => by simpa [LentOK] using k
  | u :: us, _, h, k => by
    simp only [T.flats, Bool.and_eq_true] at h
    simp only [LentOK] at k ⊢
    obtain ⟨g, gs', cs, cs', t, t', e, h1, h2, h3, h4, h5, h6⟩ := k
    refine ⟨g, gs', cs, cs', t, t', e, h1, h2, h3, RT.flat u _ h.1 h4, fun i => ?_, LentOK.flat hm us gs' h.2 h6⟩
    cases hh : m g i with
    | none => rfl
    | some v => have := hm _ _ _ hh; rw [h5 i] at this; cases this

theorem updf_mem : ∀ (l : List (Nat × Ob)) (ob : Nat → Option Ob) (k : Nat) (o : Ob), updf ob l k = some o → (k, o) ∈ l ∨ (ob k = some o ∧ k ∉ l.map (·.1))
  | [], ob, k, o, h => .inr ⟨h, by simp⟩
  | (n, x) :: r, ob, k, o, h => by
    simp only [updf] at h
    rcases updf_mem r _ k o h with h1 | ⟨h1, h2⟩
    · exact .inl (by simp [h1])
    · by_cases e : n = k
      · subst e
        rw [upd_same] at h1; injection h1 with h1; subst h1
        exact .inl (by simp)
      · rw [upd_other _ _ e] at h1
        exact .inr ⟨h1, by simp only [List.map_cons, List.mem_cons]; rintro (rfl | h3); exact e rfl; exact h2 h3⟩
/-- Behind a call: what was lent is turned; there are new blocks. -/
theorem MS.called (h : MS C ob m ρ w) {gs : List Nat} {lb : List (Nat × Ob)} (hb : But w w' gs) (hm : Sub m m') (hok : m'.ok w') (hnew : ∀ b i v, m' b i = some v → m b i = some v ∨ w.heap.size ≤ b)
    (hlb : ∀ n o', (n, o') ∈ lb → ∃ ty c u g cs t, o' = .var false ty (.t u) ∧ ob n = some (.var false ty c) ∧ blk (ρ n) = some g ∧ w'.heap[g]? = some (.cells cs t (0, 0)) ∧ RT m' u cs.toList)
    (hgs : ∀ g ∈ gs, ∃ n o', (n, o') ∈ lb ∧ blk (ρ n) = some g) : MS C (updf ob lb) m' ρ w' := by
  have key : ∀ n o', updf ob lb n = some o' → (∃ o, ob n = some o ∧ o.live = o'.live ∧ ∀ i, o.cov i → o'.cov i) := by
    intro n o' hn
    rcases updf_mem lb ob n o' hn with h1 | ⟨h1, _⟩
    · obtain ⟨ty, c, u, g, cs, t, rfl, h2, _⟩ := hlb n o' h1
      exact ⟨_, h2, rfl, fun i hi => hi⟩
    · exact ⟨o', h1, rfl, fun i hi => hi⟩
  refine ⟨h.one, ?_, ?_, hok, ?_, h.old.trans hm, ?_, ?_, ?_, ?_, ?_⟩
  · intro n o' hn
    rcases updf_mem lb ob n o' hn with h1 | ⟨h1, h2⟩
    · obtain ⟨ty, c, u, g, cs, t, rfl, h3, h4, h5, h6⟩ := hlb n o' h1
      obtain ⟨g', _, _, e, _⟩ := h.objs n _ h3
      have : g' = g := by rw [e] at h4; simpa [blk] using h4
      subst this
      exact ⟨g', cs, t, e, h5, by simpa [RA] using h6⟩
    · by_cases hl : o'.live = true
      · refine (h.objs n o' h1).mono hm (fun _ _ => rfl) (fun g hg => hb.block g (h.lt h1 hl hg) ?_)
        intro hmem
        obtain ⟨n', o2, hm', hg'⟩ := hgs g hmem
        obtain ⟨ty, c, u, g2, cs, t, rfl, h3, h4, _⟩ := hlb n' o2 hm'
        have := h.dist n n' o' _ g h1 h3 hl rfl hg hg'
        subst this
        exact h2 (List.mem_map.2 ⟨_, hm', rfl⟩)
      · cases o' <;> simp [Ob.live] at hl
        trivial
  · intro n n' o1 o2 g h1 h2 l1 l2 b1 b2
    obtain ⟨p1, q1, r1, _⟩ := key n o1 h1
    obtain ⟨p2, q2, r2, _⟩ := key n' o2 h2
    exact h.dist n n' p1 p2 g q1 q2 (r1.trans l1) (r2.trans l2) b1 b2
  · intro n o' g i v hn hl hg hv
    obtain ⟨p, q, r, s⟩ := key n o' hn
    rcases hnew g i v hv with h1 | h1
    · exact s i (h.shy n p g i v q (r.trans hl) hg h1)
    · have := h.lt q (r.trans hl) hg; omega
  · intro b i v hv
    rcases hnew b i v hv with h1 | h1
    · exact h.new b i v h1
    · exact .inr (Nat.le_trans h.frame.size h1)
  · intro n o' g hn hl hg
    obtain ⟨p, q, r, _⟩ := key n o' hn
    exact h.home n p g q (r.trans hl) hg
  · intro n g hng
    obtain ⟨h1, ty, c, h2⟩ := h.lent n g hng
    refine ⟨h1, ?_⟩
    cases hq : updf ob lb n with
    | none => exact absurd hq (updf_none lb ob n (by rw [h2]; simp))
    | some o' =>
      rcases updf_mem lb ob n o' hq with h3 | ⟨h3, _⟩
      · obtain ⟨ty', c', u, g', cs, t, rfl, _⟩ := hlb n o' h3
        exact ⟨_, _, rfl⟩
      · rw [h2] at h3; injection h3 with h3; subst h3; exact ⟨_, _, rfl⟩
  · intro n o' hn k hk
    rcases updf_mem lb ob n o' hn with h1 | ⟨h1, _⟩
    · obtain ⟨ty, c, u, g, cs, t, rfl, _⟩ := hlb n o' h1
      simp [Ob.names, AV.names] at hk
    · exact updf_none lb ob k (h.named n o' h1 k hk)
  · refine ⟨hb.os.trans h.frame.os, hb.tape.trans h.frame.tape, hb.output.trans h.frame.output, Nat.le_trans h.frame.size hb.size, fun b hlt hno => ?_⟩
    refine (hb.block b (Nat.lt_of_lt_of_le hlt h.frame.size) ?_).trans (h.frame.block b hlt hno)
    intro hmem
    obtain ⟨n', o2, hm', hg'⟩ := hgs b hmem
    obtain ⟨ty, c, u, g2, cs, t, rfl, h3, _⟩ := hlb n' o2 hm'
    rcases h.home n' _ b h3 rfl hg' with h4 | h4
    · omega
    · exact hno n' h4
theorem nameOf_inj {d i j : Nat} (h : nameOf d i = nameOf d j) : i = j := by unfold nameOf at h; omega
/-- The rows that a call gives, as objects. -/
theorem MS.results (base : Nat) : ∀ (rs : List RR) (ob0 ob : Nat → Option Ob) (d i : Nat) (ρ : Rho) (xs : List Value) (vs : List AV) (nw : List (Nat × Ob)), MS C ob m ρ w → C.w0.heap.size ≤ base → Mg.results ob0 d i rs = some (vs, nw) → ResOK m w base rs xs → (rowBlks rs xs).Nodup →
    (∀ g ∈ rowBlks rs xs, ∀ n o, ob n = some o → o.live = true → blk (ρ n) ≠ some g) → (∀ j, i ≤ j → j < i + rs.length → ob0 (nameOf d j) = none → ob (nameOf d j) = none) →
    ∃ ρ', Agree ob ρ ρ' ∧ MS C (updf ob nw) m ρ' w ∧ RVs m ρ' vs xs ∧ ∀ n ∈ AV.namesL vs, updf ob nw n ≠ none
  | [], ob0, ob, d, i, ρ, xs, vs, nw, h, _, hr, hx, _, _, _ => by
    simp [Mg.results] at hr
    obtain ⟨rfl, rfl⟩ := hr
    simp only [ResOK] at hx; subst hx
    exact ⟨ρ, Agree.refl _ _, h, rfl, by simp [AV.namesL]⟩
  | .tree t :: rs, ob0, ob, d, i, ρ, xs, vs, nw, h, hbase, hr, hx, hnd, hfree, hname => by
    simp only [Mg.results, Option.map_eq_some_iff] at hr
    obtain ⟨⟨vs', nw'⟩, hr, e⟩ := hr
    simp at e
    obtain ⟨rfl, rfl⟩ := e
    simp only [ResOK] at hx
    obtain ⟨x, xs', rfl, h1, h2⟩ := hx
    simp only [rowBlks] at hnd hfree
    obtain ⟨ρ', q1, q2, q3, q4⟩ := MS.results base rs ob0 ob d (i + 1) ρ xs' vs' nw' h hbase hr h2 hnd hfree (fun j h1 h2 => hname j (by omega) (by simp; omega))
    refine ⟨ρ', q1, q2, ?_, ?_⟩
    · simp only [RVs]
      exact ⟨x, xs', rfl, rv0_t h1, q3⟩
    · simpa [AV.namesL, AV.names] using q4
  | .row ty es l :: rs, ob0, ob, d, i, ρ, xs, vs, nw, h, hbase, hr, hx, hnd, hfree, hname => by
    simp only [Mg.results] at hr
    split at hr
    · rename_i hn0
      simp only [Option.map_eq_some_iff] at hr
      obtain ⟨⟨vs', nw'⟩, hr, e⟩ := hr
      simp at e
      obtain ⟨rfl, rfl⟩ := e
      simp only [ResOK] at hx
      obtain ⟨x, xs', us, rfl, hown, hre, hnm, h2⟩ := hx
      simp only [rowBlks] at hnd hfree
      have hob := hname i (Nat.le_refl _) (by simp) hn0
      rw [List.nodup_append] at hnd
      obtain ⟨_, hnd2, hdis⟩ := hnd
      have hadd : MS C (upd ob (nameOf d i) (.row false ty es l)) m (updr ρ (nameOf d i) x) w := by
        refine h.add hob rfl (RO.of_own hown rfl hre) (by simp [Ob.names]) ?_
        intro g hg
        refine ⟨?_, fun n o' hn hl hb => hfree g (by simp [hg]) n o' hn hl hb, hnm g hg⟩
        rcases hown.2 with ⟨e1, _⟩ | ⟨g', cap, cur, e1, hb', _⟩
        · rw [e1] at hg; simp [blk] at hg
        · rw [e1] at hg; simp [blk] at hg; omega
      obtain ⟨ρ', q1, q2, q3, q4⟩ := MS.results base rs ob0 _ d (i + 1) _ xs' vs' nw' hadd hbase hr h2 hnd2 (by
          intro g hg n o' hn hl hb
          by_cases e : nameOf d i = n
          · subst e
            rw [updr_same] at hb
            exact hdis g (by simp [hb]) g hg rfl
          · rw [upd_other _ _ e] at hn; rw [updr_other _ _ e] at hb
            exact hfree g (by simp [hg]) n o' hn hl hb) (by
          intro j h1 h2 h3
          rw [upd_other]
          · exact hname j (by omega) (by simp; omega) h3
          · intro e; have := nameOf_inj e; omega)
      refine ⟨ρ', ?_, ?_, ?_, ?_⟩
      · intro n hn
        rw [q1 n (upd_none hn), updr_other]
        rintro rfl; exact hn hob
      · simpa only [updf] using q2
      · simp only [RVs]
        refine ⟨x, xs', rfl, ?_, q3⟩
        simp only [RV0, AV.agg, RA]
        have := q1 (nameOf d i) (by rw [upd_same]; simp)
        rw [updr_same] at this
        simp [this]
      · intro n hn
        simp only [AV.namesL, AV.names, List.mem_append, List.mem_singleton] at hn
        simp only [updf]
        rcases hn with rfl | hn
        · exact updf_none _ _ _ (by rw [upd_same]; simp)
        · exact q4 n hn
    · cases hr
theorem pack_ok {vs : List AV} {xs : List Value} (h : RVs m ρ vs xs) : RV m ρ (pack vs) (packV xs) ∧ (pack vs).names = AV.namesL vs := by
  cases vs with
  | nil =>
    simp only [RVs] at h; subst h
    exact ⟨by simp [pack, packV, RV, RVs], rfl⟩
  | cons v vs =>
    simp only [RVs] at h
    obtain ⟨x, r, rfl, h1, h2⟩ := h
    cases vs with
    | nil =>
      simp only [RVs] at h2; subst h2
      exact ⟨RV_of_good h1, by simp [pack, AV.namesL]⟩
    | cons v2 vs =>
      have h2' := h2
      simp only [RVs] at h2'
      obtain ⟨x2, r2, rfl, h3, h4⟩ := h2'
      refine ⟨?_, rfl⟩
      simp only [pack, packV, RV]
      exact ⟨_, rfl, by simp only [RVs]; exact ⟨x, _, rfl, h1, x2, r2, rfl, h3, h4⟩⟩
theorem updf_notin : ∀ (l : List (Nat × Ob)) (ob : Nat → Option Ob) (k : Nat), k ∉ l.map (·.1) → updf ob l k = ob k
  | [], _, _, _ => rfl
  | (n, x) :: r, ob, k, h => by
    simp only [List.map_cons, List.mem_cons, not_or] at h
    simp only [updf]
    rw [updf_notin r _ k h.2, upd_other _ _ (fun e => h.1 e.symm)]
theorem shares_fst : ∀ (ns : List Nat) (k : Nat), k ∈ (Mg.shares obr ns).map (·.1) → k ∈ ns
  | [], _, h => by simp [Mg.shares] at h
  | n :: ns, k, h => by
    simp only [Mg.shares] at h
    split at h
    · simp only [List.map_cons, List.mem_cons] at h
      rcases h with rfl | h
      · simp
      · exact List.mem_cons_of_mem _ (shares_fst ns k h)
    · exact List.mem_cons_of_mem _ (shares_fst ns k h)
theorem rowBlks_ge {base : Nat} : ∀ (rs : List RR) (xs : List Value), ResOK m w base rs xs → ∀ g ∈ rowBlks rs xs, base ≤ g
  | [], xs, _, g, hg => by simp [rowBlks] at hg
  | .tree t :: rs, xs, h, g, hg => by
    simp only [ResOK] at h
    obtain ⟨x, xs', rfl, _, h⟩ := h
    simp only [rowBlks] at hg
    exact rowBlks_ge rs xs' h g hg
  | .row ty es l :: rs, xs, h, g, hg => by
    simp only [ResOK] at h
    obtain ⟨x, xs', us, rfl, hown, _, _, h⟩ := h
    simp only [rowBlks, List.mem_append] at hg
    rcases hg with hg | hg
    · rcases hown.2 with ⟨e1, _⟩ | ⟨g', cap, cur, e1, hb, _⟩
      · rw [e1] at hg; simp [blk] at hg
      · rw [e1] at hg; simp [blk] at hg; omega
    · exact rowBlks_ge rs xs' h g hg
theorem lentBack_ok : ∀ (bs : List Bool) (l : List AV) (us : List T) (lb : List (Nat × Ob)) (gs : List Nat), lentBack obr bs l us = some lb → (lentNames bs l).map (fun n => blk (ρ n)) = gs.map some → LentOK m w w' us gs →
    (∀ n o', (n, o') ∈ lb → n ∈ lentNames bs l ∧ ∃ ty c u g cs t, o' = .var false ty (.t u) ∧ obr n = some (.var false ty c) ∧ blk (ρ n) = some g ∧ w'.heap[g]? = some (.cells cs t (0, 0)) ∧ RT m u cs.toList) ∧ (∀ g ∈ gs, ∃ n o', (n, o') ∈ lb ∧ blk (ρ n) = some g)
  | [], l, us, lb, gs, hb, hn, hl => by
    cases us with
    | nil =>
      simp [lentBack] at hb; subst hb
      simp only [LentOK] at hl; subst hl
      simp
    | cons u us => simp [lentBack] at hb
  | true :: bs, l, us, lb, gs, hb, hn, hl => by
    unfold lentBack at hb
    split at hb
    · rename_i bs' n l' u us' e
      injection e with _ e; subst e
      split at hb
      · rename_i ty c r hob hrec
        split at hb
        · rename_i hc
          simp at hb; subst hb
          simp only [LentOK] at hl
          obtain ⟨g, gs', cs, cs', t, t', rfl, h1, h2, h3, h4, h5, h6⟩ := hl
          simp only [lentNames, List.map_cons, List.cons.injEq] at hn
          obtain ⟨q1, q2⟩ := lentBack_ok bs l' us' r gs' hrec hn.2 h6
          refine ⟨?_, ?_⟩
          · intro n' o' hm
            rcases List.mem_cons.1 hm with e | hm
            · injection e with e1 e2; subst e1; subst e2
              exact ⟨by simp [lentNames], ty, _, u, g, cs', t', rfl, hob, hn.1, h2, h4⟩
            · obtain ⟨p1, p2⟩ := q1 n' o' hm
              exact ⟨by simp [lentNames, p1], p2⟩
          · intro g' hg'
            rcases List.mem_cons.1 hg' with rfl | hg'
            · exact ⟨n, .var false ty (.t u), by simp, hn.1⟩
            · obtain ⟨n', o', p1, p2⟩ := q2 g' hg'
              exact ⟨n', o', by simp [p1], p2⟩
        · cases hb
      · cases hb
    · rename_i e; cases e
    · rename_i e; cases e
    · cases hb
  | false :: bs, [], us, lb, gs, hb, hn, hl => by simp [lentBack] at hb
  | false :: bs, v :: l', us, lb, gs, hb, hn, hl => by
    have hb' : lentBack obr bs l' us = some lb := by simpa only [lentBack] using hb
    simp only [lentNames] at hn
    obtain ⟨q1, q2⟩ := lentBack_ok bs l' us lb gs hb' hn hl
    refine ⟨fun n o' hm => ?_, q2⟩
    obtain ⟨p1, p2⟩ := q1 n o' hm
    exact ⟨by simpa [lentNames] using p1, p2⟩
theorem after_call {obX : Nat → Option Ob} {mX m2 : Mem} {gs : List Nat} {rs : List RR} {xs : List Value} {us : List T} {bs : List Bool} {l : List AV} {lb nw : List (Nat × Ob)} {vs : List AV} {d : Nat} (hX : MS C obX mX ρ w) (hb : But w w' gs) (hm : Sub mX m2) (hok : m2.ok w')
    (hnew : ∀ b i v, m2 b i = some v → mX b i = some v ∨ w.heap.size ≤ b) (hres : ResOK m2 w' w.heap.size rs xs) (hnd : (rowBlks rs xs).Nodup) (hlent : LentOK m2 w w' us gs) (hlbk : lentBack obr bs l us = some lb)
    (hnames : (lentNames bs l).map (fun n => blk (ρ n)) = gs.map some) (hsame : ∀ n ∈ lentNames bs l, ∀ o, obr n = some o → obX n = some o) (hr : results obr d 0 rs = some (vs, nw)) (hfree : ∀ j, j < rs.length → obr (nameOf d j) = none → obX (nameOf d j) = none) :
    ∃ ρ', Agree obX ρ ρ' ∧ MS C (updf obX (lb ++ nw)) m2 ρ' w' ∧ RV m2 ρ' (pack vs) (packV xs) ∧ ∀ n ∈ (pack vs).names, updf obX (lb ++ nw) n ≠ none := by
  obtain ⟨q1, q2⟩ := lentBack_ok bs l us lb gs hlbk hnames hlent
  have hc : MS C (updf obX lb) m2 ρ w' := hX.called hb hm hok hnew (by
    intro n o' hmem
    obtain ⟨p1, ty, c, u, g, cs, t, e, p2, p3, p4, p5⟩ := q1 n o' hmem
    exact ⟨ty, c, u, g, cs, t, e, hsame n p1 _ p2, p3, p4, p5⟩) q2
  obtain ⟨ρ', r1, r2, r3, r4⟩ := MS.results w.heap.size rs obr (updf obX lb) d 0 ρ xs vs nw hc hX.frame.size hr hres hnd (by
      intro g hg n o hn hl hb'
      have hge := rowBlks_ge rs xs hres g hg
      rcases updf_mem lb obX n o hn with h1 | ⟨h1, _⟩
      · obtain ⟨p1, ty, c, u, g', cs, t, rfl, p2, p3, _⟩ := q1 n o h1
        have := hX.lt (hsame n p1 _ p2) rfl hb'
        omega
      · have := hX.lt h1 hl hb'
        omega) (by
      intro j _ hj hnone
      rw [updf_notin lb obX]
      · exact hfree j (by omega) hnone
      · intro hmem
        obtain ⟨⟨n, o'⟩, p, e⟩ := List.mem_map.1 hmem
        simp at e
        obtain ⟨_, ty, c, u, g, cs, t, _, p2, _⟩ := q1 n o' p
        rw [e, hnone] at p2; cases p2)
  obtain ⟨s1, s2⟩ := pack_ok r3
  refine ⟨ρ', fun n hn => r1 n (updf_none lb obX n hn), by rw [updf_append]; exact r2, s1, ?_⟩
  rw [s2, updf_append]
  exact r4
end Go.Mg
