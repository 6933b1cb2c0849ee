/- Calls: the operation. All operations. -/
import Derived.Test.YtdgbpoihgeefiaaDoorRRRMgO
namespace Go.Mg
open Go.RowKit
variable {P : Program} {E : Env} {C : Ctx} {ob obr : Nat → Option Ob} {m m' : Mem} {ρ ρ' : Rho} {w w' : World} {o : Oper} {a : Act} {r : Res}

theorem GlobOK.mono {glob : Nat → Option T} (h : Sub m m') (k : GlobOK glob m) : GlobOK glob m' := by
  intro g t hg
  obtain ⟨us, h1, h2⟩ := k g t hg
  exact ⟨us, RT.mono h _ _ h1, h2.mono h⟩
theorem argsOf_fit (h : MS C ob m ρ w) (hs : SubO obr ob) : ∀ {bs : List Bool} {l : List AV} {ts : List T} {ns : List Nat}, argsOf obr bs l = some (ts, ns) → Fit obr ns
  | [], l, ts, ns, ht => asTreeL_fit h hs (by simpa only [argsOf] using ht)
  | true :: bs, l, ts, ns, ht => by
    unfold argsOf at ht
    split at ht
    · rename_i bs' n l' e
      injection e with _ e; subst e
      split at ht
      · rename_i h1 h2
        simp at ht
        obtain ⟨rfl, rfl⟩ := ht
        exact argsOf_fit h hs h2
      · cases ht
    · rename_i e; cases e
    · rename_i e; cases e
    · cases ht
  | false :: bs, [], ts, ns, ht => by simp [argsOf] at ht
  | false :: bs, v :: l, ts, ns, ht => by
    simp only [argsOf] at ht
    split at ht
    · rename_i t A ts' B h1 h2
      simp at ht
      obtain ⟨rfl, rfl⟩ := ht
      intro n hn
      rcases List.mem_append.1 hn with hn | hn
      · exact asTreeAll_fit h hs h1 n hn
      · exact argsOf_fit h hs h2 n hn
    · cases ht
theorem args_of_vals : ∀ (ts : List T) (xs : List Value), Vals m ts xs → ArgsOK m w [] ts xs []
  | [], xs, h => by simp only [Vals] at h; subst h; simp [ArgsOK]
  | t :: ts, xs, h => by
    simp only [Vals] at h
    obtain ⟨x, r, rfl, h1, h2⟩ := h
    simp only [ArgsOK]
    exact ⟨x, r, rfl, h1, args_of_vals ts r h2⟩
theorem argsOf_ok {ob1 : Nat → Option Ob} {m1 : Mem} (h : MS C ob m ρ w) (hs : SubO obr ob) (hm : Sub m m1) (h1 : MS C ob1 m1 ρ w) : ∀ {bs : List Bool} {l : List AV} {xs : List Operand} {ev : Operand → AV} {ts : List T} {ns : List Nat}, l = xs.map ev → (∀ x, OpdOK ob m ρ (ev x) (a.eval x)) → argsOf obr bs l = some (ts, ns) →
    (∀ n ∈ ns, ∀ o, obr n = some o → Cov m1 w ρ n o) → (∀ n ∈ lentNames bs l, ob1 n = ob n) → ∃ gs, ArgsOK m1 w bs ts (xs.map a.eval) gs ∧ (lentNames bs l).map (fun n => blk (ρ n)) = gs.map some ∧ ∀ n ∈ lentNames bs l, ∃ o, ob1 n = some o ∧ o.live = true
  | [], l, xs, ev, ts, ns, hl, hev, ht, hcov, hsame => by
    refine ⟨[], args_of_vals _ _ (asTreeL_ok h hs hm hl hev (by simpa only [argsOf] using ht) hcov), ?_, ?_⟩ <;> cases l <;> simp [lentNames]
  | true :: bs, l, xs, ev, ts, ns, hl, hev, ht, hcov, hsame => by
    unfold argsOf at ht
    split at ht
    · rename_i bs' n l' e
      injection e with _ e; subst e
      split at ht
      · rename_i ty c ts' ns' hn hrec
        simp at ht
        obtain ⟨rfl, rfl⟩ := ht
        cases xs with
        | nil => simp at hl
        | cons x xs =>
          simp only [List.map_cons, List.cons.injEq] at hl
          obtain ⟨e1, e2⟩ := hl
          simp only [lentNames] at hsame
          obtain ⟨gs, q1, q2, q3⟩ := argsOf_ok h hs hm h1 e2 hev hrec hcov (fun n hn => hsame n (by simp [hn]))
          have hx := (hev x).rv
          rw [← e1] at hx
          obtain ⟨g, hg, ex⟩ := rv_ref hx
          have hob1 := (hsame n (by simp)).trans (hs n _ hn)
          obtain ⟨g', cs, t, e, hh, hc⟩ := h1.objs n _ hob1
          have : g' = g := by rw [e] at hg; simpa [blk] using hg
          subst this
          refine ⟨g' :: gs, ?_, by simp [lentNames, hg, q2], ?_⟩
          · simp only [List.map_cons, ArgsOK]
            refine ⟨_, _, g', gs, cs, t, rfl, rfl, ex, hh, by simpa [RA] using hc, fun i => ?_, q1⟩
            cases hmi : m1 g' i with
            | none => rfl
            | some v => have := h1.shy n _ g' i v hob1 rfl hg hmi; simp [Ob.cov] at this
          · intro k hk
            simp only [lentNames, List.mem_cons] at hk
            rcases hk with rfl | hk
            · exact ⟨_, hob1, rfl⟩
            · exact q3 k hk
      · cases ht
    · rename_i e; cases e
    · rename_i e; cases e
    · cases ht
  | false :: bs, [], xs, ev, ts, ns, hl, hev, ht, hcov, hsame => by simp [argsOf] at ht
  | false :: bs, v :: l, xs, ev, ts, ns, hl, hev, ht, hcov, hsame => by
    simp only [argsOf] at ht
    split at ht
    · rename_i t A ts' B p1 p2
      simp at ht
      obtain ⟨rfl, rfl⟩ := ht
      cases xs with
      | nil => simp at hl
      | cons x xs =>
        simp only [List.map_cons, List.cons.injEq] at hl
        obtain ⟨e1, e2⟩ := hl
        obtain ⟨gs, q1, q2, q3⟩ := argsOf_ok h hs hm h1 e2 hev p2 (fun n hn => hcov n (by simp [hn])) (by simpa only [lentNames] using hsame)
        refine ⟨gs, ?_, by simpa only [lentNames] using q2, by simpa only [lentNames] using q3⟩
        simp only [List.map_cons, ArgsOK]
        exact ⟨_, _, rfl, (asTreeAll_ok h hs hm p1 (fun n hn => hcov n (by simp [hn]))).1 _ (by rw [e1]; exact (hev x).rv), q1⟩
    · cases ht
theorem blks_nodup (h : MS C ob m ρ w) : ∀ (ns gs : List Nat), ns.Nodup → (∀ n ∈ ns, ∃ o, ob n = some o ∧ o.live = true) → ns.map (fun n => blk (ρ n)) = gs.map some → gs.Nodup
  | [], gs, _, _, e => by
    cases gs with
    | nil => simp
    | cons => simp at e
  | n :: ns, gs, hnd, hl, e => by
    cases gs with
    | nil => simp at e
    | cons g gs =>
      simp only [List.map_cons, List.cons.injEq] at e
      obtain ⟨e1, e2⟩ := e
      rw [List.nodup_cons] at hnd ⊢
      refine ⟨fun hmem => ?_, blks_nodup h ns gs hnd.2 (fun k hk => hl k (by simp [hk])) e2⟩
      have : some g ∈ gs.map some := List.mem_map.2 ⟨g, hmem, rfl⟩
      rw [← e2] at this
      obtain ⟨n', hn', hb⟩ := List.mem_map.1 this
      obtain ⟨o1, p1, p2⟩ := hl n (by simp)
      obtain ⟨o2, p3, p4⟩ := hl n' (by simp [hn'])
      have := h.dist n n' o1 o2 g p1 p3 p2 p4 e1 hb
      subst this
      exact hnd.1 hn'
theorem lentNames_ok : ∀ (bs : List Bool) (l : List AV) (ts : List T) (ns : List Nat), argsOf obr bs l = some (ts, ns) → ∀ n ∈ lentNames bs l, ∃ ty c, obr n = some (.var false ty (.t c))
  | [], l, ts, ns, _, n, hn => by cases l <;> simp [lentNames] at hn
  | true :: bs, l, ts, ns, ht, n, hn => by
    unfold argsOf at ht
    split at ht
    · rename_i bs' n' l' e
      injection e with _ e; subst e
      split at ht
      · rename_i ty c ts' ns' hn' hrec
        simp only [lentNames, List.mem_cons] at hn
        rcases hn with rfl | hn
        · exact ⟨ty, c, hn'⟩
        · exact lentNames_ok bs l' ts' ns' hrec n hn
      · cases ht
    · rename_i e; cases e
    · rename_i e; cases e
    · cases ht
  | false :: bs, [], ts, ns, ht, n, hn => by simp [lentNames] at hn
  | false :: bs, v :: l, ts, ns, ht, n, hn => by
    simp only [argsOf] at ht
    split at ht
    · rename_i t A ts' B p1 p2
      simp only [lentNames] at hn
      exact lentNames_ok bs l _ _ p2 n hn
    · cases ht
theorem rv_fn {f : Nat} {x : Value} (h : RV m ρ (.t (.fn f)) x) : x = .func (.func f) #[] #[] := by
  rw [rv_scal rfl] at h; simpa [RT] using h
theorem opFn_ok (hE : EnvOK P E) (hC : ∀ n g, (n, g) ∈ C.lent → 50000 ≤ n) (h : MS C ob m ρ w) (hG : GlobOK E.glob m) (hs : SubO obr ob) (hf : FreeO o obr ob) {tm : List (Nat × AV)} (hev : ∀ x : Operand, OpdOK ob m ρ (evalAV E tm x) (a.eval x)) {c : Call} (ho : o.op = .call c) {f : Operand} (hc : c.callee = .value f)
    (hr : opFn E o.dst obr (evalAV E tm f :: c.args.toList.map (evalAV E tm)) = some r) : Step P C ob m ρ w o a r := by
  unfold opFn at hr
  split at hr
  · rename_i f' as e
    injection e with ef eas
    have hfv := (hev f).rv
    rw [ef] at hfv
    have efv := rv_fn hfv
    split at hr
    · rename_i sp hsp
      split at hr
      · rename_i ts sh hargs
        split at hr
        · rename_i rs us hfn
          split at hr
          · rename_i lb vs nw hlb hres
            split at hr
            · cases hr
            · rename_i hcond
              injection hr with hr
              simp only [Bool.or_eq_true, Bool.and_eq_true, not_or, Bool.not_eq_true', decide_eq_true_eq, decide_eq_false_iff_not, not_and, Bool.not_eq_false, List.any_eq_true, not_exists, Nat.not_lt, Decidable.not_not] at hcond
              obtain ⟨⟨⟨hdst, hshl⟩, hrl⟩, hnd⟩ := hcond
              have hshl' : ∀ n ∈ sh, n ∉ lentNames sp.lent as := fun n hn hm => hshl n hn (by simpa using hm)
              obtain ⟨m1, hm1, h1, hcov, _⟩ := MS.shares obr hC sh ob m h (fun n o hn => .inl (hs n o hn)) (argsOf_fit h hs hargs)
              have hsame1 : ∀ n ∈ lentNames sp.lent as, updf ob (Mg.shares obr sh) n = ob n := by
                intro n hn
                exact updf_notin _ _ _ (fun hk => hshl' n (shares_fst sh n hk) hn)
              obtain ⟨gs, ha1, ha2, ha3⟩ := argsOf_ok (a := a) h hs hm1 h1 eas.symm hev hargs hcov hsame1
              have hgnd := blks_nodup h1 _ gs hnd ha3 ha2
              have hlow : ∀ j, j < rs.length → obr (nameOf (o.dst.getD 0) j) = none → ob (nameOf (o.dst.getD 0) j) = none := by
                intro j hj hnone
                cases hd : o.dst with
                | none =>
                  have := hdst (by simp [hd])
                  simp at this; subst this; simp at hj
                | some d =>
                  rw [hd] at hnone
                  exact hf d j hd (by omega) hnone
              have hlow1 : ∀ j, j < rs.length → obr (nameOf (o.dst.getD 0) j) = none → updf ob (Mg.shares obr sh) (nameOf (o.dst.getD 0) j) = none := by
                intro j hj hnone
                rw [shares_keep sh ob _ hnone]; exact hlow j hj hnone
              -- what is left to show, of a value and a world
              have fin : ∀ (K : Act → World → Prop), (∀ x m' ρ' w', Sub m m' → Agree ob ρ ρ' → MS C (updf ob r.wr) m' ρ' w' → RV m' ρ' r.v x → (∀ n ∈ r.v.names, updf ob r.wr n ≠ none) → K (a.put o.dst x) w') →
                  ∀ (m' : Mem) (xs : List Value) (w' : World), Sub m1 m' → m'.ok w' → (∀ b i v, m' b i = some v → m1 b i = some v ∨ w.heap.size ≤ b) → ResOK m' w' w.heap.size rs xs → (rowBlks rs xs).Nodup → LentOK m' w w' us gs → But w w' gs → K (a.put o.dst (packV xs)) w' := by
                intro K hK m' xs w' k1 k2 k3 k4 k5 k6 k7
                by_cases hflat : sp.flat = true
                · rw [if_pos hflat] at hr
                  have hflat := (hE.fns f' sp hsp).2 hflat ts rs us hfn
                  have hmm : Sub m m' := hm1.trans k1
                  obtain ⟨ρ', s1, s2, s3, s4⟩ := after_call (obr := obr) h k7 (Sub.refl m) (fun b i v hv => k2 b i v (hmm b i v hv)) (fun b i v hv => .inl hv) (k4.flat hmm rs xs hflat.1) k5 (k6.flat hmm us gs hflat.2) hlb ha2 (fun n _ o' hn' => hs n o' hn') hres hlow
                  subst hr
                  exact hK _ m ρ' w' (Sub.refl m) s1 s2 s3 s4
                · rw [if_neg hflat] at hr
                  obtain ⟨ρ', s1, s2, s3, s4⟩ := after_call (obr := obr) h1 k7 k1 k2 k3 k4 k5 k6 hlb ha2 (fun n hn o' hn' => (hsame1 n hn).trans (hs n o' hn')) hres hlow1
                  subst hr
                  rw [← updf_append] at s2
                  refine hK _ m' ρ' w' (hm1.trans k1) (fun n hn => s1 n (updf_none _ _ _ hn)) s2 s3 ?_
                  intro n hn
                  have := s4 n hn
                  rw [← updf_append] at this
                  exact this
              intro K Q hK
              have hvs : (c.args.map a.eval) = ((c.args.toList.map a.eval)).toArray := by
                apply Array.ext'; simp
              have hexec : (execOp a.eval o).run P w = (callFunc f' (c.args.toList.map a.eval).toArray).run P w := by
                rw [← hvs]
                simp [execOp, ho, resolve, invoke, hc, efv, Deferred.ofValue]
              rcases (hE.fns f' sp hsp).1 with hB | hX
              · obtain ⟨⟨fn, cd, hfu, hbody, hname⟩, hspec⟩ := hB
                have hcall := hspec m1 w ts _ gs rs us h1.mem (hG.mono hm1) ha1 hgnd hfn
                have hrun : (execOp a.eval o).run P w = .ok (.enter f' (c.args.toList.map a.eval).toArray) w := by
                  rw [hexec]; simp [callFunc, run_program, hfu, hname, hbody]
                unfold Oper.wp
                rw [hrun, Oper.upon_enter]
                refine hcall.mono ?_
                rintro e w' ⟨m', xs, rfl, k1, k2, k3, k4, k5, k6, k7⟩
                exact fin K hK m' xs w' k1 k2 k3 k4 k5 k6 k7
              · obtain ⟨hle, hspec⟩ := hX
                rw [hle] at ha1
                have hgs : gs = [] := by
                  rw [hle] at ha2
                  have : lentNames ([] : List Bool) as = [] := by cases as <;> rfl
                  rw [this] at ha2
                  simpa using ha2.symm
                subst hgs
                obtain ⟨rfl, xs, hrunx, k4, k5⟩ := hspec m1 w ts _ rs us ha1 hfn
                have hrun : (execOp a.eval o).run P w = .ok (.value (packV xs)) w := by
                  rw [hexec]; exact hrunx
                unfold Oper.wp
                rw [hrun, Oper.upon_value]
                exact fin K hK m1 xs w (Sub.refl m1) h1.mem (fun b i v hv => .inl hv) k4 (by rw [k5]; simp) rfl ⟨rfl, rfl, rfl, Nat.le_refl _, fun _ _ _ => rfl⟩
          · cases hr
        · cases hr
      · cases hr
    · cases hr
  · cases hr
end Go.Mg
