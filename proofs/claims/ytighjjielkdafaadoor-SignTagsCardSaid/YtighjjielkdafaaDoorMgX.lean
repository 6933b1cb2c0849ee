/- A function's end: its results; its specification. -/
import Derived.Test.YtighjjielkdafaaDoorMgW
namespace Go.Mg
open Go.RowKit
variable {P : Program} {E : Env} {C : Ctx} {ob : Nat → Option Ob} {m m' : Mem} {ρ ρ' : Rho} {w w' : World} {a : Act} {s s' : St} {c : Code} {r : Res}

def RVl (m : Mem) (ρ : Rho) : List AV → List Value → Prop
  | [], xs => xs = []
  | v :: vs, xs => ∃ x r, xs = x :: r ∧ RV m ρ v x ∧ RVl m ρ vs r
/-- one result -/
def oneResult (tmps : Array Value) : ResultVar → Sem Value
  | .tmp t => pure (tmps.getD t undef)
  | .cell a t => do loadVar t (← asAddr (tmps.getD a undef))
theorem opLoad_val (hE : EnvOK P E) (h : MS C ob m ρ w) {ty : Nat} {vx : AV} {x : Value} (hx : RV m ρ vx x) (hr : opLoad E ty ob [vx] = some r) :
    ∃ b of v, x = .pointer (some ⟨b, of, none⟩) ∧ (Instr.loadAt ty x).run P w = .ok v w ∧ RV m ρ r.v v ∧ ∀ n ∈ r.v.names, ob n ≠ none := by
  unfold opLoad at hr
  split at hr
  · rename_i n p off e
    simp at e; subst e
    split at hr
    · rename_i b i hb hi
      split at hr
      · rename_i x' o' hl
        split at hr
        · rename_i hc
          obtain ⟨rfl, hgd, hsz, hag⟩ := hc
          simp at hr; subst hr
          obtain ⟨g, hg, ex⟩ := rv_ref hx
          have hlive : b.live = true := by cases b <;> simp [Ob.look, Ob.live] at hl ⊢
          obtain ⟨cur, t, hh, hoc⟩ := (h.objs n b hb).view hlive hg
          obtain ⟨q1, q2⟩ := Ob.look_OC hoc hl
          have hrange : w.rangeAt g o' ((cur.toList.drop o').take x'.size) := by
            intro j u hu
            rw [cell_of_row w g _ cur t (0, 0) hh]
            rw [List.getElem?_take] at hu
            split at hu
            · rw [List.getElem?_drop] at hu; simpa using hu
            · cases hu
          obtain ⟨v, h1, h2⟩ := run_loadAt (hE.ty _ _ hi) hrange q1 hsz hag
          exact ⟨g, o', v, ex, by rw [ex]; exact h1, RV_of_good h2, fun k hk => h.named n b hb k (Ob.look_names hl k hk)⟩
        · cases hr
      · cases hr
    · cases hr
  · rename_i u e
    simp at e; subst e
    split at hr
    · rename_i i hi
      split at hr
      · rename_i hc
        simp at hr; subst hr
        obtain ⟨b, of, us, ex, h1, h2⟩ := rv_ptr hx
        obtain ⟨v, q1, q2⟩ := run_loadAt (P := P) (w := w) (m := m) (ρ := ρ) (hE.ty _ _ hi) (b := b) (of := of) (cs := us) (x := .t u) (fun j y hy => h.mem _ _ _ (h2 j y hy)) (by simpa [RA] using h1) (by simpa [AV.size] using hc.1) (by simpa [AV.agg] using hc.2)
        exact ⟨b, of, v, ex, by rw [ex]; exact q1, RV_of_good q2, by simp [AV.names]⟩
      · cases hr
    · cases hr
  · cases hr
theorem resAV_ok (hE : EnvOK P E) (h : SRel E C s m ρ a w) {rv : ResultVar} {v : AV} (hr : resAV E s rv = some v) : ∃ x, (oneResult a.tmps rv).run P w = .ok x w ∧ RV m ρ v x ∧ ∀ n ∈ v.names, get s.ob n ≠ none := by
  cases rv with
  | tmp t =>
    simp only [resAV] at hr
    have h1 := h.ts.tmps t
    have h2 := h.ts.names t
    rw [hr] at h1 h2
    exact ⟨_, rfl, h1, h2⟩
  | cell ad t =>
    simp only [resAV] at hr
    split at hr
    · rename_i u hu
      simp only [Option.map_eq_some_iff] at hr
      obtain ⟨r, hl, rfl⟩ := hr
      have h1 := h.ts.tmps ad
      rw [hu] at h1
      obtain ⟨b, of, v, e, q1, q2, q3⟩ := opLoad_val hE h.ms (x := a.tmps.getD ad undef) h1 hl
      refine ⟨v, ?_, q2, q3⟩
      rw [e] at q1
      simp only [oneResult, e]
      simpa [Instr.loadAt, Instr.sureAddr, asAddr] using q1
    · cases hr
theorem resAVs_ok (hE : EnvOK P E) (h : SRel E C s m ρ a w) : ∀ {l : List ResultVar} {vs : List AV}, resAVs E s l = some vs → ∃ xs, (l.mapM (oneResult a.tmps)).run P w = .ok xs w ∧ RVl m ρ vs xs ∧ ∀ n ∈ AV.namesL vs, get s.ob n ≠ none
  | [], vs, hr => by
    simp [resAVs] at hr; subst hr
    exact ⟨[], by simp, rfl, by simp [AV.namesL]⟩
  | rv :: l, vs, hr => by
    simp only [resAVs] at hr
    split at hr
    · rename_i v vs' h1 h2
      injection hr with hr; subst hr
      obtain ⟨x, p1, p2, p3⟩ := resAV_ok hE h h1
      obtain ⟨xs, q1, q2, q3⟩ := resAVs_ok hE h h2
      refine ⟨x :: xs, ?_, ⟨x, xs, rfl, p2, q2⟩, ?_⟩
      · rw [List.mapM_cons]
        simp [p1, q1]
      · intro n hn
        simp only [AV.namesL, List.mem_append] at hn
        rcases hn with hn | hn
        · exact p3 n hn
        · exact q3 n hn
    · cases hr
theorem results_run {fn : Func} {tmps : Array Value} {xs : List Value} (h : (fn.results.toList.mapM (oneResult tmps)).run P w = .ok xs w) : (Go.results fn tmps).run P w = .ok (packV xs) w := by
  have e : fn.results.mapM (oneResult tmps) = (do return (← fn.results.toList.mapM (oneResult tmps)).toArray) := by
    rw [← Array.toArray_toList (xs := fn.results), List.mapM_toArray]
    simp
  have e2 : Go.results fn tmps = (do let vs ← fn.results.mapM (oneResult tmps); pure (if h : vs.size = 1 then vs[0] else .tuple vs)) := by
    unfold Go.results
    congr 1
  rw [e2, e]
  simp only [Sem.run_bind, h, Result.andThen_ok, Sem.run_pure]
  congr 1
  match xs with
  | [] => rfl
  | [x] => rfl
  | x :: y :: l => simp [packV]
theorem Exp.fit (h : MS C ob m ρ w) : ∀ {vs : List AV} {rs : List RR} {sh own : List Nat}, Exp ob vs rs sh own → Fit ob sh
  | [], [], sh, own, hx => by
    simp only [Exp] at hx
    rw [hx.1]; simp [Fit]
  | v :: vs, .tree t :: rs, sh, own, hx => by
    simp only [Exp] at hx
    obtain ⟨s1, s2, h1, rfl, h2⟩ := hx
    intro n hn
    rcases List.mem_append.1 hn with hn | hn
    · exact asTreeAll_fit h (fun _ _ hn => hn) h1 n hn
    · exact Exp.fit h h2 n hn
  | v :: vs, .row ty es l :: rs, sh, own, hx => by
    simp only [Exp] at hx
    rcases hx with ⟨n, o2, _, _, _, h2⟩ | ⟨_, _, h2⟩
    · exact Exp.fit h h2
    · exact Exp.fit h h2
  | [], _ :: _, _, _, hx => by simp [Exp] at hx
  | _ :: _, [], _, _, hx => by simp [Exp] at hx
/-- What goes out. -/
theorem Exp.ok {ob1 : Nat → Option Ob} {m1 : Mem} (h : MS C ob m ρ w) (hm : Sub m m1) (h1 : MS C ob1 m1 ρ w) (hrow : ∀ n, (∃ ty es l, ob n = some (.row false ty es l)) → ∀ g, (n, g) ∉ C.lent) :
    ∀ {vs : List AV} {rs : List RR} {sh own : List Nat} {xs : List Value}, Exp ob vs rs sh own → RVl m ρ vs xs → (∀ n ∈ sh, ∀ o, ob n = some o → Cov m1 w ρ n o) → (∀ n ∈ own, ob1 n = ob n) →
      ResOK m1 w C.w0.heap.size rs xs ∧ (∀ g ∈ rowBlks rs xs, ∃ n ∈ own, ∃ o, ob1 n = some o ∧ o.live = true ∧ blk (ρ n) = some g) ∧ (own.Nodup → (rowBlks rs xs).Nodup)
  | [], [], sh, own, xs, hx, hv, _, _ => by
    simp only [RVl] at hv; subst hv
    refine ⟨rfl, by simp [rowBlks], fun _ => by simp [rowBlks]⟩
  | v :: vs, .tree t :: rs, sh, own, xs, hx, hv, hcov, hsame => by
    simp only [Exp] at hx
    obtain ⟨s1, s2, e1, rfl, e2⟩ := hx
    simp only [RVl] at hv
    obtain ⟨x, r, rfl, p1, p2⟩ := hv
    obtain ⟨q1, q2, q3⟩ := Exp.ok h hm h1 hrow e2 p2 (fun n hn => hcov n (by simp [hn])) hsame
    refine ⟨?_, by simpa only [rowBlks] using q2, by simpa only [rowBlks] using q3⟩
    simp only [ResOK]
    exact ⟨x, r, rfl, (asTreeAll_ok h (fun _ _ hn => hn) hm e1 (fun n hn => hcov n (by simp [hn]))).1 x p1, q1⟩
  | v :: vs, .row ty es l :: rs, sh, own, xs, hx, hv, hcov, hsame => by
    simp only [Exp] at hx
    simp only [RVl] at hv
    obtain ⟨x, r, rfl, p1, p2⟩ := hv
    rcases hx with ⟨n, o2, rfl, e1, rfl, e2⟩ | ⟨rfl, rfl, e2⟩
    · obtain ⟨q1, q2, q3⟩ := Exp.ok h hm h1 hrow e2 p2 hcov (fun k hk => hsame k (by simp [hk]))
      have ex : x = ρ n := by
        simp only [RV, RV0, AV.agg, RA] at p1
        simpa using p1
      have hob1 : ob1 n = some (.row false ty es l) := (hsame n (by simp)).trans e1
      obtain ⟨us, hown, hre⟩ := (h1.objs n _ hob1).row_own
      have hlent := hrow n ⟨ty, es, l, e1⟩
      have hbase : ∀ g, blk x = some g → C.w0.heap.size ≤ g := by
        intro g hg
        rw [ex] at hg
        rcases h1.home n _ g hob1 rfl hg with h3 | h3
        · exact h3
        · exact absurd h3 (hlent g)
      refine ⟨?_, ?_, ?_⟩
      · simp only [ResOK]
        refine ⟨x, r, us, rfl, ?_, hre, ?_, q1⟩
        · rw [ex]
          rw [ex] at hbase
          refine ⟨hown.1, ?_⟩
          rcases hown.2 with h3 | ⟨g, cap, cur, h3, _, h4⟩
          · exact .inl h3
          · exact .inr ⟨g, cap, cur, h3, hbase g (by rw [h3]; rfl), h4⟩
        · intro g hg i
          cases hmi : m1 g i with
          | none => rfl
          | some v => rw [ex] at hg; have := h1.shy n _ g i v hob1 rfl hg hmi; simp [Ob.cov] at this
      · intro g hg
        simp only [rowBlks, List.mem_append] at hg
        rcases hg with hg | hg
        · exact ⟨n, by simp, _, hob1, rfl, by rw [← ex]; simpa using hg⟩
        · obtain ⟨k, hk, h3⟩ := q2 g hg
          exact ⟨k, by simp [hk], h3⟩
      · intro hnd
        rw [List.nodup_cons] at hnd
        simp only [rowBlks]
        rw [List.nodup_append]
        refine ⟨?_, q3 hnd.2, ?_⟩
        · cases blk x <;> simp
        · intro g hg g' hg' e
          subst e
          obtain ⟨k, hk, o, h3, h4, h5⟩ := q2 g hg'
          have hb : blk (ρ n) = some g := by rw [← ex]; simpa using hg
          have := h1.dist n k _ o g hob1 h3 rfl h4 hb h5
          subst this
          exact hnd.1 hk
    · obtain ⟨q1, q2, q3⟩ := Exp.ok h hm h1 hrow e2 p2 hcov hsame
      have ex : x = .slice none 0 0 := by rw [rv_scal rfl] at p1; simpa [RT] using p1
      subst ex
      refine ⟨?_, by simpa [rowBlks, blk] using q2, by simpa [rowBlks, blk] using q3⟩
      simp only [ResOK]
      exact ⟨_, r, [], rfl, World.ownsRow_nil w _ ty es, by simp [REs], by simp [blk], q1⟩
  | [], _ :: _, _, _, _, hx, _, _, _ => by simp [Exp] at hx
  | _ :: _, [], _, _, _, hx, _, _, _ => by simp [Exp] at hx
theorem lentEnd_ok {ob1 : Nat → Option Ob} {m1 : Mem} {w0 : World} (h1 : MS C ob1 m1 ρ w) : ∀ {bs : List Bool} {ts : List T} {vs : List Value} {gs : List Nat} {us : List T} (i : Nat), ArgsOK m w0 bs ts vs gs → LentEnd ob i bs ts us → (∀ n o, 50000 ≤ n → ob n = some o → (∃ ty t, o = .var false ty (.t t)) → ob1 n = some o) →
    (∀ n g, (n, g) ∈ pairs i bs ts gs → (n, g) ∈ C.lent) → LentOK m1 w0 w us gs
  | bs, [], vs, gs, us, i, ha, hl, _, _ => by
    have e1 : us = [] := by cases bs <;> simpa [LentEnd] using hl
    have e2 : gs = [] := by
      have : vs = [] ∧ gs = [] := by cases bs <;> simpa [ArgsOK] using ha
      exact this.2
    subst e1; subst e2; rfl
  | true :: bs, c :: ts, vs, gs, us, i, ha, hl, hsame, hp => by
    simp only [ArgsOK] at ha
    obtain ⟨v, vs', g, gs', cs, t, rfl, rfl, _, hh, hr, hm, ha⟩ := ha
    simp only [LentEnd] at hl
    obtain ⟨u, us', ty, rfl, hob, hsz, hl⟩ := hl
    have hob1 := hsame _ _ (by omega) hob ⟨ty, u, rfl⟩
    obtain ⟨hb, _⟩ := h1.lent (50000 + i) g (hp _ _ (by simp [pairs]))
    obtain ⟨g', cs', t', e, hh', hc⟩ := h1.objs _ _ hob1
    have : g' = g := by rw [e] at hb; simpa [blk] using hb
    subst this
    simp only [LentOK]
    have hrt : RT m1 u cs'.toList := by simpa [RA] using hc
    have l1 := RT.len _ _ hr
    have l2 := RT.len _ _ hrt
    simp only [Array.length_toList] at l1 l2
    refine ⟨g', gs', cs, cs', t, t', rfl, hh, hh', by omega, hrt, fun j => ?_, lentEnd_ok h1 (i + 1) ha hl hsame (fun n g hng => hp n g (by simp [pairs, hng]))⟩
    cases hmi : m1 g' j with
    | none => rfl
    | some v => have := h1.shy _ _ g' j v hob1 rfl hb hmi; simp [Ob.cov] at this
  | false :: bs, c :: ts, vs, gs, us, i, ha, hl, hsame, hp => by
    simp only [ArgsOK] at ha
    obtain ⟨v, vs', rfl, _, ha⟩ := ha
    simp only [LentEnd] at hl
    exact lentEnd_ok h1 (i + 1) ha hl hsame (fun n g hng => hp n g (by simpa only [pairs] using hng))
  | [], c :: ts, vs, gs, us, i, ha, hl, _, _ => by
    simp only [LentEnd] at hl; subst hl
    simp only [ArgsOK] at ha
    obtain ⟨v, vs', rfl, _, ha⟩ := ha
    have : ∀ (ts : List T) (vs : List Value) (gs : List Nat), ArgsOK m w0 [] ts vs gs → gs = [] := by
      intro ts
      induction ts with
      | nil => intro vs gs h; exact (by simpa [ArgsOK] using h : vs = [] ∧ gs = []).2
      | cons t ts ih =>
        intro vs gs h
        simp only [ArgsOK] at h
        obtain ⟨v, vs', rfl, _, h⟩ := h
        exact ih vs' gs h
    rw [this ts vs' gs ha]; rfl
theorem initOb_lent : ∀ (i : Nat) (bs : List Bool) (ts : List T) (gs : List Nat) (n g : Nat), (n, g) ∈ pairs i bs ts gs → n ∈ (initOb i bs ts).map (·.1)
  | i, true :: bs, c :: ts, g0 :: gs, n, g, h => by
    simp only [pairs, List.mem_cons, Prod.mk.injEq] at h
    simp only [initOb, List.map_cons, List.mem_cons]
    rcases h with ⟨rfl, _⟩ | h
    · exact .inl rfl
    · exact .inr (initOb_lent (i + 1) bs ts gs n g h)
  | i, false :: bs, c :: ts, gs, n, g, h => by
    simp only [pairs] at h
    simp only [initOb]
    exact initOb_lent (i + 1) bs ts gs n g h
  | i, [], ts, gs, n, g, h => by cases ts <;> cases gs <;> simp [pairs] at h
  | i, true :: bs, [], gs, n, g, h => by cases gs <;> simp [pairs] at h
  | i, false :: bs, [], gs, n, g, h => by cases gs <;> simp [pairs] at h
  | i, true :: bs, c :: ts, [], n, g, h => by simp [pairs] at h
theorem pairs_gs : ∀ {bs : List Bool} {ts : List T} {vs : List Value} {gs : List Nat} (i : Nat), ArgsOK m w bs ts vs gs → ∀ n g, (n, g) ∈ pairs i bs ts gs → g ∈ gs := fun i _ n g h => (pairs_hi i _ _ _ _ h).2
/-- A function with a body does what its specification says. -/
theorem spec_of_body (hE : EnvOK P E) {f : Nat} {fn : Func} {sp : Spec} (hf : P.funcs[f]? = some fn) (hb : fn.body = some c) (hname : fn.name ≠ "runtime.NumGoroutine") (hnt : fn.ntmps = E.ntmps)
    (h : ∀ ts rs us, sp.fn ts = some (rs, us) → ts.length ≤ E.ntmps ∧ ∀ C : Ctx, (∀ n g, (n, g) ∈ C.lent → n ∈ (initOb 0 sp.lent ts).map (·.1)) → (∀ n g, (n, g) ∈ C.lent → 50000 ≤ n) →
      Ab P E C c ⟨initTm 0 sp.lent ts, initOb 0 sp.lent ts⟩ (End (Done E fn.results.toList sp.lent ts rs us))) : SpecB P E.glob f sp := by
  refine ⟨⟨fn, c, hf, hb, hname⟩, ?_⟩
  intro m w ts vs gs rs us hok hG ha hnd hsp
  obtain ⟨hle, hab⟩ := h ts rs us hsp
  have hlow : ∀ n g, (n, g) ∈ pairs 0 sp.lent ts gs → 50000 ≤ n := fun n g hng => by have := (pairs_hi 0 sp.lent ts gs _ hng).1; simpa using this
  have hab' := hab ⟨w, m, pairs 0 sp.lent ts gs⟩ (fun n g hng => initOb_lent 0 _ _ _ n g hng) hlow
  have hinit := init_ok (E := E) hok ha hnd hnt hle
  refine calls_of_wp hf hb (hab' m _ _ w _ hinit hG ?_)
  -- the end
  have fin : ∀ (s : St), Done E fn.results.toList sp.lent ts rs us s → ∀ m1 ρ a w', Sub m m1 → SRel E ⟨w, m, pairs 0 sp.lent ts gs⟩ s m1 ρ a w' → a.defers = [] ∧ ∃ v, (Go.results fn a.tmps).run P w' = .ok v w' ∧
      ∃ m' xs, Ending.returned v = .returned (packV xs) ∧ Sub m m' ∧ m'.ok w' ∧ (∀ b i v, m' b i = some v → m b i = some v ∨ w.heap.size ≤ b) ∧ ResOK m' w' w.heap.size rs xs ∧ (rowBlks rs xs).Nodup ∧ LentOK m' w w' us gs ∧ But w w' gs := by
    intro s hd m1 ρ a w' hm hs
    obtain ⟨avs, sh, own, d1, d2, d3, d4, d5⟩ := hd
    obtain ⟨xs, p1, p2, p3⟩ := resAVs_ok hE hs d1
    have hms := hs.ms
    have hrow : ∀ n, (∃ ty es l, get s.ob n = some (.row false ty es l)) → ∀ g, (n, g) ∉ pairs 0 sp.lent ts gs := by
      rintro n ⟨ty, es, l, e⟩ g hng
      obtain ⟨_, ty', c', e'⟩ := hms.lent n g hng
      rw [e] at e'; cases e'
    have hfit := Exp.fit hms d2
    obtain ⟨m', q1, q2, q3, q4⟩ := MS.shares (get s.ob) hlow sh (get s.ob) m1 hms (fun _ _ hn => .inl hn) hfit
    have hkeep : ∀ n, n ∉ sh → updf (get s.ob) (shares (get s.ob) sh) n = get s.ob n := fun n hn => updf_notin _ _ _ (fun hk => hn (shares_fst sh n hk))
    obtain ⟨r1, r2, r3⟩ := Exp.ok hms q1 q2 hrow d2 p2 q3 (fun n hn => hkeep n (d4 n hn))
    refine ⟨hs.ts.defers, packV xs, results_run p1, m', xs, rfl, hm.trans q1, q2.mem, q2.new, r1, r3 d3, ?_, ?_⟩
    · refine lentEnd_ok q2 0 ha d5 ?_ (fun n g hng => hng)
      rintro n o hn ho ⟨ty, t, rfl⟩
      rw [hkeep n ?_]
      · exact ho
      · intro hsh
        obtain ⟨o', e1, _, e3⟩ := hfit n hsh
        rw [ho] at e1; injection e1 with e1; subst e1
        rcases e3 with e3 | ⟨_, _, _, _, e3⟩
        · omega
        · cases e3
    · have hfr := q2.frame
      refine ⟨hfr.os, hfr.tape, hfr.output, hfr.size, fun b hb' hnot => hfr.block b hb' (fun n hng => hnot ?_)⟩
      exact (pairs_hi 0 sp.lent ts gs _ hng).2
  intro out ho
  cases out with
  | norm s => exact fun m1 ρ a w' h1 h2 => fin s ho m1 ρ a w' h1 h2
  | ret s => exact fun m1 ρ a w' h1 h2 => fin s ho m1 ρ a w' h1 h2
  | exit id s => exact ho.elim
end Go.Mg
