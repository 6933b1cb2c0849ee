/- Objects that are shared, as trees; slices of literals. -/
import Derived.Test.YtdgbpoihgeefiaaDoorRRRMgM
namespace Go.Mg
open Go.RowKit
variable {P : Program} {E : Env} {C : Ctx} {ob obr : Nat → Option Ob} {m m' : Mem} {ρ ρ' : Rho} {w w' : World} {o : Oper} {a : Act} {r : Res}

/-- The cells of an object lie in memory. -/
def Cov (m : Mem) (w : World) (ρ : Rho) (n : Nat) (o : Ob) : Prop := ∀ b i v, blk (ρ n) = some b → o.within i = true → w.cell? ⟨b, i, none⟩ = some v → m b i = some v
theorem Cov.mono (h : Sub m m') {n : Nat} {o : Ob} (k : Cov m w ρ n o) : Cov m' w ρ n o := fun b i v h1 h2 h3 => h _ _ _ (k b i v h1 h2 h3)
theorem within_share (o : Ob) (i : Nat) : o.share.within i = o.within i := by cases o <;> rfl
theorem share_share (o : Ob) : o.share.share = o.share := by cases o <;> rfl
theorem share_live (o : Ob) : o.share.live = o.live := by cases o <;> rfl
/-- what may be shared -/
def Fit (obr : Nat → Option Ob) (ns : List Nat) : Prop := ∀ n ∈ ns, ∃ o, obr n = some o ∧ o.live = true ∧ (n < 50000 ∨ ∃ sh ty es l, o = .row sh ty es l)
theorem MS.shares (obr : Nat → Option Ob) (hC : ∀ n g, (n, g) ∈ C.lent → 50000 ≤ n) : ∀ (ns : List Nat) (ob : Nat → Option Ob) (m : Mem), MS C ob m ρ w → (∀ n o, obr n = some o → ob n = some o ∨ ob n = some o.share) → Fit obr ns →
    ∃ m', Sub m m' ∧ MS C (updf ob (shares obr ns)) m' ρ w ∧ (∀ n ∈ ns, ∀ o, obr n = some o → Cov m' w ρ n o) ∧ (∀ b i v, m' b i = some v → m b i = some v ∨ ∃ n ∈ ns, blk (ρ n) = some b)
  | [], ob, m, h, _, _ => ⟨m, Sub.refl m, h, by simp, fun _ _ _ hv => .inl hv⟩
  | n :: ns, ob, m, h, hs, hf => by
    obtain ⟨o, ho, hl, hlow⟩ := hf n (by simp)
    have hcase := hs n o ho
    have hlent : ∀ g, (n, g) ∉ C.lent := by
      intro g hg
      rcases hlow with h1 | ⟨sh, ty, es, l, rfl⟩
      · have := hC n g hg; omega
      · obtain ⟨_, ty', c, h2⟩ := h.lent n g hg
        rcases hcase with h3 | h3 <;> rw [h2] at h3 <;> simp [Ob.share] at h3
    have step : ∃ o1, ob n = some o1 ∧ o1.share = o.share ∧ o1.live = true := by
      rcases hcase with h1 | h1
      · exact ⟨o, h1, rfl, hl⟩
      · exact ⟨o.share, h1, share_share o, by rw [share_live]; exact hl⟩
    obtain ⟨o1, h1, h2, h3⟩ := step
    obtain ⟨q1, q2⟩ := h.share h1 h3 hlent
    rw [h2] at q1
    obtain ⟨m', r1, r2, r3, r4⟩ := MS.shares obr hC ns _ _ q1 (by
      intro k o' hk
      by_cases e : n = k
      · subst e
        rw [ho] at hk; injection hk with hk; subst hk
        exact .inr (upd_same _ _ _)
      · rw [upd_other _ _ e]; exact hs k o' hk) (fun k hk => hf k (by simp [hk]))
    refine ⟨m', q2.trans r1, ?_, ?_, ?_⟩
    · simp only [Mg.shares, ho, updf]
      exact r2
    · intro k hk o' ho'
      rcases List.mem_cons.1 hk with rfl | hk
      · rw [ho] at ho'; injection ho' with ho'; subst ho'
        intro b i v hb hw hc
        refine r1 _ _ _ ?_
        unfold shareMem
        have hw1 : o1.within i = true := by rw [← within_share, h2, within_share]; exact hw
        rw [if_pos ⟨hb, hw1⟩]
        exact hc
      · exact r3 k hk o' ho'
    · intro b i v hv
      rcases r4 b i v hv with h4 | ⟨k, hk, h4⟩
      · unfold shareMem at h4
        split at h4
        · rename_i hc; exact .inr ⟨n, by simp, hc.1⟩
        · exact .inl h4
      · exact .inr ⟨k, by simp [hk], h4⟩
theorem asTree_ok (h : MS C ob m ρ w) (hs : SubO obr ob) (hm : Sub m m') {v : AV} {t : T} {ns : List Nat} (ht : asTree obr v = some (t, ns)) (hcov : ∀ n ∈ ns, ∀ o, obr n = some o → Cov m' w ρ n o) :
    (∀ cs, RA m ρ v cs → RT m' t cs) ∧ Fit obr ns ∧ t.agg = v.agg ∧ v.good = true := by
  unfold asTree at ht
  split at ht
  · simp at ht
    obtain ⟨rfl, rfl⟩ := ht
    exact ⟨fun cs hc => RT.mono hm _ _ (by simpa [RA] using hc), by simp [Fit], rfl, rfl⟩
  · rename_i n
    split at ht
    · rename_i sh ty es l hn
      simp at ht
      obtain ⟨rfl, rfl⟩ := ht
      refine ⟨fun cs hc => ?_, ?_, rfl, rfl⟩
      · simp only [RA] at hc
        subst hc
        simp only [RT]
        rcases h.objs n _ (hs n _ hn) with ⟨e, rfl⟩ | ⟨g, cap, cur, e, hh, h1, h2, h3, h4⟩
        · exact ⟨none, 0, by rw [e]; rfl, by simp, .inl rfl⟩
        · refine ⟨_, cap, by rw [e], h1, .inr ⟨g, 0, _, rfl, REs.mono hm es l _ h4, fun i u hu => ?_⟩⟩
          refine hcov n (by simp) _ hn g (0 + i) u (by rw [e]; rfl) ?_ ?_
          · simp only [Ob.within, decide_eq_true_eq]
            have := (List.getElem?_eq_some_iff.1 hu).1
            simp only [List.length_take] at this; omega
          · rw [Nat.zero_add, cell_of_row w g i cur ty (0, 0) hh]
            rw [List.getElem?_take] at hu
            split at hu
            · simpa using hu
            · cases hu
      · intro k hk
        simp at hk; subst hk
        exact ⟨_, hn, rfl, .inr ⟨_, _, _, _, rfl⟩⟩
    · cases ht
  · rename_i n p off es lo len
    split at ht
    · rename_i b hn
      split at ht
      · rename_i ls hls
        split at ht
        · rename_i hlen
          simp at ht
          obtain ⟨rfl, rfl⟩ := ht
          have hl : b.live = true := by cases b <;> simp [Ob.elemsAt, Ob.live] at hls ⊢
          refine ⟨fun cs hc => ?_, ?_, rfl, rfl⟩
          · simp only [RA] at hc
            obtain ⟨A, c, rfl, hcap, hcase⟩ := hc
            have hll : ((ls.drop lo).take len).length = len := by simp; omega
            simp only [RT]
            refine ⟨A, c, by rw [hll], by rw [hll]; exact hcap, ?_⟩
            rcases hcase with rfl | ⟨g, hg, rfl⟩
            · left; simp
            · right
              obtain ⟨cur, t, hh, hoc⟩ := (h.objs n b (hs n b hn)).view hl hg
              obtain ⟨o0, rfl, hre, hfit⟩ := elemsAt_OC hoc hls
              have hmul : lo * es + len * es ≤ ls.length * es := by rw [← Nat.add_mul]; exact Nat.mul_le_mul_right _ hlen.1
              refine ⟨g, _, _, rfl, REs.mono hm _ _ _ ((hre.drop lo).take len), fun i u hu => ?_⟩
              rw [List.getElem?_take] at hu
              split at hu
              · rename_i hi
                rw [List.getElem?_drop, List.getElem?_take] at hu
                split at hu
                · rename_i hi2
                  rw [List.getElem?_drop] at hu
                  refine hcov n (by simp) b hn g _ u hg ?_ ?_
                  · cases b with
                    | row sh ty es' l' =>
                      cases p with
                      | nil =>
                        simp only [Ob.elemsAt] at hls
                        split at hls
                        · rename_i hc
                          simp at hls; subst hls
                          have : o0 = 0 := by omega
                          subst this
                          obtain ⟨rfl, _⟩ := hc
                          simp only [Ob.within, decide_eq_true_eq]; omega
                        · cases hls
                      | cons => simp [Ob.elemsAt] at hls
                    | _ => rfl
                  · rw [cell_of_row w g _ cur t (0, 0) hh, ← hu, Array.getElem?_toList]
                    congr 1; omega
                · cases hu
              · cases hu
          · intro k hk
            simp at hk; subst hk
            exact ⟨_, hn, hl, .inl hlen.2⟩
        · cases ht
      · cases ht
    · cases ht
  · rename_i es l
    simp at ht
    obtain ⟨rfl, rfl⟩ := ht
    refine ⟨fun cs hc => ?_, by simp [Fit], rfl, rfl⟩
    simp only [RA] at hc
    obtain ⟨A, rfl, hcase⟩ := hc
    simp only [RT]
    refine ⟨A, _, rfl, Nat.le_refl _, hcase.imp id ?_⟩
    rintro ⟨b, of, us, rfl, hr, hat⟩
    exact ⟨b, of, us, rfl, REs.mono hm _ _ _ hr, hat.mono hm⟩
  · cases ht
theorem asTrees_ok (h : MS C ob m ρ w) (hs : SubO obr ob) (hm : Sub m m') : ∀ {l : List AV} {ts : List T} {ns : List Nat}, asTrees obr l = some (ts, ns) → (∀ n ∈ ns, ∀ o, obr n = some o → Cov m' w ρ n o) →
    (∀ cs, RAs m ρ l cs → RTs m' ts cs) ∧ Fit obr ns ∧ AV.goods l = true
  | [], ts, ns, ht, _ => by
    simp [asTrees] at ht
    obtain ⟨rfl, rfl⟩ := ht
    exact ⟨fun cs hc => by simpa [RAs, RTs] using hc, by simp [Fit], rfl⟩
  | v :: l, ts, ns, ht, hcov => by
    simp only [asTrees] at ht
    split at ht
    · rename_i t A ts' B h1 h2
      simp at ht
      obtain ⟨rfl, rfl⟩ := ht
      obtain ⟨p1, p2, _, p3⟩ := asTree_ok h hs hm h1 (fun n hn => hcov n (by simp [hn]))
      obtain ⟨q1, q2, q3⟩ := asTrees_ok h hs hm h2 (fun n hn => hcov n (by simp [hn]))
      refine ⟨fun cs hc => ?_, ?_, by simp [AV.goods, p3, q3]⟩
      · simp only [RAs] at hc
        obtain ⟨c, d, rfl, x, y⟩ := hc
        simp only [RTs]
        exact ⟨c, d, rfl, p1 c x, q1 d y⟩
      · intro n hn
        rcases List.mem_append.1 hn with hn | hn
        · exact p2 n hn
        · exact q2 n hn
    · cases ht
theorem asTreeAll_ok (h : MS C ob m ρ w) (hs : SubO obr ob) (hm : Sub m m') {v : AV} {t : T} {ns : List Nat} (ht : asTreeAll obr v = some (t, ns)) (hcov : ∀ n ∈ ns, ∀ o, obr n = some o → Cov m' w ρ n o) :
    (∀ x, RV m ρ v x → RV0 m' ρ0 (.t t) x) ∧ Fit obr ns := by
  have fin : (∀ cs, RA m ρ v cs → RT m' t cs) → t.agg = v.agg → v.good = true → ∀ x, RV m ρ v x → RV0 m' ρ0 (.t t) x := by
    intro k1 k2 k3 x hx
    have hx0 := RV0_of_RV hx k3
    unfold RV0 at hx0 ⊢
    simp only [AV.agg, k2]
    split at hx0
    · rw [if_pos (by assumption)]
      obtain ⟨cs, e, hc⟩ := hx0
      exact ⟨cs, e, by simpa [RA] using k1 _ hc⟩
    · rw [if_neg (by assumption)]
      simpa [RA] using k1 _ hx0
  unfold asTreeAll at ht
  split at ht
  · rename_i l
    simp only [Option.map_eq_some_iff] at ht
    obtain ⟨⟨ts, ns'⟩, h1, e⟩ := ht
    simp at e
    obtain ⟨rfl, rfl⟩ := e
    obtain ⟨q1, q2, q3⟩ := asTrees_ok h hs hm h1 hcov
    exact ⟨fin (fun cs hc => by simp only [RT]; exact q1 cs (by simpa [RA] using hc)) rfl (by simpa [AV.good] using q3), q2⟩
  · rename_i n
    split at ht
    · rename_i hlow
      have ptr : ∀ (sh : Bool) (ty : Nat) (c : AV) (u : T) (ns' : List Nat), obr n = some (.var sh ty c) → (∀ k ∈ n :: ns', ∀ o, obr k = some o → Cov m' w ρ k o) → (∀ cs, RA m ρ c cs → RT m' u cs) → ∀ cs, RA m ρ (.ref n [] 0) cs → RT m' (.ptr u) cs := by
        intro sh ty c u ns' hn hcv hu cs hc
        simp only [RA] at hc
        obtain ⟨g, hg, rfl⟩ := hc
        obtain ⟨g', cs', t', e, hh, hcc⟩ := h.objs n _ (hs n _ hn)
        have : g' = g := by rw [e] at hg; simpa [blk] using hg
        subst this
        simp only [RT]
        refine ⟨g', 0, cs'.toList, rfl, hu _ hcc, fun i x hx => ?_⟩
        refine hcv n (by simp) _ hn g' (0 + i) x hg rfl ?_
        rw [Nat.zero_add, cell_of_row w g' i cs' t' (0, 0) hh]
        simpa using hx
      split at ht
      · rename_i sh ty l hn
        simp only [Option.map_eq_some_iff] at ht
        obtain ⟨⟨ts, ns'⟩, h1, e⟩ := ht
        simp at e
        obtain ⟨rfl, rfl⟩ := e
        obtain ⟨q1, q2, _⟩ := asTrees_ok h hs hm h1 (fun k hk => hcov k (by simp [hk]))
        refine ⟨fin (ptr sh ty _ (.tup ts) ns' hn hcov (fun cs hc => by simp only [RT]; exact q1 cs (by simpa [RA] using hc))) rfl rfl, ?_⟩
        intro k hk
        rcases List.mem_cons.1 hk with rfl | hk
        · exact ⟨_, hn, rfl, .inl hlow⟩
        · exact q2 k hk
      · rename_i sh ty c hnt hn
        simp only [Option.map_eq_some_iff] at ht
        obtain ⟨⟨u, ns'⟩, h1, e⟩ := ht
        simp at e
        obtain ⟨rfl, rfl⟩ := e
        obtain ⟨q1, q2, _⟩ := asTree_ok h hs hm h1 (fun k hk => hcov k (by simp [hk]))
        refine ⟨fin (ptr sh ty _ u ns' hn hcov q1) rfl rfl, ?_⟩
        intro k hk
        rcases List.mem_cons.1 hk with rfl | hk
        · exact ⟨_, hn, rfl, .inl hlow⟩
        · exact q2 k hk
      · cases ht
    · cases ht
  · obtain ⟨q1, q2, q3, q4⟩ := asTree_ok h hs hm ht hcov
    exact ⟨fin q1 q3 q4, q2⟩
theorem mem_now (h : MS C ob m ρ w) : Sub m (fun b i => w.cell? ⟨b, i, none⟩) := fun b i v hv => h.mem b i v hv
theorem cov_now (n : Nat) (o : Ob) : Cov (fun b i => w.cell? ⟨b, i, none⟩) w ρ n o := fun _ _ _ _ _ hv => hv
theorem asTreeAll_fit (h : MS C ob m ρ w) (hs : SubO obr ob) {v : AV} {t : T} {ns : List Nat} (ht : asTreeAll obr v = some (t, ns)) : Fit obr ns :=
  (asTreeAll_ok h hs (mem_now h) ht (fun n _ o _ => cov_now n o)).2
theorem asTreeL_fit (h : MS C ob m ρ w) (hs : SubO obr ob) : ∀ {l : List AV} {ts : List T} {ns : List Nat}, asTreeL obr l = some (ts, ns) → Fit obr ns
  | [], ts, ns, ht => by
    simp [asTreeL] at ht
    obtain ⟨rfl, rfl⟩ := ht
    simp [Fit]
  | v :: l, ts, ns, ht => by
    simp only [asTreeL] at ht
    split at ht
    · rename_i t A ts' B h1 h2
      simp at ht
      obtain ⟨rfl, rfl⟩ := ht
      intro n hn
      rcases List.mem_append.1 hn with hn | hn
      · exact asTreeAll_fit h hs h1 n hn
      · exact asTreeL_fit h hs h2 n hn
    · cases ht
/-- values, one by one, as trees -/
def Vals (m : Mem) : List T → List Value → Prop
  | [], xs => xs = []
  | t :: l, xs => ∃ x r, xs = x :: r ∧ RV0 m ρ0 (.t t) x ∧ Vals m l r
theorem asTreeL_ok (h : MS C ob m ρ w) (hs : SubO obr ob) (hm : Sub m m') : ∀ {l : List AV} {xs : List Operand} {ev : Operand → AV} {ts : List T} {ns : List Nat}, l = xs.map ev → (∀ x, OpdOK ob m ρ (ev x) (a.eval x)) → asTreeL obr l = some (ts, ns) →
    (∀ n ∈ ns, ∀ o, obr n = some o → Cov m' w ρ n o) → Vals m' ts (xs.map a.eval)
  | l, [], ev, ts, ns, hl, hev, ht, hcov => by
    simp at hl; subst hl
    simp [asTreeL] at ht
    obtain ⟨rfl, rfl⟩ := ht
    rfl
  | l, x :: xs, ev, ts, ns, hl, hev, ht, hcov => by
    simp at hl; subst hl
    simp only [asTreeL] at ht
    split at ht
    · rename_i t A ts' B h1 h2
      simp at ht
      obtain ⟨rfl, rfl⟩ := ht
      simp only [List.map_cons, Vals]
      exact ⟨_, _, rfl, (asTreeAll_ok h hs hm h1 (fun n hn => hcov n (by simp [hn]))).1 _ (hev x).rv, asTreeL_ok h hs hm rfl hev h2 (fun n hn => hcov n (by simp [hn]))⟩
    · cases ht
theorem parts_of_vals : ∀ (ts : List T) (is : List Nat) (xs : List Value), is.length = ts.length → Vals m ts xs → PartsOK m ρ ((is.zip ts).map fun x => (x.1, AV.t x.2)) (is.zip xs)
  | [], is, xs, hl, h => by
    simp only [Vals] at h; subst h
    simp [PartsOK]
  | t :: ts, [], xs, hl, h => by simp at hl
  | t :: ts, i :: is, xs, hl, h => by
    simp only [Vals] at h
    obtain ⟨x, r, rfl, h1, h2⟩ := h
    simp only [List.zip_cons_cons, List.map_cons, PartsOK]
    exact ⟨x, _, rfl, RV_of_good (rv0_t h1), parts_of_vals ts is r (by simpa using hl) h2⟩
theorem shares_keep : ∀ (ns : List Nat) (ob : Nat → Option Ob) (d : Nat), obr d = none → updf ob (shares obr ns) d = ob d
  | [], _, _, _ => rfl
  | n :: ns, ob, d, hd => by
    simp only [Mg.shares]
    split
    · rename_i o hn
      simp only [updf]
      rw [shares_keep ns _ d hd, upd_other]
      rintro rfl; rw [hd] at hn; cases hn
    · exact shares_keep ns ob d hd
theorem opBuildSlice_ok (hE : EnvOK P E) (hC : ∀ n g, (n, g) ∈ C.lent → 50000 ≤ n) (h : MS C ob m ρ w) (hs : SubO obr ob) (hf : FreeO o obr ob) {tm : List (Nat × AV)} (hev : ∀ x : Operand, OpdOK ob m ρ (evalAV E tm x) (a.eval x)) {ty len : Nat} {parts : Array (Nat × Operand)} (ho : o.op = .buildSlice ty len parts)
    (hr : opBuildSlice E ty len (parts.toList.map (·.1)) o.dst obr ((parts.toList.map (·.2)).map (evalAV E tm)) = some r) : Runs P C ob m ρ w o a r := by
  unfold opBuildSlice at hr
  split at hr
  · rename_i d i hd hi
    obtain ⟨hdst, hfr⟩ := fresh_ok hd
    have hob := hf.zero hdst hfr
    have hdesc := (hE.ty _ _ hi).desc
    split at hr
    · rename_i e hk
      rw [hk] at hdesc
      split at hr
      · rename_i j ts sh hj htl
        split at hr
        · rename_i hcond
          obtain ⟨hsz, hjs, hlen⟩ := hcond
          simp only [Option.map_eq_some_iff] at hr
          obtain ⟨l, hl, rfl⟩ := hr
          obtain ⟨jj, hjj, hs1, hs2, z, hz, hzr⟩ := (hE.ty _ _ hj).info
          have hzc := (hzr m ρ).cells h.one
          simp only [RA] at hzc
          have hzl : z.cells.size = j.size := by
            have := RT.len _ _ hzc
            rw [(hE.ty _ _ hj).zsize] at this
            simpa using this
          obtain ⟨m', hm, h1, hcov, _⟩ := MS.shares obr hC sh ob m h (fun n o hn => .inl (hs n o hn)) (asTreeL_fit h hs htl)
          have hvals := asTreeL_ok (a := a) h hs hm rfl hev htl hcov
          have hparts := parts_of_vals (ρ := ρ) ts (parts.toList.map (·.1)) _ hlen hvals
          have hrep : REs m' j.size (List.replicate len j.zero) (madeCells z.cells (len * j.size)).toList := by
            rw [made_flatten z.cells j.size hzl hjs]
            exact REs.replicate (RT.mono hm _ _ hzc) (by simpa using hzl) len
          obtain ⟨cells', q1, q2⟩ := fill_es h.one _ _ _ l _ hparts hrep hl
          have hd1 : updf ob (shares obr sh) d = none := by rw [shares_keep sh ob d hfr]; exact hob
          have hll : l.length = len := by rw [setParts_len _ _ _ hl]; simp
          have hsize := REs.len _ _ _ q2
          have hsize2 : cells'.toList.length = len * j.size := by rw [hsize, hll]
          have hzip : (parts.toList.map (·.1)).zip ((parts.toList.map (·.2)).map a.eval) = parts.toList.map fun x => (x.1, a.eval x.2) := by
            rw [List.map_map, List.zip_map']; rfl
          rw [hzip] at q1
          have hrun : (execOp a.eval o).run P w = .ok (.value (.slice (some ⟨w.heap.size, 0, none⟩) len len)) (w.alloc (.cells cells' e)) := by
            have hb : (Instr.buildSlice ty len (parts.map fun (i, x) => (i, a.eval x))).run P w = .ok (.slice (some ⟨w.heap.size, 0, none⟩) len len) (w.alloc (.cells cells' e)) := by
              have hz2 : (zeroValue e).run P w = .ok z w := by simp [zeroValue, typeInfo, hjj, hz]
              have hfill : ∀ zero : Array Value, (len * j.size ≠ 0 → zero = z.cells) → Instr.fill (fun i => some (i * j.size, j.size)) ((Array.range (len * j.size)).map (zero[· % zero.size]!)) (parts.map fun (i, x) => (i, a.eval x)).toList = some cells' := by
                intro zero hzero
                have : (Array.range (len * j.size)).map (zero[· % zero.size]!) = madeCells z.cells (len * j.size) := by
                  by_cases h0 : len * j.size = 0
                  · simp [h0, madeCells]
                  · rw [hzero h0]; rfl
                rw [this]
                simpa using q1
              unfold Instr.buildSlice
              simp only [Sem.run_bind, run_underlying hdesc, Result.andThen_ok, (hE.ty _ _ hj).sizeOf w]
              rw [if_neg (by omega)]
              by_cases h0 : len * j.size = 0
              · simp only [h0, if_true, Sem.run_bind, Sem.run_pure, Result.andThen_ok]
                have := hfill #[] (fun h1 => absurd h0 h1)
                rw [h0] at this
                rw [this]
                simp [newRow]
              · simp only [h0, if_false, Sem.run_bind, Sem.run_pure, Result.andThen_ok, hz2]
                rw [hfill z.cells (fun _ => rfl)]
                simp [newRow]
            simp [execOp, ho, hb]
          refine ⟨_, _, m', updr ρ d (.slice (some ⟨w.heap.size, 0, none⟩) len len), _, hrun, .inl rfl, hm, Agree.updr hob, ?_, rv_own_self, ?_⟩
          · rw [updf_append]
            simp only [updf]
            refine h1.newRow hd1 (Grow.alloc w _) (n := len) (base := 0) (xs := cells'.toList) ⟨by rw [hsize, hll], .inr ⟨w.heap.size, len, cells', rfl, Nat.zero_le _, heap_alloc_new w _, Nat.le_refl _, ?_, ?_, ?_⟩⟩ hll.symm q2 ?_
            · simp only [maxLen]
              have : len * 1 ≤ len * j.size := Nat.mul_le_mul_left _ hjs
              omega
            · simpa [hll] using hsize
            · rw [List.take_of_length_le (by rw [hsize2]; exact Nat.le_refl _)]
            · intro g hg; simp [blk] at hg; omega
          · intro k hk
            simp [AV.names] at hk; subst hk
            rw [updf_append]
            simp [updf, upd]
        · cases hr
      · cases hr
    · cases hr
  · cases hr
end Go.Mg
