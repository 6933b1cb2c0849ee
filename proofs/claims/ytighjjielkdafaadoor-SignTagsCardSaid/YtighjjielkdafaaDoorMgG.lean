/- The operations that touch no memory. -/
import Derived.Test.YtighjjielkdafaaDoorMgF
namespace Go.Mg
open Go.RowKit
variable {P : Program} {E : Env} {C : Ctx} {ob obr : Nat → Option Ob} {m m' : Mem} {ρ ρ' : Rho} {w : World} {o : Oper} {a : Act} {r : Res}

theorem run_guard_plain (op : BinOp) (ty : TypeId) (x y : Operand) (a b : Value) (h : (∀ cs, a ≠ .agg cs) ∧ a ≠ .nilIface) : (eqGuard op ty x y a b).run P w = .ok () w := by
  unfold eqGuard
  cases a <;> first | (exact absurd rfl (h.1 _)) | (exact absurd rfl h.2) | (cases op <;> rfl)
theorem run_equalIn_nil (d : Nat) {ty e : TypeId} (hu : P.underlying ty = some (.pointer e)) (q : Option Addr) : (Op.equalIn (d + 1) ty (.pointer none) (.pointer q)).run P w = .ok q.isNone w := by
  cases q <;> simp [Op.equalIn, run_underlying hu]
theorem run_equalIn_nil' (d : Nat) {ty e : TypeId} (hu : P.underlying ty = some (.pointer e)) (a : Addr) : (Op.equalIn (d + 1) ty (.pointer (some a)) (.pointer none)).run P w = .ok false w := by
  simp [Op.equalIn, run_underlying hu]
theorem key_bin (hE : EnvOK P E) {op : BinOp} {ty : TypeId} {x y : Operand} {vx vy : AV} {ax ay : Value} {t : T} (hx : RV m ρ vx ax) (hy : RV m ρ vy ay) (ht : binOp E op ty vx vy = some t) :
    ∃ v, (eqGuard op ty x y ax ay).run P w = .ok () w ∧ (Go.binOp op ty ax ay).run P w = .ok v w ∧ RV m ρ (.t t) v := by
  unfold binOp at ht
  split at ht
  · -- numbers
    rename_i k i k' j
    have ex := rv_int hx
    have ey := rv_int hy
    subst ex; subst ey
    have hg := run_guard_plain (P := P) (w := w) op ty x y (.int k i) (.int k' j) (by simp)
    split at ht
    · obtain ⟨v, h1, h2⟩ := shift_run (P := P) (w := w) (m := m) (ρ := ρ) (k' := k') ht ty
      exact ⟨v, hg, h1, h2⟩
    · obtain ⟨v, h1, h2⟩ := shift_run (P := P) (w := w) (m := m) (ρ := ρ) (k' := k') ht ty
      exact ⟨v, hg, h1, h2⟩
    · rename_i hs1 hs2
      split at ht
      · rename_i e; subst e
        obtain ⟨v, h1, h2⟩ := intOp_run (P := P) (w := w) (m := m) (ρ := ρ) ht hs1 hs2 ty
        exact ⟨v, hg, h1, h2⟩
      · cases ht
  · rename_i p q
    have ex := rv_bool hx
    have ey := rv_bool hy
    subst ex; subst ey
    split at ht
    · rename_i hty
      obtain ⟨i, hi, hd⟩ := isTy_ok hE hty
      have hu := hi.desc; rw [hd] at hu
      obtain ⟨v, h1, h2⟩ := eqRun (P := P) (w := w) (m := m) (ρ := ρ) (ty := ty) (x := .bool p) (y := .bool q) ht (by simp) (by simp) (by simp) (by simp) (run_equalIn_bool' w 9999 ty p q hu)
      exact ⟨v, run_guard_plain op ty x y _ _ (by simp), h1, h2⟩
    · cases ht
  · rename_i p q
    have ex := rv_str hx
    have ey := rv_str hy
    subst ex; subst ey
    have hg := run_guard_plain (P := P) (w := w) op ty x y (.string p) (.string q) (by simp)
    rcases eqOp_ok ht with ⟨rfl, rfl⟩ | ⟨rfl, rfl⟩
    · exact ⟨_, hg, rfl, (rv_scal rfl).2 (by simp [RT])⟩
    · exact ⟨_, hg, rfl, (rv_scal rfl).2 (by simp [RT])⟩
  · rename_i p q
    split at ht
    · rename_i hc
      simp only [Bool.and_eq_true] at hc
      obtain ⟨⟨f1, f2⟩, hcmp⟩ := hc
      cases he : eqvs p q with
      | none => simp [he] at ht
      | some b =>
        simp only [he, Option.bind_some] at ht
        have hx' : RV0 m ρ0 (.t (.tup p)) ax := rv0_t hx
        have hy' : RV0 m ρ0 (.t (.tup q)) ay := rv0_t hy
        have hq := eq_ok (P := P) (w := w) hE.ty 20 (.tup p) (.tup q) ty b ax ay 9980 f1 f2 (by simpa [eqv] using he) hx' hy'
        obtain ⟨cs, rfl, _⟩ := (rv0_agg rfl).1 hx'
        obtain ⟨ds, rfl, _⟩ := (rv0_agg rfl).1 hy'
        cases hd : E.ty ty with
        | none => simp [hd] at hcmp
        | some d =>
          simp [hd] at hcmp
          obtain ⟨v, h1, h2⟩ := eqRun (P := P) (w := w) (m := m) (ρ := ρ) (ty := ty) (x := .agg cs.toArray) (y := .agg ds.toArray) ht (by simp) (by simp) (by simp) (by simp) hq
          exact ⟨v, run_eqGuard_agg w op ty x y _ _ ((hE.ty _ _ hd).cmp hcmp).1, h1, h2⟩
    · cases ht
  · rename_i es n p es' n' q
    split at ht
    · rename_i hc
      simp only [Bool.and_eq_true] at hc
      obtain ⟨⟨f1, f2⟩, hcmp⟩ := hc
      cases he : eqv (.arr es n p) (.arr es' n' q) with
      | none => simp [he] at ht
      | some b =>
        simp only [he, Option.bind_some] at ht
        have hx' : RV0 m ρ0 (.t (.arr es n p)) ax := rv0_t hx
        have hy' : RV0 m ρ0 (.t (.arr es' n' q)) ay := rv0_t hy
        have hq := eq_ok (P := P) (w := w) hE.ty 20 (.arr es n p) (.arr es' n' q) ty b ax ay 9980 f1 f2 he hx' hy'
        obtain ⟨cs, rfl, _⟩ := (rv0_agg rfl).1 hx'
        obtain ⟨ds, rfl, _⟩ := (rv0_agg rfl).1 hy'
        cases hd : E.ty ty with
        | none => simp [hd] at hcmp
        | some d =>
          simp [hd] at hcmp
          obtain ⟨v, h1, h2⟩ := eqRun (P := P) (w := w) (m := m) (ρ := ρ) (ty := ty) (x := .agg cs.toArray) (y := .agg ds.toArray) ht (by simp) (by simp) (by simp) (by simp) hq
          exact ⟨v, run_eqGuard_agg w op ty x y _ _ ((hE.ty _ _ hd).cmp hcmp).1, h1, h2⟩
    · cases ht
  · split at ht
    · rename_i bx by_ hbx hby
      split at ht
      · rename_i hc
        simp only [Bool.and_eq_true, Bool.or_eq_true] at hc
        obtain ⟨hpt, hor⟩ := hc
        have hu : ∃ e, P.underlying ty = some (.pointer e) := by
          unfold isPtrTy at hpt
          split at hpt
          · rename_i i hi
            split at hpt
            · rename_i e he
              have := (hE.ty _ _ hi).desc
              rw [he] at this
              exact ⟨e, this⟩
            · cases hpt
          · cases hpt
        obtain ⟨e, hu⟩ := hu
        have hnx := nilOf_ok hbx hx
        have hny := nilOf_ok hby hy
        have heq : (Op.equal ty ax ay).run P w = .ok (bx && by_) w := by
          rcases hnx with ⟨rfl, rfl⟩ | ⟨rfl, a1, rfl⟩ <;> rcases hny with ⟨rfl, rfl⟩ | ⟨rfl, a2, rfl⟩
          · exact run_equalIn_nil 9999 hu none
          · exact run_equalIn_nil 9999 hu (some a2)
          · exact run_equalIn_nil' 9999 hu a1
          · simp at hor
        have hp : ∃ q, ax = .pointer q := by rcases hnx with ⟨_, rfl⟩ | ⟨_, a1, rfl⟩ <;> exact ⟨_, rfl⟩
        obtain ⟨q, rfl⟩ := hp
        obtain ⟨v, h1, h2⟩ := eqRun (P := P) (w := w) (m := m) (ρ := ρ) ht (by simp) (by simp) (by simp) (by simp) heq
        exact ⟨v, run_guard_plain op ty x y _ _ (by simp), h1, h2⟩
      · cases ht
    · cases ht
theorem opBin_ok (hE : EnvOK P E) (h : MS C ob m ρ w) {op : BinOp} {ty yt : TypeId} {x y : Operand} (ho : o.op = .binOp op ty x y yt) {vx vy : AV} (hx : OpdOK ob m ρ vx (a.eval x)) (hy : OpdOK ob m ρ vy (a.eval y))
    (hr : opBin E op ty [vx, vy] = some r) : Runs P C ob m ρ w o a r := by
  simp only [opBin, Option.map_eq_some_iff] at hr
  obtain ⟨t, ht, rfl⟩ := hr
  obtain ⟨v, h1, h2, h3⟩ := key_bin (P := P) (w := w) (x := x) (y := y) hE hx.rv hy.rv ht
  exact .pure h (x := v) (by simp [execOp, ho, h1, h2]) h3 (by simp [AV.names])
theorem opUn_ok (h : MS C ob m ρ w) {op : UnOp} {ty : TypeId} {x : Operand} (ho : o.op = .unOp op ty x) {vx : AV} (hx : OpdOK ob m ρ vx (a.eval x)) (hr : opUn op [vx] = some r) : Runs P C ob m ρ w o a r := by
  simp only [opUn, Option.map_eq_some_iff] at hr
  obtain ⟨t, ht, rfl⟩ := hr
  unfold unOp at ht
  split at ht
  · rename_i k n
    have ex := rv_int hx.rv
    cases op <;> simp at ht <;> subst ht
    · exact .pure h (x := .int k (k.wrap (0 - n))) (by simp [execOp, ho, ex, Op.unary, Op.intArith]) ((rv_scal rfl).2 (by simp [RT])) (by simp [AV.names])
    · exact .pure h (x := .int k (bits .xor k (if k.signed then -1 else k.max) n)) (by simp [execOp, ho, ex, Op.unary, Op.intBits, bits]) ((rv_scal rfl).2 (by simp [RT])) (by simp [AV.names])
  · rename_i b
    have ex := rv_bool hx.rv
    cases op <;> simp at ht
    subst ht
    exact .pure h (x := .bool !b) (by simp [execOp, ho, ex, Op.unary]) ((rv_scal rfl).2 (by simp [RT])) (by simp [AV.names])
  · cases ht
theorem opNil_ok (h : MS C ob m ρ w) {x : Operand} (ho : o.op = .nilCheck x) {vx : AV} (hx : OpdOK ob m ρ vx (a.eval x)) (hr : opNil [vx] = some r) : Runs P C ob m ρ w o a r := by
  unfold opNil at hr
  have hrv := hx.rv
  split at hr
  · rename_i n p off e
    simp at e; subst e
    simp at hr; subst hr
    simp only [RV, RV0, AV.agg, RA] at hrv
    obtain ⟨g, hg, e⟩ := by simpa using hrv
    exact .pure h (x := a.eval x) (by simp [execOp, ho, e]) hx.rv hx.names
  · rename_i u e
    simp at e; subst e
    simp at hr; subst hr
    rw [rv_scal rfl] at hrv
    simp only [RT] at hrv
    obtain ⟨b, of, us, e, _⟩ := hrv
    simp at e
    exact .pure h (x := a.eval x) (by simp [execOp, ho, e]) hx.rv hx.names
  · cases hr
theorem fieldOf_ok (hE : EnvOK P E) {s f fo : Nat} {j : TyD} (h : fieldOf E s f = some (j, fo)) : ∃ (fields : Array Field) (fd : Field), P.underlying s = some (.struct fields) ∧ fields[f]? = some fd ∧ fd.offset = fo ∧ TyOK P fd.type j := by
  unfold fieldOf at h
  split at h
  · rename_i i hi
    split at h
    · rename_i fs hd
      split at h
      · rename_i ft fo' hf
        split at h
        · rename_i j' hj
          simp at h
          obtain ⟨rfl, rfl⟩ := h
          have := (hE.ty _ _ hi).desc
          rw [hd] at this
          obtain ⟨fields, hu, hfs, _⟩ := this
          rw [← hfs] at hf
          simp only [List.getElem?_map, Option.map_eq_some_iff, Prod.mk.injEq] at hf
          obtain ⟨fd, h1, h2, h3⟩ := hf
          exact ⟨fields, fd, hu, by simpa using h1, h3, by rw [h2]; exact hE.ty _ _ hj⟩
        · cases h
      · cases h
    · cases h
  · cases h
theorem rv_agg {v : AV} {x : Value} (hg : v.agg = true) (h : RV m ρ v x) : ∃ cs, x = .agg cs.toArray ∧ RA m ρ v cs := by
  have : RV0 m ρ v x := by
    cases v with
    | bad => simp [AV.agg] at hg
    | many l => simp [AV.agg] at hg
    | _ => exact h
  unfold RV0 at this
  rwa [if_pos hg] at this
theorem names_of_kid : ∀ (l : List AV) (i : Nat) (v : AV), l[i]? = some v → ∀ n ∈ v.names, n ∈ AV.namesL l
  | [], _, _, h => by simp at h
  | x :: l, 0, v, h => by simp at h; subst h; intro n hn; simp [AV.namesL, hn]
  | x :: l, i + 1, v, h => by intro n hn; simp [AV.namesL, names_of_kid l i v (by simpa using h) n hn]
theorem look_names : ∀ (p : List Nat) (v x : AV) (o : Nat), look v p = some (x, o) → ∀ n ∈ x.names, n ∈ v.names
  | [], v, x, o, h => by simp [look] at h; obtain ⟨rfl, _⟩ := h; exact fun _ hn => hn
  | i :: p, v, x, o, h => by
    cases v with
    | tup l =>
      simp only [look] at h
      cases hi : l[i]? with
      | none => simp [hi] at h
      | some k =>
        simp only [hi, Option.map_eq_some_iff] at h
        obtain ⟨⟨y, o'⟩, ho', e⟩ := h
        simp only [Prod.mk.injEq] at e
        obtain ⟨rfl, rfl⟩ := e
        intro n hn
        simp only [AV.names]
        exact names_of_kid l i k hi n (look_names p k _ o' ho' n hn)
    | t u =>
      cases u with
      | tup l =>
        simp only [look] at h
        cases hi : l[i]? with
        | none => simp [hi] at h
        | some k =>
          simp only [hi, Option.map_eq_some_iff] at h
          obtain ⟨⟨y, o'⟩, ho', e⟩ := h
          simp only [Prod.mk.injEq] at e
          obtain ⟨rfl, rfl⟩ := e
          intro n hn
          have := look_names p (.t k) _ o' ho' n hn
          simp [AV.names] at this
      | arr es n' l =>
        simp only [look] at h
        cases hi : l[i]? with
        | none => simp [hi] at h
        | some k =>
          simp only [hi, Option.map_eq_some_iff] at h
          obtain ⟨⟨y, o'⟩, ho', e⟩ := h
          simp only [Prod.mk.injEq] at e
          obtain ⟨rfl, rfl⟩ := e
          intro n hn
          have := look_names p (.t k) _ o' ho' n hn
          simp [AV.names] at this
      | _ => simp [look] at h
    | _ => simp [look] at h
theorem opField_ok (hE : EnvOK P E) (h : MS C ob m ρ w) {s f : Nat} {x : Operand} (ho : o.op = .field s x f) {vx : AV} (hx : OpdOK ob m ρ vx (a.eval x)) (hr : opField E s f [vx] = some r) : Runs P C ob m ρ w o a r := by
  simp only [opField] at hr
  split at hr
  · rename_i j fo y o' hf hl
    split at hr
    · rename_i hc
      obtain ⟨rfl, hs, ha, hag, hgd⟩ := hc
      simp at hr; subst hr
      obtain ⟨fields, fd, hu, hfd, rfl, hty⟩ := fieldOf_ok hE hf
      obtain ⟨cs, hcs, hra⟩ := rv_agg hag hx.rv
      obtain ⟨h1, h2⟩ := look_RA _ _ _ _ _ hra hl
      rw [hs] at h1 h2
      obtain ⟨v, hp, hv⟩ := run_part_at (P := P) (w := w) hty h1 h2 ha hs
      refine .pure h (x := v) ?_ (RV_of_good hv) (fun n hn => hx.names n (look_names _ _ _ _ hl n hn))
      simp [execOp, ho, Instr.field, run_underlying hu, hfd, hcs, asAgg, hp]
    · cases hr
  · cases hr
theorem opIndex_ok (hE : EnvOK P E) (h : MS C ob m ρ w) {ty : Nat} {x i : Operand} (ho : o.op = .index ty x i) {vx vi : AV} (hx : OpdOK ob m ρ vx (a.eval x)) (hi : OpdOK ob m ρ vi (a.eval i)) (hr : opIndex E ty [vx, vi] = some r) : Runs P C ob m ρ w o a r := by
  unfold opIndex at hr
  split at hr
  · rename_i es len l k n e
    simp at e
    obtain ⟨rfl, rfl⟩ := e
    split at hr
    · rename_i d hd
      split at hr
      · rename_i len' et hk
        split at hr
        · rename_i j u hj hu
          split at hr
          · rename_i hc
            obtain ⟨h0, h1, rfl, rfl, hag⟩ := hc
            simp at hr; subst hr
            have hdesc := (hE.ty _ _ hd).desc
            rw [hk] at hdesc
            have ei := rv_int hi.rv
            obtain ⟨cs, hcs, hra⟩ := rv_agg rfl hx.rv
            simp only [RA, RT] at hra
            obtain ⟨q1, q2⟩ := REs.at_ hra.2 hu
            have hsz := RT.len u _ q1
            simp at hsz
            obtain ⟨v, hp, hv⟩ := run_part_at (P := P) (m := m) (ρ := ρ) (w := w) (hE.ty _ _ hj) (cs := cs) (off := n.toNat * j.size) (v := .t u) (by simpa [RA] using q1) q2 (by simpa [AV.agg] using hag) (by simp [AV.size]; omega)
            refine .pure h (x := v) ?_ (RV_of_good hv) (by simp [AV.names])
            simp [execOp, ho, Instr.index, ei, asIntOf, run_underlying hdesc, hcs, h0, h1, (hE.ty _ _ hj).sizeOf w, hp]
          · cases hr
        · cases hr
      · cases hr
    · cases hr
  · rename_i s k n e
    simp at e
    obtain ⟨rfl, rfl⟩ := e
    split at hr
    · rename_i d hd
      split at hr
      · rename_i b hk hb
        split at hr
        · rename_i h0
          simp at hr; subst hr
          have hdesc := (hE.ty _ _ hd).desc
          rw [hk] at hdesc
          have ei := rv_int hi.rv
          have es := rv_str hx.rv
          have hb' : s[n.toNat]? = some b := hb
          exact .pure h (x := .int .u8 b.toNat) (by simp [execOp, ho, Instr.index, ei, es, asIntOf, run_underlying hdesc, h0, hb']) ((rv_scal rfl).2 (by simp [RT])) (by simp [AV.names])
        · cases hr
      · cases hr
    · cases hr
  · cases hr
theorem RVs.at_ : ∀ {l : List AV} {xs : List Value} (_ : RVs m ρ l xs) {i : Nat} {v : AV} (_ : l[i]? = some v), ∃ x, xs[i]? = some x ∧ RV0 m ρ v x
  | [], _, _, _, _, h => by simp at h
  | u :: l, _, h, 0, v, hi => by
    simp only [RVs] at h
    obtain ⟨x, r, rfl, a, _⟩ := h
    simp at hi; subst hi
    exact ⟨x, rfl, a⟩
  | u :: l, _, h, i + 1, v, hi => by
    simp only [RVs] at h
    obtain ⟨x, r, rfl, _, b⟩ := h
    obtain ⟨y, h1, h2⟩ := RVs.at_ b (i := i) (v := v) (by simpa using hi)
    exact ⟨y, by simpa using h1, h2⟩
theorem opExtract_ok (h : MS C ob m ρ w) {k : Nat} {x : Operand} (ho : o.op = .extract x k) {vx : AV} (hx : OpdOK ob m ρ vx (a.eval x)) (hr : opExtract k [vx] = some r) : Runs P C ob m ρ w o a r := by
  unfold opExtract at hr
  split at hr
  · rename_i l e
    simp at e; subst e
    simp only [Option.map_eq_some_iff] at hr
    obtain ⟨v, hv, rfl⟩ := hr
    have hrv := hx.rv
    simp only [RV] at hrv
    obtain ⟨xs, hxs, hl⟩ := hrv
    obtain ⟨y, hy, hr0⟩ := RVs.at_ hl hv
    refine .pure h (x := y) ?_ (RV_of_good hr0) (fun n hn => hx.names n (by simp only [AV.names]; exact names_of_kid l k v hv n hn))
    simp [execOp, ho, Instr.extract, hxs, hy]
  · cases hr
end Go.Mg
