/- == on structs and arrays; the operations that touch no memory, all of them. -/
import Derived.Test.YtdgbpoihgeefiaaDoorRRRMgE
import Derived.ChangeKeysEq
namespace Go.Mg
open Go.RowKit
variable {P : Program} {E : Env} {C : Ctx} {ob obr : Nat → Option Ob} {m m' : Mem} {ρ ρ' : Rho} {w : World} {o : Oper} {a : Act} {r : Res}

theorem rv0_scal {t : T} {x : Value} (ha : t.agg = false) : RV0 m ρ (.t t) x ↔ RT m t [x] := by
  simp [RV0, AV.agg, ha, RA]
theorem rv0_agg {t : T} {x : Value} (ha : t.agg = true) : RV0 m ρ (.t t) x ↔ ∃ cs, x = .agg cs.toArray ∧ RT m t cs := by
  simp [RV0, AV.agg, ha, RA]
theorem cellsOf_ok {t : Nat} {d : TyD} (h : TyOK P t d) : P.cellsOf t = d.size := by
  obtain ⟨i, hi, h1, _⟩ := h.info
  simp [Program.cellsOf, hi, h1]
theorem fits_agg {ty : Nat → Option TyD} (hty : ∀ t d, ty t = some d → TyOK P t d) {n : Nat} {x : T} {t : Nat} (h : fits ty n x t = true) : ∃ d, ty t = some d ∧ x.agg = d.d.agg := by
  cases n with
  | zero => simp [fits] at h
  | succ n =>
    cases x <;> simp only [fits] at h <;> (try (simp at h; done))
    case int k i =>
      cases hd : ty t with
      | none => simp [hd] at h
      | some d => simp [hd] at h; exact ⟨d, rfl, by simp [T.agg, h, Ty.agg]⟩
    case bool b =>
      cases hd : ty t with
      | none => simp [hd] at h
      | some d => simp [hd] at h; exact ⟨d, rfl, by simp [T.agg, h, Ty.agg]⟩
    case str b =>
      cases hd : ty t with
      | none => simp [hd] at h
      | some d => simp [hd] at h; exact ⟨d, rfl, by simp [T.agg, h, Ty.agg]⟩
    case tup l =>
      cases hd : ty t with
      | none => simp [hd] at h
      | some d =>
        simp only [hd] at h
        cases hk : d.d <;> simp [hk] at h
        exact ⟨d, rfl, by simp [T.agg, hk, Ty.agg]⟩
    case arr es k l =>
      cases hd : ty t with
      | none => simp [hd] at h
      | some d =>
        simp only [hd] at h
        cases hk : d.d <;> simp [hk] at h
        exact ⟨d, rfl, by simp [T.agg, hk, Ty.agg]⟩

mutual
theorem eq_ok {ty : Nat → Option TyD} (hty : ∀ t d, ty t = some d → TyOK P t d) : ∀ (n : Nat) (x y : T) (t : Nat) (b : Bool) (vx vy : Value) (k : Nat), fits ty n x t = true → fits ty n y t = true → eqv x y = some b → RV0 m ρ0 (.t x) vx → RV0 m' ρ0 (.t y) vy →
    (Op.equalIn (n + k) t vx vy).run P w = .ok b w
  | 0, x, y, t, b, vx, vy, k, h, _, _, _, _ => by simp [fits] at h
  | n + 1, .int k1 i1, y, t, b, vx, vy, k, h1, h2, he, hx, hy => by
    cases y <;> simp [eqv] at he
    case int k2 i2 =>
    obtain ⟨rfl, rfl⟩ := he
    simp only [fits] at h1
    cases hd : ty t with
    | none => simp [hd] at h1
    | some d =>
      simp [hd] at h1
      have := (hty t d hd).desc
      rw [h1] at this
      rw [rv0_scal rfl] at hx hy
      simp [RT] at hx hy
      subst hx; subst hy
      rw [show n + 1 + k = (n + k) + 1 by omega]
      exact run_equalIn_int w (n + k) t _ _ i1 i2 this
  | n + 1, .bool i1, y, t, b, vx, vy, k, h1, h2, he, hx, hy => by
    cases y <;> simp [eqv] at he
    case bool i2 =>
    subst he
    simp only [fits] at h1
    cases hd : ty t with
    | none => simp [hd] at h1
    | some d =>
      simp [hd] at h1
      have := (hty t d hd).desc
      rw [h1] at this
      rw [rv0_scal rfl] at hx hy
      simp [RT] at hx hy
      subst hx; subst hy
      rw [show n + 1 + k = (n + k) + 1 by omega]
      exact run_equalIn_bool' w (n + k) t i1 i2 this
  | n + 1, .str i1, y, t, b, vx, vy, k, h1, h2, he, hx, hy => by
    cases y <;> simp [eqv] at he
    case str i2 =>
    subst he
    simp only [fits] at h1
    cases hd : ty t with
    | none => simp [hd] at h1
    | some d =>
      simp [hd] at h1
      have := (hty t d hd).desc
      rw [h1] at this
      rw [rv0_scal rfl] at hx hy
      simp [RT] at hx hy
      subst hx; subst hy
      rw [show n + 1 + k = (n + k) + 1 by omega]
      exact run_equalIn_string w (n + k) t i1 i2 this
  | n + 1, .tup l, y, t, b, vx, vy, k, h1, h2, he, hx, hy => by
    cases y <;> simp [eqv] at he
    case tup r =>
    simp only [fits] at h1 h2
    cases hd : ty t with
    | none => simp [hd] at h1
    | some d =>
      simp only [hd] at h1 h2
      have hok := hty t d hd
      have hds := hok.desc
      cases hk : d.d <;> simp [hk] at h1 h2
      case struct fs =>
      rw [hk] at hds
      obtain ⟨fields, hu, hfs, hnm⟩ := hds
      have hpf : P.fieldsOf t = fields := by simp [Program.fieldsOf, hu]
      rw [rv0_agg rfl] at hx hy
      obtain ⟨cs, rfl, hx⟩ := hx
      obtain ⟨ds, rfl, hy⟩ := hy
      simp only [RT] at hx hy
      rw [show n + 1 + k = (n + k) + 1 by omega, run_equalIn_struct w (n + k) t _ _ (by rw [hpf]; exact hu) (hok.cmp h1.1).2, hpf]
      exact eqs_ok hty n l r fields.toList 0 b cs ds k hnm (by rw [hfs]; exact h1.2) (by rw [hfs]; exact h2.2) he (by simpa using hx) (by simpa using hy) (by simp) (by simp)
  | n + 1, .arr es j l, y, t, b, vx, vy, k, h1, h2, he, hx, hy => by
    cases y <;> simp [eqv] at he
    case arr es' j' r =>
    obtain ⟨⟨rfl, rfl⟩, he⟩ := he
    simp only [fits] at h1 h2
    cases hd : ty t with
    | none => simp [hd] at h1
    | some d =>
      simp only [hd] at h1 h2
      have hok := hty t d hd
      have hds := hok.desc
      cases hk : d.d <;> simp only [hk] at h1 h2 <;> (try (simp at h1; done))
      case array j2 e =>
      cases hde : ty e with
      | none => simp [hde] at h1
      | some de =>
      simp [hde] at h1 h2
      obtain ⟨⟨rfl, rfl⟩, h1⟩ := h1
      rw [hk] at hds
      rw [rv0_agg rfl] at hx hy
      obtain ⟨cs, rfl, hx⟩ := hx
      obtain ⟨ds, rfl, hy⟩ := hy
      simp only [RT] at hx hy
      obtain ⟨i, hi, _⟩ := (hty e de hde).info
      rw [show n + 1 + k = (n + k) + 1 by omega, run_equalIn_array w (n + k) _ _ hds hi, cellsOf_ok (hty e de hde)]
      have := eqa_ok hty n de e hde l r 0 b cs ds k h1 h2.2 he (by simpa using hx.2) (by simpa using hy.2) (by simp) (by simp)
      rw [List.range_eq_range', ← hx.1]
      exact this
  | n + 1, .nilp, y, t, b, vx, vy, k, h1, h2, he, hx, hy => by simp [eqv] at he
  | n + 1, .ptr _, y, t, b, vx, vy, k, h1, h2, he, hx, hy => by simp [eqv] at he
  | n + 1, .nils, y, t, b, vx, vy, k, h1, h2, he, hx, hy => by simp [eqv] at he
  | n + 1, .slc _ _, y, t, b, vx, vy, k, h1, h2, he, hx, hy => by simp [eqv] at he
  | n + 1, .fn _, y, t, b, vx, vy, k, h1, h2, he, hx, hy => by simp [eqv] at he
  | n + 1, .nilf, y, t, b, vx, vy, k, h1, h2, he, hx, hy => by simp [eqv] at he
theorem eqs_ok {ty : Nat → Option TyD} (hty : ∀ t d, ty t = some d → TyOK P t d) : ∀ (n : Nat) (l r : List T) (fs : List Field) (o : Nat) (b : Bool) (cs ds : List Value) (k : Nat), (∀ f ∈ fs, f.name ≠ "_") →
    fitsS ty n l (fs.map fun f => (f.type, f.offset)) o = true → fitsS ty n r (fs.map fun f => (f.type, f.offset)) o = true → eqvs l r = some b → RTs m l (cs.drop o) → RTs m' r (ds.drop o) → o ≤ cs.length → o ≤ ds.length →
    (Op.eqFields (n + k) cs.toArray ds.toArray fs).run P w = .ok b w
  | n, [], r, [], o, b, cs, ds, k, _, _, _, he, _, _, _, _ => by
    cases r <;> simp [eqvs] at he
    subst he
    simp [Op.eqFields]
  | n, [], r, f :: fs, o, b, cs, ds, k, _, h1, _, _, _, _, _, _ => by simp [fitsS] at h1
  | n, x :: l, r, [], o, b, cs, ds, k, _, h1, _, _, _, _, _, _ => by simp [fitsS] at h1
  | n, x :: l, [], f :: fs, o, b, cs, ds, k, _, _, _, he, _, _, _, _ => by simp [eqvs] at he
  | n, x :: l, y :: r, f :: fs, o, b, cs, ds, k, hnm, h1, h2, he, hx, hy, hl1, hl2 => by
    simp only [List.map_cons, fitsS, Bool.and_eq_true, beq_iff_eq] at h1 h2
    obtain ⟨⟨⟨e1, z1⟩, f1⟩, g1⟩ := h1
    obtain ⟨⟨⟨e2, z2⟩, f2⟩, g2⟩ := h2
    simp only [eqvs] at he
    cases hb1 : eqv x y with
    | none => simp [hb1] at he
    | some b1 =>
      cases hb2 : eqvs l r with
      | none => simp [hb1, hb2] at he
      | some b2 =>
        simp [hb1, hb2] at he
        simp only [RTs] at hx hy
        obtain ⟨c1, d1, q1, x1, x2⟩ := hx
        obtain ⟨c2, d2, q2, y1, y2⟩ := hy
        obtain ⟨dd, hdd, hag⟩ := fits_agg hty f1
        obtain ⟨dd', hdd', hag'⟩ := fits_agg hty f2
        rw [hdd] at hdd'; injection hdd' with hdd'; subst hdd'
        have l1 := RT.len x c1 x1
        have l2 := RT.len y c2 y1
        have hsx : x.size = dd.size := by simp [hdd] at z1; exact z1.symm
        have hsy : y.size = dd.size := by simp [hdd] at z2; exact z2.symm
        have hc1 : (cs.drop f.offset).take dd.size = c1 := by rw [← e1, q1, ← hsx, ← l1, List.take_left]
        have hc2 : (ds.drop f.offset).take dd.size = c2 := by rw [← e2, q2, ← hsy, ← l2, List.take_left]
        have hn1 := congrArg List.length q1
        have hn2 := congrArg List.length q2
        simp only [List.length_drop, List.length_append] at hn1 hn2
        obtain ⟨vx, p1, rv1⟩ := run_part_at (P := P) (m := m) (ρ := ρ0) (w := w) (hty _ _ hdd) (cs := cs) (off := f.offset) (v := .t x) (by rw [hc1]; simpa [RA] using x1) (by omega) (by simpa [AV.agg] using hag) (by simpa [AV.size] using hsx)
        obtain ⟨vy, p2, rv2⟩ := run_part_at (P := P) (m := m') (ρ := ρ0) (w := w) (hty _ _ hdd) (cs := ds) (off := f.offset) (v := .t y) (by rw [hc2]; simpa [RA] using y1) (by omega) (by simpa [AV.agg] using hag') (by simpa [AV.size] using hsy)
        have hq := eq_ok hty n x y f.type b1 vx vy k f1 f2 hb1 rv1 rv2
        have hrest := eqs_ok hty n l r fs (o + x.size) b2 cs ds k (fun g hg => hnm g (by simp [hg])) g1 (by rw [hsx, ← hsy]; exact g2) hb2
          (by rw [← List.drop_drop, q1, ← l1, List.drop_left]; exact x2) (by rw [← List.drop_drop, q2, hsx, ← hsy, ← l2, List.drop_left]; exact y2) (by omega) (by omega)
        simp only [Op.eqFields]
        rw [if_pos (hnm f (by simp))]
        simp only [Sem.run_bind, p1, p2, hq, Result.andThen_ok]
        cases b1
        · simp at he; subst he; simp
        · simp at he; subst he; simpa using hrest
theorem eqa_ok {ty : Nat → Option TyD} (hty : ∀ t d, ty t = some d → TyOK P t d) : ∀ (n : Nat) (de : TyD) (e : Nat) (_ : ty e = some de) (l r : List T) (i : Nat) (b : Bool) (cs ds : List Value) (k : Nat),
    fitsA ty n de.size l e = true → fitsA ty n de.size r e = true → eqvs l r = some b → REs m de.size l (cs.drop (i * de.size)) → REs m' de.size r (ds.drop (i * de.size)) → i * de.size ≤ cs.length → i * de.size ≤ ds.length →
    (Op.eqItems (n + k) e de.size cs.toArray ds.toArray (List.range' i l.length)).run P w = .ok b w
  | n, de, e, hde, [], r, i, b, cs, ds, k, _, _, he, _, _, _, _ => by
    cases r <;> simp [eqvs] at he
    subst he
    simp [Op.eqItems]
  | n, de, e, hde, x :: l, [], i, b, cs, ds, k, _, _, he, _, _, _, _ => by simp [eqvs] at he
  | n, de, e, hde, x :: l, y :: r, i, b, cs, ds, k, h1, h2, he, hx, hy, hl1, hl2 => by
    simp only [fitsA, Bool.and_eq_true] at h1 h2
    obtain ⟨f1, g1⟩ := h1
    obtain ⟨f2, g2⟩ := h2
    simp only [eqvs] at he
    cases hb1 : eqv x y with
    | none => simp [hb1] at he
    | some b1 =>
      cases hb2 : eqvs l r with
      | none => simp [hb1, hb2] at he
      | some b2 =>
        simp [hb1, hb2] at he
        simp only [REs] at hx hy
        obtain ⟨c1, d1, q1, n1, x1, x2⟩ := hx
        obtain ⟨c2, d2, q2, n2, y1, y2⟩ := hy
        obtain ⟨dd, hdd, hag⟩ := fits_agg hty f1
        obtain ⟨dd', hdd', hag'⟩ := fits_agg hty f2
        rw [hde] at hdd hdd'; injection hdd with hdd; injection hdd' with hdd'; subst hdd; subst hdd'
        have l1 := RT.len x c1 x1
        have l2 := RT.len y c2 y1
        have hc1 : (cs.drop (i * de.size)).take de.size = c1 := by rw [q1, ← n1, List.take_left]
        have hc2 : (ds.drop (i * de.size)).take de.size = c2 := by rw [q2, ← n2, List.take_left]
        have hn1 := congrArg List.length q1
        have hn2 := congrArg List.length q2
        simp only [List.length_drop, List.length_append] at hn1 hn2
        obtain ⟨vx, p1, rv1⟩ := run_part_at (P := P) (m := m) (ρ := ρ0) (w := w) (hty _ _ hde) (cs := cs) (off := i * de.size) (v := .t x) (by rw [hc1]; simpa [RA] using x1) (by omega) (by simpa [AV.agg] using hag) (by simp [AV.size]; omega)
        obtain ⟨vy, p2, rv2⟩ := run_part_at (P := P) (m := m') (ρ := ρ0) (w := w) (hty _ _ hde) (cs := ds) (off := i * de.size) (v := .t y) (by rw [hc2]; simpa [RA] using y1) (by omega) (by simpa [AV.agg] using hag') (by simp [AV.size]; omega)
        have hq := eq_ok hty n x y e b1 vx vy k f1 f2 hb1 rv1 rv2
        have hstep : (i + 1) * de.size = i * de.size + de.size := by rw [Nat.add_mul]; omega
        have hrest := eqa_ok hty n de e hde l r (i + 1) b2 cs ds k g1 g2 hb2
          (by rw [hstep, ← List.drop_drop, q1, List.drop_left' n1]; exact x2) (by rw [hstep, ← List.drop_drop, q2, List.drop_left' n2]; exact y2) (by omega) (by omega)
        simp only [List.length_cons, List.range'_succ, Op.eqItems, Sem.run_bind, p1, p2, hq, Result.andThen_ok]
        cases b1
        · simp at he; subst he; simp
        · simp at he; subst he; simpa using hrest
end
end Go.Mg
