/- The operations that read memory, make variables, store. -/
import Derived.Test.YtighjjielkdafaaDoorMgG
namespace Go.Mg
open Go.RowKit
variable {P : Program} {E : Env} {C : Ctx} {ob obr : Nat → Option Ob} {m m' : Mem} {ρ ρ' : Rho} {w : World} {o : Oper} {a : Act} {r : Res}

/-- What the evaluator sees of the objects. -/
def SubO (obr ob : Nat → Option Ob) : Prop := ∀ n o, obr n = some o → ob n = some o
theorem Ob.look_OC {b : Ob} {cur : List Value} (h : OC m ρ b cur) {p : List Nat} {x : AV} {off : Nat} (hl : b.look p = some (x, off)) : RA m ρ x ((cur.drop off).take x.size) ∧ off + x.size ≤ cur.length := by
  cases b with
  | var sh ty c => exact look_RA p c cur x off h hl
  | row sh ty es l =>
    cases p with
    | nil => simp [Ob.look] at hl
    | cons i p =>
      simp only [Ob.look] at hl
      cases hi : l[i]? with
      | none => simp [hi] at hl
      | some k =>
        simp only [hi, Option.map_eq_some_iff] at hl
        obtain ⟨⟨y, o'⟩, ho', e⟩ := hl
        simp only [Prod.mk.injEq] at e
        obtain ⟨rfl, rfl⟩ := e
        obtain ⟨h1, h2⟩ := h
        obtain ⟨q1, q2⟩ := REs.at_ h1 hi
        obtain ⟨h3, h4⟩ := look_RA p (.t k) _ _ o' (by simpa [RA] using q1) ho'
        have hlt : i < l.length := (List.getElem?_eq_some_iff.1 hi).1
        have hmul : i * es + es ≤ l.length * es := by
          have := Nat.mul_le_mul_right es (show i + 1 ≤ l.length by omega)
          rw [Nat.add_mul] at this; omega
        simp only [List.length_take, List.length_drop] at h4
        rw [cut_cut _ _ _ _ _ (by omega)] at h3
        rw [List.drop_take, List.take_take] at h3
        rw [Nat.min_eq_left (by omega)] at h3
        exact ⟨h3, by omega⟩
  | gone => simp [OC] at h
theorem Ob.look_names {b : Ob} {p : List Nat} {x : AV} {off : Nat} (hl : b.look p = some (x, off)) : ∀ n ∈ x.names, n ∈ b.names := by
  cases b with
  | var sh ty c => exact Mg.look_names p c x off hl
  | row sh ty es l =>
    cases p with
    | nil => simp [Ob.look] at hl
    | cons i p =>
      simp only [Ob.look] at hl
      cases hi : l[i]? with
      | none => simp [hi] at hl
      | some k =>
        simp only [hi, Option.map_eq_some_iff] at hl
        obtain ⟨⟨y, o'⟩, ho', e⟩ := hl
        simp only [Prod.mk.injEq] at e
        obtain ⟨rfl, rfl⟩ := e
        intro n hn
        have := Mg.look_names p (.t k) _ o' ho' n hn
        simp [AV.names] at this
  | gone => simp [Ob.look] at hl
theorem elemsAt_OC {b : Ob} {cur : List Value} (h : OC m ρ b cur) {p : List Nat} {off es lo : Nat} {l : List T} (hl : b.elemsAt p off es lo = some l) :
    ∃ o0, off = o0 + lo * es ∧ REs m es l ((cur.drop o0).take (l.length * es)) ∧ o0 + l.length * es ≤ cur.length := by
  cases b with
  | var sh ty c =>
    simp only [Ob.elemsAt] at hl
    split at hl
    · rename_i es' n l' o' hk
      split at hl
      · rename_i hc
        obtain ⟨rfl, rfl⟩ := hc
        simp at hl; subst hl
        obtain ⟨h1, h2⟩ := look_RA p c cur _ o' h hk
        simp only [RA, RT] at h1
        obtain ⟨rfl, h1⟩ := h1
        simp only [AV.size, T.size] at h1 h2
        exact ⟨o', rfl, h1, h2⟩
      · cases hl
    · cases hl
  | row sh ty es' l' =>
    cases p with
    | nil =>
      simp only [Ob.elemsAt] at hl
      split at hl
      · rename_i hc
        obtain ⟨rfl, rfl⟩ := hc
        simp at hl; subst hl
        exact ⟨0, by simp, by simpa using h.1, by simpa using h.2⟩
      · cases hl
    | cons i p => simp [Ob.elemsAt] at hl
  | gone => simp [OC] at h

/-- The elements of a slice, in the world. -/
theorem elems_ok (h : MS C ob m ρ w) (hs : SubO obr ob) {v : AV} {x : Value} (hv : RV m ρ v x) {l : List T} (he : elemsOf obr v = some l) {es : Nat} (hes : esOf obr es v = true) :
    ∃ A c, x = .slice A l.length c ∧ l.length ≤ c ∧ (l = [] ∨ ∃ b of us, A = some ⟨b, of, none⟩ ∧ REs m es l us ∧ w.rangeAt b of us) := by
  unfold elemsOf at he
  split at he
  · simp at he; subst he
    rw [rv_scal rfl] at hv
    simp [RT] at hv
    exact ⟨none, 0, by simpa using hv, by simp, .inl rfl⟩
  · rename_i es' l'
    simp at he; subst he
    rw [rv_scal rfl] at hv
    simp only [RT] at hv
    simp [esOf] at hes; subst hes
    obtain ⟨A, c, e, hc, hcase⟩ := hv
    simp at e
    refine ⟨A, c, e, hc, hcase.imp id ?_⟩
    rintro ⟨b, of, us, rfl, hr, hat⟩
    exact ⟨b, of, us, rfl, hr, fun j u hu => h.mem _ _ _ (hat j u hu)⟩
  · rename_i es' l'
    simp at he; subst he
    simp only [RV, RV0, AV.agg, RA] at hv
    simp [esOf] at hes; subst hes
    obtain ⟨A, e, hcase⟩ := by simpa using hv
    refine ⟨A, _, e, Nat.le_refl _, hcase.imp id ?_⟩
    rintro ⟨b, of, rfl, us, hr, hat⟩
    exact ⟨b, of, us, rfl, hr, fun j u hu => h.mem _ _ _ (hat j u hu)⟩
  · rename_i n
    split at he
    · rename_i sh ty es' l' hn
      simp at he; subst he
      simp [esOf, hn] at hes; subst hes
      simp only [RV, RV0, AV.agg, RA] at hv
      have hv' : x = ρ n := by simpa using hv
      subst hv'
      rcases h.objs n _ (hs n _ hn) with ⟨e, rfl⟩ | ⟨g, cap, cur, e, hh, h1, h2, h3, h4⟩
      · exact ⟨none, 0, by simpa using e, by simp, .inl rfl⟩
      · refine ⟨_, cap, e, h1, .inr ⟨g, 0, _, rfl, h4, fun j u hu => ?_⟩⟩
        rw [Nat.zero_add, cell_of_row w g j cur ty (0, 0) hh]
        rw [List.getElem?_take] at hu
        split at hu
        · simpa using hu
        · cases hu
    · cases he
  · rename_i n p off es' lo len
    split at he
    · rename_i b hn
      split at he
      · rename_i ls hls
        split at he
        · rename_i hlen
          simp at he; subst he
          simp [esOf] at hes; subst hes
          simp only [RV, RV0, AV.agg, RA] at hv
          obtain ⟨A, c, e, hc, hcase⟩ := by simpa using hv
          have hll : ((ls.drop lo).take len).length = len := by simp; omega
          refine ⟨A, c, by rw [hll]; exact e, by rw [hll]; exact hc, ?_⟩
          rcases hcase with rfl | ⟨g, hg, rfl⟩
          · left; simp
          · right
            have hl : b.live = true := by
              cases b <;> simp [Ob.elemsAt, Ob.live] at hls ⊢
            obtain ⟨cur, t, hh, hoc⟩ := (h.objs n b (hs n b hn)).view hl hg
            obtain ⟨o0, rfl, hre, hfit⟩ := elemsAt_OC hoc hls
            refine ⟨g, _, _, rfl, (hre.drop lo).take len, fun j u hu => ?_⟩
            rw [cell_of_row w g _ cur t (0, 0) hh]
            rw [List.getElem?_take] at hu
            split at hu
            · rw [List.getElem?_drop, List.getElem?_take] at hu
              split at hu
              · rw [List.getElem?_drop] at hu
                rw [← hu, Array.getElem?_toList]
                congr 1; omega
              · cases hu
            · cases hu
        · cases he
      · cases he
    · cases he
  · cases he

/-- A variable is read. -/
theorem run_loadAt {ty : Nat} {i : TyD} (hi : TyOK P ty i) {b of : Nat} {cs : List Value} {x : AV} (hc : w.rangeAt b of cs) (hr : RA m ρ x cs) (hs : x.size = i.size) (ha : x.agg = i.d.agg) :
    ∃ v, (Instr.loadAt ty (.pointer (some ⟨b, of, none⟩))).run P w = .ok v w ∧ RV0 m ρ x v := by
  have hlen := RA.len _ _ hr
  unfold Instr.loadAt Instr.sureAddr loadVar
  simp only [Sem.run_bind, Sem.run_pure, Result.andThen_ok, hi.agg w]
  cases hd : i.d.agg with
  | true =>
    have hl := run_loadCells_list (P := P) w ⟨b, of, none⟩ cs (fun j v hv => by rw [Addr.add_mid]; exact hc j v hv)
    simp only [if_true, Sem.run_bind, hi.sizeOf w, Result.andThen_ok]
    rw [← hs, ← hlen, hl]
    refine ⟨.agg cs.toArray, by simp, ?_⟩
    unfold RV0
    rw [if_pos (by rw [ha, hd])]
    exact ⟨cs, rfl, hr⟩
  | false =>
    obtain ⟨v, rfl⟩ := hr.single (by rw [ha, hd])
    refine ⟨v, ?_, ?_⟩
    · have := hc 0 v rfl
      simp only [Nat.add_zero] at this
      simp [this]
    · unfold RV0
      rw [if_neg (by simp [ha, hd])]
      exact hr
theorem rv_ref {n : Nat} {p : List Nat} {off : Nat} {x : Value} (h : RV m ρ (.ref n p off) x) : ∃ g, blk (ρ n) = some g ∧ x = .pointer (some ⟨g, off, none⟩) := by
  simp only [RV, RV0, AV.agg, RA] at h
  simpa using h
theorem rv_ptr {u : T} {x : Value} (h : RV m ρ (.t (.ptr u)) x) : ∃ b of us, x = .pointer (some ⟨b, of, none⟩) ∧ RT m u us ∧ At m b of us := by
  rw [rv_scal rfl] at h
  simpa [RT] using h
theorem OC.open_live {b : Ob} (h : b.isOpen = true) : b.live = true := by cases b <;> simp_all [Ob.isOpen, Ob.live]
theorem opLoad_ok (hE : EnvOK P E) (h : MS C ob m ρ w) (hs : SubO obr ob) {ty : Nat} {x : Operand} (ho : o.op = .load ty x) {vx : AV} (hx : OpdOK ob m ρ vx (a.eval x)) (hr : opLoad E ty obr [vx] = some r) : Runs P C ob m ρ w o a r := by
  unfold opLoad at hr
  split at hr
  · rename_i n p off e
    simp at e; subst e
    split at hr
    · rename_i b i hb hi
      split at hr
      · rename_i x' o' hl
        split at hr
        · rename_i hc
          obtain ⟨rfl, hgd, hsz, hag⟩ := hc
          simp at hr; subst hr
          obtain ⟨g, hg, ex⟩ := rv_ref hx.rv
          have hlive : b.live = true := by cases b <;> simp [Ob.look, Ob.live] at hl ⊢
          obtain ⟨cur, t, hh, hoc⟩ := (h.objs n b (hs n b hb)).view hlive hg
          obtain ⟨q1, q2⟩ := Ob.look_OC hoc hl
          have hrange : w.rangeAt g o' ((cur.toList.drop o').take x'.size) := by
            intro j u hu
            rw [cell_of_row w g _ cur t (0, 0) hh]
            rw [List.getElem?_take] at hu
            split at hu
            · rw [List.getElem?_drop] at hu; simpa using hu
            · cases hu
          obtain ⟨v, h1, h2⟩ := run_loadAt (hE.ty _ _ hi) hrange q1 hsz hag
          exact .pure h (x := v) (by simp [execOp, ho, ex, h1]) (RV_of_good h2) (fun k hk => h.named n b (hs n b hb) k (Ob.look_names hl k hk))
        · cases hr
      · cases hr
    · cases hr
  · rename_i u e
    simp at e; subst e
    split at hr
    · rename_i i hi
      split at hr
      · rename_i hc
        simp at hr; subst hr
        obtain ⟨b, of, us, ex, h1, h2⟩ := rv_ptr hx.rv
        obtain ⟨v, q1, q2⟩ := run_loadAt (P := P) (w := w) (m := m) (ρ := ρ) (hE.ty _ _ hi) (b := b) (of := of) (cs := us) (x := .t u) (fun j y hy => h.mem _ _ _ (h2 j y hy)) (by simpa [RA] using h1) (by simpa [AV.size] using hc.1) (by simpa [AV.agg] using hc.2)
        exact .pure h (x := v) (by simp [execOp, ho, ex, q1]) (RV_of_good q2) (by simp [AV.names])
      · cases hr
    · cases hr
  · cases hr

theorem fresh_ok {dst : Option Tmp} {d : Nat} (hf : fresh dst obr = some d) : dst = some d ∧ obr d = none := by
  unfold fresh at hf
  split at hf
  · rename_i d'
    split at hf
    · simp at hf; subst hf; exact ⟨rfl, by assumption⟩
    · cases hf
  · cases hf
/-- the names that are free for the evaluator are free -/
def FreeO (o : Oper) (obr ob : Nat → Option Ob) : Prop := ∀ d i, o.dst = some d → i < 4 → obr (nameOf d i) = none → ob (nameOf d i) = none
theorem FreeO.zero (h : FreeO o obr ob) {d : Nat} (hd : o.dst = some d) (hn : obr d = none) : ob d = none := by
  have := h d 0 hd (by omega)
  simp [nameOf] at this
  exact this hn
theorem rv_self {d : Nat} {g : Nat} : RV m (updr ρ d (.pointer (some ⟨g, 0, none⟩))) (.ref d [] 0) (.pointer (some ⟨g, 0, none⟩)) := by
  simp only [RV, RV0, AV.agg, RA]
  exact by simp [updr_same, blk]
theorem opAlloc_ok (hE : EnvOK P E) (h : MS C ob m ρ w) (hf : FreeO o obr ob) {ty : Nat} (ho : o.op = .alloc ty) (hr : opAlloc E ty o.dst obr = some r) : Runs P C ob m ρ w o a r := by
  unfold opAlloc at hr
  split at hr
  · rename_i d i hd hi
    simp at hr; subst hr
    obtain ⟨hdst, hfr⟩ := fresh_ok hd
    have hob := hf.zero hdst hfr
    obtain ⟨z, hz, hzr⟩ := (hE.ty _ _ hi).zero w
    have hc := (hzr m ρ).cells h.one
    refine ⟨_, .pointer (some ⟨w.heap.size, 0, none⟩), m, _, w.alloc (.cells z.cells.toList.toArray ty), ?_, .inl rfl, Sub.refl m, Agree.updr hob, h.newVar hob (ty := ty) hc (by simp [AV.names]) ty, rv_self, ?_⟩
    · simp [execOp, ho, Instr.alloc, hz, newVar, newRow]
    · simp [AV.names, updf, upd]
  · cases hr
theorem opBox_ok (h : MS C ob m ρ w) (hf : FreeO o obr ob) {ty : Nat} {x : Operand} (ho : o.op = .box ty x) {vx : AV} (hx : OpdOK ob m ρ vx (a.eval x)) (hr : opBox ty o.dst obr [vx] = some r) : Runs P C ob m ρ w o a r := by
  simp only [opBox] at hr
  split at hr
  · rename_i d hd
    split at hr
    · rename_i hgd
      simp at hr; subst hr
      obtain ⟨hdst, hfr⟩ := fresh_ok hd
      have hob := hf.zero hdst hfr
      have hc := (RV0_of_RV hx.rv hgd).cells h.one
      refine ⟨_, .pointer (some ⟨w.heap.size, 0, none⟩), m, _, w.alloc (.cells (a.eval x).cells.toList.toArray ty), ?_, .inl rfl, Sub.refl m, Agree.updr hob, h.newVar hob (ty := ty) hc hx.names ty, rv_self, ?_⟩
      · simp [execOp, ho, Instr.box, newVar, newRow]
      · simp [AV.names, updf, upd]
    · cases hr
  · cases hr

/-- An object with something else at a path. -/
theorem put_names : ∀ (p : List Nat) (v x v' : AV), put v p x = some v' → ∀ n ∈ v'.names, n ∈ v.names ∨ n ∈ x.names
  | [], v, x, v', h => by simp [put] at h; obtain ⟨_, rfl⟩ := h; exact fun n hn => .inr hn
  | i :: p, v, x, v', h => by
    have setn : ∀ (l : List AV) (i : Nat) (k k' : AV), l[i]? = some k → (∀ n ∈ k'.names, n ∈ k.names ∨ n ∈ x.names) → ∀ n ∈ AV.namesL (l.set i k'), n ∈ AV.namesL l ∨ n ∈ x.names := by
      intro l
      induction l with
      | nil => intro i k k' h; simp at h
      | cons y l ih =>
        intro i k k' h hk n hn
        cases i with
        | zero =>
          simp at h; subst h
          simp only [List.set_cons_zero, AV.namesL, List.mem_append] at hn ⊢
          rcases hn with hn | hn
          · rcases hk n hn with h1 | h1
            · exact .inl (.inl h1)
            · exact .inr h1
          · exact .inl (.inr hn)
        | succ i =>
          simp only [List.set_cons_succ, AV.namesL, List.mem_append] at hn ⊢
          rcases hn with hn | hn
          · exact .inl (.inl hn)
          · rcases ih i k k' (by simpa using h) hk n hn with h1 | h1
            · exact .inl (.inr h1)
            · exact .inr h1
    have treen : ∀ l : List T, AV.namesL (l.map AV.t) = [] := by
      intro l
      induction l with
      | nil => rfl
      | cons y l ih => simp [AV.namesL, AV.names, ih]
    cases v with
    | tup l =>
      simp only [put] at h
      cases hi : l[i]? with
      | none => simp [hi] at h
      | some k =>
        simp only [hi, Option.map_eq_some_iff] at h
        obtain ⟨k', hk, rfl⟩ := h
        simp only [AV.names]
        exact setn l i k k' hi (put_names p k x k' hk)
    | t u =>
      cases u with
      | tup l =>
        simp only [put] at h
        cases hi : l[i]? with
        | none => simp [hi] at h
        | some k =>
          simp only [hi] at h
          cases hk : put (.t k) p x with
          | none => simp [hk] at h
          | some k' =>
            have hn := put_names p (.t k) x k' hk
            simp only [hk] at h
            cases k' with
            | t k'' => simp at h; subst h; simp [AV.names]
            | _ =>
              simp at h; subst h
              simp only [AV.names]
              intro n hm
              have := setn (l.map AV.t) i (.t k) _ (by simp [hi]) hn n hm
              rw [treen] at this
              exact this
      | arr es n' l =>
        simp only [put] at h
        cases hi : l[i]? with
        | none => simp [hi] at h
        | some k =>
          simp only [hi] at h
          cases hk : put (.t k) p x with
          | none => simp [hk] at h
          | some k' =>
            simp only [hk] at h
            cases k' with
            | t k'' => simp at h; subst h; simp [AV.names]
            | _ => simp at h
      | _ => simp [put] at h
    | _ => simp [put] at h
theorem put_good : ∀ (p : List Nat) (v x v' : AV), put v p x = some v' → x.good = true
  | [], v, x, v', h => by simp [put] at h; exact h.1.1.1
  | i :: p, v, x, v', h => by
    cases v with
    | tup l =>
      simp only [put] at h
      cases hi : l[i]? with
      | none => simp [hi] at h
      | some k =>
        simp only [hi, Option.map_eq_some_iff] at h
        obtain ⟨k', hk, rfl⟩ := h
        exact put_good p k x k' hk
    | t u =>
      cases u with
      | tup l =>
        simp only [put] at h
        cases hi : l[i]? with
        | none => simp [hi] at h
        | some k =>
          simp only [hi] at h
          cases hk : put (.t k) p x with
          | none => simp [hk] at h
          | some k' => exact put_good p (.t k) x k' hk
      | arr es n' l =>
        simp only [put] at h
        cases hi : l[i]? with
        | none => simp [hi] at h
        | some k =>
          simp only [hi] at h
          cases hk : put (.t k) p x with
          | none => simp [hk] at h
          | some k' => exact put_good p (.t k) x k' hk
      | _ => simp [put] at h
    | _ => simp [put] at h
/-- An object with something else at a path: its cells; what kind it is. -/
theorem Ob.put_ok {b b' : Ob} {cur : List Value} (h : OC m ρ b cur) {p : List Nat} {x y : AV} {off : Nat} {xs : List Value} (hp : b.put p x = some b') (hl : b.look p = some (y, off)) (hx : RA m ρ x xs) :
    xs.length = y.size ∧ off + xs.length ≤ cur.length ∧ OC m ρ b' (cur.take off ++ (xs ++ cur.drop (off + xs.length))) ∧ (∀ n ∈ b'.names, n ∈ b.names ∨ n ∈ x.names) ∧ x.good = true ∧
      ((∃ sh ty c c', b = .var sh ty c ∧ b' = .var sh ty c') ∨ ∃ sh ty es l l', b = .row sh ty es l ∧ b' = .row sh ty es l' ∧ l'.length = l.length) := by
  have hxl := RA.len _ _ hx
  have hlk := Ob.look_OC h hl
  cases b with
  | var sh ty c =>
    simp only [Ob.put, Option.map_eq_some_iff] at hp
    obtain ⟨c', hc, rfl⟩ := hp
    obtain ⟨h1, h2⟩ := put_RA p c cur x c' y off xs h hc hl hx
    exact ⟨by omega, by omega, h2, put_names p c x c' hc, put_good p c x c' hc, .inl ⟨sh, ty, c, c', rfl, rfl⟩⟩
  | row sh ty es l =>
    cases p with
    | nil => simp [Ob.put] at hp
    | cons i p =>
      simp only [Ob.put] at hp
      simp only [Ob.look] at hl
      cases hi : l[i]? with
      | none => simp [hi] at hp
      | some k =>
        simp only [hi] at hp hl
        cases hk : Mg.put (.t k) p x with
        | none => simp [hk] at hp
        | some k' =>
          simp only [hk] at hp
          cases k' with
          | t k'' =>
            simp at hp; subst hp
            simp only [Option.map_eq_some_iff] at hl
            obtain ⟨⟨y', o'⟩, ho', e⟩ := hl
            simp only [Prod.mk.injEq] at e
            obtain ⟨rfl, rfl⟩ := e
            obtain ⟨h1, h2⟩ := h
            obtain ⟨q1, q2⟩ := REs.at_ h1 hi
            have hlt : i < l.length := (List.getElem?_eq_some_iff.1 hi).1
            have hmul : i * es + es ≤ l.length * es := by
              have := Nat.mul_le_mul_right es (show i + 1 ≤ l.length by omega)
              rw [Nat.add_mul] at this; omega
            obtain ⟨r1, r2⟩ := put_RA p (.t k) _ x (.t k'') _ o' xs (by simpa [RA] using q1) hk ho' hx
            obtain ⟨_, r3⟩ := look_RA (ρ := ρ) p (.t k) _ _ o' (by simpa [RA] using q1) ho'
            have hk1 := RT.len k _ q1
            simp only [List.length_take, List.length_drop] at r3 hk1
            have hsz := (put_size p (.t k) x (.t k'') hk).1
            simp only [AV.size] at hsz
            have hset := REs.set h1 hlt (by simpa [RA] using r2) (by have := RA.len _ _ r2; simp only [AV.size] at this; omega)
            refine ⟨by omega, by omega, ⟨?_, ?_⟩, by simp [Ob.names], put_good p _ x _ hk, .inr ⟨sh, ty, es, l, _, rfl, rfl, by simp⟩⟩
            · have e1 : ((cur.take (l.length * es)).drop (i * es)).take es = (cur.drop (i * es)).take es := by
                rw [List.drop_take, List.take_take, Nat.min_eq_left (by omega)]
              rw [e1] at hset
              have e2 := splice_in (cur.take (l.length * es)) xs (i * es) o' es xs.length (by simp; omega) (by omega) rfl
              have e3 : ((cur.take (l.length * es)).drop (i * es)).take es = (cur.drop (i * es)).take es := e1
              rw [e3] at e2
              rw [e2] at hset
              simp only [List.length_set]
              have e4 : (cur.take (i * es + o') ++ (xs ++ cur.drop (i * es + o' + xs.length))).take (l.length * es) = (cur.take (l.length * es)).take (i * es + o') ++ (xs ++ (cur.take (l.length * es)).drop (i * es + o' + xs.length)) := by
                rw [List.take_append, List.take_append, List.take_take, List.take_take, Nat.min_comm, List.drop_take]
                congr 1
                simp only [List.length_take]
                rw [Nat.min_eq_left (by omega), List.take_of_length_le (show xs.length ≤ _ by omega)]
                congr 2
                omega
              rw [e4]
              exact hset
            · simp only [List.length_set, List.length_append, List.length_take, List.length_drop]; omega
          | _ => simp at hp
  | gone => simp [OC] at h
theorem opStore_ok (hE : EnvOK P E) (h : MS C ob m ρ w) (hs : SubO obr ob) {ty : Nat} {x y : Operand} (ho : o.op = .store ty x y) {vx vy : AV} (hx : OpdOK ob m ρ vx (a.eval x)) (hy : OpdOK ob m ρ vy (a.eval y)) (hr : opStore E ty obr [vx, vy] = some r) : Runs P C ob m ρ w o a r := by
  unfold opStore at hr
  split at hr
  · rename_i n p off v e
    simp at e
    obtain ⟨rfl, rfl⟩ := e
    split at hr
    · rename_i b i hb hi
      split at hr
      · rename_i u o' b' hl hp
        split at hr
        · rename_i hc
          obtain ⟨rfl, hop, hsz⟩ := hc
          simp at hr; subst hr
          obtain ⟨g, hg, ex⟩ := rv_ref hx.rv
          have hlive := OC.open_live hop
          obtain ⟨cur, t, hh, hoc⟩ := (h.objs n b (hs n b hb)).view hlive hg
          have hgood : vy.good = true := by
            cases b with
            | var sh ty c =>
              simp only [Ob.put, Option.map_eq_some_iff] at hp
              obtain ⟨c', hc, _⟩ := hp
              exact put_good p c _ c' hc
            | row sh ty es l =>
              cases p with
              | nil => simp [Ob.put] at hp
              | cons k p =>
                simp only [Ob.put] at hp
                split at hp
                · split at hp
                  · rename_i hk; exact put_good p _ _ _ hk
                  · cases hp
                · cases hp
            | gone => simp [Ob.put] at hp
          have hcells := (RV0_of_RV hy.rv hgood).cells h.one
          obtain ⟨q1, q2, q3, q4, _, q6⟩ := Ob.put_ok hoc hp hl hcells
          have hlen := RA.len _ _ hcells
          have hst := run_storeCells_at P g o' t (a.eval y).cells.toList 0 cur w hh (by simpa using q2) (RA.one h.one _ _ hcells)
          have hsv : (Instr.storeAt ty (.pointer (some ⟨g, o', none⟩)) (a.eval y)).run P w = .ok () (w.setRow g (cur.toList.take o' ++ ((a.eval y).cells.toList ++ cur.toList.drop (o' + (a.eval y).cells.toList.length))).toArray) := by
            unfold Instr.storeAt Instr.sureAddr storeVar
            simp only [Sem.run_bind, Sem.run_pure, Result.andThen_ok, (hE.ty _ _ hi).sizeOf w]
            rw [Sem.run_ite, if_neg (by simp at hlen; simp; omega)]
            simpa using hst
          refine ⟨.skip, undef, m, ρ, (w.setRow g (cur.toList.take o' ++ ((a.eval y).cells.toList ++ cur.toList.drop (o' + (a.eval y).cells.toList.length))).toArray), ?_, .inr ⟨rfl, rfl⟩, Sub.refl m, Agree.refl _ _, ?_, by simp [RV], by simp [AV.names]⟩
          · simp only [execOp, ho, ex]
            rw [Sem.run_bind, hsv]
            rfl
          · refine h.put (hs n b hb) hop hg hh ?_ q3 ?_ ?_
            · simp only [List.length_append, List.length_take, List.length_drop, Array.length_toList] at q2 ⊢; omega
            · intro k hk
              rcases q4 k hk with h1 | h1
              · exact h.named n b (hs n b hb) k h1
              · exact hy.names k h1
            · rcases q6 with ⟨sh, ty', c, c', rfl, rfl⟩ | ⟨sh, ty', es, l, l', rfl, rfl, hll⟩
              · simp [Ob.isOpen] at hop; subst hop; exact .inl ⟨ty', c, c', rfl, rfl⟩
              · simp [Ob.isOpen] at hop; subst hop; exact .inr ⟨ty', es, l, l', rfl, rfl, hll⟩
        · cases hr
      · cases hr
    · cases hr
  · cases hr
end Go.Mg
