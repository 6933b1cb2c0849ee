/- append and copy. -/
import Derived.Test.YtighjjielkdafaaDoorMgL
import Derived.Deep.AppendSrc
namespace Go.Mg
open Go.RowKit
variable {P : Program} {E : Env} {C : Ctx} {ob obr : Nat → Option Ob} {m m' : Mem} {ρ ρ' : Rho} {w w' : World} {o : Oper} {a : Act} {r : Res}

theorem twoOf_ok (hE : EnvOK P E) {ts : List Nat} {e : Nat} {j : TyD} (h : twoOf E ts = some (e, j)) :
    ∃ t, ts = [t, t] ∧ P.underlying t = some (.slice e) ∧ E.ty e = some j ∧ 0 < j.size := by
  unfold twoOf at h
  split at h
  · rename_i t t'
    split at h
    · rename_i i hi
      split at h
      · rename_i e' hk
        split at h
        · rename_i j' hj
          split at h
          · rename_i hc
            obtain ⟨rfl, hs⟩ := hc
            simp at h
            obtain ⟨rfl, rfl⟩ := h
            have := (hE.ty _ _ hi).desc
            rw [hk] at this
            exact ⟨t, rfl, this, hj, hs⟩
          · cases h
        · cases h
      · cases h
    · cases h
  · cases h
theorem rv_own_self {d : Nat} {v : Value} : RV m (updr ρ d v) (.own d) v := by
  simp only [RV, RV0, AV.agg, RA]
  simp [updr_same]
theorem opAppend_ok (hE : EnvOK P E) (h : MS C ob m ρ w) (hs : SubO obr ob) (hf : FreeO o obr ob) {c : Call} (ho : o.op = .call c) {x y : Operand} (hc : c.callee = .builtin .append) (hargs : c.args = #[x, y]) {vx vy : AV} (hx : OpdOK ob m ρ vx (a.eval x)) (hy : OpdOK ob m ρ vy (a.eval y))
    (hr : opAppend E c.argTypes.toList o.dst obr [vx, vy] = some r) : Runs P C ob m ρ w o a r := by
  simp only [opAppend] at hr
  split at hr
  · rename_i d e j hd htw
    obtain ⟨t, hts, hdesc, hj, hjs⟩ := twoOf_ok hE htw
    have hat : c.argTypes = #[t, t] := by rw [← Array.toList_inj]; simpa using hts
    obtain ⟨hdst, hfr⟩ := fresh_ok hd
    have hob := hf.zero hdst hfr
    obtain ⟨jj, hjj, hs1, hs2, z, hz, hzr⟩ := (hE.ty _ _ hj).info
    have hzc := (hzr m ρ).cells h.one
    simp only [RA] at hzc
    have hzl : z.cells.size = jj.size := by
      have := RT.len _ _ hzc
      rw [(hE.ty _ _ hj).zsize] at this
      simpa [hs1] using this
    split at hr
    · rename_i l r' hl hr'
      split at hr
      · rename_i hcond
        obtain ⟨hesx, hesy, hbytes, hmx⟩ := hcond
        simp only [maxBytes] at hbytes hmx
        obtain ⟨B, cy, ey, _, hcase⟩ := elems_ok h hs hy.rv hr' hesy
        have hnews : ∃ news, REs m j.size r' news ∧ (r'.length = 0 ∨ ∃ b of, B = some ⟨b, of, none⟩ ∧ w.rangeAt b of news) := by
          rcases hcase with rfl | ⟨b, of, us, e1, q1, q2⟩
          · exact ⟨[], by simp [REs], .inl rfl⟩
          · exact ⟨us, q1, .inr ⟨b, of, e1, q2⟩⟩
        obtain ⟨news, hn1, hn2⟩ := hnews
        have hn3 := REs.len _ _ _ hn1
        have hn4 := REs.one _ _ _ hn1
        have hml : l.length + r'.length ≤ maxLen := by simp only [maxLen]; omega
        have hrun : ∀ {v v' : Value} {w'' : World}, a.eval x = v → (Builtin.append_ #[t, t] o.type #[v, .slice B r'.length cy]).run P w = .ok v' w'' → (execOp a.eval o).run P w = .ok (.value v') w'' := by
          intro v v' w'' hv hq
          simp [execOp, ho, resolve, invoke, builtin, hc, hargs, hat, hv, ey, hq]
        rw [← hs1] at hn1 hn3
        split at hr
        · simp at hr; subst hr
          have ex : a.eval x = .slice none 0 0 := by
            have := hx.rv
            rw [rv_scal rfl] at this; simpa [RT] using this
          simp [elemsOf] at hl; subst hl
          simp only [List.length_nil, Nat.zero_add] at hbytes hml
          obtain ⟨v', w', q1, q2, q3⟩ := run_append_src (P := P) (w := w) (ty := o.type) hdesc hjj hz hzl (World.ownsRow_nil w 0 e jj.size) hn3 hn2 hn4 (by omega) (by rw [hs2]; simpa using hbytes)
          have hgrow : Grow w w' ∧ ∀ g, blk v' = some g → w.heap.size ≤ g := by
            have hb : blk v' = v'.ownBlock := by
              rcases q2.2 with ⟨e1, _⟩ | ⟨g, cap, cur, e1, _⟩ <;> rw [e1] <;> rfl
            rcases q3 with ⟨e1, e2⟩ | ⟨e1, e2⟩
            · exact ⟨e2, fun g hg => by rw [hb, e1] at hg; simp at hg; omega⟩
            · exact ⟨Grow.of_grown e2 rfl, fun g hg => by rw [hb, e1] at hg; simp [Value.ownBlock] at hg⟩
          simp only [Nat.zero_add, List.nil_append] at q2
          rw [hs1] at q2 hn1
          exact ⟨_, v', m, _, w', hrun ex q1, .inl rfl, Sub.refl m, Agree.updr hob, h.newRow hob hgrow.1 q2 rfl hn1 hgrow.2, rv_own_self, by simp [AV.names, updf, upd]⟩
        · rename_i n
          split at hr
          · rename_i sh e' es l' hn
            split at hr
            · rename_i hee; subst hee
              simp at hr; subst hr
              simp [elemsOf, hn] at hl; subst hl
              simp [esOf, hn] at hesx; subst hesx
              have ex : a.eval x = ρ n := by
                have := hx.rv
                simp only [RV, RV0, AV.agg, RA] at this
                simpa using this
              obtain ⟨xs, hown, hxs⟩ := (h.objs n _ (hs n _ hn)).row_own
              rw [← hs1] at hown
              obtain ⟨v', w', q1, q2, q3⟩ := run_append_src (P := P) (w := w) (ty := o.type) hdesc hjj hz hzl hown hn3 hn2 hn4 hml (by rw [hs2]; exact hbytes)
              rw [hs1] at hown q2 hn1
              refine ⟨_, v', m, _, w', hrun ex q1, .inl rfl, Sub.refl m, Agree.updr hob, h.append hob (hs n _ hn) hown hxs q2 rfl hn1 q3, rv_own_self, ?_⟩
              intro k hk
              simp [AV.names] at hk; subst hk
              simp only [updf]
              exact upd_none (by simp [upd])
            · cases hr
          · cases hr
        · rename_i es0 l0
          split at hr
          · cases hr
          · rename_i hne
            simp at hr; subst hr
            simp [elemsOf] at hl; subst hl
            simp [esOf] at hesx; subst hesx
            have hk0 : r'.length ≠ 0 := by
              intro h0; exact hne (by simp [List.eq_nil_of_length_eq_zero h0])
            have hrv := hx.rv
            simp only [RV, RV0, AV.agg, RA] at hrv
            obtain ⟨A, ex, hold⟩ := by simpa using hrv
            obtain ⟨b, of, hB, hat2⟩ := hn2.resolve_left hk0
            subst hB
            have holds : ∃ olds : List Value, REs m j.size l0 olds ∧ (Builtin.firstCells jj.size l0.length (.slice A l0.length l0.length)).run P w.drew = .ok olds.toArray w.drew := by
              rcases hold with rfl | ⟨b', of', rfl, us, u1, u2⟩
              · exact ⟨[], by simp [REs], by cases A <;> simp [Builtin.firstCells, loadCells, loadCellsFrom]⟩
              · refine ⟨us, u1, ?_⟩
                have : us.length = l0.length * jj.size := by rw [hs1]; exact REs.len _ _ _ u1
                exact run_firstCells_some w.drew jj.size l0.length _ _ _ us this (fun k u hu => by rw [Addr.add_mid]; simpa using h.mem _ _ _ (u2 k u hu))
            obtain ⟨olds, ho1, ho2⟩ := holds
            have hsrc : Src P jj.size t (.slice (some ⟨b, of, none⟩) r'.length cy) r'.length news w :=
              Src.ofSlice w hdesc _ _ _ news hn3 (fun k u hu => by rw [Addr.add_mid]; exact hat2 k u hu) hn4
            have q := run_append_grow_src (P := P) w t t o.type e jj z hdesc hjj hz A l0.length l0.length olds ho2 _ r'.length news hsrc (by omega) (by omega) (growslice_fits (by omega) (by rw [hs2]; exact hbytes))
            have hol := REs.len _ _ _ ho1
            rw [← hs1] at hol
            have hlen : (olds ++ news).length = (l0.length + r'.length) * jj.size := by rw [List.length_append, hol, hn3, Nat.add_mul]
            refine ⟨_, _, m, _, _, hrun ex q, .inl rfl, Sub.refl m, Agree.updr hob, h.newRow hob ((Grow.drew w).trans (Grow.alloc w.drew _)) (n := l0.length + r'.length) (base := 0) (xs := olds ++ news) ?_ (by simp) (REs.append _ _ _ _ ho1 (by rw [← hs1]; exact hn1)) ?_, rv_own_self, by simp [AV.names, updf, upd]⟩
            · rw [← hs1]
              have hge := grownCap_ge w (l0.length + r'.length) l0.length e
              refine ⟨hlen, .inr ⟨w.heap.size, _, _, rfl, Nat.zero_le _, heap_alloc_new w.drew _, hge, grownCap_le_maxLen w _ _ e hml, ?_, ?_⟩⟩
              · simp only [Array.size_append, List.size_toArray, size_zeroCells, hzl, hlen, ← Nat.add_mul]
                congr 1
                omega
              · simp only [Array.toList_append]
                rw [← hlen]
                exact List.take_left
            · intro g hg
              simp [blk] at hg; omega
        · cases hr
      · cases hr
    · cases hr
  · cases hr

/-! ### copy -/
theorem laid_OC {b b' : Ob} {cur : List Value} (h : OC m ρ b cur) {p : List Nat} {off es lo : Nat} {l l2 : List T} (he : b.elemsAt p off es lo = some l) (hl : b.laid p l2 = some b') (hlen : l2.length = l.length) {seg : List Value} (hr : REs m es l2 seg)
    {o0 : Nat} (ho : off = o0 + lo * es) :
    OC m ρ b' (cur.take o0 ++ (seg ++ cur.drop (o0 + seg.length))) ∧ (∀ n ∈ b'.names, n ∈ b.names) ∧
      ((∃ sh ty c c', b = .var sh ty c ∧ b' = .var sh ty c') ∨ ∃ sh ty es l l', b = .row sh ty es l ∧ b' = .row sh ty es l' ∧ l'.length = l.length) := by
  cases b with
  | var sh ty c =>
    simp only [Ob.elemsAt] at he
    simp only [Ob.laid] at hl
    split at he
    · rename_i es' n l' o' hk
      split at he
      · rename_i hc
        obtain ⟨rfl, h2⟩ := hc
        simp at he; subst he
        have h3 : o' = o0 := by omega
        subst h3
        simp only [hk, Option.map_eq_some_iff] at hl
        obtain ⟨c', hput, rfl⟩ := hl
        obtain ⟨h4, _⟩ := look_RA p c cur _ o' h hk
        simp only [RA, RT] at h4
        have hx : RA m ρ (.t (.arr es' n l2)) seg := by
          simp only [RA, RT]
          exact ⟨by rw [hlen]; exact h4.1, hr⟩
        obtain ⟨_, h5⟩ := put_RA p c cur _ c' _ o' seg h hput hk hx
        refine ⟨h5, ?_, .inl ⟨sh, ty, c, c', rfl, rfl⟩⟩
        intro k hk2
        rcases put_names p c _ c' hput k hk2 with h6 | h6
        · exact h6
        · simp [AV.names] at h6
      · cases he
    · cases he
  | row sh ty es' l' =>
    cases p with
    | nil =>
      simp only [Ob.elemsAt] at he
      split at he
      · rename_i hc
        obtain ⟨rfl, h2⟩ := hc
        simp at he; subst he
        simp [Ob.laid] at hl; subst hl
        have h3 : o0 = 0 := by omega
        subst h3
        have hsl := REs.len _ _ _ hr
        refine ⟨⟨?_, ?_⟩, by simp [Ob.names], .inr ⟨sh, ty, es', l', l2, rfl, rfl, hlen⟩⟩
        · simp only [List.take_zero, List.nil_append]
          rw [← hsl, List.take_left]
          exact hr
        · simp; omega
      · cases he
    | cons i p => simp [Ob.elemsAt] at he
  | gone => simp [OC] at h
/-- what copy stores -/
def storeOpt (A : Option Addr) (news : List Value) : Sem Unit :=
  match A with
  | some ad => storeCells ad news
  | none => Pure.pure ()
theorem copy_into (hE : EnvOK P E) (h : MS C ob m ρ w) {c : Call} (ho : o.op = .call c) {x y : Operand} (hc : c.callee = .builtin .copy) (hargs : c.args = #[x, y]) {t e : Nat} {j : TyD} (hat : c.argTypes = #[t, t]) (hdesc : P.underlying t = some (.slice e)) (hj : E.ty e = some j)
    {n : Nat} {b b' : Ob} (hb : ob n = some b) (hop : b.isOpen = true) {p : List Nat} {off lo len : Nat} {l : List T} (he : b.elemsAt p off j.size lo = some l) (hlo : lo + len ≤ l.length)
    {A : Option Addr} {cx : Nat} (ex : a.eval x = .slice A len cx) (hA : len = 0 ∨ ∃ g, blk (ρ n) = some g ∧ A = some ⟨g, off, none⟩)
    {r' : List T} {B : Option Addr} {cy : Nat} (ey : a.eval y = .slice B r'.length cy) (hB : r' = [] ∨ ∃ b of us, B = some ⟨b, of, none⟩ ∧ REs m j.size r' us ∧ w.rangeAt b of us)
    (hl : b.laid p (l.take lo ++ (r'.take len ++ l.drop (lo + min r'.length len))) = some b') :
    Runs P C ob m ρ w o a ⟨.t (.int .i64 (min r'.length len : Nat)), [(n, b')]⟩ := by
  have hlive := OC.open_live hop
  have hnews : ∃ news, REs m j.size (r'.take len) news ∧ (Builtin.firstCells j.size (min r'.length len) (.slice B r'.length cy)).run P w = .ok news.toArray w := by
    rcases hB with rfl | ⟨b2, of, us, rfl, q1, q2⟩
    · exact ⟨[], by simp [REs], by cases B <;> simp [Builtin.firstCells, loadCells, loadCellsFrom]⟩
    · have hu := REs.len _ _ _ q1
      refine ⟨us.take (len * j.size), REs.take q1 len, ?_⟩
      refine run_firstCells_some w j.size _ _ _ _ _ ?_ ?_
      · rw [List.length_take, hu]
        rw [Nat.mul_min_mul_right, Nat.min_comm]
      · intro k u hk
        rw [Addr.add_mid]
        rw [List.getElem?_take] at hk
        split at hk
        · exact q2 k u hk
        · cases hk
  obtain ⟨news, hn1, hn2⟩ := hnews
  have hn3 := REs.len _ _ _ hn1
  have hn4 := REs.one _ _ _ hn1
  have hk : (r'.take len).length = min r'.length len := by simp [Nat.min_comm]
  rw [hk] at hn3
  have hrun : ∀ w' : World, (storeOpt A news).run P w = .ok () w' → (execOp a.eval o).run P w = .ok (.value (.int .i64 (min r'.length len : Nat))) w' := by
    intro w' hw'
    have hsz := (hE.ty _ _ hj).sizeOf (P := P) w
    have hmin : Nat.min r'.length len = min r'.length len := rfl
    cases A with
    | none =>
      simp [storeOpt] at hw'; subst hw'
      have hcp : (Builtin.copy_ #[t, t] o.type #[.slice none len cx, .slice B r'.length cy]).run P w = .ok (.int .i64 (min r'.length len : Nat)) w := by
        simp only [Builtin.copy_, List.getElem?_toArray, List.getElem?_cons_zero, List.getElem?_cons_succ, Sem.run_bind, run_underlying hdesc, Result.andThen_ok, Builtin.lenOf, Sem.run_pure, hsz, hmin, hn2]
        rfl
      simp [execOp, ho, resolve, invoke, builtin, hc, hargs, hat, ex, ey, hcp]
    | some ad =>
      simp only [storeOpt] at hw'
      have hcp : (Builtin.copy_ #[t, t] o.type #[.slice (some ad) len cx, .slice B r'.length cy]).run P w = .ok (.int .i64 (min r'.length len : Nat)) w' := by
        simp only [Builtin.copy_, List.getElem?_toArray, List.getElem?_cons_zero, List.getElem?_cons_succ, Sem.run_bind, run_underlying hdesc, Result.andThen_ok, Builtin.lenOf, Sem.run_pure, hsz, hmin, hn2, hw']
        rfl
      simp [execOp, ho, resolve, invoke, builtin, hc, hargs, hat, ex, ey, hcp]
  have hrv : ∀ ρ, RV m ρ (.t (.int .i64 (min r'.length len : Nat))) (.int .i64 (min r'.length len : Nat)) := fun ρ => (rv_scal rfl).2 (by simp [RT])
  cases hg : blk (ρ n) with
  | none =>
    -- a row that is nil
    have hro := h.objs n b hb
    cases b with
    | var sh ty cv => obtain ⟨g, cs, t', e1, _⟩ := hro; rw [e1] at hg; simp [blk] at hg
    | gone => simp [Ob.live] at hlive
    | row sh ty es l0 =>
      rcases hro with ⟨e1, rfl⟩ | ⟨g, _, _, e1, _⟩
      · cases p with
        | cons i p => simp [Ob.elemsAt] at he
        | nil =>
          simp only [Ob.elemsAt] at he
          split at he
          · simp at he; subst he
            have hlen0 : len = 0 := by simp at hlo; omega
            subst hlen0
            simp [Ob.laid] at hl; subst hl
            have hA0 : ((storeOpt A news).run P w = .ok () w) := by
              have hnil : news = [] := List.eq_nil_of_length_eq_zero (by simpa using hn3)
              subst hnil
              cases A <;> rfl
            refine ⟨_, _, m, ρ, w, hrun w hA0, .inl rfl, Sub.refl m, Agree.refl _ _, ?_, hrv ρ, by simp [AV.names]⟩
            have : updf ob [(n, Ob.row sh ty es [])] = ob := by
              funext k
              simp only [updf, upd]
              split
              · rename_i e2; subst e2; exact hb.symm
              · rfl
            rw [this]
            exact h
          · cases he
      · rw [e1] at hg; simp [blk] at hg
  | some g =>
    obtain ⟨cur, t', hh, hoc⟩ := (h.objs n b hb).view hlive hg
    obtain ⟨o0, hoff, hre, hfit⟩ := elemsAt_OC hoc he
    have hseg : (cur.toList.drop o0).take (l.length * j.size) = (cur.toList.drop o0).take (l.length * j.size) := rfl
    have hl1 := hre.take lo
    have hl2 := hre.drop (lo + min r'.length len)
    have hmm : (lo + min r'.length len) * j.size = lo * j.size + news.length := by rw [Nat.add_mul, hn3]
    have hle : lo * j.size + news.length ≤ l.length * j.size := by rw [← hmm]; exact Nat.mul_le_mul_right _ (by omega)
    have hr2 := REs.append _ _ _ _ hl1 (REs.append _ _ _ _ hn1 hl2)
    have hlen2 : (l.take lo ++ (r'.take len ++ l.drop (lo + min r'.length len))).length = l.length := by
      simp only [List.length_append, List.length_take, List.length_drop]; omega
    obtain ⟨q1, q2, q3⟩ := laid_OC hoc he hl hlen2 hr2 hoff
    have hsl := REs.len _ _ _ hr2
    rw [hlen2] at hsl
    rw [hsl] at q1
    rw [hmm] at q1
    rw [splice_in cur.toList news o0 (lo * j.size) (l.length * j.size) news.length hfit hle rfl, ← hoff] at q1
    have hfit2 : off + news.length ≤ cur.size := by
      rw [hoff]; simp at hfit; omega
    have hst : (storeOpt A news).run P w = .ok () (w.setRow g (cur.toList.take off ++ (news ++ cur.toList.drop (off + news.length))).toArray) := by
      by_cases hz : news = []
      · subst hz
        have : (cur.toList.take off ++ ([] ++ cur.toList.drop (off + 0))).toArray = cur := by simp
        simp only [List.length_nil]
        rw [this, setRow_self w g cur t' (0, 0) hh]
        cases A <;> rfl
      · have hl0 : len ≠ 0 := by
          rintro rfl
          exact hz (List.eq_nil_of_length_eq_zero (by simpa using hn3))
        obtain ⟨g', hg', rfl⟩ := hA.resolve_left hl0
        rw [hg] at hg'; injection hg' with hg'; subst hg'
        have := run_storeCells_at P g off t' news 0 cur w hh (by simpa using hfit2) hn4
        simpa [storeOpt] using this
    refine ⟨_, _, m, ρ, _, hrun _ hst, .inl rfl, Sub.refl m, Agree.refl _ _, ?_, hrv ρ, by simp [AV.names]⟩
    refine h.put hb hop hg hh ?_ q1 (fun k hk => h.named n b hb k (q2 k hk)) ?_
    · simp only [List.length_append, List.length_take, List.length_drop, Array.length_toList]; omega
    · rcases q3 with ⟨sh, ty', c1, c', rfl, rfl⟩ | ⟨sh, ty', es, l1, l', rfl, rfl, hll⟩
      · simp [Ob.isOpen] at hop; subst hop; exact .inl ⟨ty', c1, c', rfl, rfl⟩
      · simp [Ob.isOpen] at hop; subst hop; exact .inr ⟨ty', es, l1, l', rfl, rfl, hll⟩
theorem opCopy_ok (hE : EnvOK P E) (h : MS C ob m ρ w) (hs : SubO obr ob) {c : Call} (ho : o.op = .call c) {x y : Operand} (hc : c.callee = .builtin .copy) (hargs : c.args = #[x, y]) {vx vy : AV} (hx : OpdOK ob m ρ vx (a.eval x)) (hy : OpdOK ob m ρ vy (a.eval y))
    (hr : opCopy E c.argTypes.toList obr [vx, vy] = some r) : Runs P C ob m ρ w o a r := by
  simp only [opCopy] at hr
  split at hr
  · rename_i e j r' htw hr'
    obtain ⟨t, hts, hdesc, hj, hjs⟩ := twoOf_ok hE htw
    have hat : c.argTypes = #[t, t] := by rw [← Array.toList_inj]; simpa using hts
    split at hr
    · rename_i hes
      obtain ⟨B, cy, ey, _, hcase⟩ := elems_ok h hs hy.rv hr' hes
      split at hr
      · rename_i n p off es lo len
        split at hr
        · rename_i b hb
          split at hr
          · rename_i l hl
            split at hr
            · rename_i hcond
              obtain ⟨rfl, hlo, hop⟩ := hcond
              simp only [Option.map_eq_some_iff] at hr
              obtain ⟨b', hb', rfl⟩ := hr
              have hrv := hx.rv
              simp only [RV, RV0, AV.agg, RA] at hrv
              obtain ⟨A, cx, ex, _, hA⟩ := by simpa using hrv
              exact copy_into hE h ho hc hargs hat hdesc hj (hs n b hb) hop hl hlo ex hA ey hcase hb'
            · cases hr
          · cases hr
        · cases hr
      · rename_i n
        split at hr
        · rename_i ty es l hb
          split at hr
          · rename_i hee; subst hee
            simp at hr; subst hr
            have hrv := hx.rv
            simp only [RV, RV0, AV.agg, RA] at hrv
            have ex : a.eval x = ρ n := by simpa using hrv
            have hob := h.objs n _ (hs n _ hb)
            have hA : ∃ A cx, a.eval x = .slice A l.length cx ∧ (l.length = 0 ∨ ∃ g, blk (ρ n) = some g ∧ A = some ⟨g, 0, none⟩) := by
              rcases hob with ⟨e1, rfl⟩ | ⟨g, cap, cur, e1, _⟩
              · exact ⟨none, 0, by rw [ex, e1]; rfl, .inl rfl⟩
              · exact ⟨_, cap, by rw [ex, e1], .inr ⟨g, by rw [e1]; rfl, rfl⟩⟩
            obtain ⟨A, cx, ex2, hA⟩ := hA
            refine copy_into hE h ho hc hargs hat hdesc hj (hs n _ hb) rfl (p := []) (off := 0) (lo := 0) (len := l.length) (l := l) (by simp [Ob.elemsAt]) (by simp) ex2 hA ey hcase ?_
            have : l.drop (min r'.length l.length) = l.drop r'.length := by
              by_cases hle : r'.length ≤ l.length
              · rw [Nat.min_eq_left hle]
              · rw [Nat.min_eq_right (by omega), List.drop_of_length_le (Nat.le_refl _), List.drop_of_length_le (by omega)]
            simp [Ob.laid, this]
          · cases hr
        · cases hr
      · cases hr
    · cases hr
  · cases hr
end Go.Mg
