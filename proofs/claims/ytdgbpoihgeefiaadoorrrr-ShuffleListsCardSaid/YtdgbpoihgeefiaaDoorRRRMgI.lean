/- Addresses, literals, make, slices, lengths, conversions. -/
import Derived.Test.YtdgbpoihgeefiaaDoorRRRMgH
namespace Go.Mg
open Go.RowKit
variable {P : Program} {E : Env} {C : Ctx} {ob obr : Nat → Option Ob} {m m' : Mem} {ρ ρ' : Rho} {w : World} {o : Oper} {a : Act} {r : Res}

theorem rv_mk_ref {n : Nat} {p : List Nat} {off g : Nat} (hg : blk (ρ n) = some g) : RV m ρ (.ref n p off) (.pointer (some ⟨g, off, none⟩)) := by
  simp only [RV, RV0, AV.agg, RA]
  simpa using hg
theorem rv_mk_ptr {u : T} {b of : Nat} {us : List Value} (h1 : RT m u us) (h2 : At m b of us) : RV m ρ (.t (.ptr u)) (.pointer (some ⟨b, of, none⟩)) := by
  rw [rv_scal rfl]
  simp only [RT]
  exact ⟨b, of, us, rfl, h1, h2⟩
theorem run_fieldAt {s f : Nat} {j : TyD} {fields : Array Field} {fd : Field} (hu : P.underlying s = some (.struct fields)) (hfd : fields[f]? = some fd) (hty : TyOK P fd.type j) (hj : 0 < j.size) (b of : Nat) :
    (Instr.fieldAt s (.pointer (some ⟨b, of, none⟩)) f).run P w = .ok (.pointer (some ⟨b, of + fd.offset, none⟩)) w := by
  unfold Instr.fieldAt
  have h0 : ¬ j.size = 0 := by omega
  simp [run_underlying hu, hfd, Instr.sureAddr, fieldPlace, hty.sizeOf w, h0, Addr.add_mid]
theorem opFieldAddr_ok (hE : EnvOK P E) (h : MS C ob m ρ w) {s f : Nat} {x : Operand} (ho : o.op = .fieldAddr s x f) {vx : AV} (hx : OpdOK ob m ρ vx (a.eval x)) (hr : opFieldAddr E s f [vx] = some r) : Runs P C ob m ρ w o a r := by
  unfold opFieldAddr at hr
  split at hr
  · rename_i n p off e
    simp at e; subst e
    split at hr
    · rename_i j fo hf
      split at hr
      · rename_i hj
        simp at hr; subst hr
        obtain ⟨fields, fd, hu, hfd, rfl, hty⟩ := fieldOf_ok hE hf
        obtain ⟨g, hg, ex⟩ := rv_ref hx.rv
        exact .pure h (x := .pointer (some ⟨g, off + fd.offset, none⟩)) (by simp [execOp, ho, ex, run_fieldAt hu hfd hty hj]) (rv_mk_ref hg) (by simpa [AV.names] using hx.names)
      · cases hr
    · cases hr
  · rename_i l e
    simp at e; subst e
    split at hr
    · rename_i j fo u hf hl
      split at hr
      · rename_i hc
        obtain ⟨hj, rfl⟩ := hc
        simp at hr; subst hr
        obtain ⟨fields, fd, hu, hfd, hoff, hty⟩ := fieldOf_ok hE hf
        obtain ⟨b, of, us, ex, h1, h2⟩ := rv_ptr hx.rv
        simp only [RT] at h1
        obtain ⟨q1, q2⟩ := RTs.at_ h1 hl
        refine .pure h (x := .pointer (some ⟨b, of + fd.offset, none⟩)) (by simp [execOp, ho, ex, run_fieldAt hu hfd hty hj]) (rv_mk_ptr q1 ?_) (by simp [AV.names])
        intro i v hv
        rw [List.getElem?_take] at hv
        split at hv
        · rw [List.getElem?_drop] at hv
          have := h2 _ v hv
          rw [← hoff] at this
          rw [Nat.add_assoc]; exact this
        · cases hv
      · cases hr
    · cases hr
  · cases hr
theorem run_indexAt_array {ty e len : Nat} {j : TyD} (hu : P.underlying ty = some (.array len e)) (hj : TyOK P e j) {k : IntKind} {n : Int} (h0 : 0 ≤ n) (h1 : n < len) (b of : Nat) :
    (Instr.indexAt ty (.pointer (some ⟨b, of, none⟩)) (.int k n)).run P w = .ok (.pointer (some ⟨b, of + n.toNat * j.size, none⟩)) w := by
  simp [Instr.indexAt, asIntOf, run_underlying hu, Instr.sureAddr, h0, h1, hj.sizeOf w, Addr.add_mid]
theorem run_indexAt_slice {ty e : Nat} {j : TyD} (hu : P.underlying ty = some (.slice e)) (hj : TyOK P e j) {k : IntKind} {n : Int} {len c : Nat} (h0 : 0 ≤ n) (h1 : n < len) (b of : Nat) :
    (Instr.indexAt ty (.slice (some ⟨b, of, none⟩) len c) (.int k n)).run P w = .ok (.pointer (some ⟨b, of + n.toNat * j.size, none⟩)) w := by
  simp [Instr.indexAt, asIntOf, run_underlying hu, h0, h1, hj.sizeOf w, Addr.add_mid]
theorem elemPtr_ok {j : TyD} {es n : Nat} {l : List T} (hr : elemPtr j es l n = some r) : ∃ u, l[n]? = some u ∧ es = j.size ∧ r = ⟨.t (.ptr u), []⟩ := by
  unfold elemPtr at hr
  split at hr
  · rename_i u hu
    split at hr
    · simp at hr; exact ⟨u, hu, by assumption, hr.symm⟩
    · cases hr
  · cases hr
theorem at_elem {es i of : Nat} {l : List T} {us : List Value} {u : T} {b : Nat} (h : REs m es l us) (h2 : At m b of us) (hi : l[i]? = some u) : RV m ρ (.t (.ptr u)) (.pointer (some ⟨b, of + i * es, none⟩)) := by
  obtain ⟨q1, q2⟩ := REs.at_ h hi
  refine rv_mk_ptr q1 ?_
  intro k v hv
  rw [List.getElem?_take] at hv
  split at hv
  · rw [List.getElem?_drop] at hv
    rw [Nat.add_assoc]; exact h2 _ v hv
  · cases hv
theorem opIndexAddr_ok (hE : EnvOK P E) (h : MS C ob m ρ w) (hs : SubO obr ob) {ty : Nat} {x i : Operand} (ho : o.op = .indexAddr ty x i) {vx vi : AV} (hx : OpdOK ob m ρ vx (a.eval x)) (hi : OpdOK ob m ρ vi (a.eval i))
    (hr : opIndexAddr E ty obr [vx, vi] = some r) : Runs P C ob m ρ w o a r := by
  unfold opIndexAddr at hr
  split at hr
  · rename_i vx' k n e
    simp at e
    obtain ⟨rfl, rfl⟩ := e
    have ei := rv_int hi.rv
    split at hr
    · rename_i d hd
      have hdesc := (hE.ty _ _ hd).desc
      split at hr
      · rename_i len e hk
        rw [hk] at hdesc
        split at hr
        · rename_i j hj
          split at hr
          · rename_i hc
            obtain ⟨h0, h1, hjs⟩ := hc
            split at hr
            · rename_i n' p off
              simp at hr; subst hr
              obtain ⟨g, hg, ex⟩ := rv_ref hx.rv
              exact .pure h (x := .pointer (some ⟨g, off + n.toNat * j.size, none⟩)) (by simp [execOp, ho, ex, ei, run_indexAt_array hdesc (hE.ty _ _ hj) h0 h1]) (rv_mk_ref hg) (by simpa [AV.names] using hx.names)
            · rename_i es n' l
              obtain ⟨u, hu, rfl, rfl⟩ := elemPtr_ok hr
              obtain ⟨b, of, us, ex, q1, q2⟩ := rv_ptr hx.rv
              simp only [RT] at q1
              exact .pure h (x := .pointer (some ⟨b, of + n.toNat * j.size, none⟩)) (by simp [execOp, ho, ex, ei, run_indexAt_array hdesc (hE.ty _ _ hj) h0 h1]) (at_elem q1.2 q2 hu) (by simp [AV.names])
            · cases hr
          · cases hr
        · cases hr
      · rename_i e hk
        rw [hk] at hdesc
        split at hr
        · rename_i j hj
          split at hr
          · rename_i hc
            obtain ⟨h0, hjs⟩ := hc
            split at hr
            · rename_i es l
              obtain ⟨u, hu, rfl, rfl⟩ := elemPtr_ok hr
              have hrv := hx.rv
              rw [rv_scal rfl] at hrv
              simp only [RT] at hrv
              obtain ⟨A, c, ex, _, hcase⟩ := hrv
              simp at ex
              have hlt := (List.getElem?_eq_some_iff.1 hu).1
              rcases hcase with rfl | ⟨b, of, us, rfl, q1, q2⟩
              · simp at hlt
              · exact .pure h (x := .pointer (some ⟨b, of + n.toNat * j.size, none⟩)) (by simp [execOp, ho, ex, ei, run_indexAt_slice hdesc (hE.ty _ _ hj) h0 (show n < l.length by omega)]) (at_elem q1 q2 hu) (by simp [AV.names])
            · rename_i es l
              obtain ⟨u, hu, rfl, rfl⟩ := elemPtr_ok hr
              have hrv := hx.rv
              simp only [RV, RV0, AV.agg, RA] at hrv
              obtain ⟨A, ex, hcase⟩ := by simpa using hrv
              have hlt := (List.getElem?_eq_some_iff.1 hu).1
              rcases hcase with rfl | ⟨b, of, rfl, us, q1, q2⟩
              · simp at hlt
              · exact .pure h (x := .pointer (some ⟨b, of + n.toNat * j.size, none⟩)) (by simp [execOp, ho, ex, ei, run_indexAt_slice hdesc (hE.ty _ _ hj) h0 (show n < l.length by omega)]) (at_elem q1 q2 hu) (by simp [AV.names])
            · rename_i q
              split at hr
              · rename_i sh ty' es l hq
                split at hr
                · rename_i hc
                  obtain ⟨hlt, rfl⟩ := hc
                  simp at hr; subst hr
                  have hrv := hx.rv
                  simp only [RV, RV0, AV.agg, RA] at hrv
                  have ex : a.eval x = ρ q := by simpa using hrv
                  rcases h.objs q _ (hs q _ hq) with ⟨e1, rfl⟩ | ⟨g, cap, cur, e1, _⟩
                  · simp at hlt
                  · rw [e1] at ex
                    refine .pure h (x := .pointer (some ⟨g, n.toNat * j.size, none⟩)) ?_ (rv_mk_ref (by rw [e1]; rfl)) (by simpa [AV.names] using hx.names)
                    have := run_indexAt_slice (P := P) (w := w) hdesc (hE.ty _ _ hj) (k := k) (c := cap) h0 (show n < l.length by omega) g 0
                    simp only [Nat.zero_add] at this
                    simp [execOp, ho, ex, ei, this]
                · cases hr
              · cases hr
            · rename_i q p off es lo len
              split at hr
              · rename_i hc
                obtain ⟨hlt, rfl⟩ := hc
                simp at hr; subst hr
                have hrv := hx.rv
                simp only [RV, RV0, AV.agg, RA] at hrv
                obtain ⟨A, c, ex, _, hcase⟩ := by simpa using hrv
                rcases hcase with rfl | ⟨g, hg, rfl⟩
                · omega
                · exact .pure h (x := .pointer (some ⟨g, off + n.toNat * j.size, none⟩)) (by simp [execOp, ho, ex, ei, run_indexAt_slice hdesc (hE.ty _ _ hj) h0 (show n < len by omega)]) (rv_mk_ref hg) (by simpa [AV.names] using hx.names)
              · cases hr
            · cases hr
          · cases hr
        · cases hr
      · cases hr
    · cases hr
  · cases hr

/-! ### Lengths, min, max -/
theorem opLen_ok (hE : EnvOK P E) (h : MS C ob m ρ w) (hs : SubO obr ob) {c : Call} (ho : o.op = .call c) {x : Operand} (hc : c.callee = .builtin .len) (hargs : c.args = #[x]) {vx : AV} (hx : OpdOK ob m ρ vx (a.eval x))
    (hr : opLen E c.argTypes.toList obr [vx] = some r) : Runs P C ob m ρ w o a r := by
  simp only [opLen] at hr
  split at hr
  · rename_i ty hts
    have hat : c.argTypes = #[ty] := by rw [← Array.toList_inj]; simpa using hts
    split at hr
    · rename_i i hi
      have hdesc := (hE.ty _ _ hi).desc
      have fin : ∀ (n : Nat), (Builtin.len_ #[ty] o.type #[a.eval x]).run P w = .ok (goInt n) w → Runs P C ob m ρ w o a ⟨.t (.int .i64 n), []⟩ := by
        intro n hn
        exact .pure h (x := goInt n) (by simp [execOp, ho, resolve, invoke, builtin, hc, hargs, hat, hn]) ((rv_scal rfl).2 (by simp [RT, goInt])) (by simp [AV.names])
      split at hr
      · rename_i hk
        rw [hk] at hdesc
        split at hr
        · rename_i s
          simp at hr; subst hr
          have ex := rv_str hx.rv
          exact fin _ (by simp [Builtin.len_, run_underlying hdesc, ex])
        · cases hr
      · rename_i e hk
        rw [hk] at hdesc
        simp only [Option.map_eq_some_iff] at hr
        obtain ⟨l, hl, rfl⟩ := hr
        have : ∃ A cp, a.eval x = .slice A l.length cp := by
          unfold elemsOf at hl
          have hrv := hx.rv
          split at hl
          · simp at hl; subst hl
            rw [rv_scal rfl] at hrv; simp [RT] at hrv; exact ⟨none, 0, by simpa using hrv⟩
          · simp at hl; subst hl
            rw [rv_scal rfl] at hrv; simp only [RT] at hrv
            obtain ⟨A, cp, e, _⟩ := hrv
            exact ⟨A, cp, by simpa using e⟩
          · simp at hl; subst hl
            simp only [RV, RV0, AV.agg, RA] at hrv
            obtain ⟨A, e, _⟩ := by simpa using hrv
            exact ⟨A, _, e⟩
          · rename_i nq
            split at hl
            · rename_i sh ty' es l' hq
              simp at hl; subst hl
              simp only [RV, RV0, AV.agg, RA] at hrv
              have ex : a.eval x = ρ nq := by simpa using hrv
              rcases h.objs nq _ (hs nq _ hq) with ⟨e1, rfl⟩ | ⟨g, cap, cur, e1, _⟩
              · exact ⟨none, 0, by rw [ex, e1]; rfl⟩
              · exact ⟨_, _, by rw [ex, e1]⟩
            · cases hl
          · split at hl
            · split at hl
              · rename_i ls hls
                split at hl
                · simp at hl; subst hl
                  simp only [RV, RV0, AV.agg, RA] at hrv
                  obtain ⟨A, cp, e, _⟩ := by simpa using hrv
                  refine ⟨A, cp, ?_⟩
                  rw [e]
                  congr 1
                  simp; omega
                · cases hl
              · cases hl
            · cases hl
          · cases hl
        obtain ⟨A, cp, ex⟩ := this
        exact fin _ (by simp [Builtin.len_, run_underlying hdesc, ex])
      · rename_i n e hk
        rw [hk] at hdesc
        simp at hr; subst hr
        exact fin _ (by simp [Builtin.len_, run_underlying hdesc])
      · cases hr
    · cases hr
  · cases hr
theorem opMinMax_ok (h : MS C ob m ρ w) {c : Call} (ho : o.op = .call c) {mx : Bool} {x y : Operand} (hc : c.callee = .builtin (if mx then .max else .min)) (hargs : c.args = #[x, y]) {vx vy : AV} (hx : OpdOK ob m ρ vx (a.eval x)) (hy : OpdOK ob m ρ vy (a.eval y))
    (hr : opMinMax mx [vx, vy] = some r) : Runs P C ob m ρ w o a r := by
  unfold opMinMax at hr
  split at hr
  · rename_i p q e
    simp at e
    obtain ⟨rfl, rfl⟩ := e
    simp only [Option.map_eq_some_iff] at hr
    obtain ⟨t, ht, rfl⟩ := hr
    unfold minOp at ht
    split at ht
    · rename_i k i k' j e
      simp at e
      obtain ⟨rfl, rfl⟩ := e
      split at ht
      · rename_i e; subst e
        simp at ht; subst ht
        have ex := rv_int hx.rv
        have ey := rv_int hy.rv
        cases mx
        · exact .pure h (x := .int k (if j < i then j else i)) (by simp at hc; simp [execOp, ho, resolve, invoke, builtin, hc, hargs, Builtin.min_, Builtin.min2, ex, ey]) ((rv_scal rfl).2 (by simp [RT])) (by simp [AV.names])
        · exact .pure h (x := .int k (if j > i then j else i)) (by simp at hc; simp [execOp, ho, resolve, invoke, builtin, hc, hargs, Builtin.max_, Builtin.max2, ex, ey]) ((rv_scal rfl).2 (by simp [RT])) (by simp [AV.names])
      · cases ht
    · cases ht
  · cases hr
end Go.Mg
