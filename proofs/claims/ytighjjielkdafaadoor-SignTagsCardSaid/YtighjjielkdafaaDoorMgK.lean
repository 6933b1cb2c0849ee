/- make, slice expressions, conversions, append, copy. -/
import Derived.Test.YtighjjielkdafaaDoorMgJ
import Derived.Maps.AppendAt
import Derived.Laws.Slices
namespace Go.Mg
open Go.RowKit
variable {P : Program} {E : Env} {C : Ctx} {ob obr : Nat → Option Ob} {m m' : Mem} {ρ ρ' : Rho} {w : World} {o : Oper} {a : Act} {r : Res}

theorem rep_flatten_succ (n : Nat) (l : List Value) : (List.replicate (n + 1) l).flatten = (List.replicate n l).flatten ++ l := by
  rw [List.replicate_succ', List.flatten_append]; simp
theorem made_flatten (z : Array Value) (s : Nat) (hs : z.size = s) (h0 : 0 < s) : ∀ n, (madeCells z (n * s)).toList = (List.replicate n z.toList).flatten
  | 0 => by simp [madeCells]
  | n + 1 => by
    rw [rep_flatten_succ, ← made_flatten z s hs h0 n]
    have e : (n + 1) * s = n * s + s := by rw [Nat.add_mul]; omega
    rw [e]
    unfold madeCells
    simp only [Array.toList_map, Array.toList_range, List.range_add, List.map_append, List.map_map]
    congr 1
    apply List.ext_getElem?
    intro i
    by_cases hi : i < s
    · rw [List.getElem?_map, List.getElem?_range hi]
      simp only [Option.map_some, Function.comp_def]
      rw [hs, show n * s + i = i + s * n by rw [Nat.mul_comm]; omega, Nat.add_mul_mod_self_left, Nat.mod_eq_of_lt hi]
      rw [getElem!_pos z i (by omega)]
      simp [List.getElem?_eq_getElem (show i < z.toList.length by simp; omega)]
    · rw [List.getElem?_eq_none (by simp; omega), List.getElem?_eq_none (by simp; omega)]
theorem opMake_ok (hE : EnvOK P E) (h : MS C ob m ρ w) (hf : FreeO o obr ob) {ty : Nat} {x y : Operand} (ho : o.op = .makeSlice ty x y) {vx vy : AV} (hx : OpdOK ob m ρ vx (a.eval x)) (hy : OpdOK ob m ρ vy (a.eval y))
    (hr : opMake E ty o.dst obr [vx, vy] = some r) : Runs P C ob m ρ w o a r := by
  unfold opMake at hr
  split at hr
  · rename_i k n k' c e
    simp at e
    obtain ⟨rfl, rfl⟩ := e
    split at hr
    · rename_i d i hd hi
      split at hr
      · rename_i e hk
        split at hr
        · rename_i j hj
          split at hr
          · rename_i hc
            obtain ⟨h0, hor, hnc, hjs, hb, hcm⟩ := hc
            simp at hr; subst hr
            obtain ⟨hdst, hfr⟩ := fresh_ok hd
            have hob := hf.zero hdst hfr
            have hdesc := (hE.ty _ _ hi).desc
            rw [hk] at hdesc
            obtain ⟨jj, hjj, hs1, hs2, z, hz, hzr⟩ := (hE.ty _ _ hj).info
            have ex := rv_int hx.rv
            have ey := rv_int hy.rv
            have hzc := (hzr m ρ).cells h.one
            simp only [RA] at hzc
            obtain ⟨cN, rfl⟩ : ∃ q : Nat, c = q := ⟨c.toNat, by omega⟩
            have hbb : jj.bytes * cN ≤ 281474976710656 := by
              rw [hs2]
              have : ((j.bytes * cN : Nat) : Int) ≤ 140737488355328 := by rw [Int.natCast_mul]; exact hb
              omega
            have hmx : cN ≤ maxLen := by simp only [maxLen]; omega
            have fin : ∀ (v : Value) (q : Nat) (w' : World) (xs : List Value), (Instr.makeSlice ty (.int k n) (.int k' cN)).run P w = .ok v w' → w'.ownsRow 0 e j.size v q xs → q = n.toNat → REs m j.size (List.replicate n.toNat j.zero) xs → w.grownBy w' none → v.ownBlock = some w.heap.size →
                Runs P C ob m ρ w o a ⟨.own d, [(d, .row false e j.size (List.replicate n.toNat j.zero))]⟩ := by
              intro v q w' xs hrun hown hq hre hg hbl
              refine ⟨_, v, m, _, w', by simp [execOp, ho, ex, ey, hrun], .inl rfl, Sub.refl m, Agree.updr hob, h.newRow hob (Grow.of_grown hg rfl) hown (by simp [hq]) hre ?_, ?_, by simp [AV.names, updf, upd]⟩
              · intro g hg'
                rcases hown.2 with ⟨e1, _⟩ | ⟨g1, cap, cur, e1, _⟩
                · rw [e1] at hbl; simp [Value.ownBlock] at hbl
                · rw [e1] at hbl hg'; simp [Value.ownBlock, blk] at hbl hg'; omega
              · simp only [RV, RV0, AV.agg, RA]
                simp [updr_same]
            by_cases hnc' : n = cN
            · subst hnc'
              obtain ⟨w', q1, q2, q3⟩ := run_make_full (P := P) w 0 ty e jj z j.size hdesc hjj hz hs1 k k' cN hbb hmx (Nat.zero_le _)
              have hzl : z.cells.size = j.size := by
                have := RT.len _ _ hzc
                rw [(hE.ty _ _ hj).zsize] at this
                simpa using this
              refine fin _ cN w' _ q1 q2 (by simp) ?_ q3 rfl
              rw [made_flatten z.cells j.size hzl hjs]
              simp only [Int.toNat_natCast]
              exact REs.replicate hzc (by simpa using hzl) cN
            · have hn0 : n = 0 := by rcases hor with h1 | h1; exact absurd h1 hnc'; exact h1
              subst hn0
              obtain ⟨w', q1, q2, q3⟩ := run_make_own (P := P) w 0 ty e jj z j.size hdesc hjj hz hs1 k k' cN hbb hmx (Nat.zero_le _)
              exact fin _ 0 w' _ q1 q2 (by simp) (by simp [REs]) q3 rfl
          · cases hr
        · cases hr
      · cases hr
    · cases hr
  · cases hr

/-! ### Slice expressions -/
theorem takeInt_ok {v : AV} {x : Value} {l : Int} (h : takeInt v = some l) (hr : RV m ρ v x) : ∃ k, x = .int k l := by
  unfold takeInt at h
  split at h
  · rename_i k n
    simp at h; subst h
    exact ⟨k, rv_int hr⟩
  · cases h
theorem bounds_ok {tm : List (Nat × AV)} (hev : ∀ x : Operand, OpdOK ob m ρ (evalAV E tm x) (a.eval x)) {len : Nat} {lo hi mx : Option Operand} {l hh : Nat} {tg : Bool}
    (hb : bounds len lo.isSome hi.isSome mx.isSome ((lo.toList ++ hi.toList ++ mx.toList).map (evalAV E tm)) = some (l, hh, tg)) (cap : Nat) (isS : Bool) (hcap : len ≤ cap) :
    l ≤ hh ∧ hh ≤ len ∧ (Instr.sliceBounds isS len cap (lo.map a.eval) (hi.map a.eval) (mx.map a.eval)).run P w = .ok (l, hh, if tg then hh else cap) w := by
  have sb : ∀ (x : Operand) (q : Int) (y : Nat) (code : BoundsCode), takeInt (evalAV E tm x) = some q → 0 ≤ q → q ≤ y → (Instr.sliceBound (a.eval x) y code).run P w = .ok q.toNat w := by
    intro x q y code hq h0 h1
    obtain ⟨k, e⟩ := takeInt_ok hq (hev x).rv
    rw [e]
    exact run_sliceBound w k q y code h0 h1
  cases lo with
  | none =>
    cases hi with
    | none =>
      cases mx with
      | none =>
        simp [bounds] at hb
        obtain ⟨rfl, rfl, rfl⟩ := hb
        exact ⟨Nat.zero_le _, Nat.le_refl _, by simp [Instr.sliceBounds]⟩
      | some z => simp [bounds] at hb
    | some y =>
      cases mx with
      | none =>
        simp only [Option.isSome_none, Option.isSome_some, Option.toList_none, Option.toList_some, List.nil_append, List.append_nil, List.map_cons, List.map_nil, bounds] at hb
        split at hb
        · rename_i q hq
          split at hb
          · rename_i hc
            simp at hb
            obtain ⟨rfl, rfl, rfl⟩ := hb
            have := sb y q cap (if isS then .sliceAcap else .sliceAlen) hq hc.1 (by omega)
            exact ⟨Nat.zero_le _, by omega, by simp [Instr.sliceBounds, this]⟩
          · cases hb
        · cases hb
      | some z =>
        simp only [Option.isSome_none, Option.isSome_some, Option.toList_none, Option.toList_some, List.nil_append, List.cons_append, List.map_cons, List.map_nil, bounds] at hb
        split at hb
        · rename_i q z' hq hz
          split at hb
          · rename_i hc
            simp at hb
            obtain ⟨rfl, rfl, rfl⟩ := hb
            have h1 := sb z z' cap (if isS then .slice3Acap else .slice3Alen) hz (by omega) (by omega)
            have h2 := sb y q z'.toNat .slice3B hq hc.1 (by omega)
            exact ⟨Nat.zero_le _, by omega, by simp [Instr.sliceBounds, h1, h2]; omega⟩
          · cases hb
        · cases hb
  | some x =>
    cases hi with
    | none =>
      cases mx with
      | none =>
        simp only [Option.isSome_none, Option.isSome_some, Option.toList_none, Option.toList_some, List.append_nil, List.map_cons, List.map_nil, bounds] at hb
        split at hb
        · rename_i q hq
          split at hb
          · rename_i hc
            simp at hb
            obtain ⟨rfl, rfl, rfl⟩ := hb
            have := sb x q len .sliceB hq hc.1 (by omega)
            exact ⟨by omega, Nat.le_refl _, by simp [Instr.sliceBounds, this]⟩
          · cases hb
        · cases hb
      | some z => simp [bounds] at hb
    | some y =>
      cases mx with
      | none =>
        simp only [Option.isSome_none, Option.isSome_some, Option.toList_none, Option.toList_some, List.append_nil, List.cons_append, List.nil_append, List.map_cons, List.map_nil, bounds] at hb
        split at hb
        · rename_i p q hp hq
          split at hb
          · rename_i hc
            simp at hb
            obtain ⟨rfl, rfl, rfl⟩ := hb
            have h1 := sb y q cap (if isS then .sliceAcap else .sliceAlen) hq (by omega) (by omega)
            have h2 := sb x p q.toNat .sliceB hp hc.1 (by omega)
            exact ⟨by omega, by omega, by simp [Instr.sliceBounds, h1, h2]⟩
          · cases hb
        · cases hb
      | some z =>
        simp only [Option.isSome_some, Option.toList_some, List.cons_append, List.nil_append, List.map_cons, List.map_nil, bounds] at hb
        split at hb
        · rename_i p q z' hp hq hz
          split at hb
          · rename_i hc
            simp at hb
            obtain ⟨rfl, rfl, rfl⟩ := hb
            have h1 := sb z z' cap (if isS then .slice3Acap else .slice3Alen) hz (by omega) (by omega)
            have h2 := sb y q z'.toNat .slice3B hq (by omega) (by omega)
            have h3 := sb x p q.toNat .slice3C hp hc.1 (by omega)
            exact ⟨by omega, by omega, by simp [Instr.sliceBounds, h1, h2, h3]; omega⟩
          · cases hb
        · cases hb
theorem run_slice_of {ty e : Nat} {j : TyD} (hu : P.underlying ty = some (.slice e)) (hj : TyOK P e j) {A : Option Addr} {len cap : Nat} {lo hi mx : Option Value} {l h m : Nat}
    (hb : (Instr.sliceBounds true len cap lo hi mx).run P w = .ok (l, h, m) w) : (Instr.sliceAt ty (.slice A len cap) lo hi mx).run P w = .ok (.slice (if m = l then A else A.map (·.add (l * j.size))) (h - l) (m - l)) w := by
  simp [Instr.sliceAt, Instr.slice, run_underlying hu, hb, hj.sizeOf w]
theorem run_slice_arr {ty e n : Nat} {j : TyD} (hu : P.underlying ty = some (.array n e)) (hj : TyOK P e j) {b of : Nat} {lo hi mx : Option Value} {l h m : Nat}
    (hb : (Instr.sliceBounds false n n lo hi mx).run P w = .ok (l, h, m) w) : (Instr.sliceAt ty (.pointer (some ⟨b, of, none⟩)) lo hi mx).run P w = .ok (.slice (some (if m = l then ⟨b, of, none⟩ else ⟨b, of + l * j.size, none⟩)) (h - l) (m - l)) w := by
  simp [Instr.sliceAt, Instr.sureAddr, run_underlying hu, hb, hj.sizeOf w, Addr.add_mid]
theorem run_slice_str {ty : Nat} (hu : P.underlying ty = some .string) {s : ByteArray} {lo hi : Option Value} {l h m : Nat}
    (hb : (Instr.sliceBounds false s.size s.size lo hi none).run P w = .ok (l, h, m) w) : (Instr.sliceAt ty (.string s) lo hi none).run P w = .ok (.string (s.extract l h)) w := by
  simp [Instr.sliceAt, Instr.slice, run_underlying hu, hb]
theorem REs.mid {es : Nat} {l : List T} {us : List Value} (hr : REs m es l us) (x y : Nat) : REs m es ((l.drop x).take y) ((us.drop (x * es)).take (y * es)) := (hr.drop x).take y
theorem At.mid {b of k n : Nat} {us : List Value} (h : At m b of us) : At m b (of + k) ((us.drop k).take n) := by
  intro i v hv
  rw [List.getElem?_take] at hv
  split at hv
  · rw [List.getElem?_drop] at hv
    rw [Nat.add_assoc]; exact h _ v hv
  · cases hv
theorem opSlice_ok (hE : EnvOK P E) (h : MS C ob m ρ w) (hs : SubO obr ob) {tm : List (Nat × AV)} (hev : ∀ x : Operand, OpdOK ob m ρ (evalAV E tm x) (a.eval x)) {ty : Nat} {x : Operand} {lo hi mx : Option Operand} (ho : o.op = .slice ty x lo hi mx)
    (hr : opSlice E ty lo.isSome hi.isSome mx.isSome obr (evalAV E tm x :: (lo.toList ++ hi.toList ++ mx.toList).map (evalAV E tm)) = some r) : Runs P C ob m ρ w o a r := by
  have hx := hev x
  generalize hvx : evalAV E tm x = vx at hr hx
  simp only [opSlice] at hr
  split at hr
  · rename_i i hi'
    have hdesc := (hE.ty _ _ hi').desc
    have hex : ∀ v, (Instr.sliceAt ty (a.eval x) (lo.map a.eval) (hi.map a.eval) (mx.map a.eval)).run P w = .ok v w → (execOp a.eval o).run P w = .ok (.value v) w := by
      intro v hv
      simp [execOp, ho, hv]
    split at hr
    · rename_i hk
      rw [hk] at hdesc
      split at hr
      · rename_i s
        split at hr
        · rename_i l hh hb
          simp at hr; subst hr
          have ex := rv_str hx.rv
          obtain ⟨h1, h2, h3⟩ := bounds_ok (P := P) (w := w) hev hb s.size false (Nat.le_refl _)
          cases mx with
          | some z =>
            exfalso
            cases lo <;> cases hi <;> simp [bounds] at hb
            all_goals (split at hb <;> simp at hb)
          | none =>
            exact .pure h (hex _ (by rw [ex]; exact run_slice_str hdesc h3)) ((rv_scal rfl).2 (by simp [RT])) (by simp [AV.names])
        · cases hr
      · cases hr
    · rename_i e hk
      rw [hk] at hdesc
      split at hr
      · rename_i j l hj hl
        split at hr
        · rename_i hc
          obtain ⟨hes, hjs⟩ := hc
          obtain ⟨A, cp, ex, hcp, hcase⟩ := elems_ok h hs hx.rv hl hes
          split at hr
          · rename_i p q hb
            obtain ⟨h1, h2, h3⟩ := bounds_ok (P := P) (w := w) hev hb cp true hcp
            have hrun := run_slice_of (A := A) hdesc (hE.ty _ _ hj) h3
            simp only [if_true] at hrun
            split at hr
            · rename_i u
              simp at hr; subst hr
              have hlen : ((l.drop p).take (q - p)).length = q - p := by simp; omega
              refine .pure h (hex _ (by rw [ex]; exact hrun)) ?_ (by simp [AV.names])
              simp only [RV, RV0, AV.agg, RA]
              simp only [Bool.false_eq_true, if_false, hlen]
              refine ⟨_, rfl, ?_⟩
              by_cases hpq : q = p
              · left; simp [hpq]
              · right
                cases u with
                | slc es' l' =>
                  simp only [elemsOf, Option.some.injEq] at hl; subst hl
                  simp [esOf] at hes; subst hes
                  have hrv := hx.rv
                  rw [rv_scal rfl] at hrv
                  simp only [RT] at hrv
                  obtain ⟨A', c', ex', _, hcase'⟩ := hrv
                  simp at ex'
                  rw [ex] at ex'
                  injection ex' with e1 e2 e3; subst e1
                  rcases hcase' with rfl | ⟨b, of, us, rfl, hre, hat⟩
                  · simp at h2; omega
                  · exact ⟨b, of + p * j.size, (us.drop (p * j.size)).take ((q - p) * j.size), by rw [if_neg hpq]; simp [Addr.add_mid], hre.mid _ _, hat.mid⟩
                | nils => simp [elemsOf] at hl; subst hl; simp at h2; omega
                | _ => simp [elemsOf] at hl
            · cases hr
          · rename_i p q hb
            obtain ⟨h1, h2, h3⟩ := bounds_ok (P := P) (w := w) hev hb cp true hcp
            have hrun := run_slice_of (A := A) hdesc (hE.ty _ _ hj) h3
            simp only [Bool.false_eq_true, if_false] at hrun
            have hlen : ((l.drop p).take (q - p)).length = q - p := by simp; omega
            split at hr
            · rename_i n
              split at hr
              · rename_i hno
                simp at hr; subst hr
                -- the whole
                have hp : p = 0 ∧ q = l.length := by
                  simp at hno
                  cases lo <;> cases hi <;> simp at hno
                  cases mx <;> simp [bounds] at hb
                  obtain ⟨e1, e2⟩ := hb
                  exact ⟨e1.symm, e2.symm⟩
                obtain ⟨rfl, rfl⟩ := hp
                refine .pure h (x := a.eval x) (hex _ ?_) hx.rv hx.names
                rw [ex, hrun]
                by_cases hc0 : cp = 0
                · simp [hc0]
                · simp [hc0]
                  cases A <;> simp [Addr.add]
              · simp at hr; subst hr
                simp only [elemsOf] at hl
                split at hl
                · rename_i sh ty' es l' hn
                  simp at hl; subst hl
                  simp [esOf, hn] at hes; subst hes
                  have hrv := hx.rv
                  simp only [RV, RV0, AV.agg, RA] at hrv
                  have exn : a.eval x = ρ n := by simpa using hrv
                  refine .pure h (hex _ (by rw [ex]; exact hrun)) ?_ (by simpa [AV.names] using hx.names)
                  simp only [RV, RV0, AV.agg, RA]
                  simp only [Bool.false_eq_true, if_false]
                  refine ⟨_, _, rfl, by omega, ?_⟩
                  by_cases hpq : q - p = 0
                  · exact .inl hpq
                  · right
                    rcases h.objs n _ (hs n _ hn) with ⟨e1, rfl⟩ | ⟨g, cap, cur, e1, _⟩
                    · simp at h2; omega
                    · rw [ex] at exn; rw [e1] at exn
                      injection exn with e2 e3 e4; subst e2
                      refine ⟨g, by rw [e1]; rfl, ?_⟩
                      rw [if_neg (by omega)]
                      simp [Addr.add_mid]
                · cases hl
            · rename_i n pp off es k len
              simp at hr; subst hr
              simp only [elemsOf] at hl
              simp [esOf] at hes; subst hes
              have hrv := hx.rv
              simp only [RV, RV0, AV.agg, RA] at hrv
              obtain ⟨A', c', ex', hc', hcase'⟩ := by simpa using hrv
              rw [ex] at ex'
              injection ex' with e1 e2 e3; subst e1; subst e3
              refine .pure h (hex _ (by rw [ex]; exact hrun)) ?_ (by simpa [AV.names] using hx.names)
              simp only [RV, RV0, AV.agg, RA]
              simp only [Bool.false_eq_true, if_false]
              refine ⟨_, _, rfl, by omega, ?_⟩
              by_cases hpq : q - p = 0
              · exact .inl hpq
              · right
                rcases hcase' with rfl | ⟨g, hg, rfl⟩
                · omega
                · refine ⟨g, hg, ?_⟩
                  rw [if_neg (by omega)]
                  simp [Addr.add_mid]
            · simp at hr; subst hr
              simp only [elemsOf, Option.some.injEq] at hl; subst hl
              have hrv := hx.rv
              rw [rv_scal rfl] at hrv
              simp [RT] at hrv
              rw [ex] at hrv
              injection hrv with e1 e2 e3; subst e1; subst e3
              simp at h2; subst h2
              have hp0 : p = 0 := by omega
              subst hp0
              refine .pure h (x := .slice none 0 0) (hex _ (by rw [ex]; simpa using hrun)) ((rv_scal rfl).2 (by simp [RT])) (by simp [AV.names])
            · rename_i es' l'
              simp at hr; subst hr
              simp only [elemsOf, Option.some.injEq] at hl; subst hl
              simp [esOf] at hes; subst hes
              have hrv := hx.rv
              rw [rv_scal rfl] at hrv
              simp only [RT] at hrv
              obtain ⟨A', c', ex', _, hcase'⟩ := hrv
              simp at ex'
              rw [ex] at ex'
              injection ex' with e1 e2 e3; subst e1; subst e3
              refine .pure h (hex _ (by rw [ex]; exact hrun)) ((rv_scal rfl).2 ?_) (by simp [AV.names])
              simp only [RT, hlen]
              refine ⟨_, _, rfl, by omega, ?_⟩
              by_cases hpq : q - p = 0
              · left; simp [hpq]
              · right
                rcases hcase' with rfl | ⟨b, of, us, rfl, hre, hat⟩
                · simp at h2; omega
                · refine ⟨b, of + p * j.size, (us.drop (p * j.size)).take ((q - p) * j.size), ?_, hre.mid _ _, hat.mid⟩
                  rw [if_neg (by omega)]
                  simp [Addr.add_mid]
            · cases hr
          · cases hr
        · cases hr
      · cases hr
    · rename_i n e hk
      rw [hk] at hdesc
      split at hr
      · rename_i j p q hj hb
        obtain ⟨h1, h2, h3⟩ := bounds_ok (P := P) (w := w) hev hb n false (Nat.le_refl _)
        simp only [Bool.false_eq_true, if_false] at h3
        split at hr
        · rename_i hjs
          split at hr
          · rename_i nn pp off
            simp at hr; subst hr
            obtain ⟨g, hg, ex⟩ := rv_ref hx.rv
            refine .pure h (hex _ (by rw [ex]; exact run_slice_arr hdesc (hE.ty _ _ hj) h3)) ?_ (by simpa [AV.names] using hx.names)
            simp only [RV, RV0, AV.agg, RA]
            simp only [Bool.false_eq_true, if_false]
            refine ⟨_, _, rfl, by omega, ?_⟩
            by_cases hpq : q - p = 0
            · exact .inl hpq
            · right
              exact ⟨g, hg, by rw [if_neg (by omega)]⟩
          · rename_i es n' l
            split at hr
            · rename_i hc
              obtain ⟨rfl, rfl⟩ := hc
              simp at hr; subst hr
              obtain ⟨b, of, us, ex, q1, q2⟩ := rv_ptr hx.rv
              simp only [RT] at q1
              have hlen : ((l.drop p).take (q - p)).length = q - p := by simp; omega
              refine .pure h (hex _ (by rw [ex]; exact run_slice_arr hdesc (hE.ty _ _ hj) h3)) ((rv_scal rfl).2 ?_) (by simp [AV.names])
              simp only [RT, hlen]
              refine ⟨_, _, rfl, by omega, ?_⟩
              by_cases hpq : q - p = 0
              · left; simp [hpq]
              · right
                exact ⟨b, of + p * j.size, (us.drop (p * j.size)).take ((q - p) * j.size), by rw [if_neg (by omega)], q1.2.mid _ _, q2.mid⟩
            · cases hr
          · cases hr
        · cases hr
      · cases hr
    · cases hr
  · cases hr

/-! ### Conversions -/
theorem bytesOf_inv {t : T} {l : List T} {bs : List UInt8} (h : bytesOf (t :: l) = some bs) : ∃ n r, t = .int .u8 n ∧ bytesOf l = some r ∧ bs = UInt8.ofNat n.toNat :: r := by
  rw [bytesOf.eq_def] at h
  split at h
  · rename_i e; cases e
  · rename_i n l' e
    injection e with e1 e2
    subst e1; subst e2
    cases hb : bytesOf l with
    | none => rw [hb] at h; cases h
    | some r => rw [hb] at h; injection h with h; exact ⟨n, r, rfl, rfl, h.symm⟩
  · cases h
theorem bytesOf_cells : ∀ (l : List T) (bs : List UInt8) (us : List Value), bytesOf l = some bs → REs m 1 l us → ∃ ns : List Int, us = ns.map (Value.int .u8) ∧ bs = ns.map fun n => UInt8.ofNat n.toNat
  | [], bs, us, h, hr => by
    simp only [bytesOf, Option.some.injEq] at h
    simp only [REs] at hr
    subst h; subst hr; exact ⟨[], rfl, rfl⟩
  | t :: l, bs, us, h, hr => by
    obtain ⟨n, r, rfl, h1, rfl⟩ := bytesOf_inv h
    simp only [REs] at hr
    obtain ⟨c, d, rfl, _, hc, hd⟩ := hr
    simp only [RT] at hc; subst hc
    obtain ⟨ns, e1, e2⟩ := bytesOf_cells l r d h1 hd
    exact ⟨n :: ns, by simp [e1], by simp [e2]⟩
end Go.Mg
