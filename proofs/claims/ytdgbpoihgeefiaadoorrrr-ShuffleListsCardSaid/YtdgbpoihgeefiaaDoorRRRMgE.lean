/- What the evaluator's tables must say of the program; the operations that touch no memory. -/
import Derived.Test.YtdgbpoihgeefiaaDoorRRRMgD
import Derived.Laws.StructEq
namespace Go.Mg
open Go.RowKit

/-- where the fields of a struct lie -/
def placesOf : Nat → List T → List (Nat × Nat)
  | _, [] => []
  | o, z :: l => (o, z.size) :: placesOf (o + z.size) l
theorem placesOf_get : ∀ (l : List T) (o i : Nat), (placesOf o l)[i]? = (l[i]?).map fun z => (o + T.sizes (l.take i), z.size)
  | [], _, _ => by simp [placesOf]
  | z :: l, o, 0 => by simp [placesOf, T.sizes]
  | z :: l, o, i + 1 => by simp [placesOf, placesOf_get l, T.sizes, Nat.add_assoc]
/-- The table's row of a type is the program's. -/
structure TyOK (P : Program) (t : Nat) (d : TyD) : Prop where
  info : ∃ i, P.info? t = some i ∧ i.size = d.size ∧ i.bytes = d.bytes ∧ ∃ z, i.zero = some z ∧ ∀ m ρ, RV0 m ρ (.t d.zero) z
  desc : match d.d with
    | .int k => P.underlying t = some (.int k)
    | .bool => P.underlying t = some .bool
    | .str => P.underlying t = some .string
    | .ptr e => P.underlying t = some (.pointer e)
    | .slice e => P.underlying t = some (.slice e)
    | .func => ∃ a b c, P.underlying t = some (.func a b c)
    | .struct fs => ∃ fields : Array Field, P.underlying t = some (.struct fields) ∧ fields.toList.map (fun f => (f.type, f.offset)) = fs ∧ ∀ f ∈ fields.toList, f.name ≠ "_"
    | .array n e => P.underlying t = some (.array n e)
  zsize : d.zero.size = d.size
  lay : match d.d with
    | .struct _ => ∃ l, d.zero = .tup l ∧ ∀ fields : Array Field, P.underlying t = some (.struct fields) → fields.toList.mapM (fun f => (P.info? f.type).map fun i => (f.offset, i.size)) = some (placesOf 0 l)
    | .array n e => ∃ es l, d.zero = .arr es n l ∧ ∃ j, P.info? e = some j ∧ j.size = es
    | _ => True
  cmp : d.cmp = true → P.eqGuardType P.depth t = false ∧ P.stoodInHeld t = false

theorem TyOK.agg {P : Program} {t : Nat} {d : TyD} (h : TyOK P t d) (w : World) : (isAgg t).run P w = .ok d.d.agg w := by
  have := h.desc
  cases e : d.d with
  | func => rw [e] at this; obtain ⟨_, _, _, h⟩ := this; simp [isAgg, run_underlying h, Ty.agg]
  | struct fs => rw [e] at this; obtain ⟨_, h, _⟩ := this; simp [isAgg, run_underlying h, Ty.agg]
  | _ => rw [e] at this; simp [isAgg, run_underlying this, Ty.agg]
theorem TyOK.sizeOf {P : Program} {t : Nat} {d : TyD} (h : TyOK P t d) (w : World) : (Go.sizeOf t).run P w = .ok d.size w := by
  obtain ⟨i, hi, h1, _⟩ := h.info
  simp [Go.sizeOf, typeInfo, hi, h1]
theorem TyOK.zero {P : Program} {t : Nat} {d : TyD} (h : TyOK P t d) (w : World) : ∃ z, (zeroValue t).run P w = .ok z w ∧ ∀ m ρ, RV0 m ρ (.t d.zero) z := by
  obtain ⟨i, hi, _, _, z, hz, hr⟩ := h.info
  exact ⟨z, by simp [zeroValue, typeInfo, hi, hz], hr⟩

/-! ### The ends of a call -/
abbrev ρ0 : Rho := fun _ => undef
def packV : List Value → Value
  | [v] => v
  | l => .tuple l.toArray
def ArgsOK (m : Mem) (w : World) : List Bool → List T → List Value → List Nat → Prop
  | _, [], vs, gs => vs = [] ∧ gs = []
  | true :: bs, c :: ts, vs, gs => ∃ v vs' g gs' cs t, vs = v :: vs' ∧ gs = g :: gs' ∧ v = .pointer (some ⟨g, 0, none⟩) ∧ w.heap[g]? = some (.cells cs t (0, 0)) ∧ RT m c cs.toList ∧ (∀ i, m g i = none) ∧
      ArgsOK m w bs ts vs' gs'
  | false :: bs, c :: ts, vs, gs => ∃ v vs', vs = v :: vs' ∧ RV0 m ρ0 (.t c) v ∧ ArgsOK m w bs ts vs' gs
  | [], c :: ts, vs, gs => ∃ v vs', vs = v :: vs' ∧ RV0 m ρ0 (.t c) v ∧ ArgsOK m w [] ts vs' gs
/-- the blocks of the rows among the results -/
def rowBlks : List RR → List Value → List Nat
  | .tree _ :: rs, _ :: xs => rowBlks rs xs
  | .row _ _ _ :: rs, x :: xs => (blk x).toList ++ rowBlks rs xs
  | _, _ => []
def ResOK (m : Mem) (w : World) (base : Nat) : List RR → List Value → Prop
  | [], xs => xs = []
  | .tree t :: rs, xs => ∃ x xs', xs = x :: xs' ∧ RV0 m ρ0 (.t t) x ∧ ResOK m w base rs xs'
  | .row ty es l :: rs, xs => ∃ x xs' us, xs = x :: xs' ∧ w.ownsRow base ty es x l.length us ∧ REs m es l us ∧ (∀ g, blk x = some g → ∀ i, m g i = none) ∧ ResOK m w base rs xs'
def LentOK (m : Mem) (w w' : World) : List T → List Nat → Prop
  | [], gs => gs = []
  | u :: us, gs => ∃ g gs' cs cs' t t', gs = g :: gs' ∧ w.heap[g]? = some (.cells cs t (0, 0)) ∧ w'.heap[g]? = some (.cells cs' t' (0, 0)) ∧ cs'.size = cs.size ∧ RT m u cs'.toList ∧ (∀ i, m g i = none) ∧ LentOK m w w' us gs'
/-- Nothing that was there has turned but the lent blocks. -/
structure But (w w' : World) (gs : List Nat) : Prop where
  os : w'.os = w.os
  tape : w'.tape = w.tape
  output : w'.output = w.output
  size : w.heap.size ≤ w'.heap.size
  block : ∀ b, b < w.heap.size → b ∉ gs → w'.heap[b]? = w.heap[b]?
/-- memory as it reads in a world -/
def Mem.ok (m : Mem) (w : World) : Prop := ∀ b i v, m b i = some v → w.cell? ⟨b, i, none⟩ = some v
/-- The package-level variables that the evaluator knows lie in memory that is never written. -/
def GlobOK (glob : Nat → Option T) (m : Mem) : Prop := ∀ g t, glob g = some t → ∃ us, RT m t us ∧ At m g 0 us
/-- A function with a body does what its specification says. -/
def SpecB (P : Program) (glob : Nat → Option T) (f : Nat) (sp : Spec) : Prop :=
  (∃ fn c, P.funcs[f]? = some fn ∧ fn.body = some c ∧ fn.name ≠ "runtime.NumGoroutine") ∧
  ∀ (m : Mem) (w : World) (ts : List T) (vs : List Value) (gs : List Nat) (rs : List RR) (us : List T), m.ok w → GlobOK glob m → ArgsOK m w sp.lent ts vs gs → gs.Nodup → sp.fn ts = some (rs, us) →
    Calls P f vs.toArray w fun e w' => ∃ m' xs, e = .returned (packV xs) ∧ Sub m m' ∧ m'.ok w' ∧ (∀ b i v, m' b i = some v → m b i = some v ∨ w.heap.size ≤ b) ∧
      ResOK m' w' w.heap.size rs xs ∧ (rowBlks rs xs).Nodup ∧ LentOK m' w w' us gs ∧ But w w' gs
/-- One without a body: it gives numbers and the like. -/
def SpecX (P : Program) (f : Nat) (sp : Spec) : Prop :=
  sp.lent = [] ∧ ∀ (m : Mem) (w : World) (ts : List T) (vs : List Value) (rs : List RR) (us : List T), ArgsOK m w [] ts vs [] → sp.fn ts = some (rs, us) →
    us = [] ∧ ∃ xs, (callFunc f vs.toArray).run P w = .ok (.value (packV xs)) w ∧ ResOK m w w.heap.size rs xs ∧ rowBlks rs xs = []
/-- A function does what its specification says. -/
def SpecOK (P : Program) (glob : Nat → Option T) (f : Nat) (sp : Spec) : Prop := (SpecB P glob f sp ∨ SpecX P f sp) ∧ (sp.flat = true → ∀ ts rs us, sp.fn ts = some (rs, us) → RR.flats rs = true ∧ T.flats us = true)
structure EnvOK (P : Program) (E : Env) : Prop where
  ty : ∀ t d, E.ty t = some d → TyOK P t d
  mixed : P.follows .mixedOrders = true
  fns : ∀ f sp, E.fns f = some sp → SpecOK P E.glob f sp

/-- The temporaries. -/
structure TS (E : Env) (tm : List (Nat × AV)) (ob : Nat → Option Ob) (m : Mem) (ρ : Rho) (a : Act) : Prop where
  defers : a.defers = []
  size : a.tmps.size = E.ntmps
  tmps : ∀ i, RV m ρ ((get tm i).getD .bad) (a.tmps.getD i undef)
  names : ∀ i, ∀ n ∈ ((get tm i).getD .bad).names, ob n ≠ none

def updf (ob : Nat → Option Ob) : List (Nat × Ob) → Nat → Option Ob
  | [] => ob
  | (n, o) :: r => updf (upd ob n o) r
theorem get_sets {α : Type} : ∀ (r l : List (Nat × α)) (k : Nat), get (sets l r) k = (r.foldl (fun f x => upd f x.1 x.2) (get l)) k
  | [], l, k => rfl
  | x :: r, l, k => by
    simp only [sets, List.foldl_cons]
    rw [get_sets r]
    rfl
theorem updf_eq : ∀ (r : List (Nat × Ob)) (ob : Nat → Option Ob), updf ob r = r.foldl (fun f x => upd f x.1 x.2) ob
  | [], _ => rfl
  | x :: r, ob => by simp only [updf, List.foldl_cons]; exact updf_eq r _
theorem updf_append : ∀ (r s : List (Nat × Ob)) (ob : Nat → Option Ob), updf ob (r ++ s) = updf (updf ob r) s
  | [], _, _ => rfl
  | x :: r, s, ob => by simp only [List.cons_append, updf]; exact updf_append r s _
theorem updf_none : ∀ (r : List (Nat × Ob)) (ob : Nat → Option Ob) (n : Nat), ob n ≠ none → updf ob r n ≠ none
  | [], _, _, h => h
  | x :: r, ob, n, h => updf_none r _ n (upd_none h)

/-- What one operation does to the machine, as the evaluator says. -/
def Agree (ob : Nat → Option Ob) (ρ ρ' : Rho) : Prop := ∀ n, ob n ≠ none → ρ' n = ρ n
theorem Agree.refl (ob : Nat → Option Ob) (ρ : Rho) : Agree ob ρ ρ := fun _ _ => rfl
theorem Agree.updr {ob : Nat → Option Ob} {ρ : Rho} {d : Nat} {v : Value} (hd : ob d = none) : Agree ob ρ (updr ρ d v) := by
  intro n hn
  exact updr_other _ _ (by rintro rfl; exact hn hd)
def Runs (P : Program) (C : Ctx) (ob : Nat → Option Ob) (m : Mem) (ρ : Rho) (w : World) (o : Oper) (a : Act) (r : Res) : Prop :=
  ∃ nx x m' ρ' w', (execOp a.eval o).run P w = .ok nx w' ∧ (nx = .value x ∨ (nx = .skip ∧ x = undef)) ∧ Sub m m' ∧ Agree ob ρ ρ' ∧ MS C (updf ob r.wr) m' ρ' w' ∧ RV m' ρ' r.v x ∧ ∀ n ∈ r.v.names, updf ob r.wr n ≠ none
def Step (P : Program) (C : Ctx) (ob : Nat → Option Ob) (m : Mem) (ρ : Rho) (w : World) (o : Oper) (a : Act) (r : Res) : Prop :=
  ∀ (K : Act → World → Prop) (Q : Exit → Act → World → Prop),
    (∀ x m' ρ' w', Sub m m' → Agree ob ρ ρ' → MS C (updf ob r.wr) m' ρ' w' → RV m' ρ' r.v x → (∀ n ∈ r.v.names, updf ob r.wr n ≠ none) → K (a.put o.dst x) w') → o.wp P a w K Q
theorem Runs.step {P : Program} {C : Ctx} {ob : Nat → Option Ob} {m : Mem} {ρ : Rho} {w : World} {o : Oper} {a : Act} {r : Res} (h : Runs P C ob m ρ w o a r) : Step P C ob m ρ w o a r := by
  intro K Q hK
  obtain ⟨nx, x, m', ρ', w', hrun, hnx, h1, h2, h3, h4, h5⟩ := h
  unfold Oper.wp
  rw [hrun]
  rcases hnx with rfl | ⟨rfl, rfl⟩
  · exact hK x m' ρ' w' h1 h2 h3 h4 h5
  · exact hK undef m' ρ' w' h1 h2 h3 h4 h5

variable {P : Program} {E : Env} {C : Ctx} {ob obr : Nat → Option Ob} {m : Mem} {ρ : Rho} {w : World} {o : Oper} {a : Act} {r : Res}
/-- An operation that gives a value and leaves the world. -/
theorem Runs.pure (h : MS C ob m ρ w) {x : Value} {v : AV} (hrun : (execOp a.eval o).run P w = .ok (.value x) w) (hr : RV m ρ v x) (hn : ∀ n ∈ v.names, ob n ≠ none) : Runs P C ob m ρ w o a ⟨v, []⟩ :=
  ⟨_, x, m, ρ, w, hrun, .inl rfl, Sub.refl m, Agree.refl _ _, h, hr, hn⟩

/-- what stands for an operand -/
structure OpdOK (ob : Nat → Option Ob) (m : Mem) (ρ : Rho) (v : AV) (x : Value) : Prop where
  rv : RV m ρ v x
  names : ∀ n ∈ v.names, ob n ≠ none
theorem const_ok (m : Mem) (ρ : Rho) (v : Value) : RV m ρ (constAV v) v := by
  unfold constAV
  split <;> simp [RV, RV0, AV.agg, T.agg, RA, RT]
theorem const_names (v : Value) : (constAV v).names = [] := by
  unfold constAV
  split <;> rfl
theorem rv0_t {ρ' : Rho} {t : T} {x : Value} (h : RV0 m ρ (.t t) x) : RV0 m ρ' (.t t) x := h.mono (Sub.refl m) (by simp [AV.names])
theorem rv_scal {t : T} {x : Value} (ha : t.agg = false) : RV m ρ (.t t) x ↔ RT m t [x] := by
  simp [RV, RV0, AV.agg, ha, RA]
theorem eval_ok {tm : List (Nat × AV)} (hT : TS E tm ob m ρ a) (hG : GlobOK E.glob m) (x : Operand) : OpdOK ob m ρ (evalAV E tm x) (a.eval x) := by
  cases x with
  | tmp t => exact ⟨hT.tmps t, hT.names t⟩
  | const v => exact ⟨const_ok m ρ v, by simp [evalAV, const_names]⟩
  | global g =>
    cases hg : E.glob g with
    | none => exact ⟨by simp [evalAV, hg, RV], by simp [evalAV, hg, AV.names]⟩
    | some t =>
      obtain ⟨us, h1, h2⟩ := hG g t hg
      refine ⟨?_, by simp [evalAV, hg, AV.names]⟩
      simp only [evalAV, hg]
      rw [rv_scal rfl]
      simp only [RT, Act.eval]
      exact ⟨g, 0, us, rfl, h1, h2⟩
  | func f => exact ⟨by simp [evalAV, T.agg, RT, Act.eval, RV, RV0, AV.agg, RA], by simp [evalAV, AV.names]⟩

theorem opMove_ok (h : MS C ob m ρ w) {x : Operand} (ho : o.op = .move x ∨ o.op = .assign x) {v : AV} (hv : OpdOK ob m ρ v (a.eval x)) (hr : opMove [v] = some r) : Runs P C ob m ρ w o a r := by
  simp [opMove] at hr; subst hr
  refine .pure h (x := a.eval x) ?_ hv.rv hv.names
  rcases ho with e | e <;> simp [execOp, e]
theorem opPick_ok (h : MS C ob m ρ w) {c x y : Operand} (ho : o.op = .pick c x y) {vc vx vy : AV} (hc : OpdOK ob m ρ vc (a.eval c)) (hx : OpdOK ob m ρ vx (a.eval x)) (hy : OpdOK ob m ρ vy (a.eval y))
    (hr : opPick [vc, vx, vy] = some r) : Runs P C ob m ρ w o a r := by
  unfold opPick at hr
  split at hr
  · rename_i b u v e
    simp only [List.cons.injEq, and_true] at e
    obtain ⟨rfl, rfl, rfl⟩ := e
    simp at hr; subst hr
    have hc' := hc.rv
    simp [RV, RV0, AV.agg, T.agg, RA, RT] at hc'
    cases b
    · exact .pure h (x := a.eval y) (by simp [execOp, ho, hc', asBool]) hy.rv hy.names
    · exact .pure h (x := a.eval x) (by simp [execOp, ho, hc', asBool]) hx.rv hx.names
  · cases hr

theorem rv_int {k : IntKind} {n : Int} {x : Value} (h : RV m ρ (.t (.int k n)) x) : x = .int k n := by simpa [RV, RV0, AV.agg, T.agg, RA, RT] using h
theorem rv_bool {b : Bool} {x : Value} (h : RV m ρ (.t (.bool b)) x) : x = .bool b := by simpa [RV, RV0, AV.agg, T.agg, RA, RT] using h
theorem rv_str {b : ByteArray} {x : Value} (h : RV m ρ (.t (.str b)) x) : x = .string b := by simpa [RV, RV0, AV.agg, T.agg, RA, RT] using h

theorem bits_run (op : BinOp) (k : IntKind) (x y : Int) (hop : op = .and ∨ op = .or ∨ op = .xor ∨ op = .andNot) : (Op.intBits op k x y).run P w = .ok (.int k (bits op k x y)) w := by
  rcases hop with rfl | rfl | rfl | rfl <;> rfl
theorem intOp_run {op : BinOp} {k : IntKind} {x y : Int} {t : T} (h : intOp op k x y = some t) (h1 : op ≠ .shl) (h2 : op ≠ .shr) (ty : TypeId) : ∃ v, (Go.binOp op ty (.int k x) (.int k y)).run P w = .ok v w ∧ RV m ρ (.t t) v := by
  have fin : ∀ (t' : T) (v : Value), t'.agg = false → RT m t' [v] → t = t' → (Go.binOp op ty (.int k x) (.int k y)).run P w = .ok v w → ∃ v, (Go.binOp op ty (.int k x) (.int k y)).run P w = .ok v w ∧ RV m ρ (.t t) v := by
    rintro t' v ha hr rfl hrun
    exact ⟨v, hrun, (rv_scal ha).2 hr⟩
  cases op <;> simp [intOp] at h h1 h2
  case quo => exact fin _ _ rfl (by simp [RT]; rfl) h.2.symm (by simp [Go.binOp, Op.intDiv, h.1])
  case rem => exact fin _ _ rfl (by simp [RT]; rfl) h.2.symm (by simp [Go.binOp, Op.intDiv, h.1])
  all_goals exact fin _ _ rfl (by simp [RT]; rfl) h.symm (by simp [Go.binOp, Op.intArith, Op.intCmp, Op.intBits, bits])
theorem shift_run {op : BinOp} {k k' : IntKind} {x y : Int} {t : T} (h : shiftOp op k x y = some t) (ty : TypeId) : ∃ v, (Go.binOp op ty (.int k x) (.int k' y)).run P w = .ok v w ∧ RV m ρ (.t t) v := by
  unfold shiftOp at h
  split at h
  · cases h
  · rename_i hy
    cases op <;> simp at h <;> subst h
    · refine ⟨.int k (k.wrap (x * 2 ^ min y.toNat k.bits)), ?_, (rv_scal rfl).2 (by simp [RT])⟩
      simp [Go.binOp, Op.shift, hy]
    · refine ⟨.int k (x.fdiv (2 ^ min y.toNat k.bits)), ?_, (rv_scal rfl).2 (by simp [RT])⟩
      simp [Go.binOp, Op.shift, hy]
theorem eqOp_ok {op : BinOp} {b : Bool} {t : T} (h : eqOp op b = some t) : (op = .eql ∧ t = .bool b) ∨ (op = .neq ∧ t = .bool !b) := by
  cases op <;> simp [eqOp] at h <;> simp [h]
theorem isTy_ok (hE : EnvOK P E) {ty : Nat} {d : Ty} (h : isTy E ty d = true) : ∃ i, TyOK P ty i ∧ i.d = d := by
  unfold isTy at h
  split at h
  · rename_i i hi; exact ⟨i, hE.ty _ _ hi, by simpa using h⟩
  · cases h
theorem nilOf_ok {v : AV} {x : Value} {b : Bool} (h : nilOf v = some b) (hr : RV m ρ v x) : (b = true ∧ x = .pointer none) ∨ (b = false ∧ ∃ a, x = .pointer (some a)) := by
  cases v with
  | t v =>
    cases v <;> simp [nilOf] at h
    case nilp => subst h; left; rw [rv_scal rfl] at hr; simpa [RT] using hr
    case ptr u =>
      subst h; right
      rw [rv_scal rfl] at hr
      simp only [RT] at hr
      obtain ⟨b, o, us, e, _⟩ := hr
      simp at e
      exact ⟨rfl, _, e⟩
  | ref n p off =>
    simp [nilOf] at h; subst h; right
    simp only [RV, RV0, AV.agg, RA] at hr
    obtain ⟨g, _, e⟩ := hr
    simp at e
    exact ⟨rfl, _, e⟩
  | _ => simp [nilOf] at h
/-- '==' and '!=' on what is neither a number nor a string, by Op.equal -/
theorem eqRun {op : BinOp} {b : Bool} {t : T} (h : eqOp op b = some t) {ty : TypeId} {x y : Value} (hx : ∀ k n, x ≠ .int k n) (hxs : ∀ s, x ≠ .string s) (hxf : ∀ k n, x ≠ .float k n) (hxc : ∀ k n n', x ≠ .complex k n n')
    (he : (Op.equal ty x y).run P w = .ok b w) : ∃ v, (Go.binOp op ty x y).run P w = .ok v w ∧ RV m ρ (.t t) v := by
  rcases eqOp_ok h with ⟨rfl, rfl⟩ | ⟨rfl, rfl⟩
  · refine ⟨.bool b, ?_, (rv_scal rfl).2 (by simp [RT])⟩
    cases x <;> simp_all [Go.binOp]
  · refine ⟨.bool !b, ?_, (rv_scal rfl).2 (by simp [RT])⟩
    cases x <;> simp_all [Go.binOp]


/-! ### == on structs and arrays -/
/-- A part of a struct or an array. -/
theorem run_part_at {t : Nat} {d : TyD} (h : TyOK P t d) {cs : List Value} {off : Nat} {v : AV} (hr : RA m ρ v ((cs.drop off).take d.size)) (hl : off + d.size ≤ cs.length) (ha : v.agg = d.d.agg) (hs : v.size = d.size) :
    ∃ x, (part t cs.toArray off).run P w = .ok x w ∧ RV0 m ρ v x := by
  unfold part
  simp only [Sem.run_bind, h.agg w, Result.andThen_ok]
  cases hd : d.d.agg with
  | true =>
    simp only [if_true, Sem.run_bind, h.sizeOf w, Result.andThen_ok, Sem.run_pure]
    refine ⟨_, rfl, ?_⟩
    unfold RV0
    rw [if_pos (by rw [ha, hd])]
    refine ⟨(cs.drop off).take d.size, ?_, hr⟩
    rw [List.extract_toArray]
    simp [List.extract_eq_take_drop]
  | false =>
    obtain ⟨x, hx⟩ := hr.single (by rw [ha, hd])
    have hn := RA.len _ _ hr
    rw [hx] at hn
    simp at hn
    have h1 : cs[off]? = some x := by
      have : ((cs.drop off).take d.size)[0]? = some x := by rw [hx]; rfl
      rw [List.getElem?_take, if_pos (by omega), List.getElem?_drop] at this
      simpa using this
    refine ⟨x, by simp [h1], ?_⟩
    unfold RV0
    rw [if_neg (by simp [ha, hd])]
    rw [hx] at hr
    exact hr
end Go.Mg
