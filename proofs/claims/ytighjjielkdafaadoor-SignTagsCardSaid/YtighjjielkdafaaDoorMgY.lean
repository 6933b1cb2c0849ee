/- Type tables by a check; the calculus as it is used. -/
import Derived.Test.YtighjjielkdafaaDoorMgX
namespace Go.Mg
open Go.RowKit
variable {P : Program} {E : Env} {C : Ctx} {m m' : Mem} {ρ ρ' : Rho} {w w' : World} {a : Act} {s s' : St} {c : Code} {K : Out → Prop}

mutual
/-- Are these the cells of a tree that hangs on no memory? -/
def okZ : T → List Value → Bool
  | .int k n, [.int k' n'] => decide (k = k') && n == n'
  | .bool b, [.bool b'] => b == b'
  | .str s, [.string s'] => s.data.toList == s'.data.toList
  | .nilp, [.pointer none] => true
  | .nils, [.slice none 0 0] => true
  | .nilf, [.nilFunc] => true
  | .tup l, cs => okZs l cs
  | .arr es n l, cs => l.length == n && okEs es l cs
  | _, _ => false
def okZs : List T → List Value → Bool
  | [], cs => cs.isEmpty
  | t :: l, cs => okZ t (cs.take t.size) && okZs l (cs.drop t.size)
def okEs (es : Nat) : List T → List Value → Bool
  | [], cs => cs.isEmpty
  | t :: l, cs => decide (es ≤ cs.length) && okZ t (cs.take es) && okEs es l (cs.drop es)
end
mutual
theorem okZ_ok : ∀ (t : T) (cs : List Value), okZ t cs = true → RT m t cs
  | .int k n, cs, h => by
    unfold okZ at h
    split at h <;> simp_all [RT]
  | .bool b, cs, h => by
    unfold okZ at h
    split at h <;> simp_all [RT]
  | .str b, cs, h => by
    unfold okZ at h
    split at h <;> simp_all [RT]
    exact ByteArray.ext (by simpa using h.symm)
  | .nilp, cs, h => by
    unfold okZ at h
    split at h <;> simp_all [RT]
  | .ptr _, cs, h => by simp [okZ] at h
  | .nils, cs, h => by
    unfold okZ at h
    split at h <;> simp_all [RT]
  | .slc _ _, cs, h => by simp [okZ] at h
  | .tup l, cs, h => by
    simp only [okZ] at h
    simp only [RT]
    exact okZs_ok l cs h
  | .arr es n l, cs, h => by
    simp only [okZ, Bool.and_eq_true, beq_iff_eq] at h
    simp only [RT]
    exact ⟨h.1, okEs_ok es l cs h.2⟩
  | .fn _, cs, h => by simp [okZ] at h
  | .nilf, cs, h => by
    unfold okZ at h
    split at h <;> simp_all [RT]
theorem okZs_ok : ∀ (l : List T) (cs : List Value), okZs l cs = true → RTs m l cs
  | [], cs, h => by simp only [okZs, List.isEmpty_iff] at h; subst h; rfl
  | t :: l, cs, h => by
    simp only [okZs, Bool.and_eq_true] at h
    simp only [RTs]
    exact ⟨cs.take t.size, cs.drop t.size, (List.take_append_drop _ _).symm, okZ_ok t _ h.1, okZs_ok l _ h.2⟩
theorem okEs_ok (es : Nat) : ∀ (l : List T) (cs : List Value), okEs es l cs = true → REs m es l cs
  | [], cs, h => by simp only [okEs, List.isEmpty_iff] at h; subst h; rfl
  | t :: l, cs, h => by
    simp only [okEs, Bool.and_eq_true, decide_eq_true_eq] at h
    simp only [REs]
    exact ⟨cs.take es, cs.drop es, (List.take_append_drop _ _).symm, by simp; omega, okZ_ok t _ h.1.2, okEs_ok es l _ h.2⟩
end
def okV (t : T) (z : Value) : Bool :=
  match z with
  | .agg a => t.agg && okZ t a.toList
  | z => !t.agg && okZ t [z]
theorem okV_ok {t : T} {z : Value} (h : okV t z = true) : RV0 m ρ (.t t) z := by
  unfold okV at h
  unfold RV0
  split at h
  · simp only [Bool.and_eq_true] at h
    rw [if_pos (by simpa [AV.agg] using h.1)]
    rename_i a
    exact ⟨a.toList, by simp, by simp only [RA]; exact okZ_ok t _ h.2⟩
  · simp only [Bool.and_eq_true, Bool.not_eq_true'] at h
    rw [if_neg (by simp [AV.agg, h.1])]
    simp only [RA]; exact okZ_ok t _ h.2
def descChk (P : Program) (t : Nat) (d : Ty) : Bool :=
  match P.underlying t with
  | some (.int k) => d == .int k
  | some .bool => d == .bool
  | some .string => d == .str
  | some (.pointer e) => d == .ptr e
  | some (.slice e) => d == .slice e
  | some (.func _ _ _) => d == .func
  | some (.struct fields) => d == .struct (fields.toList.map fun f => (f.type, f.offset)) && fields.toList.all fun f => f.name != "_"
  | some (.array n e) => d == .array n e
  | _ => false
def layChk (P : Program) (t : Nat) (d : TyD) : Bool :=
  match d.d with
  | .struct _ => match d.zero, P.underlying t with
    | .tup l, some (.struct fields) => fields.toList.mapM (fun f => (P.info? f.type).map fun i => (f.offset, i.size)) == some (placesOf 0 l)
    | _, _ => false
  | .array n e => match d.zero, P.info? e with
    | .arr es n' _, some j => n == n' && j.size == es
    | _, _ => false
  | _ => true
def tyChk (P : Program) (t : Nat) (d : TyD) : Bool :=
  match P.info? t with
  | some i => match i.zero with
    | some z => i.size == d.size && i.bytes == d.bytes && okV d.zero z && descChk P t d.d && d.zero.size == d.size && layChk P t d && (!d.cmp || (!P.eqGuardType P.depth t && !P.stoodInHeld t))
    | none => false
  | none => false
theorem tyChk_ok {t : Nat} {d : TyD} (h : tyChk P t d = true) : TyOK P t d := by
  unfold tyChk at h
  split at h
  · rename_i i hi
    split at h
    · rename_i z hz
      simp only [Bool.and_eq_true, beq_iff_eq, Bool.or_eq_true, Bool.not_eq_true'] at h
      obtain ⟨⟨⟨⟨⟨⟨h1, h2⟩, h3⟩, h4⟩, h5⟩, h6⟩, h7⟩ := h
      refine ⟨⟨i, hi, h1, h2, z, hz, fun m ρ => okV_ok h3⟩, ?_, h5, ?_, ?_⟩
      · unfold descChk at h4
        split at h4 <;> rename_i e
        · have h8 := eq_of_beq h4
          rw [h8]; exact e
        · have h8 := eq_of_beq h4
          rw [h8]; exact e
        · have h8 := eq_of_beq h4
          rw [h8]; exact e
        · have h8 := eq_of_beq h4
          rw [h8]; exact e
        · have h8 := eq_of_beq h4
          rw [h8]; exact e
        · have h8 := eq_of_beq h4
          rw [h8]; exact ⟨_, _, _, e⟩
        · simp only [Bool.and_eq_true, beq_iff_eq, List.all_eq_true, bne_iff_ne, ne_eq] at h4
          rw [h4.1]; exact ⟨_, e, rfl, h4.2⟩
        · have h8 := eq_of_beq h4
          rw [h8]; exact e
        · cases h4
      · unfold layChk at h6
        split at h6
        · rename_i fs e
          split at h6
          · rename_i l fields e1 e2
            rw [e]
            refine ⟨l, e1, fun fields' hf => ?_⟩
            rw [e2] at hf; injection hf with hf; injection hf with hf; subst hf
            simpa using h6
          · cases h6
        · rename_i n e0 e
          split at h6
          · rename_i es n' l j e1 e2
            simp only [Bool.and_eq_true, beq_iff_eq] at h6
            rw [e]
            obtain ⟨h8, h9⟩ := h6
            subst h8
            exact ⟨es, l, e1, j, e2, h9⟩
          · cases h6
        · rename_i n1 n2
          split
          · rename_i e; exact absurd e (n1 _)
          · rename_i e; exact absurd e (n2 _ _)
          · trivial
      · intro hc
        rcases h7 with h8 | h8
        · rw [hc] at h8; cases h8
        · exact h8
    · cases h
  · cases h
theorem tys_ok {l : List (Nat × TyD)} (h : (l.all fun x => tyChk P x.1 x.2) = true) : ∀ t d, get l t = some d → TyOK P t d := by
  intro t d hg
  rw [List.all_eq_true] at h
  exact tyChk_ok (h _ (get_mem hg))

/-! ### The calculus, as it is used -/
def Then (K : Out → Prop) : Option St → Prop
  | some s => K (.norm s)
  | none => False
theorem Ab.reg (hE : EnvOK P E) (hC : ∀ n g, (n, g) ∈ C.lent → 50000 ≤ n) {id : Nat} {ops : Array Oper} (h : Then K (evOps E ops ops.toList s)) : Ab P E C (.region id ops false) s K := by
  cases he : evOps E ops ops.toList s with
  | none => rw [he] at h; exact h.elim
  | some s1 => rw [he] at h; exact Ab.region hE hC he h
theorem Ab.any (hE : EnvOK P E) (hC : ∀ n g, (n, g) ∈ C.lent → 50000 ≤ n) {id : Nat} {ops : Array Oper} (pre : List Nat) (hok : anyOK ops pre = true) (h : Then K (evAny E ops pre 0 ops.toList [] [] s)) : Ab P E C (.region id ops true) s K := by
  cases he : evAny E ops pre 0 ops.toList [] [] s with
  | none => rw [he] at h; exact h.elim
  | some s1 => rw [he] at h; exact Ab.regionAny hE hC pre hok he h
theorem Ab.tidy {L Kp : List Nat} {R : List (Nat × Nat)} (hL : ∀ n g, (n, g) ∈ C.lent → n ∈ L) (h : Then (fun o => match o with | .norm s1 => Ab P E C c s1 K | _ => False) (s.norm L Kp R)) : Ab P E C c s K := by
  cases he : s.norm L Kp R with
  | none => rw [he] at h; exact h.elim
  | some s1 => rw [he] at h; exact Ab.norm hL he h
end Go.Mg
