/- A law's row: what its arguments are, in plain values; wraps, for plain laws. -/
import Derived.Test.YtdgbpoihgeefiaaDoorRRRMhK
namespace Go.Mg
open Go Go.RowKit Go.ChangeShapes Go.WideShapes

/-- trees of a type are the embedded values that are such -/
def Tyo {α : Type} (ty : Nat → Option TyD) (t : Nat) (e : α → T) (W : α → Prop) : Prop := ∀ n v, typed ty n t v → ∃ a, v = e a ∧ W a
theorem tyo_int {ty : Nat → Option TyD} {t : Nat} {i : TyD} (k : IntKind) (h : ty t = some i) (hd : i.d = .int k) : Tyo ty t (T.int k) (fun x => k.min ≤ x ∧ x ≤ k.max) := by
  intro n v hv
  cases n with
  | zero => simp [typed] at hv
  | succ n =>
    simp only [typed, h, hd] at hv
    obtain ⟨x, rfl, hw⟩ := hv
    simp only [Lit.wf, Bool.and_eq_true, decide_eq_true_eq] at hw
    exact ⟨x, rfl, hw⟩
theorem tyo_bool {ty : Nat → Option TyD} {t : Nat} {i : TyD} (h : ty t = some i) (hd : i.d = .bool) : Tyo ty t T.bool (fun _ => True) := by
  intro n v hv
  cases n with
  | zero => simp [typed] at hv
  | succ n =>
    simp only [typed, h, hd] at hv
    obtain ⟨x, rfl⟩ := hv
    exact ⟨x, rfl, trivial⟩
theorem tyo_str {ty : Nat → Option TyD} {t : Nat} {i : TyD} (h : ty t = some i) (hd : i.d = .str) : Tyo ty t T.str (fun s => s.size ≤ maxLen) := by
  intro n v hv
  cases n with
  | zero => simp [typed] at hv
  | succ n =>
    simp only [typed, h, hd] at hv
    obtain ⟨x, rfl, hx⟩ := hv
    exact ⟨x, rfl, hx⟩
theorem all_ex {α β : Type} {e : α → β} {W : α → Prop} : ∀ l : List β, (∀ u ∈ l, ∃ a, u = e a ∧ W a) → ∃ m : List α, l = m.map e ∧ ∀ x ∈ m, W x
  | [], _ => ⟨[], rfl, by simp⟩
  | u :: l, h => by
    obtain ⟨a, rfl, ha⟩ := h u (by simp)
    obtain ⟨m, rfl, hm⟩ := all_ex l (fun v hv => h v (by simp [hv]))
    exact ⟨a :: m, rfl, by simpa using ⟨ha, hm⟩⟩
theorem tyo_slice {ty : Nat → Option TyD} {t e es : Nat} {i j : TyD} {α : Type} {f : α → T} {W : α → Prop} (h : ty t = some i) (hd : i.d = .slice e) (hj : ty e = some j) (hs : j.size = es) (hf : Tyo ty e f W) : Tyo ty t (eS es f) (fun l => l.length ≤ maxLen ∧ ∀ x ∈ l, W x) := by
  intro n v hv
  cases n with
  | zero => simp [typed] at hv
  | succ n =>
    simp only [typed, h, hd, hj] at hv
    obtain ⟨l, rfl, hl, hu⟩ := hv
    obtain ⟨m, rfl, hm⟩ := all_ex l (fun u hu' => hf n u (hu u hu'))
    exact ⟨m, by rw [hs]; rfl, by simpa using hl, hm⟩
theorem tyo_arr {ty : Nat → Option TyD} {t e es k : Nat} {i j : TyD} {α : Type} {f : α → T} {W : α → Prop} (h : ty t = some i) (hd : i.d = .array k e) (hj : ty e = some j) (hs : j.size = es) (hf : Tyo ty e f W) : Tyo ty t (eA (n := k) es f) (fun a => ∀ x ∈ a.l, W x) := by
  intro n v hv
  cases n with
  | zero => simp [typed] at hv
  | succ n =>
    simp only [typed, h, hd, hj] at hv
    obtain ⟨l, rfl, hl, hu⟩ := hv
    obtain ⟨m, rfl, hm⟩ := all_ex l (fun u hu' => hf n u (hu u hu'))
    exact ⟨⟨m, by simpa using hl⟩, by rw [hs]; rfl, hm⟩
theorem typed_struct {ty : Nat → Option TyD} {t n : Nat} {i : TyD} {fs : List (Nat × Nat)} {v : T} (h : ty t = some i) (hd : i.d = .struct fs) (hv : typed ty n t v) : ∃ m l, v = .tup l ∧ allT (typed ty m) (fs.map (·.1)) l := by
  cases n with
  | zero => simp [typed] at hv
  | succ n =>
    simp only [typed, h, hd] at hv
    obtain ⟨l, rfl, hl⟩ := hv
    exact ⟨n, l, rfl, hl⟩
theorem allT_cons {p : Nat → T → Prop} {t : Nat} {ts : List Nat} {l : List T} (h : allT p (t :: ts) l) : ∃ v l', l = v :: l' ∧ p t v ∧ allT p ts l' := by
  cases l with
  | nil => exact h.elim
  | cons v l' => exact ⟨v, l', rfl, h.1, h.2⟩
theorem allT_nil {p : Nat → T → Prop} {l : List T} (h : allT p [] l) : l = [] := by
  cases l with
  | nil => rfl
  | cons v l' => exact h.elim
theorem typedAll_cons {ty : Nat → Option TyD} {t : Nat} {ts : List Nat} {l : List T} (h : TypedAll ty (t :: ts) l) : ∃ v l', l = v :: l' ∧ (∃ n, typed ty n t v) ∧ TypedAll ty ts l' := by
  cases l with
  | nil => exact h.elim
  | cons v l' => exact ⟨v, l', rfl, h.1, h.2⟩
theorem typedAll_nil {ty : Nat → Option TyD} {l : List T} (h : TypedAll ty [] l) : l = [] := by
  cases l with
  | nil => rfl
  | cons v l' => exact h.elim
theorem trodAll_len {P : Program} {W : World} {H : Type} {enc : TypeId × Value → H} {b : Nat} {sp : Nat → Bool} {hd : Bool} : ∀ {ts : List TypeId} {vs : List Value} {ds : List (DataW H)} {p : List MemPlace}, DataW.TrodAll enc P W b sp hd ts vs ds p → ds.length = ts.length
  | [], [], [], _, _ => rfl
  | t :: ts, v :: vs, d :: ds, _, h => by
    obtain ⟨_, _, _, h2, _⟩ := h
    simp [trodAll_len h2]
  | [], _ :: _, _, _, h => h.elim
  | [], [], _ :: _, _, h => h.elim
  | _ :: _, [], _, _, h => h.elim
  | _ :: _, _ :: _, [], _, h => h.elim
theorem list_cons {α : Type} {l : List α} {n : Nat} (h : l.length = n + 1) : ∃ a r, l = a :: r ∧ r.length = n := by
  cases l with
  | nil => simp at h
  | cons a r => exact ⟨a, r, rfl, by simpa using h⟩
theorem list_nil {α : Type} {l : List α} (h : l.length = 0) : l = [] := List.eq_nil_of_length_eq_zero h
theorem readable_all {P : Program} {l : List TypeId} (h : (l.all fun t => P.readableRec t && decide (t < P.types.size)) = true) : ∀ t ∈ l, P.readableRec t = true ∧ t < P.types.size := by
  intro t ht
  rw [List.all_eq_true] at h
  have := h t ht
  simpa using this
/-! ### wraps, as omega likes them -/
theorem w64_eq (x : Int) : w64 x = x % 18446744073709551616 := by simp [w64, IntKind.wrap, IntKind.signed, IntKind.bits]
theorem w32_eq (x : Int) : w32 x = x % 4294967296 := by simp [w32, IntKind.wrap, IntKind.signed, IntKind.bits]
theorem w8_eq (x : Int) : w8 x = x % 256 := by simp [w8, IntKind.wrap, IntKind.signed, IntKind.bits]
theorem wi_eq (x : Int) (h : -9223372036854775808 ≤ x) (k : x ≤ 9223372036854775807) : wi x = x := by
  simp only [wi, IntKind.wrap, IntKind.signed, IntKind.bits]
  simp only [Bool.true_and, decide_eq_true_eq, show (2 : Int) ^ 64 = 18446744073709551616 from rfl, show (2 : Int) ^ (64 - 1) = 9223372036854775808 from rfl]
  split <;> omega
theorem w64_id {x : Int} (h : 0 ≤ x) (k : x < 18446744073709551616) : w64 x = x := by rw [w64_eq]; omega
theorem tdiv_pos' {a b : Int} (h : 0 ≤ a) : a.tdiv b = a / b := Int.tdiv_eq_ediv_of_nonneg h
theorem tmod_pos' {a b : Int} (h : 0 ≤ a) : a.tmod b = a % b := Int.tmod_eq_emod_of_nonneg h
end Go.Mg
