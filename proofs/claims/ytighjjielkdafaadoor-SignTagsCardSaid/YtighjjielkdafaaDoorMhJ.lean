/- Plain values: arrays, the embedding of lists, arrays, pointers; what the walks lean on. -/
import Derived.Test.YtighjjielkdafaaDoorMhI
namespace Go.Mg
open Go

/-- An array of a length. -/
structure Arr (n : Nat) (α : Type) where
  l : List α
  h : l.length = n
theorem Arr.ext {n : Nat} {α : Type} : ∀ {a b : Arr n α}, a.l = b.l → a = b
  | ⟨_, _⟩, ⟨_, _⟩, rfl => rfl
instance {n : Nat} {α : Type} [DecidableEq α] : DecidableEq (Arr n α) := fun a b => if h : a.l = b.l then isTrue (Arr.ext h) else isFalse (fun e => h (by rw [e]))
def Arr.rep (n : Nat) {α : Type} (x : α) : Arr n α := ⟨List.replicate n x, by simp⟩
def Arr.set {n : Nat} {α : Type} (a : Arr n α) (i : Nat) (x : α) : Arr n α := ⟨a.l.set i x, by simp [a.h]⟩
def Arr.put {n : Nat} {α : Type} (a : Arr n α) (l : List α) : Arr n α := if h : l.length = n then ⟨l, h⟩ else a
theorem Arr.put_l {n : Nat} {α : Type} (a : Arr n α) {l : List α} (h : l.length = n) : (a.put l).l = l := by simp [Arr.put, h]
/-- what copy leaves -/
def over {α : Type} (a : List α) (lo len : Nat) (r : List α) : List α := a.take lo ++ (r.take len ++ a.drop (lo + min r.length len))
theorem over_length {α : Type} {a : List α} {lo len : Nat} {r : List α} (h : lo + len ≤ a.length) : (over a lo len r).length = a.length := by
  simp only [over, List.length_append, List.length_take, List.length_drop]; omega
theorem over_map {α β : Type} (f : α → β) {a : List α} {lo len : Nat} {r : List α} : over (a.map f) lo len (r.map f) = (over a lo len r).map f := by
  simp only [over, List.map_append, List.map_take, List.map_drop, List.length_map]

def w64 (x : Int) : Int := IntKind.u64.wrap x
def w32 (x : Int) : Int := IntKind.u32.wrap x
def w16 (x : Int) : Int := IntKind.u16.wrap x
def w8 (x : Int) : Int := IntKind.u8.wrap x
def wi (x : Int) : Int := IntKind.i64.wrap x
def shl (k : IntKind) (x y : Int) : Int := k.wrap (x * 2 ^ (min y.toNat k.bits))
def shr (k : IntKind) (x y : Int) : Int := x.fdiv (2 ^ (min y.toNat k.bits))
def gmin (x y : Int) : Int := if y < x then y else x
def gmax (x y : Int) : Int := if y > x then y else x

def eA {n : Nat} {α : Type} (es : Nat) (f : α → T) (a : Arr n α) : T := .arr es n (a.l.map f)
def eS {α : Type} (es : Nat) (f : α → T) (l : List α) : T := .slc es (l.map f)
def eP {α : Type} (f : α → T) : Option α → T
  | none => .nilp
  | some a => .ptr (f a)

/-! ### one to one -/
theorem inj_int (k : IntKind) : Inj (T.int k) := by
  intro t a b h1 h2
  cases t <;> simp [leT] at h1 h2
  omega
theorem inj_bool : Inj T.bool := by
  intro t a b h1 h2
  cases t <;> simp [leT] at h1 h2
  rw [← h1, ← h2]
theorem inj_str : Inj T.str := by
  intro t a b h1 h2
  cases t <;> simp [leT] at h1 h2
  rw [← h1, ← h2]
theorem Inj.one {α : Type} {f : α → T} (hf : Inj f) : ∀ a b, f a = f b → a = b := fun a b h => hf (f a) a b (leT.refl _) (by rw [h]; exact leT.refl _)
theorem Inj.map {α : Type} {f : α → T} (hf : Inj f) : ∀ {a b : List α}, a.map f = b.map f → a = b
  | [], [], _ => rfl
  | x :: a, y :: b, h => by
    simp only [List.map_cons, List.cons.injEq] at h
    rw [hf.one _ _ h.1, hf.map h.2]
  | [], _ :: _, h => by simp at h
  | _ :: _, [], h => by simp at h
theorem inj_eA {n : Nat} {α : Type} {es : Nat} {f : α → T} (hf : Inj f) : Inj (eA (n := n) es f) := by
  intro t a b h1 h2
  cases t <;> simp [leT, eA] at h1 h2
  exact Arr.ext (hf.map (h1.2.2.symm.trans h2.2.2))
theorem inj_eS {α : Type} {es : Nat} {f : α → T} (hf : Inj f) : Inj (eS es f) := by
  intro t a b h1 h2
  cases t <;> simp [leT, eS] at h1 h2
  · rw [h1, h2]
  · exact hf.map (h1.2.symm.trans h2.2)
theorem inj_eP {α : Type} {f : α → T} (hf : Inj f) : Inj (eP f) := by
  intro t a b h1 h2
  cases a <;> cases b <;> cases t <;> simp [leT, eP] at h1 h2
  · rfl
  · rw [hf.one _ _ (h1.symm.trans h2)]
theorem injA0 : InjA (fun _ : Unit => []) := fun _ _ _ _ _ => rfl
theorem InjA.cons {α β : Type} {e : α → T} {f : β → List T} (h : Inj e) (k : InjA f) : InjA (fun x : α × β => e x.1 :: f x.2) := by
  rintro t ⟨a, b⟩ ⟨a', b'⟩ h1 h2
  obtain ⟨x, l, rfl, p1, p2⟩ := leTs_cons h1
  obtain ⟨x', l', e, q1, q2⟩ := leTs_cons h2
  simp only [List.cons.injEq] at e
  obtain ⟨rfl, rfl⟩ := e
  have e1 : a = a' := h _ _ _ p1 q1
  have e2 : b = b' := k _ _ _ p2 q2
  rw [e1, e2]
theorem InjA.one {α : Type} {e : α → T} (h : Inj e) : InjA (fun x : α => [e x]) := by
  rintro t a b h1 h2
  obtain ⟨x, l, rfl, p1, p2⟩ := leTs_cons h1
  obtain ⟨x', l', e, q1, q2⟩ := leTs_cons h2
  simp only [List.cons.injEq] at e
  obtain ⟨rfl, rfl⟩ := e
  exact h _ _ _ p1 q1
theorem leT_of_eq {a b : T} (h : a = b) : leT a b := by rw [h]; exact leT.refl _

/-! ### flat -/
theorem flats_map {α : Type} {f : α → T} (h : ∀ a, (f a).flat = true) : ∀ l : List α, T.flats (l.map f) = true
  | [] => rfl
  | a :: l => by simp only [List.map_cons, T.flats, h a, flats_map h l, Bool.and_self]
theorem flat_eA {n : Nat} {α : Type} {es : Nat} {f : α → T} (h : ∀ a, (f a).flat = true) (a : Arr n α) : (eA es f a).flat = true := by
  simp only [eA, T.flat]; exact flats_map h _

/-! ### comparisons -/
/-- == of two embedded values -/
structure Cmp {α : Type} [DecidableEq α] (ty : Nat → Option TyD) (t : Nat) (d : Nat) (f : α → T) : Prop where
  eq : ∀ a b, eqv (f a) (f b) = some (decide (a = b))
  fit : ∀ a n, fits ty (n + d) (f a) t = true
theorem cmp_int {ty : Nat → Option TyD} {t : Nat} (k : IntKind) {i : TyD} (h : ty t = some i) (hd : i.d = .int k) : Cmp ty t 1 (T.int k) := by
  refine ⟨fun a b => ?_, fun a n => ?_⟩
  · simp only [eqv, if_true]; congr 1
  · simp only [fits, h, hd]; simp
theorem cmp_bool {ty : Nat → Option TyD} {t : Nat} {i : TyD} (h : ty t = some i) (hd : i.d = .bool) : Cmp ty t 1 T.bool := by
  refine ⟨fun a b => ?_, fun a n => ?_⟩
  · simp only [eqv]; cases a <;> cases b <;> rfl
  · simp only [fits, h, hd]; rfl
theorem eqvs_map {α : Type} [DecidableEq α] {f : α → T} (h : ∀ a b, eqv (f a) (f b) = some (decide (a = b))) : ∀ (a b : List α), a.length = b.length → eqvs (a.map f) (b.map f) = some (decide (a = b))
  | [], [], _ => rfl
  | x :: a, y :: b, hl => by
    have := eqvs_map h a b (by simpa using hl)
    simp only [List.map_cons, eqvs, h, this, List.cons.injEq, Bool.decide_and]
  | [], _ :: _, h => by simp at h
  | _ :: _, [], h => by simp at h
theorem fitsA_map {α : Type} {ty : Nat → Option TyD} {t d n es : Nat} {f : α → T} (h : ∀ a, fits ty n (f a) t = true) : ∀ a : List α, fitsA ty n es (a.map f) t = true
  | [] => by simp [fitsA]
  | x :: a => by simp only [List.map_cons, fitsA, h, fitsA_map (d := d) h a, Bool.and_self]
theorem cmp_eA {n : Nat} {α : Type} [DecidableEq α] {ty : Nat → Option TyD} {t e d es : Nat} {f : α → T} {i j : TyD} (h : ty t = some i) (hd : i.d = .array n e) (hj : ty e = some j) (hs : j.size = es) (hc : Cmp ty e d f) : Cmp ty t (d + 1) (eA (n := n) es f) := by
  refine ⟨fun a b => ?_, fun a m => ?_⟩
  · simp only [eA, eqv, and_self, if_true]
    rw [eqvs_map hc.eq _ _ (a.h.trans b.h.symm)]
    congr 1
    apply decide_eq_decide.2
    exact ⟨Arr.ext, fun h => by rw [h]⟩
  · show fits ty (m + d + 1) _ t = true
    simp only [eA, fits, h, hd, hj, hs, beq_self_eq_true, Bool.true_and]
    exact fitsA_map (d := d) (fun x => hc.fit x m) _
/-- the fields of a struct -/
theorem fitsS_cons {ty : Nat → Option TyD} {m : Nat} {x : T} {l : List T} {ft fo o : Nat} {fs : List (Nat × Nat)} {j : TyD} (ho : o = fo) (hj : ty ft = some j) (hs : j.size = x.size) (hx : fits ty m x ft = true) (hl : fitsS ty m l fs (o + x.size) = true) : fitsS ty m (x :: l) ((ft, fo) :: fs) o = true := by
  simp only [fitsS, ho, hj, hs, hx, Option.map_some, beq_self_eq_true, Bool.true_and]
  rw [← ho]; exact hl
theorem bin_eq {E : Env} {α : Type} [DecidableEq α] {t d : Nat} {f : α → T} {i : TyD} (h : E.ty t = some i) (hc : i.cmp = true) (hd : d ≤ 20) (hcmp : Cmp E.ty t d f) (hag : ∀ a, (f a).agg = true) (op : BinOp) (hop : op = .eql ∨ op = .neq) (a b : α) : binOp E op t (.t (f a)) (.t (f b)) = eqOp op (decide (a = b)) := by
  have h1 := hcmp.fit a (20 - d)
  have h2 := hcmp.fit b (20 - d)
  have h3 := hcmp.eq a b
  have ha := hag a
  have hb := hag b
  rw [Nat.sub_add_cancel hd] at h1 h2
  cases hfa : f a <;> rw [hfa] at ha h1 h3 <;> simp [T.agg] at ha <;> cases hfb : f b <;> rw [hfb] at hb h2 h3 <;> simp [T.agg] at hb
  case tup.tup l r =>
    simp only [eqv] at h3
    simp [binOp, h1, h2, h, hc, h3]
  case arr.arr =>
    simp [binOp, h1, h2, h, hc, h3]
  all_goals simp [eqv] at h3

/-! ### lists -/
theorem len_map {α β : Type} (f : α → β) (l : List α) : (((l.map f).length : Nat) : Int) = (l.length : Int) := by simp
theorem len_of {α β : Type} {f : α → β} {t : List β} {l : List α} (h : t = l.map f) : ((t.length : Nat) : Int) = (l.length : Int) := by rw [h]; simp
theorem at_map {α β : Type} {f : α → β} {l : List α} {i : Nat} {v : α} (h : l[i]? = some v) : (l.map f)[i]? = some (f v) := by simp [h]
theorem at_of {α β : Type} {f : α → β} {t : List β} {l : List α} {i : Nat} {v : α} (ht : t = l.map f) (h : l[i]? = some v) : t[i]? = some (f v) := by simp [ht, h]
theorem set_map {α β : Type} {f : α → β} {l : List α} {i : Nat} {v : α} : (l.map f).set i (f v) = (l.set i v).map f := List.map_set.symm
theorem app_of {α β : Type} {f : α → β} {t u : List β} {l r : List α} (h : t = l.map f) (k : u = r.map f) : t ++ u = (l ++ r).map f := by rw [h, k, List.map_append]
theorem app_b {α β : Type} {f : α → β} {t u : List β} {l r : List α} {b : Nat} (h : t = l.map f) (k : u = r.map f) (hb : (l.length + r.length) * b ≤ maxBytes) : (t.length + u.length) * b ≤ maxBytes := by rw [h, k]; simpa using hb
theorem app_c {α β : Type} {f : α → β} {t u : List β} {l r : List α} {b : Nat} (h : t = l.map f) (k : u = r.map f) (h0 : 0 < b) (hb : (l.length + r.length) * b ≤ maxBytes) : t.length + u.length ≤ maxBytes := by
  rw [h, k]; simp only [List.length_map]
  exact Nat.le_trans (Nat.le_mul_of_pos_right _ h0) hb
theorem app_b0 {α β : Type} {f : α → β} {u : List β} {r : List α} {b : Nat} (k : u = r.map f) (hb : (0 + r.length) * b ≤ maxBytes) : u.length * b ≤ maxBytes := by rw [k]; simpa using hb
theorem app_c0 {α β : Type} {f : α → β} {u : List β} {r : List α} {b : Nat} (k : u = r.map f) (h0 : 0 < b) (hb : (0 + r.length) * b ≤ maxBytes) : u.length ≤ maxBytes := by
  rw [k]; simp only [List.length_map]
  exact Nat.le_trans (Nat.le_mul_of_pos_right _ h0) (by simpa using hb)
theorem win_map {α β : Type} {f : α → β} {t : List β} {l : List α} (h : t = l.map f) (a b : Nat) : (t.drop a).take b = ((l.drop a).take b).map f := by rw [h, List.map_take, List.map_drop]
theorem win_all {α β : Type} {f : α → β} {n : Nat} (a : Arr n α) : ((a.l.map f).drop 0).take n = a.l.map f := by
  rw [List.drop_zero, List.take_of_length_le (by simp [a.h])]
theorem rep_map {α β : Type} {f : α → β} {n : Nat} {x : α} {y : β} (h : y = f x) : List.replicate n y = (List.replicate n x).map f := by simp [h]
theorem flags_bool {x : Bool} {o : Option T} {b : Bool} (h : o = some (.bool x)) (hb : x = b) : o = some (.bool b) := by rw [h, hb]
end Go.Mg
