/- Joining of tags: exclusive or, byte by byte. -/
import Derived.Test.YtighjjielkdafaaDoorPDig
namespace Go.Mg
open Go
def bok (y : Int) : Prop := 0 ≤ y ∧ y ≤ 255
def bx (x y : Int) : Int := bits .xor .u8 x y
theorem bx_nat {a b : Nat} (ha : a < 256) (hb : b < 256) : bx (a : Int) (b : Int) = ((a ^^^ b : Nat) : Int) := bits_xor (k := .u8) rfl ha hb
theorem bok_nat {x : Int} (h : bok x) : ∃ a : Nat, x = a ∧ a < 256 := ⟨x.toNat, by have := h.1; omega, by have := h.2; omega⟩
theorem bx_ok {x y : Int} (hx : bok x) (hy : bok y) : bok (bx x y) := by
  obtain ⟨a, rfl, ha⟩ := bok_nat hx
  obtain ⟨b, rfl, hb⟩ := bok_nat hy
  rw [bx_nat ha hb]
  have : a ^^^ b < 2 ^ 8 := Nat.xor_lt_two_pow ha hb
  exact ⟨by omega, by omega⟩
theorem bx_comm {x y : Int} (hx : bok x) (hy : bok y) : bx x y = bx y x := by
  obtain ⟨a, rfl, ha⟩ := bok_nat hx
  obtain ⟨b, rfl, hb⟩ := bok_nat hy
  rw [bx_nat ha hb, bx_nat hb ha, Nat.xor_comm]
theorem bx_assoc {x y z : Int} (hx : bok x) (hy : bok y) (hz : bok z) : bx (bx x y) z = bx x (bx y z) := by
  obtain ⟨a, rfl, ha⟩ := bok_nat hx
  obtain ⟨b, rfl, hb⟩ := bok_nat hy
  obtain ⟨c, rfl, hc⟩ := bok_nat hz
  rw [bx_nat ha hb, bx_nat hb hc, bx_nat (Nat.xor_lt_two_pow (n := 8) ha hb) hc, bx_nat ha (Nat.xor_lt_two_pow (n := 8) hb hc), Nat.xor_assoc]
theorem bx_self {x : Int} (hx : bok x) : bx x x = 0 := by
  obtain ⟨a, rfl, ha⟩ := bok_nat hx
  rw [bx_nat ha ha, Nat.xor_self]; rfl
theorem bx_zero {x : Int} (hx : bok x) : bx 0 x = x := by
  obtain ⟨a, rfl, ha⟩ := bok_nat hx
  rw [show (0 : Int) = ((0 : Nat) : Int) from rfl, bx_nat (by decide) ha, Nat.zero_xor]
def aok (a : Arr 32 Int) : Prop := ∀ y ∈ a.l, bok y
def zw : List Int → List Int → List Int
  | x :: l, y :: m => bx x y :: zw l m
  | _, _ => []
theorem zw_length : ∀ l m : List Int, (zw l m).length = min l.length m.length
  | [], m => by simp [zw]
  | _ :: _, [] => by simp [zw]
  | x :: l, y :: m => by simp only [zw, List.length_cons, zw_length l m]; omega
theorem zw_get : ∀ (l m : List Int) (i : Nat), i < l.length → i < m.length → (zw l m).getD i 0 = bx (l.getD i 0) (m.getD i 0)
  | [], _, _, h, _ => by simp at h
  | _ :: _, [], _, _, h => by simp at h
  | x :: l, y :: m, 0, _, _ => rfl
  | x :: l, y :: m, i + 1, h, k => zw_get l m i (by simpa using h) (by simpa using k)
theorem zw_ok : ∀ (l m : List Int), (∀ y ∈ l, bok y) → (∀ y ∈ m, bok y) → ∀ y ∈ zw l m, bok y
  | [], m, _, _, y, h => by simp [zw] at h
  | _ :: _, [], _, _, y, h => by simp [zw] at h
  | a :: l, b :: m, hl, hm, y, h => by
    simp only [zw, List.mem_cons] at h
    rcases h with rfl | h
    · exact bx_ok (hl a (by simp)) (hm b (by simp))
    · exact zw_ok l m (fun y hy => hl y (by simp [hy])) (fun y hy => hm y (by simp [hy])) y h
theorem zw_comm : ∀ (l m : List Int), (∀ y ∈ l, bok y) → (∀ y ∈ m, bok y) → zw l m = zw m l
  | [], [], _, _ => rfl
  | [], _ :: _, _, _ => rfl
  | _ :: _, [], _, _ => rfl
  | a :: l, b :: m, hl, hm => by
    simp only [zw]
    rw [bx_comm (hl a (by simp)) (hm b (by simp)), zw_comm l m (fun y hy => hl y (by simp [hy])) (fun y hy => hm y (by simp [hy]))]
theorem zw_assoc : ∀ (l m q : List Int), (∀ y ∈ l, bok y) → (∀ y ∈ m, bok y) → (∀ y ∈ q, bok y) → zw (zw l m) q = zw l (zw m q)
  | [], _, _, _, _, _ => by simp [zw]
  | _ :: _, [], _, _, _, _ => by simp [zw]
  | _ :: _, _ :: _, [], _, _, _ => by simp [zw]
  | a :: l, b :: m, c :: q, hl, hm, hq => by
    simp only [zw]
    rw [bx_assoc (hl a (by simp)) (hm b (by simp)) (hq c (by simp)), zw_assoc l m q (fun y hy => hl y (by simp [hy])) (fun y hy => hm y (by simp [hy])) (fun y hy => hq y (by simp [hy]))]
theorem zw_self : ∀ (l : List Int), (∀ y ∈ l, bok y) → zw l l = List.replicate l.length 0
  | [], _ => rfl
  | a :: l, hl => by
    simp only [zw]
    rw [bx_self (hl a (by simp)), zw_self l (fun y hy => hl y (by simp [hy]))]; rfl
theorem zw_zero : ∀ (n : Nat) (l : List Int), (∀ y ∈ l, bok y) → l.length = n → zw (List.replicate n 0) l = l
  | 0, [], _, _ => rfl
  | n + 1, a :: l, hl, h => by
    simp only [List.replicate_succ, zw]
    rw [bx_zero (hl a (by simp)), zw_zero n l (fun y hy => hl y (by simp [hy])) (by simpa using h)]
  | 0, _ :: _, _, h => by simp at h
  | _ + 1, [], _, h => by simp at h
def ax (a b : Arr 32 Int) : Arr 32 Int := ⟨zw a.l b.l, by rw [zw_length, a.h, b.h]; rfl⟩
theorem ax_ok {a b : Arr 32 Int} (ha : aok a) (hb : aok b) : aok (ax a b) := zw_ok _ _ ha hb
theorem zero_ok : aok (Arr.rep 32 (0 : Int)) := fun y hy => by
  have := List.eq_of_mem_replicate hy
  subst this; exact ⟨by omega, by omega⟩
theorem ax_comm {a b : Arr 32 Int} (ha : aok a) (hb : aok b) : ax a b = ax b a := Arr.ext (zw_comm _ _ ha hb)
theorem ax_assoc {a b c : Arr 32 Int} (ha : aok a) (hb : aok b) (hc : aok c) : ax (ax a b) c = ax a (ax b c) := Arr.ext (zw_assoc _ _ _ ha hb hc)
theorem ax_self {a : Arr 32 Int} (ha : aok a) : ax a a = Arr.rep 32 0 := Arr.ext (by show zw a.l a.l = _; rw [zw_self _ ha, a.h]; rfl)
theorem ax_zero {a : Arr 32 Int} (ha : aok a) : ax (Arr.rep 32 0) a = a := Arr.ext (zw_zero 32 _ ha a.h)
def jn : List (Arr 32 Int) → Arr 32 Int := fun l => l.foldl ax (Arr.rep 32 0)
def lok (l : List (Arr 32 Int)) : Prop := ∀ a ∈ l, aok a
theorem fold_ok : ∀ (l : List (Arr 32 Int)) (z : Arr 32 Int), lok l → aok z → aok (l.foldl ax z)
  | [], _, _, hz => hz
  | a :: l, z, hl, hz => fold_ok l (ax z a) (fun b hb => hl b (by simp [hb])) (ax_ok hz (hl a (by simp)))
theorem fold_ax : ∀ (l : List (Arr 32 Int)) (z : Arr 32 Int), lok l → aok z → l.foldl ax z = ax z (jn l)
  | [], z, _, hz => by
    show z = ax z (Arr.rep 32 0)
    rw [ax_comm hz zero_ok, ax_zero hz]
  | a :: l, z, hl, hz => by
    have ha := hl a (by simp)
    have hl' : lok l := fun b hb => hl b (by simp [hb])
    show l.foldl ax (ax z a) = ax z (l.foldl ax (ax (Arr.rep 32 0) a))
    rw [fold_ax l _ hl' (ax_ok hz ha), fold_ax l _ hl' (ax_ok zero_ok ha), ax_zero ha, ax_assoc hz ha (show aok (jn l) from fold_ok l _ hl' zero_ok)]
theorem jn_ok {l : List (Arr 32 Int)} (h : lok l) : aok (jn l) := fold_ok l _ h zero_ok
theorem jn_append {l m : List (Arr 32 Int)} (hl : lok l) (hm : lok m) : jn (l ++ m) = ax (jn l) (jn m) := by
  show (l ++ m).foldl ax _ = _
  rw [List.foldl_append, fold_ax m _ hm (fold_ok l _ hl zero_ok)]; rfl
theorem jn_two {a b : Arr 32 Int} (ha : aok a) : jn [a, b] = ax a b := by
  show ax (ax (Arr.rep 32 0) a) b = _
  rw [ax_zero ha]
/-! ### what the program does -/
def half (a b : List Int) (k : Nat) : List Int := (zw a b).take k ++ a.drop k
theorem half_length {a b : List Int} (ha : a.length = 32) (hb : b.length = 32) {k : Nat} (hk : k ≤ 32) : (half a b k).length = 32 := by
  simp only [half, List.length_append, List.length_take, List.length_drop, zw_length]; omega
theorem half_get {a b : List Int} (ha : a.length = 32) (hb : b.length = 32) {k : Nat} (hk : k < 32) : (half a b k)[k]? = some (a.getD k 0) := by
  unfold half
  rw [List.getElem?_append_right (by simp [zw_length]; omega), List.length_take, zw_length, ha, hb, show k - min k (min 32 32) = 0 by omega, List.getElem?_drop, Nat.add_zero, getD_get (by omega)]
theorem half_set {a b : List Int} (ha : a.length = 32) (hb : b.length = 32) {k : Nat} (hk : k < 32) : (half a b k).set k (bx (a.getD k 0) (b.getD k 0)) = half a b (k + 1) := by
  unfold half
  have hz : (zw a b).length = 32 := by rw [zw_length, ha, hb]; rfl
  rw [List.set_append_right _ _ (by simp; omega), show k - ((zw a b).take k).length = 0 by simp; omega, List.drop_eq_getElem_cons (show k < a.length by omega), List.set_cons_zero, List.take_add_one, List.append_assoc, getD_get (show k < (zw a b).length by omega), zw_get _ _ _ (by omega) (by omega)]
  rfl
def halfA (a b : Arr 32 Int) (k : Nat) : Arr 32 Int := if h : (half a.l b.l k).length = 32 then ⟨half a.l b.l k, h⟩ else a
theorem halfA_l {a b : Arr 32 Int} {k : Nat} (hk : k ≤ 32) : (halfA a b k).l = half a.l b.l k := by simp [halfA, half_length a.h b.h hk]
theorem join_b1 (n : Nat) (a v : Arr 32 Int) (hn : 100 ≤ n) : iter (fun ((a3, a4) : ((Arr 32 Int) × Int)) => f_sign_Join_b1 n v a3 a4) n (a, (0 : Int)) = some (ax a v) := by
  have := iter_cnt (b := fun ((a3, a4) : ((Arr 32 Int) × Int)) => f_sign_Join_b1 n v a3 a4) (fun k => halfA a v k) 0 32 (x := ax a v) (fun k _ hk => by
    show f_sign_Join_b1 n v _ _ = _
    unfold f_sign_Join_b1
    have e4 : (k : Int).toNat = k := by omega
    rw [decide_eq_true (show (k : Int) < 32 by omega), cond_true, ask_of (by omega), e4, halfA_l (by omega), half_get a.h v.h hk, Option.bind_some, Arr.get v hk, Option.bind_some, wi_eq _ (by omega) (by omega)]
    congr 3
    apply Arr.ext
    rw [halfA_l (by omega)]
    show (halfA a v k).l.set k _ = _
    rw [halfA_l (by omega)]
    exact half_set a.h v.h hk) (by
    show f_sign_Join_b1 n v _ _ = _
    unfold f_sign_Join_b1
    rw [decide_eq_false (by omega), cond_false]
    congr 2
    apply Arr.ext
    rw [halfA_l (by omega)]
    show (zw a.l v.l).take 32 ++ a.l.drop 32 = zw a.l v.l
    rw [List.take_of_length_le (by rw [zw_length, a.h, v.h]; omega), List.drop_of_length_le (by rw [a.h]; omega), List.append_nil]) (by omega) n (by omega)
  rw [show halfA a v 0 = a from Arr.ext (by rw [halfA_l (by omega)]; rfl)] at this
  exact this
theorem sign_Join_eq (n : Nat) (l : List (Arr 32 Int)) (hn : l.length + 100 ≤ n) (hl : l.length ≤ 1000000000) : f_sign_Join n l = some (jn l) := by
  unfold f_sign_Join
  have := iter_cnt (b := fun ((a0, a1) : ((Arr 32 Int) × Int)) => f_sign_Join_b0 n l a0 a1) (fun k => (l.take k).foldl ax (Arr.rep 32 0)) 0 l.length (x := jn l) (fun k _ hk => by
    show f_sign_Join_b0 n l _ _ = _
    unfold f_sign_Join_b0
    have e4 : (k : Int).toNat = k := by omega
    rw [decide_eq_true (show (k : Int) < (l.length : Int) by omega), cond_true, ask_of (by omega), e4, List.getElem?_eq_getElem hk, Option.bind_some, join_b1 n _ _ (by omega), Option.bind_some, wi_eq _ (by omega) (by omega)]
    congr 3
    rw [List.take_add_one, List.getElem?_eq_getElem hk, List.foldl_append]; rfl) (by
    show f_sign_Join_b0 n l _ _ = _
    unfold f_sign_Join_b0
    rw [decide_eq_false (by omega), cond_false, List.take_of_length_le (by omega)]; rfl) (by omega) n (by omega)
  rw [show iter (fun ((a0, a1) : ((Arr 32 Int) × Int)) => f_sign_Join_b0 n l a0 a1) n ((Arr.rep 32 (0:Int)), (0:Int)) = some (jn l) from this, Option.bind_some]
theorem awake07 : f_law07_Awake 100000 = some true := by decide +kernel
end Go.Mg
