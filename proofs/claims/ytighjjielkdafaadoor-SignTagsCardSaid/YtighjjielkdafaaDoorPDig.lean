/- Digests: pairs, hexes, awake. -/
import Derived.Test.YtighjjielkdafaaDoorPShb
namespace Go.Mg
open Go
theorem iter_inv {D X : Type} {b : D → Option (D ⊕ X)} (Inv : D → Prop) (μ : D → Nat) (Q : X → Prop) (h : ∀ d, Inv d → (∃ d', b d = some (.inl d') ∧ Inv d' ∧ μ d' < μ d) ∨ ∃ x, b d = some (.inr x) ∧ Q x) : ∀ (n : Nat) (d : D), Inv d → μ d < n → ∃ x, iter b n d = some x ∧ Q x
  | 0, d, hi, hm => by omega
  | n + 1, d, hi, hm => by
    rcases h d hi with ⟨d', h1, h2, h3⟩ | ⟨x, h1, h2⟩
    · obtain ⟨x, h4, h5⟩ := iter_inv Inv μ Q h n d' h2 (by omega)
      exact ⟨x, by rw [iter_go h1]; exact h4, h5⟩
    · exact ⟨x, iter_end h1 n, h2⟩
/-- A list half filled. -/
def fil (l : List Int) (N k : Nat) : List Int := l.take k ++ List.replicate (N - k) 0
theorem fil_length {l : List Int} {N k : Nat} (hl : l.length = N) (hk : k ≤ N) : (fil l N k).length = N := by simp [fil]; omega
theorem fil_set {l : List Int} {N k : Nat} (hl : l.length = N) (hk : k < N) : (fil l N k).set k (l.getD k 0) = fil l N (k + 1) := by
  unfold fil
  rw [List.set_append_right _ _ (by simp; omega), show N - k = (N - (k + 1)) + 1 by omega, List.replicate_succ]
  rw [show k - (l.take k).length = 0 by simp; omega, List.set_cons_zero, List.take_add_one, List.append_assoc, getD_get (by omega)]
  rfl
theorem fil_end {l : List Int} {N : Nat} (hl : l.length = N) : fil l N N = l := by
  unfold fil
  rw [Nat.sub_self, List.take_of_length_le (by omega)]; simp
theorem awake02 : f_law02_Awake 100000 = some true := by decide +kernel
/-! ### pairs -/
theorem digest_Pair_eq (n : Nat) (a b : Arr 32 Int) (hn : 1000 ≤ n) : f_digest_Pair n a b = some (sha (a.l ++ b.l)) := by
  unfold f_digest_Pair
  rw [ask_of (by simp [a.h]), ask_of (by simp [a.h, b.h]), List.nil_append, digest_Of_eq n _ (by simp [a.h, b.h]) (by simp [a.h, b.h]; omega)]; rfl
theorem ref_Pair_eq (n : Nat) (a b : Arr 32 Int) (hn : 1000 ≤ n) : f_ref02_Pair n a b = some (sha (a.l ++ b.l)) := by
  unfold f_ref02_Pair
  rw [show iter (fun ((a0, a1) : ((List Int) × Int)) => f_ref02_Pair_b0 n a b a0 a1) n ((List.replicate 64 (0:Int)), (0:Int)) = some (a.l ++ b.l) from
    iter_cnt (fun k => fil a.l 32 k ++ fil b.l 32 k) 0 32 (fun k _ hk => by
      show f_ref02_Pair_b0 n a b _ _ = _
      unfold f_ref02_Pair_b0
      have e4 : (k : Int).toNat = k := by omega
      have e5 : (32 + (k : Int)).toNat = 32 + k := by omega
      have la := fil_length a.h (show k ≤ 32 by omega)
      have lb := fil_length b.h (show k ≤ 32 by omega)
      rw [decide_eq_true (show (k : Int) < 32 by omega), cond_true]
      simp (disch := (first | omega | (simp only [List.length_append, List.length_set]; omega))) only [wi_eq, ask_of, e4, e5, Arr.get a, Arr.get b, Option.bind_some, List.getElem?_eq_getElem]
      congr 3
      rw [List.set_append_left _ _ (by omega), List.set_append_right _ _ (by simp only [List.length_set]; omega), List.length_set, la, Nat.add_sub_cancel_left]
      rw [show a.g k = a.l.getD k 0 from rfl, show b.g k = b.l.getD k 0 from rfl, fil_set a.h (by omega), fil_set b.h (by omega)]) (by
      show f_ref02_Pair_b0 n a b _ _ = _
      unfold f_ref02_Pair_b0
      rw [decide_eq_false (by omega), cond_false, fil_end a.h, fil_end b.h]) (by omega) n (by omega), Option.bind_some, ref_Of_eq n _ (by simp [a.h, b.h]) (by simp [a.h, b.h]; omega)]; rfl
/-! ### hexes -/
def hx (i : Nat) : Int := (strAt str_2 i).getD 0
theorem strAt_hx {i : Nat} (h : i < 16) : strAt str_2 i = some (hx i) := by
  have : ∀ i : _root_.Fin 16, strAt str_2 i.val = some (hx i.val) := by decide +kernel
  exact this ⟨i, h⟩
def hexl : List Int → List Int
  | [] => []
  | v :: l => hx (v.toNat / 16) :: hx (v.toNat % 16) :: hexl l
theorem hexl_length : ∀ l : List Int, (hexl l).length = 2 * l.length
  | [] => rfl
  | v :: l => by simp only [hexl, List.length_cons, hexl_length l]; omega
theorem hexl_append : ∀ l m : List Int, hexl (l ++ m) = hexl l ++ hexl m
  | [], m => rfl
  | v :: l, m => by simp only [hexl, List.cons_append, hexl_append l m]
theorem hexl_get : ∀ (l : List Int) (i : Nat), i < l.length → (hexl l).getD (2 * i) 0 = hx ((l.getD i 0).toNat / 16) ∧ (hexl l).getD (2 * i + 1) 0 = hx ((l.getD i 0).toNat % 16)
  | [], i, h => by simp at h
  | v :: l, 0, h => ⟨rfl, rfl⟩
  | v :: l, i + 1, h => by
    have := hexl_get l i (by simpa using h)
    exact this
theorem nib (v : Int) (h0 : 0 ≤ v) (h1 : v ≤ 255) : shr .u8 v 4 = ((v.toNat / 16 : Nat) : Int) ∧ bits .and .u8 v 15 = ((v.toNat % 16 : Nat) : Int) ∧ bits .and .u8 (shr .u8 v 4) 15 = ((v.toNat / 16 : Nat) : Int) := by
  obtain ⟨m, rfl⟩ := Int.eq_ofNat_of_zero_le h0
  have hm : m < 256 := by omega
  have e1 : shr .u8 (m : Int) 4 = ((m / 16 : Nat) : Int) := shr_nat .u8 m 4 (by decide)
  have ha : ∀ q : Nat, q < 256 → bits .and .u8 (q : Int) 15 = ((q % 16 : Nat) : Int) := fun q hq => by
    have := bits_and (k := .u8) rfl (a := q) (b := 15) hq (by decide)
    rw [show ((15 : Nat) : Int) = 15 by decide] at this
    rw [this, show (15 : Nat) = 2 ^ 4 - 1 by decide, Nat.and_two_pow_sub_one_eq_mod]
  rw [Int.toNat_natCast]
  refine ⟨e1, ha m hm, ?_⟩
  rw [e1, ha _ (by omega), Nat.mod_eq_of_lt (by omega)]
def bytesOK (l : List Int) : Prop := ∀ y ∈ l, 0 ≤ y ∧ y ≤ 255
theorem w24_ok {a : Arr 32 Int} (h : w_24 a) : bytesOK a.l := h
theorem getD_ok {l : List Int} (h : bytesOK l) {i : Nat} (hi : i < l.length) : 0 ≤ l.getD i 0 ∧ l.getD i 0 ≤ 255 := by
  rw [List.getD_eq_getElem?_getD, List.getElem?_eq_getElem hi]
  exact h _ (List.getElem_mem hi)
theorem digest_Hex_eq (n : Nat) (a : Arr 32 Int) (ha : bytesOK a.l) (hn : 1000 ≤ n) : f_digest_Hex n a = some (strOf (hexl a.l)) := by
  unfold f_digest_Hex
  rw [show iter (fun ((a0, a1) : ((List Int) × Int)) => f_digest_Hex_b0 n a a0 a1) n (([] : List Int), (0:Int)) = some (hexl a.l) from
    iter_cnt (fun k => hexl (a.l.take k)) 0 32 (fun k _ hk => by
      show f_digest_Hex_b0 n a _ _ = _
      unfold f_digest_Hex_b0
      have e4 : (k : Int).toNat = k := by omega
      obtain ⟨n1, n2, -⟩ := nib (a.g k) (getD_ok ha (by rw [a.h]; omega)).1 (getD_ok ha (by rw [a.h]; omega)).2
      rw [decide_eq_true (show (k : Int) < 32 by omega), cond_true, ask_of (by omega), e4, Arr.get a hk, Option.bind_some, n1, n2]
      have r : (a.g k).toNat < 256 := by
        have := (getD_ok ha (show k < a.l.length by rw [a.h]; omega)).2
        show (a.l.getD k 0).toNat < 256
        omega
      have hlen := hexl_length (a.l.take k)
      have hlen2 : (a.l.take k).length ≤ 32 := by simp; omega
      simp (disch := omega) only [wi_eq, ask_of, Int.toNat_natCast, strAt_hx, Option.bind_some]
      rw [ask_of (by simp only [List.length_cons, List.length_nil]; omega)]
      congr 3
      rw [List.take_add_one, show a.l[k]? = some (a.g k) from Arr.get a hk, hexl_append]; rfl) (by
      show f_digest_Hex_b0 n a _ _ = _
      unfold f_digest_Hex_b0
      rw [decide_eq_false (by omega), cond_false, List.take_of_length_le (by rw [a.h]; omega)]) (by omega) n (by omega), Option.bind_some]
theorem ref_Hex_eq (n : Nat) (a : Arr 32 Int) (ha : bytesOK a.l) (hn : 1000 ≤ n) : f_ref02_Hex n a = some (strOf (hexl a.l)) := by
  unfold f_ref02_Hex
  have hl : (hexl a.l).length = 64 := by rw [hexl_length, a.h]
  rw [show iter (fun ((a0, a1) : ((List Int) × Int)) => f_ref02_Hex_b0 n a a0 a1) n ((List.replicate 64 (0:Int)), (0:Int)) = some (hexl a.l) from
    iter_cnt (fun k => fil (hexl a.l) 64 k) 0 64 (fun k _ hk => by
      show f_ref02_Hex_b0 n a _ _ = _
      unfold f_ref02_Hex_b0
      have e4 : (k : Int).toNat = k := by omega
      have hk2 : k / 2 < a.l.length := by rw [a.h]; omega
      have hf := fil_length hl (show k ≤ 64 by omega)
      obtain ⟨n1, n2, n3⟩ := nib (a.g (k / 2)) (getD_ok ha hk2).1 (getD_ok ha hk2).2
      have r : (a.g (k / 2)).toNat < 256 := by
        have := (getD_ok ha hk2).2
        show (a.l.getD (k / 2) 0).toNat < 256
        omega
      have hv : bits .and .u8 (shr .u8 (a.g (k / 2)) (wi (4 * wi (1 - (k : Int).tmod 2)))) 15 = (((if k % 2 = 0 then (a.g (k / 2)).toNat / 16 else (a.g (k / 2)).toNat % 16) : Nat) : Int) := by
        rw [tmod_pos' (by omega)]
        split
        · rw [show (k : Int) % 2 = 0 by omega, show wi (4 * wi (1 - 0)) = 4 by decide +kernel, n3]
        · rw [show (k : Int) % 2 = 1 by omega, show wi (4 * wi (1 - 1)) = 0 by decide +kernel, shr_0, n2]
      have hg : hx (if k % 2 = 0 then (a.g (k / 2)).toNat / 16 else (a.g (k / 2)).toNat % 16) = (hexl a.l).getD k 0 := by
        obtain ⟨q1, q2⟩ := hexl_get a.l (k / 2) hk2
        split
        · rw [show k = 2 * (k / 2) by omega, q1, show 2 * (k / 2) / 2 = k / 2 by omega]; rfl
        · rw [show (hexl a.l).getD k 0 = (hexl a.l).getD (2 * (k / 2) + 1) 0 by rw [show 2 * (k / 2) + 1 = k by omega], q2]; rfl
      have e1 : wi ((k : Int).tdiv 2) = ((k / 2 : Nat) : Int) := by rw [tdiv_pos' (by omega), wi_eq _ (by omega) (by omega)]; omega
      have e2 : 0 ≤ wi (4 * wi (1 - (k : Int).tmod 2)) := by
        rw [tmod_pos' (by omega), wi_eq (1 - (k : Int) % 2) (by omega) (by omega), wi_eq _ (by omega) (by omega)]; omega
      rw [decide_eq_true (show (k : Int) < 64 by omega), cond_true, e1, ask_of (by omega), ask_of (by omega), Int.toNat_natCast, Arr.get a (by omega), Option.bind_some, ask_of e2, hv, ask_of (by omega), Int.toNat_natCast,
        strAt_hx (by split <;> omega), Option.bind_some, ask_of (by omega), e4, ask_of (by omega), List.getElem?_eq_getElem (by omega), Option.bind_some, hg, fil_set hl hk, wi_eq _ (by omega) (by omega)]
      rfl) (by
      show f_ref02_Hex_b0 n a _ _ = _
      unfold f_ref02_Hex_b0
      rw [decide_eq_false (by omega), cond_false, fil_end hl]) (by omega) n (by omega), Option.bind_some]
end Go.Mg
