/- The whole list at once. -/
import Derived.Test.YtdgbpoihgeefiaaDoorRRRPShuf
namespace Go.Mg
open Go
variable (seed : Arr 32 Int)
def lst (nn r : Nat) : List Int := (List.range nn).map fun k => ((stps seed nn k r : Nat) : Int)
theorem lst_length (nn r : Nat) : (lst seed nn r).length = nn := by simp [lst]
theorem lst_get (nn r : Nat) {k : Nat} (hk : k < nn) : (lst seed nn r)[k]? = some ((stps seed nn k r : Nat) : Int) := by
  unfold lst
  rw [List.getElem?_map, List.getElem?_range hk]; rfl
theorem list_b0 (n nn : Nat) (hnn : nn ≤ 1048576) (hn : nn + 10 ≤ n) : iter (fun ((a0, a1) : ((List Int) × Int)) => f_shuffle_List_b0 n (nn : Int) a0 a1) n ((List.replicate nn (0:Int)), (0:Int)) = some (lst seed nn 0) := by
  have hl := lst_length seed nn 0
  have := iter_cnt (b := fun ((a0, a1) : ((List Int) × Int)) => f_shuffle_List_b0 n (nn : Int) a0 a1) (fun k => (lst seed nn 0).take k ++ List.replicate (nn - k) 0) 0 nn (x := lst seed nn 0) (fun k _ hk => by
    show f_shuffle_List_b0 n _ _ _ = _
    unfold f_shuffle_List_b0
    have hlen : ((lst seed nn 0).take k ++ List.replicate (nn - k) 0).length = nn := by simp [hl]; omega
    have e4 : (k : Int).toNat = k := by omega
    rw [List.length_replicate, Int.toNat_natCast, decide_eq_true (show (k : Int) < (nn : Int) by omega), cond_true, ask_of (by omega), e4, ask_of (by omega), List.getElem?_eq_getElem (by omega), Option.bind_some, wi_eq _ (by omega) (by omega), show w64 (k : Int) = (k : Int) by rw [w64_eq]; omega]
    congr 3
    rw [List.set_append_right _ _ (by simp; omega), show k - ((lst seed nn 0).take k).length = 0 by simp [hl]; omega, show nn - k = (nn - (k + 1)) + 1 by omega, List.replicate_succ, List.set_cons_zero, List.take_add_one, lst_get seed nn 0 hk, List.append_assoc]
    rfl) (by
    show f_shuffle_List_b0 n _ _ _ = _
    unfold f_shuffle_List_b0
    rw [List.length_replicate, Int.toNat_natCast, decide_eq_false (by omega), cond_false, Nat.sub_self, List.take_of_length_le (by omega)]; simp) (by omega) n (by omega)
  simpa using this
/-- the digests of a round, one behind the other -/
def dgs (r : Nat) : Nat → List Int
  | 0 => []
  | q + 1 => dgs r q ++ (dg seed r q).l
theorem dgs_length (r : Nat) : ∀ q, (dgs seed r q).length = 32 * q
  | 0 => rfl
  | q + 1 => by simp only [dgs, List.length_append, dgs_length r q, (dg seed r q).h]; omega
theorem dgs_get (r : Nat) : ∀ (q i : Nat), i < 32 * q → (dgs seed r q)[i]? = some ((dg seed r (i / 32)).g (i % 32))
  | 0, i, h => by omega
  | q + 1, i, h => by
    simp only [dgs]
    by_cases hi : i < 32 * q
    · rw [List.getElem?_append_left (by rw [dgs_length]; exact hi), dgs_get r q i hi]
    · rw [List.getElem?_append_right (by rw [dgs_length]; omega), dgs_length, Arr.get _ (show i - 32 * q < 32 by omega), show i / 32 = q by omega, show i % 32 = i - 32 * q by omega]
theorem list_b2 (n nn r : Nat) (hnn : nn ≤ 1048576) (hr : r < 256) (hn : nn + 10000 ≤ n) : iter (fun ((a12, a13) : ((List Int) × Int)) => f_shuffle_List_b2 n (r : Int) (nn : Int) seed a12 a13) n (([] : List Int), (0:Int)) = some (dgs seed r ((nn + 255) / 256)) :=
  iter_cnt (b := fun ((a12, a13) : ((List Int) × Int)) => f_shuffle_List_b2 n (r : Int) (nn : Int) seed a12 a13) (fun q => dgs seed r q) 0 ((nn + 255) / 256) (fun q _ hq => by
    show f_shuffle_List_b2 n _ _ _ _ _ = _
    unfold f_shuffle_List_b2
    rw [show w64 ((q : Int) * 256) = (q : Int) * 256 by rw [w64_eq]; omega, decide_eq_true (by omega), cond_true, ask_of (by simp [seed.h]), ask_of (by simp [seed.h]), put_num n q (by omega) 4 (by omega) (by omega), Option.bind_some, List.nil_append, w8_small hr]
    show ask (decide (((seed.l ++ [(r : Int)]).length + (ints (putN q 4)).length) * 1 ≤ 140737488355328)) (Option.bind (f_digest_Of n (seed.l ++ [(r : Int)] ++ ints (putN q 4))) _) = _
    rw [ask_of (by simp [seed.h, ints_len, putN_len]), digest_Of_eq n _ (by simp [seed.h, ints_len, putN_len]) (by simp [seed.h, ints_len, putN_len]; omega), Option.bind_some, ask_of (by rw [dgs_length, Arr.h]; omega), show w64 ((q : Int) + 1) = ((q + 1 : Nat) : Int) by rw [w64_eq]; omega]
    rfl) (by
    show f_shuffle_List_b2 n _ _ _ _ _ = _
    unfold f_shuffle_List_b2
    rw [show w64 ((((nn + 255) / 256 : Nat) : Int) * 256) = (((nn + 255) / 256 : Nat) : Int) * 256 by rw [w64_eq]; omega, decide_eq_false (by omega), cond_false]) (by omega) n (by omega)
theorem list_b3 (n nn r : Nat) (hnn : nn ≤ 1048576) (h0 : 0 < nn) (hn : nn + 10000 ≤ n) : iter (fun ((a20, a21) : ((List Int) × Int)) => f_shuffle_List_b3 n (lst seed nn r) (nn : Int) ((piv seed r nn : Nat) : Int) (dgs seed r ((nn + 255) / 256)) a20 a21) n (lst seed nn r, (0:Int)) = some (lst seed nn (r + 1)) := by
  have hl := lst_length seed nn r
  have hl2 := lst_length seed nn (r + 1)
  have := iter_cnt (b := fun ((a20, a21) : ((List Int) × Int)) => f_shuffle_List_b3 n (lst seed nn r) (nn : Int) ((piv seed r nn : Nat) : Int) (dgs seed r ((nn + 255) / 256)) a20 a21) (fun k => (lst seed nn (r + 1)).take k ++ (lst seed nn r).drop k) 0 nn (x := lst seed nn (r + 1)) (fun k _ hk => by
    show f_shuffle_List_b3 n _ _ _ _ _ _ = _
    unfold f_shuffle_List_b3
    have hlen : ((lst seed nn (r + 1)).take k ++ (lst seed nn r).drop k).length = nn := by simp [hl, hl2]; omega
    have e4 : (k : Int).toNat = k := by omega
    have hget : ((lst seed nn (r + 1)).take k ++ (lst seed nn r).drop k)[k]? = some ((stps seed nn k r : Nat) : Int) := by
      rw [List.getElem?_append_right (by simp; omega), List.length_take, hl2, show k - min k nn = 0 by omega, List.getElem?_drop, Nat.add_zero, lst_get seed nn r hk]
    have hv := stps_lt seed hk r
    have hnext : stps seed nn k (r + 1) = stp seed r nn (stps seed nn k r) := rfl
    rw [hl, decide_eq_true (show (k : Int) < (nn : Int) by omega), cond_true, ask_of (by omega), e4, ask_of (by omega), hget, Option.bind_some, flip_int seed (by omega) hv, gmax_nat]
    have hset : ∀ v : Nat, v = stps seed nn k (r + 1) → ((lst seed nn (r + 1)).take k ++ (lst seed nn r).drop k).set k ((v : Nat) : Int) = (lst seed nn (r + 1)).take (k + 1) ++ (lst seed nn r).drop (k + 1) := by
      intro v e
      rw [List.set_append_right _ _ (by simp; omega), List.length_take, hl2, show k - min k nn = 0 by omega, List.drop_eq_getElem_cons (by omega), List.set_cons_zero, List.take_add_one, lst_get seed nn (r + 1) hk, List.append_assoc, e]
      rfl
    have hsame : stps seed nn k (r + 1) = stps seed nn k r → (lst seed nn (r + 1)).take k ++ (lst seed nn r).drop k = (lst seed nn (r + 1)).take (k + 1) ++ (lst seed nn r).drop (k + 1) := by
      intro e
      rw [← hset _ e.symm]
      refine (List.ext_getElem? fun j => ?_)
      by_cases hj : j = k
      · subst hj
        rw [hget, List.getElem?_set_self (by omega)]
      · rw [List.getElem?_set_ne (fun e => hj e.symm)]
    have hf := flip_lt seed (r := r) (a := stps seed nn k r) h0
    rw [hnext] at hset hsame
    unfold stp at hset hsame
    generalize flip seed r nn (stps seed nn k r) = f at hf hset hsame ⊢
    generalize stps seed nn k r = v at hv hset hsame ⊢
    have hbt : bt seed r (max v f) = bitOf ((dg seed r (max v f / 256)).g (max v f % 256 / 8)) (max v f % 8) := rfl
    rw [hbt] at hset hsame
    generalize hp : max v f = p at hset hsame ⊢
    have hp2 : p < nn := by omega
    have e1 : w64 ((p : Int).tdiv 8) = ((p / 8 : Nat) : Int) := by rw [tdiv_pos' (by omega), w64_eq]; omega
    have e3 : (p : Int).tmod 8 = ((p % 8 : Nat) : Int) := by rw [tmod_pos' (by omega)]; omega
    rw [e1, ask_of (by omega), Int.toNat_natCast, ask_of (by rw [dgs_length]; omega), dgs_get seed r _ _ (by omega), Option.bind_some, e3, ask_of (by omega), show p / 8 / 32 = p / 256 by omega, show p / 8 % 32 = p % 256 / 8 by omega, bit_eq (g_ok (dg_ok seed r (p / 256)) (by omega)) (by omega), wi_eq _ (by omega) (by omega)]
    cases hb : bitOf ((dg seed r (p / 256)).g (p % 256 / 8)) (p % 8) with
    | true =>
      rw [hb] at hset
      show some (Sum.inl (_, ((k : Int) + 1))) = _
      rw [hset f (by simp)]; rfl
    | false =>
      rw [hb] at hsame
      show some (Sum.inl (_, ((k : Int) + 1))) = _
      rw [hsame (by simp)]; rfl) (by
    show f_shuffle_List_b3 n _ _ _ _ _ _ = _
    unfold f_shuffle_List_b3
    rw [hl, decide_eq_false (by omega), cond_false, List.take_of_length_le (by omega), List.drop_of_length_le (by omega), List.append_nil]) (by omega) n (by omega)
  exact this
theorem list_eq (n nn : Nat) (hnn : nn ≤ 1048576) (hn : nn + 10000 ≤ n) : f_shuffle_List n nn seed = some (lst seed nn 5, 0) := by
  unfold f_shuffle_List
  rw [decide_eq_false (by omega), cond_false, ask_of (by omega), ask_of (by omega), Int.toNat_natCast, list_b0 seed n nn hnn (by omega), Option.bind_some]
  by_cases h0 : nn = 0
  · subst h0
    obtain ⟨m, rfl⟩ : ∃ m, n = m + 1 := ⟨n - 1, by omega⟩
    rfl
  have := iter_cnt (b := fun ((a8, a9) : ((List Int) × Int)) => f_shuffle_List_b1 n (nn : Int) seed a8 a9) (fun r => lst seed nn r) 0 5 (x := lst seed nn 5) (fun r _ hr => by
    show f_shuffle_List_b1 n _ _ _ _ = _
    unfold f_shuffle_List_b1
    rw [decide_eq_true (show (r : Int) < 5 by omega), cond_true, show ((nn : Int) == 0) = false by rw [beq_eq_false_iff_ne]; omega, cond_false, pivot_eq seed n r nn (by omega) (by omega) (by omega), Option.bind_some, list_b2 seed n nn r hnn (by omega) hn, Option.bind_some, list_b3 seed n nn r hnn (by omega) hn, Option.bind_some, show w64 ((r : Int) + 1) = ((r + 1 : Nat) : Int) by rw [w64_eq]; omega]) (by
    show f_shuffle_List_b1 n _ _ _ _ = _
    unfold f_shuffle_List_b1
    rw [decide_eq_false (by omega), cond_false]) (by omega) n (by omega)
  rw [show iter (fun ((a8, a9) : ((List Int) × Int)) => f_shuffle_List_b1 n (nn : Int) seed a8 a9) n (lst seed nn 0, (0:Int)) = _ from this, Option.bind_some]
/-! ### each number once -/
theorem flip_flip {r nn a : Nat} (ha : a < nn) : flip seed r nn (flip seed r nn a) = a := by
  have hp := piv_lt seed (r := r) (show 0 < nn by omega)
  unfold flip
  generalize piv seed r nn = p at hp
  by_cases h : a ≤ p
  · have e : (p + nn - a) % nn = p - a := by rw [show p + nn - a = p - a + nn by omega, Nat.add_mod_right, Nat.mod_eq_of_lt (by omega)]
    rw [e, show p + nn - (p - a) = a + nn by omega, Nat.add_mod_right, Nat.mod_eq_of_lt ha]
  · have e : (p + nn - a) % nn = p + nn - a := Nat.mod_eq_of_lt (by omega)
    rw [e, show p + nn - (p + nn - a) = a by omega, Nat.mod_eq_of_lt ha]
theorem stp_stp {r nn a : Nat} (ha : a < nn) : stp seed r nn (stp seed r nn a) = a := by
  have hf := flip_flip seed (r := r) ha
  have e : stp seed r nn a = if bt seed r (max a (flip seed r nn a)) then flip seed r nn a else a := rfl
  cases hb : bt seed r (max a (flip seed r nn a)) with
  | true =>
    rw [e, hb, if_pos rfl]
    unfold stp
    rw [hf, Nat.max_comm, hb, if_pos rfl]
  | false =>
    rw [e, hb, if_neg (by simp), e, hb, if_neg (by simp)]
theorem stp_inj {r nn a b : Nat} (ha : a < nn) (hb : b < nn) (h : stp seed r nn a = stp seed r nn b) : a = b := by
  rw [← stp_stp seed (r := r) ha, h, stp_stp seed hb]
theorem stps_inj {nn a b : Nat} (ha : a < nn) (hb : b < nn) : ∀ r, stps seed nn a r = stps seed nn b r → a = b
  | 0, h => h
  | r + 1, h => stps_inj ha hb r (stp_inj seed (stps_lt seed ha r) (stps_lt seed hb r) h)
end Go.Mg
