/- SignTags. -/
import Derived.Test.YtighjjielkdafaaDoorPSign
import Derived.Test.YtighjjielkdafaaDoorPPut
namespace Go.Mg
open Go
def tg (key m : Arr 32 Int) : Arr 32 Int := sha (key.l ++ m.l)
theorem tag_eq (n : Nat) (a m : Arr 32 Int) (hn : 1000 ≤ n) : f_sign_Tag n a m = some (tg a m) := by
  unfold f_sign_Tag
  rw [digest_Pair_eq n a m hn]; rfl
theorem rtag_eq (n : Nat) (a m : Arr 32 Int) (hn : 1000 ≤ n) : f_ref07_Tag n a m = some (tg a m) := by
  unfold f_ref07_Tag
  rw [ref_Pair_eq n a m hn]; rfl
theorem message_eq (n : Nat) (r : Arr 32 Int) (k : Nat) (hk : k < 18446744073709551616) (hn : 1001 ≤ n) : f_sign_Message n r k = some (tg r (wordA k)) := by
  unfold f_sign_Message
  rw [put_num n k hk 8 (by omega) (by omega), Option.bind_some]
  show Option.bind (f_digest_Pair n r (Arr.put (Arr.rep 32 (0:Int)) (over (Arr.rep 32 (0:Int)).l 0 32 (ints (putN k 8))))) _ = _
  rw [word_put, digest_Pair_eq n _ _ (by omega)]; rfl
theorem rmessage_eq (n : Nat) (r : Arr 32 Int) (k : Nat) (hk : k < 18446744073709551616) (hn : 1001 ≤ n) : f_ref07_Message n r k = some (tg r (wordA k)) := by
  unfold f_ref07_Message
  rw [word_ref n k hk (by omega), Option.bind_some, ref_Pair_eq n _ _ (by omega)]; rfl
theorem rjoin_b1 (n : Nat) (l : List (Arr 32 Int)) (i : Nat) (v a : Arr 32 Int) (hi : l[i]? = some v) (hn : 100 ≤ n) : iter (fun ((a3, a4) : ((Arr 32 Int) × Int)) => f_ref07_Join_b1 n (i : Int) l a3 a4) n (a, (0 : Int)) = some (ax a v) := by
  have := iter_cnt (b := fun ((a3, a4) : ((Arr 32 Int) × Int)) => f_ref07_Join_b1 n (i : Int) l a3 a4) (fun k => halfA a v k) 0 32 (x := ax a v) (fun k _ hk => by
    show f_ref07_Join_b1 n (i : Int) l _ _ = _
    unfold f_ref07_Join_b1
    have e4 : (k : Int).toNat = k := by omega
    rw [decide_eq_true (show (k : Int) < 32 by omega), cond_true, ask_of (by omega), e4, halfA_l (by omega), half_get a.h v.h hk, Option.bind_some, ask_of (by omega), Int.toNat_natCast, hi, Option.bind_some, Arr.get v hk, Option.bind_some, wi_eq _ (by omega) (by omega)]
    congr 3
    apply Arr.ext
    rw [halfA_l (by omega)]
    show (halfA a v k).l.set k _ = _
    rw [halfA_l (by omega)]
    exact half_set a.h v.h hk) (by
    show f_ref07_Join_b1 n (i : Int) l _ _ = _
    unfold f_ref07_Join_b1
    rw [decide_eq_false (by omega), cond_false]
    congr 2
    apply Arr.ext
    rw [halfA_l (by omega)]
    show (zw a.l v.l).take 32 ++ a.l.drop 32 = zw a.l v.l
    rw [List.take_of_length_le (by rw [zw_length, a.h, v.h]; omega), List.drop_of_length_le (by rw [a.h]; omega), List.append_nil]) (by omega) n (by omega)
  rw [show halfA a v 0 = a from Arr.ext (by rw [halfA_l (by omega)]; rfl)] at this
  exact this
theorem rjoin_eq (n : Nat) (l : List (Arr 32 Int)) (hn : l.length + 100 ≤ n) (hl : l.length ≤ 1000000000) : f_ref07_Join n l = some (jn l) := by
  unfold f_ref07_Join
  have := iter_cnt (b := fun ((a0, a1) : ((Arr 32 Int) × Int)) => f_ref07_Join_b0 n l a0 a1) (fun k => (l.take k).foldl ax (Arr.rep 32 0)) 0 l.length (x := jn l) (fun k _ hk => by
    show f_ref07_Join_b0 n l _ _ = _
    unfold f_ref07_Join_b0
    rw [decide_eq_true (show (k : Int) < (l.length : Int) by omega), cond_true, rjoin_b1 n l k l[k] _ (List.getElem?_eq_getElem hk) (by omega), Option.bind_some, wi_eq _ (by omega) (by omega)]
    congr 3
    rw [List.take_add_one, List.getElem?_eq_getElem hk, List.foldl_append]; rfl) (by
    show f_ref07_Join_b0 n l _ _ = _
    unfold f_ref07_Join_b0
    rw [decide_eq_false (by omega), cond_false, List.take_of_length_le (by omega)]; rfl) (by omega) n (by omega)
  rw [show iter (fun ((a0, a1) : ((Arr 32 Int) × Int)) => f_ref07_Join_b0 n l a0 a1) n ((Arr.rep 32 (0:Int)), (0:Int)) = some (jn l) from this, Option.bind_some]
def tags (m : Arr 32 Int) (l : List (Arr 32 Int)) : List (Arr 32 Int) := l.map fun key => tg key m
theorem valid_eq (n : Nat) (l : List (Arr 32 Int)) (m sig : Arr 32 Int) (hn : l.length + 1000 ≤ n) (hl : l.length ≤ 1000000) : f_sign_Valid n l m sig = some (if l.length = 0 then false else decide (jn (tags m l) = sig)) := by
  unfold f_sign_Valid
  have := iter_cnt (b := fun ((a0, a1) : ((List (Arr 32 Int)) × Int)) => f_sign_Valid_b0 n l m a0 a1) (fun k => tags m (l.take k)) 0 l.length (x := tags m l) (fun k _ hk => by
    show f_sign_Valid_b0 n l m _ _ = _
    unfold f_sign_Valid_b0
    have e4 : (k : Int).toNat = k := by omega
    rw [decide_eq_true (show (k : Int) < (l.length : Int) by omega), cond_true, ask_of (by omega), e4, List.getElem?_eq_getElem hk, Option.bind_some, tag_eq n _ _ (by omega), Option.bind_some, ask_of (by simp [tags]; omega), wi_eq _ (by omega) (by omega)]
    congr 3
    rw [List.take_add_one, List.getElem?_eq_getElem hk]
    unfold tags
    rw [List.map_append]; rfl) (by
    show f_sign_Valid_b0 n l m _ _ = _
    unfold f_sign_Valid_b0
    rw [decide_eq_false (by omega), cond_false, List.take_of_length_le (by omega)]) (by omega) n (by omega)
  rw [show iter (fun ((a0, a1) : ((List (Arr 32 Int)) × Int)) => f_sign_Valid_b0 n l m a0 a1) n (([] : List (Arr 32 Int)), (0:Int)) = some (tags m l) from this, Option.bind_some]
  have ht : (tags m l).length = l.length := by simp [tags]
  by_cases h : l.length = 0
  · rw [decide_eq_false (by omega), cond_false, if_pos h]
  · rw [decide_eq_true (by omega), cond_true, if_neg h, sign_Join_eq _ _ (by omega) (by omega), Option.bind_some]
theorem pure_SignTags (x0 : List (Arr 32 Int)) (h0 : w_36 x0) (x1 : Arr 32 Int) (h1 : w_25 x1) (x2 : Int) (h2 : w_39 x2) (x3 : Arr 32 Int) (h3 : w_25 x3) : ∃ n, f_law07_SignTags n x0 x1 x2 x3 = some true := by
  refine ⟨100000, ?_⟩
  obtain ⟨k, rfl, hk⟩ := u64_nat h2
  unfold f_law07_SignTags
  rw [awake07, Option.bind_some]
  simp only [Bool.not_true, cond_false]
  by_cases h40 : (x0.length : Int) > 40
  · rw [decide_eq_true h40, cond_true]
  · rw [decide_eq_false h40, cond_false, ask_of (by simp; omega), message_eq _ _ _ hk (by omega), Option.bind_some, rmessage_eq _ _ _ hk (by omega), Option.bind_some, decide_eq_true rfl, Bool.not_true, cond_false, List.nil_append,
      sign_Join_eq _ _ (by omega) (by omega), Option.bind_some, rjoin_eq _ _ (by omega) (by omega), Option.bind_some, decide_eq_true rfl, Bool.not_true, cond_false]
    generalize tg x1 (wordA k) = m
    have := iter_cnt (b := fun ((a0, a1) : ((List (Arr 32 Int)) × Int)) => f_law07_SignTags_b0 100000 x0 m a0 a1) (fun k => tags m (x0.take k)) 0 x0.length (x := .inr (tags m x0)) (fun k _ hk => by
      show f_law07_SignTags_b0 100000 x0 m _ _ = _
      unfold f_law07_SignTags_b0
      have e4 : (k : Int).toNat = k := by omega
      rw [List.nil_append, decide_eq_true (show (k : Int) < (x0.length : Int) by omega), cond_true, ask_of (by omega), e4, ask_of (by omega), List.getElem?_eq_getElem hk, Option.bind_some, tag_eq _ _ _ (by omega), Option.bind_some, Option.bind_some, rtag_eq _ _ _ (by omega), Option.bind_some,
        decide_eq_true rfl, Bool.not_true, cond_false, ask_of (by simp [tags]; omega), wi_eq _ (by omega) (by omega)]
      congr 3
      rw [List.take_add_one, List.getElem?_eq_getElem hk]
      unfold tags
      rw [List.map_append]; rfl) (by
      show f_law07_SignTags_b0 100000 x0 m _ _ = _
      unfold f_law07_SignTags_b0
      rw [List.nil_append, decide_eq_false (by omega), cond_false, List.take_of_length_le (by omega)]) (by omega) 100000 (by omega)
    have ht : (tags m x0).length = x0.length := by simp [tags]
    rw [show iter (fun ((a0, a1) : ((List (Arr 32 Int)) × Int)) => f_law07_SignTags_b0 100000 x0 m a0 a1) 100000 (([] : List (Arr 32 Int)), (0:Int)) = some (.inr (tags m x0)) from this, Option.bind_some]
    show (Option.bind (f_sign_Join 100000 (tags m x0)) _) = _
    rw [sign_Join_eq _ _ (by omega) (by omega), Option.bind_some, valid_eq _ _ _ _ (by omega) (by omega), Option.bind_some, valid_eq _ _ _ _ (by omega) (by omega)]
    by_cases hz : x0.length = 0
    · rw [if_pos hz, if_pos hz, decide_eq_false (by omega)]; rfl
    · rw [if_neg hz, if_neg hz, decide_eq_true (show (x0.length : Int) > 0 by omega), decide_eq_true rfl, show (true == true) = true from rfl, cond_true, Option.bind_some, cond_true]
      simp [eq_comm]
end Go.Mg
