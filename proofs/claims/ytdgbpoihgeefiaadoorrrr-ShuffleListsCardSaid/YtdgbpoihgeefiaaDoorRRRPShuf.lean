/- Where places go. -/
import Derived.Test.YtdgbpoihgeefiaaDoorRRRPTake
namespace Go.Mg
open Go
def bok (y : Int) : Prop := 0 ≤ y ∧ y ≤ 255
theorem w8_ok (x : Int) : bok (w8 x) := by
  have := w8_eq x
  exact ⟨by omega, by omega⟩
theorem out4_ok (v : Int) : ∀ y ∈ out4 v, bok y := by
  intro y hy
  simp only [out4, List.mem_cons, List.not_mem_nil, or_false] at hy
  rcases hy with rfl | rfl | rfl | rfl <;> exact w8_ok _
theorem sha_ok (b : List Int) : ∀ y ∈ (sha b).l, bok y := by
  unfold sha
  generalize blks (pad b) iv ((pad b).length / 64) = p
  obtain ⟨a, b, c, d, e, f, g, h⟩ := p
  intro y hy
  simp only [out, List.mem_append] at hy
  rcases hy with hy | hy | hy | hy | hy | hy | hy | hy <;> exact out4_ok _ y hy
def nats (l : List Int) : List Nat := l.map Int.toNat
theorem ints_nats {l : List Int} (h : ∀ y ∈ l, bok y) : ints (nats l) = l := by
  simp only [ints, nats, List.map_map]
  conv => rhs; rw [← List.map_id l]
  apply List.map_congr_left
  intro y hy
  have := (h y hy).1
  simp; omega
theorem nats_lt {l : List Int} (h : ∀ y ∈ l, bok y) : ∀ b ∈ nats l, b < 256 := by
  intro b hb
  simp only [nats, List.mem_map] at hb
  obtain ⟨y, hy, rfl⟩ := hb
  have := (h y hy).2
  omega
/-- the number that a digest begins with -/
def tk (d : Arr 32 Int) : Nat := val (nats (d.l.take 8))
theorem tk_lt {b : List Int} : tk (sha b) < 18446744073709551616 := by
  have := val_lt (nats ((sha b).l.take 8)) (nats_lt fun y hy => sha_ok b y (List.mem_of_mem_take hy))
  rw [show (nats ((sha b).l.take 8)).length = 8 by simp [nats, (sha b).h]] at this
  exact this
theorem tk_num (n : Nat) (b : List Int) (hn : 100 ≤ n) : f_num_Take n (List.take 8 (List.drop 0 (sha b).l)) = some ((tk (sha b) : Nat) : Int) := by
  have hb : ∀ y ∈ (sha b).l.take 8, bok y := fun y hy => sha_ok b y (List.mem_of_mem_take hy)
  rw [List.drop_zero, ← ints_nats hb, take_num n _ (nats_lt hb) (by simp [nats]; omega) (by omega)]
  rw [List.take_of_length_le (by simp [nats]; omega)]; rfl
theorem tk_ref (n : Nat) (b : List Int) (hn : 100 ≤ n) : f_ref01_Take n (List.take 8 (List.drop 0 (sha b).l)) = some ((tk (sha b) : Nat) : Int) := by
  have hb : ∀ y ∈ (sha b).l.take 8, bok y := fun y hy => sha_ok b y (List.mem_of_mem_take hy)
  rw [List.drop_zero, ← ints_nats hb, take_ref n _ (nats_lt hb) (by simp [nats]; omega) (by simp [nats]; omega)]
  rw [List.take_of_length_le (by simp [nats]; omega)]; rfl
variable (seed : Arr 32 Int)
def piv (r nn : Nat) : Nat := tk (sha (seed.l ++ [(r : Int)])) % nn
def dg (r q : Nat) : Arr 32 Int := sha (seed.l ++ [(r : Int)] ++ ints (putN q 4))
def bitOf (v : Int) (k : Nat) : Bool := decide (v.toNat / 2 ^ k % 2 = 1)
def bt (r p : Nat) : Bool := bitOf ((dg seed r (p / 256)).g (p % 256 / 8)) (p % 8)
def flip (r nn a : Nat) : Nat := (piv seed r nn + nn - a) % nn
def stp (r nn a : Nat) : Nat := if bt seed r (max a (flip seed r nn a)) then flip seed r nn a else a
def stps (nn a : Nat) : Nat → Nat
  | 0 => a
  | r + 1 => stp seed r nn (stps nn a r)
theorem flip_lt {r nn a : Nat} (h : 0 < nn) : flip seed r nn a < nn := Nat.mod_lt _ h
theorem stp_lt {r nn a : Nat} (h : a < nn) : stp seed r nn a < nn := by
  unfold stp
  split
  · exact flip_lt seed (by omega)
  · exact h
theorem stps_lt {nn a : Nat} (h : a < nn) : ∀ r, stps seed nn a r < nn
  | 0 => h
  | r + 1 => stp_lt seed (stps_lt h r)
theorem piv_lt {r nn : Nat} (h : 0 < nn) : piv seed r nn < nn := Nat.mod_lt _ h
/-- what is read of a byte -/
theorem bit_eq {v : Int} (hv : bok v) {k : Nat} (hk : k < 8) : bits .and .u8 (shr .u8 v (k : Int)) 1 = if bitOf v k then 1 else 0 := by
  obtain ⟨m, rfl⟩ := Int.eq_ofNat_of_zero_le hv.1
  have hm : m < 256 := by have := hv.2; omega
  have hq : m / 2 ^ k ≤ m := Nat.div_le_self _ _
  rw [shr_nat .u8 m k (by show k ≤ 8; omega)]
  have := bits_and (k := .u8) rfl (a := m / 2 ^ k) (b := 1) (show _ < 2 ^ 8 by omega) (by decide)
  rw [show ((1 : Nat) : Int) = 1 from rfl] at this
  rw [this, show (1 : Nat) = 2 ^ 1 - 1 from rfl, Nat.and_two_pow_sub_one_eq_mod]
  unfold bitOf
  rw [Int.toNat_natCast]
  rcases Nat.mod_two_eq_zero_or_one (m / 2 ^ k) with h | h
  · rw [show m / 2 ^ k % 2 ^ 1 = 0 from h]; rfl
  · rw [show m / 2 ^ k % 2 ^ 1 = 1 from h]; rfl
theorem w8_small {r : Nat} (h : r < 256) : w8 (r : Int) = (r : Int) := by rw [w8_eq]; omega
theorem pivot_eq (n r nn : Nat) (hr : r < 256) (hnn : 0 < nn) (hn : 1000 ≤ n) : f_shuffle_pivot n seed r nn = some ((piv seed r nn : Nat) : Int) := by
  unfold f_shuffle_pivot
  rw [ask_of (by simp [seed.h]), ask_of (by simp [seed.h]), List.nil_append, w8_small hr, digest_Of_eq n _ (by simp [seed.h]) (by simp [seed.h]; omega), Option.bind_some, tk_num n _ (by omega), Option.bind_some, ask_of (by omega), tmod_pos' (by omega)]
  unfold piv
  congr 1
theorem dg_ok (r q : Nat) : ∀ y ∈ (dg seed r q).l, bok y := sha_ok _
theorem g_ok {a : Arr 32 Int} (h : ∀ y ∈ a.l, bok y) {i : Nat} (hi : i < 32) : bok (a.g i) := by
  have := Arr.get a hi
  exact h _ (List.mem_of_getElem? this)
theorem bit_num (n r p : Nat) (hr : r < 256) (hp : p < 18446744073709551616) (hn : 2000 ≤ n) : f_shuffle_bit n seed r p = some (bt seed r p) := by
  unfold f_shuffle_bit
  have e1 : w64 ((p : Int).tdiv 256) = ((p / 256 : Nat) : Int) := by rw [tdiv_pos' (by omega), w64_eq]; omega
  have e2 : w64 (((p : Int).tmod 256).tdiv 8) = ((p % 256 / 8 : Nat) : Int) := by
    have : (p : Int).tmod 256 = ((p % 256 : Nat) : Int) := by rw [tmod_pos' (by omega)]; omega
    rw [this, tdiv_pos' (by omega), w64_eq]; omega
  have e3 : (p : Int).tmod 8 = ((p % 8 : Nat) : Int) := by rw [tmod_pos' (by omega)]; omega
  rw [ask_of (by simp [seed.h]), ask_of (by simp [seed.h]), e1, put_num n (p / 256) (by omega) 4 (by omega) (by omega), Option.bind_some, List.nil_append, w8_small hr]
  show ask (decide (((seed.l ++ [(r : Int)]).length + (ints (putN (p / 256) 4)).length) * 1 ≤ 140737488355328)) (Option.bind (f_digest_Of n (seed.l ++ [(r : Int)] ++ ints (putN (p / 256) 4))) _) = _
  rw [ask_of (by simp [seed.h, ints_len, putN_len]), digest_Of_eq n _ (by simp [seed.h, ints_len, putN_len]) (by simp [seed.h, ints_len, putN_len]; omega), Option.bind_some, e2, ask_of (by omega), ask_of (by omega), Int.toNat_natCast, Arr.get _ (show p % 256 / 8 < 32 by omega), Option.bind_some, e3, ask_of (by omega)]
  show some (bits .and .u8 (shr .u8 ((dg seed r (p / 256)).g (p % 256 / 8)) ((p % 8 : Nat) : Int)) 1 != 0) = some (bt seed r p)
  rw [bit_eq (g_ok (dg_ok seed r (p / 256)) (by omega)) (by omega)]
  unfold bt
  cases bitOf ((dg seed r (p / 256)).g (p % 256 / 8)) (p % 8) <;> rfl
/-- the place over against one -/
theorem flip_int {r nn a : Nat} (hn : nn ≤ 1099511627776) (h : a < nn) : (w64 (w64 (((piv seed r nn : Nat) : Int) + (nn : Int)) - (a : Int))).tmod (nn : Int) = ((flip seed r nn a : Nat) : Int) := by
  have hp := piv_lt seed (r := r) (show 0 < nn by omega)
  unfold flip
  generalize piv seed r nn = p at hp ⊢
  rw [w64_eq ((p : Int) + (nn : Int)), show ((p : Int) + (nn : Int)) % 18446744073709551616 = ((p + nn : Nat) : Int) by omega, w64_eq, show (((p + nn : Nat) : Int) - (a : Int)) % 18446744073709551616 = ((p + nn - a : Nat) : Int) by omega, tmod_pos' (by omega)]
  omega
theorem gmax_nat (a b : Nat) : gmax (a : Int) (b : Int) = ((max a b : Nat) : Int) := by rw [gmax_eq]; omega
theorem index_b0 (n nn a r : Nat) (hnn : nn ≤ 1099511627776) (ha : a < nn) (hr : r < 5) (hn : 2000 ≤ n) : f_shuffle_Index_b0 n nn seed a r = some (.inl (((stp seed r nn a : Nat) : Int), ((r + 1 : Nat) : Int))) := by
  unfold f_shuffle_Index_b0
  have hf := flip_lt seed (r := r) (a := a) (show 0 < nn by omega)
  rw [decide_eq_true (show (r : Int) < 5 by omega), cond_true, pivot_eq seed n r nn (by omega) (by omega) (by omega), Option.bind_some, ask_of (by omega), flip_int seed hnn ha, gmax_nat, bit_num seed n r _ (by omega) (by omega) hn, Option.bind_some, show w64 ((r : Int) + 1) = ((r + 1 : Nat) : Int) by rw [w64_eq]; omega]
  unfold stp
  cases bt seed r (max a (flip seed r nn a)) <;> rfl
theorem index_loop (n nn i : Nat) (hnn : nn ≤ 1099511627776) (hi : i < nn) (hn : 2000 ≤ n) : iter (fun ((a0, a1) : (Int × Int)) => f_shuffle_Index_b0 n (nn : Int) seed a0 a1) n ((i : Int), (0 : Int)) = some ((stps seed nn i 5 : Nat) : Int) :=
  iter_cnt (b := fun ((a0, a1) : (Int × Int)) => f_shuffle_Index_b0 n (nn : Int) seed a0 a1) (fun r => ((stps seed nn i r : Nat) : Int)) 0 5 (fun r _ hr => index_b0 seed n nn _ r hnn (stps_lt seed hi r) hr hn) (by
    show f_shuffle_Index_b0 n _ _ _ _ = _
    unfold f_shuffle_Index_b0
    rw [decide_eq_false (by omega), cond_false]) (by omega) n (by omega)
/-! ### the reference -/
theorem rdigest_eq (n : Nat) (l : List Int) (hl : l.length ≤ 1000) (hn : 2000 ≤ n) : f_ref07_digest n seed l = some (sha (seed.l ++ l)) := by
  unfold f_ref07_digest
  rw [ask_of (by simp [seed.h]), ask_of (by simp [seed.h]; omega), List.nil_append, ref_Of_eq n _ (by simp [seed.h]; omega) (by simp [seed.h]; omega)]; rfl
theorem rmax (n a f : Nat) : f_ref01_Max n (a : Int) (f : Int) = some ((max a f : Nat) : Int) := by
  unfold f_ref01_Max
  by_cases h : (a : Int) > (f : Int)
  · rw [decide_eq_true h, cond_true, show ((max a f : Nat) : Int) = (a : Int) by omega]
  · rw [decide_eq_false h, cond_false, show ((max a f : Nat) : Int) = (f : Int) by omega]
theorem rindex_b0 (n nn a r : Nat) (hnn : nn ≤ 1099511627776) (ha : a < nn) (hr : r < 5) (hn : 2000 ≤ n) : f_ref07_Index_b0 n nn seed a r = some (.inl (((stp seed r nn a : Nat) : Int), ((r + 1 : Nat) : Int))) := by
  unfold f_ref07_Index_b0
  have hf := flip_lt seed (r := r) (a := a) (show 0 < nn by omega)
  have hp : ((tk (sha (seed.l ++ [(r : Int)])) : Nat) : Int).tmod (nn : Int) = ((piv seed r nn : Nat) : Int) := by rw [tmod_pos' (by omega)]; unfold piv; omega
  rw [decide_eq_true (show (r : Int) < 5 by omega), cond_true, w8_small (by omega), rdigest_eq seed n _ (by simp) hn, Option.bind_some, tk_ref n _ (by omega), Option.bind_some, ask_of (by omega), hp, flip_int seed hnn ha]
  rw [rmax n a (flip seed r nn a), Option.bind_some]
  unfold stp
  generalize hpp : max a (flip seed r nn a) = p
  have hp2 : p < nn := by omega
  have e1 : w64 ((p : Int).tdiv 256) = ((p / 256 : Nat) : Int) := by rw [tdiv_pos' (by omega), w64_eq]; omega
  have e2 : w64 (((p : Int).tmod 256).tdiv 8) = ((p % 256 / 8 : Nat) : Int) := by
    have : (p : Int).tmod 256 = ((p % 256 : Nat) : Int) := by rw [tmod_pos' (by omega)]; omega
    rw [this, tdiv_pos' (by omega), w64_eq]; omega
  have e3 : (p : Int).tmod 8 = ((p % 8 : Nat) : Int) := by rw [tmod_pos' (by omega)]; omega
  rw [e1, put_ref n (p / 256) (by omega) 4 (by omega) (by omega), Option.bind_some]
  show ask (decide ((([(r : Int)] : List Int).length + (ints (putN (p / 256) 4)).length) * 1 ≤ 140737488355328)) (Option.bind (f_ref07_digest n seed ([(r : Int)] ++ ints (putN (p / 256) 4))) _) = _
  rw [ask_of (by simp [ints_len, putN_len]), rdigest_eq seed n _ (by simp [ints_len, putN_len]) hn, Option.bind_some, ← List.append_assoc, e2, ask_of (by omega), ask_of (by omega), Int.toNat_natCast]
  show Option.bind ((dg seed r (p / 256)).l[p % 256 / 8]?) _ = _
  rw [Arr.get _ (show p % 256 / 8 < 32 by omega), Option.bind_some, e3, ask_of (by omega), bit_eq (g_ok (dg_ok seed r (p / 256)) (by omega)) (by omega), wi_eq _ (by omega) (by omega)]
  show _ = some (Sum.inl (((if bitOf ((dg seed r (p / 256)).g (p % 256 / 8)) (p % 8) then flip seed r nn a else a : Nat) : Int), ((r + 1 : Nat) : Int)))
  cases bitOf ((dg seed r (p / 256)).g (p % 256 / 8)) (p % 8) <;> rfl
theorem rindex_loop (n nn i : Nat) (hnn : nn ≤ 1099511627776) (hi : i < nn) (hn : 2000 ≤ n) : iter (fun ((a0, a1) : (Int × Int)) => f_ref07_Index_b0 n (nn : Int) seed a0 a1) n ((i : Int), (0 : Int)) = some ((stps seed nn i 5 : Nat) : Int) :=
  iter_cnt (b := fun ((a0, a1) : (Int × Int)) => f_ref07_Index_b0 n (nn : Int) seed a0 a1) (fun r => ((stps seed nn i r : Nat) : Int)) 0 5 (fun r _ hr => rindex_b0 seed n nn _ r hnn (stps_lt seed hi r) hr hn) (by
    show f_ref07_Index_b0 n _ _ _ _ = _
    unfold f_ref07_Index_b0
    rw [decide_eq_false (by omega), cond_false]) (by omega) n (by omega)
theorem rindex_eq (n nn i : Nat) (hnn : nn ≤ 1099511627776) (hi : i < nn) (hn : 2000 ≤ n) : f_ref07_Index n i nn seed = some (((stps seed nn i 5 : Nat) : Int), true) := by
  unfold f_ref07_Index
  rw [show ((nn : Int) == 0) = false by rw [beq_eq_false_iff_ne]; omega, cond_false, decide_eq_false (by omega), cond_false, decide_eq_false (by omega), cond_false, rindex_loop seed n nn i hnn hi hn]; rfl
end Go.Mg
