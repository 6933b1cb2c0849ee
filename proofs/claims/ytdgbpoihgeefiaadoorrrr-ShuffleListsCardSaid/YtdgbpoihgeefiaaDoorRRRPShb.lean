/- SHA-256: the reference's blocks; both sums. -/
import Derived.Test.YtdgbpoihgeefiaaDoorRRRPSha
namespace Go.Mg
open Go
theorem rblock_b2 (n : Nat) {x : List Int} {o : Nat} {b : Nat → Int} (ho : o + 64 ≤ x.length) (hm : x.length ≤ 2000000000000000000) (h : ∀ j, j < 64 → x[o + j]? = some (b j)) {k : Nat} (hk : k < 64) :
    f_ref02_Of_b2 n (o : Int) x (sched b k) (k : Int) = some (.inl (sched b (k + 1), ((k + 1 : Nat) : Int))) := by
  have e4 : (k : Int).toNat = k := by omega
  unfold f_ref02_Of_b2
  rw [decide_eq_true (show (k : Int) < 64 by omega), cond_true]
  by_cases h16 : k < 16
  · have e0 : ((o : Int) + 4 * (k : Int)).toNat = o + 4 * k := by omega
    have e1 : ((o : Int) + 4 * (k : Int) + 1).toNat = o + (4 * k + 1) := by omega
    have e2 : ((o : Int) + 4 * (k : Int) + 2).toNat = o + (4 * k + 2) := by omega
    have e3 : ((o : Int) + 4 * (k : Int) + 3).toNat = o + (4 * k + 3) := by omega
    rw [decide_eq_true (show (k : Int) < 16 by omega), cond_true]
    simp (disch := omega) only [wi_eq, ask_of, e0, e1, e2, e3, e4, h, Option.bind_some, Arr.get]
    simp only [sched, h16, if_true, word]
    rfl
  · have e0 : ((k : Int) - 15).toNat = k - 15 := by omega
    have e1 : ((k : Int) - 2).toNat = k - 2 := by omega
    have e2 : ((k : Int) - 16).toNat = k - 16 := by omega
    have e3 : ((k : Int) - 7).toNat = k - 7 := by omega
    rw [decide_eq_false (show ¬ (k : Int) < 16 by omega), cond_false]
    simp (disch := omega) only [wi_eq, ask_of, e0, e1, e2, e3, e4, Option.bind_some, Arr.get, rotR7, rotR18, rotR17, rotR19]
    simp only [sched, h16, if_false, sg0, sg1]
    rfl
def mk9 : I8 → Int → Int × Int × Int × Int × Int × Int × Int × Int × Int
  | (a, b, c, d, e, f, g, h), i => (a, b, c, d, e, f, g, h, i)
theorem rblock_b3 (n : Nat) (w : Arr 64 Int) (p : I8) {k : Nat} (hk : k < 64) :
    (fun ((a21, a22, a23, a24, a25, a26, a27, a28, a29) : (Int × Int × Int × Int × Int × Int × Int × Int × Int)) => f_ref02_Of_b3 n g_0 w a21 a22 a23 a24 a25 a26 a27 a28 a29) (mk9 p (k : Int)) = some (.inl (mk9 (rd (g_0.g k) (w.g k) p) ((k + 1 : Nat) : Int))) := by
  obtain ⟨a, b, c, d, e, f, g, h⟩ := p
  have e4 : (k : Int).toNat = k := by omega
  show f_ref02_Of_b3 n g_0 w a b c d e f g h (k : Int) = _
  unfold f_ref02_Of_b3
  rw [decide_eq_true (show (k : Int) < 64 by omega), cond_true]
  have hg : g_0.l[k]? = some (g_0.g k) := Arr.get g_0 hk
  simp (disch := omega) only [wi_eq, ask_of, e4, hg, Arr.get w, Option.bind_some, rotR6, rotR11, rotR25, rotR2, rotR13, rotR22]
  rfl
theorem rblock_loop (n : Nat) (hn : 100 ≤ n) (w : Arr 64 Int) (r : Nat → I8) (hr : ∀ k, r (k + 1) = rd (g_0.g k) (w.g k) (r k)) :
    iter (fun ((a21, a22, a23, a24, a25, a26, a27, a28, a29) : (Int × Int × Int × Int × Int × Int × Int × Int × Int)) => f_ref02_Of_b3 n g_0 w a21 a22 a23 a24 a25 a26 a27 a28 a29) n (mk9 (r 0) 0) = some (r 64) := by
  refine iter_steps (fun k => mk9 (r k) (k : Int)) 64 (fun k hk => ?_) ?_ n (by omega)
  · show _ = some (Sum.inl (mk9 (r (k + 1)) _))
    rw [hr k]; exact rblock_b3 n w (r k) hk
  · generalize r 64 = p
    obtain ⟨a, b, c, d, e, f, g, h⟩ := p
    rfl
theorem rblock_eq (n : Nat) (hn : 100 ≤ n) {x : List Int} {o : Nat} {b : Nat → Int} (ho : o + 64 ≤ x.length) (hm : x.length ≤ 2000000000000000000) (h : ∀ j, j < 64 → x[o + j]? = some (b j)) (p : I8) :
    f_ref02_Of_b1 n g_0 x (mk8 p) (o : Int) = some (.inl (mk8 (blkf b p), ((o + 64 : Nat) : Int))) := by
  unfold f_ref02_Of_b1
  rw [decide_eq_true (show (o : Int) < (x.length : Int) by omega), cond_true]
  rw [show iter (fun ((a11, a12) : ((Arr 64 Int) × Int)) => f_ref02_Of_b2 n (o : Int) x a11 a12) n ((Arr.rep 64 (0:Int)), (0:Int)) = some (sched b 64) from
    iter_cnt (sched b) 0 64 (fun k _ hk => rblock_b2 n ho hm h hk) (by unfold f_ref02_Of_b2; rfl) (by omega) n (by omega), Option.bind_some]
  have hr := rblock_loop n hn (sched b 64) (rds (sched b 64) p) (fun _ => rfl)
  rw [show rds (sched b 64) p 0 = p from rfl] at hr
  rw [wi_eq _ (by omega) (by omega), show (o : Int) + 64 = ((o + 64 : Nat) : Int) by omega]
  generalize ((o + 64 : Nat) : Int) = z
  generalize hq : rds (sched b 64) p 64 = q at hr
  unfold blkf
  rw [hq]
  clear hq
  obtain ⟨a, b, c, d, e, f, g, h⟩ := p
  obtain ⟨a', b', c', d', e', f', g', h'⟩ := q
  simp only [show (mk8 (a, b, c, d, e, f, g, h)).l = [a, b, c, d, e, f, g, h] from rfl, List.getElem?_cons_zero, List.getElem?_cons_succ, Option.bind_some]
  rw [show iter _ n (a, b, c, d, e, f, g, h, (0 : Int)) = _ from hr]
  rfl
/-! ### the padded text -/
def zs (len : Nat) : Nat := (119 - len % 64) % 64
def lby (len : Nat) (i : Int) : Int := w8 (shr .u64 (w64 (8 * (len : Int))) i)
def pad (b : List Int) : List Int := b ++ (128 : Int) :: (List.replicate (zs b.length) 0 ++ [lby b.length 56, lby b.length 48, lby b.length 40, lby b.length 32, lby b.length 24, lby b.length 16, lby b.length 8, lby b.length 0])
theorem pad_length (b : List Int) : (pad b).length = b.length + 9 + zs b.length := by simp [pad]; omega
theorem pad_mod (b : List Int) : (pad b).length % 64 = 0 := by rw [pad_length, zs]; omega
def blks (x : List Int) (p : I8) : Nat → I8
  | 0 => p
  | k + 1 => blkf (fun j => x.getD (64 * k + j) 0) (blks x p k)
def iv : I8 := (1779033703, 3144134277, 1013904242, 2773480762, 1359893119, 2600822924, 528734635, 1541459225)
def out4 (v : Int) : List Int := [w8 (shr .u32 v 24), w8 (shr .u32 v 16), w8 (shr .u32 v 8), w8 v]
def out : I8 → Arr 32 Int
  | (a, b, c, d, e, f, g, h) => ⟨out4 a ++ (out4 b ++ (out4 c ++ (out4 d ++ (out4 e ++ (out4 f ++ (out4 g ++ out4 h)))))), rfl⟩
def sha (b : List Int) : Arr 32 Int := out (blks (pad b) iv ((pad b).length / 64))
theorem of_b0 (n : Nat) (b : List Int) (hl : b.length ≤ 1000000000000) (hn : 100 ≤ n) : iter (fun (a0 : (List Int)) => f_digest_Of_b0 n a0) n ((([] : List Int) ++ b) ++ ([(128:Int)] : List Int)) = some (b ++ 128 :: List.replicate (zs b.length) 0) := by
  have hz : zs b.length < 64 := by unfold zs; omega
  have := iter_steps (b := fun (a0 : (List Int)) => f_digest_Of_b0 n a0) (fun k => b ++ 128 :: List.replicate k 0) (zs b.length) (x := b ++ 128 :: List.replicate (zs b.length) 0) (fun k hk => by
      show f_digest_Of_b0 n _ = _
      unfold f_digest_Of_b0
      have hc : (((b ++ (128 : Int) :: List.replicate k 0).length : Int).tmod 64 != 56) = true := by
        rw [tmod_pos' (by omega)]
        simp only [List.length_append, List.length_cons, List.length_replicate, bne_iff_ne, ne_eq]
        unfold zs at hk
        omega
      rw [hc, cond_true, ask_of (by simp; omega)]
      congr 2
      rw [List.append_assoc, List.cons_append, ← List.replicate_succ']) (by
      show f_digest_Of_b0 n _ = _
      unfold f_digest_Of_b0
      have hc : (((b ++ (128 : Int) :: List.replicate (zs b.length) 0).length : Int).tmod 64 != 56) = false := by
        rw [tmod_pos' (by omega)]
        simp only [List.length_append, List.length_cons, List.length_replicate, bne_eq_false_iff_eq]
        unfold zs
        omega
      rw [hc, cond_false]) n (by omega)
  rw [List.nil_append]
  exact this
theorem of_b1 (n : Nat) (b l : List Int) (hb : b.length ≤ 1000000000000) (hl : l.length ≤ 100000000000000) (hn : 100 ≤ n) : iter (fun ((a5, a6) : ((List Int) × Int)) => f_digest_Of_b1 n b a5 a6) n (l, (56 : Int)) = some (l ++ [lby b.length 56, lby b.length 48, lby b.length 40, lby b.length 32, lby b.length 24, lby b.length 16, lby b.length 8, lby b.length 0]) := by
  have hw : w64 (w64 (b.length : Int) * 8) = w64 (8 * (b.length : Int)) := by simp only [w64_eq]; omega
  have := iter_steps (b := fun ((a5, a6) : ((List Int) × Int)) => f_digest_Of_b1 n b a5 a6) (fun k => (l ++ (List.range k).map (fun j : Nat => lby b.length (56 - 8 * (j : Int))), 56 - 8 * (k : Int))) 8 (x := l ++ (List.range 8).map (fun j : Nat => lby b.length (56 - 8 * (j : Int)))) (fun k hk => by
      show f_digest_Of_b1 n b _ _ = _
      unfold f_digest_Of_b1
      rw [decide_eq_true (show (56 - 8 * (k : Int)) ≥ 0 by omega), cond_true, ask_true rfl, ask_of (by simp; omega), wi_eq _ (by omega) (by omega), hw, List.range_succ, List.map_append, List.append_assoc]
      congr 3
      omega) (by
      show f_digest_Of_b1 n b _ _ = _
      unfold f_digest_Of_b1
      rw [decide_eq_false (by omega), cond_false]) n (by omega)
  rw [show (List.range 8).map (fun j : Nat => lby b.length (56 - 8 * (j : Int))) = [lby b.length 56, lby b.length 48, lby b.length 40, lby b.length 32, lby b.length 24, lby b.length 16, lby b.length 8, lby b.length 0] from rfl, show (List.range 0).map (fun j : Nat => lby b.length (56 - 8 * (j : Int))) = [] from rfl, List.append_nil, show (56 - 8 * ((0 : Nat) : Int)) = 56 by decide] at this
  exact this
theorem getD_get {x : List Int} {i : Nat} (h : i < x.length) : x[i]? = some (x.getD i 0) := by
  rw [List.getD_eq_getElem?_getD, List.getElem?_eq_getElem h]; rfl
theorem of_b2 (n : Nat) (x : List Int) (p : I8) (hx : x.length % 64 = 0) (hn : x.length + 100 ≤ n) : iter (fun ((a13, a14) : ((List Int) × (Arr 8 Int))) => f_digest_Of_b2 n a13 a14) n (x, mk8 p) = some (mk8 (blks x p (x.length / 64))) := by
  have := iter_steps (b := fun ((a13, a14) : ((List Int) × (Arr 8 Int))) => f_digest_Of_b2 n a13 a14) (fun k => (x.drop (64 * k), mk8 (blks x p k))) (x.length / 64) (x := mk8 (blks x p (x.length / 64))) (fun k hk => by
      show f_digest_Of_b2 n _ _ = _
      unfold f_digest_Of_b2
      rw [decide_eq_true (by simp only [List.length_drop]; omega), cond_true, ask_of (by simp only [List.length_drop]; omega)]
      rw [block_eq n (by omega) (b := fun j => x.getD (64 * k + j) 0) (fun j hj => by
        rw [List.getElem?_take, if_pos hj, List.getElem?_drop, getD_get (by omega)]), Option.bind_some, List.drop_drop]
      rfl) (by
      show f_digest_Of_b2 n _ _ = _
      unfold f_digest_Of_b2
      rw [decide_eq_false (by simp only [List.length_drop]; omega), cond_false]) n (by omega)
  exact this
theorem of_b3 (m : Nat) (p : I8) : iter (fun ((a21, a22) : ((Arr 32 Int) × Int)) => f_digest_Of_b3 (m + 9) (mk8 p) a21 a22) (m + 9) ((Arr.rep 32 (0:Int)), (0:Int)) = some (out p) := by
  obtain ⟨a, b, c, d, e, f, g, h⟩ := p
  kernel_rfl
theorem digest_Of_eq (n : Nat) (b : List Int) (hb : b.length ≤ 1000000000000) (hn : b.length + 300 ≤ n) : f_digest_Of n b = some (sha b) := by
  unfold f_digest_Of
  have hz : zs b.length < 64 := by unfold zs; omega
  have hl := pad_length b
  rw [ask_of (by simp; omega), ask_of (by simp; omega), of_b0 n b hb (by omega), Option.bind_some, of_b1 n b _ hb (by simp; omega) (by omega), Option.bind_some]
  rw [show (b ++ (128 : Int) :: List.replicate (zs b.length) 0) ++ [lby b.length 56, lby b.length 48, lby b.length 40, lby b.length 32, lby b.length 24, lby b.length 16, lby b.length 8, lby b.length 0] = pad b by simp [pad]]
  rw [show iter (fun ((a13, a14) : ((List Int) × (Arr 8 Int))) => f_digest_Of_b2 n a13 a14) n (pad b, (⟨[(1779033703:Int), (3144134277:Int), (1013904242:Int), (2773480762:Int), (1359893119:Int), (2600822924:Int), (528734635:Int), (1541459225:Int)], rfl⟩ : (Arr 8 Int))) = _ from of_b2 n (pad b) iv (pad_mod b) (by omega), Option.bind_some]
  obtain ⟨m, rfl⟩ : ∃ m, n = m + 9 := ⟨n - 9, by omega⟩
  rw [of_b3]; rfl
/-! ### the reference -/
theorem shr_0 (k : IntKind) (x : Int) : shr k x 0 = x := by simp [shr, Int.fdiv_one]
def out4' (v : Int) : List Int := [w8 (shr .u32 v 24), w8 (shr .u32 v 16), w8 (shr .u32 v 8), w8 (shr .u32 v 0)]
def out' : I8 → Arr 32 Int
  | (a, b, c, d, e, f, g, h) => ⟨out4' a ++ (out4' b ++ (out4' c ++ (out4' d ++ (out4' e ++ (out4' f ++ (out4' g ++ out4' h)))))), rfl⟩
theorem out_eq (p : I8) : out p = out' p := by
  obtain ⟨a, b, c, d, e, f, g, h⟩ := p
  apply Arr.ext
  simp only [out, out', out4, out4', shr_0]
theorem rof_b4' (m : Nat) (a b c d e f g h : Int) : iter (fun ((a69, a70) : ((Arr 32 Int) × Int)) => f_ref02_Of_b4 (m + 33) (mk8 (a, b, c, d, e, f, g, h)) a69 a70) (m + 33) ((Arr.rep 32 (0:Int)), (0:Int)) = some (out' (a, b, c, d, e, f, g, h)) := by
  kernel_rfl
theorem rof_b4 (m : Nat) (p : I8) : iter (fun ((a69, a70) : ((Arr 32 Int) × Int)) => f_ref02_Of_b4 (m + 33) (mk8 p) a69 a70) (m + 33) ((Arr.rep 32 (0:Int)), (0:Int)) = some (out p) := by
  rw [out_eq]
  obtain ⟨a, b, c, d, e, f, g, h⟩ := p
  exact rof_b4' m a b c d e f g h
theorem rof_b1 (n : Nat) (x : List Int) (p : I8) (hx : x.length % 64 = 0) (hm : x.length ≤ 2000000000000000000) (hn : x.length + 100 ≤ n) : iter (fun ((a8, a9) : ((Arr 8 Int) × Int)) => f_ref02_Of_b1 n g_0 x a8 a9) n (mk8 p, (0 : Int)) = some (mk8 (blks x p (x.length / 64))) := by
  have := iter_steps (b := fun ((a8, a9) : ((Arr 8 Int) × Int)) => f_ref02_Of_b1 n g_0 x a8 a9) (fun k => (mk8 (blks x p k), ((64 * k : Nat) : Int))) (x.length / 64) (x := mk8 (blks x p (x.length / 64))) (fun k hk => by
      show f_ref02_Of_b1 n _ _ _ _ = _
      rw [rblock_eq n (by omega) (by omega) hm (b := fun j => x.getD (64 * k + j) 0) (fun j hj => getD_get (by omega))]
      rfl) (by
      show f_ref02_Of_b1 n _ _ _ _ = _
      unfold f_ref02_Of_b1
      rw [decide_eq_false (by omega), cond_false]) n (by omega)
  exact this
theorem rof_b0 (n : Nat) (b l : List Int) (hb : b.length ≤ 1000000000000) (hl : l.length ≤ 1000000000000) (hn : 100 ≤ n) : iter (fun ((a0, a1) : ((List Int) × Int)) => f_ref02_Of_b0 n b a0 a1) n (l ++ List.replicate 8 0, (0 : Int)) = some (l ++ [lby b.length 56, lby b.length 48, lby b.length 40, lby b.length 32, lby b.length 24, lby b.length 16, lby b.length 8, lby b.length 0]) := by
  let g : Nat → List Int := fun k => List.replicate (8 - k) 0 ++ ((List.range k).map (fun j : Nat => lby b.length (8 * (j : Int)))).reverse
  have hg : ∀ k, k ≤ 8 → (g k).length = 8 := fun k hk => by simp [g]; omega
  have := iter_cnt (b := fun ((a0, a1) : ((List Int) × Int)) => f_ref02_Of_b0 n b a0 a1) (fun k => l ++ g k) 0 8 (x := l ++ g 8) (fun k _ hk => by
      show f_ref02_Of_b0 n b _ _ = _
      unfold f_ref02_Of_b0
      have hlen : (l ++ g k).length = l.length + 8 := by rw [List.length_append, hg k (by omega)]
      have e1 : ((l.length : Int) + 8 - 1 - (k : Int)).toNat = l.length + (7 - k) := by omega
      rw [hlen, show (((l.length + 8 : Nat) : Int)) = (l.length : Int) + 8 by omega, decide_eq_true (show (k : Int) < 8 by omega), cond_true]
      simp (disch := omega) only [wi_eq, ask_of, e1]
      rw [List.getElem?_eq_getElem (by omega), Option.bind_some, List.set_append_right _ _ (by omega), show l.length + (7 - k) - l.length = 7 - k by omega]
      congr 3
      show l ++ (g k).set (7 - k) (lby b.length (8 * (k : Int))) = l ++ g (k + 1)
      congr 1
      simp only [g]
      rw [show 8 - k = (7 - k) + 1 by omega, List.replicate_succ', List.append_assoc, List.set_append_right _ _ (by simp), List.length_replicate, Nat.sub_self, List.range_succ, List.map_append, List.reverse_append, show 8 - (k + 1) = 7 - k by omega]
      rfl) (by
      show f_ref02_Of_b0 n b _ _ = _
      unfold f_ref02_Of_b0
      rw [decide_eq_false (by omega), cond_false]) (by omega) n (by omega)
  exact this
theorem ref_Of_eq (n : Nat) (b : List Int) (hb : b.length ≤ 100000000000) (hn : b.length + 300 ≤ n) : f_ref02_Of n b = some (sha b) := by
  unfold f_ref02_Of
  have hz : zs b.length < 64 := by unfold zs; omega
  have hl := pad_length b
  have hL : wi (wi ((wi (wi ((b.length : Int) + 9) + 63)).tdiv 64) * 64) = ((b.length + 9 + zs b.length : Nat) : Int) := by
    rw [wi_eq ((b.length : Int) + 9) (by omega) (by omega), wi_eq ((b.length : Int) + 9 + 63) (by omega) (by omega), tdiv_pos' (by omega), wi_eq (((b.length : Int) + 9 + 63) / 64) (by omega) (by omega), wi_eq _ (by omega) (by omega)]
    unfold zs; omega
  rw [hL, show f_ref02_numbers n = some g_0 from rfl, Option.bind_some, Int.toNat_natCast, Int.toNat_natCast]
  have ho : over (List.replicate (b.length + 9 + zs b.length) (0 : Int)) 0 (List.replicate (b.length + 9 + zs b.length) (0 : Int)).length b = b ++ List.replicate (9 + zs b.length) 0 := by
    simp only [over, List.take_zero, List.nil_append, List.length_replicate, List.drop_replicate]
    rw [List.take_of_length_le (by omega)]
    congr 2
    omega
  rw [ho, ask_of (by omega), ask_of (by omega), ask_of (by simp; omega), List.getElem?_eq_getElem (by simp; omega), Option.bind_some]
  rw [show (b ++ List.replicate (9 + zs b.length) (0 : Int)).set b.length 128 = (b ++ 128 :: List.replicate (zs b.length) 0) ++ List.replicate 8 0 by
    rw [List.set_append_right _ _ (by omega), Nat.sub_self, show 9 + zs b.length = (zs b.length + 8) + 1 by omega, List.replicate_succ, List.set_cons_zero, ← List.replicate_append_replicate, List.append_assoc, List.cons_append]]
  rw [rof_b0 n b _ (by omega) (by simp; omega) (by omega), Option.bind_some]
  rw [show (b ++ (128 : Int) :: List.replicate (zs b.length) 0) ++ [lby b.length 56, lby b.length 48, lby b.length 40, lby b.length 32, lby b.length 24, lby b.length 16, lby b.length 8, lby b.length 0] = pad b by simp [pad]]
  rw [show iter (fun ((a8, a9) : ((Arr 8 Int) × Int)) => f_ref02_Of_b1 n g_0 (pad b) a8 a9) n ((⟨[(1779033703:Int), (3144134277:Int), (1013904242:Int), (2773480762:Int), (1359893119:Int), (2600822924:Int), (528734635:Int), (1541459225:Int)], rfl⟩ : (Arr 8 Int)), (0 : Int)) = _ from rof_b1 n (pad b) iv (pad_mod b) (by omega) (by omega), Option.bind_some]
  obtain ⟨m, rfl⟩ : ∃ m, n = m + 33 := ⟨n - 33, by omega⟩
  rw [rof_b4]; rfl
end Go.Mg
