/- SHA-256 as one plain function; both programs compute it. -/
import Derived.Test.YtighjjielkdafaaDoorAF
namespace Go.Mg
open Go
theorem iter_cnt {A X : Type} {b : A × Int → Option ((A × Int) ⊕ X)} (s : Nat → A) (i N : Nat) {x : X} (hs : ∀ k, i ≤ k → k < N → b (s k, (k : Int)) = some (.inl (s (k + 1), ((k + 1 : Nat) : Int))))
    (he : b (s N, (N : Int)) = some (.inr x)) (hN : i ≤ N) (n : Nat) (hn : N < n + i) : iter b n (s i, (i : Int)) = some x := by
  have := iter_steps (b := b) (fun k => (s (i + k), ((i + k : Nat) : Int))) (N - i) (x := x) (fun k hk => hs (i + k) (by omega) (by omega)) (by rw [show i + (N - i) = N by omega]; exact he) n (by omega)
  exact this
theorem bits_or_comm (k : IntKind) (x y : Int) : bits .or k x y = bits .or k y x := by simp only [bits, BitVec.or_comm]
def Arr.g {n : Nat} (a : Arr n Int) (j : Nat) : Int := a.l.getD j 0
theorem Arr.get {n : Nat} (a : Arr n Int) {j : Nat} (h : j < n) : a.l[j]? = some (a.g j) := by
  have : j < a.l.length := by rw [a.h]; exact h
  rw [Arr.g, List.getD_eq_getElem?_getD, List.getElem?_eq_getElem this]; rfl
abbrev I8 := Int × Int × Int × Int × Int × Int × Int × Int
def mk8 : I8 → Arr 8 Int
  | (a, b, c, d, e, f, g, h) => ⟨[a, b, c, d, e, f, g, h], rfl⟩
def rot (x k : Int) : Int := bits .or .u32 (shr .u32 x k) (shl .u32 x (32 - k))
theorem rotL (n : Nat) (x k : Int) (h1 : bits .and .u64 (w64 (-k)) 31 = 32 - k) (h2 : w64 (32 - (32 - k)) = k) (h3 : 0 ≤ 32 - k) (h4 : 0 ≤ k) : f_bits_RotateLeft32 n x (-k) = some (rot x k) := by
  unfold f_bits_RotateLeft32
  rw [h1, h2, ask_of h3, ask_of h4, bits_or_comm]; rfl
theorem rotR (n : Nat) (x k : Int) (h1 : wi (32 - k) = 32 - k) (h3 : 0 ≤ 32 - k) (h4 : 0 ≤ k) : f_ref02_right n x k = some (rot x k) := by
  unfold f_ref02_right
  rw [h1, ask_of h3, ask_of h4]; rfl
theorem rotL7 (n : Nat) (x : Int) : f_bits_RotateLeft32 n x (-7) = some (rot x 7) := rotL n x 7 (by decide +kernel) (by decide +kernel) (by decide) (by decide)
theorem rotR7 (n : Nat) (x : Int) : f_ref02_right n x 7 = some (rot x 7) := rotR n x 7 (by decide +kernel) (by decide) (by decide)
theorem rotL18 (n : Nat) (x : Int) : f_bits_RotateLeft32 n x (-18) = some (rot x 18) := rotL n x 18 (by decide +kernel) (by decide +kernel) (by decide) (by decide)
theorem rotR18 (n : Nat) (x : Int) : f_ref02_right n x 18 = some (rot x 18) := rotR n x 18 (by decide +kernel) (by decide) (by decide)
theorem rotL17 (n : Nat) (x : Int) : f_bits_RotateLeft32 n x (-17) = some (rot x 17) := rotL n x 17 (by decide +kernel) (by decide +kernel) (by decide) (by decide)
theorem rotR17 (n : Nat) (x : Int) : f_ref02_right n x 17 = some (rot x 17) := rotR n x 17 (by decide +kernel) (by decide) (by decide)
theorem rotL19 (n : Nat) (x : Int) : f_bits_RotateLeft32 n x (-19) = some (rot x 19) := rotL n x 19 (by decide +kernel) (by decide +kernel) (by decide) (by decide)
theorem rotR19 (n : Nat) (x : Int) : f_ref02_right n x 19 = some (rot x 19) := rotR n x 19 (by decide +kernel) (by decide) (by decide)
theorem rotL6 (n : Nat) (x : Int) : f_bits_RotateLeft32 n x (-6) = some (rot x 6) := rotL n x 6 (by decide +kernel) (by decide +kernel) (by decide) (by decide)
theorem rotR6 (n : Nat) (x : Int) : f_ref02_right n x 6 = some (rot x 6) := rotR n x 6 (by decide +kernel) (by decide) (by decide)
theorem rotL11 (n : Nat) (x : Int) : f_bits_RotateLeft32 n x (-11) = some (rot x 11) := rotL n x 11 (by decide +kernel) (by decide +kernel) (by decide) (by decide)
theorem rotR11 (n : Nat) (x : Int) : f_ref02_right n x 11 = some (rot x 11) := rotR n x 11 (by decide +kernel) (by decide) (by decide)
theorem rotL25 (n : Nat) (x : Int) : f_bits_RotateLeft32 n x (-25) = some (rot x 25) := rotL n x 25 (by decide +kernel) (by decide +kernel) (by decide) (by decide)
theorem rotR25 (n : Nat) (x : Int) : f_ref02_right n x 25 = some (rot x 25) := rotR n x 25 (by decide +kernel) (by decide) (by decide)
theorem rotL2 (n : Nat) (x : Int) : f_bits_RotateLeft32 n x (-2) = some (rot x 2) := rotL n x 2 (by decide +kernel) (by decide +kernel) (by decide) (by decide)
theorem rotR2 (n : Nat) (x : Int) : f_ref02_right n x 2 = some (rot x 2) := rotR n x 2 (by decide +kernel) (by decide) (by decide)
theorem rotL13 (n : Nat) (x : Int) : f_bits_RotateLeft32 n x (-13) = some (rot x 13) := rotL n x 13 (by decide +kernel) (by decide +kernel) (by decide) (by decide)
theorem rotR13 (n : Nat) (x : Int) : f_ref02_right n x 13 = some (rot x 13) := rotR n x 13 (by decide +kernel) (by decide) (by decide)
theorem rotL22 (n : Nat) (x : Int) : f_bits_RotateLeft32 n x (-22) = some (rot x 22) := rotL n x 22 (by decide +kernel) (by decide +kernel) (by decide) (by decide)
theorem rotR22 (n : Nat) (x : Int) : f_ref02_right n x 22 = some (rot x 22) := rotR n x 22 (by decide +kernel) (by decide) (by decide)

def word (v0 v1 v2 v3 : Int) : Int := bits .or .u32 (bits .or .u32 (bits .or .u32 (shl .u32 (w32 v0) 24) (shl .u32 (w32 v1) 16)) (shl .u32 (w32 v2) 8)) (w32 v3)
def sg0 (x : Int) : Int := bits .xor .u32 (bits .xor .u32 (rot x 7) (rot x 18)) (shr .u32 x 3)
def sg1 (x : Int) : Int := bits .xor .u32 (bits .xor .u32 (rot x 17) (rot x 19)) (shr .u32 x 10)
def bs0 (x : Int) : Int := bits .xor .u32 (bits .xor .u32 (rot x 2) (rot x 13)) (rot x 22)
def bs1 (x : Int) : Int := bits .xor .u32 (bits .xor .u32 (rot x 6) (rot x 11)) (rot x 25)
def chs (e f g : Int) : Int := bits .xor .u32 (bits .and .u32 e f) (bits .and .u32 (bits .xor .u32 (4294967295) e) g)
def maj (a b c : Int) : Int := bits .xor .u32 (bits .xor .u32 (bits .and .u32 a b) (bits .and .u32 a c)) (bits .and .u32 b c)
def sched (b : Nat → Int) : Nat → Arr 64 Int
  | 0 => Arr.rep 64 0
  | i + 1 => (sched b i).set i (if i < 16 then word (b (4 * i)) (b (4 * i + 1)) (b (4 * i + 2)) (b (4 * i + 3)) else
      w32 (w32 (w32 ((sched b i).g (i - 16) + sg0 ((sched b i).g (i - 15))) + (sched b i).g (i - 7)) + sg1 ((sched b i).g (i - 2))))
def t1 (k w e f g h : Int) : Int := w32 (w32 (w32 (w32 (h + bs1 e) + chs e f g) + k) + w)
def rd (k w : Int) : I8 → I8
  | (a, b, c, d, e, f, g, h) => (w32 (t1 k w e f g h + w32 (bs0 a + maj a b c)), a, b, c, w32 (d + t1 k w e f g h), e, f, g)
def rds (w : Arr 64 Int) (p : I8) : Nat → I8
  | 0 => p
  | i + 1 => rd (g_0.g i) (w.g i) (rds w p i)
def add8 : I8 → I8 → I8
  | (a, b, c, d, e, f, g, h), (a', b', c', d', e', f', g', h') => (w32 (a + a'), w32 (b + b'), w32 (c + c'), w32 (d + d'), w32 (e + e'), w32 (f + f'), w32 (g + g'), w32 (h + h'))
def blkf (b : Nat → Int) (p : I8) : I8 := add8 p (rds (sched b 64) p 64)

theorem block_b0 (n : Nat) {po : List Int} {b : Nat → Int} (h : ∀ j, j < 64 → po[j]? = some (b j)) {k : Nat} (hk : k < 16) : f_digest_block_b0 n po (sched b k) (k : Int) = some (.inl (sched b (k + 1), ((k + 1 : Nat) : Int))) := by
  have e0 : (4 * (k : Int)).toNat = 4 * k := by omega
  have e1 : (4 * (k : Int) + 1).toNat = 4 * k + 1 := by omega
  have e2 : (4 * (k : Int) + 2).toNat = 4 * k + 2 := by omega
  have e3 : (4 * (k : Int) + 3).toNat = 4 * k + 3 := by omega
  have e4 : (k : Int).toNat = k := by omega
  unfold f_digest_block_b0
  rw [decide_eq_true (show (k : Int) < 16 by omega), cond_true]
  simp (disch := omega) only [wi_eq, ask_of, e0, e1, e2, e3, e4, h, Option.bind_some, Arr.get]
  simp only [sched, hk, if_true, word]
  rfl
theorem block_b1 (n : Nat) {b : Nat → Int} {k : Nat} (h16 : 16 ≤ k) (hk : k < 64) : f_digest_block_b1 n (sched b k) (k : Int) = some (.inl (sched b (k + 1), ((k + 1 : Nat) : Int))) := by
  have e0 : ((k : Int) - 15).toNat = k - 15 := by omega
  have e1 : ((k : Int) - 2).toNat = k - 2 := by omega
  have e2 : ((k : Int) - 16).toNat = k - 16 := by omega
  have e3 : ((k : Int) - 7).toNat = k - 7 := by omega
  have e4 : (k : Int).toNat = k := by omega
  unfold f_digest_block_b1
  rw [decide_eq_true (show (k : Int) < 64 by omega), cond_true]
  simp (disch := omega) only [wi_eq, ask_of, e0, e1, e2, e3, e4, Option.bind_some, Arr.get, rotL7, rotL18, rotL17, rotL19]
  simp only [sched, show ¬ k < 16 by omega, if_false, sg0, sg1]
  rfl
theorem mk8_get (p : I8) : (mk8 p).l = [p.1, p.2.1, p.2.2.1, p.2.2.2.1, p.2.2.2.2.1, p.2.2.2.2.2.1, p.2.2.2.2.2.2.1, p.2.2.2.2.2.2.2] := rfl
theorem w32_add (x y z : Int) : w32 (w32 (x + y) + z) = w32 (x + w32 (y + z)) := by simp only [w32_eq]; omega
theorem block_b2 (n : Nat) (w : Arr 64 Int) (p : I8) {k : Nat} (hk : k < 64) : f_digest_block_b2 n w (mk8 p) (k : Int) = some (.inl (mk8 (rd (g_0.g k) (w.g k) p), ((k + 1 : Nat) : Int))) := by
  obtain ⟨a, b, c, d, e, f, g, h⟩ := p
  have e4 : (k : Int).toNat = k := by omega
  unfold f_digest_block_b2
  rw [decide_eq_true (show (k : Int) < 64 by omega), cond_true]
  have hg : g_0.l[k]? = some (g_0.g k) := Arr.get g_0 hk
  simp (disch := omega) only [wi_eq, ask_of, e4, hg, Arr.get w]
  simp only [show (mk8 (a, b, c, d, e, f, g, h)).l = [a, b, c, d, e, f, g, h] from rfl, List.getElem?_cons_zero, List.getElem?_cons_succ, Option.bind_some, rotL6, rotL11, rotL25, rotL2, rotL13, rotL22]
  have ho : Arr.put (mk8 (a, b, c, d, e, f, g, h)) (over [a, b, c, d, e, f, g, h] 1 7 (List.take 7 (List.drop 0 [a, b, c, d, e, f, g, h]))) = ⟨[a, a, b, c, d, e, f, g], rfl⟩ := rfl
  simp only [ho, Arr.set, List.getElem?_cons_zero, List.getElem?_cons_succ, Option.bind_some, List.set_cons_succ, List.set_cons_zero]
  rw [w32_add]
  rfl
theorem block_b3 (m : Nat) (p q : I8) : iter (fun ((a24, a25) : ((Arr 8 Int) × Int)) => f_digest_block_b3 (m + 9) (mk8 q) a24 a25) (m + 9) (mk8 p, (0 : Int)) = some (mk8 (add8 p q)) := by
  obtain ⟨a, b, c, d, e, f, g, h⟩ := p
  obtain ⟨a', b', c', d', e', f', g', h'⟩ := q
  rfl
theorem block_eq (n : Nat) (hn : 100 ≤ n) {po : List Int} {b : Nat → Int} (h : ∀ j, j < 64 → po[j]? = some (b j)) (p : I8) : f_digest_block n (mk8 p) po = some (mk8 (blkf b p)) := by
  unfold f_digest_block
  rw [show iter (fun ((a0, a1) : ((Arr 64 Int) × Int)) => f_digest_block_b0 n po a0 a1) n ((Arr.rep 64 (0:Int)), (0:Int)) = some (sched b 16) from
    iter_cnt (sched b) 0 16 (fun k _ hk => block_b0 n h hk) (by unfold f_digest_block_b0; rfl) (by omega) n (by omega), Option.bind_some,
    show iter (fun ((a8, a9) : ((Arr 64 Int) × Int)) => f_digest_block_b1 n a8 a9) n (sched b 16, (16:Int)) = some (sched b 64) from
    iter_cnt (sched b) 16 64 (fun k h1 hk => block_b1 n h1 hk) (by unfold f_digest_block_b1; rfl) (by omega) n (by omega), Option.bind_some,
    show iter (fun ((a16, a17) : ((Arr 8 Int) × Int)) => f_digest_block_b2 n (sched b 64) a16 a17) n (mk8 p, (0:Int)) = some (mk8 (rds (sched b 64) p 64)) from
    iter_cnt (fun k => mk8 (rds (sched b 64) p k)) 0 64 (fun k _ hk => block_b2 n _ _ hk) (by unfold f_digest_block_b2; rfl) (by omega) n (by omega), Option.bind_some]
  obtain ⟨m, rfl⟩ : ∃ m, n = m + 9 := ⟨n - 9, by omega⟩
  rw [block_b3]; rfl
end Go.Mg
