/- What the functions compute, as plain functions. -/
import Derived.Test.YtdgbpoihgeefiaaDoorRRRAT
namespace Go.Mg
open Go Go.Proofs
def g_0 : (Arr 64 Int) := ⟨[1116352408, 1899447441, 3049323471, 3921009573, 961987163, 1508970993, 2453635748, 2870763221, 3624381080, 310598401, 607225278, 1426881987, 1925078388, 2162078206, 2614888103, 3248222580, 3835390401, 4022224774, 264347078, 604807628, 770255983, 1249150122, 1555081692, 1996064986, 2554220882, 2821834349, 2952996808, 3210313671, 3336571891, 3584528711, 113926993, 338241895, 666307205, 773529912, 1294757372, 1396182291, 1695183700, 1986661051, 2177026350, 2456956037, 2730485921, 2820302411, 3259730800, 3345764771, 3516065817, 3600352804, 4094571909, 275423344, 430227734, 506948616, 659060556, 883997877, 958139571, 1322822218, 1537002063, 1747873779, 1955562222, 2024104815, 2227730452, 2361852424, 2428436474, 2756734187, 3204031479, 3329325298], rfl⟩
def glob : Nat → Option T := get [(0, (eA 1 (T.int .u32)) g_0)]
def f_bits_RotateLeft32 (n : Nat) (px0 : Int) (pk0 : Int) : Option Int :=
 ask (decide (0 ≤ (bits .and .u64 (w64 pk0) (31:Int)))) <|
 ask (decide (0 ≤ (w64 ((32:Int) - (bits .and .u64 (w64 pk0) (31:Int)))))) <|
 some (bits .or .u32 (shl .u32 px0 (bits .and .u64 (w64 pk0) (31:Int))) (shr .u32 px0 (w64 ((32:Int) - (bits .and .u64 (w64 pk0) (31:Int))))))
def f_digest_block_b0 (n : Nat) (po0 : (List Int)) (a0 : (Arr 64 Int)) (a1 : Int) : Option (((Arr 64 Int) × Int) ⊕ (Arr 64 Int)) :=
 bif (decide (a1 < (16:Int))) then (ask (decide (0 ≤ (wi ((4:Int) * a1)))) <|
 Option.bind (po0[(wi ((4:Int) * a1)).toNat]?) fun v0 =>
 ask (decide (0 ≤ (wi ((wi ((4:Int) * a1)) + (1:Int))))) <|
 Option.bind (po0[(wi ((wi ((4:Int) * a1)) + (1:Int))).toNat]?) fun v1 =>
 ask (decide (0 ≤ (wi ((wi ((4:Int) * a1)) + (2:Int))))) <|
 Option.bind (po0[(wi ((wi ((4:Int) * a1)) + (2:Int))).toNat]?) fun v2 =>
 ask (decide (0 ≤ (wi ((wi ((4:Int) * a1)) + (3:Int))))) <|
 Option.bind (po0[(wi ((wi ((4:Int) * a1)) + (3:Int))).toNat]?) fun v3 =>
 ask (decide (0 ≤ a1)) <|
 ask (decide (a1 < (64:Int))) <|
 Option.bind (a0.l[a1.toNat]?) fun v4 =>
 some (.inl ((Arr.set a0 (a1.toNat) (bits .or .u32 (bits .or .u32 (bits .or .u32 (shl .u32 (w32 v0) (24:Int)) (shl .u32 (w32 v1) (16:Int))) (shl .u32 (w32 v2) (8:Int))) (w32 v3))), (wi (a1 + (1:Int)))))) else (some (.inr a0))
def f_digest_block_b1 (n : Nat) (a8 : (Arr 64 Int)) (a9 : Int) : Option (((Arr 64 Int) × Int) ⊕ (Arr 64 Int)) :=
 bif (decide (a9 < (64:Int))) then (ask (decide (0 ≤ (wi (a9 - (15:Int))))) <|
 ask (decide ((wi (a9 - (15:Int))) < (64:Int))) <|
 Option.bind (a8.l[(wi (a9 - (15:Int))).toNat]?) fun v5 =>
 Option.bind (f_bits_RotateLeft32 n v5 (-7:Int)) fun r0 =>
 Option.bind (f_bits_RotateLeft32 n v5 (-18:Int)) fun r1 =>
 ask (decide (0 ≤ (wi (a9 - (2:Int))))) <|
 ask (decide ((wi (a9 - (2:Int))) < (64:Int))) <|
 Option.bind (a8.l[(wi (a9 - (2:Int))).toNat]?) fun v6 =>
 Option.bind (f_bits_RotateLeft32 n v6 (-17:Int)) fun r2 =>
 Option.bind (f_bits_RotateLeft32 n v6 (-19:Int)) fun r3 =>
 ask (decide (0 ≤ (wi (a9 - (16:Int))))) <|
 ask (decide ((wi (a9 - (16:Int))) < (64:Int))) <|
 Option.bind (a8.l[(wi (a9 - (16:Int))).toNat]?) fun v7 =>
 ask (decide (0 ≤ (wi (a9 - (7:Int))))) <|
 ask (decide ((wi (a9 - (7:Int))) < (64:Int))) <|
 Option.bind (a8.l[(wi (a9 - (7:Int))).toNat]?) fun v8 =>
 ask (decide (0 ≤ a9)) <|
 Option.bind (a8.l[a9.toNat]?) fun v9 =>
 some (.inl ((Arr.set a8 (a9.toNat) (w32 ((w32 ((w32 (v7 + (bits .xor .u32 (bits .xor .u32 r0 r1) (shr .u32 v5 (3:Int))))) + v8)) + (bits .xor .u32 (bits .xor .u32 r2 r3) (shr .u32 v6 (10:Int)))))), (wi (a9 + (1:Int)))))) else (some (.inr a8))
def f_digest_block_b2 (n : Nat) (x1 : (Arr 64 Int)) (a16 : (Arr 8 Int)) (a17 : Int) : Option (((Arr 8 Int) × Int) ⊕ (Arr 8 Int)) :=
 bif (decide (a17 < (64:Int))) then (Option.bind (a16.l[4]?) fun v10 =>
 Option.bind (f_bits_RotateLeft32 n v10 (-6:Int)) fun r4 =>
 Option.bind (f_bits_RotateLeft32 n v10 (-11:Int)) fun r5 =>
 Option.bind (f_bits_RotateLeft32 n v10 (-25:Int)) fun r6 =>
 Option.bind (a16.l[7]?) fun v11 =>
 Option.bind (a16.l[5]?) fun v12 =>
 Option.bind (a16.l[6]?) fun v13 =>
 ask (decide (0 ≤ a17)) <|
 Option.bind (g_0.l[a17.toNat]?) fun v14 =>
 Option.bind (x1.l[a17.toNat]?) fun v15 =>
 Option.bind (a16.l[0]?) fun v16 =>
 Option.bind (f_bits_RotateLeft32 n v16 (-2:Int)) fun r7 =>
 Option.bind (f_bits_RotateLeft32 n v16 (-13:Int)) fun r8 =>
 Option.bind (f_bits_RotateLeft32 n v16 (-22:Int)) fun r9 =>
 Option.bind (a16.l[1]?) fun v17 =>
 Option.bind (a16.l[2]?) fun v18 =>
 Option.bind (((Arr.put a16 (over a16.l 1 7 (List.take 7 (List.drop 0 a16.l)))).l)[4]?) fun v19 =>
 Option.bind (((Arr.set (Arr.put a16 (over a16.l 1 7 (List.take 7 (List.drop 0 a16.l)))) 4 (w32 (v19 + (w32 ((w32 ((w32 ((w32 (v11 + (bits .xor .u32 (bits .xor .u32 r4 r5) r6))) + (bits .xor .u32 (bits .and .u32 v10 v12) (bits .and .u32 (bits .xor .u32 (4294967295) v10) v13)))) + v14)) + v15))))).l)[0]?) fun v20 =>
 some (.inl ((Arr.set (Arr.set (Arr.put a16 (over a16.l 1 7 (List.take 7 (List.drop 0 a16.l)))) 4 (w32 (v19 + (w32 ((w32 ((w32 ((w32 (v11 + (bits .xor .u32 (bits .xor .u32 r4 r5) r6))) + (bits .xor .u32 (bits .and .u32 v10 v12) (bits .and .u32 (bits .xor .u32 (4294967295) v10) v13)))) + v14)) + v15))))) 0 (w32 ((w32 ((w32 ((w32 ((w32 ((w32 (v11 + (bits .xor .u32 (bits .xor .u32 r4 r5) r6))) + (bits .xor .u32 (bits .and .u32 v10 v12) (bits .and .u32 (bits .xor .u32 (4294967295) v10) v13)))) + v14)) + v15)) + (bits .xor .u32 (bits .xor .u32 r7 r8) r9))) + (bits .xor .u32 (bits .xor .u32 (bits .and .u32 v16 v17) (bits .and .u32 v16 v18)) (bits .and .u32 v17 v18))))), (wi (a17 + (1:Int)))))) else (some (.inr a16))
def f_digest_block_b3 (n : Nat) (x2 : (Arr 8 Int)) (a24 : (Arr 8 Int)) (a25 : Int) : Option (((Arr 8 Int) × Int) ⊕ (Arr 8 Int)) :=
 bif (decide (a25 < (8:Int))) then (ask (decide (0 ≤ a25)) <|
 Option.bind (a24.l[a25.toNat]?) fun v21 =>
 Option.bind (x2.l[a25.toNat]?) fun v22 =>
 some (.inl ((Arr.set a24 (a25.toNat) (w32 (v21 + v22))), (wi (a25 + (1:Int)))))) else (some (.inr a24))
def f_digest_block (n : Nat) (pt0 : (Arr 8 Int)) (po0 : (List Int)) : Option (Arr 8 Int) :=
 Option.bind (iter (fun ((a0, a1) : ((Arr 64 Int) × Int)) => f_digest_block_b0 n po0 a0 a1) n ((Arr.rep 64 (0:Int)), (0:Int))) fun x0 =>
 Option.bind (iter (fun ((a8, a9) : ((Arr 64 Int) × Int)) => f_digest_block_b1 n  a8 a9) n (x0, (16:Int))) fun x1 =>
 Option.bind (iter (fun ((a16, a17) : ((Arr 8 Int) × Int)) => f_digest_block_b2 n x1 a16 a17) n (pt0, (0:Int))) fun x2 =>
 Option.bind (iter (fun ((a24, a25) : ((Arr 8 Int) × Int)) => f_digest_block_b3 n x2 a24 a25) n (pt0, (0:Int))) fun x3 =>
 some x3
def f_digest_Of_b0 (n : Nat) (a0 : (List Int)) : Option ((List Int) ⊕ (List Int)) :=
 bif (((a0.length : Int).tmod (64:Int)) != (56:Int)) then (ask (decide ((a0.length + ([(0:Int)] : List Int).length) * 1 ≤ 140737488355328)) <|
 some (.inl (a0 ++ ([(0:Int)] : List Int)))) else (some (.inr a0))
def f_digest_Of_b1 (n : Nat) (pb0 : (List Int)) (a5 : (List Int)) (a6 : Int) : Option (((List Int) × Int) ⊕ (List Int)) :=
 bif (decide (a6 ≥ (0:Int))) then (ask (decide (0 ≤ a6)) <|
 ask (decide ((a5.length + ([(w8 (shr .u64 (w64 ((w64 (pb0.length : Int)) * (8:Int))) a6))] : List Int).length) * 1 ≤ 140737488355328)) <|
 some (.inl ((a5 ++ ([(w8 (shr .u64 (w64 ((w64 (pb0.length : Int)) * (8:Int))) a6))] : List Int)), (wi (a6 - (8:Int)))))) else (some (.inr a5))
def f_digest_Of_b2 (n : Nat) (a13 : (List Int)) (a14 : (Arr 8 Int)) : Option (((List Int) × (Arr 8 Int)) ⊕ (Arr 8 Int)) :=
 bif (decide ((a13.length : Int) > (0:Int))) then (ask (decide ((64:Int) ≤ (a13.length : Int))) <|
 Option.bind (f_digest_block n a14 (List.take 64 a13)) fun r0 =>
 some (.inl ((List.drop 64 a13), r0))) else (some (.inr a14))
def f_digest_Of_b3 (n : Nat) (x2 : (Arr 8 Int)) (a21 : (Arr 32 Int)) (a22 : Int) : Option (((Arr 32 Int) × Int) ⊕ (Arr 32 Int)) :=
 bif (decide (a22 < (8:Int))) then (ask (decide (0 ≤ a22)) <|
 Option.bind (x2.l[a22.toNat]?) fun v0 =>
 ask (decide (0 ≤ (wi ((4:Int) * a22)))) <|
 ask (decide ((wi ((4:Int) * a22)) < (32:Int))) <|
 Option.bind (a21.l[(wi ((4:Int) * a22)).toNat]?) fun v1 =>
 ask (decide (0 ≤ (wi ((wi ((4:Int) * a22)) + (1:Int))))) <|
 ask (decide ((wi ((wi ((4:Int) * a22)) + (1:Int))) < (32:Int))) <|
 Option.bind (((Arr.set a21 ((wi ((4:Int) * a22)).toNat) (w8 (shr .u32 v0 (24:Int)))).l)[(wi ((wi ((4:Int) * a22)) + (1:Int))).toNat]?) fun v2 =>
 ask (decide (0 ≤ (wi ((wi ((4:Int) * a22)) + (2:Int))))) <|
 ask (decide ((wi ((wi ((4:Int) * a22)) + (2:Int))) < (32:Int))) <|
 Option.bind (((Arr.set (Arr.set a21 ((wi ((4:Int) * a22)).toNat) (w8 (shr .u32 v0 (24:Int)))) ((wi ((wi ((4:Int) * a22)) + (1:Int))).toNat) (w8 (shr .u32 v0 (16:Int)))).l)[(wi ((wi ((4:Int) * a22)) + (2:Int))).toNat]?) fun v3 =>
 ask (decide (0 ≤ (wi ((wi ((4:Int) * a22)) + (3:Int))))) <|
 ask (decide ((wi ((wi ((4:Int) * a22)) + (3:Int))) < (32:Int))) <|
 Option.bind (((Arr.set (Arr.set (Arr.set a21 ((wi ((4:Int) * a22)).toNat) (w8 (shr .u32 v0 (24:Int)))) ((wi ((wi ((4:Int) * a22)) + (1:Int))).toNat) (w8 (shr .u32 v0 (16:Int)))) ((wi ((wi ((4:Int) * a22)) + (2:Int))).toNat) (w8 (shr .u32 v0 (8:Int)))).l)[(wi ((wi ((4:Int) * a22)) + (3:Int))).toNat]?) fun v4 =>
 some (.inl ((Arr.set (Arr.set (Arr.set (Arr.set a21 ((wi ((4:Int) * a22)).toNat) (w8 (shr .u32 v0 (24:Int)))) ((wi ((wi ((4:Int) * a22)) + (1:Int))).toNat) (w8 (shr .u32 v0 (16:Int)))) ((wi ((wi ((4:Int) * a22)) + (2:Int))).toNat) (w8 (shr .u32 v0 (8:Int)))) ((wi ((wi ((4:Int) * a22)) + (3:Int))).toNat) (w8 v0)), (wi (a22 + (1:Int)))))) else (some (.inr a21))
def f_digest_Of (n : Nat) (pb0 : (List Int)) : Option (Arr 32 Int) :=
 ask (decide ((([] : List Int).length + pb0.length) * 1 ≤ 140737488355328)) <|
 ask (decide (((([] : List Int) ++ pb0).length + ([(128:Int)] : List Int).length) * 1 ≤ 140737488355328)) <|
 Option.bind (iter (fun (a0 : (List Int)) => f_digest_Of_b0 n  a0) n ((([] : List Int) ++ pb0) ++ ([(128:Int)] : List Int))) fun x0 =>
 Option.bind (iter (fun ((a5, a6) : ((List Int) × Int)) => f_digest_Of_b1 n pb0 a5 a6) n (x0, (56:Int))) fun x1 =>
 Option.bind (iter (fun ((a13, a14) : ((List Int) × (Arr 8 Int))) => f_digest_Of_b2 n  a13 a14) n (x1, (⟨[(1779033703:Int), (3144134277:Int), (1013904242:Int), (2773480762:Int), (1359893119:Int), (2600822924:Int), (528734635:Int), (1541459225:Int)], rfl⟩ : (Arr 8 Int)))) fun x2 =>
 Option.bind (iter (fun ((a21, a22) : ((Arr 32 Int) × Int)) => f_digest_Of_b3 n x2 a21 a22) n ((Arr.rep 32 (0:Int)), (0:Int))) fun x3 =>
 some x3
def f_num_Take_b0 (n : Nat) (pb0 : (List Int)) (a0 : Int) (a1 : Int) : Option ((Int × Int) ⊕ Int) :=
 bif (decide (a1 < ((List.take ((gmin (pb0.length : Int) (8:Int)).toNat) pb0).length : Int))) then (ask (decide (0 ≤ a1)) <|
 Option.bind ((List.take ((gmin (pb0.length : Int) (8:Int)).toNat) pb0)[a1.toNat]?) fun v0 =>
 ask (decide (0 ≤ (wi ((8:Int) * a1)))) <|
 some (.inl ((bits .or .u64 a0 (shl .u64 (w64 v0) (wi ((8:Int) * a1)))), (wi (a1 + (1:Int)))))) else (some (.inr a0))
def f_num_Take (n : Nat) (pb0 : (List Int)) : Option Int :=
 ask (decide (0 ≤ (gmin (pb0.length : Int) (8:Int)))) <|
 ask (decide ((gmin (pb0.length : Int) (8:Int)) ≤ (pb0.length : Int))) <|
 Option.bind (iter (fun ((a0, a1) : (Int × Int)) => f_num_Take_b0 n pb0 a0 a1) n ((0:Int), (0:Int))) fun x0 =>
 some x0
def f_shuffle_pivot (n : Nat) (pseed0 : (Arr 32 Int)) (pround0 : Int) (pn0 : Int) : Option Int :=
 ask (decide ((([] : List Int).length + pseed0.l.length) * 1 ≤ 140737488355328)) <|
 ask (decide (((([] : List Int) ++ pseed0.l).length + ([(w8 pround0)] : List Int).length) * 1 ≤ 140737488355328)) <|
 Option.bind (f_digest_Of n ((([] : List Int) ++ pseed0.l) ++ ([(w8 pround0)] : List Int))) fun r0 =>
 Option.bind (f_num_Take n (List.take 8 (List.drop 0 r0.l))) fun r1 =>
 ask (decide (pn0 ≠ 0)) <|
 some (r1.tmod pn0)
def f_num_Put_b0 (n : Nat) (pn0 : Int) (psize0 : Int) (a0 : (List Int)) (a1 : Int) : Option (((List Int) × Int) ⊕ (List Int)) :=
 bif (decide (a1 < (gmax psize0 (0:Int)))) then (bif (decide (a1 < (8:Int))) then (ask (decide (0 ≤ (wi ((8:Int) * a1)))) <|
 ask (decide ((a0.length + ([(w8 (shr .u64 pn0 (wi ((8:Int) * a1))))] : List Int).length) * 1 ≤ 140737488355328)) <|
 some (.inl ((a0 ++ ([(w8 (shr .u64 pn0 (wi ((8:Int) * a1))))] : List Int)), (wi (a1 + (1:Int)))))) else (ask (decide ((a0.length + ([(0:Int)] : List Int).length) * 1 ≤ 140737488355328)) <|
 some (.inl ((a0 ++ ([(0:Int)] : List Int)), (wi (a1 + (1:Int))))))) else (some (.inr a0))
def f_num_Put (n : Nat) (pn0 : Int) (psize0 : Int) : Option (List Int) :=
 Option.bind (iter (fun ((a0, a1) : ((List Int) × Int)) => f_num_Put_b0 n pn0 psize0 a0 a1) n (([] : List Int), (0:Int))) fun x0 =>
 some x0
def f_shuffle_bit (n : Nat) (pseed0 : (Arr 32 Int)) (pround0 : Int) (pplace0 : Int) : Option Bool :=
 ask (decide ((([] : List Int).length + pseed0.l.length) * 1 ≤ 140737488355328)) <|
 ask (decide (((([] : List Int) ++ pseed0.l).length + ([(w8 pround0)] : List Int).length) * 1 ≤ 140737488355328)) <|
 Option.bind (f_num_Put n (w64 (pplace0.tdiv (256:Int))) (4:Int)) fun r0 =>
 ask (decide ((((([] : List Int) ++ pseed0.l) ++ ([(w8 pround0)] : List Int)).length + r0.length) * 1 ≤ 140737488355328)) <|
 Option.bind (f_digest_Of n (((([] : List Int) ++ pseed0.l) ++ ([(w8 pround0)] : List Int)) ++ r0)) fun r1 =>
 ask (decide (0 ≤ (w64 ((pplace0.tmod (256:Int)).tdiv (8:Int))))) <|
 ask (decide ((w64 ((pplace0.tmod (256:Int)).tdiv (8:Int))) < (32:Int))) <|
 Option.bind (r1.l[(w64 ((pplace0.tmod (256:Int)).tdiv (8:Int))).toNat]?) fun v0 =>
 ask (decide (0 ≤ (pplace0.tmod (8:Int)))) <|
 some ((bits .and .u8 (shr .u8 v0 (pplace0.tmod (8:Int))) (1:Int)) != (0:Int))
def f_shuffle_Index_b0 (n : Nat) (pn0 : Int) (pseed0 : (Arr 32 Int)) (a0 : Int) (a1 : Int) : Option ((Int × Int) ⊕ Int) :=
 bif (decide (a1 < (5:Int))) then (Option.bind (f_shuffle_pivot n pseed0 a1 pn0) fun r0 =>
 ask (decide (pn0 ≠ 0)) <|
 Option.bind (f_shuffle_bit n pseed0 a1 (gmax a0 ((w64 ((w64 (r0 + pn0)) - a0)).tmod pn0))) fun r1 =>
 bif r1 then (some (.inl (((w64 ((w64 (r0 + pn0)) - a0)).tmod pn0), (w64 (a1 + (1:Int)))))) else (some (.inl (a0, (w64 (a1 + (1:Int))))))) else (some (.inr a0))
def f_shuffle_Index (n : Nat) (pi0 : Int) (pn0 : Int) (pseed0 : (Arr 32 Int)) : Option (Int × Int) :=
 bif (pn0 == (0:Int)) then (some ((0:Int), (2:Int))) else (bif (decide (pi0 ≥ pn0)) then (some ((0:Int), (2:Int))) else (bif (decide (pn0 > (1099511627776:Int))) then (some ((0:Int), (2:Int))) else (Option.bind (iter (fun ((a0, a1) : (Int × Int)) => f_shuffle_Index_b0 n pn0 pseed0 a0 a1) n (pi0, (0:Int))) fun x0 =>
 some (x0, (0:Int)))))
def f_shuffle_List_b0 (n : Nat) (pn0 : Int) (a0 : (List Int)) (a1 : Int) : Option (((List Int) × Int) ⊕ (List Int)) :=
 bif (decide (a1 < ((List.replicate pn0.toNat (0:Int)).length : Int))) then (ask (decide (0 ≤ a1)) <|
 ask (decide (a1.toNat < a0.length)) <|
 Option.bind (a0[a1.toNat]?) fun v0 =>
 some (.inl ((List.set a0 a1.toNat (w64 a1)), (wi (a1 + (1:Int)))))) else (some (.inr a0))
def f_shuffle_List_b2 (n : Nat) (a9 : Int) (pn0 : Int) (pseed0 : (Arr 32 Int)) (a12 : (List Int)) (a13 : Int) : Option (((List Int) × Int) ⊕ (List Int)) :=
 bif (decide ((w64 (a13 * (256:Int))) < pn0)) then (ask (decide ((([] : List Int).length + pseed0.l.length) * 1 ≤ 140737488355328)) <|
 ask (decide (((([] : List Int) ++ pseed0.l).length + ([(w8 a9)] : List Int).length) * 1 ≤ 140737488355328)) <|
 Option.bind (f_num_Put n a13 (4:Int)) fun r1 =>
 ask (decide ((((([] : List Int) ++ pseed0.l) ++ ([(w8 a9)] : List Int)).length + r1.length) * 1 ≤ 140737488355328)) <|
 Option.bind (f_digest_Of n (((([] : List Int) ++ pseed0.l) ++ ([(w8 a9)] : List Int)) ++ r1)) fun r2 =>
 ask (decide ((a12.length + r2.l.length) * 1 ≤ 140737488355328)) <|
 some (.inl ((a12 ++ r2.l), (w64 (a13 + (1:Int)))))) else (some (.inr a12))
def f_shuffle_List_b3 (n : Nat) (a8 : (List Int)) (pn0 : Int) (r0 : Int) (x1 : (List Int)) (a20 : (List Int)) (a21 : Int) : Option (((List Int) × Int) ⊕ (List Int)) :=
 bif (decide (a21 < (a8.length : Int))) then (ask (decide (0 ≤ a21)) <|
 ask (decide (a21.toNat < a20.length)) <|
 Option.bind (a20[a21.toNat]?) fun v1 =>
 ask (decide (0 ≤ (w64 ((gmax v1 ((w64 ((w64 (r0 + pn0)) - v1)).tmod pn0)).tdiv (8:Int))))) <|
 ask (decide ((w64 ((gmax v1 ((w64 ((w64 (r0 + pn0)) - v1)).tmod pn0)).tdiv (8:Int))).toNat < x1.length)) <|
 Option.bind (x1[(w64 ((gmax v1 ((w64 ((w64 (r0 + pn0)) - v1)).tmod pn0)).tdiv (8:Int))).toNat]?) fun v2 =>
 ask (decide (0 ≤ ((gmax v1 ((w64 ((w64 (r0 + pn0)) - v1)).tmod pn0)).tmod (8:Int)))) <|
 bif ((bits .and .u8 (shr .u8 v2 ((gmax v1 ((w64 ((w64 (r0 + pn0)) - v1)).tmod pn0)).tmod (8:Int))) (1:Int)) != (0:Int)) then (some (.inl ((List.set a20 a21.toNat ((w64 ((w64 (r0 + pn0)) - v1)).tmod pn0)), (wi (a21 + (1:Int)))))) else (some (.inl (a20, (wi (a21 + (1:Int))))))) else (some (.inr a20))
def f_shuffle_List_b1 (n : Nat) (pn0 : Int) (pseed0 : (Arr 32 Int)) (a8 : (List Int)) (a9 : Int) : Option (((List Int) × Int) ⊕ (List Int)) :=
 bif (decide (a9 < (5:Int))) then (bif (pn0 == (0:Int)) then (some (.inr a8)) else (Option.bind (f_shuffle_pivot n pseed0 a9 pn0) fun r0 =>
 Option.bind (iter (fun ((a12, a13) : ((List Int) × Int)) => f_shuffle_List_b2 n a9 pn0 pseed0 a12 a13) n (([] : List Int), (0:Int))) fun x1 =>
 Option.bind (iter (fun ((a20, a21) : ((List Int) × Int)) => f_shuffle_List_b3 n a8 pn0 r0 x1 a20 a21) n (a8, (0:Int))) fun x2 =>
 some (.inl (x2, (w64 (a9 + (1:Int))))))) else (some (.inr a8))
def f_shuffle_List (n : Nat) (pn0 : Int) (pseed0 : (Arr 32 Int)) : Option ((List Int) × Int) :=
 bif (decide (pn0 > (1048576:Int))) then (some (([] : List Int), (2:Int))) else (ask (decide (0 ≤ pn0)) <|
 ask (decide ((8:Int) * pn0 ≤ 140737488355328)) <|
 Option.bind (iter (fun ((a0, a1) : ((List Int) × Int)) => f_shuffle_List_b0 n pn0 a0 a1) n ((List.replicate pn0.toNat (0:Int)), (0:Int))) fun x0 =>
 Option.bind (iter (fun ((a8, a9) : ((List Int) × Int)) => f_shuffle_List_b1 n pn0 pseed0 a8 a9) n (x0, (0:Int))) fun x3 =>
 some (x3, (0:Int)))
def f_shuffle_Proposer_b0 (n : Nat) (ps0 : GState) (pseed0 : (Arr 32 Int)) (psome0 : (List Int)) (a0 : Int) : Option (Int ⊕ ((Int × Int) ⊕ Unit)) :=
 bif (decide (a0 < (4096:Int))) then (bif ((w64 (psome0.length : Int)) == (0:Int)) then (some (.inr (.inr ()))) else (Option.bind (f_shuffle_Index n (a0.tmod (w64 (psome0.length : Int))) (w64 (psome0.length : Int)) pseed0) fun r0 =>
 bif (r0.2 != (0:Int)) then (some (.inr (.inl ((0:Int), (2:Int))))) else (ask (decide (0 ≤ r0.1)) <|
 Option.bind (psome0[r0.1.toNat]?) fun v0 =>
 bif (decide (v0 ≥ (w64 (ps0.Validators.length : Int)))) then (some (.inr (.inl ((0:Int), (2:Int))))) else (ask (decide ((([] : List Int).length + pseed0.l.length) * 1 ≤ 140737488355328)) <|
 Option.bind (f_num_Put n (w64 (a0.tdiv (32:Int))) (8:Int)) fun r1 =>
 ask (decide (((([] : List Int) ++ pseed0.l).length + r1.length) * 1 ≤ 140737488355328)) <|
 Option.bind (f_digest_Of n ((([] : List Int) ++ pseed0.l) ++ r1)) fun r2 =>
 ask (decide (0 ≤ v0)) <|
 Option.bind (ps0.Validators[v0.toNat]?) fun v1 =>
 ask (decide (0 ≤ (a0.tmod (32:Int)))) <|
 ask (decide ((a0.tmod (32:Int)) < (32:Int))) <|
 Option.bind (r2.l[(a0.tmod (32:Int)).toNat]?) fun v2 =>
 bif (decide ((w64 (v1.Effective * (255:Int))) ≥ (w64 ((32000:Int) * (w64 v2))))) then (some (.inr (.inl (v0, (0:Int))))) else (some (.inl (w64 (a0 + (1:Int))))))))) else (some (.inr (.inr ())))
def f_shuffle_Proposer (n : Nat) (ps0 : GState) (psome0 : (List Int)) (pseed0 : (Arr 32 Int)) : Option (Int × Int) :=
 Option.bind (iter (fun (a0 : Int) => f_shuffle_Proposer_b0 n ps0 pseed0 psome0 a0) n (0:Int)) fun x0 =>
 Sum.elim (fun r9 => some r9) (fun x1 => some ((0:Int), (6:Int))) x0
def f_law08_Awake (n : Nat) : Option Bool :=
 Option.bind (f_shuffle_Index n (0:Int) (1:Int) (⟨[(7:Int), (0:Int), (0:Int), (0:Int), (0:Int), (0:Int), (0:Int), (0:Int), (0:Int), (0:Int), (0:Int), (0:Int), (0:Int), (0:Int), (0:Int), (0:Int), (0:Int), (0:Int), (0:Int), (0:Int), (0:Int), (0:Int), (0:Int), (0:Int), (0:Int), (0:Int), (0:Int), (0:Int), (0:Int), (0:Int), (0:Int), (0:Int)], rfl⟩ : (Arr 32 Int))) fun r0 =>
 Option.bind (f_shuffle_Index n (3:Int) (3:Int) (Arr.rep 32 (0:Int))) fun r1 =>
 Option.bind (f_shuffle_Proposer n (GState.mk (0:Int) (GHeader.mk (0:Int) (0:Int) (Arr.rep 32 (0:Int)) (Arr.rep 32 (0:Int)) (Arr.rep 32 (0:Int))) (Arr.rep 16 (Arr.rep 32 (0:Int))) (Arr.rep 16 (Arr.rep 32 (0:Int))) (GEth.mk (Arr.rep 32 (0:Int)) (0:Int)) [] (0:Int) [] [] (Arr.rep 8 (Arr.rep 32 (0:Int))) (Arr.rep 8 (0:Int)) [] [] (Arr.rep 4 false) (GCheckpoint.mk (0:Int) (Arr.rep 32 (0:Int))) (GCheckpoint.mk (0:Int) (Arr.rep 32 (0:Int))) (GCheckpoint.mk (0:Int) (Arr.rep 32 (0:Int)))) [] (Arr.rep 32 (0:Int))) fun r2 =>
 Option.bind (f_shuffle_List n (3:Int) (⟨[(9:Int), (0:Int), (0:Int), (0:Int), (0:Int), (0:Int), (0:Int), (0:Int), (0:Int), (0:Int), (0:Int), (0:Int), (0:Int), (0:Int), (0:Int), (0:Int), (0:Int), (0:Int), (0:Int), (0:Int), (0:Int), (0:Int), (0:Int), (0:Int), (0:Int), (0:Int), (0:Int), (0:Int), (0:Int), (0:Int), (0:Int), (0:Int)], rfl⟩ : (Arr 32 Int))) fun r3 =>
 bif (r0.1 == (0:Int)) then (bif (r0.2 == (0:Int)) then (bif (r1.2 == (2:Int)) then (bif (r2.2 == (6:Int)) then (bif ((r3.1.length : Int) == (3:Int)) then (some (r3.2 == (0:Int))) else (some false)) else (some false)) else (some false)) else (some false)) else (some false)
def f_ref02_numbers (n : Nat) : Option (Arr 64 Int) :=
 some (⟨[(1116352408:Int), (1899447441:Int), (3049323471:Int), (3921009573:Int), (961987163:Int), (1508970993:Int), (2453635748:Int), (2870763221:Int), (3624381080:Int), (310598401:Int), (607225278:Int), (1426881987:Int), (1925078388:Int), (2162078206:Int), (2614888103:Int), (3248222580:Int), (3835390401:Int), (4022224774:Int), (264347078:Int), (604807628:Int), (770255983:Int), (1249150122:Int), (1555081692:Int), (1996064986:Int), (2554220882:Int), (2821834349:Int), (2952996808:Int), (3210313671:Int), (3336571891:Int), (3584528711:Int), (113926993:Int), (338241895:Int), (666307205:Int), (773529912:Int), (1294757372:Int), (1396182291:Int), (1695183700:Int), (1986661051:Int), (2177026350:Int), (2456956037:Int), (2730485921:Int), (2820302411:Int), (3259730800:Int), (3345764771:Int), (3516065817:Int), (3600352804:Int), (4094571909:Int), (275423344:Int), (430227734:Int), (506948616:Int), (659060556:Int), (883997877:Int), (958139571:Int), (1322822218:Int), (1537002063:Int), (1747873779:Int), (1955562222:Int), (2024104815:Int), (2227730452:Int), (2361852424:Int), (2428436474:Int), (2756734187:Int), (3204031479:Int), (3329325298:Int)], rfl⟩ : (Arr 64 Int))
def f_ref02_right (n : Nat) (px0 : Int) (pn0 : Int) : Option Int :=
 ask (decide (0 ≤ pn0)) <|
 ask (decide (0 ≤ (wi ((32:Int) - pn0)))) <|
 some (bits .or .u32 (shr .u32 px0 pn0) (shl .u32 px0 (wi ((32:Int) - pn0))))
def f_ref02_Of_b0 (n : Nat) (pt0 : (List Int)) (a0 : (List Int)) (a1 : Int) : Option (((List Int) × Int) ⊕ (List Int)) :=
 bif (decide (a1 < (8:Int))) then (ask (decide (0 ≤ (wi ((8:Int) * a1)))) <|
 ask (decide (0 ≤ (wi ((wi ((a0.length : Int) - (1:Int))) - a1)))) <|
 ask (decide ((wi ((wi ((a0.length : Int) - (1:Int))) - a1)).toNat < a0.length)) <|
 Option.bind (a0[(wi ((wi ((a0.length : Int) - (1:Int))) - a1)).toNat]?) fun v1 =>
 some (.inl ((List.set a0 ((wi ((wi ((a0.length : Int) - (1:Int))) - a1)).toNat) (w8 (shr .u64 (w64 (wi ((8:Int) * (pt0.length : Int)))) (wi ((8:Int) * a1))))), (wi (a1 + (1:Int)))))) else (some (.inr a0))
def f_ref02_Of_b2 (n : Nat) (a9 : Int) (x0 : (List Int)) (a11 : (Arr 64 Int)) (a12 : Int) : Option (((Arr 64 Int) × Int) ⊕ (Arr 64 Int)) :=
 bif (decide (a12 < (64:Int))) then (bif (decide (a12 < (16:Int))) then (ask (decide (0 ≤ (wi (a9 + (wi ((4:Int) * a12)))))) <|
 ask (decide ((wi (a9 + (wi ((4:Int) * a12)))).toNat < x0.length)) <|
 Option.bind (x0[(wi (a9 + (wi ((4:Int) * a12)))).toNat]?) fun v2 =>
 ask (decide (0 ≤ (wi ((wi (a9 + (wi ((4:Int) * a12)))) + (1:Int))))) <|
 ask (decide ((wi ((wi (a9 + (wi ((4:Int) * a12)))) + (1:Int))).toNat < x0.length)) <|
 Option.bind (x0[(wi ((wi (a9 + (wi ((4:Int) * a12)))) + (1:Int))).toNat]?) fun v3 =>
 ask (decide (0 ≤ (wi ((wi (a9 + (wi ((4:Int) * a12)))) + (2:Int))))) <|
 ask (decide ((wi ((wi (a9 + (wi ((4:Int) * a12)))) + (2:Int))).toNat < x0.length)) <|
 Option.bind (x0[(wi ((wi (a9 + (wi ((4:Int) * a12)))) + (2:Int))).toNat]?) fun v4 =>
 ask (decide (0 ≤ (wi ((wi (a9 + (wi ((4:Int) * a12)))) + (3:Int))))) <|
 ask (decide ((wi ((wi (a9 + (wi ((4:Int) * a12)))) + (3:Int))).toNat < x0.length)) <|
 Option.bind (x0[(wi ((wi (a9 + (wi ((4:Int) * a12)))) + (3:Int))).toNat]?) fun v5 =>
 ask (decide (0 ≤ a12)) <|
 Option.bind (a11.l[a12.toNat]?) fun v6 =>
 some (.inl ((Arr.set a11 (a12.toNat) (bits .or .u32 (bits .or .u32 (bits .or .u32 (shl .u32 (w32 v2) (24:Int)) (shl .u32 (w32 v3) (16:Int))) (shl .u32 (w32 v4) (8:Int))) (w32 v5))), (wi (a12 + (1:Int)))))) else (ask (decide (0 ≤ (wi (a12 - (15:Int))))) <|
 ask (decide ((wi (a12 - (15:Int))) < (64:Int))) <|
 Option.bind (a11.l[(wi (a12 - (15:Int))).toNat]?) fun v7 =>
 ask (decide (0 ≤ (wi (a12 - (2:Int))))) <|
 ask (decide ((wi (a12 - (2:Int))) < (64:Int))) <|
 Option.bind (a11.l[(wi (a12 - (2:Int))).toNat]?) fun v8 =>
 ask (decide (0 ≤ (wi (a12 - (16:Int))))) <|
 ask (decide ((wi (a12 - (16:Int))) < (64:Int))) <|
 Option.bind (a11.l[(wi (a12 - (16:Int))).toNat]?) fun v9 =>
 Option.bind (f_ref02_right n v7 (7:Int)) fun r1 =>
 Option.bind (f_ref02_right n v7 (18:Int)) fun r2 =>
 ask (decide (0 ≤ (wi (a12 - (7:Int))))) <|
 ask (decide ((wi (a12 - (7:Int))) < (64:Int))) <|
 Option.bind (a11.l[(wi (a12 - (7:Int))).toNat]?) fun v10 =>
 Option.bind (f_ref02_right n v8 (17:Int)) fun r3 =>
 Option.bind (f_ref02_right n v8 (19:Int)) fun r4 =>
 ask (decide (0 ≤ a12)) <|
 Option.bind (a11.l[a12.toNat]?) fun v11 =>
 some (.inl ((Arr.set a11 (a12.toNat) (w32 ((w32 ((w32 (v9 + (bits .xor .u32 (bits .xor .u32 r1 r2) (shr .u32 v7 (3:Int))))) + v10)) + (bits .xor .u32 (bits .xor .u32 r3 r4) (shr .u32 v8 (10:Int)))))), (wi (a12 + (1:Int))))))) else (some (.inr a11))
def f_ref02_Of_b3 (n : Nat) (r0 : (Arr 64 Int)) (x1 : (Arr 64 Int)) (a21 : Int) (a22 : Int) (a23 : Int) (a24 : Int) (a25 : Int) (a26 : Int) (a27 : Int) (a28 : Int) (a29 : Int) : Option ((Int × Int × Int × Int × Int × Int × Int × Int × Int) ⊕ (Int × Int × Int × Int × Int × Int × Int × Int)) :=
 bif (decide (a29 < (64:Int))) then (Option.bind (f_ref02_right n a25 (6:Int)) fun r5 =>
 Option.bind (f_ref02_right n a25 (11:Int)) fun r6 =>
 Option.bind (f_ref02_right n a25 (25:Int)) fun r7 =>
 ask (decide (0 ≤ a29)) <|
 Option.bind (r0.l[a29.toNat]?) fun v20 =>
 Option.bind (x1.l[a29.toNat]?) fun v21 =>
 Option.bind (f_ref02_right n a21 (2:Int)) fun r8 =>
 Option.bind (f_ref02_right n a21 (13:Int)) fun r9 =>
 Option.bind (f_ref02_right n a21 (22:Int)) fun r10 =>
 some (.inl ((w32 ((w32 ((w32 ((w32 ((w32 (a28 + (bits .xor .u32 (bits .xor .u32 r5 r6) r7))) + (bits .xor .u32 (bits .and .u32 a25 a26) (bits .and .u32 (bits .xor .u32 (4294967295) a25) a27)))) + v20)) + v21)) + (w32 ((bits .xor .u32 (bits .xor .u32 r8 r9) r10) + (bits .xor .u32 (bits .xor .u32 (bits .and .u32 a21 a22) (bits .and .u32 a21 a23)) (bits .and .u32 a22 a23)))))), a21, a22, a23, (w32 (a24 + (w32 ((w32 ((w32 ((w32 (a28 + (bits .xor .u32 (bits .xor .u32 r5 r6) r7))) + (bits .xor .u32 (bits .and .u32 a25 a26) (bits .and .u32 (bits .xor .u32 (4294967295) a25) a27)))) + v20)) + v21)))), a25, a26, a27, (wi (a29 + (1:Int)))))) else (some (.inr (a21, a22, a23, a24, a25, a26, a27, a28)))
def f_ref02_Of_b1 (n : Nat) (r0 : (Arr 64 Int)) (x0 : (List Int)) (a8 : (Arr 8 Int)) (a9 : Int) : Option (((Arr 8 Int) × Int) ⊕ (Arr 8 Int)) :=
 bif (decide (a9 < (x0.length : Int))) then (Option.bind (iter (fun ((a11, a12) : ((Arr 64 Int) × Int)) => f_ref02_Of_b2 n a9 x0 a11 a12) n ((Arr.rep 64 (0:Int)), (0:Int))) fun x1 =>
 Option.bind (a8.l[0]?) fun v12 =>
 Option.bind (a8.l[1]?) fun v13 =>
 Option.bind (a8.l[2]?) fun v14 =>
 Option.bind (a8.l[3]?) fun v15 =>
 Option.bind (a8.l[4]?) fun v16 =>
 Option.bind (a8.l[5]?) fun v17 =>
 Option.bind (a8.l[6]?) fun v18 =>
 Option.bind (a8.l[7]?) fun v19 =>
 Option.bind (iter (fun ((a21, a22, a23, a24, a25, a26, a27, a28, a29) : (Int × Int × Int × Int × Int × Int × Int × Int × Int)) => f_ref02_Of_b3 n r0 x1 a21 a22 a23 a24 a25 a26 a27 a28 a29) n (v12, v13, v14, v15, v16, v17, v18, v19, (0:Int))) fun x2 =>
 Option.bind (((Arr.set a8 0 (w32 (v12 + x2.1))).l)[1]?) fun v22 =>
 Option.bind (((Arr.set (Arr.set a8 0 (w32 (v12 + x2.1))) 1 (w32 (v13 + x2.2.1))).l)[2]?) fun v23 =>
 Option.bind (((Arr.set (Arr.set (Arr.set a8 0 (w32 (v12 + x2.1))) 1 (w32 (v13 + x2.2.1))) 2 (w32 (v14 + x2.2.2.1))).l)[3]?) fun v24 =>
 Option.bind (((Arr.set (Arr.set (Arr.set (Arr.set a8 0 (w32 (v12 + x2.1))) 1 (w32 (v13 + x2.2.1))) 2 (w32 (v14 + x2.2.2.1))) 3 (w32 (v15 + x2.2.2.2.1))).l)[4]?) fun v25 =>
 Option.bind (((Arr.set (Arr.set (Arr.set (Arr.set (Arr.set a8 0 (w32 (v12 + x2.1))) 1 (w32 (v13 + x2.2.1))) 2 (w32 (v14 + x2.2.2.1))) 3 (w32 (v15 + x2.2.2.2.1))) 4 (w32 (v16 + x2.2.2.2.2.1))).l)[5]?) fun v26 =>
 Option.bind (((Arr.set (Arr.set (Arr.set (Arr.set (Arr.set (Arr.set a8 0 (w32 (v12 + x2.1))) 1 (w32 (v13 + x2.2.1))) 2 (w32 (v14 + x2.2.2.1))) 3 (w32 (v15 + x2.2.2.2.1))) 4 (w32 (v16 + x2.2.2.2.2.1))) 5 (w32 (v17 + x2.2.2.2.2.2.1))).l)[6]?) fun v27 =>
 Option.bind (((Arr.set (Arr.set (Arr.set (Arr.set (Arr.set (Arr.set (Arr.set a8 0 (w32 (v12 + x2.1))) 1 (w32 (v13 + x2.2.1))) 2 (w32 (v14 + x2.2.2.1))) 3 (w32 (v15 + x2.2.2.2.1))) 4 (w32 (v16 + x2.2.2.2.2.1))) 5 (w32 (v17 + x2.2.2.2.2.2.1))) 6 (w32 (v18 + x2.2.2.2.2.2.2.1))).l)[7]?) fun v28 =>
 some (.inl ((Arr.set (Arr.set (Arr.set (Arr.set (Arr.set (Arr.set (Arr.set (Arr.set a8 0 (w32 (v12 + x2.1))) 1 (w32 (v13 + x2.2.1))) 2 (w32 (v14 + x2.2.2.1))) 3 (w32 (v15 + x2.2.2.2.1))) 4 (w32 (v16 + x2.2.2.2.2.1))) 5 (w32 (v17 + x2.2.2.2.2.2.1))) 6 (w32 (v18 + x2.2.2.2.2.2.2.1))) 7 (w32 (v19 + x2.2.2.2.2.2.2.2))), (wi (a9 + (64:Int)))))) else (some (.inr a8))
def f_ref02_Of_b4 (n : Nat) (x3 : (Arr 8 Int)) (a69 : (Arr 32 Int)) (a70 : Int) : Option (((Arr 32 Int) × Int) ⊕ (Arr 32 Int)) :=
 bif (decide (a70 < (32:Int))) then (ask (decide (0 ≤ (wi (a70.tdiv (4:Int))))) <|
 ask (decide ((wi (a70.tdiv (4:Int))) < (8:Int))) <|
 Option.bind (x3.l[(wi (a70.tdiv (4:Int))).toNat]?) fun v29 =>
 ask (decide (0 ≤ (wi ((24:Int) - (wi ((8:Int) * (a70.tmod (4:Int)))))))) <|
 ask (decide (0 ≤ a70)) <|
 Option.bind (a69.l[a70.toNat]?) fun v30 =>
 some (.inl ((Arr.set a69 (a70.toNat) (w8 (shr .u32 v29 (wi ((24:Int) - (wi ((8:Int) * (a70.tmod (4:Int))))))))), (wi (a70 + (1:Int)))))) else (some (.inr a69))
def f_ref02_Of (n : Nat) (pt0 : (List Int)) : Option (Arr 32 Int) :=
 Option.bind (f_ref02_numbers n) fun r0 =>
 ask (decide (0 ≤ (wi ((wi ((wi ((wi ((pt0.length : Int) + (9:Int))) + (63:Int))).tdiv (64:Int))) * (64:Int))))) <|
 ask (decide ((1:Int) * (wi ((wi ((wi ((wi ((pt0.length : Int) + (9:Int))) + (63:Int))).tdiv (64:Int))) * (64:Int))) ≤ 140737488355328)) <|
 ask (decide ((pt0.length : Int).toNat < (over (List.replicate ((wi ((wi ((wi ((wi ((pt0.length : Int) + (9:Int))) + (63:Int))).tdiv (64:Int))) * (64:Int))).toNat) (0:Int)) 0 (List.replicate ((wi ((wi ((wi ((wi ((pt0.length : Int) + (9:Int))) + (63:Int))).tdiv (64:Int))) * (64:Int))).toNat) (0:Int)).length pt0).length)) <|
 Option.bind ((over (List.replicate ((wi ((wi ((wi ((wi ((pt0.length : Int) + (9:Int))) + (63:Int))).tdiv (64:Int))) * (64:Int))).toNat) (0:Int)) 0 (List.replicate ((wi ((wi ((wi ((wi ((pt0.length : Int) + (9:Int))) + (63:Int))).tdiv (64:Int))) * (64:Int))).toNat) (0:Int)).length pt0)[(pt0.length : Int).toNat]?) fun v0 =>
 Option.bind (iter (fun ((a0, a1) : ((List Int) × Int)) => f_ref02_Of_b0 n pt0 a0 a1) n ((List.set (over (List.replicate ((wi ((wi ((wi ((wi ((pt0.length : Int) + (9:Int))) + (63:Int))).tdiv (64:Int))) * (64:Int))).toNat) (0:Int)) 0 (List.replicate ((wi ((wi ((wi ((wi ((pt0.length : Int) + (9:Int))) + (63:Int))).tdiv (64:Int))) * (64:Int))).toNat) (0:Int)).length pt0) ((pt0.length : Int).toNat) (128:Int)), (0:Int))) fun x0 =>
 Option.bind (iter (fun ((a8, a9) : ((Arr 8 Int) × Int)) => f_ref02_Of_b1 n r0 x0 a8 a9) n ((⟨[(1779033703:Int), (3144134277:Int), (1013904242:Int), (2773480762:Int), (1359893119:Int), (2600822924:Int), (528734635:Int), (1541459225:Int)], rfl⟩ : (Arr 8 Int)), (0:Int))) fun x3 =>
 Option.bind (iter (fun ((a69, a70) : ((Arr 32 Int) × Int)) => f_ref02_Of_b4 n x3 a69 a70) n ((Arr.rep 32 (0:Int)), (0:Int))) fun x4 =>
 some x4
def f_ref07_digest (n : Nat) (pseed0 : (Arr 32 Int)) (pmore0 : (List Int)) : Option (Arr 32 Int) :=
 ask (decide ((([] : List Int).length + pseed0.l.length) * 1 ≤ 140737488355328)) <|
 ask (decide (((([] : List Int) ++ pseed0.l).length + pmore0.length) * 1 ≤ 140737488355328)) <|
 Option.bind (f_ref02_Of n ((([] : List Int) ++ pseed0.l) ++ pmore0)) fun r0 =>
 some r0
def f_ref01_Take_b0 (n : Nat) (pb0 : (List Int)) (a0 : Int) (a1 : Int) : Option ((Int × Int) ⊕ Int) :=
 bif (decide (a1 ≥ (0:Int))) then (bif (decide (a1 < (8:Int))) then (ask (decide (0 ≤ a1)) <|
 Option.bind (pb0[a1.toNat]?) fun v0 =>
 some (.inl ((w64 ((w64 (a0 * (256:Int))) + (w64 v0))), (wi (a1 - (1:Int)))))) else (some (.inl (a0, (wi (a1 - (1:Int))))))) else (some (.inr a0))
def f_ref01_Take (n : Nat) (pb0 : (List Int)) : Option Int :=
 Option.bind (iter (fun ((a0, a1) : (Int × Int)) => f_ref01_Take_b0 n pb0 a0 a1) n ((0:Int), (wi ((pb0.length : Int) - (1:Int))))) fun x0 =>
 some x0
def f_ref01_Max (n : Nat) (pa0 : Int) (pb0 : Int) : Option Int :=
 bif (decide (pa0 > pb0)) then (some pa0) else (some pb0)
def f_ref01_Put_b0 (n : Nat) (psize0 : Int) (a0 : Int) (a1 : (List Int)) (a2 : Int) : Option ((Int × (List Int) × Int) ⊕ (List Int)) :=
 bif (decide (a2 < psize0)) then (ask (decide ((a1.length + ([(w8 (a0.tmod (256:Int)))] : List Int).length) * 1 ≤ 140737488355328)) <|
 some (.inl ((w64 (a0.tdiv (256:Int))), (a1 ++ ([(w8 (a0.tmod (256:Int)))] : List Int)), (wi (a2 + (1:Int)))))) else (some (.inr a1))
def f_ref01_Put (n : Nat) (pn0 : Int) (psize0 : Int) : Option (List Int) :=
 Option.bind (iter (fun ((a0, a1, a2) : (Int × (List Int) × Int)) => f_ref01_Put_b0 n psize0 a0 a1 a2) n (pn0, ([] : List Int), (0:Int))) fun x0 =>
 some x0
def f_ref07_Index_b0 (n : Nat) (pn0 : Int) (pseed0 : (Arr 32 Int)) (a0 : Int) (a1 : Int) : Option ((Int × Int) ⊕ Int) :=
 bif (decide (a1 < (5:Int))) then (Option.bind (f_ref07_digest n pseed0 ([(w8 a1)] : List Int)) fun r0 =>
 Option.bind (f_ref01_Take n (List.take 8 (List.drop 0 r0.l))) fun r1 =>
 ask (decide (pn0 ≠ 0)) <|
 Option.bind (f_ref01_Max n a0 ((w64 ((w64 ((r1.tmod pn0) + pn0)) - a0)).tmod pn0)) fun r2 =>
 Option.bind (f_ref01_Put n (w64 (r2.tdiv (256:Int))) (4:Int)) fun r3 =>
 ask (decide ((([(w8 a1)] : List Int).length + r3.length) * 1 ≤ 140737488355328)) <|
 Option.bind (f_ref07_digest n pseed0 (([(w8 a1)] : List Int) ++ r3)) fun r4 =>
 ask (decide (0 ≤ (w64 ((r2.tmod (256:Int)).tdiv (8:Int))))) <|
 ask (decide ((w64 ((r2.tmod (256:Int)).tdiv (8:Int))) < (32:Int))) <|
 Option.bind (r4.l[(w64 ((r2.tmod (256:Int)).tdiv (8:Int))).toNat]?) fun v0 =>
 ask (decide (0 ≤ (r2.tmod (8:Int)))) <|
 bif ((bits .and .u8 (shr .u8 v0 (r2.tmod (8:Int))) (1:Int)) == (1:Int)) then (some (.inl (((w64 ((w64 ((r1.tmod pn0) + pn0)) - a0)).tmod pn0), (wi (a1 + (1:Int)))))) else (some (.inl (a0, (wi (a1 + (1:Int))))))) else (some (.inr a0))
def f_ref07_Index (n : Nat) (pi0 : Int) (pn0 : Int) (pseed0 : (Arr 32 Int)) : Option (Int × Bool) :=
 bif (pn0 == (0:Int)) then (some ((0:Int), false)) else (bif (decide (pi0 ≥ pn0)) then (some ((0:Int), false)) else (bif (decide (pn0 > (1099511627776:Int))) then (some ((0:Int), false)) else (Option.bind (iter (fun ((a0, a1) : (Int × Int)) => f_ref07_Index_b0 n pn0 pseed0 a0 a1) n (pi0, (0:Int))) fun x0 =>
 some (x0, true))))
def f_law08_ShuffleIndex (n : Nat) (pi0 : Int) (pn0 : Int) (pseed0 : (Arr 32 Int)) : Option Bool :=
 Option.bind (f_law08_Awake n) fun r0 =>
 bif (!r0) then (some false) else (Option.bind (f_shuffle_Index n pi0 pn0 pseed0) fun r1 =>
 Option.bind (f_ref07_Index n pi0 pn0 pseed0) fun r2 =>
 bif (r1.1 == r2.1) then (bif ((r1.2 == (0:Int)) == r2.2) then (bif r2.2 then (some true) else (some (r1.2 == (2:Int)))) else (some false)) else (some false))
def f_law08_ShuffleLists_b0 (n : Nat) (pn0 : Int) (pseed0 : (Arr 32 Int)) (r1 : ((List Int) × Int)) (a0 : Int) : Option (Int ⊕ (Bool ⊕ Unit)) :=
 bif (decide (a0 < (r1.1.length : Int))) then (Option.bind (f_ref07_Index n (w64 a0) (pn0.tmod (700:Int)) pseed0) fun r2 =>
 bif (!r2.2) then (some (.inr (.inl false))) else (ask (decide (0 ≤ a0)) <|
 ask (decide (a0.toNat < r1.1.length)) <|
 Option.bind (r1.1[a0.toNat]?) fun v0 =>
 bif (v0 != r2.1) then (some (.inr (.inl false))) else (some (.inl (wi (a0 + (1:Int))))))) else (some (.inr (.inr ())))
def f_law08_ShuffleLists (n : Nat) (pn0 : Int) (pseed0 : (Arr 32 Int)) : Option Bool :=
 Option.bind (f_law08_Awake n) fun r0 =>
 bif (!r0) then (some false) else (Option.bind (f_shuffle_List n (pn0.tmod (700:Int)) pseed0) fun r1 =>
 bif (r1.2 != (0:Int)) then (some false) else (bif ((w64 (r1.1.length : Int)) != (pn0.tmod (700:Int))) then (some false) else (Option.bind (iter (fun (a0 : Int) => f_law08_ShuffleLists_b0 n pn0 pseed0 r1 a0) n (0:Int)) fun x0 =>
 Sum.elim (fun r9 => some r9) (fun x1 => some true) x0)))
def f_law08_ShuffleOnce_b0 (n : Nat) (pn0 : Int) (r1 : ((List Int) × Int)) (a0 : (List Bool)) (a1 : Int) : Option (((List Bool) × Int) ⊕ (Bool ⊕ Unit)) :=
 bif (decide (a1 < (r1.1.length : Int))) then (ask (decide (0 ≤ a1)) <|
 ask (decide (a1.toNat < r1.1.length)) <|
 Option.bind (r1.1[a1.toNat]?) fun v0 =>
 bif (decide (v0 ≥ (pn0.tmod (3000:Int)))) then (some (.inr (.inl false))) else (ask (decide (0 ≤ v0)) <|
 ask (decide (v0.toNat < a0.length)) <|
 Option.bind (a0[v0.toNat]?) fun v1 =>
 bif v1 then (some (.inr (.inl false))) else (some (.inl ((List.set a0 v0.toNat true), (wi (a1 + (1:Int)))))))) else (some (.inr (.inr ())))
def f_law08_ShuffleOnce (n : Nat) (pn0 : Int) (pfar0 : Int) (pseed0 : (Arr 32 Int)) : Option Bool :=
 Option.bind (f_law08_Awake n) fun r0 =>
 bif (!r0) then (some false) else (Option.bind (f_shuffle_List n (pn0.tmod (3000:Int)) pseed0) fun r1 =>
 bif (r1.2 != (0:Int)) then (some false) else (bif ((w64 (r1.1.length : Int)) != (pn0.tmod (3000:Int))) then (some false) else (ask (decide (0 ≤ (pn0.tmod (3000:Int)))) <|
 ask (decide ((1:Int) * (pn0.tmod (3000:Int)) ≤ 140737488355328)) <|
 Option.bind (iter (fun ((a0, a1) : ((List Bool) × Int)) => f_law08_ShuffleOnce_b0 n pn0 r1 a0 a1) n ((List.replicate ((pn0.tmod (3000:Int)).toNat) false), (0:Int))) fun x0 =>
 Sum.elim (fun r9 => some r9) (fun x1 => bif (decide (pfar0 ≤ (1048576:Int))) then (some true) else (Option.bind (f_shuffle_List n pfar0 pseed0) fun r2 =>
 some (r2.2 == (2:Int)))) x0)))
end Go.Mg
