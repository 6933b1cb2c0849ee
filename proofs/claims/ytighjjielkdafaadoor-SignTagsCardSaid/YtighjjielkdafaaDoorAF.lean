/- What the functions compute, as plain functions. -/
import Derived.Test.YtighjjielkdafaaDoorAT
namespace Go.Mg
open Go Go.Proofs
def g_0 : (Arr 64 Int) := ⟨[1116352408, 1899447441, 3049323471, 3921009573, 961987163, 1508970993, 2453635748, 2870763221, 3624381080, 310598401, 607225278, 1426881987, 1925078388, 2162078206, 2614888103, 3248222580, 3835390401, 4022224774, 264347078, 604807628, 770255983, 1249150122, 1555081692, 1996064986, 2554220882, 2821834349, 2952996808, 3210313671, 3336571891, 3584528711, 113926993, 338241895, 666307205, 773529912, 1294757372, 1396182291, 1695183700, 1986661051, 2177026350, 2456956037, 2730485921, 2820302411, 3259730800, 3345764771, 3516065817, 3600352804, 4094571909, 275423344, 430227734, 506948616, 659060556, 883997877, 958139571, 1322822218, 1537002063, 1747873779, 1955562222, 2024104815, 2227730452, 2361852424, 2428436474, 2756734187, 3204031479, 3329325298], rfl⟩
def glob : Nat → Option T := get [(0, (eA 1 (T.int .u32)) g_0)]
def str_0 : ByteArray := ⟨#[101, 51, 98, 48, 99, 52, 52, 50, 57, 56, 102, 99, 49, 99, 49, 52, 57, 97, 102, 98, 102, 52, 99, 56, 57, 57, 54, 102, 98, 57, 50, 52, 50, 55, 97, 101, 52, 49, 101, 52, 54, 52, 57, 98, 57, 51, 52, 99, 97, 52, 57, 53, 57, 57, 49, 98, 55, 56, 53, 50, 98, 56, 53, 53]⟩
def str_1 : ByteArray := ⟨#[98, 97, 55, 56, 49, 54, 98, 102, 56, 102, 48, 49, 99, 102, 101, 97, 52, 49, 52, 49, 52, 48, 100, 101, 53, 100, 97, 101, 50, 50, 50, 51, 98, 48, 48, 51, 54, 49, 97, 51, 57, 54, 49, 55, 55, 97, 57, 99, 98, 52, 49, 48, 102, 102, 54, 49, 102, 50, 48, 48, 49, 53, 97, 100]⟩
def str_2 : ByteArray := ⟨#[48, 49, 50, 51, 52, 53, 54, 55, 56, 57, 97, 98, 99, 100, 101, 102]⟩
def str_3 : ByteArray := ⟨#[102, 53, 97, 53, 102, 100, 52, 50, 100, 49, 54, 97, 50, 48, 51, 48, 50, 55, 57, 56, 101, 102, 54, 101, 100, 51, 48, 57, 57, 55, 57, 98, 52, 51, 48, 48, 51, 100, 50, 51, 50, 48, 100, 57, 102, 48, 101, 56, 101, 97, 57, 56, 51, 49, 97, 57, 50, 55, 53, 57, 102, 98, 52, 98]⟩
def f_bits_RotateLeft32 (n : Nat) (px0 : Int) (pk0 : Int) : Option Int :=
 ask (decide (0 ≤ (bits .and .u64 (w64 pk0) (31:Int)))) <|
 ask (decide (0 ≤ (w64 ((32:Int) - (bits .and .u64 (w64 pk0) (31:Int)))))) <|
 some (bits .or .u32 (shl .u32 px0 (bits .and .u64 (w64 pk0) (31:Int))) (shr .u32 px0 (w64 ((32:Int) - (bits .and .u64 (w64 pk0) (31:Int))))))
def f_digest_block_b0 (n : Nat) (po0 : (List Int)) (a0 : (Arr 64 Int)) (a1 : Int) : Option (((Arr 64 Int) × Int) ⊕ (Arr 64 Int)) :=
 bif (decide (a1 < (16:Int))) then (ask (decide (0 ≤ (wi ((4:Int) * a1)))) <|
 Option.bind (po0[(wi ((4:Int) * a1)).toNat]?) fun v0 =>
 ask (decide (0 ≤ (wi ((wi ((4:Int) * a1)) + (1:Int))))) <|
 Option.bind (po0[(wi ((wi ((4:Int) * a1)) + (1:Int))).toNat]?) fun v1 =>
 ask (decide (0 ≤ (wi ((wi ((4:Int) * a1)) + (2:Int))))) <|
 Option.bind (po0[(wi ((wi ((4:Int) * a1)) + (2:Int))).toNat]?) fun v2 =>
 ask (decide (0 ≤ (wi ((wi ((4:Int) * a1)) + (3:Int))))) <|
 Option.bind (po0[(wi ((wi ((4:Int) * a1)) + (3:Int))).toNat]?) fun v3 =>
 ask (decide (0 ≤ a1)) <|
 ask (decide (a1 < (64:Int))) <|
 Option.bind (a0.l[a1.toNat]?) fun v4 =>
 some (.inl ((Arr.set a0 (a1.toNat) (bits .or .u32 (bits .or .u32 (bits .or .u32 (shl .u32 (w32 v0) (24:Int)) (shl .u32 (w32 v1) (16:Int))) (shl .u32 (w32 v2) (8:Int))) (w32 v3))), (wi (a1 + (1:Int)))))) else (some (.inr a0))
def f_digest_block_b1 (n : Nat) (a8 : (Arr 64 Int)) (a9 : Int) : Option (((Arr 64 Int) × Int) ⊕ (Arr 64 Int)) :=
 bif (decide (a9 < (64:Int))) then (ask (decide (0 ≤ (wi (a9 - (15:Int))))) <|
 ask (decide ((wi (a9 - (15:Int))) < (64:Int))) <|
 Option.bind (a8.l[(wi (a9 - (15:Int))).toNat]?) fun v5 =>
 Option.bind (f_bits_RotateLeft32 n v5 (-7:Int)) fun r0 =>
 Option.bind (f_bits_RotateLeft32 n v5 (-18:Int)) fun r1 =>
 ask (decide (0 ≤ (wi (a9 - (2:Int))))) <|
 ask (decide ((wi (a9 - (2:Int))) < (64:Int))) <|
 Option.bind (a8.l[(wi (a9 - (2:Int))).toNat]?) fun v6 =>
 Option.bind (f_bits_RotateLeft32 n v6 (-17:Int)) fun r2 =>
 Option.bind (f_bits_RotateLeft32 n v6 (-19:Int)) fun r3 =>
 ask (decide (0 ≤ (wi (a9 - (16:Int))))) <|
 ask (decide ((wi (a9 - (16:Int))) < (64:Int))) <|
 Option.bind (a8.l[(wi (a9 - (16:Int))).toNat]?) fun v7 =>
 ask (decide (0 ≤ (wi (a9 - (7:Int))))) <|
 ask (decide ((wi (a9 - (7:Int))) < (64:Int))) <|
 Option.bind (a8.l[(wi (a9 - (7:Int))).toNat]?) fun v8 =>
 ask (decide (0 ≤ a9)) <|
 Option.bind (a8.l[a9.toNat]?) fun v9 =>
 some (.inl ((Arr.set a8 (a9.toNat) (w32 ((w32 ((w32 (v7 + (bits .xor .u32 (bits .xor .u32 r0 r1) (shr .u32 v5 (3:Int))))) + v8)) + (bits .xor .u32 (bits .xor .u32 r2 r3) (shr .u32 v6 (10:Int)))))), (wi (a9 + (1:Int)))))) else (some (.inr a8))
def f_digest_block_b2 (n : Nat) (x1 : (Arr 64 Int)) (a16 : (Arr 8 Int)) (a17 : Int) : Option (((Arr 8 Int) × Int) ⊕ (Arr 8 Int)) :=
 bif (decide (a17 < (64:Int))) then (Option.bind (a16.l[4]?) fun v10 =>
 Option.bind (f_bits_RotateLeft32 n v10 (-6:Int)) fun r4 =>
 Option.bind (f_bits_RotateLeft32 n v10 (-11:Int)) fun r5 =>
 Option.bind (f_bits_RotateLeft32 n v10 (-25:Int)) fun r6 =>
 Option.bind (a16.l[7]?) fun v11 =>
 Option.bind (a16.l[5]?) fun v12 =>
 Option.bind (a16.l[6]?) fun v13 =>
 ask (decide (0 ≤ a17)) <|
 Option.bind (g_0.l[a17.toNat]?) fun v14 =>
 Option.bind (x1.l[a17.toNat]?) fun v15 =>
 Option.bind (a16.l[0]?) fun v16 =>
 Option.bind (f_bits_RotateLeft32 n v16 (-2:Int)) fun r7 =>
 Option.bind (f_bits_RotateLeft32 n v16 (-13:Int)) fun r8 =>
 Option.bind (f_bits_RotateLeft32 n v16 (-22:Int)) fun r9 =>
 Option.bind (a16.l[1]?) fun v17 =>
 Option.bind (a16.l[2]?) fun v18 =>
 Option.bind (((Arr.put a16 (over a16.l 1 7 (List.take 7 (List.drop 0 a16.l)))).l)[4]?) fun v19 =>
 Option.bind (((Arr.set (Arr.put a16 (over a16.l 1 7 (List.take 7 (List.drop 0 a16.l)))) 4 (w32 (v19 + (w32 ((w32 ((w32 ((w32 (v11 + (bits .xor .u32 (bits .xor .u32 r4 r5) r6))) + (bits .xor .u32 (bits .and .u32 v10 v12) (bits .and .u32 (bits .xor .u32 (4294967295) v10) v13)))) + v14)) + v15))))).l)[0]?) fun v20 =>
 some (.inl ((Arr.set (Arr.set (Arr.put a16 (over a16.l 1 7 (List.take 7 (List.drop 0 a16.l)))) 4 (w32 (v19 + (w32 ((w32 ((w32 ((w32 (v11 + (bits .xor .u32 (bits .xor .u32 r4 r5) r6))) + (bits .xor .u32 (bits .and .u32 v10 v12) (bits .and .u32 (bits .xor .u32 (4294967295) v10) v13)))) + v14)) + v15))))) 0 (w32 ((w32 ((w32 ((w32 ((w32 ((w32 (v11 + (bits .xor .u32 (bits .xor .u32 r4 r5) r6))) + (bits .xor .u32 (bits .and .u32 v10 v12) (bits .and .u32 (bits .xor .u32 (4294967295) v10) v13)))) + v14)) + v15)) + (bits .xor .u32 (bits .xor .u32 r7 r8) r9))) + (bits .xor .u32 (bits .xor .u32 (bits .and .u32 v16 v17) (bits .and .u32 v16 v18)) (bits .and .u32 v17 v18))))), (wi (a17 + (1:Int)))))) else (some (.inr a16))
def f_digest_block_b3 (n : Nat) (x2 : (Arr 8 Int)) (a24 : (Arr 8 Int)) (a25 : Int) : Option (((Arr 8 Int) × Int) ⊕ (Arr 8 Int)) :=
 bif (decide (a25 < (8:Int))) then (ask (decide (0 ≤ a25)) <|
 Option.bind (a24.l[a25.toNat]?) fun v21 =>
 Option.bind (x2.l[a25.toNat]?) fun v22 =>
 some (.inl ((Arr.set a24 (a25.toNat) (w32 (v21 + v22))), (wi (a25 + (1:Int)))))) else (some (.inr a24))
def f_digest_block (n : Nat) (pt0 : (Arr 8 Int)) (po0 : (List Int)) : Option (Arr 8 Int) :=
 Option.bind (iter (fun ((a0, a1) : ((Arr 64 Int) × Int)) => f_digest_block_b0 n po0 a0 a1) n ((Arr.rep 64 (0:Int)), (0:Int))) fun x0 =>
 Option.bind (iter (fun ((a8, a9) : ((Arr 64 Int) × Int)) => f_digest_block_b1 n  a8 a9) n (x0, (16:Int))) fun x1 =>
 Option.bind (iter (fun ((a16, a17) : ((Arr 8 Int) × Int)) => f_digest_block_b2 n x1 a16 a17) n (pt0, (0:Int))) fun x2 =>
 Option.bind (iter (fun ((a24, a25) : ((Arr 8 Int) × Int)) => f_digest_block_b3 n x2 a24 a25) n (pt0, (0:Int))) fun x3 =>
 some x3
def f_digest_Of_b0 (n : Nat) (a0 : (List Int)) : Option ((List Int) ⊕ (List Int)) :=
 bif (((a0.length : Int).tmod (64:Int)) != (56:Int)) then (ask (decide ((a0.length + ([(0:Int)] : List Int).length) * 1 ≤ 140737488355328)) <|
 some (.inl (a0 ++ ([(0:Int)] : List Int)))) else (some (.inr a0))
def f_digest_Of_b1 (n : Nat) (pb0 : (List Int)) (a5 : (List Int)) (a6 : Int) : Option (((List Int) × Int) ⊕ (List Int)) :=
 bif (decide (a6 ≥ (0:Int))) then (ask (decide (0 ≤ a6)) <|
 ask (decide ((a5.length + ([(w8 (shr .u64 (w64 ((w64 (pb0.length : Int)) * (8:Int))) a6))] : List Int).length) * 1 ≤ 140737488355328)) <|
 some (.inl ((a5 ++ ([(w8 (shr .u64 (w64 ((w64 (pb0.length : Int)) * (8:Int))) a6))] : List Int)), (wi (a6 - (8:Int)))))) else (some (.inr a5))
def f_digest_Of_b2 (n : Nat) (a13 : (List Int)) (a14 : (Arr 8 Int)) : Option (((List Int) × (Arr 8 Int)) ⊕ (Arr 8 Int)) :=
 bif (decide ((a13.length : Int) > (0:Int))) then (ask (decide ((64:Int) ≤ (a13.length : Int))) <|
 Option.bind (f_digest_block n a14 (List.take 64 a13)) fun r0 =>
 some (.inl ((List.drop 64 a13), r0))) else (some (.inr a14))
def f_digest_Of_b3 (n : Nat) (x2 : (Arr 8 Int)) (a21 : (Arr 32 Int)) (a22 : Int) : Option (((Arr 32 Int) × Int) ⊕ (Arr 32 Int)) :=
 bif (decide (a22 < (8:Int))) then (ask (decide (0 ≤ a22)) <|
 Option.bind (x2.l[a22.toNat]?) fun v0 =>
 ask (decide (0 ≤ (wi ((4:Int) * a22)))) <|
 ask (decide ((wi ((4:Int) * a22)) < (32:Int))) <|
 Option.bind (a21.l[(wi ((4:Int) * a22)).toNat]?) fun v1 =>
 ask (decide (0 ≤ (wi ((wi ((4:Int) * a22)) + (1:Int))))) <|
 ask (decide ((wi ((wi ((4:Int) * a22)) + (1:Int))) < (32:Int))) <|
 Option.bind (((Arr.set a21 ((wi ((4:Int) * a22)).toNat) (w8 (shr .u32 v0 (24:Int)))).l)[(wi ((wi ((4:Int) * a22)) + (1:Int))).toNat]?) fun v2 =>
 ask (decide (0 ≤ (wi ((wi ((4:Int) * a22)) + (2:Int))))) <|
 ask (decide ((wi ((wi ((4:Int) * a22)) + (2:Int))) < (32:Int))) <|
 Option.bind (((Arr.set (Arr.set a21 ((wi ((4:Int) * a22)).toNat) (w8 (shr .u32 v0 (24:Int)))) ((wi ((wi ((4:Int) * a22)) + (1:Int))).toNat) (w8 (shr .u32 v0 (16:Int)))).l)[(wi ((wi ((4:Int) * a22)) + (2:Int))).toNat]?) fun v3 =>
 ask (decide (0 ≤ (wi ((wi ((4:Int) * a22)) + (3:Int))))) <|
 ask (decide ((wi ((wi ((4:Int) * a22)) + (3:Int))) < (32:Int))) <|
 Option.bind (((Arr.set (Arr.set (Arr.set a21 ((wi ((4:Int) * a22)).toNat) (w8 (shr .u32 v0 (24:Int)))) ((wi ((wi ((4:Int) * a22)) + (1:Int))).toNat) (w8 (shr .u32 v0 (16:Int)))) ((wi ((wi ((4:Int) * a22)) + (2:Int))).toNat) (w8 (shr .u32 v0 (8:Int)))).l)[(wi ((wi ((4:Int) * a22)) + (3:Int))).toNat]?) fun v4 =>
 some (.inl ((Arr.set (Arr.set (Arr.set (Arr.set a21 ((wi ((4:Int) * a22)).toNat) (w8 (shr .u32 v0 (24:Int)))) ((wi ((wi ((4:Int) * a22)) + (1:Int))).toNat) (w8 (shr .u32 v0 (16:Int)))) ((wi ((wi ((4:Int) * a22)) + (2:Int))).toNat) (w8 (shr .u32 v0 (8:Int)))) ((wi ((wi ((4:Int) * a22)) + (3:Int))).toNat) (w8 v0)), (wi (a22 + (1:Int)))))) else (some (.inr a21))
def f_digest_Of (n : Nat) (pb0 : (List Int)) : Option (Arr 32 Int) :=
 ask (decide ((([] : List Int).length + pb0.length) * 1 ≤ 140737488355328)) <|
 ask (decide (((([] : List Int) ++ pb0).length + ([(128:Int)] : List Int).length) * 1 ≤ 140737488355328)) <|
 Option.bind (iter (fun (a0 : (List Int)) => f_digest_Of_b0 n  a0) n ((([] : List Int) ++ pb0) ++ ([(128:Int)] : List Int))) fun x0 =>
 Option.bind (iter (fun ((a5, a6) : ((List Int) × Int)) => f_digest_Of_b1 n pb0 a5 a6) n (x0, (56:Int))) fun x1 =>
 Option.bind (iter (fun ((a13, a14) : ((List Int) × (Arr 8 Int))) => f_digest_Of_b2 n  a13 a14) n (x1, (⟨[(1779033703:Int), (3144134277:Int), (1013904242:Int), (2773480762:Int), (1359893119:Int), (2600822924:Int), (528734635:Int), (1541459225:Int)], rfl⟩ : (Arr 8 Int)))) fun x2 =>
 Option.bind (iter (fun ((a21, a22) : ((Arr 32 Int) × Int)) => f_digest_Of_b3 n x2 a21 a22) n ((Arr.rep 32 (0:Int)), (0:Int))) fun x3 =>
 some x3
def f_digest_Hex_b0 (n : Nat) (ps0 : (Arr 32 Int)) (a0 : (List Int)) (a1 : Int) : Option (((List Int) × Int) ⊕ (List Int)) :=
 bif (decide (a1 < (32:Int))) then (ask (decide (0 ≤ a1)) <|
 Option.bind (ps0.l[a1.toNat]?) fun v0 =>
 ask (decide (0 ≤ (shr .u8 v0 (4:Int)))) <|
 Option.bind ((strAt str_2 ((shr .u8 v0 (4:Int)).toNat))) fun v1 =>
 ask (decide (0 ≤ (bits .and .u8 v0 (15:Int)))) <|
 Option.bind ((strAt str_2 ((bits .and .u8 v0 (15:Int)).toNat))) fun v2 =>
 ask (decide ((a0.length + ([v1, v2] : List Int).length) * 1 ≤ 140737488355328)) <|
 some (.inl ((a0 ++ ([v1, v2] : List Int)), (wi (a1 + (1:Int)))))) else (some (.inr a0))
def f_digest_Hex (n : Nat) (ps0 : (Arr 32 Int)) : Option ByteArray :=
 Option.bind (iter (fun ((a0, a1) : ((List Int) × Int)) => f_digest_Hex_b0 n ps0 a0 a1) n (([] : List Int), (0:Int))) fun x0 =>
 some (strOf x0)
def f_law02_Awake (n : Nat) : Option Bool :=
 Option.bind (f_digest_Of n []) fun r0 =>
 Option.bind (f_digest_Hex n r0) fun r1 =>
 bif (r1.toList == str_0.toList) then (Option.bind (f_digest_Of n ([(97:Int), (98:Int), (99:Int)] : List Int)) fun r2 =>
 Option.bind (f_digest_Hex n r2) fun r3 =>
 some (r3.toList == str_1.toList)) else (some false)
def f_ref02_numbers (n : Nat) : Option (Arr 64 Int) :=
 some (⟨[(1116352408:Int), (1899447441:Int), (3049323471:Int), (3921009573:Int), (961987163:Int), (1508970993:Int), (2453635748:Int), (2870763221:Int), (3624381080:Int), (310598401:Int), (607225278:Int), (1426881987:Int), (1925078388:Int), (2162078206:Int), (2614888103:Int), (3248222580:Int), (3835390401:Int), (4022224774:Int), (264347078:Int), (604807628:Int), (770255983:Int), (1249150122:Int), (1555081692:Int), (1996064986:Int), (2554220882:Int), (2821834349:Int), (2952996808:Int), (3210313671:Int), (3336571891:Int), (3584528711:Int), (113926993:Int), (338241895:Int), (666307205:Int), (773529912:Int), (1294757372:Int), (1396182291:Int), (1695183700:Int), (1986661051:Int), (2177026350:Int), (2456956037:Int), (2730485921:Int), (2820302411:Int), (3259730800:Int), (3345764771:Int), (3516065817:Int), (3600352804:Int), (4094571909:Int), (275423344:Int), (430227734:Int), (506948616:Int), (659060556:Int), (883997877:Int), (958139571:Int), (1322822218:Int), (1537002063:Int), (1747873779:Int), (1955562222:Int), (2024104815:Int), (2227730452:Int), (2361852424:Int), (2428436474:Int), (2756734187:Int), (3204031479:Int), (3329325298:Int)], rfl⟩ : (Arr 64 Int))
def f_ref02_right (n : Nat) (px0 : Int) (pn0 : Int) : Option Int :=
 ask (decide (0 ≤ pn0)) <|
 ask (decide (0 ≤ (wi ((32:Int) - pn0)))) <|
 some (bits .or .u32 (shr .u32 px0 pn0) (shl .u32 px0 (wi ((32:Int) - pn0))))
def f_ref02_Of_b0 (n : Nat) (pt0 : (List Int)) (a0 : (List Int)) (a1 : Int) : Option (((List Int) × Int) ⊕ (List Int)) :=
 bif (decide (a1 < (8:Int))) then (ask (decide (0 ≤ (wi ((8:Int) * a1)))) <|
 ask (decide (0 ≤ (wi ((wi ((a0.length : Int) - (1:Int))) - a1)))) <|
 ask (decide ((wi ((wi ((a0.length : Int) - (1:Int))) - a1)).toNat < a0.length)) <|
 Option.bind (a0[(wi ((wi ((a0.length : Int) - (1:Int))) - a1)).toNat]?) fun v1 =>
 some (.inl ((List.set a0 ((wi ((wi ((a0.length : Int) - (1:Int))) - a1)).toNat) (w8 (shr .u64 (w64 (wi ((8:Int) * (pt0.length : Int)))) (wi ((8:Int) * a1))))), (wi (a1 + (1:Int)))))) else (some (.inr a0))
def f_ref02_Of_b2 (n : Nat) (a9 : Int) (x0 : (List Int)) (a11 : (Arr 64 Int)) (a12 : Int) : Option (((Arr 64 Int) × Int) ⊕ (Arr 64 Int)) :=
 bif (decide (a12 < (64:Int))) then (bif (decide (a12 < (16:Int))) then (ask (decide (0 ≤ (wi (a9 + (wi ((4:Int) * a12)))))) <|
 ask (decide ((wi (a9 + (wi ((4:Int) * a12)))).toNat < x0.length)) <|
 Option.bind (x0[(wi (a9 + (wi ((4:Int) * a12)))).toNat]?) fun v2 =>
 ask (decide (0 ≤ (wi ((wi (a9 + (wi ((4:Int) * a12)))) + (1:Int))))) <|
 ask (decide ((wi ((wi (a9 + (wi ((4:Int) * a12)))) + (1:Int))).toNat < x0.length)) <|
 Option.bind (x0[(wi ((wi (a9 + (wi ((4:Int) * a12)))) + (1:Int))).toNat]?) fun v3 =>
 ask (decide (0 ≤ (wi ((wi (a9 + (wi ((4:Int) * a12)))) + (2:Int))))) <|
 ask (decide ((wi ((wi (a9 + (wi ((4:Int) * a12)))) + (2:Int))).toNat < x0.length)) <|
 Option.bind (x0[(wi ((wi (a9 + (wi ((4:Int) * a12)))) + (2:Int))).toNat]?) fun v4 =>
 ask (decide (0 ≤ (wi ((wi (a9 + (wi ((4:Int) * a12)))) + (3:Int))))) <|
 ask (decide ((wi ((wi (a9 + (wi ((4:Int) * a12)))) + (3:Int))).toNat < x0.length)) <|
 Option.bind (x0[(wi ((wi (a9 + (wi ((4:Int) * a12)))) + (3:Int))).toNat]?) fun v5 =>
 ask (decide (0 ≤ a12)) <|
 Option.bind (a11.l[a12.toNat]?) fun v6 =>
 some (.inl ((Arr.set a11 (a12.toNat) (bits .or .u32 (bits .or .u32 (bits .or .u32 (shl .u32 (w32 v2) (24:Int)) (shl .u32 (w32 v3) (16:Int))) (shl .u32 (w32 v4) (8:Int))) (w32 v5))), (wi (a12 + (1:Int)))))) else (ask (decide (0 ≤ (wi (a12 - (15:Int))))) <|
 ask (decide ((wi (a12 - (15:Int))) < (64:Int))) <|
 Option.bind (a11.l[(wi (a12 - (15:Int))).toNat]?) fun v7 =>
 ask (decide (0 ≤ (wi (a12 - (2:Int))))) <|
 ask (decide ((wi (a12 - (2:Int))) < (64:Int))) <|
 Option.bind (a11.l[(wi (a12 - (2:Int))).toNat]?) fun v8 =>
 ask (decide (0 ≤ (wi (a12 - (16:Int))))) <|
 ask (decide ((wi (a12 - (16:Int))) < (64:Int))) <|
 Option.bind (a11.l[(wi (a12 - (16:Int))).toNat]?) fun v9 =>
 Option.bind (f_ref02_right n v7 (7:Int)) fun r1 =>
 Option.bind (f_ref02_right n v7 (18:Int)) fun r2 =>
 ask (decide (0 ≤ (wi (a12 - (7:Int))))) <|
 ask (decide ((wi (a12 - (7:Int))) < (64:Int))) <|
 Option.bind (a11.l[(wi (a12 - (7:Int))).toNat]?) fun v10 =>
 Option.bind (f_ref02_right n v8 (17:Int)) fun r3 =>
 Option.bind (f_ref02_right n v8 (19:Int)) fun r4 =>
 ask (decide (0 ≤ a12)) <|
 Option.bind (a11.l[a12.toNat]?) fun v11 =>
 some (.inl ((Arr.set a11 (a12.toNat) (w32 ((w32 ((w32 (v9 + (bits .xor .u32 (bits .xor .u32 r1 r2) (shr .u32 v7 (3:Int))))) + v10)) + (bits .xor .u32 (bits .xor .u32 r3 r4) (shr .u32 v8 (10:Int)))))), (wi (a12 + (1:Int))))))) else (some (.inr a11))
def f_ref02_Of_b3 (n : Nat) (r0 : (Arr 64 Int)) (x1 : (Arr 64 Int)) (a21 : Int) (a22 : Int) (a23 : Int) (a24 : Int) (a25 : Int) (a26 : Int) (a27 : Int) (a28 : Int) (a29 : Int) : Option ((Int × Int × Int × Int × Int × Int × Int × Int × Int) ⊕ (Int × Int × Int × Int × Int × Int × Int × Int)) :=
 bif (decide (a29 < (64:Int))) then (Option.bind (f_ref02_right n a25 (6:Int)) fun r5 =>
 Option.bind (f_ref02_right n a25 (11:Int)) fun r6 =>
 Option.bind (f_ref02_right n a25 (25:Int)) fun r7 =>
 ask (decide (0 ≤ a29)) <|
 Option.bind (r0.l[a29.toNat]?) fun v20 =>
 Option.bind (x1.l[a29.toNat]?) fun v21 =>
 Option.bind (f_ref02_right n a21 (2:Int)) fun r8 =>
 Option.bind (f_ref02_right n a21 (13:Int)) fun r9 =>
 Option.bind (f_ref02_right n a21 (22:Int)) fun r10 =>
 some (.inl ((w32 ((w32 ((w32 ((w32 ((w32 (a28 + (bits .xor .u32 (bits .xor .u32 r5 r6) r7))) + (bits .xor .u32 (bits .and .u32 a25 a26) (bits .and .u32 (bits .xor .u32 (4294967295) a25) a27)))) + v20)) + v21)) + (w32 ((bits .xor .u32 (bits .xor .u32 r8 r9) r10) + (bits .xor .u32 (bits .xor .u32 (bits .and .u32 a21 a22) (bits .and .u32 a21 a23)) (bits .and .u32 a22 a23)))))), a21, a22, a23, (w32 (a24 + (w32 ((w32 ((w32 ((w32 (a28 + (bits .xor .u32 (bits .xor .u32 r5 r6) r7))) + (bits .xor .u32 (bits .and .u32 a25 a26) (bits .and .u32 (bits .xor .u32 (4294967295) a25) a27)))) + v20)) + v21)))), a25, a26, a27, (wi (a29 + (1:Int)))))) else (some (.inr (a21, a22, a23, a24, a25, a26, a27, a28)))
def f_ref02_Of_b1 (n : Nat) (r0 : (Arr 64 Int)) (x0 : (List Int)) (a8 : (Arr 8 Int)) (a9 : Int) : Option (((Arr 8 Int) × Int) ⊕ (Arr 8 Int)) :=
 bif (decide (a9 < (x0.length : Int))) then (Option.bind (iter (fun ((a11, a12) : ((Arr 64 Int) × Int)) => f_ref02_Of_b2 n a9 x0 a11 a12) n ((Arr.rep 64 (0:Int)), (0:Int))) fun x1 =>
 Option.bind (a8.l[0]?) fun v12 =>
 Option.bind (a8.l[1]?) fun v13 =>
 Option.bind (a8.l[2]?) fun v14 =>
 Option.bind (a8.l[3]?) fun v15 =>
 Option.bind (a8.l[4]?) fun v16 =>
 Option.bind (a8.l[5]?) fun v17 =>
 Option.bind (a8.l[6]?) fun v18 =>
 Option.bind (a8.l[7]?) fun v19 =>
 Option.bind (iter (fun ((a21, a22, a23, a24, a25, a26, a27, a28, a29) : (Int × Int × Int × Int × Int × Int × Int × Int × Int)) => f_ref02_Of_b3 n r0 x1 a21 a22 a23 a24 a25 a26 a27 a28 a29) n (v12, v13, v14, v15, v16, v17, v18, v19, (0:Int))) fun x2 =>
 Option.bind (((Arr.set a8 0 (w32 (v12 + x2.1))).l)[1]?) fun v22 =>
 Option.bind (((Arr.set (Arr.set a8 0 (w32 (v12 + x2.1))) 1 (w32 (v13 + x2.2.1))).l)[2]?) fun v23 =>
 Option.bind (((Arr.set (Arr.set (Arr.set a8 0 (w32 (v12 + x2.1))) 1 (w32 (v13 + x2.2.1))) 2 (w32 (v14 + x2.2.2.1))).l)[3]?) fun v24 =>
 Option.bind (((Arr.set (Arr.set (Arr.set (Arr.set a8 0 (w32 (v12 + x2.1))) 1 (w32 (v13 + x2.2.1))) 2 (w32 (v14 + x2.2.2.1))) 3 (w32 (v15 + x2.2.2.2.1))).l)[4]?) fun v25 =>
 Option.bind (((Arr.set (Arr.set (Arr.set (Arr.set (Arr.set a8 0 (w32 (v12 + x2.1))) 1 (w32 (v13 + x2.2.1))) 2 (w32 (v14 + x2.2.2.1))) 3 (w32 (v15 + x2.2.2.2.1))) 4 (w32 (v16 + x2.2.2.2.2.1))).l)[5]?) fun v26 =>
 Option.bind (((Arr.set (Arr.set (Arr.set (Arr.set (Arr.set (Arr.set a8 0 (w32 (v12 + x2.1))) 1 (w32 (v13 + x2.2.1))) 2 (w32 (v14 + x2.2.2.1))) 3 (w32 (v15 + x2.2.2.2.1))) 4 (w32 (v16 + x2.2.2.2.2.1))) 5 (w32 (v17 + x2.2.2.2.2.2.1))).l)[6]?) fun v27 =>
 Option.bind (((Arr.set (Arr.set (Arr.set (Arr.set (Arr.set (Arr.set (Arr.set a8 0 (w32 (v12 + x2.1))) 1 (w32 (v13 + x2.2.1))) 2 (w32 (v14 + x2.2.2.1))) 3 (w32 (v15 + x2.2.2.2.1))) 4 (w32 (v16 + x2.2.2.2.2.1))) 5 (w32 (v17 + x2.2.2.2.2.2.1))) 6 (w32 (v18 + x2.2.2.2.2.2.2.1))).l)[7]?) fun v28 =>
 some (.inl ((Arr.set (Arr.set (Arr.set (Arr.set (Arr.set (Arr.set (Arr.set (Arr.set a8 0 (w32 (v12 + x2.1))) 1 (w32 (v13 + x2.2.1))) 2 (w32 (v14 + x2.2.2.1))) 3 (w32 (v15 + x2.2.2.2.1))) 4 (w32 (v16 + x2.2.2.2.2.1))) 5 (w32 (v17 + x2.2.2.2.2.2.1))) 6 (w32 (v18 + x2.2.2.2.2.2.2.1))) 7 (w32 (v19 + x2.2.2.2.2.2.2.2))), (wi (a9 + (64:Int)))))) else (some (.inr a8))
def f_ref02_Of_b4 (n : Nat) (x3 : (Arr 8 Int)) (a69 : (Arr 32 Int)) (a70 : Int) : Option (((Arr 32 Int) × Int) ⊕ (Arr 32 Int)) :=
 bif (decide (a70 < (32:Int))) then (ask (decide (0 ≤ (wi (a70.tdiv (4:Int))))) <|
 ask (decide ((wi (a70.tdiv (4:Int))) < (8:Int))) <|
 Option.bind (x3.l[(wi (a70.tdiv (4:Int))).toNat]?) fun v29 =>
 ask (decide (0 ≤ (wi ((24:Int) - (wi ((8:Int) * (a70.tmod (4:Int)))))))) <|
 ask (decide (0 ≤ a70)) <|
 Option.bind (a69.l[a70.toNat]?) fun v30 =>
 some (.inl ((Arr.set a69 (a70.toNat) (w8 (shr .u32 v29 (wi ((24:Int) - (wi ((8:Int) * (a70.tmod (4:Int))))))))), (wi (a70 + (1:Int)))))) else (some (.inr a69))
def f_ref02_Of (n : Nat) (pt0 : (List Int)) : Option (Arr 32 Int) :=
 Option.bind (f_ref02_numbers n) fun r0 =>
 ask (decide (0 ≤ (wi ((wi ((wi ((wi ((pt0.length : Int) + (9:Int))) + (63:Int))).tdiv (64:Int))) * (64:Int))))) <|
 ask (decide ((1:Int) * (wi ((wi ((wi ((wi ((pt0.length : Int) + (9:Int))) + (63:Int))).tdiv (64:Int))) * (64:Int))) ≤ 140737488355328)) <|
 ask (decide ((pt0.length : Int).toNat < (over (List.replicate ((wi ((wi ((wi ((wi ((pt0.length : Int) + (9:Int))) + (63:Int))).tdiv (64:Int))) * (64:Int))).toNat) (0:Int)) 0 (List.replicate ((wi ((wi ((wi ((wi ((pt0.length : Int) + (9:Int))) + (63:Int))).tdiv (64:Int))) * (64:Int))).toNat) (0:Int)).length pt0).length)) <|
 Option.bind ((over (List.replicate ((wi ((wi ((wi ((wi ((pt0.length : Int) + (9:Int))) + (63:Int))).tdiv (64:Int))) * (64:Int))).toNat) (0:Int)) 0 (List.replicate ((wi ((wi ((wi ((wi ((pt0.length : Int) + (9:Int))) + (63:Int))).tdiv (64:Int))) * (64:Int))).toNat) (0:Int)).length pt0)[(pt0.length : Int).toNat]?) fun v0 =>
 Option.bind (iter (fun ((a0, a1) : ((List Int) × Int)) => f_ref02_Of_b0 n pt0 a0 a1) n ((List.set (over (List.replicate ((wi ((wi ((wi ((wi ((pt0.length : Int) + (9:Int))) + (63:Int))).tdiv (64:Int))) * (64:Int))).toNat) (0:Int)) 0 (List.replicate ((wi ((wi ((wi ((wi ((pt0.length : Int) + (9:Int))) + (63:Int))).tdiv (64:Int))) * (64:Int))).toNat) (0:Int)).length pt0) ((pt0.length : Int).toNat) (128:Int)), (0:Int))) fun x0 =>
 Option.bind (iter (fun ((a8, a9) : ((Arr 8 Int) × Int)) => f_ref02_Of_b1 n r0 x0 a8 a9) n ((⟨[(1779033703:Int), (3144134277:Int), (1013904242:Int), (2773480762:Int), (1359893119:Int), (2600822924:Int), (528734635:Int), (1541459225:Int)], rfl⟩ : (Arr 8 Int)), (0:Int))) fun x3 =>
 Option.bind (iter (fun ((a69, a70) : ((Arr 32 Int) × Int)) => f_ref02_Of_b4 n x3 a69 a70) n ((Arr.rep 32 (0:Int)), (0:Int))) fun x4 =>
 some x4
def f_law02_DigestEnds_b0 (n : Nat) (pc0 : Int) (pn0 : Int) (a0 : (List Int)) (a1 : Int) : Option (((List Int) × Int) ⊕ (List Int)) :=
 bif (decide (a1 < ((List.replicate ((wi ((w64 pn0).tmod (260:Int))).toNat) (0:Int)).length : Int))) then (ask (decide (0 ≤ a1)) <|
 ask (decide (a1.toNat < a0.length)) <|
 Option.bind (a0[a1.toNat]?) fun v0 =>
 some (.inl ((List.set a0 a1.toNat pc0), (wi (a1 + (1:Int)))))) else (some (.inr a0))
def f_law02_DigestEnds (n : Nat) (pn0 : Int) (pc0 : Int) : Option Bool :=
 Option.bind (f_law02_Awake n) fun r0 =>
 bif (!r0) then (some false) else (ask (decide (0 ≤ (wi ((w64 pn0).tmod (260:Int))))) <|
 ask (decide ((1:Int) * (wi ((w64 pn0).tmod (260:Int))) ≤ 140737488355328)) <|
 Option.bind (iter (fun ((a0, a1) : ((List Int) × Int)) => f_law02_DigestEnds_b0 n pc0 pn0 a0 a1) n ((List.replicate ((wi ((w64 pn0).tmod (260:Int))).toNat) (0:Int)), (0:Int))) fun x0 =>
 Option.bind (f_digest_Of n x0) fun r1 =>
 Option.bind (f_ref02_Of n x0) fun r2 =>
 some (decide (r1 = r2)))
def f_digest_Pair (n : Nat) (pa0 : (Arr 32 Int)) (pb0 : (Arr 32 Int)) : Option (Arr 32 Int) :=
 ask (decide ((([] : List Int).length + pa0.l.length) * 1 ≤ 140737488355328)) <|
 ask (decide (((([] : List Int) ++ pa0.l).length + pb0.l.length) * 1 ≤ 140737488355328)) <|
 Option.bind (f_digest_Of n ((([] : List Int) ++ pa0.l) ++ pb0.l)) fun r0 =>
 some r0
def f_ref02_Pair_b0 (n : Nat) (pa0 : (Arr 32 Int)) (pb0 : (Arr 32 Int)) (a0 : (List Int)) (a1 : Int) : Option (((List Int) × Int) ⊕ (List Int)) :=
 bif (decide (a1 < (32:Int))) then (ask (decide (0 ≤ a1)) <|
 Option.bind (pa0.l[a1.toNat]?) fun v0 =>
 ask (decide (a1.toNat < a0.length)) <|
 Option.bind (a0[a1.toNat]?) fun v1 =>
 Option.bind (pb0.l[a1.toNat]?) fun v2 =>
 ask (decide (0 ≤ (wi ((32:Int) + a1)))) <|
 ask (decide ((wi ((32:Int) + a1)).toNat < (List.set a0 a1.toNat v0).length)) <|
 Option.bind ((List.set a0 a1.toNat v0)[(wi ((32:Int) + a1)).toNat]?) fun v3 =>
 some (.inl ((List.set (List.set a0 a1.toNat v0) ((wi ((32:Int) + a1)).toNat) v2), (wi (a1 + (1:Int)))))) else (some (.inr a0))
def f_ref02_Pair (n : Nat) (pa0 : (Arr 32 Int)) (pb0 : (Arr 32 Int)) : Option (Arr 32 Int) :=
 Option.bind (iter (fun ((a0, a1) : ((List Int) × Int)) => f_ref02_Pair_b0 n pa0 pb0 a0 a1) n ((List.replicate 64 (0:Int)), (0:Int))) fun x0 =>
 Option.bind (f_ref02_Of n x0) fun r0 =>
 some r0
def f_ref02_Hex_b0 (n : Nat) (pr0 : (Arr 32 Int)) (a0 : (List Int)) (a1 : Int) : Option (((List Int) × Int) ⊕ (List Int)) :=
 bif (decide (a1 < (64:Int))) then (ask (decide (0 ≤ (wi (a1.tdiv (2:Int))))) <|
 ask (decide ((wi (a1.tdiv (2:Int))) < (32:Int))) <|
 Option.bind (pr0.l[(wi (a1.tdiv (2:Int))).toNat]?) fun v0 =>
 ask (decide (0 ≤ (wi ((4:Int) * (wi ((1:Int) - (a1.tmod (2:Int)))))))) <|
 ask (decide (0 ≤ (bits .and .u8 (shr .u8 v0 (wi ((4:Int) * (wi ((1:Int) - (a1.tmod (2:Int))))))) (15:Int)))) <|
 Option.bind ((strAt str_2 ((bits .and .u8 (shr .u8 v0 (wi ((4:Int) * (wi ((1:Int) - (a1.tmod (2:Int))))))) (15:Int)).toNat))) fun v1 =>
 ask (decide (0 ≤ a1)) <|
 ask (decide (a1.toNat < a0.length)) <|
 Option.bind (a0[a1.toNat]?) fun v2 =>
 some (.inl ((List.set a0 a1.toNat v1), (wi (a1 + (1:Int)))))) else (some (.inr a0))
def f_ref02_Hex (n : Nat) (pr0 : (Arr 32 Int)) : Option ByteArray :=
 Option.bind (iter (fun ((a0, a1) : ((List Int) × Int)) => f_ref02_Hex_b0 n pr0 a0 a1) n ((List.replicate 64 (0:Int)), (0:Int))) fun x0 =>
 some (strOf x0)
def f_law02_DigestPairs (n : Nat) (pa0 : (Arr 32 Int)) (pb0 : (Arr 32 Int)) : Option Bool :=
 Option.bind (f_law02_Awake n) fun r0 =>
 bif (!r0) then (some false) else (ask (decide ((([] : List Int).length + pa0.l.length) * 1 ≤ 140737488355328)) <|
 ask (decide (((([] : List Int) ++ pa0.l).length + pb0.l.length) * 1 ≤ 140737488355328)) <|
 Option.bind (f_digest_Pair n pa0 pb0) fun r1 =>
 Option.bind (f_digest_Of n ((([] : List Int) ++ pa0.l) ++ pb0.l)) fun r2 =>
 bif (decide (r1 = r2)) then (Option.bind (f_ref02_Pair n pa0 pb0) fun r3 =>
 bif (decide (r1 = r3)) then (Option.bind (f_digest_Hex n pa0) fun r4 =>
 Option.bind (f_ref02_Hex n pa0) fun r5 =>
 some (r4.toList == r5.toList)) else (some false)) else (some false))
def f_sign_Join_b1 (n : Nat) (v0 : (Arr 32 Int)) (a3 : (Arr 32 Int)) (a4 : Int) : Option (((Arr 32 Int) × Int) ⊕ (Arr 32 Int)) :=
 bif (decide (a4 < (32:Int))) then (ask (decide (0 ≤ a4)) <|
 Option.bind (a3.l[a4.toNat]?) fun v1 =>
 Option.bind (v0.l[a4.toNat]?) fun v2 =>
 some (.inl ((Arr.set a3 (a4.toNat) (bits .xor .u8 v1 v2)), (wi (a4 + (1:Int)))))) else (some (.inr a3))
def f_sign_Join_b0 (n : Nat) (ptags0 : (List (Arr 32 Int))) (a0 : (Arr 32 Int)) (a1 : Int) : Option (((Arr 32 Int) × Int) ⊕ (Arr 32 Int)) :=
 bif (decide (a1 < (ptags0.length : Int))) then (ask (decide (0 ≤ a1)) <|
 Option.bind (ptags0[a1.toNat]?) fun v0 =>
 Option.bind (iter (fun ((a3, a4) : ((Arr 32 Int) × Int)) => f_sign_Join_b1 n v0 a3 a4) n (a0, (0:Int))) fun x0 =>
 some (.inl (x0, (wi (a1 + (1:Int)))))) else (some (.inr a0))
def f_sign_Join (n : Nat) (ptags0 : (List (Arr 32 Int))) : Option (Arr 32 Int) :=
 Option.bind (iter (fun ((a0, a1) : ((Arr 32 Int) × Int)) => f_sign_Join_b0 n ptags0 a0 a1) n ((Arr.rep 32 (0:Int)), (0:Int))) fun x1 =>
 some x1
def f_sign_Tag (n : Nat) (pkey0 : (Arr 32 Int)) (pmessage0 : (Arr 32 Int)) : Option (Arr 32 Int) :=
 Option.bind (f_digest_Pair n pkey0 pmessage0) fun r0 =>
 some r0
def f_sign_Valid_b0 (n : Nat) (pkeys0 : (List (Arr 32 Int))) (pmessage0 : (Arr 32 Int)) (a0 : (List (Arr 32 Int))) (a1 : Int) : Option (((List (Arr 32 Int)) × Int) ⊕ (List (Arr 32 Int))) :=
 bif (decide (a1 < (pkeys0.length : Int))) then (ask (decide (0 ≤ a1)) <|
 Option.bind (pkeys0[a1.toNat]?) fun v0 =>
 Option.bind (f_sign_Tag n v0 pmessage0) fun r0 =>
 ask (decide ((a0.length + ([r0] : List (Arr 32 Int)).length) * 32 ≤ 140737488355328)) <|
 some (.inl ((a0 ++ ([r0] : List (Arr 32 Int))), (wi (a1 + (1:Int)))))) else (some (.inr a0))
def f_sign_Valid (n : Nat) (pkeys0 : (List (Arr 32 Int))) (pmessage0 : (Arr 32 Int)) (psig0 : (Arr 32 Int)) : Option Bool :=
 Option.bind (iter (fun ((a0, a1) : ((List (Arr 32 Int)) × Int)) => f_sign_Valid_b0 n pkeys0 pmessage0 a0 a1) n (([] : List (Arr 32 Int)), (0:Int))) fun x0 =>
 bif (decide ((x0.length : Int) > (0:Int))) then (Option.bind (f_sign_Join n x0) fun r1 =>
 some (decide (r1 = psig0))) else (some false)
def f_law07_Awake (n : Nat) : Option Bool :=
 Option.bind (f_sign_Tag n (⟨[(1:Int), (0:Int), (0:Int), (0:Int), (0:Int), (0:Int), (0:Int), (0:Int), (0:Int), (0:Int), (0:Int), (0:Int), (0:Int), (0:Int), (0:Int), (0:Int), (0:Int), (0:Int), (0:Int), (0:Int), (0:Int), (0:Int), (0:Int), (0:Int), (0:Int), (0:Int), (0:Int), (0:Int), (0:Int), (0:Int), (0:Int), (0:Int)], rfl⟩ : (Arr 32 Int)) (⟨[(2:Int), (0:Int), (0:Int), (0:Int), (0:Int), (0:Int), (0:Int), (0:Int), (0:Int), (0:Int), (0:Int), (0:Int), (0:Int), (0:Int), (0:Int), (0:Int), (0:Int), (0:Int), (0:Int), (0:Int), (0:Int), (0:Int), (0:Int), (0:Int), (0:Int), (0:Int), (0:Int), (0:Int), (0:Int), (0:Int), (0:Int), (0:Int)], rfl⟩ : (Arr 32 Int))) fun r0 =>
 Option.bind (f_sign_Valid n [] (Arr.rep 32 (0:Int)) (Arr.rep 32 (0:Int))) fun r1 =>
 bif (!r1) then (bif (!(decide (r0 = (Arr.rep 32 (0:Int))))) then (Option.bind (f_sign_Join n ([r0, r0] : List (Arr 32 Int))) fun r2 =>
 bif (decide (r2 = (Arr.rep 32 (0:Int)))) then (Option.bind (f_sign_Valid n ([(⟨[(1:Int), (0:Int), (0:Int), (0:Int), (0:Int), (0:Int), (0:Int), (0:Int), (0:Int), (0:Int), (0:Int), (0:Int), (0:Int), (0:Int), (0:Int), (0:Int), (0:Int), (0:Int), (0:Int), (0:Int), (0:Int), (0:Int), (0:Int), (0:Int), (0:Int), (0:Int), (0:Int), (0:Int), (0:Int), (0:Int), (0:Int), (0:Int)], rfl⟩ : (Arr 32 Int))] : List (Arr 32 Int)) (⟨[(2:Int), (0:Int), (0:Int), (0:Int), (0:Int), (0:Int), (0:Int), (0:Int), (0:Int), (0:Int), (0:Int), (0:Int), (0:Int), (0:Int), (0:Int), (0:Int), (0:Int), (0:Int), (0:Int), (0:Int), (0:Int), (0:Int), (0:Int), (0:Int), (0:Int), (0:Int), (0:Int), (0:Int), (0:Int), (0:Int), (0:Int), (0:Int)], rfl⟩ : (Arr 32 Int)) r0) fun r3 =>
 some r3) else (some false)) else (some false)) else (some false)
def f_law07_SignJoins (n : Nat) (pl0 : (List (Arr 32 Int))) (pcut0 : Int) : Option Bool :=
 Option.bind (f_law07_Awake n) fun r0 =>
 bif (!r0) then (some false) else (bif (decide ((pl0.length : Int) > (60:Int))) then (some true) else (ask (decide ((w64 (wi ((pl0.length : Int) + (1:Int)))) ≠ 0)) <|
 ask (decide (0 ≤ (wi ((w64 pcut0).tmod (w64 (wi ((pl0.length : Int) + (1:Int)))))))) <|
 ask (decide ((wi ((w64 pcut0).tmod (w64 (wi ((pl0.length : Int) + (1:Int)))))) ≤ (pl0.length : Int))) <|
 ask (decide ((([] : List (Arr 32 Int)).length + (List.drop ((wi ((w64 pcut0).tmod (w64 (wi ((pl0.length : Int) + (1:Int)))))).toNat) pl0).length) * 32 ≤ 140737488355328)) <|
 ask (decide (((([] : List (Arr 32 Int)) ++ (List.drop ((wi ((w64 pcut0).tmod (w64 (wi ((pl0.length : Int) + (1:Int)))))).toNat) pl0)).length + (List.take ((wi ((w64 pcut0).tmod (w64 (wi ((pl0.length : Int) + (1:Int)))))).toNat) pl0).length) * 32 ≤ 140737488355328)) <|
 ask (decide ((([] : List (Arr 32 Int)).length + pl0.length) * 32 ≤ 140737488355328)) <|
 Option.bind (f_sign_Join n (([] : List (Arr 32 Int)) ++ pl0)) fun r1 =>
 Option.bind (f_sign_Join n ((([] : List (Arr 32 Int)) ++ (List.drop ((wi ((w64 pcut0).tmod (w64 (wi ((pl0.length : Int) + (1:Int)))))).toNat) pl0)) ++ (List.take ((wi ((w64 pcut0).tmod (w64 (wi ((pl0.length : Int) + (1:Int)))))).toNat) pl0))) fun r2 =>
 bif (decide (r1 = r2)) then (Option.bind (f_sign_Join n (List.take ((wi ((w64 pcut0).tmod (w64 (wi ((pl0.length : Int) + (1:Int)))))).toNat) pl0)) fun r3 =>
 Option.bind (f_sign_Join n (List.drop ((wi ((w64 pcut0).tmod (w64 (wi ((pl0.length : Int) + (1:Int)))))).toNat) pl0)) fun r4 =>
 Option.bind (f_sign_Join n ([r3, r4] : List (Arr 32 Int))) fun r5 =>
 bif (decide (r1 = r5)) then (Option.bind (f_sign_Join n ([r1, r1] : List (Arr 32 Int))) fun r6 =>
 some (decide (r6 = (Arr.rep 32 (0:Int))))) else (some false)) else (some false)))
def f_num_Put_b0 (n : Nat) (pn0 : Int) (psize0 : Int) (a0 : (List Int)) (a1 : Int) : Option (((List Int) × Int) ⊕ (List Int)) :=
 bif (decide (a1 < (gmax psize0 (0:Int)))) then (bif (decide (a1 < (8:Int))) then (ask (decide (0 ≤ (wi ((8:Int) * a1)))) <|
 ask (decide ((a0.length + ([(w8 (shr .u64 pn0 (wi ((8:Int) * a1))))] : List Int).length) * 1 ≤ 140737488355328)) <|
 some (.inl ((a0 ++ ([(w8 (shr .u64 pn0 (wi ((8:Int) * a1))))] : List Int)), (wi (a1 + (1:Int)))))) else (ask (decide ((a0.length + ([(0:Int)] : List Int).length) * 1 ≤ 140737488355328)) <|
 some (.inl ((a0 ++ ([(0:Int)] : List Int)), (wi (a1 + (1:Int))))))) else (some (.inr a0))
def f_num_Put (n : Nat) (pn0 : Int) (psize0 : Int) : Option (List Int) :=
 Option.bind (iter (fun ((a0, a1) : ((List Int) × Int)) => f_num_Put_b0 n pn0 psize0 a0 a1) n (([] : List Int), (0:Int))) fun x0 =>
 some x0
def f_sign_Message (n : Nat) (pr0 : (Arr 32 Int)) (pk0 : Int) : Option (Arr 32 Int) :=
 Option.bind (f_num_Put n pk0 (8:Int)) fun r0 =>
 Option.bind (f_digest_Pair n pr0 (Arr.put (Arr.rep 32 (0:Int)) (over (Arr.rep 32 (0:Int)).l 0 32 r0))) fun r1 =>
 some r1
def f_ref01_Put_b0 (n : Nat) (psize0 : Int) (a0 : Int) (a1 : (List Int)) (a2 : Int) : Option ((Int × (List Int) × Int) ⊕ (List Int)) :=
 bif (decide (a2 < psize0)) then (ask (decide ((a1.length + ([(w8 (a0.tmod (256:Int)))] : List Int).length) * 1 ≤ 140737488355328)) <|
 some (.inl ((w64 (a0.tdiv (256:Int))), (a1 ++ ([(w8 (a0.tmod (256:Int)))] : List Int)), (wi (a2 + (1:Int)))))) else (some (.inr a1))
def f_ref01_Put (n : Nat) (pn0 : Int) (psize0 : Int) : Option (List Int) :=
 Option.bind (iter (fun ((a0, a1, a2) : (Int × (List Int) × Int)) => f_ref01_Put_b0 n psize0 a0 a1 a2) n (pn0, ([] : List Int), (0:Int))) fun x0 =>
 some x0
def f_ref02_Word_b0 (n : Nat) (r0 : (List Int)) (a0 : (Arr 32 Int)) (a1 : Int) : Option (((Arr 32 Int) × Int) ⊕ (Arr 32 Int)) :=
 bif (decide (a1 < (8:Int))) then (ask (decide (0 ≤ a1)) <|
 ask (decide (a1.toNat < r0.length)) <|
 Option.bind (r0[a1.toNat]?) fun v0 =>
 ask (decide (a1 < (32:Int))) <|
 Option.bind (a0.l[a1.toNat]?) fun v1 =>
 some (.inl ((Arr.set a0 (a1.toNat) v0), (wi (a1 + (1:Int)))))) else (some (.inr a0))
def f_ref02_Word (n : Nat) (pn0 : Int) : Option (Arr 32 Int) :=
 Option.bind (f_ref01_Put n pn0 (8:Int)) fun r0 =>
 Option.bind (iter (fun ((a0, a1) : ((Arr 32 Int) × Int)) => f_ref02_Word_b0 n r0 a0 a1) n ((Arr.rep 32 (0:Int)), (0:Int))) fun x0 =>
 some x0
def f_ref07_Message (n : Nat) (pr0 : (Arr 32 Int)) (pkind0 : Int) : Option (Arr 32 Int) :=
 Option.bind (f_ref02_Word n pkind0) fun r0 =>
 Option.bind (f_ref02_Pair n pr0 r0) fun r1 =>
 some r1
def f_ref07_Join_b1 (n : Nat) (a1 : Int) (pl0 : (List (Arr 32 Int))) (a3 : (Arr 32 Int)) (a4 : Int) : Option (((Arr 32 Int) × Int) ⊕ (Arr 32 Int)) :=
 bif (decide (a4 < (32:Int))) then (ask (decide (0 ≤ a4)) <|
 Option.bind (a3.l[a4.toNat]?) fun v0 =>
 ask (decide (0 ≤ a1)) <|
 Option.bind (pl0[a1.toNat]?) fun v1 =>
 Option.bind (v1.l[a4.toNat]?) fun v2 =>
 some (.inl ((Arr.set a3 (a4.toNat) (bits .xor .u8 v0 v2)), (wi (a4 + (1:Int)))))) else (some (.inr a3))
def f_ref07_Join_b0 (n : Nat) (pl0 : (List (Arr 32 Int))) (a0 : (Arr 32 Int)) (a1 : Int) : Option (((Arr 32 Int) × Int) ⊕ (Arr 32 Int)) :=
 bif (decide (a1 < (pl0.length : Int))) then (Option.bind (iter (fun ((a3, a4) : ((Arr 32 Int) × Int)) => f_ref07_Join_b1 n a1 pl0 a3 a4) n (a0, (0:Int))) fun x0 =>
 some (.inl (x0, (wi (a1 + (1:Int)))))) else (some (.inr a0))
def f_ref07_Join (n : Nat) (pl0 : (List (Arr 32 Int))) : Option (Arr 32 Int) :=
 Option.bind (iter (fun ((a0, a1) : ((Arr 32 Int) × Int)) => f_ref07_Join_b0 n pl0 a0 a1) n ((Arr.rep 32 (0:Int)), (0:Int))) fun x1 =>
 some x1
def f_ref07_Tag (n : Nat) (pkey0 : (Arr 32 Int)) (pmessage0 : (Arr 32 Int)) : Option (Arr 32 Int) :=
 Option.bind (f_ref02_Pair n pkey0 pmessage0) fun r0 =>
 some r0
def f_law07_SignTags_b0 (n : Nat) (pkeys0 : (List (Arr 32 Int))) (r1 : (Arr 32 Int)) (a0 : (List (Arr 32 Int))) (a1 : Int) : Option (((List (Arr 32 Int)) × Int) ⊕ (Bool ⊕ (List (Arr 32 Int)))) :=
 bif (decide (a1 < ((([] : List (Arr 32 Int)) ++ pkeys0).length : Int))) then (ask (decide (0 ≤ a1)) <|
 ask (decide (a1.toNat < (([] : List (Arr 32 Int)) ++ pkeys0).length)) <|
 Option.bind ((([] : List (Arr 32 Int)) ++ pkeys0)[a1.toNat]?) fun v0 =>
 Option.bind (f_sign_Tag n v0 r1) fun r5 =>
 Option.bind (pkeys0[a1.toNat]?) fun v1 =>
 Option.bind (f_ref07_Tag n v1 r1) fun r6 =>
 bif (!(decide (r5 = r6))) then (some (.inr (.inl false))) else (ask (decide ((a0.length + ([r5] : List (Arr 32 Int)).length) * 32 ≤ 140737488355328)) <|
 some (.inl ((a0 ++ ([r5] : List (Arr 32 Int))), (wi (a1 + (1:Int))))))) else (some (.inr (.inr a0)))
def f_law07_SignTags (n : Nat) (pkeys0 : (List (Arr 32 Int))) (pr0 : (Arr 32 Int)) (pk0 : Int) (psig0 : (Arr 32 Int)) : Option Bool :=
 Option.bind (f_law07_Awake n) fun r0 =>
 bif (!r0) then (some false) else (bif (decide ((pkeys0.length : Int) > (40:Int))) then (some true) else (ask (decide ((([] : List (Arr 32 Int)).length + pkeys0.length) * 32 ≤ 140737488355328)) <|
 Option.bind (f_sign_Message n pr0 pk0) fun r1 =>
 Option.bind (f_ref07_Message n pr0 pk0) fun r2 =>
 bif (!(decide (r1 = r2))) then (some false) else (Option.bind (f_sign_Join n (([] : List (Arr 32 Int)) ++ pkeys0)) fun r3 =>
 Option.bind (f_ref07_Join n pkeys0) fun r4 =>
 bif (!(decide (r3 = r4))) then (some false) else (Option.bind (iter (fun ((a0, a1) : ((List (Arr 32 Int)) × Int)) => f_law07_SignTags_b0 n pkeys0 r1 a0 a1) n (([] : List (Arr 32 Int)), (0:Int))) fun x0 =>
 Sum.elim (fun r9 => some r9) (fun x1 => Option.bind (f_sign_Join n x1) fun r7 =>
 Option.bind (f_sign_Valid n (([] : List (Arr 32 Int)) ++ pkeys0) r1 r7) fun r8 =>
 bif (r8 == (decide ((pkeys0.length : Int) > (0:Int)))) then (Option.bind (f_sign_Valid n (([] : List (Arr 32 Int)) ++ pkeys0) r1 psig0) fun r9 =>
 bif (decide ((pkeys0.length : Int) > (0:Int))) then (some (r9 == (decide (psig0 = r7)))) else (some (r9 == false))) else (some false)) x0))))
def f_merkle_Depth_b0 (n : Nat) (plimit0 : Int) (a0 : Int) : Option (Int ⊕ Int) :=
 bif (decide (a0 < (62:Int))) then (ask (decide (0 ≤ a0)) <|
 bif (decide ((shl .i64 (1:Int) a0) < plimit0)) then (some (.inl (wi (a0 + (1:Int))))) else (some (.inr a0))) else (some (.inr a0))
def f_merkle_Depth (n : Nat) (plimit0 : Int) : Option Int :=
 Option.bind (iter (fun (a0 : Int) => f_merkle_Depth_b0 n plimit0 a0) n (0:Int)) fun x0 =>
 some x0
def f_merkle_Tree_b1 (n : Nat) (a5 : (List (Arr 32 Int))) (a8 : (List (Arr 32 Int))) (a9 : Int) : Option (((List (Arr 32 Int)) × Int) ⊕ (List (Arr 32 Int))) :=
 bif (decide (a9 < (a5.length : Int))) then (ask (decide (0 ≤ a9)) <|
 ask (decide (a9.toNat < a5.length)) <|
 Option.bind (a5[a9.toNat]?) fun v0 =>
 ask (decide (0 ≤ (wi (a9 + (1:Int))))) <|
 ask (decide ((wi (a9 + (1:Int))).toNat < a5.length)) <|
 Option.bind (a5[(wi (a9 + (1:Int))).toNat]?) fun v1 =>
 Option.bind (f_digest_Pair n v0 v1) fun r1 =>
 ask (decide ((a8.length + ([r1] : List (Arr 32 Int)).length) * 32 ≤ 140737488355328)) <|
 some (.inl ((a8 ++ ([r1] : List (Arr 32 Int))), (wi (a9 + (2:Int)))))) else (some (.inr a8))
def f_merkle_Tree_j0 (n : Nat) (a1 : (Arr 32 Int)) (a2 : Int) (a5 : (List (Arr 32 Int))) : Option (((List (Arr 32 Int)) × (Arr 32 Int) × Int) ⊕ ((List (Arr 32 Int)) × (Arr 32 Int))) :=
 Option.bind (iter (fun ((a8, a9) : ((List (Arr 32 Int)) × Int)) => f_merkle_Tree_b1 n a5 a8 a9) n (([] : List (Arr 32 Int)), (0:Int))) fun x0 =>
 Option.bind (f_digest_Pair n a1 a1) fun r2 =>
 some (.inl (x0, r2, (wi (a2 + (1:Int)))))
def f_merkle_Tree_b0 (n : Nat) (r0 : Int) (a0 : (List (Arr 32 Int))) (a1 : (Arr 32 Int)) (a2 : Int) : Option (((List (Arr 32 Int)) × (Arr 32 Int) × Int) ⊕ ((List (Arr 32 Int)) × (Arr 32 Int))) :=
 bif (decide (a2 < r0)) then (bif (((a0.length : Int).tmod (2:Int)) != (0:Int)) then (ask (decide ((a0.length + ([a1] : List (Arr 32 Int)).length) * 32 ≤ 140737488355328)) <|
 f_merkle_Tree_j0 n a1 a2 (a0 ++ ([a1] : List (Arr 32 Int)))) else (f_merkle_Tree_j0 n a1 a2 a0)) else (some (.inr (a0, a1)))
def f_merkle_Tree (n : Nat) (pleaves0 : (List (Arr 32 Int))) (plimit0 : Int) : Option ((Arr 32 Int) × Int) :=
 bif (decide (plimit0 < (0:Int))) then (some ((Arr.rep 32 (0:Int)), (4:Int))) else (bif (decide ((pleaves0.length : Int) > plimit0)) then (some ((Arr.rep 32 (0:Int)), (4:Int))) else (ask (decide ((([] : List (Arr 32 Int)).length + pleaves0.length) * 32 ≤ 140737488355328)) <|
 Option.bind (f_merkle_Depth n plimit0) fun r0 =>
 Option.bind (iter (fun ((a0, a1, a2) : ((List (Arr 32 Int)) × (Arr 32 Int) × Int)) => f_merkle_Tree_b0 n r0 a0 a1 a2) n ((([] : List (Arr 32 Int)) ++ pleaves0), (Arr.rep 32 (0:Int)), (0:Int))) fun x1 =>
 bif ((x1.1.length : Int) == (0:Int)) then (some (x1.2, (0:Int))) else (ask (decide (0 < x1.1.length)) <|
 Option.bind (x1.1[0]?) fun v2 =>
 some (v2, (0:Int)))))
def f_merkle_Zero_b0 (n : Nat) (pdepth0 : Int) (a0 : (Arr 32 Int)) (a1 : Int) : Option (((Arr 32 Int) × Int) ⊕ (Arr 32 Int)) :=
 bif (decide (a1 < (gmax pdepth0 (0:Int)))) then (Option.bind (f_digest_Pair n a0 a0) fun r0 =>
 some (.inl (r0, (wi (a1 + (1:Int)))))) else (some (.inr a0))
def f_merkle_Zero (n : Nat) (pdepth0 : Int) : Option (Arr 32 Int) :=
 Option.bind (iter (fun ((a0, a1) : ((Arr 32 Int) × Int)) => f_merkle_Zero_b0 n pdepth0 a0 a1) n ((Arr.rep 32 (0:Int)), (0:Int))) fun x0 =>
 some x0
def f_law03_Awake (n : Nat) : Option Bool :=
 Option.bind (f_merkle_Tree n (List.replicate 2 (Arr.rep 32 (0:Int))) (1:Int)) fun r0 =>
 Option.bind (f_merkle_Zero n (1:Int)) fun r1 =>
 Option.bind (f_digest_Hex n r1) fun r2 =>
 bif (r2.toList == str_3.toList) then (Option.bind (f_merkle_Depth n (1:Int)) fun r3 =>
 bif (r3 == (0:Int)) then (Option.bind (f_merkle_Depth n (5:Int)) fun r4 =>
 bif (r4 == (3:Int)) then (some (r0.2 == (4:Int))) else (some false)) else (some false)) else (some false)
def f_law03_own (n : Nat) (pl0 : (List (Arr 32 Int))) : Option (List (Arr 32 Int)) :=
 ask (decide ((([] : List (Arr 32 Int)).length + pl0.length) * 32 ≤ 140737488355328)) <|
 some (([] : List (Arr 32 Int)) ++ pl0)
def f_law03_MerkleWider (n : Nat) (pl0 : (List (Arr 32 Int))) (pdepth0 : Int) : Option Bool :=
 Option.bind (f_law03_Awake n) fun r0 =>
 bif (!r0) then (some false) else (ask (decide (0 ≤ (wi ((w64 pdepth0).tmod (7:Int))))) <|
 bif (decide ((pl0.length : Int) > (shl .i64 (1:Int) (wi ((w64 pdepth0).tmod (7:Int)))))) then (some true) else (Option.bind (f_law03_own n pl0) fun r1 =>
 Option.bind (f_merkle_Tree n r1 (shl .i64 (1:Int) (wi ((w64 pdepth0).tmod (7:Int))))) fun r2 =>
 Option.bind (f_law03_own n pl0) fun r3 =>
 Option.bind (f_merkle_Tree n r3 (shl .i64 (2:Int) (wi ((w64 pdepth0).tmod (7:Int))))) fun r4 =>
 bif (r2.2 == (0:Int)) then (bif (r4.2 == (0:Int)) then (Option.bind (f_merkle_Zero n (wi ((w64 pdepth0).tmod (7:Int)))) fun r5 =>
 Option.bind (f_digest_Pair n r2.1 r5) fun r6 =>
 some (decide (r4.1 = r6))) else (some false)) else (some false)))
def f_ref02_Depth_b0 (n : Nat) (plimit0 : Int) (a0 : Int) : Option (Int ⊕ Int) :=
 bif (decide (a0 < (62:Int))) then (ask (decide (0 ≤ a0)) <|
 bif (decide ((shl .i64 (1:Int) a0) < plimit0)) then (some (.inl (wi (a0 + (1:Int))))) else (some (.inr a0))) else (some (.inr a0))
def f_ref02_Depth (n : Nat) (plimit0 : Int) : Option Int :=
 Option.bind (iter (fun (a0 : Int) => f_ref02_Depth_b0 n plimit0 a0) n (0:Int)) fun x0 =>
 some x0
def f_ref02_Zero_b0 (n : Nat) (pdepth0 : Int) (a0 : (Arr 32 Int)) (a1 : Int) : Option (((Arr 32 Int) × Int) ⊕ (Arr 32 Int)) :=
 bif (decide (a1 < pdepth0)) then (Option.bind (f_ref02_Pair n a0 a0) fun r0 =>
 some (.inl (r0, (wi (a1 + (1:Int)))))) else (some (.inr a0))
def f_ref02_Zero (n : Nat) (pdepth0 : Int) : Option (Arr 32 Int) :=
 Option.bind (iter (fun ((a0, a1) : ((Arr 32 Int) × Int)) => f_ref02_Zero_b0 n pdepth0 a0 a1) n ((Arr.rep 32 (0:Int)), (0:Int))) fun x0 =>
 some x0
def f_ref02_Full_r (n : Nat) (rec : (List (Arr 32 Int)) → Int → Option (Arr 32 Int)) (pl0 : (List (Arr 32 Int))) (pdepth0 : Int) : Option (Arr 32 Int) :=
 bif ((pl0.length : Int) == (0:Int)) then (Option.bind (f_ref02_Zero n pdepth0) fun r0 =>
 some r0) else (bif (pdepth0 == (0:Int)) then (Option.bind (pl0[0]?) fun v0 =>
 some v0) else (ask (decide (0 ≤ (wi (pdepth0 - (1:Int))))) <|
 bif (decide ((pl0.length : Int) ≤ (shl .i64 (1:Int) (wi (pdepth0 - (1:Int)))))) then (Option.bind (rec pl0 (wi (pdepth0 - (1:Int)))) fun r1 =>
 Option.bind (f_ref02_Zero n (wi (pdepth0 - (1:Int)))) fun r2 =>
 Option.bind (f_ref02_Pair n r1 r2) fun r3 =>
 some r3) else (ask (decide (0 ≤ (shl .i64 (1:Int) (wi (pdepth0 - (1:Int)))))) <|
 ask (decide ((shl .i64 (1:Int) (wi (pdepth0 - (1:Int)))) ≤ (pl0.length : Int))) <|
 Option.bind (rec (List.take ((shl .i64 (1:Int) (wi (pdepth0 - (1:Int)))).toNat) pl0) (wi (pdepth0 - (1:Int)))) fun r4 =>
 Option.bind (rec (List.drop ((shl .i64 (1:Int) (wi (pdepth0 - (1:Int)))).toNat) pl0) (wi (pdepth0 - (1:Int)))) fun r5 =>
 Option.bind (f_ref02_Pair n r4 r5) fun r6 =>
 some r6)))
def f_ref02_Full : Nat → (List (Arr 32 Int)) → Int → Option (Arr 32 Int)
 | 0, _, _ => none
 | n + 1, pl0, pdepth0 => f_ref02_Full_r n (f_ref02_Full n) pl0 pdepth0
def f_ref02_Tree (n : Nat) (pl0 : (List (Arr 32 Int))) (plimit0 : Int) : Option ((Arr 32 Int) × Bool) :=
 bif (decide (plimit0 < (0:Int))) then (some ((Arr.rep 32 (0:Int)), false)) else (bif (decide ((pl0.length : Int) > plimit0)) then (some ((Arr.rep 32 (0:Int)), false)) else (Option.bind (f_ref02_Depth n plimit0) fun r0 =>
 Option.bind (f_ref02_Full n pl0 r0) fun r1 =>
 some (r1, true)))
def f_law03_plain_b0 (n : Nat) (pl0 : (List (Arr 32 Int))) (a0 : (List (Arr 32 Int))) (a1 : Int) : Option (((List (Arr 32 Int)) × Int) ⊕ (List (Arr 32 Int))) :=
 bif (decide (a1 < (pl0.length : Int))) then (ask (decide (0 ≤ a1)) <|
 Option.bind (pl0[a1.toNat]?) fun v0 =>
 ask (decide ((a0.length + ([v0] : List (Arr 32 Int)).length) * 32 ≤ 140737488355328)) <|
 some (.inl ((a0 ++ ([v0] : List (Arr 32 Int))), (wi (a1 + (1:Int)))))) else (some (.inr a0))
def f_law03_plain (n : Nat) (pl0 : (List (Arr 32 Int))) : Option (List (Arr 32 Int)) :=
 Option.bind (iter (fun ((a0, a1) : ((List (Arr 32 Int)) × Int)) => f_law03_plain_b0 n pl0 a0 a1) n (([] : List (Arr 32 Int)), (0:Int))) fun x0 =>
 some x0
def f_merkle_Mix (n : Nat) (pr0 : (Arr 32 Int)) (pn0 : Int) : Option (Arr 32 Int) :=
 Option.bind (f_num_Put n pn0 (8:Int)) fun r0 =>
 Option.bind (f_digest_Pair n pr0 (Arr.put (Arr.rep 32 (0:Int)) (over (Arr.rep 32 (0:Int)).l 0 32 r0))) fun r1 =>
 some r1
def f_ref02_Mix (n : Nat) (pr0 : (Arr 32 Int)) (pn0 : Int) : Option (Arr 32 Int) :=
 Option.bind (f_ref02_Word n pn0) fun r0 =>
 Option.bind (f_ref02_Pair n pr0 r0) fun r1 =>
 some r1
def f_law03_MerkleTrees_b0 (n : Nat) (pl0 : (List (Arr 32 Int))) (r1 : (List (Arr 32 Int))) (a0 : Int) : Option (Int ⊕ (Bool ⊕ Unit)) :=
 bif (decide (a0 < (pl0.length : Int))) then (ask (decide (0 ≤ a0)) <|
 ask (decide (a0.toNat < r1.length)) <|
 Option.bind (r1[a0.toNat]?) fun v0 =>
 Option.bind (pl0[a0.toNat]?) fun v1 =>
 bif (!(decide (v0 = v1))) then (some (.inr (.inl false))) else (some (.inl (wi (a0 + (1:Int)))))) else (some (.inr (.inr ())))
def f_law03_MerkleTrees (n : Nat) (pl0 : (List (Arr 32 Int))) (plimit0 : Int) (pn0 : Int) : Option Bool :=
 Option.bind (f_law03_Awake n) fun r0 =>
 bif (!r0) then (some false) else (bif (decide ((pl0.length : Int) > (70:Int))) then (some true) else (Option.bind (f_law03_own n pl0) fun r1 =>
 Option.bind (f_merkle_Tree n r1 plimit0) fun r2 =>
 Option.bind (f_law03_plain n pl0) fun r3 =>
 Option.bind (f_ref02_Tree n r3 plimit0) fun r4 =>
 Option.bind (iter (fun (a0 : Int) => f_law03_MerkleTrees_b0 n pl0 r1 a0) n (0:Int)) fun x0 =>
 Sum.elim (fun r9 => some r9) (fun x1 => bif (decide (r2.1 = r4.1)) then (bif ((r2.2 == (0:Int)) == r4.2) then (bif r4.2 then (Option.bind (f_merkle_Depth n plimit0) fun r5 =>
 Option.bind (f_ref02_Depth n plimit0) fun r6 =>
 bif (r5 == r6) then (Option.bind (f_merkle_Zero n (gmin (gmax plimit0 (-5:Int)) (40:Int))) fun r7 =>
 Option.bind (f_ref02_Zero n (gmin (gmax plimit0 (-5:Int)) (40:Int))) fun r8 =>
 bif (decide (r7 = r8)) then (Option.bind (f_merkle_Mix n r2.1 pn0) fun r9 =>
 Option.bind (f_ref02_Mix n r4.1 pn0) fun r10 =>
 some (decide (r9 = r10))) else (some false)) else (some false)) else (bif (r2.2 == (4:Int)) then (Option.bind (f_merkle_Depth n plimit0) fun r11 =>
 Option.bind (f_ref02_Depth n plimit0) fun r12 =>
 bif (r11 == r12) then (Option.bind (f_merkle_Zero n (gmin (gmax plimit0 (-5:Int)) (40:Int))) fun r13 =>
 Option.bind (f_ref02_Zero n (gmin (gmax plimit0 (-5:Int)) (40:Int))) fun r14 =>
 bif (decide (r13 = r14)) then (Option.bind (f_merkle_Mix n r2.1 pn0) fun r15 =>
 Option.bind (f_ref02_Mix n r4.1 pn0) fun r16 =>
 some (decide (r15 = r16))) else (some false)) else (some false)) else (some false))) else (some false)) else (some false)) x0))
def f_merkle_Branch_b1 (n : Nat) (a1 : (List (Arr 32 Int))) (a2 : (Arr 32 Int)) (a9 : (List (Arr 32 Int))) (a10 : Int) : Option (((List (Arr 32 Int)) × Int) ⊕ (List (Arr 32 Int))) :=
 bif (decide (a10 < (a1.length : Int))) then (bif (decide ((wi (a10 + (1:Int))) < (a1.length : Int))) then (ask (decide (0 ≤ (wi (a10 + (1:Int))))) <|
 ask (decide ((wi (a10 + (1:Int))).toNat < a1.length)) <|
 Option.bind (a1[(wi (a10 + (1:Int))).toNat]?) fun v1 =>
 ask (decide (0 ≤ a10)) <|
 ask (decide (a10.toNat < a1.length)) <|
 Option.bind (a1[a10.toNat]?) fun v2 =>
 Option.bind (f_digest_Pair n v2 v1) fun r0 =>
 ask (decide ((a9.length + ([r0] : List (Arr 32 Int)).length) * 32 ≤ 140737488355328)) <|
 some (.inl ((a9 ++ ([r0] : List (Arr 32 Int))), (wi (a10 + (2:Int)))))) else (ask (decide (0 ≤ a10)) <|
 ask (decide (a10.toNat < a1.length)) <|
 Option.bind (a1[a10.toNat]?) fun v3 =>
 Option.bind (f_digest_Pair n v3 a2) fun r1 =>
 ask (decide ((a9.length + ([r1] : List (Arr 32 Int)).length) * 32 ≤ 140737488355328)) <|
 some (.inl ((a9 ++ ([r1] : List (Arr 32 Int))), (wi (a10 + (2:Int))))))) else (some (.inr a9))
def f_merkle_Branch_j0 (n : Nat) (a0 : Int) (a1 : (List (Arr 32 Int))) (a2 : (Arr 32 Int)) (a3 : (List (Arr 32 Int))) (a4 : Int) (a6 : (Arr 32 Int)) : Option ((Int × (List (Arr 32 Int)) × (Arr 32 Int) × (List (Arr 32 Int)) × Int) ⊕ (List (Arr 32 Int))) :=
 ask (decide ((a3.length + ([a6] : List (Arr 32 Int)).length) * 32 ≤ 140737488355328)) <|
 Option.bind (iter (fun ((a9, a10) : ((List (Arr 32 Int)) × Int)) => f_merkle_Branch_b1 n a1 a2 a9 a10) n (([] : List (Arr 32 Int)), (0:Int))) fun x0 =>
 Option.bind (f_digest_Pair n a2 a2) fun r2 =>
 some (.inl ((wi (a0.tdiv (2:Int))), x0, r2, (a3 ++ ([a6] : List (Arr 32 Int))), (wi (a4 + (1:Int)))))
def f_merkle_Branch_b0 (n : Nat) (pdepth0 : Int) (a0 : Int) (a1 : (List (Arr 32 Int))) (a2 : (Arr 32 Int)) (a3 : (List (Arr 32 Int))) (a4 : Int) : Option ((Int × (List (Arr 32 Int)) × (Arr 32 Int) × (List (Arr 32 Int)) × Int) ⊕ (List (Arr 32 Int))) :=
 bif (decide (a4 < pdepth0)) then (bif (decide ((bits .xor .i64 a0 (1:Int)) < (a1.length : Int))) then (ask (decide (0 ≤ (bits .xor .i64 a0 (1:Int)))) <|
 ask (decide ((bits .xor .i64 a0 (1:Int)).toNat < a1.length)) <|
 Option.bind (a1[(bits .xor .i64 a0 (1:Int)).toNat]?) fun v0 =>
 f_merkle_Branch_j0 n a0 a1 a2 a3 a4 v0) else (f_merkle_Branch_j0 n a0 a1 a2 a3 a4 a2)) else (some (.inr a3))
def f_merkle_Branch (n : Nat) (pleaves0 : (List (Arr 32 Int))) (pdepth0 : Int) (pindex0 : Int) : Option ((List (Arr 32 Int)) × Int) :=
 bif (decide (pdepth0 < (0:Int))) then (some (([] : List (Arr 32 Int)), (2:Int))) else (bif (decide (pdepth0 > (40:Int))) then (some (([] : List (Arr 32 Int)), (2:Int))) else (bif (decide (pindex0 < (0:Int))) then (some (([] : List (Arr 32 Int)), (2:Int))) else (ask (decide (0 ≤ pdepth0)) <|
 bif ((shr .i64 pindex0 pdepth0) != (0:Int)) then (some (([] : List (Arr 32 Int)), (2:Int))) else (bif (decide ((pleaves0.length : Int) > (shl .i64 (1:Int) pdepth0))) then (some (([] : List (Arr 32 Int)), (2:Int))) else (ask (decide ((([] : List (Arr 32 Int)).length + pleaves0.length) * 32 ≤ 140737488355328)) <|
 Option.bind (iter (fun ((a0, a1, a2, a3, a4) : (Int × (List (Arr 32 Int)) × (Arr 32 Int) × (List (Arr 32 Int)) × Int)) => f_merkle_Branch_b0 n pdepth0 a0 a1 a2 a3 a4) n (pindex0, (([] : List (Arr 32 Int)) ++ pleaves0), (Arr.rep 32 (0:Int)), ([] : List (Arr 32 Int)), (0:Int))) fun x1 =>
 some (x1, (0:Int)))))))
def f_ref02_Branch_b0 (n : Nat) (pdepth0 : Int) (pindex0 : Int) (pl0 : (List (Arr 32 Int))) (a0 : (List (Arr 32 Int))) (a1 : Int) : Option (((List (Arr 32 Int)) × Int) ⊕ (List (Arr 32 Int))) :=
 bif (decide (a1 < pdepth0)) then (ask (decide (0 ≤ a1)) <|
 bif (decide ((shl .i64 (bits .xor .i64 (shr .i64 pindex0 a1) (1:Int)) a1) > (pl0.length : Int))) then (bif (decide ((wi ((shl .i64 (bits .xor .i64 (shr .i64 pindex0 a1) (1:Int)) a1) + (shl .i64 (1:Int) a1))) > (pl0.length : Int))) then (ask (decide ((pl0.length : Int) ≤ (pl0.length : Int))) <|
 Option.bind (f_ref02_Full n (List.take ((pl0.length : Int).toNat - (pl0.length : Int).toNat) (List.drop ((pl0.length : Int).toNat) pl0)) a1) fun r0 =>
 ask (decide ((a0.length + ([r0] : List (Arr 32 Int)).length) * 32 ≤ 140737488355328)) <|
 some (.inl ((a0 ++ ([r0] : List (Arr 32 Int))), (wi (a1 + (1:Int)))))) else (ask (decide ((pl0.length : Int) ≤ (wi ((shl .i64 (bits .xor .i64 (shr .i64 pindex0 a1) (1:Int)) a1) + (shl .i64 (1:Int) a1))))) <|
 Option.bind (f_ref02_Full n (List.take ((wi ((shl .i64 (bits .xor .i64 (shr .i64 pindex0 a1) (1:Int)) a1) + (shl .i64 (1:Int) a1))).toNat - (pl0.length : Int).toNat) (List.drop ((pl0.length : Int).toNat) pl0)) a1) fun r1 =>
 ask (decide ((a0.length + ([r1] : List (Arr 32 Int)).length) * 32 ≤ 140737488355328)) <|
 some (.inl ((a0 ++ ([r1] : List (Arr 32 Int))), (wi (a1 + (1:Int))))))) else (bif (decide ((wi ((shl .i64 (bits .xor .i64 (shr .i64 pindex0 a1) (1:Int)) a1) + (shl .i64 (1:Int) a1))) > (pl0.length : Int))) then (ask (decide (0 ≤ (shl .i64 (bits .xor .i64 (shr .i64 pindex0 a1) (1:Int)) a1))) <|
 ask (decide ((pl0.length : Int) ≤ (pl0.length : Int))) <|
 Option.bind (f_ref02_Full n (List.take ((pl0.length : Int).toNat - (shl .i64 (bits .xor .i64 (shr .i64 pindex0 a1) (1:Int)) a1).toNat) (List.drop ((shl .i64 (bits .xor .i64 (shr .i64 pindex0 a1) (1:Int)) a1).toNat) pl0)) a1) fun r2 =>
 ask (decide ((a0.length + ([r2] : List (Arr 32 Int)).length) * 32 ≤ 140737488355328)) <|
 some (.inl ((a0 ++ ([r2] : List (Arr 32 Int))), (wi (a1 + (1:Int)))))) else (ask (decide (0 ≤ (shl .i64 (bits .xor .i64 (shr .i64 pindex0 a1) (1:Int)) a1))) <|
 ask (decide ((shl .i64 (bits .xor .i64 (shr .i64 pindex0 a1) (1:Int)) a1) ≤ (wi ((shl .i64 (bits .xor .i64 (shr .i64 pindex0 a1) (1:Int)) a1) + (shl .i64 (1:Int) a1))))) <|
 Option.bind (f_ref02_Full n (List.take ((wi ((shl .i64 (bits .xor .i64 (shr .i64 pindex0 a1) (1:Int)) a1) + (shl .i64 (1:Int) a1))).toNat - (shl .i64 (bits .xor .i64 (shr .i64 pindex0 a1) (1:Int)) a1).toNat) (List.drop ((shl .i64 (bits .xor .i64 (shr .i64 pindex0 a1) (1:Int)) a1).toNat) pl0)) a1) fun r3 =>
 ask (decide ((a0.length + ([r3] : List (Arr 32 Int)).length) * 32 ≤ 140737488355328)) <|
 some (.inl ((a0 ++ ([r3] : List (Arr 32 Int))), (wi (a1 + (1:Int)))))))) else (some (.inr a0))
def f_ref02_Branch (n : Nat) (pl0 : (List (Arr 32 Int))) (pdepth0 : Int) (pindex0 : Int) : Option ((List (Arr 32 Int)) × Bool) :=
 bif (decide (pdepth0 < (0:Int))) then (some (([] : List (Arr 32 Int)), false)) else (bif (decide (pdepth0 > (40:Int))) then (some (([] : List (Arr 32 Int)), false)) else (bif (decide (pindex0 < (0:Int))) then (some (([] : List (Arr 32 Int)), false)) else (ask (decide (0 ≤ pdepth0)) <|
 bif (decide (pindex0 ≥ (shl .i64 (1:Int) pdepth0))) then (some (([] : List (Arr 32 Int)), false)) else (bif (decide ((pl0.length : Int) > (shl .i64 (1:Int) pdepth0))) then (some (([] : List (Arr 32 Int)), false)) else (Option.bind (iter (fun ((a0, a1) : ((List (Arr 32 Int)) × Int)) => f_ref02_Branch_b0 n pdepth0 pindex0 pl0 a0 a1) n (([] : List (Arr 32 Int)), (0:Int))) fun x0 =>
 some (x0, true))))))
def f_merkle_Verify_b0 (n : Nat) (pbranch0 : (List (Arr 32 Int))) (pindex0 : Int) (a0 : (Arr 32 Int)) (a1 : Int) : Option (((Arr 32 Int) × Int) ⊕ (Arr 32 Int)) :=
 bif (decide (a1 < (pbranch0.length : Int))) then (ask (decide (0 ≤ a1)) <|
 Option.bind (pbranch0[a1.toNat]?) fun v0 =>
 bif (decide (a1 < (64:Int))) then (bif ((bits .and .u64 (shr .u64 pindex0 a1) (1:Int)) != (0:Int)) then (Option.bind (f_digest_Pair n v0 a0) fun r0 =>
 some (.inl (r0, (wi (a1 + (1:Int)))))) else (Option.bind (f_digest_Pair n a0 v0) fun r1 =>
 some (.inl (r1, (wi (a1 + (1:Int))))))) else (Option.bind (f_digest_Pair n a0 v0) fun r2 =>
 some (.inl (r2, (wi (a1 + (1:Int))))))) else (some (.inr a0))
def f_merkle_Verify (n : Nat) (pleaf0 : (Arr 32 Int)) (pbranch0 : (List (Arr 32 Int))) (pindex0 : Int) (proot0 : (Arr 32 Int)) : Option Bool :=
 Option.bind (iter (fun ((a0, a1) : ((Arr 32 Int) × Int)) => f_merkle_Verify_b0 n pbranch0 pindex0 a0 a1) n (pleaf0, (0:Int))) fun x0 =>
 some (decide (x0 = proot0))
def f_ref02_Verify_b0 (n : Nat) (pbranch0 : (List (Arr 32 Int))) (a0 : Int) (a1 : (Arr 32 Int)) (a2 : Int) : Option ((Int × (Arr 32 Int) × Int) ⊕ (Arr 32 Int)) :=
 bif (decide (a2 < (pbranch0.length : Int))) then (bif ((a0.tmod (2:Int)) == (1:Int)) then (ask (decide (0 ≤ a2)) <|
 Option.bind (pbranch0[a2.toNat]?) fun v0 =>
 Option.bind (f_ref02_Pair n v0 a1) fun r0 =>
 some (.inl ((w64 (a0.tdiv (2:Int))), r0, (wi (a2 + (1:Int)))))) else (ask (decide (0 ≤ a2)) <|
 Option.bind (pbranch0[a2.toNat]?) fun v1 =>
 Option.bind (f_ref02_Pair n a1 v1) fun r1 =>
 some (.inl ((w64 (a0.tdiv (2:Int))), r1, (wi (a2 + (1:Int))))))) else (some (.inr a1))
def f_ref02_Verify (n : Nat) (pleaf0 : (Arr 32 Int)) (pbranch0 : (List (Arr 32 Int))) (pindex0 : Int) (proot0 : (Arr 32 Int)) : Option Bool :=
 Option.bind (iter (fun ((a0, a1, a2) : (Int × (Arr 32 Int) × Int)) => f_ref02_Verify_b0 n pbranch0 a0 a1 a2) n (pindex0, pleaf0, (0:Int))) fun x0 =>
 some (decide (x0 = proot0))
def f_law03_MerkleBranches_b0 (n : Nat) (r2 : ((List (Arr 32 Int)) × Int)) (r4 : ((List (Arr 32 Int)) × Bool)) (a0 : Int) : Option (Int ⊕ (Bool ⊕ Unit)) :=
 bif (decide (a0 < (r2.1.length : Int))) then (ask (decide (0 ≤ a0)) <|
 ask (decide (a0.toNat < r2.1.length)) <|
 Option.bind (r2.1[a0.toNat]?) fun v0 =>
 ask (decide (a0.toNat < r4.1.length)) <|
 Option.bind (r4.1[a0.toNat]?) fun v1 =>
 bif (!(decide (v0 = v1))) then (some (.inr (.inl false))) else (some (.inl (wi (a0 + (1:Int)))))) else (some (.inr (.inr ())))
def f_law03_MerkleBranches_j0 (n : Nat) (pl0 : (List (Arr 32 Int))) (pplace0 : Int) (proot0 : (Arr 32 Int)) (r2 : ((List (Arr 32 Int)) × Int)) (r4 : ((List (Arr 32 Int)) × Bool)) : Option Bool :=
 Option.bind (iter (fun (a0 : Int) => f_law03_MerkleBranches_b0 n r2 r4 a0) n (0:Int)) fun x0 =>
 Sum.elim (fun r9 => some r9) (fun x1 => Option.bind (f_law03_own n r2.1) fun r5 =>
 Option.bind (f_merkle_Verify n proot0 r5 pplace0 proot0) fun r6 =>
 Option.bind (f_ref02_Verify n proot0 r4.1 pplace0 proot0) fun r7 =>
 bif (r6 == r7) then (Option.bind (f_law03_own n pl0) fun r8 =>
 Option.bind (f_merkle_Verify n proot0 r8 pplace0 proot0) fun r9 =>
 Option.bind (f_law03_plain n pl0) fun r10 =>
 Option.bind (f_ref02_Verify n proot0 r10 pplace0 proot0) fun r11 =>
 some (r9 == r11)) else (some false)) x0
def f_law03_MerkleBranches (n : Nat) (pl0 : (List (Arr 32 Int))) (pdepth0 : Int) (pindex0 : Int) (pplace0 : Int) (proot0 : (Arr 32 Int)) : Option Bool :=
 Option.bind (f_law03_Awake n) fun r0 =>
 bif (!r0) then (some false) else (bif (decide ((pl0.length : Int) > (70:Int))) then (some true) else (Option.bind (f_law03_own n pl0) fun r1 =>
 Option.bind (f_merkle_Branch n r1 pdepth0 pindex0) fun r2 =>
 Option.bind (f_law03_plain n pl0) fun r3 =>
 Option.bind (f_ref02_Branch n r3 pdepth0 pindex0) fun r4 =>
 bif (!((r2.2 == (0:Int)) == r4.2)) then (some false) else (bif (!r4.2) then (bif (r2.2 != (2:Int)) then (some false) else (bif ((r2.1.length : Int) != (r4.1.length : Int)) then (some false) else (f_law03_MerkleBranches_j0 n pl0 pplace0 proot0 r2 r4))) else (bif ((r2.1.length : Int) != (r4.1.length : Int)) then (some false) else (f_law03_MerkleBranches_j0 n pl0 pplace0 proot0 r2 r4)))))
def f_law03_MerkleProves (n : Nat) (pl0 : (List (Arr 32 Int))) (pdepth0 : Int) (pindex0 : Int) (pother0 : (Arr 32 Int)) : Option Bool :=
 Option.bind (f_law03_Awake n) fun r0 =>
 bif (!r0) then (some false) else (ask (decide (0 ≤ (wi ((w64 pdepth0).tmod (7:Int))))) <|
 bif (decide ((pl0.length : Int) > (shl .i64 (1:Int) (wi ((w64 pdepth0).tmod (7:Int)))))) then (some true) else (bif ((pl0.length : Int) == (0:Int)) then (some true) else (ask (decide ((w64 (pl0.length : Int)) ≠ 0)) <|
 Option.bind (f_law03_own n pl0) fun r1 =>
 Option.bind (f_merkle_Tree n r1 (shl .i64 (1:Int) (wi ((w64 pdepth0).tmod (7:Int))))) fun r2 =>
 Option.bind (f_law03_own n pl0) fun r3 =>
 Option.bind (f_merkle_Branch n r3 (wi ((w64 pdepth0).tmod (7:Int))) (wi ((w64 pindex0).tmod (w64 (pl0.length : Int))))) fun r4 =>
 Option.bind (f_law03_own n pl0) fun r5 =>
 ask (decide (0 ≤ (wi ((w64 pindex0).tmod (w64 (pl0.length : Int)))))) <|
 ask (decide ((wi ((w64 pindex0).tmod (w64 (pl0.length : Int)))).toNat < r5.length)) <|
 Option.bind (r5[(wi ((w64 pindex0).tmod (w64 (pl0.length : Int)))).toNat]?) fun v0 =>
 Option.bind (f_law03_own n (List.set r5 ((wi ((w64 pindex0).tmod (w64 (pl0.length : Int)))).toNat) pother0)) fun r6 =>
 Option.bind (f_merkle_Tree n r6 (shl .i64 (1:Int) (wi ((w64 pdepth0).tmod (7:Int))))) fun r7 =>
 bif (r2.2 == (0:Int)) then (bif (r4.2 == (0:Int)) then (bif (r7.2 == (0:Int)) then (bif ((r4.1.length : Int) == (wi ((w64 pdepth0).tmod (7:Int)))) then (Option.bind (pl0[(wi ((w64 pindex0).tmod (w64 (pl0.length : Int)))).toNat]?) fun v1 =>
 Option.bind (f_merkle_Verify n v1 r4.1 (w64 (wi ((w64 pindex0).tmod (w64 (pl0.length : Int))))) r2.1) fun r8 =>
 bif r8 then (Option.bind (f_merkle_Verify n pother0 r4.1 (w64 (wi ((w64 pindex0).tmod (w64 (pl0.length : Int))))) r7.1) fun r9 =>
 bif r9 then (Option.bind (f_merkle_Verify n pother0 r4.1 (w64 (wi ((w64 pindex0).tmod (w64 (pl0.length : Int))))) r2.1) fun r10 =>
 some ((decide (r2.1 = r7.1)) == r10)) else (some false)) else (some false)) else (some false)) else (some false)) else (some false)) else (some false))))
end Go.Mg
