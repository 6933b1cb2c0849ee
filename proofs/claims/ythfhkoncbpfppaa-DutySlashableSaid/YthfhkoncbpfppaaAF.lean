/- What the functions compute, as plain functions. -/
import Derived.Test.YthfhkoncbpfppaaAT
namespace Go.Mg
open Go Go.Proofs
def glob : Nat → Option T := fun _ => none
def str_0 : ByteArray := ⟨#[0, 1, 2, 2, 3, 3, 3, 3, 4, 4, 4, 4, 4, 4, 4, 4, 5, 5, 5, 5, 5, 5, 5, 5, 5, 5, 5, 5, 5, 5, 5, 5, 6, 6, 6, 6, 6, 6, 6, 6, 6, 6, 6, 6, 6, 6, 6, 6, 6, 6, 6, 6, 6, 6, 6, 6, 6, 6, 6, 6, 6, 6, 6, 6, 7, 7, 7, 7, 7, 7, 7, 7, 7, 7, 7, 7, 7, 7, 7, 7, 7, 7, 7, 7, 7, 7, 7, 7, 7, 7, 7, 7, 7, 7, 7, 7, 7, 7, 7, 7, 7, 7, 7, 7, 7, 7, 7, 7, 7, 7, 7, 7, 7, 7, 7, 7, 7, 7, 7, 7, 7, 7, 7, 7, 7, 7, 7, 7, 8, 8, 8, 8, 8, 8, 8, 8, 8, 8, 8, 8, 8, 8, 8, 8, 8, 8, 8, 8, 8, 8, 8, 8, 8, 8, 8, 8, 8, 8, 8, 8, 8, 8, 8, 8, 8, 8, 8, 8, 8, 8, 8, 8, 8, 8, 8, 8, 8, 8, 8, 8, 8, 8, 8, 8, 8, 8, 8, 8, 8, 8, 8, 8, 8, 8, 8, 8, 8, 8, 8, 8, 8, 8, 8, 8, 8, 8, 8, 8, 8, 8, 8, 8, 8, 8, 8, 8, 8, 8, 8, 8, 8, 8, 8, 8, 8, 8, 8, 8, 8, 8, 8, 8, 8, 8, 8, 8, 8, 8, 8, 8, 8, 8, 8, 8, 8, 8, 8, 8, 8, 8, 8, 8, 8, 8, 8, 8]⟩
def f_duty_Slashable (n : Nat) (pa0 : GVote) (pb0 : GVote) : Option Bool :=
 bif (!(decide (pa0 = pb0))) then (bif (pa0.Target.Epoch == pb0.Target.Epoch) then (some true) else (bif (decide (pa0.Source.Epoch < pb0.Source.Epoch)) then (some (decide (pb0.Target.Epoch < pa0.Target.Epoch))) else (some false))) else (bif (decide (pa0.Source.Epoch < pb0.Source.Epoch)) then (some (decide (pb0.Target.Epoch < pa0.Target.Epoch))) else (some false))
def f_duty_Epoch (n : Nat) (pslot0 : Int) : Option Int :=
 some (w64 (pslot0.tdiv (4:Int)))
def f_duty_Total_b0 (n : Nat) (ps0 : GState) (psome0 : (List Int)) (a0 : Int) (a1 : Int) : Option ((Int × Int) ⊕ Int) :=
 bif (decide (a1 < (psome0.length : Int))) then (ask (decide (0 ≤ a1)) <|
 Option.bind (psome0[a1.toNat]?) fun v0 =>
 bif (decide (v0 < (w64 (ps0.Validators.length : Int)))) then (ask (decide (0 ≤ v0)) <|
 Option.bind (ps0.Validators[v0.toNat]?) fun v1 =>
 some (.inl ((w64 (a0 + v1.Effective)), (wi (a1 + (1:Int)))))) else (some (.inl (a0, (wi (a1 + (1:Int))))))) else (some (.inr a0))
def f_duty_Total (n : Nat) (ps0 : GState) (psome0 : (List Int)) : Option Int :=
 Option.bind (iter (fun ((a0, a1) : (Int × Int)) => f_duty_Total_b0 n ps0 psome0 a0 a1) n ((0:Int), (0:Int))) fun x0 =>
 some (gmax x0 (1000:Int))
def f_law09_Awake (n : Nat) : Option Bool :=
 Option.bind (f_duty_Slashable n (GVote.mk (0:Int) (0:Int) (Arr.rep 32 (0:Int)) (GCheckpoint.mk (1:Int) (Arr.rep 32 (0:Int))) (GCheckpoint.mk (4:Int) (Arr.rep 32 (0:Int)))) (GVote.mk (0:Int) (0:Int) (Arr.rep 32 (0:Int)) (GCheckpoint.mk (2:Int) (Arr.rep 32 (0:Int))) (GCheckpoint.mk (3:Int) (Arr.rep 32 (0:Int))))) fun r0 =>
 bif r0 then (Option.bind (f_duty_Slashable n (GVote.mk (0:Int) (0:Int) (Arr.rep 32 (0:Int)) (GCheckpoint.mk (2:Int) (Arr.rep 32 (0:Int))) (GCheckpoint.mk (3:Int) (Arr.rep 32 (0:Int)))) (GVote.mk (0:Int) (0:Int) (Arr.rep 32 (0:Int)) (GCheckpoint.mk (1:Int) (Arr.rep 32 (0:Int))) (GCheckpoint.mk (4:Int) (Arr.rep 32 (0:Int))))) fun r1 =>
 bif (!r1) then (Option.bind (f_duty_Total n (GState.mk (0:Int) (GHeader.mk (0:Int) (0:Int) (Arr.rep 32 (0:Int)) (Arr.rep 32 (0:Int)) (Arr.rep 32 (0:Int))) (Arr.rep 16 (Arr.rep 32 (0:Int))) (Arr.rep 16 (Arr.rep 32 (0:Int))) (GEth.mk (Arr.rep 32 (0:Int)) (0:Int)) [] (0:Int) [] [] (Arr.rep 8 (Arr.rep 32 (0:Int))) (Arr.rep 8 (0:Int)) [] [] (Arr.rep 4 false) (GCheckpoint.mk (0:Int) (Arr.rep 32 (0:Int))) (GCheckpoint.mk (0:Int) (Arr.rep 32 (0:Int))) (GCheckpoint.mk (0:Int) (Arr.rep 32 (0:Int)))) []) fun r2 =>
 bif (r2 == (1000:Int)) then (Option.bind (f_duty_Epoch n (7:Int)) fun r3 =>
 some (r3 == (1:Int))) else (some false)) else (some false)) else (some false)
def f_ref07_Slashable (n : Nat) (pa0 : GVote) (pb0 : GVote) : Option Bool :=
 bif (!(decide (pa0 = pb0))) then (bif (pa0.Target.Epoch == pb0.Target.Epoch) then (some true) else (bif (decide (pa0.Source.Epoch < pb0.Source.Epoch)) then (some (decide (pa0.Target.Epoch > pb0.Target.Epoch))) else (some false))) else (bif (decide (pa0.Source.Epoch < pb0.Source.Epoch)) then (some (decide (pa0.Target.Epoch > pb0.Target.Epoch))) else (some false))
def f_law09_DutySlashable (n : Nat) (pa0 : GVote) (pb0 : GVote) : Option Bool :=
 Option.bind (f_law09_Awake n) fun r0 =>
 bif (!r0) then (some false) else (Option.bind (f_duty_Slashable n pa0 pb0) fun r1 =>
 Option.bind (f_ref07_Slashable n pa0 pb0) fun r2 =>
 bif (!(r1 == r2)) then (some false) else (Option.bind (f_duty_Slashable n pb0 pa0) fun r3 =>
 Option.bind (f_ref07_Slashable n pb0 pa0) fun r4 =>
 bif (!(r3 == r4)) then (some false) else (Option.bind (f_duty_Slashable n pa0 pa0) fun r5 =>
 bif r5 then (some false) else (bif (pa0.Target.Epoch != pb0.Target.Epoch) then (some true) else (bif (r1 == (!(decide (pa0 = pb0)))) then (some (r3 == (!(decide (pa0 = pb0))))) else (some false))))))
def f_duty_Start (n : Nat) (pepoch0 : Int) : Option Int :=
 some (w64 (pepoch0 * (4:Int)))
def f_duty_Now (n : Nat) (ps0 : GState) : Option Int :=
 Option.bind (f_duty_Epoch n ps0.Slot) fun r0 =>
 some r0
def f_num_Less (n : Nat) (pa0 : Int) (pb0 : Int) : Option Int :=
 bif (decide (pb0 > pa0)) then (some (0:Int)) else (some (w64 (pa0 - pb0)))
def f_duty_Before (n : Nat) (ps0 : GState) : Option Int :=
 Option.bind (f_duty_Now n ps0) fun r0 =>
 Option.bind (f_num_Less n r0 (1:Int)) fun r1 =>
 some r1
def f_ref01_Less (n : Nat) (pa0 : Int) (pb0 : Int) : Option Int :=
 bif (decide (pa0 < pb0)) then (some (0:Int)) else (some (w64 (pa0 - pb0)))
def f_duty_IsActive (n : Nat) (pv0 : GValidator) (pepoch0 : Int) : Option Bool :=
 bif (decide (pv0.Active ≤ pepoch0)) then (some (decide (pepoch0 < pv0.Exit))) else (some false)
def f_ref07_IsActive (n : Nat) (pv0 : GValidator) (pepoch0 : Int) : Option Bool :=
 bif (decide (pv0.Active ≤ pepoch0)) then (some (decide (pv0.Exit > pepoch0))) else (some false)
def f_law09_DutyTimes (n : Nat) (pslot0 : Int) (pepoch0 : Int) (pv0 : GValidator) : Option Bool :=
 Option.bind (f_law09_Awake n) fun r0 =>
 bif (!r0) then (some false) else (Option.bind (f_duty_Epoch n pslot0) fun r1 =>
 bif (r1 == (w64 (pslot0.tdiv (4:Int)))) then (Option.bind (f_duty_Start n pepoch0) fun r2 =>
 bif (r2 == (w64 ((4:Int) * pepoch0))) then (Option.bind (f_duty_Now n (GState.mk pslot0 (GHeader.mk (0:Int) (0:Int) (Arr.rep 32 (0:Int)) (Arr.rep 32 (0:Int)) (Arr.rep 32 (0:Int))) (Arr.rep 16 (Arr.rep 32 (0:Int))) (Arr.rep 16 (Arr.rep 32 (0:Int))) (GEth.mk (Arr.rep 32 (0:Int)) (0:Int)) [] (0:Int) [] [] (Arr.rep 8 (Arr.rep 32 (0:Int))) (Arr.rep 8 (0:Int)) [] [] (Arr.rep 4 false) (GCheckpoint.mk (0:Int) (Arr.rep 32 (0:Int))) (GCheckpoint.mk (0:Int) (Arr.rep 32 (0:Int))) (GCheckpoint.mk (0:Int) (Arr.rep 32 (0:Int))))) fun r3 =>
 bif (r3 == (w64 (pslot0.tdiv (4:Int)))) then (Option.bind (f_duty_Before n (GState.mk pslot0 (GHeader.mk (0:Int) (0:Int) (Arr.rep 32 (0:Int)) (Arr.rep 32 (0:Int)) (Arr.rep 32 (0:Int))) (Arr.rep 16 (Arr.rep 32 (0:Int))) (Arr.rep 16 (Arr.rep 32 (0:Int))) (GEth.mk (Arr.rep 32 (0:Int)) (0:Int)) [] (0:Int) [] [] (Arr.rep 8 (Arr.rep 32 (0:Int))) (Arr.rep 8 (0:Int)) [] [] (Arr.rep 4 false) (GCheckpoint.mk (0:Int) (Arr.rep 32 (0:Int))) (GCheckpoint.mk (0:Int) (Arr.rep 32 (0:Int))) (GCheckpoint.mk (0:Int) (Arr.rep 32 (0:Int))))) fun r4 =>
 Option.bind (f_ref01_Less n (w64 (pslot0.tdiv (4:Int))) (1:Int)) fun r5 =>
 bif (r4 == r5) then (Option.bind (f_duty_IsActive n pv0 pepoch0) fun r6 =>
 Option.bind (f_ref07_IsActive n pv0 pepoch0) fun r7 =>
 some (r6 == r7)) else (some false)) else (some false)) else (some false)) else (some false))
def f_num_Put_b0 (n : Nat) (pn0 : Int) (psize0 : Int) (a0 : (List Int)) (a1 : Int) : Option (((List Int) × Int) ⊕ (List Int)) :=
 bif (decide (a1 < (gmax psize0 (0:Int)))) then (bif (decide (a1 < (8:Int))) then (ask (decide (0 ≤ (wi ((8:Int) * a1)))) <|
 ask (decide ((a0.length + ([(w8 (shr .u64 pn0 (wi ((8:Int) * a1))))] : List Int).length) * 1 ≤ 140737488355328)) <|
 some (.inl ((a0 ++ ([(w8 (shr .u64 pn0 (wi ((8:Int) * a1))))] : List Int)), (wi (a1 + (1:Int)))))) else (ask (decide ((a0.length + ([(0:Int)] : List Int).length) * 1 ≤ 140737488355328)) <|
 some (.inl ((a0 ++ ([(0:Int)] : List Int)), (wi (a1 + (1:Int))))))) else (some (.inr a0))
def f_num_Put (n : Nat) (pn0 : Int) (psize0 : Int) : Option (List Int) :=
 Option.bind (iter (fun ((a0, a1) : ((List Int) × Int)) => f_num_Put_b0 n pn0 psize0 a0 a1) n (([] : List Int), (0:Int))) fun x0 =>
 some x0
def f_num_Take_b0 (n : Nat) (pb0 : (List Int)) (a0 : Int) (a1 : Int) : Option ((Int × Int) ⊕ Int) :=
 bif (decide (a1 < ((List.take ((gmin (pb0.length : Int) (8:Int)).toNat) pb0).length : Int))) then (ask (decide (0 ≤ a1)) <|
 Option.bind ((List.take ((gmin (pb0.length : Int) (8:Int)).toNat) pb0)[a1.toNat]?) fun v0 =>
 ask (decide (0 ≤ (wi ((8:Int) * a1)))) <|
 some (.inl ((bits .or .u64 a0 (shl .u64 (w64 v0) (wi ((8:Int) * a1)))), (wi (a1 + (1:Int)))))) else (some (.inr a0))
def f_num_Take (n : Nat) (pb0 : (List Int)) : Option Int :=
 ask (decide (0 ≤ (gmin (pb0.length : Int) (8:Int)))) <|
 ask (decide ((gmin (pb0.length : Int) (8:Int)) ≤ (pb0.length : Int))) <|
 Option.bind (iter (fun ((a0, a1) : (Int × Int)) => f_num_Take_b0 n pb0 a0 a1) n ((0:Int), (0:Int))) fun x0 =>
 some x0
def f_bits_Len64 (n : Nat) (px0 : Int) : Option Int :=
 bif (decide (px0 ≥ (4294967296:Int))) then (bif (decide ((shr .u64 px0 (32:Int)) ≥ (65536:Int))) then (bif (decide ((shr .u64 (shr .u64 px0 (32:Int)) (16:Int)) ≥ (256:Int))) then (ask (decide (0 ≤ (w8 (shr .u64 (shr .u64 (shr .u64 px0 (32:Int)) (16:Int)) (8:Int))))) <|
 Option.bind ((strAt str_0 ((w8 (shr .u64 (shr .u64 (shr .u64 px0 (32:Int)) (16:Int)) (8:Int))).toNat))) fun v0 =>
 some (wi ((wi ((wi ((32:Int) + (16:Int))) + (8:Int))) + (wi v0)))) else (ask (decide (0 ≤ (w8 (shr .u64 (shr .u64 px0 (32:Int)) (16:Int))))) <|
 Option.bind ((strAt str_0 ((w8 (shr .u64 (shr .u64 px0 (32:Int)) (16:Int))).toNat))) fun v1 =>
 some (wi ((wi ((32:Int) + (16:Int))) + (wi v1))))) else (bif (decide ((shr .u64 px0 (32:Int)) ≥ (256:Int))) then (ask (decide (0 ≤ (w8 (shr .u64 (shr .u64 px0 (32:Int)) (8:Int))))) <|
 Option.bind ((strAt str_0 ((w8 (shr .u64 (shr .u64 px0 (32:Int)) (8:Int))).toNat))) fun v2 =>
 some (wi ((wi ((32:Int) + (8:Int))) + (wi v2)))) else (ask (decide (0 ≤ (w8 (shr .u64 px0 (32:Int))))) <|
 Option.bind ((strAt str_0 ((w8 (shr .u64 px0 (32:Int))).toNat))) fun v3 =>
 some (wi ((32:Int) + (wi v3)))))) else (bif (decide (px0 ≥ (65536:Int))) then (bif (decide ((shr .u64 px0 (16:Int)) ≥ (256:Int))) then (ask (decide (0 ≤ (w8 (shr .u64 (shr .u64 px0 (16:Int)) (8:Int))))) <|
 Option.bind ((strAt str_0 ((w8 (shr .u64 (shr .u64 px0 (16:Int)) (8:Int))).toNat))) fun v4 =>
 some (wi ((wi ((wi ((0:Int) + (16:Int))) + (8:Int))) + (wi v4)))) else (ask (decide (0 ≤ (w8 (shr .u64 px0 (16:Int))))) <|
 Option.bind ((strAt str_0 ((w8 (shr .u64 px0 (16:Int))).toNat))) fun v5 =>
 some (wi ((wi ((0:Int) + (16:Int))) + (wi v5))))) else (bif (decide (px0 ≥ (256:Int))) then (ask (decide (0 ≤ (w8 (shr .u64 px0 (8:Int))))) <|
 Option.bind ((strAt str_0 ((w8 (shr .u64 px0 (8:Int))).toNat))) fun v6 =>
 some (wi ((wi ((0:Int) + (8:Int))) + (wi v6)))) else (ask (decide (0 ≤ (w8 px0))) <|
 Option.bind ((strAt str_0 ((w8 px0).toNat))) fun v7 =>
 some (wi ((0:Int) + (wi v7))))))
def f_num_Root_b0 (n : Nat) (pn0 : Int) (a0 : Int) : Option (Int ⊕ (Int ⊕ Empty)) :=
 ask (decide (a0 ≠ 0)) <|
 bif (decide ((w64 ((w64 (a0 + (w64 (pn0.tdiv a0)))).tdiv (2:Int))) ≥ a0)) then (some (.inr (.inl a0))) else (some (.inl (w64 ((w64 (a0 + (w64 (pn0.tdiv a0)))).tdiv (2:Int)))))
def f_num_Root (n : Nat) (pn0 : Int) : Option Int :=
 bif (decide (pn0 < (2:Int))) then (some pn0) else (Option.bind (f_bits_Len64 n pn0) fun r0 =>
 ask (decide (0 ≤ (wi ((wi (r0 + (1:Int))).tdiv (2:Int))))) <|
 Option.bind (iter (fun (a0 : Int) => f_num_Root_b0 n pn0 a0) n (shl .u64 (1:Int) (wi ((wi (r0 + (1:Int))).tdiv (2:Int))))) fun x0 =>
 Sum.elim (fun r9 => some r9) (fun x1 => Empty.elim x1) x0)
def f_num_Add (n : Nat) (pa0 : Int) (pb0 : Int) : Option (Int × Bool) :=
 Option.bind (f_bits_Add64 n pa0 pb0 (0:Int)) fun r0 =>
 bif (r0.2 != (0:Int)) then (some ((0:Int), false)) else (some (r0.1, true))
def f_law01_Awake (n : Nat) : Option Bool :=
 Option.bind (f_num_Add n (18446744073709551615:Int) (1:Int)) fun r0 =>
 bif (!r0.2) then (Option.bind (f_num_Less n (3:Int) (5:Int)) fun r1 =>
 bif (r1 == (0:Int)) then (Option.bind (f_num_Root n (15:Int)) fun r2 =>
 bif (r2 == (3:Int)) then (Option.bind (f_num_Root n (16:Int)) fun r3 =>
 bif (r3 == (4:Int)) then (Option.bind (f_num_Root n (18446744073709551615:Int)) fun r4 =>
 bif (r4 == (4294967295:Int)) then (Option.bind (f_num_Put n (258:Int) (3:Int)) fun r5 =>
 bif ((strOf r5).toList == (⟨#[2, 1, 0]⟩ : ByteArray).toList) then (Option.bind (f_num_Take n ([(2:Int), (1:Int)] : List Int)) fun r6 =>
 some (r6 == (258:Int))) else (some false)) else (some false)) else (some false)) else (some false)) else (some false)) else (some false)
def f_ref01_Put_b0 (n : Nat) (psize0 : Int) (a0 : Int) (a1 : (List Int)) (a2 : Int) : Option ((Int × (List Int) × Int) ⊕ (List Int)) :=
 bif (decide (a2 < psize0)) then (ask (decide ((a1.length + ([(w8 (a0.tmod (256:Int)))] : List Int).length) * 1 ≤ 140737488355328)) <|
 some (.inl ((w64 (a0.tdiv (256:Int))), (a1 ++ ([(w8 (a0.tmod (256:Int)))] : List Int)), (wi (a2 + (1:Int)))))) else (some (.inr a1))
def f_ref01_Put (n : Nat) (pn0 : Int) (psize0 : Int) : Option (List Int) :=
 Option.bind (iter (fun ((a0, a1, a2) : (Int × (List Int) × Int)) => f_ref01_Put_b0 n psize0 a0 a1 a2) n (pn0, ([] : List Int), (0:Int))) fun x0 =>
 some x0
def f_ref01_Take_b0 (n : Nat) (pb0 : (List Int)) (a0 : Int) (a1 : Int) : Option ((Int × Int) ⊕ Int) :=
 bif (decide (a1 ≥ (0:Int))) then (bif (decide (a1 < (8:Int))) then (ask (decide (0 ≤ a1)) <|
 Option.bind (pb0[a1.toNat]?) fun v0 =>
 some (.inl ((w64 ((w64 (a0 * (256:Int))) + (w64 v0))), (wi (a1 - (1:Int)))))) else (some (.inl (a0, (wi (a1 - (1:Int))))))) else (some (.inr a0))
def f_ref01_Take (n : Nat) (pb0 : (List Int)) : Option Int :=
 Option.bind (iter (fun ((a0, a1) : (Int × Int)) => f_ref01_Take_b0 n pb0 a0 a1) n ((0:Int), (wi ((pb0.length : Int) - (1:Int))))) fun x0 =>
 some x0
def f_law01_NumBytes (n : Nat) (pn0 : Int) (psize0 : Int) (pb0 : (List Int)) : Option Bool :=
 Option.bind (f_law01_Awake n) fun r0 =>
 bif (!r0) then (some false) else (bif (decide ((pb0.length : Int) > (1000:Int))) then (some true) else (Option.bind (f_num_Put n pn0 (psize0.tmod (40:Int))) fun r1 =>
 Option.bind (f_ref01_Put n pn0 (psize0.tmod (40:Int))) fun r2 =>
 bif ((strOf r1).toList == (strOf r2).toList) then (ask (decide ((([] : List Int).length + pb0.length) * 1 ≤ 140737488355328)) <|
 Option.bind (f_num_Take n (([] : List Int) ++ pb0)) fun r3 =>
 Option.bind (f_ref01_Take n pb0) fun r4 =>
 bif (r3 == r4) then (Option.bind (f_num_Put n pn0 (8:Int)) fun r5 =>
 Option.bind (f_num_Take n r5) fun r6 =>
 some (r6 == pn0)) else (some false)) else (some false)))
def f_bits_Mul64 (n : Nat) (px0 : Int) (py0 : Int) : Option (Int × Int) :=
 some ((w64 ((w64 ((w64 ((shr .u64 px0 (32:Int)) * (shr .u64 py0 (32:Int)))) + (shr .u64 (w64 ((w64 ((shr .u64 px0 (32:Int)) * (bits .and .u64 py0 (4294967295:Int)))) + (shr .u64 (w64 ((bits .and .u64 px0 (4294967295:Int)) * (bits .and .u64 py0 (4294967295:Int)))) (32:Int)))) (32:Int)))) + (shr .u64 (w64 ((bits .and .u64 (w64 ((w64 ((shr .u64 px0 (32:Int)) * (bits .and .u64 py0 (4294967295:Int)))) + (shr .u64 (w64 ((bits .and .u64 px0 (4294967295:Int)) * (bits .and .u64 py0 (4294967295:Int)))) (32:Int)))) (4294967295:Int)) + (w64 ((bits .and .u64 px0 (4294967295:Int)) * (shr .u64 py0 (32:Int)))))) (32:Int)))), (w64 (px0 * py0)))
def f_ref01_Root_b0 (n : Nat) (pn0 : Int) (a0 : Int) (a1 : Int) : Option ((Int × Int) ⊕ Int) :=
 bif (decide (a1 ≥ (0:Int))) then (ask (decide (0 ≤ a1)) <|
 bif (decide ((w64 ((bits .or .u64 a0 (shl .u64 (1:Int) a1)) * (bits .or .u64 a0 (shl .u64 (1:Int) a1)))) ≤ pn0)) then (some (.inl ((bits .or .u64 a0 (shl .u64 (1:Int) a1)), (wi (a1 - (1:Int)))))) else (some (.inl (a0, (wi (a1 - (1:Int))))))) else (some (.inr a0))
def f_ref01_Root (n : Nat) (pn0 : Int) : Option Int :=
 Option.bind (iter (fun ((a0, a1) : (Int × Int)) => f_ref01_Root_b0 n pn0 a0 a1) n ((0:Int), (31:Int))) fun x0 =>
 some x0
def f_law01_NumRoots (n : Nat) (pn0 : Int) : Option Bool :=
 Option.bind (f_law01_Awake n) fun r0 =>
 bif (!r0) then (some false) else (Option.bind (f_num_Root n pn0) fun r1 =>
 Option.bind (f_bits_Mul64 n r1 r1) fun r2 =>
 Option.bind (f_bits_Mul64 n (w64 (r1 + (1:Int))) (w64 (r1 + (1:Int)))) fun r3 =>
 Option.bind (f_ref01_Root n pn0) fun r4 =>
 bif (r1 == r4) then (bif (r2.1 == (0:Int)) then (bif (decide (r2.2 ≤ pn0)) then (bif (decide (r3.1 > (0:Int))) then (some true) else (some (decide (r3.2 > pn0)))) else (some false)) else (some false)) else (some false))
def f_ref01_Add (n : Nat) (pa0 : Int) (pb0 : Int) : Option (Int × Bool) :=
 bif (decide (pa0 > (w64 ((18446744073709551615:Int) - pb0)))) then (some ((0:Int), false)) else (some ((w64 (pa0 + pb0)), true))
def f_num_Mul (n : Nat) (pa0 : Int) (pb0 : Int) : Option (Int × Bool) :=
 Option.bind (f_bits_Mul64 n pa0 pb0) fun r0 =>
 bif (r0.1 != (0:Int)) then (some ((0:Int), false)) else (some (r0.2, true))
def f_ref01_Mul (n : Nat) (pa0 : Int) (pb0 : Int) : Option (Int × Bool) :=
 bif (pa0 != (0:Int)) then (ask (decide (pa0 ≠ 0)) <|
 bif (decide (pb0 > (w64 ((18446744073709551615:Int).tdiv pa0)))) then (some ((0:Int), false)) else (some ((w64 (pa0 * pb0)), true))) else (some ((w64 (pa0 * pb0)), true))
def f_num_Sub (n : Nat) (pa0 : Int) (pb0 : Int) : Option (Int × Bool) :=
 bif (decide (pb0 > pa0)) then (some ((0:Int), false)) else (some ((w64 (pa0 - pb0)), true))
def f_num_Div (n : Nat) (pa0 : Int) (pb0 : Int) : Option (Int × Bool) :=
 bif (pb0 == (0:Int)) then (some ((0:Int), false)) else (some ((w64 (pa0.tdiv pb0)), true))
def f_num_Most (n : Nat) (pa0 : Int) (pb0 : Int) : Option Int :=
 Option.bind (f_num_Add n pa0 pb0) fun r0 =>
 bif (!r0.2) then (some (18446744073709551615:Int)) else (some r0.1)
def f_law01_NumSums_j1 (n : Nat) (a0 : Int) (po0 : Int) (pt0 : Int) : Option Bool :=
 Option.bind (f_num_Less n pt0 po0) fun r8 =>
 Option.bind (f_ref01_Less n pt0 po0) fun r9 =>
 bif (r8 == r9) then (Option.bind (f_num_Most n pt0 po0) fun r10 =>
 some (r10 == a0)) else (some false)
def f_law01_NumSums_j0 (n : Nat) (po0 : Int) (pt0 : Int) (r1 : (Int × Bool)) (r2 : (Int × Bool)) (r3 : (Int × Bool)) (r4 : (Int × Bool)) (r5 : (Int × Bool)) (r6 : (Int × Bool)) (a0 : Int) : Option Bool :=
 bif (r1.1 != r2.1) then (some false) else (bif (!(r1.2 == r2.2)) then (some false) else (bif (r3.1 != r4.1) then (some false) else (bif (!(r3.2 == r4.2)) then (some false) else (bif (!(r5.2 == (decide (pt0 ≥ po0)))) then (some false) else (Option.bind (f_ref01_Less n pt0 po0) fun r7 =>
 bif (r5.1 != r7) then (some false) else (bif (!(r6.2 == (po0 != (0:Int)))) then (some false) else (bif (po0 == (0:Int)) then (bif (r6.1 != (0:Int)) then (some false) else (bif (po0 != (0:Int)) then (ask (decide (po0 ≠ 0)) <|
 bif (r6.1 != (w64 (pt0.tdiv po0))) then (some false) else (f_law01_NumSums_j1 n a0 po0 pt0)) else (f_law01_NumSums_j1 n a0 po0 pt0))) else (bif (po0 != (0:Int)) then (ask (decide (po0 ≠ 0)) <|
 bif (r6.1 != (w64 (pt0.tdiv po0))) then (some false) else (f_law01_NumSums_j1 n a0 po0 pt0)) else (f_law01_NumSums_j1 n a0 po0 pt0)))))))))
def f_law01_NumSums (n : Nat) (pt0 : Int) (po0 : Int) : Option Bool :=
 Option.bind (f_law01_Awake n) fun r0 =>
 bif (!r0) then (some false) else (Option.bind (f_num_Add n pt0 po0) fun r1 =>
 Option.bind (f_ref01_Add n pt0 po0) fun r2 =>
 Option.bind (f_num_Mul n pt0 po0) fun r3 =>
 Option.bind (f_ref01_Mul n pt0 po0) fun r4 =>
 Option.bind (f_num_Sub n pt0 po0) fun r5 =>
 Option.bind (f_num_Div n pt0 po0) fun r6 =>
 bif (!r2.2) then (f_law01_NumSums_j0 n po0 pt0 r1 r2 r3 r4 r5 r6 (18446744073709551615:Int)) else (f_law01_NumSums_j0 n po0 pt0 r1 r2 r3 r4 r5 r6 r2.1))
def f_law01_NumBack_j1 (n : Nat) (pa0 : Int) (pb0 : Int) : Option Bool :=
 Option.bind (f_num_Most n pa0 pb0) fun r6 =>
 bif (decide (r6 ≥ (gmax pa0 pb0))) then (Option.bind (f_num_Less n pa0 pb0) fun r7 =>
 some (decide (r7 ≤ pa0))) else (some false)
def f_law01_NumBack_j0 (n : Nat) (pa0 : Int) (pb0 : Int) : Option Bool :=
 Option.bind (f_num_Mul n pa0 pb0) fun r4 =>
 bif r4.2 then (bif (pb0 != (0:Int)) then (Option.bind (f_num_Div n r4.1 pb0) fun r5 =>
 bif (!r5.2) then (some false) else (bif (r5.1 != pa0) then (some false) else (f_law01_NumBack_j1 n pa0 pb0))) else (f_law01_NumBack_j1 n pa0 pb0)) else (f_law01_NumBack_j1 n pa0 pb0)
def f_law01_NumBack (n : Nat) (pa0 : Int) (pb0 : Int) : Option Bool :=
 Option.bind (f_law01_Awake n) fun r0 =>
 bif (!r0) then (some false) else (Option.bind (f_num_Add n pa0 pb0) fun r1 =>
 bif r1.2 then (Option.bind (f_num_Sub n r1.1 pb0) fun r2 =>
 bif (!r2.2) then (some false) else (bif (r2.1 != pa0) then (some false) else (f_law01_NumBack_j0 n pa0 pb0))) else (Option.bind (f_num_Sub n (18446744073709551615:Int) pa0) fun r3 =>
 bif (!r3.2) then (some false) else (bif (decide (r3.1 ≥ pb0)) then (some false) else (f_law01_NumBack_j0 n pa0 pb0))))
end Go.Mg
