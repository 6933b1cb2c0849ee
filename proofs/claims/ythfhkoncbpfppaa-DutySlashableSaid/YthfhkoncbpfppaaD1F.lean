/- What the functions compute, as plain functions. -/
import Derived.Test.YthfhkoncbpfppaaD1T
namespace Go.Mg
open Go Go.Proofs
set_option linter.unusedVariables false
def glob : Nat → Option T := fun _ => none
def f_duty_Slashable (n : Nat) (pa0 : GVote) (pb0 : GVote) : Option Bool :=
 bif (!(decide (pa0 = pb0))) then (bif (pa0.Target.Epoch == pb0.Target.Epoch) then (some true) else (bif (decide (pa0.Source.Epoch < pb0.Source.Epoch)) then (some (decide (pb0.Target.Epoch < pa0.Target.Epoch))) else (some false))) else (bif (decide (pa0.Source.Epoch < pb0.Source.Epoch)) then (some (decide (pb0.Target.Epoch < pa0.Target.Epoch))) else (some false))
def f_duty_Epoch (n : Nat) (pslot0 : Int) : Option Int :=
 some (w64 (pslot0.tdiv (4:Int)))
def f_duty_Total_b0 (n : Nat) (ps0 : GState) (psome0 : (List Int)) (a0 : Int) (a1 : Int) : Option ((Int × Int) ⊕ Int) :=
 bif (decide (a1 < (psome0.length : Int))) then (ask (decide (0 ≤ a1)) <|
 Option.bind (psome0[a1.toNat]?) fun v0 =>
 bif (decide (v0 < (w64 (ps0.Validators.length : Int)))) then (ask (decide (0 ≤ v0)) <|
 Option.bind (ps0.Validators[v0.toNat]?) fun v1 =>
 some (.inl ((w64 (a0 + v1.Effective)), (wi (a1 + (1:Int)))))) else (some (.inl (a0, (wi (a1 + (1:Int))))))) else (some (.inr a0))
def f_duty_Total (n : Nat) (ps0 : GState) (psome0 : (List Int)) : Option Int :=
 Option.bind (iter (fun ((a0, a1) : (Int × Int)) => f_duty_Total_b0 n ps0 psome0 a0 a1) n ((0:Int), (0:Int))) fun x0 =>
 some (gmax x0 (1000:Int))
def f_law09_Awake (n : Nat) : Option Bool :=
 Option.bind (f_duty_Slashable n (GVote.mk (0:Int) (0:Int) (Arr.rep 32 (0:Int)) (GCheckpoint.mk (1:Int) (Arr.rep 32 (0:Int))) (GCheckpoint.mk (4:Int) (Arr.rep 32 (0:Int)))) (GVote.mk (0:Int) (0:Int) (Arr.rep 32 (0:Int)) (GCheckpoint.mk (2:Int) (Arr.rep 32 (0:Int))) (GCheckpoint.mk (3:Int) (Arr.rep 32 (0:Int))))) fun r0 =>
 bif r0 then (Option.bind (f_duty_Slashable n (GVote.mk (0:Int) (0:Int) (Arr.rep 32 (0:Int)) (GCheckpoint.mk (2:Int) (Arr.rep 32 (0:Int))) (GCheckpoint.mk (3:Int) (Arr.rep 32 (0:Int)))) (GVote.mk (0:Int) (0:Int) (Arr.rep 32 (0:Int)) (GCheckpoint.mk (1:Int) (Arr.rep 32 (0:Int))) (GCheckpoint.mk (4:Int) (Arr.rep 32 (0:Int))))) fun r1 =>
 bif (!r1) then (Option.bind (f_duty_Total n (GState.mk (0:Int) (GHeader.mk (0:Int) (0:Int) (Arr.rep 32 (0:Int)) (Arr.rep 32 (0:Int)) (Arr.rep 32 (0:Int))) (Arr.rep 16 (Arr.rep 32 (0:Int))) (Arr.rep 16 (Arr.rep 32 (0:Int))) (GEth.mk (Arr.rep 32 (0:Int)) (0:Int)) [] (0:Int) [] [] (Arr.rep 8 (Arr.rep 32 (0:Int))) (Arr.rep 8 (0:Int)) [] [] (Arr.rep 4 false) (GCheckpoint.mk (0:Int) (Arr.rep 32 (0:Int))) (GCheckpoint.mk (0:Int) (Arr.rep 32 (0:Int))) (GCheckpoint.mk (0:Int) (Arr.rep 32 (0:Int)))) []) fun r2 =>
 bif (r2 == (1000:Int)) then (Option.bind (f_duty_Epoch n (7:Int)) fun r3 =>
 some (r3 == (1:Int))) else (some false)) else (some false)) else (some false)
def f_ref07_Slashable (n : Nat) (pa0 : GVote) (pb0 : GVote) : Option Bool :=
 bif (!(decide (pa0 = pb0))) then (bif (pa0.Target.Epoch == pb0.Target.Epoch) then (some true) else (bif (decide (pa0.Source.Epoch < pb0.Source.Epoch)) then (some (decide (pa0.Target.Epoch > pb0.Target.Epoch))) else (some false))) else (bif (decide (pa0.Source.Epoch < pb0.Source.Epoch)) then (some (decide (pa0.Target.Epoch > pb0.Target.Epoch))) else (some false))
def f_law09_DutySlashable (n : Nat) (pa0 : GVote) (pb0 : GVote) : Option Bool :=
 Option.bind (f_law09_Awake n) fun r0 =>
 bif (!r0) then (some false) else (Option.bind (f_duty_Slashable n pa0 pb0) fun r1 =>
 Option.bind (f_ref07_Slashable n pa0 pb0) fun r2 =>
 bif (!(r1 == r2)) then (some false) else (Option.bind (f_duty_Slashable n pb0 pa0) fun r3 =>
 Option.bind (f_ref07_Slashable n pb0 pa0) fun r4 =>
 bif (!(r3 == r4)) then (some false) else (Option.bind (f_duty_Slashable n pa0 pa0) fun r5 =>
 bif r5 then (some false) else (bif (pa0.Target.Epoch != pb0.Target.Epoch) then (some true) else (bif (r1 == (!(decide (pa0 = pb0)))) then (some (r3 == (!(decide (pa0 = pb0))))) else (some false))))))
end Go.Mg
