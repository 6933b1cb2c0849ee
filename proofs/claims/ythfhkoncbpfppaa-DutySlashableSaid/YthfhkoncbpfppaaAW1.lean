/- The model's code computes these functions. -/
import Derived.Test.YthfhkoncbpfppaaAW0
namespace Go.Mg
open Go Go.Proofs
def ea_law09_DutyTimes (a : Int × Int × GValidator) : List T := [(T.int .u64) a.1, (T.int .u64) a.2.1, e_GValidator a.2.2]
def er_law09_DutyTimes (r : Bool) : List RR × List T := ([.tree (T.bool r)], [])
noncomputable def sp_law09_DutyTimes (n : Nat) : Spec := specP [] true ea_law09_DutyTimes (fun a => f_law09_DutyTimes n a.1 a.2.1 a.2.2) (fun _ r => er_law09_DutyTimes r)
theorem ap_law09_DutyTimes (n : Nat) {ts : List T} {a0 : Int} {a1 : Int} {a2 : GValidator} {r : Bool} (hle : leTs ts [(T.int .u64) a0, (T.int .u64) a1, e_GValidator a2]) (h : f_law09_DutyTimes n a0 a1 a2 = some r) : (sp_law09_DutyTimes n).fn ts = some ([.tree (T.bool r)], []) :=
  specP_fn (a := (a0, a1, a2)) (InjA.cons (inj_int _) (InjA.cons (inj_int _) (InjA.one i_GValidator))) hle h
noncomputable def E_law09_DutyTimes (n : Nat) : Env := { ty := tyT, glob := glob, fns := get [(9, sp_law09_Awake n), (12, sp_duty_Epoch n), (13, sp_duty_Start n), (14, sp_duty_Now n), (15, sp_duty_Before n), (16, sp_ref01_Less n), (17, sp_duty_IsActive n), (18, sp_ref07_IsActive n)], ntmps := 48 }
theorem eok_law09_DutyTimes (n : Nat) : EnvOK Try.prog (E_law09_DutyTimes n) := ⟨tys_ok tys_chk, prog_mixed, (fns_cons (ok_law09_Awake n) (fns_cons (ok_duty_Epoch n) (fns_cons (ok_duty_Start n) (fns_cons (ok_duty_Now n) (fns_cons (ok_duty_Before n) (fns_cons (ok_ref01_Less n) (fns_cons (ok_duty_IsActive n) (fns_cons (ok_ref07_IsActive n) fns_nil))))))))⟩
def K_law09_DutyTimes (n : Nat) (pslot0 : Int) (pepoch0 : Int) (pv0 : GValidator) (r : Bool) : St → Prop := Done (E_law09_DutyTimes n) Try.f4.results.toList [] (ea_law09_DutyTimes (pslot0, pepoch0, pv0)) (er_law09_DutyTimes r).1 (er_law09_DutyTimes r).2
set_option maxRecDepth 100000 in
set_option maxHeartbeats 4000000 in
theorem ok_law09_DutyTimes (n : Nat) : SpecB Try.prog glob 4 (sp_law09_DutyTimes n) := by
  refine specP_B (fn := Try.f4) (eok_law09_DutyTimes n) (by kernel_rfl) rfl (by decide +kernel) (by kernel_rfl) (fun _ => by show 3 ≤ 48; omega)  ?_
  rintro ⟨pslot0, pepoch0, pv0⟩ r h C hL hC
  have hE := eok_law09_DutyTimes n
  replace hL : ∀ n g, (n, g) ∈ C.lent → n ∈ ([] : List Nat) := hL
  replace h : f_law09_DutyTimes n pslot0 pepoch0 pv0 = some r := h
  show Ab _ _ _ _ _ (End (K_law09_DutyTimes n pslot0 pepoch0 pv0 r))
  unfold f_law09_DutyTimes at h
  refine Ab.seq ?_
  refine Ab.regT hE hC hL [] { keep := [0, 1, 5], ren := [(5, 5)] } ⟨[(0, (.t (.int .u64 pslot0))), (1, (.t (.int .u64 pepoch0))), (5, (.ref 5 [] (0)))], [(5, (.var false 32 (.t (e_GValidator pv0))))]⟩ [] (by kernel_rfl) trivial ?_
  refine Nxt_norm ?_
  refine Ab.seq ?_
  refine Ab.seq ?_
  obtain ⟨r0, hr0, h⟩ := bind_some h
  refine Ab.regT hE hC hL [[.r [.tree (.bool r0)] []]] { keep := [0, 1, 5, 9], ren := [(5, 5)] } ⟨[(0, (.t (.int .u64 pslot0))), (1, (.t (.int .u64 pepoch0))), (5, (.ref 5 [] (0))), (9, (.t (.bool (!r0))))], [(5, (.var false 32 (.t (e_GValidator pv0))))]⟩ [(sp_law09_Awake n).fn [] = some ([.tree (.bool r0)], [])] (by kernel_rfl) ⟨(ap_law09_Awake n (by exact trivial) hr0), trivial⟩ ?_
  refine Nxt_norm ?_
  refine Ab.cond (b := (!r0)) (by kernel_rfl) (fun hb0 => ?_) (fun hb0 => ?_)
  · replace h := cond_t hb0 h
    refine Ab.seq ?_
    refine Ab.regT hE hC hL [] { keep := [6], ren := [] } ⟨[(6, (.t (.bool false)))], []⟩ [] (by kernel_rfl) trivial ?_
    refine Nxt_norm ?_
    refine Ab.ret ?_
    refine Nxt_ret ?_
    obtain rfl := Option.some.inj h
    exact End_ret (doneO_ok (md := [false]) (by kernel_rfl))
  · replace h := cond_f hb0 h
    refine Ab.skip ?_
    refine Nxt_norm ?_
    refine Ab.seq ?_
    refine Ab.regT hE hC hL [] { keep := [0, 1, 5, 7], ren := [(5, 5), (7, 7)] } ⟨[(0, (.t (.int .u64 pslot0))), (1, (.t (.int .u64 pepoch0))), (5, (.ref 5 [] (0))), (7, (.ref 7 [] (0)))], [(5, (.var false 32 (.t (e_GValidator pv0)))), (7, (.var false 46 (.t (.tup [(.int .u64 pslot0), (e_GHeader (GHeader.mk (0:Int) (0:Int) (Arr.rep 32 (0:Int)) (Arr.rep 32 (0:Int)) (Arr.rep 32 (0:Int)))), ((eA 32 (eA 1 (T.int .u8))) (Arr.rep 16 (Arr.rep 32 (0:Int)))), ((eA 32 (eA 1 (T.int .u8))) (Arr.rep 16 (Arr.rep 32 (0:Int)))), (e_GEth (GEth.mk (Arr.rep 32 (0:Int)) (0:Int))), .nils, (.int .u64 (0:Int)), .nils, .nils, ((eA 32 (eA 1 (T.int .u8))) (Arr.rep 8 (Arr.rep 32 (0:Int)))), ((eA 1 (T.int .u64)) (Arr.rep 8 (0:Int))), .nils, .nils, ((eA 1 T.bool) (Arr.rep 4 false)), (e_GCheckpoint (GCheckpoint.mk (0:Int) (Arr.rep 32 (0:Int)))), (e_GCheckpoint (GCheckpoint.mk (0:Int) (Arr.rep 32 (0:Int)))), (e_GCheckpoint (GCheckpoint.mk (0:Int) (Arr.rep 32 (0:Int))))]))))]⟩ [] (by kernel_rfl) trivial ?_
    refine Nxt_norm ?_
    refine Ab.seq ?_
    obtain ⟨r1, hr1, h⟩ := bind_some h
    rcases Bool.eq_false_or_eq_true (r1 == (w64 (pslot0.tdiv (4:Int)))) with hb1 | hb1
    · replace h := cond_t hb1 h
      obtain ⟨r2, hr2, h⟩ := bind_some h
      rcases Bool.eq_false_or_eq_true (r2 == (w64 ((4:Int) * pepoch0))) with hb2 | hb2
      · replace h := cond_t hb2 h
        obtain ⟨r3, hr3, h⟩ := bind_some h
        rcases Bool.eq_false_or_eq_true (r3 == (w64 (pslot0.tdiv (4:Int)))) with hb3 | hb3
        · replace h := cond_t hb3 h
          obtain ⟨r4, hr4, h⟩ := bind_some h
          obtain ⟨r5, hr5, h⟩ := bind_some h
          rcases Bool.eq_false_or_eq_true (r4 == r5) with hb4 | hb4
          · replace h := cond_t hb4 h
            obtain ⟨r6, hr6, h⟩ := bind_some h
            obtain ⟨r7, hr7, h⟩ := bind_some h
            refine Ab.regA hE hC hL [[], [.r [.tree (.int .u64 r1)] []], [], [], [], [.b true], [], [.r [.tree (.int .u64 r2)] []], [], [], [], [], [.b true], [], [.r [.tree (.int .u64 r3)] []], [], [], [], [], [.b true], [], [.r [.tree (.int .u64 r4)] []], [], [], [.r [.tree (.int .u64 r5)] []], [], [], [.b true], [], [], [.r [.tree (.bool r6)] []], [], [], [.r [.tree (.bool r7)] []]] { keep := [6], ren := [] } ⟨[(6, (.t (.bool (r6 == r7))))], []⟩ [(sp_duty_Epoch n).fn [(.int .u64 pslot0)] = some ([.tree (.int .u64 r1)], []), (r1 == (w64 (pslot0.tdiv (4:Int)))) = true, (sp_duty_Start n).fn [(.int .u64 pepoch0)] = some ([.tree (.int .u64 r2)], []), (r2 == (w64 ((4:Int) * pepoch0))) = true, (sp_duty_Now n).fn [(.tup [(.int .u64 pslot0), (e_GHeader (GHeader.mk (0:Int) (0:Int) (Arr.rep 32 (0:Int)) (Arr.rep 32 (0:Int)) (Arr.rep 32 (0:Int)))), ((eA 32 (eA 1 (T.int .u8))) (Arr.rep 16 (Arr.rep 32 (0:Int)))), ((eA 32 (eA 1 (T.int .u8))) (Arr.rep 16 (Arr.rep 32 (0:Int)))), (e_GEth (GEth.mk (Arr.rep 32 (0:Int)) (0:Int))), .nils, (.int .u64 (0:Int)), .nils, .nils, ((eA 32 (eA 1 (T.int .u8))) (Arr.rep 8 (Arr.rep 32 (0:Int)))), ((eA 1 (T.int .u64)) (Arr.rep 8 (0:Int))), .nils, .nils, ((eA 1 T.bool) (Arr.rep 4 false)), (e_GCheckpoint (GCheckpoint.mk (0:Int) (Arr.rep 32 (0:Int)))), (e_GCheckpoint (GCheckpoint.mk (0:Int) (Arr.rep 32 (0:Int)))), (e_GCheckpoint (GCheckpoint.mk (0:Int) (Arr.rep 32 (0:Int))))])] = some ([.tree (.int .u64 r3)], []), (r3 == (w64 (pslot0.tdiv (4:Int)))) = true, (sp_duty_Before n).fn [(.tup [(.int .u64 pslot0), (e_GHeader (GHeader.mk (0:Int) (0:Int) (Arr.rep 32 (0:Int)) (Arr.rep 32 (0:Int)) (Arr.rep 32 (0:Int)))), ((eA 32 (eA 1 (T.int .u8))) (Arr.rep 16 (Arr.rep 32 (0:Int)))), ((eA 32 (eA 1 (T.int .u8))) (Arr.rep 16 (Arr.rep 32 (0:Int)))), (e_GEth (GEth.mk (Arr.rep 32 (0:Int)) (0:Int))), .nils, (.int .u64 (0:Int)), .nils, .nils, ((eA 32 (eA 1 (T.int .u8))) (Arr.rep 8 (Arr.rep 32 (0:Int)))), ((eA 1 (T.int .u64)) (Arr.rep 8 (0:Int))), .nils, .nils, ((eA 1 T.bool) (Arr.rep 4 false)), (e_GCheckpoint (GCheckpoint.mk (0:Int) (Arr.rep 32 (0:Int)))), (e_GCheckpoint (GCheckpoint.mk (0:Int) (Arr.rep 32 (0:Int)))), (e_GCheckpoint (GCheckpoint.mk (0:Int) (Arr.rep 32 (0:Int))))])] = some ([.tree (.int .u64 r4)], []), (sp_ref01_Less n).fn [(.int .u64 (w64 (pslot0.tdiv (4:Int)))), (.int .u64 (1:Int))] = some ([.tree (.int .u64 r5)], []), (r4 == r5) = true, (sp_duty_IsActive n).fn [(e_GValidator pv0), (.int .u64 pepoch0)] = some ([.tree (.bool r6)], []), (sp_ref07_IsActive n).fn [(e_GValidator pv0), (.int .u64 pepoch0)] = some ([.tree (.bool r7)], [])] (by kernel_rfl) (by kernel_rfl) ⟨(ap_duty_Epoch n (by exact ⟨leT.refl _, trivial⟩) hr1), hb1, (ap_duty_Start n (by exact ⟨leT.refl _, trivial⟩) hr2), hb2, (ap_duty_Now n (by exact ⟨⟨leT.refl _, leT.refl _, leT.refl _, leT.refl _, leT.refl _, le_nil, leT.refl _, le_nil, le_nil, leT.refl _, leT.refl _, le_nil, le_nil, leT.refl _, leT.refl _, leT.refl _, leT.refl _, trivial⟩, trivial⟩) hr3), hb3, (ap_duty_Before n (by exact ⟨⟨leT.refl _, leT.refl _, leT.refl _, leT.refl _, leT.refl _, le_nil, leT.refl _, le_nil, le_nil, leT.refl _, leT.refl _, le_nil, le_nil, leT.refl _, leT.refl _, leT.refl _, leT.refl _, trivial⟩, trivial⟩) hr4), (ap_ref01_Less n (by exact ⟨leT.refl _, leT.refl _, trivial⟩) hr5), hb4, (ap_duty_IsActive n (by exact ⟨leT.refl _, leT.refl _, trivial⟩) hr6), (ap_ref07_IsActive n (by exact ⟨leT.refl _, leT.refl _, trivial⟩) hr7), trivial⟩ ?_
            refine Nxt_norm ?_
            refine Ab.ret ?_
            obtain rfl := Option.some.inj h
            exact End_ret (doneO_ok (md := [false]) (by kernel_rfl))
          · replace h := cond_f hb4 h
            refine Ab.regA hE hC hL [[], [.r [.tree (.int .u64 r1)] []], [], [], [], [.b true], [], [.r [.tree (.int .u64 r2)] []], [], [], [], [], [.b true], [], [.r [.tree (.int .u64 r3)] []], [], [], [], [], [.b true], [], [.r [.tree (.int .u64 r4)] []], [], [], [.r [.tree (.int .u64 r5)] []], [], [], [.b false]] { keep := [6], ren := [] } ⟨[(6, (.t (.bool false)))], []⟩ [(sp_duty_Epoch n).fn [(.int .u64 pslot0)] = some ([.tree (.int .u64 r1)], []), (r1 == (w64 (pslot0.tdiv (4:Int)))) = true, (sp_duty_Start n).fn [(.int .u64 pepoch0)] = some ([.tree (.int .u64 r2)], []), (r2 == (w64 ((4:Int) * pepoch0))) = true, (sp_duty_Now n).fn [(.tup [(.int .u64 pslot0), (e_GHeader (GHeader.mk (0:Int) (0:Int) (Arr.rep 32 (0:Int)) (Arr.rep 32 (0:Int)) (Arr.rep 32 (0:Int)))), ((eA 32 (eA 1 (T.int .u8))) (Arr.rep 16 (Arr.rep 32 (0:Int)))), ((eA 32 (eA 1 (T.int .u8))) (Arr.rep 16 (Arr.rep 32 (0:Int)))), (e_GEth (GEth.mk (Arr.rep 32 (0:Int)) (0:Int))), .nils, (.int .u64 (0:Int)), .nils, .nils, ((eA 32 (eA 1 (T.int .u8))) (Arr.rep 8 (Arr.rep 32 (0:Int)))), ((eA 1 (T.int .u64)) (Arr.rep 8 (0:Int))), .nils, .nils, ((eA 1 T.bool) (Arr.rep 4 false)), (e_GCheckpoint (GCheckpoint.mk (0:Int) (Arr.rep 32 (0:Int)))), (e_GCheckpoint (GCheckpoint.mk (0:Int) (Arr.rep 32 (0:Int)))), (e_GCheckpoint (GCheckpoint.mk (0:Int) (Arr.rep 32 (0:Int))))])] = some ([.tree (.int .u64 r3)], []), (r3 == (w64 (pslot0.tdiv (4:Int)))) = true, (sp_duty_Before n).fn [(.tup [(.int .u64 pslot0), (e_GHeader (GHeader.mk (0:Int) (0:Int) (Arr.rep 32 (0:Int)) (Arr.rep 32 (0:Int)) (Arr.rep 32 (0:Int)))), ((eA 32 (eA 1 (T.int .u8))) (Arr.rep 16 (Arr.rep 32 (0:Int)))), ((eA 32 (eA 1 (T.int .u8))) (Arr.rep 16 (Arr.rep 32 (0:Int)))), (e_GEth (GEth.mk (Arr.rep 32 (0:Int)) (0:Int))), .nils, (.int .u64 (0:Int)), .nils, .nils, ((eA 32 (eA 1 (T.int .u8))) (Arr.rep 8 (Arr.rep 32 (0:Int)))), ((eA 1 (T.int .u64)) (Arr.rep 8 (0:Int))), .nils, .nils, ((eA 1 T.bool) (Arr.rep 4 false)), (e_GCheckpoint (GCheckpoint.mk (0:Int) (Arr.rep 32 (0:Int)))), (e_GCheckpoint (GCheckpoint.mk (0:Int) (Arr.rep 32 (0:Int)))), (e_GCheckpoint (GCheckpoint.mk (0:Int) (Arr.rep 32 (0:Int))))])] = some ([.tree (.int .u64 r4)], []), (sp_ref01_Less n).fn [(.int .u64 (w64 (pslot0.tdiv (4:Int)))), (.int .u64 (1:Int))] = some ([.tree (.int .u64 r5)], []), (r4 == r5) = false] (by kernel_rfl) (by kernel_rfl) ⟨(ap_duty_Epoch n (by exact ⟨leT.refl _, trivial⟩) hr1), hb1, (ap_duty_Start n (by exact ⟨leT.refl _, trivial⟩) hr2), hb2, (ap_duty_Now n (by exact ⟨⟨leT.refl _, leT.refl _, leT.refl _, leT.refl _, leT.refl _, le_nil, leT.refl _, le_nil, le_nil, leT.refl _, leT.refl _, le_nil, le_nil, leT.refl _, leT.refl _, leT.refl _, leT.refl _, trivial⟩, trivial⟩) hr3), hb3, (ap_duty_Before n (by exact ⟨⟨leT.refl _, leT.refl _, leT.refl _, leT.refl _, leT.refl _, le_nil, leT.refl _, le_nil, le_nil, leT.refl _, leT.refl _, le_nil, le_nil, leT.refl _, leT.refl _, leT.refl _, leT.refl _, trivial⟩, trivial⟩) hr4), (ap_ref01_Less n (by exact ⟨leT.refl _, leT.refl _, trivial⟩) hr5), hb4, trivial⟩ ?_
            refine Nxt_norm ?_
            refine Ab.ret ?_
            obtain rfl := Option.some.inj h
            exact End_ret (doneO_ok (md := [false]) (by kernel_rfl))
        · replace h := cond_f hb3 h
          refine Ab.regA hE hC hL [[], [.r [.tree (.int .u64 r1)] []], [], [], [], [.b true], [], [.r [.tree (.int .u64 r2)] []], [], [], [], [], [.b true], [], [.r [.tree (.int .u64 r3)] []], [], [], [], [], [.b false]] { keep := [6], ren := [] } ⟨[(6, (.t (.bool false)))], []⟩ [(sp_duty_Epoch n).fn [(.int .u64 pslot0)] = some ([.tree (.int .u64 r1)], []), (r1 == (w64 (pslot0.tdiv (4:Int)))) = true, (sp_duty_Start n).fn [(.int .u64 pepoch0)] = some ([.tree (.int .u64 r2)], []), (r2 == (w64 ((4:Int) * pepoch0))) = true, (sp_duty_Now n).fn [(.tup [(.int .u64 pslot0), (e_GHeader (GHeader.mk (0:Int) (0:Int) (Arr.rep 32 (0:Int)) (Arr.rep 32 (0:Int)) (Arr.rep 32 (0:Int)))), ((eA 32 (eA 1 (T.int .u8))) (Arr.rep 16 (Arr.rep 32 (0:Int)))), ((eA 32 (eA 1 (T.int .u8))) (Arr.rep 16 (Arr.rep 32 (0:Int)))), (e_GEth (GEth.mk (Arr.rep 32 (0:Int)) (0:Int))), .nils, (.int .u64 (0:Int)), .nils, .nils, ((eA 32 (eA 1 (T.int .u8))) (Arr.rep 8 (Arr.rep 32 (0:Int)))), ((eA 1 (T.int .u64)) (Arr.rep 8 (0:Int))), .nils, .nils, ((eA 1 T.bool) (Arr.rep 4 false)), (e_GCheckpoint (GCheckpoint.mk (0:Int) (Arr.rep 32 (0:Int)))), (e_GCheckpoint (GCheckpoint.mk (0:Int) (Arr.rep 32 (0:Int)))), (e_GCheckpoint (GCheckpoint.mk (0:Int) (Arr.rep 32 (0:Int))))])] = some ([.tree (.int .u64 r3)], []), (r3 == (w64 (pslot0.tdiv (4:Int)))) = false] (by kernel_rfl) (by kernel_rfl) ⟨(ap_duty_Epoch n (by exact ⟨leT.refl _, trivial⟩) hr1), hb1, (ap_duty_Start n (by exact ⟨leT.refl _, trivial⟩) hr2), hb2, (ap_duty_Now n (by exact ⟨⟨leT.refl _, leT.refl _, leT.refl _, leT.refl _, leT.refl _, le_nil, leT.refl _, le_nil, le_nil, leT.refl _, leT.refl _, le_nil, le_nil, leT.refl _, leT.refl _, leT.refl _, leT.refl _, trivial⟩, trivial⟩) hr3), hb3, trivial⟩ ?_
          refine Nxt_norm ?_
          refine Ab.ret ?_
          obtain rfl := Option.some.inj h
          exact End_ret (doneO_ok (md := [false]) (by kernel_rfl))
      · replace h := cond_f hb2 h
        refine Ab.regA hE hC hL [[], [.r [.tree (.int .u64 r1)] []], [], [], [], [.b true], [], [.r [.tree (.int .u64 r2)] []], [], [], [], [], [.b false]] { keep := [6], ren := [] } ⟨[(6, (.t (.bool false)))], []⟩ [(sp_duty_Epoch n).fn [(.int .u64 pslot0)] = some ([.tree (.int .u64 r1)], []), (r1 == (w64 (pslot0.tdiv (4:Int)))) = true, (sp_duty_Start n).fn [(.int .u64 pepoch0)] = some ([.tree (.int .u64 r2)], []), (r2 == (w64 ((4:Int) * pepoch0))) = false] (by kernel_rfl) (by kernel_rfl) ⟨(ap_duty_Epoch n (by exact ⟨leT.refl _, trivial⟩) hr1), hb1, (ap_duty_Start n (by exact ⟨leT.refl _, trivial⟩) hr2), hb2, trivial⟩ ?_
        refine Nxt_norm ?_
        refine Ab.ret ?_
        obtain rfl := Option.some.inj h
        exact End_ret (doneO_ok (md := [false]) (by kernel_rfl))
    · replace h := cond_f hb1 h
      refine Ab.regA hE hC hL [[], [.r [.tree (.int .u64 r1)] []], [], [], [], [.b false]] { keep := [6], ren := [] } ⟨[(6, (.t (.bool false)))], []⟩ [(sp_duty_Epoch n).fn [(.int .u64 pslot0)] = some ([.tree (.int .u64 r1)], []), (r1 == (w64 (pslot0.tdiv (4:Int)))) = false] (by kernel_rfl) (by kernel_rfl) ⟨(ap_duty_Epoch n (by exact ⟨leT.refl _, trivial⟩) hr1), hb1, trivial⟩ ?_
      refine Nxt_norm ?_
      refine Ab.ret ?_
      obtain rfl := Option.some.inj h
      exact End_ret (doneO_ok (md := [false]) (by kernel_rfl))
def ea_num_Put (a : Int × Int) : List T := [(T.int .u64) a.1, (T.int .i64) a.2]
def er_num_Put (r : (List Int)) : List RR × List T := ([.row 5 1 (List.map (T.int .u8) r)], [])
noncomputable def sp_num_Put (n : Nat) : Spec := specP [] false ea_num_Put (fun a => f_num_Put n a.1 a.2) (fun _ r => er_num_Put r)
theorem ap_num_Put (n : Nat) {ts : List T} {a0 : Int} {a1 : Int} {r : (List Int)} (hle : leTs ts [(T.int .u64) a0, (T.int .i64) a1]) (h : f_num_Put n a0 a1 = some r) : (sp_num_Put n).fn ts = some ([.row 5 1 (List.map (T.int .u8) r)], []) :=
  specP_fn (a := (a0, a1)) (InjA.cons (inj_int _) (InjA.one (inj_int _))) hle h
noncomputable def E_num_Put (n : Nat) : Env := { ty := tyT, glob := glob, fns := get [], ntmps := 27 }
theorem eok_num_Put (n : Nat) : EnvOK Try.prog (E_num_Put n) := ⟨tys_ok tys_chk, prog_mixed, fns_nil⟩
def K_num_Put (n : Nat) (pn0 : Int) (psize0 : Int) (r : (List Int)) : St → Prop := Done (E_num_Put n) Try.f20.results.toList [] (ea_num_Put (pn0, psize0)) (er_num_Put r).1 (er_num_Put r).2
set_option maxRecDepth 100000 in
set_option maxHeartbeats 4000000 in
theorem ok_num_Put (n : Nat) : SpecOK Try.prog glob 20 (sp_num_Put n) := by
  refine specP_ok (fn := Try.f20) (eok_num_Put n) (by kernel_rfl) rfl (by decide +kernel) (by kernel_rfl) (fun _ => by show 2 ≤ 27; omega) (fun h => Bool.noConfusion h) ?_
  rintro ⟨pn0, psize0⟩ r h C hL hC
  have hE := eok_num_Put n
  replace hL : ∀ n g, (n, g) ∈ C.lent → n ∈ ([] : List Nat) := hL
  replace h : f_num_Put n pn0 psize0 = some r := h
  show Ab _ _ _ _ _ (End (K_num_Put n pn0 psize0 r))
  unfold f_num_Put at h
  refine Ab.seq ?_
  refine Ab.regT hE hC hL [] { keep := [0, 1], ren := [] } ⟨[(0, (.t (.int .u64 pn0))), (1, (.t (.int .i64 psize0)))], []⟩ [] (by kernel_rfl) trivial ?_
  refine Nxt_norm ?_
  refine Ab.seq ?_
  refine Ab.regT hE hC hL [] { keep := [0, 1, 5], ren := [] } ⟨[(0, (.t (.int .u64 pn0))), (1, (.t (.int .i64 psize0))), (5, (.t .nils))], []⟩ [] (by kernel_rfl) trivial ?_
  refine Nxt_norm ?_
  refine Ab.seq ?_
  refine Ab.seq ?_
  refine Ab.regT hE hC hL [] { keep := [0, 5, 8, 9], ren := [] } ⟨[(0, (.t (.int .u64 pn0))), (5, (.t .nils)), (8, (.t (.int .i64 (gmax psize0 (0:Int))))), (9, (.t (.int .i64 (0:Int))))], []⟩ [] (by kernel_rfl) trivial ?_
  refine Nxt_norm ?_
  obtain ⟨x0, hx0, h⟩ := bind_some h
  refine Ab.loopX0 (fun ((a0, a1) : ((List Int) × Int)) => (⟨[(0, (.t (.int .u64 pn0))), (5, (.own 49000)), (8, (.t (.int .i64 (gmax psize0 (0:Int))))), (9, (.t (.int .i64 a1)))], [(49000, (.row false 5 1 (List.map (T.int .u8) a0)))]⟩ : St)) (fun (a2 : (List Int)) => (⟨[(5, (.own 49000))], [(49000, (.row false 5 1 (List.map (T.int .u8) a2)))]⟩ : St)) { fs := [⟨(.t 5), [], .own 48000 5 1⟩], keep := [0, 5, 8, 9], ren := [(48000, 49000)] } (([] : List Int), (0:Int)) hC hL hx0 (by kernel_rfl) ?_ ?_
  · rintro ⟨a0, a1⟩ o0 h
    replace h : f_num_Put_b0 n pn0 psize0 a0 a1 = some o0 := h
    unfold f_num_Put_b0 at h
    refine Ab.seq ?_
    refine Ab.regT hE hC hL [] { keep := [0, 5, 8, 9, 10], ren := [(49000, 49000)] } ⟨[(0, (.t (.int .u64 pn0))), (5, (.own 49000)), (8, (.t (.int .i64 (gmax psize0 (0:Int))))), (9, (.t (.int .i64 a1))), (10, (.t (.bool (decide (a1 < (gmax psize0 (0:Int)))))))], [(49000, (.row false 5 1 (List.map (T.int .u8) a0)))]⟩ [] (by kernel_rfl) trivial ?_
    refine Nxt_norm ?_
    refine Ab.seq ?_
    refine Ab.cond (b := (decide (a1 < (gmax psize0 (0:Int))))) (by kernel_rfl) (fun hb0 => ?_) (fun hb0 => ?_)
    · replace h := cond_t hb0 h
      refine Ab.skip ?_
      refine Nxt_norm ?_
      refine Ab.seq ?_
      refine Ab.block ?_
      refine Ab.seq ?_
      refine Ab.regT hE hC hL [] { keep := [0, 5, 6, 8, 9], ren := [(49000, 49000)] } ⟨[(0, (.t (.int .u64 pn0))), (5, (.own 49000)), (6, (.t (.int .i64 a1))), (8, (.t (.int .i64 (gmax psize0 (0:Int))))), (9, (.t (.int .i64 a1)))], [(49000, (.row false 5 1 (List.map (T.int .u8) a0)))]⟩ [] (by kernel_rfl) trivial ?_
      refine Nxt_norm ?_
      refine Ab.seq ?_
      refine Ab.regT hE hC hL [] { keep := [0, 5, 6, 8, 9, 13], ren := [(49000, 49000)] } ⟨[(0, (.t (.int .u64 pn0))), (5, (.own 49000)), (6, (.t (.int .i64 a1))), (8, (.t (.int .i64 (gmax psize0 (0:Int))))), (9, (.t (.int .i64 a1))), (13, (.t (.bool (decide (a1 < (8:Int))))))], [(49000, (.row false 5 1 (List.map (T.int .u8) a0)))]⟩ [] (by kernel_rfl) trivial ?_
      refine Nxt_norm ?_
      refine Ab.cond (b := (decide (a1 < (8:Int)))) (by kernel_rfl) (fun hb1 => ?_) (fun hb1 => ?_)
      · replace h := cond_t hb1 h
        obtain ⟨hq0, h⟩ := ask_dec h
        obtain ⟨hq1, h⟩ := ask_dec h
        refine Ab.regT hE hC hL [[], [], [], [], [.c], [], [], [.l (List.map (T.int .u8) (a0 ++ ([(w8 (shr .u64 pn0 (wi ((8:Int) * a1))))] : List Int)))]] { keep := [0, 5, 8, 9], ren := [(21, 21)] } ⟨[(0, (.t (.int .u64 pn0))), (5, (.own 21)), (8, (.t (.int .i64 (gmax psize0 (0:Int))))), (9, (.t (.int .i64 a1)))], [(21, (.row false 5 1 (List.map (T.int .u8) (a0 ++ ([(w8 (shr .u64 pn0 (wi ((8:Int) * a1))))] : List Int)))))]⟩ [¬ (wi ((8:Int) * a1)) < 0, (List.length (List.map (T.int .u8) a0) + List.length (List.map (T.int .u8) ([(w8 (shr .u64 pn0 (wi ((8:Int) * a1))))] : List Int))) * 1 ≤ maxBytes, List.length (List.map (T.int .u8) a0) + List.length (List.map (T.int .u8) ([(w8 (shr .u64 pn0 (wi ((8:Int) * a1))))] : List Int)) ≤ maxBytes, (List.map (T.int .u8) a0) ++ (List.map (T.int .u8) ([(w8 (shr .u64 pn0 (wi ((8:Int) * a1))))] : List Int)) = List.map (T.int .u8) (a0 ++ ([(w8 (shr .u64 pn0 (wi ((8:Int) * a1))))] : List Int))] (by kernel_rfl) ⟨(Int.not_lt.2 hq0), (app_b rfl rfl hq1), (app_c rfl rfl (by decide) hq1), (app_of rfl rfl), trivial⟩ ?_
        refine Blk_norm ?_
        refine Nxt_norm ?_
        refine Ab.regT hE hC hL [] { keep := [0, 5, 8, 9], ren := [(21, 21)] } ⟨[(0, (.t (.int .u64 pn0))), (5, (.own 21)), (8, (.t (.int .i64 (gmax psize0 (0:Int))))), (9, (.t (.int .i64 (wi (a1 + (1:Int))))))], [(21, (.row false 5 1 (List.map (T.int .u8) (a0 ++ ([(w8 (shr .u64 pn0 (wi ((8:Int) * a1))))] : List Int)))))]⟩ [] (by kernel_rfl) trivial ?_
        exact LK_norm ((a0 ++ ([(w8 (shr .u64 pn0 (wi ((8:Int) * a1))))] : List Int)), (wi (a1 + (1:Int)))) { fs := [], keep := [0, 5, 8, 9], ren := [(21, 49000)] } h (by kernel_rfl)
      · replace h := cond_f hb1 h
        obtain ⟨hq2, h⟩ := ask_dec h
        refine Ab.regT hE hC hL [[], [], [.l (List.map (T.int .u8) (a0 ++ ([(0:Int)] : List Int)))]] { keep := [0, 5, 8, 9], ren := [(24, 24)] } ⟨[(0, (.t (.int .u64 pn0))), (5, (.own 24)), (8, (.t (.int .i64 (gmax psize0 (0:Int))))), (9, (.t (.int .i64 a1)))], [(24, (.row false 5 1 (List.map (T.int .u8) (a0 ++ ([(0:Int)] : List Int)))))]⟩ [(List.length (List.map (T.int .u8) a0) + List.length (List.map (T.int .u8) ([(0:Int)] : List Int))) * 1 ≤ maxBytes, List.length (List.map (T.int .u8) a0) + List.length (List.map (T.int .u8) ([(0:Int)] : List Int)) ≤ maxBytes, (List.map (T.int .u8) a0) ++ (List.map (T.int .u8) ([(0:Int)] : List Int)) = List.map (T.int .u8) (a0 ++ ([(0:Int)] : List Int))] (by kernel_rfl) ⟨(app_b rfl rfl hq2), (app_c rfl rfl (by decide) hq2), (app_of rfl rfl), trivial⟩ ?_
        refine Blk_norm ?_
        refine Nxt_norm ?_
        refine Ab.regT hE hC hL [] { keep := [0, 5, 8, 9], ren := [(24, 24)] } ⟨[(0, (.t (.int .u64 pn0))), (5, (.own 24)), (8, (.t (.int .i64 (gmax psize0 (0:Int))))), (9, (.t (.int .i64 (wi (a1 + (1:Int))))))], [(24, (.row false 5 1 (List.map (T.int .u8) (a0 ++ ([(0:Int)] : List Int)))))]⟩ [] (by kernel_rfl) trivial ?_
        exact LK_norm ((a0 ++ ([(0:Int)] : List Int)), (wi (a1 + (1:Int)))) { fs := [], keep := [0, 5, 8, 9], ren := [(24, 49000)] } h (by kernel_rfl)
    · replace h := cond_f hb0 h
      refine Ab.exit ?_
      refine Nxt_exit ?_
      exact LK_exit a0 h (PX_mk { fs := [], keep := [5], ren := [(49000, 49000)] } (by kernel_rfl))
  · refine Nxt_norm ?_
    refine Ab.seq ?_
    refine Ab.regT hE hC hL [] { keep := [4], ren := [(49000, 49000)] } ⟨[(4, (.own 49000))], [(49000, (.row false 5 1 (List.map (T.int .u8) x0)))]⟩ [] (by kernel_rfl) trivial ?_
    refine Nxt_norm ?_
    refine Ab.ret ?_
    obtain rfl := Option.some.inj h
    exact End_ret (doneO_ok (md := [true]) (by kernel_rfl))
def ea_num_Take (a : (List Int)) : List T := [(eS 1 (T.int .u8)) a]
def er_num_Take (r : Int) : List RR × List T := ([.tree ((T.int .u64) r)], [])
noncomputable def sp_num_Take (n : Nat) : Spec := specP [] true ea_num_Take (fun a => f_num_Take n a) (fun _ r => er_num_Take r)
theorem ap_num_Take (n : Nat) {ts : List T} {a0 : (List Int)} {r : Int} (hle : leTs ts [(eS 1 (T.int .u8)) a0]) (h : f_num_Take n a0 = some r) : (sp_num_Take n).fn ts = some ([.tree ((T.int .u64) r)], []) :=
  specP_fn (a := a0) (InjA.one (inj_eS (inj_int _))) hle h
noncomputable def E_num_Take (n : Nat) : Env := { ty := tyT, glob := glob, fns := get [], ntmps := 26 }
theorem eok_num_Take (n : Nat) : EnvOK Try.prog (E_num_Take n) := ⟨tys_ok tys_chk, prog_mixed, fns_nil⟩
def K_num_Take (n : Nat) (pb0 : (List Int)) (r : Int) : St → Prop := Done (E_num_Take n) Try.f22.results.toList [] (ea_num_Take pb0) (er_num_Take r).1 (er_num_Take r).2
set_option maxRecDepth 100000 in
set_option maxHeartbeats 4000000 in
theorem ok_num_Take (n : Nat) : SpecOK Try.prog glob 22 (sp_num_Take n) := by
  refine specP_ok (fn := Try.f22) (eok_num_Take n) (by kernel_rfl) rfl (by decide +kernel) (by kernel_rfl) (fun _ => by show 1 ≤ 26; omega) (fun _ _ r => ⟨(rrf_tree ((fun _ => rfl) _) rrf_nil), flats_nil⟩) ?_
  rintro pb0 r h C hL hC
  have hE := eok_num_Take n
  replace hL : ∀ n g, (n, g) ∈ C.lent → n ∈ ([] : List Nat) := hL
  replace h : f_num_Take n pb0 = some r := h
  show Ab _ _ _ _ _ (End (K_num_Take n pb0 r))
  unfold f_num_Take at h
  refine Ab.seq ?_
  refine Ab.regT hE hC hL [] { keep := [0], ren := [] } ⟨[(0, (.t ((eS 1 (T.int .u8)) pb0)))], []⟩ [] (by kernel_rfl) trivial ?_
  refine Nxt_norm ?_
  refine Ab.seq ?_
  refine Ab.regT hE hC hL [] { keep := [0, 3], ren := [] } ⟨[(0, (.t ((eS 1 (T.int .u8)) pb0))), (3, (.t (.int .u64 (0:Int))))], []⟩ [] (by kernel_rfl) trivial ?_
  refine Nxt_norm ?_
  refine Ab.seq ?_
  refine Ab.seq ?_
  obtain ⟨hq0, h⟩ := ask_dec h
  obtain ⟨hq1, h⟩ := ask_dec h
  refine Ab.regT hE hC hL [[], [], [.n (pb0.length : Int)], [], [.l (List.map (T.int .u8) (List.take ((gmin (pb0.length : Int) (8:Int)).toNat) pb0))], [.n ((List.take ((gmin (pb0.length : Int) (8:Int)).toNat) pb0).length : Int)]] { keep := [3, 10, 11, 12], ren := [] } ⟨[(3, (.t (.int .u64 (0:Int)))), (10, (.t ((eS 1 (T.int .u8)) (List.take ((gmin (pb0.length : Int) (8:Int)).toNat) pb0)))), (11, (.t (.int .i64 ((List.take ((gmin (pb0.length : Int) (8:Int)).toNat) pb0).length : Int)))), (12, (.t (.int .i64 (0:Int))))], []⟩ [((List.length (List.map (T.int .u8) pb0) : Nat) : Int) = (pb0.length : Int), List.take ((gmin (pb0.length : Int) (8:Int)).toNat - 0) (List.drop 0 (List.map (T.int .u8) pb0)) = List.map (T.int .u8) (List.take ((gmin (pb0.length : Int) (8:Int)).toNat) pb0), 0 ≤ (gmin (pb0.length : Int) (8:Int)), (gmin (pb0.length : Int) (8:Int)) ≤ ((List.length (List.map (T.int .u8) pb0) : Nat) : Int), ((List.length (List.map (T.int .u8) (List.take ((gmin (pb0.length : Int) (8:Int)).toNat) pb0)) : Nat) : Int) = ((List.take ((gmin (pb0.length : Int) (8:Int)).toNat) pb0).length : Int)] (by kernel_rfl) ⟨(len_of rfl), (win_pre rfl _), hq0, (le_len rfl hq1), (len_of rfl), trivial⟩ ?_
  refine Nxt_norm ?_
  obtain ⟨x0, hx0, h⟩ := bind_some h
  refine Ab.loopX0 (fun ((a0, a1) : (Int × Int)) => (⟨[(3, (.t (.int .u64 a0))), (10, (.t ((eS 1 (T.int .u8)) (List.take ((gmin (pb0.length : Int) (8:Int)).toNat) pb0)))), (11, (.t (.int .i64 ((List.take ((gmin (pb0.length : Int) (8:Int)).toNat) pb0).length : Int)))), (12, (.t (.int .i64 a1)))], []⟩ : St)) (fun (a2 : Int) => (⟨[(3, (.t (.int .u64 a2)))], []⟩ : St)) { fs := [], keep := [3, 10, 11, 12], ren := [] } ((0:Int), (0:Int)) hC hL hx0 (by kernel_rfl) ?_ ?_
  · rintro ⟨a0, a1⟩ o0 h
    replace h : f_num_Take_b0 n pb0 a0 a1 = some o0 := h
    unfold f_num_Take_b0 at h
    refine Ab.seq ?_
    refine Ab.regT hE hC hL [] { keep := [3, 10, 11, 12, 13], ren := [] } ⟨[(3, (.t (.int .u64 a0))), (10, (.t ((eS 1 (T.int .u8)) (List.take ((gmin (pb0.length : Int) (8:Int)).toNat) pb0)))), (11, (.t (.int .i64 ((List.take ((gmin (pb0.length : Int) (8:Int)).toNat) pb0).length : Int)))), (12, (.t (.int .i64 a1))), (13, (.t (.bool (decide (a1 < ((List.take ((gmin (pb0.length : Int) (8:Int)).toNat) pb0).length : Int))))))], []⟩ [] (by kernel_rfl) trivial ?_
    refine Nxt_norm ?_
    refine Ab.seq ?_
    refine Ab.cond (b := (decide (a1 < ((List.take ((gmin (pb0.length : Int) (8:Int)).toNat) pb0).length : Int)))) (by kernel_rfl) (fun hb0 => ?_) (fun hb0 => ?_)
    · replace h := cond_t hb0 h
      refine Ab.skip ?_
      refine Nxt_norm ?_
      refine Ab.seq ?_
      refine Ab.block ?_
      refine Ab.seq ?_
      obtain ⟨hq2, h⟩ := ask_dec h
      obtain ⟨v0, hv0, h⟩ := bind_some h
      refine Ab.regT hE hC hL [[], [.t (.int .u8 v0)]] { keep := [3, 4, 5, 10, 11, 12], ren := [] } ⟨[(3, (.t (.int .u64 a0))), (4, (.t (.int .i64 a1))), (5, (.t (.int .u8 v0))), (10, (.t ((eS 1 (T.int .u8)) (List.take ((gmin (pb0.length : Int) (8:Int)).toNat) pb0)))), (11, (.t (.int .i64 ((List.take ((gmin (pb0.length : Int) (8:Int)).toNat) pb0).length : Int)))), (12, (.t (.int .i64 a1)))], []⟩ [0 ≤ a1, (List.map (T.int .u8) (List.take ((gmin (pb0.length : Int) (8:Int)).toNat) pb0))[a1.toNat]? = some (.int .u8 v0)] (by kernel_rfl) ⟨hq2, (at_map hv0), trivial⟩ ?_
      refine Nxt_norm ?_
      obtain ⟨hq3, h⟩ := ask_dec h
      refine Ab.regT hE hC hL [[], [], [], [], [], [.c]] { keep := [3, 10, 11, 12], ren := [] } ⟨[(3, (.t (.int .u64 (bits .or .u64 a0 (shl .u64 (w64 v0) (wi ((8:Int) * a1))))))), (10, (.t ((eS 1 (T.int .u8)) (List.take ((gmin (pb0.length : Int) (8:Int)).toNat) pb0)))), (11, (.t (.int .i64 ((List.take ((gmin (pb0.length : Int) (8:Int)).toNat) pb0).length : Int)))), (12, (.t (.int .i64 a1)))], []⟩ [¬ (wi ((8:Int) * a1)) < 0] (by kernel_rfl) ⟨(Int.not_lt.2 hq3), trivial⟩ ?_
      refine Blk_norm ?_
      refine Nxt_norm ?_
      refine Ab.regT hE hC hL [] { keep := [3, 10, 11, 12], ren := [] } ⟨[(3, (.t (.int .u64 (bits .or .u64 a0 (shl .u64 (w64 v0) (wi ((8:Int) * a1))))))), (10, (.t ((eS 1 (T.int .u8)) (List.take ((gmin (pb0.length : Int) (8:Int)).toNat) pb0)))), (11, (.t (.int .i64 ((List.take ((gmin (pb0.length : Int) (8:Int)).toNat) pb0).length : Int)))), (12, (.t (.int .i64 (wi (a1 + (1:Int))))))], []⟩ [] (by kernel_rfl) trivial ?_
      exact LK_norm ((bits .or .u64 a0 (shl .u64 (w64 v0) (wi ((8:Int) * a1)))), (wi (a1 + (1:Int)))) { fs := [], keep := [3, 10, 11, 12], ren := [] } h (by kernel_rfl)
    · replace h := cond_f hb0 h
      refine Ab.exit ?_
      refine Nxt_exit ?_
      exact LK_exit a0 h (PX_mk { fs := [], keep := [3], ren := [] } (by kernel_rfl))
  · refine Nxt_norm ?_
    refine Ab.seq ?_
    refine Ab.regT hE hC hL [] { keep := [2], ren := [] } ⟨[(2, (.t (.int .u64 x0)))], []⟩ [] (by kernel_rfl) trivial ?_
    refine Nxt_norm ?_
    refine Ab.ret ?_
    obtain rfl := Option.some.inj h
    exact End_ret (doneO_ok (md := [false]) (by kernel_rfl))
def ea_bits_Len64 (a : Int) : List T := [(T.int .u64) a]
def er_bits_Len64 (r : Int) : List RR × List T := ([.tree ((T.int .i64) r)], [])
noncomputable def sp_bits_Len64 (n : Nat) : Spec := specP [] true ea_bits_Len64 (fun a => f_bits_Len64 n a) (fun _ r => er_bits_Len64 r)
theorem ap_bits_Len64 (n : Nat) {ts : List T} {a0 : Int} {r : Int} (hle : leTs ts [(T.int .u64) a0]) (h : f_bits_Len64 n a0 = some r) : (sp_bits_Len64 n).fn ts = some ([.tree ((T.int .i64) r)], []) :=
  specP_fn (a := a0) (InjA.one (inj_int _)) hle h
noncomputable def E_bits_Len64 (n : Nat) : Env := { ty := tyT, glob := glob, fns := get [], ntmps := 25 }
theorem eok_bits_Len64 (n : Nat) : EnvOK Try.prog (E_bits_Len64 n) := ⟨tys_ok tys_chk, prog_mixed, fns_nil⟩
def K_bits_Len64 (n : Nat) (px0 : Int) (r : Int) : St → Prop := Done (E_bits_Len64 n) Try.f36.results.toList [] (ea_bits_Len64 px0) (er_bits_Len64 r).1 (er_bits_Len64 r).2
set_option maxRecDepth 100000 in
set_option maxHeartbeats 4000000 in
theorem ok_bits_Len64 (n : Nat) : SpecOK Try.prog glob 36 (sp_bits_Len64 n) := by
  refine specP_ok (fn := Try.f36) (eok_bits_Len64 n) (by kernel_rfl) rfl (by decide +kernel) (by kernel_rfl) (fun _ => by show 1 ≤ 25; omega) (fun _ _ r => ⟨(rrf_tree ((fun _ => rfl) _) rrf_nil), flats_nil⟩) ?_
  rintro px0 r h C hL hC
  have hE := eok_bits_Len64 n
  replace hL : ∀ n g, (n, g) ∈ C.lent → n ∈ ([] : List Nat) := hL
  replace h : f_bits_Len64 n px0 = some r := h
  show Ab _ _ _ _ _ (End (K_bits_Len64 n px0 r))
  unfold f_bits_Len64 at h
  refine Ab.seq ?_
  refine Ab.regT hE hC hL [] { keep := [0, 2], ren := [] } ⟨[(0, (.t (.int .u64 px0))), (2, (.t (.int .i64 (0:Int))))], []⟩ [] (by kernel_rfl) trivial ?_
  refine Nxt_norm ?_
  refine Ab.seq ?_
  refine Ab.seq ?_
  refine Ab.regT hE hC hL [] { keep := [0, 2, 4], ren := [] } ⟨[(0, (.t (.int .u64 px0))), (2, (.t (.int .i64 (0:Int)))), (4, (.t (.bool (decide (px0 ≥ (4294967296:Int))))))], []⟩ [] (by kernel_rfl) trivial ?_
  refine Nxt_norm ?_
  refine Ab.cond (b := (decide (px0 ≥ (4294967296:Int)))) (by kernel_rfl) (fun hb0 => ?_) (fun hb0 => ?_)
  · replace h := cond_t hb0 h
    refine Ab.seq ?_
    refine Ab.regT hE hC hL [] { keep := [0], ren := [] } ⟨[(0, (.t (.int .u64 (shr .u64 px0 (32:Int)))))], []⟩ [] (by kernel_rfl) trivial ?_
    refine Nxt_norm ?_
    refine Ab.regT hE hC hL [] { keep := [0, 2], ren := [] } ⟨[(0, (.t (.int .u64 (shr .u64 px0 (32:Int))))), (2, (.t (.int .i64 (32:Int))))], []⟩ [] (by kernel_rfl) trivial ?_
    refine Nxt_norm ?_
    refine Ab.seq ?_
    refine Ab.seq ?_
    refine Ab.regT hE hC hL [] { keep := [0, 2, 8], ren := [] } ⟨[(0, (.t (.int .u64 (shr .u64 px0 (32:Int))))), (2, (.t (.int .i64 (32:Int)))), (8, (.t (.bool (decide ((shr .u64 px0 (32:Int)) ≥ (65536:Int))))))], []⟩ [] (by kernel_rfl) trivial ?_
    refine Nxt_norm ?_
    refine Ab.cond (b := (decide ((shr .u64 px0 (32:Int)) ≥ (65536:Int)))) (by kernel_rfl) (fun hb1 => ?_) (fun hb1 => ?_)
    · replace h := cond_t hb1 h
      refine Ab.seq ?_
      refine Ab.regT hE hC hL [] { keep := [0, 2], ren := [] } ⟨[(0, (.t (.int .u64 (shr .u64 (shr .u64 px0 (32:Int)) (16:Int))))), (2, (.t (.int .i64 (32:Int))))], []⟩ [] (by kernel_rfl) trivial ?_
      refine Nxt_norm ?_
      refine Ab.regT hE hC hL [] { keep := [0, 2], ren := [] } ⟨[(0, (.t (.int .u64 (shr .u64 (shr .u64 px0 (32:Int)) (16:Int))))), (2, (.t (.int .i64 (wi ((32:Int) + (16:Int))))))], []⟩ [] (by kernel_rfl) trivial ?_
      refine Nxt_norm ?_
      refine Ab.seq ?_
      refine Ab.seq ?_
      refine Ab.regT hE hC hL [] { keep := [0, 2, 14], ren := [] } ⟨[(0, (.t (.int .u64 (shr .u64 (shr .u64 px0 (32:Int)) (16:Int))))), (2, (.t (.int .i64 (wi ((32:Int) + (16:Int)))))), (14, (.t (.bool (decide ((shr .u64 (shr .u64 px0 (32:Int)) (16:Int)) ≥ (256:Int))))))], []⟩ [] (by kernel_rfl) trivial ?_
      refine Nxt_norm ?_
      refine Ab.cond (b := (decide ((shr .u64 (shr .u64 px0 (32:Int)) (16:Int)) ≥ (256:Int)))) (by kernel_rfl) (fun hb2 => ?_) (fun hb2 => ?_)
      · replace h := cond_t hb2 h
        refine Ab.seq ?_
        refine Ab.regT hE hC hL [] { keep := [0, 2], ren := [] } ⟨[(0, (.t (.int .u64 (shr .u64 (shr .u64 (shr .u64 px0 (32:Int)) (16:Int)) (8:Int))))), (2, (.t (.int .i64 (wi ((32:Int) + (16:Int))))))], []⟩ [] (by kernel_rfl) trivial ?_
        refine Nxt_norm ?_
        refine Ab.regT hE hC hL [] { keep := [0, 2], ren := [] } ⟨[(0, (.t (.int .u64 (shr .u64 (shr .u64 (shr .u64 px0 (32:Int)) (16:Int)) (8:Int))))), (2, (.t (.int .i64 (wi ((wi ((32:Int) + (16:Int))) + (8:Int))))))], []⟩ [] (by kernel_rfl) trivial ?_
        refine Nxt_norm ?_
        refine Ab.seq ?_
        obtain ⟨hq0, h⟩ := ask_dec h
        obtain ⟨v0, hv0, h⟩ := bind_some h
        refine Ab.regT hE hC hL [[], [], [], [.n v0]] { keep := [2], ren := [] } ⟨[(2, (.t (.int .i64 (wi ((wi ((wi ((32:Int) + (16:Int))) + (8:Int))) + (wi v0))))))], []⟩ [0 ≤ (w8 (shr .u64 (shr .u64 (shr .u64 px0 (32:Int)) (16:Int)) (8:Int))), (str_0.data[(w8 (shr .u64 (shr .u64 (shr .u64 px0 (32:Int)) (16:Int)) (8:Int))).toNat]?).map (fun b => (b.toNat : Int)) = some v0] (by kernel_rfl) ⟨hq0, hv0, trivial⟩ ?_
        refine Nxt_norm ?_
        refine Ab.ret ?_
        obtain rfl := Option.some.inj h
        exact End_ret (doneO_ok (md := [false]) (by kernel_rfl))
      · replace h := cond_f hb2 h
        refine Ab.skip ?_
        refine Nxt_norm ?_
        refine Ab.seq ?_
        obtain ⟨hq1, h⟩ := ask_dec h
        obtain ⟨v1, hv1, h⟩ := bind_some h
        refine Ab.regT hE hC hL [[], [], [], [.n v1]] { keep := [2], ren := [] } ⟨[(2, (.t (.int .i64 (wi ((wi ((32:Int) + (16:Int))) + (wi v1))))))], []⟩ [0 ≤ (w8 (shr .u64 (shr .u64 px0 (32:Int)) (16:Int))), (str_0.data[(w8 (shr .u64 (shr .u64 px0 (32:Int)) (16:Int))).toNat]?).map (fun b => (b.toNat : Int)) = some v1] (by kernel_rfl) ⟨hq1, hv1, trivial⟩ ?_
        refine Nxt_norm ?_
        refine Ab.ret ?_
        obtain rfl := Option.some.inj h
        exact End_ret (doneO_ok (md := [false]) (by kernel_rfl))
    · replace h := cond_f hb1 h
      refine Ab.skip ?_
      refine Nxt_norm ?_
      refine Ab.seq ?_
      refine Ab.seq ?_
      refine Ab.regT hE hC hL [] { keep := [0, 2, 14], ren := [] } ⟨[(0, (.t (.int .u64 (shr .u64 px0 (32:Int))))), (2, (.t (.int .i64 (32:Int)))), (14, (.t (.bool (decide ((shr .u64 px0 (32:Int)) ≥ (256:Int))))))], []⟩ [] (by kernel_rfl) trivial ?_
      refine Nxt_norm ?_
      refine Ab.cond (b := (decide ((shr .u64 px0 (32:Int)) ≥ (256:Int)))) (by kernel_rfl) (fun hb3 => ?_) (fun hb3 => ?_)
      · replace h := cond_t hb3 h
        refine Ab.seq ?_
        refine Ab.regT hE hC hL [] { keep := [0, 2], ren := [] } ⟨[(0, (.t (.int .u64 (shr .u64 (shr .u64 px0 (32:Int)) (8:Int))))), (2, (.t (.int .i64 (32:Int))))], []⟩ [] (by kernel_rfl) trivial ?_
        refine Nxt_norm ?_
        refine Ab.regT hE hC hL [] { keep := [0, 2], ren := [] } ⟨[(0, (.t (.int .u64 (shr .u64 (shr .u64 px0 (32:Int)) (8:Int))))), (2, (.t (.int .i64 (wi ((32:Int) + (8:Int))))))], []⟩ [] (by kernel_rfl) trivial ?_
        refine Nxt_norm ?_
        refine Ab.seq ?_
        obtain ⟨hq2, h⟩ := ask_dec h
        obtain ⟨v2, hv2, h⟩ := bind_some h
        refine Ab.regT hE hC hL [[], [], [], [.n v2]] { keep := [2], ren := [] } ⟨[(2, (.t (.int .i64 (wi ((wi ((32:Int) + (8:Int))) + (wi v2))))))], []⟩ [0 ≤ (w8 (shr .u64 (shr .u64 px0 (32:Int)) (8:Int))), (str_0.data[(w8 (shr .u64 (shr .u64 px0 (32:Int)) (8:Int))).toNat]?).map (fun b => (b.toNat : Int)) = some v2] (by kernel_rfl) ⟨hq2, hv2, trivial⟩ ?_
        refine Nxt_norm ?_
        refine Ab.ret ?_
        obtain rfl := Option.some.inj h
        exact End_ret (doneO_ok (md := [false]) (by kernel_rfl))
      · replace h := cond_f hb3 h
        refine Ab.skip ?_
        refine Nxt_norm ?_
        refine Ab.seq ?_
        obtain ⟨hq3, h⟩ := ask_dec h
        obtain ⟨v3, hv3, h⟩ := bind_some h
        refine Ab.regT hE hC hL [[], [], [], [.n v3]] { keep := [2], ren := [] } ⟨[(2, (.t (.int .i64 (wi ((32:Int) + (wi v3))))))], []⟩ [0 ≤ (w8 (shr .u64 px0 (32:Int))), (str_0.data[(w8 (shr .u64 px0 (32:Int))).toNat]?).map (fun b => (b.toNat : Int)) = some v3] (by kernel_rfl) ⟨hq3, hv3, trivial⟩ ?_
        refine Nxt_norm ?_
        refine Ab.ret ?_
        obtain rfl := Option.some.inj h
        exact End_ret (doneO_ok (md := [false]) (by kernel_rfl))
  · replace h := cond_f hb0 h
    refine Ab.skip ?_
    refine Nxt_norm ?_
    refine Ab.seq ?_
    refine Ab.seq ?_
    refine Ab.regT hE hC hL [] { keep := [0, 2, 8], ren := [] } ⟨[(0, (.t (.int .u64 px0))), (2, (.t (.int .i64 (0:Int)))), (8, (.t (.bool (decide (px0 ≥ (65536:Int))))))], []⟩ [] (by kernel_rfl) trivial ?_
    refine Nxt_norm ?_
    refine Ab.cond (b := (decide (px0 ≥ (65536:Int)))) (by kernel_rfl) (fun hb4 => ?_) (fun hb4 => ?_)
    · replace h := cond_t hb4 h
      refine Ab.seq ?_
      refine Ab.regT hE hC hL [] { keep := [0, 2], ren := [] } ⟨[(0, (.t (.int .u64 (shr .u64 px0 (16:Int))))), (2, (.t (.int .i64 (0:Int))))], []⟩ [] (by kernel_rfl) trivial ?_
      refine Nxt_norm ?_
      refine Ab.regT hE hC hL [] { keep := [0, 2], ren := [] } ⟨[(0, (.t (.int .u64 (shr .u64 px0 (16:Int))))), (2, (.t (.int .i64 (wi ((0:Int) + (16:Int))))))], []⟩ [] (by kernel_rfl) trivial ?_
      refine Nxt_norm ?_
      refine Ab.seq ?_
      refine Ab.seq ?_
      refine Ab.regT hE hC hL [] { keep := [0, 2, 14], ren := [] } ⟨[(0, (.t (.int .u64 (shr .u64 px0 (16:Int))))), (2, (.t (.int .i64 (wi ((0:Int) + (16:Int)))))), (14, (.t (.bool (decide ((shr .u64 px0 (16:Int)) ≥ (256:Int))))))], []⟩ [] (by kernel_rfl) trivial ?_
      refine Nxt_norm ?_
      refine Ab.cond (b := (decide ((shr .u64 px0 (16:Int)) ≥ (256:Int)))) (by kernel_rfl) (fun hb5 => ?_) (fun hb5 => ?_)
      · replace h := cond_t hb5 h
        refine Ab.seq ?_
        refine Ab.regT hE hC hL [] { keep := [0, 2], ren := [] } ⟨[(0, (.t (.int .u64 (shr .u64 (shr .u64 px0 (16:Int)) (8:Int))))), (2, (.t (.int .i64 (wi ((0:Int) + (16:Int))))))], []⟩ [] (by kernel_rfl) trivial ?_
        refine Nxt_norm ?_
        refine Ab.regT hE hC hL [] { keep := [0, 2], ren := [] } ⟨[(0, (.t (.int .u64 (shr .u64 (shr .u64 px0 (16:Int)) (8:Int))))), (2, (.t (.int .i64 (wi ((wi ((0:Int) + (16:Int))) + (8:Int))))))], []⟩ [] (by kernel_rfl) trivial ?_
        refine Nxt_norm ?_
        refine Ab.seq ?_
        obtain ⟨hq4, h⟩ := ask_dec h
        obtain ⟨v4, hv4, h⟩ := bind_some h
        refine Ab.regT hE hC hL [[], [], [], [.n v4]] { keep := [2], ren := [] } ⟨[(2, (.t (.int .i64 (wi ((wi ((wi ((0:Int) + (16:Int))) + (8:Int))) + (wi v4))))))], []⟩ [0 ≤ (w8 (shr .u64 (shr .u64 px0 (16:Int)) (8:Int))), (str_0.data[(w8 (shr .u64 (shr .u64 px0 (16:Int)) (8:Int))).toNat]?).map (fun b => (b.toNat : Int)) = some v4] (by kernel_rfl) ⟨hq4, hv4, trivial⟩ ?_
        refine Nxt_norm ?_
        refine Ab.ret ?_
        obtain rfl := Option.some.inj h
        exact End_ret (doneO_ok (md := [false]) (by kernel_rfl))
      · replace h := cond_f hb5 h
        refine Ab.skip ?_
        refine Nxt_norm ?_
        refine Ab.seq ?_
        obtain ⟨hq5, h⟩ := ask_dec h
        obtain ⟨v5, hv5, h⟩ := bind_some h
        refine Ab.regT hE hC hL [[], [], [], [.n v5]] { keep := [2], ren := [] } ⟨[(2, (.t (.int .i64 (wi ((wi ((0:Int) + (16:Int))) + (wi v5))))))], []⟩ [0 ≤ (w8 (shr .u64 px0 (16:Int))), (str_0.data[(w8 (shr .u64 px0 (16:Int))).toNat]?).map (fun b => (b.toNat : Int)) = some v5] (by kernel_rfl) ⟨hq5, hv5, trivial⟩ ?_
        refine Nxt_norm ?_
        refine Ab.ret ?_
        obtain rfl := Option.some.inj h
        exact End_ret (doneO_ok (md := [false]) (by kernel_rfl))
    · replace h := cond_f hb4 h
      refine Ab.skip ?_
      refine Nxt_norm ?_
      refine Ab.seq ?_
      refine Ab.seq ?_
      refine Ab.regT hE hC hL [] { keep := [0, 2, 14], ren := [] } ⟨[(0, (.t (.int .u64 px0))), (2, (.t (.int .i64 (0:Int)))), (14, (.t (.bool (decide (px0 ≥ (256:Int))))))], []⟩ [] (by kernel_rfl) trivial ?_
      refine Nxt_norm ?_
      refine Ab.cond (b := (decide (px0 ≥ (256:Int)))) (by kernel_rfl) (fun hb6 => ?_) (fun hb6 => ?_)
      · replace h := cond_t hb6 h
        refine Ab.seq ?_
        refine Ab.regT hE hC hL [] { keep := [0, 2], ren := [] } ⟨[(0, (.t (.int .u64 (shr .u64 px0 (8:Int))))), (2, (.t (.int .i64 (0:Int))))], []⟩ [] (by kernel_rfl) trivial ?_
        refine Nxt_norm ?_
        refine Ab.regT hE hC hL [] { keep := [0, 2], ren := [] } ⟨[(0, (.t (.int .u64 (shr .u64 px0 (8:Int))))), (2, (.t (.int .i64 (wi ((0:Int) + (8:Int))))))], []⟩ [] (by kernel_rfl) trivial ?_
        refine Nxt_norm ?_
        refine Ab.seq ?_
        obtain ⟨hq6, h⟩ := ask_dec h
        obtain ⟨v6, hv6, h⟩ := bind_some h
        refine Ab.regT hE hC hL [[], [], [], [.n v6]] { keep := [2], ren := [] } ⟨[(2, (.t (.int .i64 (wi ((wi ((0:Int) + (8:Int))) + (wi v6))))))], []⟩ [0 ≤ (w8 (shr .u64 px0 (8:Int))), (str_0.data[(w8 (shr .u64 px0 (8:Int))).toNat]?).map (fun b => (b.toNat : Int)) = some v6] (by kernel_rfl) ⟨hq6, hv6, trivial⟩ ?_
        refine Nxt_norm ?_
        refine Ab.ret ?_
        obtain rfl := Option.some.inj h
        exact End_ret (doneO_ok (md := [false]) (by kernel_rfl))
      · replace h := cond_f hb6 h
        refine Ab.skip ?_
        refine Nxt_norm ?_
        refine Ab.seq ?_
        obtain ⟨hq7, h⟩ := ask_dec h
        obtain ⟨v7, hv7, h⟩ := bind_some h
        refine Ab.regT hE hC hL [[], [], [], [.n v7]] { keep := [2], ren := [] } ⟨[(2, (.t (.int .i64 (wi ((0:Int) + (wi v7))))))], []⟩ [0 ≤ (w8 px0), (str_0.data[(w8 px0).toNat]?).map (fun b => (b.toNat : Int)) = some v7] (by kernel_rfl) ⟨hq7, hv7, trivial⟩ ?_
        refine Nxt_norm ?_
        refine Ab.ret ?_
        obtain rfl := Option.some.inj h
        exact End_ret (doneO_ok (md := [false]) (by kernel_rfl))
def ea_num_Root (a : Int) : List T := [(T.int .u64) a]
def er_num_Root (r : Int) : List RR × List T := ([.tree ((T.int .u64) r)], [])
noncomputable def sp_num_Root (n : Nat) : Spec := specP [] true ea_num_Root (fun a => f_num_Root n a) (fun _ r => er_num_Root r)
theorem ap_num_Root (n : Nat) {ts : List T} {a0 : Int} {r : Int} (hle : leTs ts [(T.int .u64) a0]) (h : f_num_Root n a0 = some r) : (sp_num_Root n).fn ts = some ([.tree ((T.int .u64) r)], []) :=
  specP_fn (a := a0) (InjA.one (inj_int _)) hle h
noncomputable def E_num_Root (n : Nat) : Env := { ty := tyT, glob := glob, fns := get [(36, sp_bits_Len64 n)], ntmps := 24 }
theorem eok_num_Root (n : Nat) : EnvOK Try.prog (E_num_Root n) := ⟨tys_ok tys_chk, prog_mixed, (fns_cons (ok_bits_Len64 n) fns_nil)⟩
def K_num_Root (n : Nat) (pn0 : Int) (r : Int) : St → Prop := Done (E_num_Root n) Try.f24.results.toList [] (ea_num_Root pn0) (er_num_Root r).1 (er_num_Root r).2
set_option maxRecDepth 100000 in
set_option maxHeartbeats 4000000 in
theorem ok_num_Root (n : Nat) : SpecOK Try.prog glob 24 (sp_num_Root n) := by
  refine specP_ok (fn := Try.f24) (eok_num_Root n) (by kernel_rfl) rfl (by decide +kernel) (by kernel_rfl) (fun _ => by show 1 ≤ 24; omega) (fun _ _ r => ⟨(rrf_tree ((fun _ => rfl) _) rrf_nil), flats_nil⟩) ?_
  rintro pn0 r h C hL hC
  have hE := eok_num_Root n
  replace hL : ∀ n g, (n, g) ∈ C.lent → n ∈ ([] : List Nat) := hL
  replace h : f_num_Root n pn0 = some r := h
  show Ab _ _ _ _ _ (End (K_num_Root n pn0 r))
  unfold f_num_Root at h
  refine Ab.seq ?_
  refine Ab.regT hE hC hL [] { keep := [0], ren := [] } ⟨[(0, (.t (.int .u64 pn0)))], []⟩ [] (by kernel_rfl) trivial ?_
  refine Nxt_norm ?_
  refine Ab.seq ?_
  refine Ab.seq ?_
  refine Ab.regT hE hC hL [] { keep := [0, 6], ren := [] } ⟨[(0, (.t (.int .u64 pn0))), (6, (.t (.bool (decide (pn0 < (2:Int))))))], []⟩ [] (by kernel_rfl) trivial ?_
  refine Nxt_norm ?_
  refine Ab.cond (b := (decide (pn0 < (2:Int)))) (by kernel_rfl) (fun hb0 => ?_) (fun hb0 => ?_)
  · replace h := cond_t hb0 h
    refine Ab.seq ?_
    refine Ab.regT hE hC hL [] { keep := [2], ren := [] } ⟨[(2, (.t (.int .u64 pn0)))], []⟩ [] (by kernel_rfl) trivial ?_
    refine Nxt_norm ?_
    refine Ab.ret ?_
    refine Nxt_ret ?_
    obtain rfl := Option.some.inj h
    exact End_ret (doneO_ok (md := [false]) (by kernel_rfl))
  · replace h := cond_f hb0 h
    refine Ab.skip ?_
    refine Nxt_norm ?_
    refine Ab.seq ?_
    obtain ⟨r0, hr0, h⟩ := bind_some h
    obtain ⟨hq0, h⟩ := ask_dec h
    refine Ab.regT hE hC hL [[], [.r [.tree (.int .i64 r0)] []], [], [], [.c]] { keep := [0, 3], ren := [] } ⟨[(0, (.t (.int .u64 pn0))), (3, (.t (.int .u64 (shl .u64 (1:Int) (wi ((wi (r0 + (1:Int))).tdiv (2:Int)))))))], []⟩ [(sp_bits_Len64 n).fn [(.int .u64 pn0)] = some ([.tree (.int .i64 r0)], []), ¬ (wi ((wi (r0 + (1:Int))).tdiv (2:Int))) < 0] (by kernel_rfl) ⟨(ap_bits_Len64 n (by exact ⟨leT.refl _, trivial⟩) hr0), (Int.not_lt.2 hq0), trivial⟩ ?_
    refine Nxt_norm ?_
    obtain ⟨x0, hx0, h⟩ := bind_some h
    refine Ab.loopR0 (fun (a0 : Int) => (⟨[(0, (.t (.int .u64 pn0))), (3, (.t (.int .u64 a0)))], []⟩ : St)) (fun (e : Empty) => (e.elim : St)) (fun r9 => K_num_Root n pn0 r9) { fs := [], keep := [0, 3], ren := [] } (shl .u64 (1:Int) (wi ((wi (r0 + (1:Int))).tdiv (2:Int)))) hC hL hx0 (by kernel_rfl) ?_ (fun r9 s9 e hs => ?_) (fun x1 e => ?_)
    · rintro a0 o0 h
      replace h : f_num_Root_b0 n pn0 a0 = some o0 := h
      unfold f_num_Root_b0 at h
      refine Ab.block ?_
      refine Ab.seq ?_
      obtain ⟨hq1, h⟩ := ask_dec h
      refine Ab.regT hE hC hL [[], [], [], [.c]] { keep := [0, 3, 4], ren := [] } ⟨[(0, (.t (.int .u64 pn0))), (3, (.t (.int .u64 a0))), (4, (.t (.int .u64 (w64 ((w64 (a0 + (w64 (pn0.tdiv a0)))).tdiv (2:Int))))))], []⟩ [a0 ≠ 0] (by kernel_rfl) ⟨hq1, trivial⟩ ?_
      refine Nxt_norm ?_
      refine Ab.seq ?_
      refine Ab.seq ?_
      refine Ab.regT hE hC hL [] { keep := [0, 3, 4, 21], ren := [] } ⟨[(0, (.t (.int .u64 pn0))), (3, (.t (.int .u64 a0))), (4, (.t (.int .u64 (w64 ((w64 (a0 + (w64 (pn0.tdiv a0)))).tdiv (2:Int)))))), (21, (.t (.bool (decide ((w64 ((w64 (a0 + (w64 (pn0.tdiv a0)))).tdiv (2:Int))) ≥ a0)))))], []⟩ [] (by kernel_rfl) trivial ?_
      refine Nxt_norm ?_
      refine Ab.cond (b := (decide ((w64 ((w64 (a0 + (w64 (pn0.tdiv a0)))).tdiv (2:Int))) ≥ a0))) (by kernel_rfl) (fun hb1 => ?_) (fun hb1 => ?_)
      · replace h := cond_t hb1 h
        refine Ab.seq ?_
        refine Ab.regT hE hC hL [] { keep := [2], ren := [] } ⟨[(2, (.t (.int .u64 a0)))], []⟩ [] (by kernel_rfl) trivial ?_
        refine Nxt_norm ?_
        refine Ab.ret ?_
        refine Nxt_ret ?_
        refine Blk_ret ?_
        exact LK_ret (.inl a0) h (PR_ret (doneO_ok (md := [false]) (by kernel_rfl)))
      · replace h := cond_f hb1 h
        refine Ab.skip ?_
        refine Nxt_norm ?_
        refine Ab.regT hE hC hL [] { keep := [0, 3], ren := [] } ⟨[(0, (.t (.int .u64 pn0))), (3, (.t (.int .u64 (w64 ((w64 (a0 + (w64 (pn0.tdiv a0)))).tdiv (2:Int))))))], []⟩ [] (by kernel_rfl) trivial ?_
        refine Blk_norm ?_
        exact LK_norm (w64 ((w64 (a0 + (w64 (pn0.tdiv a0)))).tdiv (2:Int))) { fs := [], keep := [0, 3], ren := [] } h (by kernel_rfl)
    · subst e
      replace h := elim_l h
      obtain rfl := Option.some.inj h
      exact End_ret hs
    · subst e
      replace h := elim_r h
      exact x1.elim
def ea_num_Add (a : Int × Int) : List T := [(T.int .u64) a.1, (T.int .u64) a.2]
def er_num_Add (r : (Int × Bool)) : List RR × List T := ([.tree ((T.int .u64) r.1), .tree (T.bool r.2)], [])
noncomputable def sp_num_Add (n : Nat) : Spec := specP [] true ea_num_Add (fun a => f_num_Add n a.1 a.2) (fun _ r => er_num_Add r)
theorem ap_num_Add (n : Nat) {ts : List T} {a0 : Int} {a1 : Int} {r : (Int × Bool)} (hle : leTs ts [(T.int .u64) a0, (T.int .u64) a1]) (h : f_num_Add n a0 a1 = some r) : (sp_num_Add n).fn ts = some ([.tree ((T.int .u64) r.1), .tree (T.bool r.2)], []) :=
  specP_fn (a := (a0, a1)) (InjA.cons (inj_int _) (InjA.one (inj_int _))) hle h
noncomputable def E_num_Add (n : Nat) : Env := { ty := tyT, glob := glob, fns := get [(37, sp_bits_Add64 n)], ntmps := 17 }
theorem eok_num_Add (n : Nat) : EnvOK Try.prog (E_num_Add n) := ⟨tys_ok tys_chk, prog_mixed, (fns_cons (ok_bits_Add64 n) fns_nil)⟩
def K_num_Add (n : Nat) (pa0 : Int) (pb0 : Int) (r : (Int × Bool)) : St → Prop := Done (E_num_Add n) Try.f27.results.toList [] (ea_num_Add (pa0, pb0)) (er_num_Add r).1 (er_num_Add r).2
set_option maxRecDepth 100000 in
set_option maxHeartbeats 4000000 in
theorem ok_num_Add (n : Nat) : SpecOK Try.prog glob 27 (sp_num_Add n) := by
  refine specP_ok (fn := Try.f27) (eok_num_Add n) (by kernel_rfl) rfl (by decide +kernel) (by kernel_rfl) (fun _ => by show 2 ≤ 17; omega) (fun _ _ r => ⟨(rrf_tree ((fun _ => rfl) _) (rrf_tree ((fun _ => rfl) _) rrf_nil)), flats_nil⟩) ?_
  rintro ⟨pa0, pb0⟩ r h C hL hC
  have hE := eok_num_Add n
  replace hL : ∀ n g, (n, g) ∈ C.lent → n ∈ ([] : List Nat) := hL
  replace h : f_num_Add n pa0 pb0 = some r := h
  show Ab _ _ _ _ _ (End (K_num_Add n pa0 pb0 r))
  unfold f_num_Add at h
  refine Ab.seq ?_
  refine Ab.regT hE hC hL [] { keep := [0, 1], ren := [] } ⟨[(0, (.t (.int .u64 pa0))), (1, (.t (.int .u64 pb0)))], []⟩ [] (by kernel_rfl) trivial ?_
  refine Nxt_norm ?_
  refine Ab.seq ?_
  obtain ⟨r0, hr0, h⟩ := bind_some h
  refine Ab.regT hE hC hL [[], [], [.r [.tree (.int .u64 r0.1), .tree (.int .u64 r0.2)] []]] { keep := [6, 7], ren := [] } ⟨[(6, (.t (.int .u64 r0.1))), (7, (.t (.int .u64 r0.2)))], []⟩ [(sp_bits_Add64 n).fn [(.int .u64 pa0), (.int .u64 pb0), (.int .u64 (0:Int))] = some ([.tree (.int .u64 r0.1), .tree (.int .u64 r0.2)], [])] (by kernel_rfl) ⟨(ap_bits_Add64 n (by exact ⟨leT.refl _, leT.refl _, leT.refl _, trivial⟩) hr0), trivial⟩ ?_
  refine Nxt_norm ?_
  refine Ab.seq ?_
  refine Ab.seq ?_
  refine Ab.regT hE hC hL [] { keep := [6, 15], ren := [] } ⟨[(6, (.t (.int .u64 r0.1))), (15, (.t (.bool (r0.2 != (0:Int)))))], []⟩ [] (by kernel_rfl) trivial ?_
  refine Nxt_norm ?_
  refine Ab.cond (b := (r0.2 != (0:Int))) (by kernel_rfl) (fun hb0 => ?_) (fun hb0 => ?_)
  · replace h := cond_t hb0 h
    refine Ab.seq ?_
    refine Ab.regT hE hC hL [] { keep := [4, 5], ren := [] } ⟨[(4, (.t (.int .u64 (0:Int)))), (5, (.t (.bool false)))], []⟩ [] (by kernel_rfl) trivial ?_
    refine Nxt_norm ?_
    refine Ab.ret ?_
    refine Nxt_ret ?_
    obtain rfl := Option.some.inj h
    exact End_ret (doneO_ok (md := [false, false]) (by kernel_rfl))
  · replace h := cond_f hb0 h
    refine Ab.skip ?_
    refine Nxt_norm ?_
    refine Ab.seq ?_
    refine Ab.regT hE hC hL [] { keep := [4, 5], ren := [] } ⟨[(4, (.t (.int .u64 r0.1))), (5, (.t (.bool true)))], []⟩ [] (by kernel_rfl) trivial ?_
    refine Nxt_norm ?_
    refine Ab.ret ?_
    obtain rfl := Option.some.inj h
    exact End_ret (doneO_ok (md := [false, false]) (by kernel_rfl))

end Go.Mg
