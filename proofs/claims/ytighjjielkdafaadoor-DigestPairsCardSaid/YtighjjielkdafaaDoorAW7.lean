/- The model's code computes these functions. -/
import Derived.Test.YtighjjielkdafaaDoorAW6
namespace Go.Mg
open Go Go.Proofs
def ea_law03_MerkleProves (a : (List (Arr 32 Int)) × Int × Int × (Arr 32 Int)) : List T := [(eS 32 (eA 1 (T.int .u8))) a.1, (T.int .i64) a.2.1, (T.int .i64) a.2.2.1, (eA 1 (T.int .u8)) a.2.2.2]
def er_law03_MerkleProves (r : Bool) : List RR × List T := ([.tree (T.bool r)], [])
noncomputable def sp_law03_MerkleProves (n : Nat) : Spec := specP [] true ea_law03_MerkleProves (fun a => f_law03_MerkleProves n a.1 a.2.1 a.2.2.1 a.2.2.2) (fun _ r => er_law03_MerkleProves r)
theorem ap_law03_MerkleProves (n : Nat) {ts : List T} {a0 : (List (Arr 32 Int))} {a1 : Int} {a2 : Int} {a3 : (Arr 32 Int)} {r : Bool} (hle : leTs ts [(eS 32 (eA 1 (T.int .u8))) a0, (T.int .i64) a1, (T.int .i64) a2, (eA 1 (T.int .u8)) a3]) (h : f_law03_MerkleProves n a0 a1 a2 a3 = some r) : (sp_law03_MerkleProves n).fn ts = some ([.tree (T.bool r)], []) :=
  specP_fn (a := (a0, a1, a2, a3)) (InjA.cons (inj_eS (inj_eA (inj_int _))) (InjA.cons (inj_int _) (InjA.cons (inj_int _) (InjA.one (inj_eA (inj_int _)))))) hle h
noncomputable def E_law03_MerkleProves (n : Nat) : Env := { ty := tyT, glob := glob, fns := get [(28, sp_law03_Awake n), (29, sp_merkle_Tree n), (30, sp_law03_own n), (41, sp_merkle_Branch n), (43, sp_merkle_Verify n)], ntmps := 116 }
theorem eok_law03_MerkleProves (n : Nat) : EnvOK Tryd.prog (E_law03_MerkleProves n) := ⟨tys_ok tys_chk, prog_mixed, (fns_cons (ok_law03_Awake n) (fns_cons (ok_merkle_Tree n) (fns_cons (ok_law03_own n) (fns_cons (ok_merkle_Branch n) (fns_cons (ok_merkle_Verify n) fns_nil)))))⟩
def K_law03_MerkleProves (n : Nat) (pl0 : (List (Arr 32 Int))) (pdepth0 : Int) (pindex0 : Int) (pother0 : (Arr 32 Int)) (r : Bool) : St → Prop := Done (E_law03_MerkleProves n) Tryd.f12.results.toList [] (ea_law03_MerkleProves (pl0, pdepth0, pindex0, pother0)) (er_law03_MerkleProves r).1 (er_law03_MerkleProves r).2
set_option maxRecDepth 100000 in
set_option maxHeartbeats 4000000 in
theorem ok_law03_MerkleProves (n : Nat) : SpecB Tryd.prog glob 12 (sp_law03_MerkleProves n) := by
  refine specP_B (fn := Tryd.f12) (eok_law03_MerkleProves n) (by kernel_rfl) rfl (by decide +kernel) (by kernel_rfl) (fun _ => by show 4 ≤ 116; omega)  ?_
  rintro ⟨pl0, pdepth0, pindex0, pother0⟩ r h C hL hC
  have hE := eok_law03_MerkleProves n
  replace hL : ∀ n g, (n, g) ∈ C.lent → n ∈ ([] : List Nat) := hL
  replace h : f_law03_MerkleProves n pl0 pdepth0 pindex0 pother0 = some r := h
  show Ab _ _ _ _ _ (End (K_law03_MerkleProves n pl0 pdepth0 pindex0 pother0 r))
  unfold f_law03_MerkleProves at h
  refine Ab.seq ?_
  refine Ab.regT hE hC hL [] { keep := [0, 1, 2, 7], ren := [(7, 7)] } ⟨[(0, (.t ((eS 32 (eA 1 (T.int .u8))) pl0))), (1, (.t (.int .i64 pdepth0))), (2, (.t (.int .i64 pindex0))), (7, (.ref 7 [] (0)))], [(7, (.var false 25 (.t ((eA 1 (T.int .u8)) pother0))))]⟩ [] (by kernel_rfl) trivial ?_
  refine Nxt_norm ?_
  refine Ab.seq ?_
  refine Ab.seq ?_
  obtain ⟨r0, hr0, h⟩ := bind_some h
  refine Ab.regT hE hC hL [[.r [.tree (.bool r0)] []]] { keep := [0, 1, 2, 7, 17], ren := [(7, 7)] } ⟨[(0, (.t ((eS 32 (eA 1 (T.int .u8))) pl0))), (1, (.t (.int .i64 pdepth0))), (2, (.t (.int .i64 pindex0))), (7, (.ref 7 [] (0))), (17, (.t (.bool (!r0))))], [(7, (.var false 25 (.t ((eA 1 (T.int .u8)) pother0))))]⟩ [(sp_law03_Awake n).fn [] = some ([.tree (.bool r0)], [])] (by kernel_rfl) ⟨(ap_law03_Awake n (by exact trivial) hr0), trivial⟩ ?_
  refine Nxt_norm ?_
  refine Ab.cond (b := (!r0)) (by kernel_rfl) (fun hb0 => ?_) (fun hb0 => ?_)
  · replace h := cond_t hb0 h
    refine Ab.seq ?_
    refine Ab.regT hE hC hL [] { keep := [8], ren := [] } ⟨[(8, (.t (.bool false)))], []⟩ [] (by kernel_rfl) trivial ?_
    refine Nxt_norm ?_
    refine Ab.ret ?_
    refine Nxt_ret ?_
    obtain rfl := Option.some.inj h
    exact End_ret (doneO_ok (md := [false]) (by kernel_rfl))
  · replace h := cond_f hb0 h
    refine Ab.skip ?_
    refine Nxt_norm ?_
    refine Ab.seq ?_
    refine Ab.regT hE hC hL [] { keep := [0, 1, 2, 7], ren := [(7, 7)] } ⟨[(0, (.t ((eS 32 (eA 1 (T.int .u8))) pl0))), (1, (.t (.int .i64 (wi ((w64 pdepth0).tmod (7:Int)))))), (2, (.t (.int .i64 pindex0))), (7, (.ref 7 [] (0)))], [(7, (.var false 25 (.t ((eA 1 (T.int .u8)) pother0))))]⟩ [] (by kernel_rfl) trivial ?_
    refine Nxt_norm ?_
    refine Ab.seq ?_
    refine Ab.seq ?_
    obtain ⟨hq0, h⟩ := ask_dec h
    rcases Bool.eq_false_or_eq_true (decide ((pl0.length : Int) > (shl .i64 (1:Int) (wi ((w64 pdepth0).tmod (7:Int)))))) with hb1 | hb1
    · replace h := cond_t hb1 h
      refine Ab.regT hE hC hL [[], [.n (pl0.length : Int)], [], [.c], [], [.b true]] { keep := [0, 1, 2, 7, 31], ren := [(7, 7)] } ⟨[(0, (.t ((eS 32 (eA 1 (T.int .u8))) pl0))), (1, (.t (.int .i64 (wi ((w64 pdepth0).tmod (7:Int)))))), (2, (.t (.int .i64 pindex0))), (7, (.ref 7 [] (0))), (31, (.t (.bool true)))], [(7, (.var false 25 (.t ((eA 1 (T.int .u8)) pother0))))]⟩ [((List.length (List.map (eA 1 (T.int .u8)) pl0) : Nat) : Int) = (pl0.length : Int), ¬ (wi ((w64 pdepth0).tmod (7:Int))) < 0, (decide ((pl0.length : Int) > (shl .i64 (1:Int) (wi ((w64 pdepth0).tmod (7:Int)))))) = true] (by kernel_rfl) ⟨(len_of rfl), (Int.not_lt.2 hq0), hb1, trivial⟩ ?_
      refine Nxt_norm ?_
      refine Ab.cond (b := true) (by kernel_rfl) (fun _ => ?_) (fun hb => Bool.noConfusion hb)
      refine Ab.seq ?_
      refine Ab.regT hE hC hL [] { keep := [8], ren := [] } ⟨[(8, (.t (.bool true)))], []⟩ [] (by kernel_rfl) trivial ?_
      refine Nxt_norm ?_
      refine Ab.ret ?_
      refine Nxt_ret ?_
      obtain rfl := Option.some.inj h
      exact End_ret (doneO_ok (md := [false]) (by kernel_rfl))
    · replace h := cond_f hb1 h
      refine Ab.regT hE hC hL [[], [.n (pl0.length : Int)], [], [.c], [], [.b false], [], [.n (pl0.length : Int)]] { keep := [0, 1, 2, 7, 31], ren := [(7, 7)] } ⟨[(0, (.t ((eS 32 (eA 1 (T.int .u8))) pl0))), (1, (.t (.int .i64 (wi ((w64 pdepth0).tmod (7:Int)))))), (2, (.t (.int .i64 pindex0))), (7, (.ref 7 [] (0))), (31, (.t (.bool ((pl0.length : Int) == (0:Int)))))], [(7, (.var false 25 (.t ((eA 1 (T.int .u8)) pother0))))]⟩ [((List.length (List.map (eA 1 (T.int .u8)) pl0) : Nat) : Int) = (pl0.length : Int), ¬ (wi ((w64 pdepth0).tmod (7:Int))) < 0, (decide ((pl0.length : Int) > (shl .i64 (1:Int) (wi ((w64 pdepth0).tmod (7:Int)))))) = false, ((List.length (List.map (eA 1 (T.int .u8)) pl0) : Nat) : Int) = (pl0.length : Int)] (by kernel_rfl) ⟨(len_of rfl), (Int.not_lt.2 hq0), hb1, (len_of rfl), trivial⟩ ?_
      refine Nxt_norm ?_
      refine Ab.cond (b := ((pl0.length : Int) == (0:Int))) (by kernel_rfl) (fun hb2 => ?_) (fun hb2 => ?_)
      · replace h := cond_t hb2 h
        refine Ab.seq ?_
        refine Ab.regT hE hC hL [] { keep := [8], ren := [] } ⟨[(8, (.t (.bool true)))], []⟩ [] (by kernel_rfl) trivial ?_
        refine Nxt_norm ?_
        refine Ab.ret ?_
        refine Nxt_ret ?_
        obtain rfl := Option.some.inj h
        exact End_ret (doneO_ok (md := [false]) (by kernel_rfl))
      · replace h := cond_f hb2 h
        refine Ab.skip ?_
        refine Nxt_norm ?_
        refine Ab.seq ?_
        obtain ⟨hq1, h⟩ := ask_dec h
        refine Ab.regT hE hC hL [[], [], [], [.n (pl0.length : Int)], [], [.c]] { keep := [0, 1, 2, 7], ren := [(7, 7)] } ⟨[(0, (.t ((eS 32 (eA 1 (T.int .u8))) pl0))), (1, (.t (.int .i64 (wi ((w64 pdepth0).tmod (7:Int)))))), (2, (.t (.int .i64 (wi ((w64 pindex0).tmod (w64 (pl0.length : Int))))))), (7, (.ref 7 [] (0)))], [(7, (.var false 25 (.t ((eA 1 (T.int .u8)) pother0))))]⟩ [((List.length (List.map (eA 1 (T.int .u8)) pl0) : Nat) : Int) = (pl0.length : Int), (w64 (pl0.length : Int)) ≠ 0] (by kernel_rfl) ⟨(len_of rfl), hq1, trivial⟩ ?_
        refine Nxt_norm ?_
        refine Ab.seq ?_
        obtain ⟨r1, hr1, h⟩ := bind_some h
        obtain ⟨r2, hr2, h⟩ := bind_some h
        refine Ab.regA hE hC hL [[], [.r [.row 25 32 (List.map (eA 1 (T.int .u8)) r1)] []], [], [.c], [.r [.tree ((eA 1 (T.int .u8)) r2.1), .tree (.int .i64 r2.2)] []]] { keep := [0, 1, 2, 7, 9, 10], ren := [(7, 7), (9, 9)] } ⟨[(0, (.t ((eS 32 (eA 1 (T.int .u8))) pl0))), (1, (.t (.int .i64 (wi ((w64 pdepth0).tmod (7:Int)))))), (2, (.t (.int .i64 (wi ((w64 pindex0).tmod (w64 (pl0.length : Int))))))), (7, (.ref 7 [] (0))), (9, (.ref 9 [] (0))), (10, (.t (.int .i64 r2.2)))], [(7, (.var false 25 (.t ((eA 1 (T.int .u8)) pother0)))), (9, (.var false 25 (.t ((eA 1 (T.int .u8)) r2.1))))]⟩ [(sp_law03_own n).fn [((eS 32 (eA 1 (T.int .u8))) pl0)] = some ([.row 25 32 (List.map (eA 1 (T.int .u8)) r1)], []), ¬ (wi ((w64 pdepth0).tmod (7:Int))) < 0, (sp_merkle_Tree n).fn [(.slc 32 (List.map (eA 1 (T.int .u8)) r1)), (.int .i64 (shl .i64 (1:Int) (wi ((w64 pdepth0).tmod (7:Int)))))] = some ([.tree ((eA 1 (T.int .u8)) r2.1), .tree (.int .i64 r2.2)], [])] (by kernel_rfl) (by kernel_rfl) ⟨(ap_law03_own n (by exact ⟨leT.refl _, trivial⟩) hr1), (Int.not_lt.2 hq0), (ap_merkle_Tree n (by exact ⟨leT.refl _, leT.refl _, trivial⟩) hr2), trivial⟩ ?_
        refine Nxt_norm ?_
        refine Ab.seq ?_
        obtain ⟨r3, hr3, h⟩ := bind_some h
        obtain ⟨r4, hr4, h⟩ := bind_some h
        refine Ab.regT hE hC hL [[], [.r [.row 25 32 (List.map (eA 1 (T.int .u8)) r3)] []], [], [], [.r [.row 25 32 (List.map (eA 1 (T.int .u8)) r4.1), .tree (.int .i64 r4.2)] []]] { keep := [0, 1, 2, 7, 9, 10, 11, 12], ren := [(7, 7), (9, 9), (52, 52)] } ⟨[(0, (.t ((eS 32 (eA 1 (T.int .u8))) pl0))), (1, (.t (.int .i64 (wi ((w64 pdepth0).tmod (7:Int)))))), (2, (.t (.int .i64 (wi ((w64 pindex0).tmod (w64 (pl0.length : Int))))))), (7, (.ref 7 [] (0))), (9, (.ref 9 [] (0))), (10, (.t (.int .i64 r2.2))), (11, (.own 52)), (12, (.t (.int .i64 r4.2)))], [(7, (.var false 25 (.t ((eA 1 (T.int .u8)) pother0)))), (9, (.var false 25 (.t ((eA 1 (T.int .u8)) r2.1)))), (52, (.row false 25 32 (List.map (eA 1 (T.int .u8)) r4.1)))]⟩ [(sp_law03_own n).fn [((eS 32 (eA 1 (T.int .u8))) pl0)] = some ([.row 25 32 (List.map (eA 1 (T.int .u8)) r3)], []), (sp_merkle_Branch n).fn [(.slc 32 (List.map (eA 1 (T.int .u8)) r3)), (.int .i64 (wi ((w64 pdepth0).tmod (7:Int)))), (.int .i64 (wi ((w64 pindex0).tmod (w64 (pl0.length : Int)))))] = some ([.row 25 32 (List.map (eA 1 (T.int .u8)) r4.1), .tree (.int .i64 r4.2)], [])] (by kernel_rfl) ⟨(ap_law03_own n (by exact ⟨leT.refl _, trivial⟩) hr3), (ap_merkle_Branch n (by exact ⟨leT.refl _, leT.refl _, leT.refl _, trivial⟩) hr4), trivial⟩ ?_
        refine Nxt_norm ?_
        refine Ab.seq ?_
        obtain ⟨r5, hr5, h⟩ := bind_some h
        refine Ab.regT hE hC hL [[], [.r [.row 25 32 (List.map (eA 1 (T.int .u8)) r5)] []]] { keep := [0, 1, 2, 7, 9, 10, 11, 12, 13], ren := [(7, 7), (9, 9), (52, 52), (56, 56)] } ⟨[(0, (.t ((eS 32 (eA 1 (T.int .u8))) pl0))), (1, (.t (.int .i64 (wi ((w64 pdepth0).tmod (7:Int)))))), (2, (.t (.int .i64 (wi ((w64 pindex0).tmod (w64 (pl0.length : Int))))))), (7, (.ref 7 [] (0))), (9, (.ref 9 [] (0))), (10, (.t (.int .i64 r2.2))), (11, (.own 52)), (12, (.t (.int .i64 r4.2))), (13, (.own 56))], [(7, (.var false 25 (.t ((eA 1 (T.int .u8)) pother0)))), (9, (.var false 25 (.t ((eA 1 (T.int .u8)) r2.1)))), (52, (.row false 25 32 (List.map (eA 1 (T.int .u8)) r4.1))), (56, (.row false 25 32 (List.map (eA 1 (T.int .u8)) r5)))]⟩ [(sp_law03_own n).fn [((eS 32 (eA 1 (T.int .u8))) pl0)] = some ([.row 25 32 (List.map (eA 1 (T.int .u8)) r5)], [])] (by kernel_rfl) ⟨(ap_law03_own n (by exact ⟨leT.refl _, trivial⟩) hr5), trivial⟩ ?_
        refine Nxt_norm ?_
        refine Ab.seq ?_
        obtain ⟨hq2, h⟩ := ask_dec h
        obtain ⟨hq3, h⟩ := ask_dec h
        obtain ⟨v0, hv0, h⟩ := bind_some h
        refine Ab.regT hE hC hL [[], [], [], [.c], [.t ((eA 1 (T.int .u8)) v0), .l (List.map (eA 1 (T.int .u8)) (List.set r5 ((wi ((w64 pindex0).tmod (w64 (pl0.length : Int)))).toNat) pother0))]] { keep := [0, 1, 2, 7, 9, 10, 11, 12, 13], ren := [(7, 7), (9, 9), (52, 52), (56, 56)] } ⟨[(0, (.t ((eS 32 (eA 1 (T.int .u8))) pl0))), (1, (.t (.int .i64 (wi ((w64 pdepth0).tmod (7:Int)))))), (2, (.t (.int .i64 (wi ((w64 pindex0).tmod (w64 (pl0.length : Int))))))), (7, (.ref 7 [] (0))), (9, (.ref 9 [] (0))), (10, (.t (.int .i64 r2.2))), (11, (.own 52)), (12, (.t (.int .i64 r4.2))), (13, (.own 56))], [(7, (.var false 25 (.t ((eA 1 (T.int .u8)) pother0)))), (9, (.var false 25 (.t ((eA 1 (T.int .u8)) r2.1)))), (52, (.row false 25 32 (List.map (eA 1 (T.int .u8)) r4.1))), (56, (.row false 25 32 (List.map (eA 1 (T.int .u8)) (List.set r5 ((wi ((w64 pindex0).tmod (w64 (pl0.length : Int)))).toNat) pother0))))]⟩ [0 ≤ (wi ((w64 pindex0).tmod (w64 (pl0.length : Int)))), (wi ((w64 pindex0).tmod (w64 (pl0.length : Int)))).toNat < List.length (List.map (eA 1 (T.int .u8)) r5), (wi ((w64 pindex0).tmod (w64 (pl0.length : Int)))).toNat * 32 + 0 = (wi ((w64 pindex0).tmod (w64 (pl0.length : Int)))).toNat * 32, (List.map (eA 1 (T.int .u8)) r5)[(wi ((w64 pindex0).tmod (w64 (pl0.length : Int)))).toNat]? = some ((eA 1 (T.int .u8)) v0), (List.map (eA 1 (T.int .u8)) r5)[(wi ((w64 pindex0).tmod (w64 (pl0.length : Int)))).toNat]? = some ((eA 1 (T.int .u8)) v0), (List.map (eA 1 (T.int .u8)) r5).set ((wi ((w64 pindex0).tmod (w64 (pl0.length : Int)))).toNat) ((eA 1 (T.int .u8)) pother0) = List.map (eA 1 (T.int .u8)) (List.set r5 ((wi ((w64 pindex0).tmod (w64 (pl0.length : Int)))).toNat) pother0)] (by kernel_rfl) ⟨hq2, (by rw [List.length_map]; exact hq3), (by omega), (at_map hv0), (at_map hv0), set_map, trivial⟩ ?_
        refine Nxt_norm ?_
        refine Ab.seq ?_
        obtain ⟨r6, hr6, h⟩ := bind_some h
        obtain ⟨r7, hr7, h⟩ := bind_some h
        refine Ab.regA hE hC hL [[], [.r [.row 25 32 (List.map (eA 1 (T.int .u8)) r6)] []], [], [.c], [.r [.tree ((eA 1 (T.int .u8)) r7.1), .tree (.int .i64 r7.2)] []]] { keep := [0, 1, 2, 7, 9, 10, 11, 12, 14, 15], ren := [(7, 7), (9, 9), (14, 14), (52, 52)] } ⟨[(0, (.t ((eS 32 (eA 1 (T.int .u8))) pl0))), (1, (.t (.int .i64 (wi ((w64 pdepth0).tmod (7:Int)))))), (2, (.t (.int .i64 (wi ((w64 pindex0).tmod (w64 (pl0.length : Int))))))), (7, (.ref 7 [] (0))), (9, (.ref 9 [] (0))), (10, (.t (.int .i64 r2.2))), (11, (.own 52)), (12, (.t (.int .i64 r4.2))), (14, (.ref 14 [] (0))), (15, (.t (.int .i64 r7.2)))], [(7, (.var false 25 (.t ((eA 1 (T.int .u8)) pother0)))), (9, (.var false 25 (.t ((eA 1 (T.int .u8)) r2.1)))), (14, (.var false 25 (.t ((eA 1 (T.int .u8)) r7.1)))), (52, (.row false 25 32 (List.map (eA 1 (T.int .u8)) r4.1)))]⟩ [(sp_law03_own n).fn [(.slc 32 (List.map (eA 1 (T.int .u8)) (List.set r5 ((wi ((w64 pindex0).tmod (w64 (pl0.length : Int)))).toNat) pother0)))] = some ([.row 25 32 (List.map (eA 1 (T.int .u8)) r6)], []), ¬ (wi ((w64 pdepth0).tmod (7:Int))) < 0, (sp_merkle_Tree n).fn [(.slc 32 (List.map (eA 1 (T.int .u8)) r6)), (.int .i64 (shl .i64 (1:Int) (wi ((w64 pdepth0).tmod (7:Int)))))] = some ([.tree ((eA 1 (T.int .u8)) r7.1), .tree (.int .i64 r7.2)], [])] (by kernel_rfl) (by kernel_rfl) ⟨(ap_law03_own n (by exact ⟨leT.refl _, trivial⟩) hr6), (Int.not_lt.2 hq0), (ap_merkle_Tree n (by exact ⟨leT.refl _, leT.refl _, trivial⟩) hr7), trivial⟩ ?_
        refine Nxt_norm ?_
        refine Ab.seq ?_
        rcases Bool.eq_false_or_eq_true (r2.2 == (0:Int)) with hb3 | hb3
        · replace h := cond_t hb3 h
          rcases Bool.eq_false_or_eq_true (r4.2 == (0:Int)) with hb4 | hb4
          · replace h := cond_t hb4 h
            rcases Bool.eq_false_or_eq_true (r7.2 == (0:Int)) with hb5 | hb5
            · replace h := cond_t hb5 h
              rcases Bool.eq_false_or_eq_true ((r4.1.length : Int) == (wi ((w64 pdepth0).tmod (7:Int)))) with hb6 | hb6
              · replace h := cond_t hb6 h
                obtain ⟨v1, hv1, h⟩ := bind_some h
                obtain ⟨r8, hr8, h⟩ := bind_some h
                rcases Bool.eq_false_or_eq_true r8 with hb7 | hb7
                · replace h := cond_t hb7 h
                  obtain ⟨r9, hr9, h⟩ := bind_some h
                  rcases Bool.eq_false_or_eq_true r9 with hb8 | hb8
                  · replace h := cond_t hb8 h
                    obtain ⟨r10, hr10, h⟩ := bind_some h
                    refine Ab.regA hE hC hL [[], [], [.b true], [], [], [], [.b true], [], [], [], [.b true], [], [.n (r4.1.length : Int)], [], [], [], [.b true], [], [], [.t ((eA 1 (T.int .u8)) v1)], [], [], [], [], [], [.r [.tree (.bool r8)] []], [], [.b true], [], [], [], [], [], [.r [.tree (.bool r9)] []], [], [.b true], [], [], [.b (decide (r2.1 = r7.1))], [], [], [], [], [], [.r [.tree (.bool r10)] []]] { keep := [8], ren := [] } ⟨[(8, (.t (.bool ((decide (r2.1 = r7.1)) == r10))))], []⟩ [(r2.2 == (0:Int)) = true, (r4.2 == (0:Int)) = true, (r7.2 == (0:Int)) = true, ((List.length (List.map (eA 1 (T.int .u8)) r4.1) : Nat) : Int) = (r4.1.length : Int), ((r4.1.length : Int) == (wi ((w64 pdepth0).tmod (7:Int)))) = true, 0 ≤ (wi ((w64 pindex0).tmod (w64 (pl0.length : Int)))), (List.map (eA 1 (T.int .u8)) pl0)[(wi ((w64 pindex0).tmod (w64 (pl0.length : Int)))).toNat]? = some ((eA 1 (T.int .u8)) v1), (sp_merkle_Verify n).fn [((eA 1 (T.int .u8)) v1), (.slc 32 (List.map (eA 1 (T.int .u8)) r4.1)), (.int .u64 (w64 (wi ((w64 pindex0).tmod (w64 (pl0.length : Int)))))), ((eA 1 (T.int .u8)) r2.1)] = some ([.tree (.bool r8)], []), r8 = true, (sp_merkle_Verify n).fn [((eA 1 (T.int .u8)) pother0), (.slc 32 (List.map (eA 1 (T.int .u8)) r4.1)), (.int .u64 (w64 (wi ((w64 pindex0).tmod (w64 (pl0.length : Int)))))), ((eA 1 (T.int .u8)) r7.1)] = some ([.tree (.bool r9)], []), r9 = true, binOp (E_law03_MerkleProves n) .eql 25 (.t ((eA 1 (T.int .u8)) r2.1)) (.t ((eA 1 (T.int .u8)) r7.1)) = some (.bool (decide (r2.1 = r7.1))), (sp_merkle_Verify n).fn [((eA 1 (T.int .u8)) pother0), (.slc 32 (List.map (eA 1 (T.int .u8)) r4.1)), (.int .u64 (w64 (wi ((w64 pindex0).tmod (w64 (pl0.length : Int)))))), ((eA 1 (T.int .u8)) r2.1)] = some ([.tree (.bool r10)], [])] (by kernel_rfl) (by kernel_rfl) ⟨hb3, hb4, hb5, (len_of rfl), hb6, hq2, (at_map hv1), (ap_merkle_Verify n (by exact ⟨leT.refl _, leT.refl _, leT.refl _, leT.refl _, trivial⟩) hr8), hb7, (ap_merkle_Verify n (by exact ⟨leT.refl _, leT.refl _, leT.refl _, leT.refl _, trivial⟩) hr9), hb8, (beql_25 _ rfl _ _), (ap_merkle_Verify n (by exact ⟨leT.refl _, leT.refl _, leT.refl _, leT.refl _, trivial⟩) hr10), trivial⟩ ?_
                    refine Nxt_norm ?_
                    refine Ab.ret ?_
                    obtain rfl := Option.some.inj h
                    exact End_ret (doneO_ok (md := [false]) (by kernel_rfl))
                  · replace h := cond_f hb8 h
                    refine Ab.regA hE hC hL [[], [], [.b true], [], [], [], [.b true], [], [], [], [.b true], [], [.n (r4.1.length : Int)], [], [], [], [.b true], [], [], [.t ((eA 1 (T.int .u8)) v1)], [], [], [], [], [], [.r [.tree (.bool r8)] []], [], [.b true], [], [], [], [], [], [.r [.tree (.bool r9)] []], [], [.b false]] { keep := [8], ren := [] } ⟨[(8, (.t (.bool false)))], []⟩ [(r2.2 == (0:Int)) = true, (r4.2 == (0:Int)) = true, (r7.2 == (0:Int)) = true, ((List.length (List.map (eA 1 (T.int .u8)) r4.1) : Nat) : Int) = (r4.1.length : Int), ((r4.1.length : Int) == (wi ((w64 pdepth0).tmod (7:Int)))) = true, 0 ≤ (wi ((w64 pindex0).tmod (w64 (pl0.length : Int)))), (List.map (eA 1 (T.int .u8)) pl0)[(wi ((w64 pindex0).tmod (w64 (pl0.length : Int)))).toNat]? = some ((eA 1 (T.int .u8)) v1), (sp_merkle_Verify n).fn [((eA 1 (T.int .u8)) v1), (.slc 32 (List.map (eA 1 (T.int .u8)) r4.1)), (.int .u64 (w64 (wi ((w64 pindex0).tmod (w64 (pl0.length : Int)))))), ((eA 1 (T.int .u8)) r2.1)] = some ([.tree (.bool r8)], []), r8 = true, (sp_merkle_Verify n).fn [((eA 1 (T.int .u8)) pother0), (.slc 32 (List.map (eA 1 (T.int .u8)) r4.1)), (.int .u64 (w64 (wi ((w64 pindex0).tmod (w64 (pl0.length : Int)))))), ((eA 1 (T.int .u8)) r7.1)] = some ([.tree (.bool r9)], []), r9 = false] (by kernel_rfl) (by kernel_rfl) ⟨hb3, hb4, hb5, (len_of rfl), hb6, hq2, (at_map hv1), (ap_merkle_Verify n (by exact ⟨leT.refl _, leT.refl _, leT.refl _, leT.refl _, trivial⟩) hr8), hb7, (ap_merkle_Verify n (by exact ⟨leT.refl _, leT.refl _, leT.refl _, leT.refl _, trivial⟩) hr9), hb8, trivial⟩ ?_
                    refine Nxt_norm ?_
                    refine Ab.ret ?_
                    obtain rfl := Option.some.inj h
                    exact End_ret (doneO_ok (md := [false]) (by kernel_rfl))
                · replace h := cond_f hb7 h
                  refine Ab.regA hE hC hL [[], [], [.b true], [], [], [], [.b true], [], [], [], [.b true], [], [.n (r4.1.length : Int)], [], [], [], [.b true], [], [], [.t ((eA 1 (T.int .u8)) v1)], [], [], [], [], [], [.r [.tree (.bool r8)] []], [], [.b false]] { keep := [8], ren := [] } ⟨[(8, (.t (.bool false)))], []⟩ [(r2.2 == (0:Int)) = true, (r4.2 == (0:Int)) = true, (r7.2 == (0:Int)) = true, ((List.length (List.map (eA 1 (T.int .u8)) r4.1) : Nat) : Int) = (r4.1.length : Int), ((r4.1.length : Int) == (wi ((w64 pdepth0).tmod (7:Int)))) = true, 0 ≤ (wi ((w64 pindex0).tmod (w64 (pl0.length : Int)))), (List.map (eA 1 (T.int .u8)) pl0)[(wi ((w64 pindex0).tmod (w64 (pl0.length : Int)))).toNat]? = some ((eA 1 (T.int .u8)) v1), (sp_merkle_Verify n).fn [((eA 1 (T.int .u8)) v1), (.slc 32 (List.map (eA 1 (T.int .u8)) r4.1)), (.int .u64 (w64 (wi ((w64 pindex0).tmod (w64 (pl0.length : Int)))))), ((eA 1 (T.int .u8)) r2.1)] = some ([.tree (.bool r8)], []), r8 = false] (by kernel_rfl) (by kernel_rfl) ⟨hb3, hb4, hb5, (len_of rfl), hb6, hq2, (at_map hv1), (ap_merkle_Verify n (by exact ⟨leT.refl _, leT.refl _, leT.refl _, leT.refl _, trivial⟩) hr8), hb7, trivial⟩ ?_
                  refine Nxt_norm ?_
                  refine Ab.ret ?_
                  obtain rfl := Option.some.inj h
                  exact End_ret (doneO_ok (md := [false]) (by kernel_rfl))
              · replace h := cond_f hb6 h
                refine Ab.regA hE hC hL [[], [], [.b true], [], [], [], [.b true], [], [], [], [.b true], [], [.n (r4.1.length : Int)], [], [], [], [.b false]] { keep := [8], ren := [] } ⟨[(8, (.t (.bool false)))], []⟩ [(r2.2 == (0:Int)) = true, (r4.2 == (0:Int)) = true, (r7.2 == (0:Int)) = true, ((List.length (List.map (eA 1 (T.int .u8)) r4.1) : Nat) : Int) = (r4.1.length : Int), ((r4.1.length : Int) == (wi ((w64 pdepth0).tmod (7:Int)))) = false] (by kernel_rfl) (by kernel_rfl) ⟨hb3, hb4, hb5, (len_of rfl), hb6, trivial⟩ ?_
                refine Nxt_norm ?_
                refine Ab.ret ?_
                obtain rfl := Option.some.inj h
                exact End_ret (doneO_ok (md := [false]) (by kernel_rfl))
            · replace h := cond_f hb5 h
              refine Ab.regA hE hC hL [[], [], [.b true], [], [], [], [.b true], [], [], [], [.b false]] { keep := [8], ren := [] } ⟨[(8, (.t (.bool false)))], []⟩ [(r2.2 == (0:Int)) = true, (r4.2 == (0:Int)) = true, (r7.2 == (0:Int)) = false] (by kernel_rfl) (by kernel_rfl) ⟨hb3, hb4, hb5, trivial⟩ ?_
              refine Nxt_norm ?_
              refine Ab.ret ?_
              obtain rfl := Option.some.inj h
              exact End_ret (doneO_ok (md := [false]) (by kernel_rfl))
          · replace h := cond_f hb4 h
            refine Ab.regA hE hC hL [[], [], [.b true], [], [], [], [.b false]] { keep := [8], ren := [] } ⟨[(8, (.t (.bool false)))], []⟩ [(r2.2 == (0:Int)) = true, (r4.2 == (0:Int)) = false] (by kernel_rfl) (by kernel_rfl) ⟨hb3, hb4, trivial⟩ ?_
            refine Nxt_norm ?_
            refine Ab.ret ?_
            obtain rfl := Option.some.inj h
            exact End_ret (doneO_ok (md := [false]) (by kernel_rfl))
        · replace h := cond_f hb3 h
          refine Ab.regA hE hC hL [[], [], [.b false]] { keep := [8], ren := [] } ⟨[(8, (.t (.bool false)))], []⟩ [(r2.2 == (0:Int)) = false] (by kernel_rfl) (by kernel_rfl) ⟨hb3, trivial⟩ ?_
          refine Nxt_norm ?_
          refine Ab.ret ?_
          obtain rfl := Option.some.inj h
          exact End_ret (doneO_ok (md := [false]) (by kernel_rfl))

end Go.Mg
