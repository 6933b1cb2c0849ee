/- The model's code computes these functions. -/
import Derived.Test.YthfhkoncbpfppaaAW1
namespace Go.Mg
open Go Go.Proofs
def ea_law01_Awake (a : Unit) : List T := []
def er_law01_Awake (r : Bool) : List RR × List T := ([.tree (T.bool r)], [])
noncomputable def sp_law01_Awake (n : Nat) : Spec := specP [] true ea_law01_Awake (fun a => f_law01_Awake n) (fun _ r => er_law01_Awake r)
theorem ap_law01_Awake (n : Nat) {ts : List T} {r : Bool} (hle : leTs ts []) (h : f_law01_Awake n = some r) : (sp_law01_Awake n).fn ts = some ([.tree (T.bool r)], []) :=
  specP_fn (a := ()) injA0 hle h
noncomputable def E_law01_Awake (n : Nat) : Env := { ty := tyT, glob := glob, fns := get [(20, sp_num_Put n), (22, sp_num_Take n), (24, sp_num_Root n), (27, sp_num_Add n), (33, sp_num_Less n)], ntmps := 35 }
theorem eok_law01_Awake (n : Nat) : EnvOK Try.prog (E_law01_Awake n) := ⟨tys_ok tys_chk, prog_mixed, (fns_cons (ok_num_Put n) (fns_cons (ok_num_Take n) (fns_cons (ok_num_Root n) (fns_cons (ok_num_Add n) (fns_cons (ok_num_Less n) fns_nil)))))⟩
def K_law01_Awake (n : Nat) (r : Bool) : St → Prop := Done (E_law01_Awake n) Try.f19.results.toList [] (ea_law01_Awake ()) (er_law01_Awake r).1 (er_law01_Awake r).2
set_option maxRecDepth 100000 in
set_option maxHeartbeats 4000000 in
theorem ok_law01_Awake (n : Nat) : SpecOK Try.prog glob 19 (sp_law01_Awake n) := by
  refine specP_ok (fn := Try.f19) (eok_law01_Awake n) (by kernel_rfl) rfl (by decide +kernel) (by kernel_rfl) (fun _ => by show 0 ≤ 35; omega) (fun _ _ r => ⟨(rrf_tree ((fun _ => rfl) _) rrf_nil), flats_nil⟩) ?_
  rintro ⟨⟩ r h C hL hC
  have hE := eok_law01_Awake n
  replace hL : ∀ n g, (n, g) ∈ C.lent → n ∈ ([] : List Nat) := hL
  replace h : f_law01_Awake n = some r := h
  show Ab _ _ _ _ _ (End (K_law01_Awake n r))
  unfold f_law01_Awake at h
  refine Ab.seq ?_
  refine Ab.regT hE hC hL [] { keep := [], ren := [] } ⟨[], []⟩ [] (by kernel_rfl) trivial ?_
  refine Nxt_norm ?_
  refine Ab.seq ?_
  obtain ⟨r0, hr0, h⟩ := bind_some h
  refine Ab.regT hE hC hL [[.r [.tree (.int .u64 r0.1), .tree (.bool r0.2)] []]] { keep := [2], ren := [] } ⟨[(2, (.t (.bool r0.2)))], []⟩ [(sp_num_Add n).fn [(.int .u64 (18446744073709551615:Int)), (.int .u64 (1:Int))] = some ([.tree (.int .u64 r0.1), .tree (.bool r0.2)], [])] (by kernel_rfl) ⟨(ap_num_Add n (by exact ⟨leT.refl _, leT.refl _, trivial⟩) hr0), trivial⟩ ?_
  refine Nxt_norm ?_
  refine Ab.seq ?_
  rcases Bool.eq_false_or_eq_true (!r0.2) with hb0 | hb0
  · replace h := cond_t hb0 h
    obtain ⟨r1, hr1, h⟩ := bind_some h
    rcases Bool.eq_false_or_eq_true (r1 == (0:Int)) with hb1 | hb1
    · replace h := cond_t hb1 h
      obtain ⟨r2, hr2, h⟩ := bind_some h
      rcases Bool.eq_false_or_eq_true (r2 == (3:Int)) with hb2 | hb2
      · replace h := cond_t hb2 h
        obtain ⟨r3, hr3, h⟩ := bind_some h
        rcases Bool.eq_false_or_eq_true (r3 == (4:Int)) with hb3 | hb3
        · replace h := cond_t hb3 h
          obtain ⟨r4, hr4, h⟩ := bind_some h
          rcases Bool.eq_false_or_eq_true (r4 == (4294967295:Int)) with hb4 | hb4
          · replace h := cond_t hb4 h
            obtain ⟨r5, hr5, h⟩ := bind_some h
            rcases Bool.eq_false_or_eq_true ((strOf r5).toList == (⟨#[2, 1, 0]⟩ : ByteArray).toList) with hb5 | hb5
            · replace h := cond_t hb5 h
              obtain ⟨r6, hr6, h⟩ := bind_some h
              refine Ab.regT hE hC hL [[], [], [.b true], [.r [.tree (.int .u64 r1)] []], [], [], [.b true], [.r [.tree (.int .u64 r2)] []], [], [], [.b true], [.r [.tree (.int .u64 r3)] []], [], [], [.b true], [.r [.tree (.int .u64 r4)] []], [], [], [.b true], [.r [.row 5 1 (List.map (T.int .u8) r5)] []], [.s (strOf r5)], [], [], [.b true], [], [.r [.tree (.int .u64 r6)] []]] { keep := [0], ren := [] } ⟨[(0, (.t (.bool (r6 == (258:Int)))))], []⟩ [(!r0.2) = true, (sp_num_Less n).fn [(.int .u64 (3:Int)), (.int .u64 (5:Int))] = some ([.tree (.int .u64 r1)], []), (r1 == (0:Int)) = true, (sp_num_Root n).fn [(.int .u64 (15:Int))] = some ([.tree (.int .u64 r2)], []), (r2 == (3:Int)) = true, (sp_num_Root n).fn [(.int .u64 (16:Int))] = some ([.tree (.int .u64 r3)], []), (r3 == (4:Int)) = true, (sp_num_Root n).fn [(.int .u64 (18446744073709551615:Int))] = some ([.tree (.int .u64 r4)], []), (r4 == (4294967295:Int)) = true, (sp_num_Put n).fn [(.int .u64 (258:Int)), (.int .i64 (3:Int))] = some ([.row 5 1 (List.map (T.int .u8) r5)], []), (bytesOf (List.map (T.int .u8) r5)).map (fun b => (⟨b.toArray⟩ : ByteArray)) = some (strOf r5), ((strOf r5).toList == (⟨#[2, 1, 0]⟩ : ByteArray).toList) = true, (sp_num_Take n).fn [(.slc 1 (List.map (T.int .u8) ([(2:Int), (1:Int)] : List Int)))] = some ([.tree (.int .u64 r6)], [])] (by kernel_rfl) ⟨hb0, (ap_num_Less n (by exact ⟨leT.refl _, leT.refl _, trivial⟩) hr1), hb1, (ap_num_Root n (by exact ⟨leT.refl _, trivial⟩) hr2), hb2, (ap_num_Root n (by exact ⟨leT.refl _, trivial⟩) hr3), hb3, (ap_num_Root n (by exact ⟨leT.refl _, trivial⟩) hr4), hb4, (ap_num_Put n (by exact ⟨leT.refl _, leT.refl _, trivial⟩) hr5), (bytes_strOf rfl), hb5, (ap_num_Take n (by exact ⟨leT.refl _, trivial⟩) hr6), trivial⟩ ?_
              refine Nxt_norm ?_
              refine Ab.ret ?_
              obtain rfl := Option.some.inj h
              exact End_ret (doneO_ok (md := [false]) (by kernel_rfl))
            · replace h := cond_f hb5 h
              refine Ab.regT hE hC hL [[], [], [.b true], [.r [.tree (.int .u64 r1)] []], [], [], [.b true], [.r [.tree (.int .u64 r2)] []], [], [], [.b true], [.r [.tree (.int .u64 r3)] []], [], [], [.b true], [.r [.tree (.int .u64 r4)] []], [], [], [.b true], [.r [.row 5 1 (List.map (T.int .u8) r5)] []], [.s (strOf r5)], [], [], [.b false]] { keep := [0], ren := [] } ⟨[(0, (.t (.bool false)))], []⟩ [(!r0.2) = true, (sp_num_Less n).fn [(.int .u64 (3:Int)), (.int .u64 (5:Int))] = some ([.tree (.int .u64 r1)], []), (r1 == (0:Int)) = true, (sp_num_Root n).fn [(.int .u64 (15:Int))] = some ([.tree (.int .u64 r2)], []), (r2 == (3:Int)) = true, (sp_num_Root n).fn [(.int .u64 (16:Int))] = some ([.tree (.int .u64 r3)], []), (r3 == (4:Int)) = true, (sp_num_Root n).fn [(.int .u64 (18446744073709551615:Int))] = some ([.tree (.int .u64 r4)], []), (r4 == (4294967295:Int)) = true, (sp_num_Put n).fn [(.int .u64 (258:Int)), (.int .i64 (3:Int))] = some ([.row 5 1 (List.map (T.int .u8) r5)], []), (bytesOf (List.map (T.int .u8) r5)).map (fun b => (⟨b.toArray⟩ : ByteArray)) = some (strOf r5), ((strOf r5).toList == (⟨#[2, 1, 0]⟩ : ByteArray).toList) = false] (by kernel_rfl) ⟨hb0, (ap_num_Less n (by exact ⟨leT.refl _, leT.refl _, trivial⟩) hr1), hb1, (ap_num_Root n (by exact ⟨leT.refl _, trivial⟩) hr2), hb2, (ap_num_Root n (by exact ⟨leT.refl _, trivial⟩) hr3), hb3, (ap_num_Root n (by exact ⟨leT.refl _, trivial⟩) hr4), hb4, (ap_num_Put n (by exact ⟨leT.refl _, leT.refl _, trivial⟩) hr5), (bytes_strOf rfl), hb5, trivial⟩ ?_
              refine Nxt_norm ?_
              refine Ab.ret ?_
              obtain rfl := Option.some.inj h
              exact End_ret (doneO_ok (md := [false]) (by kernel_rfl))
          · replace h := cond_f hb4 h
            refine Ab.regT hE hC hL [[], [], [.b true], [.r [.tree (.int .u64 r1)] []], [], [], [.b true], [.r [.tree (.int .u64 r2)] []], [], [], [.b true], [.r [.tree (.int .u64 r3)] []], [], [], [.b true], [.r [.tree (.int .u64 r4)] []], [], [], [.b false]] { keep := [0], ren := [] } ⟨[(0, (.t (.bool false)))], []⟩ [(!r0.2) = true, (sp_num_Less n).fn [(.int .u64 (3:Int)), (.int .u64 (5:Int))] = some ([.tree (.int .u64 r1)], []), (r1 == (0:Int)) = true, (sp_num_Root n).fn [(.int .u64 (15:Int))] = some ([.tree (.int .u64 r2)], []), (r2 == (3:Int)) = true, (sp_num_Root n).fn [(.int .u64 (16:Int))] = some ([.tree (.int .u64 r3)], []), (r3 == (4:Int)) = true, (sp_num_Root n).fn [(.int .u64 (18446744073709551615:Int))] = some ([.tree (.int .u64 r4)], []), (r4 == (4294967295:Int)) = false] (by kernel_rfl) ⟨hb0, (ap_num_Less n (by exact ⟨leT.refl _, leT.refl _, trivial⟩) hr1), hb1, (ap_num_Root n (by exact ⟨leT.refl _, trivial⟩) hr2), hb2, (ap_num_Root n (by exact ⟨leT.refl _, trivial⟩) hr3), hb3, (ap_num_Root n (by exact ⟨leT.refl _, trivial⟩) hr4), hb4, trivial⟩ ?_
            refine Nxt_norm ?_
            refine Ab.ret ?_
            obtain rfl := Option.some.inj h
            exact End_ret (doneO_ok (md := [false]) (by kernel_rfl))
        · replace h := cond_f hb3 h
          refine Ab.regT hE hC hL [[], [], [.b true], [.r [.tree (.int .u64 r1)] []], [], [], [.b true], [.r [.tree (.int .u64 r2)] []], [], [], [.b true], [.r [.tree (.int .u64 r3)] []], [], [], [.b false]] { keep := [0], ren := [] } ⟨[(0, (.t (.bool false)))], []⟩ [(!r0.2) = true, (sp_num_Less n).fn [(.int .u64 (3:Int)), (.int .u64 (5:Int))] = some ([.tree (.int .u64 r1)], []), (r1 == (0:Int)) = true, (sp_num_Root n).fn [(.int .u64 (15:Int))] = some ([.tree (.int .u64 r2)], []), (r2 == (3:Int)) = true, (sp_num_Root n).fn [(.int .u64 (16:Int))] = some ([.tree (.int .u64 r3)], []), (r3 == (4:Int)) = false] (by kernel_rfl) ⟨hb0, (ap_num_Less n (by exact ⟨leT.refl _, leT.refl _, trivial⟩) hr1), hb1, (ap_num_Root n (by exact ⟨leT.refl _, trivial⟩) hr2), hb2, (ap_num_Root n (by exact ⟨leT.refl _, trivial⟩) hr3), hb3, trivial⟩ ?_
          refine Nxt_norm ?_
          refine Ab.ret ?_
          obtain rfl := Option.some.inj h
          exact End_ret (doneO_ok (md := [false]) (by kernel_rfl))
      · replace h := cond_f hb2 h
        refine Ab.regT hE hC hL [[], [], [.b true], [.r [.tree (.int .u64 r1)] []], [], [], [.b true], [.r [.tree (.int .u64 r2)] []], [], [], [.b false]] { keep := [0], ren := [] } ⟨[(0, (.t (.bool false)))], []⟩ [(!r0.2) = true, (sp_num_Less n).fn [(.int .u64 (3:Int)), (.int .u64 (5:Int))] = some ([.tree (.int .u64 r1)], []), (r1 == (0:Int)) = true, (sp_num_Root n).fn [(.int .u64 (15:Int))] = some ([.tree (.int .u64 r2)], []), (r2 == (3:Int)) = false] (by kernel_rfl) ⟨hb0, (ap_num_Less n (by exact ⟨leT.refl _, leT.refl _, trivial⟩) hr1), hb1, (ap_num_Root n (by exact ⟨leT.refl _, trivial⟩) hr2), hb2, trivial⟩ ?_
        refine Nxt_norm ?_
        refine Ab.ret ?_
        obtain rfl := Option.some.inj h
        exact End_ret (doneO_ok (md := [false]) (by kernel_rfl))
    · replace h := cond_f hb1 h
      refine Ab.regT hE hC hL [[], [], [.b true], [.r [.tree (.int .u64 r1)] []], [], [], [.b false]] { keep := [0], ren := [] } ⟨[(0, (.t (.bool false)))], []⟩ [(!r0.2) = true, (sp_num_Less n).fn [(.int .u64 (3:Int)), (.int .u64 (5:Int))] = some ([.tree (.int .u64 r1)], []), (r1 == (0:Int)) = false] (by kernel_rfl) ⟨hb0, (ap_num_Less n (by exact ⟨leT.refl _, leT.refl _, trivial⟩) hr1), hb1, trivial⟩ ?_
      refine Nxt_norm ?_
      refine Ab.ret ?_
      obtain rfl := Option.some.inj h
      exact End_ret (doneO_ok (md := [false]) (by kernel_rfl))
  · replace h := cond_f hb0 h
    refine Ab.regT hE hC hL [[], [], [.b false]] { keep := [0], ren := [] } ⟨[(0, (.t (.bool false)))], []⟩ [(!r0.2) = false] (by kernel_rfl) ⟨hb0, trivial⟩ ?_
    refine Nxt_norm ?_
    refine Ab.ret ?_
    obtain rfl := Option.some.inj h
    exact End_ret (doneO_ok (md := [false]) (by kernel_rfl))
def ea_ref01_Put (a : Int × Int) : List T := [(T.int .u64) a.1, (T.int .i64) a.2]
def er_ref01_Put (r : (List Int)) : List RR × List T := ([.row 5 1 (List.map (T.int .u8) r)], [])
noncomputable def sp_ref01_Put (n : Nat) : Spec := specP [] false ea_ref01_Put (fun a => f_ref01_Put n a.1 a.2) (fun _ r => er_ref01_Put r)
theorem ap_ref01_Put (n : Nat) {ts : List T} {a0 : Int} {a1 : Int} {r : (List Int)} (hle : leTs ts [(T.int .u64) a0, (T.int .i64) a1]) (h : f_ref01_Put n a0 a1 = some r) : (sp_ref01_Put n).fn ts = some ([.row 5 1 (List.map (T.int .u8) r)], []) :=
  specP_fn (a := (a0, a1)) (InjA.cons (inj_int _) (InjA.one (inj_int _))) hle h
noncomputable def E_ref01_Put (n : Nat) : Env := { ty := tyT, glob := glob, fns := get [], ntmps := 21 }
theorem eok_ref01_Put (n : Nat) : EnvOK Try.prog (E_ref01_Put n) := ⟨tys_ok tys_chk, prog_mixed, fns_nil⟩
def K_ref01_Put (n : Nat) (pn0 : Int) (psize0 : Int) (r : (List Int)) : St → Prop := Done (E_ref01_Put n) Try.f21.results.toList [] (ea_ref01_Put (pn0, psize0)) (er_ref01_Put r).1 (er_ref01_Put r).2
set_option maxRecDepth 100000 in
set_option maxHeartbeats 4000000 in
theorem ok_ref01_Put (n : Nat) : SpecOK Try.prog glob 21 (sp_ref01_Put n) := by
  refine specP_ok (fn := Try.f21) (eok_ref01_Put n) (by kernel_rfl) rfl (by decide +kernel) (by kernel_rfl) (fun _ => by show 2 ≤ 21; omega) (fun h => Bool.noConfusion h) ?_
  rintro ⟨pn0, psize0⟩ r h C hL hC
  have hE := eok_ref01_Put n
  replace hL : ∀ n g, (n, g) ∈ C.lent → n ∈ ([] : List Nat) := hL
  replace h : f_ref01_Put n pn0 psize0 = some r := h
  show Ab _ _ _ _ _ (End (K_ref01_Put n pn0 psize0 r))
  unfold f_ref01_Put at h
  refine Ab.seq ?_
  refine Ab.regT hE hC hL [] { keep := [0, 1], ren := [] } ⟨[(0, (.t (.int .u64 pn0))), (1, (.t (.int .i64 psize0)))], []⟩ [] (by kernel_rfl) trivial ?_
  refine Nxt_norm ?_
  refine Ab.seq ?_
  refine Ab.regT hE hC hL [] { keep := [0, 1, 5], ren := [] } ⟨[(0, (.t (.int .u64 pn0))), (1, (.t (.int .i64 psize0))), (5, (.t .nils))], []⟩ [] (by kernel_rfl) trivial ?_
  refine Nxt_norm ?_
  refine Ab.seq ?_
  refine Ab.seq ?_
  refine Ab.regT hE hC hL [] { keep := [0, 1, 5, 6], ren := [] } ⟨[(0, (.t (.int .u64 pn0))), (1, (.t (.int .i64 psize0))), (5, (.t .nils)), (6, (.t (.int .i64 (0:Int))))], []⟩ [] (by kernel_rfl) trivial ?_
  refine Nxt_norm ?_
  obtain ⟨x0, hx0, h⟩ := bind_some h
  refine Ab.loopX0 (fun ((a0, a1, a2) : (Int × (List Int) × Int)) => (⟨[(0, (.t (.int .u64 a0))), (1, (.t (.int .i64 psize0))), (5, (.own 49000)), (6, (.t (.int .i64 a2)))], [(49000, (.row false 5 1 (List.map (T.int .u8) a1)))]⟩ : St)) (fun (a3 : (List Int)) => (⟨[(5, (.own 49000))], [(49000, (.row false 5 1 (List.map (T.int .u8) a3)))]⟩ : St)) { fs := [⟨(.t 5), [], .own 48000 5 1⟩], keep := [0, 1, 5, 6], ren := [(48000, 49000)] } (pn0, ([] : List Int), (0:Int)) hC hL hx0 (by kernel_rfl) ?_ ?_
  · rintro ⟨a0, a1, a2⟩ o0 h
    replace h : f_ref01_Put_b0 n psize0 a0 a1 a2 = some o0 := h
    unfold f_ref01_Put_b0 at h
    refine Ab.seq ?_
    refine Ab.seq ?_
    refine Ab.regT hE hC hL [] { keep := [0, 1, 5, 6, 9], ren := [(49000, 49000)] } ⟨[(0, (.t (.int .u64 a0))), (1, (.t (.int .i64 psize0))), (5, (.own 49000)), (6, (.t (.int .i64 a2))), (9, (.t (.bool (decide (a2 < psize0)))))], [(49000, (.row false 5 1 (List.map (T.int .u8) a1)))]⟩ [] (by kernel_rfl) trivial ?_
    refine Nxt_norm ?_
    refine Ab.cond (b := (decide (a2 < psize0))) (by kernel_rfl) (fun hb0 => ?_) (fun hb0 => ?_)
    · replace h := cond_t hb0 h
      refine Ab.skip ?_
      refine Nxt_norm ?_
      refine Ab.seq ?_
      refine Ab.block ?_
      refine Ab.seq ?_
      obtain ⟨hq0, h⟩ := ask_dec h
      refine Ab.regT hE hC hL [[], [], [], [], [], [.l (List.map (T.int .u8) (a1 ++ ([(w8 (a0.tmod (256:Int)))] : List Int)))]] { keep := [0, 1, 5, 6], ren := [(17, 17)] } ⟨[(0, (.t (.int .u64 a0))), (1, (.t (.int .i64 psize0))), (5, (.own 17)), (6, (.t (.int .i64 a2)))], [(17, (.row false 5 1 (List.map (T.int .u8) (a1 ++ ([(w8 (a0.tmod (256:Int)))] : List Int)))))]⟩ [(List.length (List.map (T.int .u8) a1) + List.length (List.map (T.int .u8) ([(w8 (a0.tmod (256:Int)))] : List Int))) * 1 ≤ maxBytes, List.length (List.map (T.int .u8) a1) + List.length (List.map (T.int .u8) ([(w8 (a0.tmod (256:Int)))] : List Int)) ≤ maxBytes, (List.map (T.int .u8) a1) ++ (List.map (T.int .u8) ([(w8 (a0.tmod (256:Int)))] : List Int)) = List.map (T.int .u8) (a1 ++ ([(w8 (a0.tmod (256:Int)))] : List Int))] (by kernel_rfl) ⟨(app_b rfl rfl hq0), (app_c rfl rfl (by decide) hq0), (app_of rfl rfl), trivial⟩ ?_
      refine Nxt_norm ?_
      refine Ab.regT hE hC hL [] { keep := [0, 1, 5, 6], ren := [(17, 17)] } ⟨[(0, (.t (.int .u64 (w64 (a0.tdiv (256:Int)))))), (1, (.t (.int .i64 psize0))), (5, (.own 17)), (6, (.t (.int .i64 a2)))], [(17, (.row false 5 1 (List.map (T.int .u8) (a1 ++ ([(w8 (a0.tmod (256:Int)))] : List Int)))))]⟩ [] (by kernel_rfl) trivial ?_
      refine Blk_norm ?_
      refine Nxt_norm ?_
      refine Ab.regT hE hC hL [] { keep := [0, 1, 5, 6], ren := [(17, 17)] } ⟨[(0, (.t (.int .u64 (w64 (a0.tdiv (256:Int)))))), (1, (.t (.int .i64 psize0))), (5, (.own 17)), (6, (.t (.int .i64 (wi (a2 + (1:Int))))))], [(17, (.row false 5 1 (List.map (T.int .u8) (a1 ++ ([(w8 (a0.tmod (256:Int)))] : List Int)))))]⟩ [] (by kernel_rfl) trivial ?_
      exact LK_norm ((w64 (a0.tdiv (256:Int))), (a1 ++ ([(w8 (a0.tmod (256:Int)))] : List Int)), (wi (a2 + (1:Int)))) { fs := [], keep := [0, 1, 5, 6], ren := [(17, 49000)] } h (by kernel_rfl)
    · replace h := cond_f hb0 h
      refine Ab.exit ?_
      refine Nxt_exit ?_
      exact LK_exit a1 h (PX_mk { fs := [], keep := [5], ren := [(49000, 49000)] } (by kernel_rfl))
  · refine Nxt_norm ?_
    refine Ab.seq ?_
    refine Ab.regT hE hC hL [] { keep := [4], ren := [(49000, 49000)] } ⟨[(4, (.own 49000))], [(49000, (.row false 5 1 (List.map (T.int .u8) x0)))]⟩ [] (by kernel_rfl) trivial ?_
    refine Nxt_norm ?_
    refine Ab.ret ?_
    obtain rfl := Option.some.inj h
    exact End_ret (doneO_ok (md := [true]) (by kernel_rfl))
def ea_ref01_Take (a : (List Int)) : List T := [(eS 1 (T.int .u8)) a]
def er_ref01_Take (r : Int) : List RR × List T := ([.tree ((T.int .u64) r)], [])
noncomputable def sp_ref01_Take (n : Nat) : Spec := specP [] true ea_ref01_Take (fun a => f_ref01_Take n a) (fun _ r => er_ref01_Take r)
theorem ap_ref01_Take (n : Nat) {ts : List T} {a0 : (List Int)} {r : Int} (hle : leTs ts [(eS 1 (T.int .u8)) a0]) (h : f_ref01_Take n a0 = some r) : (sp_ref01_Take n).fn ts = some ([.tree ((T.int .u64) r)], []) :=
  specP_fn (a := a0) (InjA.one (inj_eS (inj_int _))) hle h
noncomputable def E_ref01_Take (n : Nat) : Env := { ty := tyT, glob := glob, fns := get [], ntmps := 23 }
theorem eok_ref01_Take (n : Nat) : EnvOK Try.prog (E_ref01_Take n) := ⟨tys_ok tys_chk, prog_mixed, fns_nil⟩
def K_ref01_Take (n : Nat) (pb0 : (List Int)) (r : Int) : St → Prop := Done (E_ref01_Take n) Try.f23.results.toList [] (ea_ref01_Take pb0) (er_ref01_Take r).1 (er_ref01_Take r).2
set_option maxRecDepth 100000 in
set_option maxHeartbeats 4000000 in
theorem ok_ref01_Take (n : Nat) : SpecOK Try.prog glob 23 (sp_ref01_Take n) := by
  refine specP_ok (fn := Try.f23) (eok_ref01_Take n) (by kernel_rfl) rfl (by decide +kernel) (by kernel_rfl) (fun _ => by show 1 ≤ 23; omega) (fun _ _ r => ⟨(rrf_tree ((fun _ => rfl) _) rrf_nil), flats_nil⟩) ?_
  rintro pb0 r h C hL hC
  have hE := eok_ref01_Take n
  replace hL : ∀ n g, (n, g) ∈ C.lent → n ∈ ([] : List Nat) := hL
  replace h : f_ref01_Take n pb0 = some r := h
  show Ab _ _ _ _ _ (End (K_ref01_Take n pb0 r))
  unfold f_ref01_Take at h
  refine Ab.seq ?_
  refine Ab.regT hE hC hL [] { keep := [0], ren := [] } ⟨[(0, (.t ((eS 1 (T.int .u8)) pb0)))], []⟩ [] (by kernel_rfl) trivial ?_
  refine Nxt_norm ?_
  refine Ab.seq ?_
  refine Ab.regT hE hC hL [] { keep := [0, 3], ren := [] } ⟨[(0, (.t ((eS 1 (T.int .u8)) pb0))), (3, (.t (.int .u64 (0:Int))))], []⟩ [] (by kernel_rfl) trivial ?_
  refine Nxt_norm ?_
  refine Ab.seq ?_
  refine Ab.seq ?_
  refine Ab.regT hE hC hL [[], [.n (pb0.length : Int)]] { keep := [0, 3, 4], ren := [] } ⟨[(0, (.t ((eS 1 (T.int .u8)) pb0))), (3, (.t (.int .u64 (0:Int)))), (4, (.t (.int .i64 (wi ((pb0.length : Int) - (1:Int))))))], []⟩ [((List.length (List.map (T.int .u8) pb0) : Nat) : Int) = (pb0.length : Int)] (by kernel_rfl) ⟨(len_of rfl), trivial⟩ ?_
  refine Nxt_norm ?_
  obtain ⟨x0, hx0, h⟩ := bind_some h
  refine Ab.loopX0 (fun ((a0, a1) : (Int × Int)) => (⟨[(0, (.t ((eS 1 (T.int .u8)) pb0))), (3, (.t (.int .u64 a0))), (4, (.t (.int .i64 a1)))], []⟩ : St)) (fun (a2 : Int) => (⟨[(3, (.t (.int .u64 a2)))], []⟩ : St)) { fs := [], keep := [0, 3, 4], ren := [] } ((0:Int), (wi ((pb0.length : Int) - (1:Int)))) hC hL hx0 (by kernel_rfl) ?_ ?_
  · rintro ⟨a0, a1⟩ o0 h
    replace h : f_ref01_Take_b0 n pb0 a0 a1 = some o0 := h
    unfold f_ref01_Take_b0 at h
    refine Ab.seq ?_
    refine Ab.seq ?_
    refine Ab.regT hE hC hL [] { keep := [0, 3, 4, 9], ren := [] } ⟨[(0, (.t ((eS 1 (T.int .u8)) pb0))), (3, (.t (.int .u64 a0))), (4, (.t (.int .i64 a1))), (9, (.t (.bool (decide (a1 ≥ (0:Int))))))], []⟩ [] (by kernel_rfl) trivial ?_
    refine Nxt_norm ?_
    refine Ab.cond (b := (decide (a1 ≥ (0:Int)))) (by kernel_rfl) (fun hb0 => ?_) (fun hb0 => ?_)
    · replace h := cond_t hb0 h
      refine Ab.skip ?_
      refine Nxt_norm ?_
      refine Ab.seq ?_
      refine Ab.block ?_
      refine Ab.seq ?_
      refine Ab.regT hE hC hL [] { keep := [0, 3, 4, 13], ren := [] } ⟨[(0, (.t ((eS 1 (T.int .u8)) pb0))), (3, (.t (.int .u64 a0))), (4, (.t (.int .i64 a1))), (13, (.t (.bool (decide (a1 < (8:Int))))))], []⟩ [] (by kernel_rfl) trivial ?_
      refine Nxt_norm ?_
      refine Ab.cond (b := (decide (a1 < (8:Int)))) (by kernel_rfl) (fun hb1 => ?_) (fun hb1 => ?_)
      · replace h := cond_t hb1 h
        obtain ⟨hq0, h⟩ := ask_dec h
        obtain ⟨v0, hv0, h⟩ := bind_some h
        refine Ab.regT hE hC hL [[], [], [], [], [.t (.int .u8 v0)]] { keep := [0, 3, 4], ren := [] } ⟨[(0, (.t ((eS 1 (T.int .u8)) pb0))), (3, (.t (.int .u64 (w64 ((w64 (a0 * (256:Int))) + (w64 v0)))))), (4, (.t (.int .i64 a1)))], []⟩ [0 ≤ a1, (List.map (T.int .u8) pb0)[a1.toNat]? = some (.int .u8 v0)] (by kernel_rfl) ⟨hq0, (at_map hv0), trivial⟩ ?_
        refine Blk_norm ?_
        refine Nxt_norm ?_
        refine Ab.regT hE hC hL [] { keep := [0, 3, 4], ren := [] } ⟨[(0, (.t ((eS 1 (T.int .u8)) pb0))), (3, (.t (.int .u64 (w64 ((w64 (a0 * (256:Int))) + (w64 v0)))))), (4, (.t (.int .i64 (wi (a1 - (1:Int))))))], []⟩ [] (by kernel_rfl) trivial ?_
        exact LK_norm ((w64 ((w64 (a0 * (256:Int))) + (w64 v0))), (wi (a1 - (1:Int)))) { fs := [], keep := [0, 3, 4], ren := [] } h (by kernel_rfl)
      · replace h := cond_f hb1 h
        refine Ab.skip ?_
        refine Blk_norm ?_
        refine Nxt_norm ?_
        refine Ab.regT hE hC hL [] { keep := [0, 3, 4], ren := [] } ⟨[(0, (.t ((eS 1 (T.int .u8)) pb0))), (3, (.t (.int .u64 a0))), (4, (.t (.int .i64 (wi (a1 - (1:Int))))))], []⟩ [] (by kernel_rfl) trivial ?_
        exact LK_norm (a0, (wi (a1 - (1:Int)))) { fs := [], keep := [0, 3, 4], ren := [] } h (by kernel_rfl)
    · replace h := cond_f hb0 h
      refine Ab.exit ?_
      refine Nxt_exit ?_
      exact LK_exit a0 h (PX_mk { fs := [], keep := [3], ren := [] } (by kernel_rfl))
  · refine Nxt_norm ?_
    refine Ab.seq ?_
    refine Ab.regT hE hC hL [] { keep := [2], ren := [] } ⟨[(2, (.t (.int .u64 x0)))], []⟩ [] (by kernel_rfl) trivial ?_
    refine Nxt_norm ?_
    refine Ab.ret ?_
    obtain rfl := Option.some.inj h
    exact End_ret (doneO_ok (md := [false]) (by kernel_rfl))
def ea_law01_NumBytes (a : Int × Int × (List Int)) : List T := [(T.int .u64) a.1, (T.int .i64) a.2.1, (eS 1 (T.int .u8)) a.2.2]
def er_law01_NumBytes (r : Bool) : List RR × List T := ([.tree (T.bool r)], [])
noncomputable def sp_law01_NumBytes (n : Nat) : Spec := specP [] true ea_law01_NumBytes (fun a => f_law01_NumBytes n a.1 a.2.1 a.2.2) (fun _ r => er_law01_NumBytes r)
theorem ap_law01_NumBytes (n : Nat) {ts : List T} {a0 : Int} {a1 : Int} {a2 : (List Int)} {r : Bool} (hle : leTs ts [(T.int .u64) a0, (T.int .i64) a1, (eS 1 (T.int .u8)) a2]) (h : f_law01_NumBytes n a0 a1 a2 = some r) : (sp_law01_NumBytes n).fn ts = some ([.tree (T.bool r)], []) :=
  specP_fn (a := (a0, a1, a2)) (InjA.cons (inj_int _) (InjA.cons (inj_int _) (InjA.one (inj_eS (inj_int _))))) hle h
noncomputable def E_law01_NumBytes (n : Nat) : Env := { ty := tyT, glob := glob, fns := get [(19, sp_law01_Awake n), (20, sp_num_Put n), (21, sp_ref01_Put n), (22, sp_num_Take n), (23, sp_ref01_Take n)], ntmps := 39 }
theorem eok_law01_NumBytes (n : Nat) : EnvOK Try.prog (E_law01_NumBytes n) := ⟨tys_ok tys_chk, prog_mixed, (fns_cons (ok_law01_Awake n) (fns_cons (ok_num_Put n) (fns_cons (ok_ref01_Put n) (fns_cons (ok_num_Take n) (fns_cons (ok_ref01_Take n) fns_nil)))))⟩
def K_law01_NumBytes (n : Nat) (pn0 : Int) (psize0 : Int) (pb0 : (List Int)) (r : Bool) : St → Prop := Done (E_law01_NumBytes n) Try.f5.results.toList [] (ea_law01_NumBytes (pn0, psize0, pb0)) (er_law01_NumBytes r).1 (er_law01_NumBytes r).2
set_option maxRecDepth 100000 in
set_option maxHeartbeats 4000000 in
theorem ok_law01_NumBytes (n : Nat) : SpecB Try.prog glob 5 (sp_law01_NumBytes n) := by
  refine specP_B (fn := Try.f5) (eok_law01_NumBytes n) (by kernel_rfl) rfl (by decide +kernel) (by kernel_rfl) (fun _ => by show 3 ≤ 39; omega)  ?_
  rintro ⟨pn0, psize0, pb0⟩ r h C hL hC
  have hE := eok_law01_NumBytes n
  replace hL : ∀ n g, (n, g) ∈ C.lent → n ∈ ([] : List Nat) := hL
  replace h : f_law01_NumBytes n pn0 psize0 pb0 = some r := h
  show Ab _ _ _ _ _ (End (K_law01_NumBytes n pn0 psize0 pb0 r))
  unfold f_law01_NumBytes at h
  refine Ab.seq ?_
  refine Ab.regT hE hC hL [] { keep := [0, 1, 2], ren := [] } ⟨[(0, (.t (.int .u64 pn0))), (1, (.t (.int .i64 psize0))), (2, (.t ((eS 1 (T.int .u8)) pb0)))], []⟩ [] (by kernel_rfl) trivial ?_
  refine Nxt_norm ?_
  refine Ab.seq ?_
  refine Ab.seq ?_
  obtain ⟨r0, hr0, h⟩ := bind_some h
  refine Ab.regT hE hC hL [[.r [.tree (.bool r0)] []]] { keep := [0, 1, 2, 8], ren := [] } ⟨[(0, (.t (.int .u64 pn0))), (1, (.t (.int .i64 psize0))), (2, (.t ((eS 1 (T.int .u8)) pb0))), (8, (.t (.bool (!r0))))], []⟩ [(sp_law01_Awake n).fn [] = some ([.tree (.bool r0)], [])] (by kernel_rfl) ⟨(ap_law01_Awake n (by exact trivial) hr0), trivial⟩ ?_
  refine Nxt_norm ?_
  refine Ab.cond (b := (!r0)) (by kernel_rfl) (fun hb0 => ?_) (fun hb0 => ?_)
  · replace h := cond_t hb0 h
    refine Ab.seq ?_
    refine Ab.regT hE hC hL [] { keep := [6], ren := [] } ⟨[(6, (.t (.bool false)))], []⟩ [] (by kernel_rfl) trivial ?_
    refine Nxt_norm ?_
    refine Ab.ret ?_
    refine Nxt_ret ?_
    obtain rfl := Option.some.inj h
    exact End_ret (doneO_ok (md := [false]) (by kernel_rfl))
  · replace h := cond_f hb0 h
    refine Ab.skip ?_
    refine Nxt_norm ?_
    refine Ab.seq ?_
    refine Ab.regT hE hC hL [] { keep := [0, 1, 2], ren := [] } ⟨[(0, (.t (.int .u64 pn0))), (1, (.t (.int .i64 (psize0.tmod (40:Int))))), (2, (.t ((eS 1 (T.int .u8)) pb0)))], []⟩ [] (by kernel_rfl) trivial ?_
    refine Nxt_norm ?_
    refine Ab.seq ?_
    refine Ab.seq ?_
    refine Ab.regT hE hC hL [[], [.n (pb0.length : Int)]] { keep := [0, 1, 2, 13], ren := [] } ⟨[(0, (.t (.int .u64 pn0))), (1, (.t (.int .i64 (psize0.tmod (40:Int))))), (2, (.t ((eS 1 (T.int .u8)) pb0))), (13, (.t (.bool (decide ((pb0.length : Int) > (1000:Int))))))], []⟩ [((List.length (List.map (T.int .u8) pb0) : Nat) : Int) = (pb0.length : Int)] (by kernel_rfl) ⟨(len_of rfl), trivial⟩ ?_
    refine Nxt_norm ?_
    refine Ab.cond (b := (decide ((pb0.length : Int) > (1000:Int)))) (by kernel_rfl) (fun hb1 => ?_) (fun hb1 => ?_)
    · replace h := cond_t hb1 h
      refine Ab.seq ?_
      refine Ab.regT hE hC hL [] { keep := [6], ren := [] } ⟨[(6, (.t (.bool true)))], []⟩ [] (by kernel_rfl) trivial ?_
      refine Nxt_norm ?_
      refine Ab.ret ?_
      refine Nxt_ret ?_
      obtain rfl := Option.some.inj h
      exact End_ret (doneO_ok (md := [false]) (by kernel_rfl))
    · replace h := cond_f hb1 h
      refine Ab.skip ?_
      refine Nxt_norm ?_
      refine Ab.seq ?_
      obtain ⟨r1, hr1, h⟩ := bind_some h
      obtain ⟨r2, hr2, h⟩ := bind_some h
      rcases Bool.eq_false_or_eq_true ((strOf r1).toList == (strOf r2).toList) with hb2 | hb2
      · replace h := cond_t hb2 h
        obtain ⟨hq0, h⟩ := ask_dec h
        obtain ⟨r3, hr3, h⟩ := bind_some h
        obtain ⟨r4, hr4, h⟩ := bind_some h
        rcases Bool.eq_false_or_eq_true (r3 == r4) with hb3 | hb3
        · replace h := cond_t hb3 h
          obtain ⟨r5, hr5, h⟩ := bind_some h
          obtain ⟨r6, hr6, h⟩ := bind_some h
          refine Ab.regA hE hC hL [[], [], [.r [.row 5 1 (List.map (T.int .u8) r1)] []], [.s (strOf r1)], [], [], [.r [.row 5 1 (List.map (T.int .u8) r2)] []], [.s (strOf r2)], [], [.b true], [], [], [.l (List.map (T.int .u8) (([] : List Int) ++ pb0))], [.r [.tree (.int .u64 r3)] []], [], [.r [.tree (.int .u64 r4)] []], [], [], [.b true], [], [.r [.row 5 1 (List.map (T.int .u8) r5)] []], [.r [.tree (.int .u64 r6)] []]] { keep := [6], ren := [] } ⟨[(6, (.t (.bool (r6 == pn0))))], []⟩ [(sp_num_Put n).fn [(.int .u64 pn0), (.int .i64 (psize0.tmod (40:Int)))] = some ([.row 5 1 (List.map (T.int .u8) r1)], []), (bytesOf (List.map (T.int .u8) r1)).map (fun b => (⟨b.toArray⟩ : ByteArray)) = some (strOf r1), (sp_ref01_Put n).fn [(.int .u64 pn0), (.int .i64 (psize0.tmod (40:Int)))] = some ([.row 5 1 (List.map (T.int .u8) r2)], []), (bytesOf (List.map (T.int .u8) r2)).map (fun b => (⟨b.toArray⟩ : ByteArray)) = some (strOf r2), ((strOf r1).toList == (strOf r2).toList) = true, (List.length (List.map (T.int .u8) ([] : List Int)) + List.length (List.map (T.int .u8) pb0)) * 1 ≤ maxBytes, List.length (List.map (T.int .u8) ([] : List Int)) + List.length (List.map (T.int .u8) pb0) ≤ maxBytes, (List.map (T.int .u8) ([] : List Int)) ++ (List.map (T.int .u8) pb0) = List.map (T.int .u8) (([] : List Int) ++ pb0), (sp_num_Take n).fn [(.slc 1 (List.map (T.int .u8) (([] : List Int) ++ pb0)))] = some ([.tree (.int .u64 r3)], []), (sp_ref01_Take n).fn [((eS 1 (T.int .u8)) pb0)] = some ([.tree (.int .u64 r4)], []), (r3 == r4) = true, (sp_num_Put n).fn [(.int .u64 pn0), (.int .i64 (8:Int))] = some ([.row 5 1 (List.map (T.int .u8) r5)], []), (sp_num_Take n).fn [(.slc 1 (List.map (T.int .u8) r5))] = some ([.tree (.int .u64 r6)], [])] (by kernel_rfl) (by kernel_rfl) ⟨(ap_num_Put n (by exact ⟨leT.refl _, leT.refl _, trivial⟩) hr1), (bytes_strOf rfl), (ap_ref01_Put n (by exact ⟨leT.refl _, leT.refl _, trivial⟩) hr2), (bytes_strOf rfl), hb2, (app_b rfl rfl hq0), (app_c rfl rfl (by decide) hq0), (app_of rfl rfl), (ap_num_Take n (by exact ⟨leT.refl _, trivial⟩) hr3), (ap_ref01_Take n (by exact ⟨leT.refl _, trivial⟩) hr4), hb3, (ap_num_Put n (by exact ⟨leT.refl _, leT.refl _, trivial⟩) hr5), (ap_num_Take n (by exact ⟨leT.refl _, trivial⟩) hr6), trivial⟩ ?_
          refine Nxt_norm ?_
          refine Ab.ret ?_
          obtain rfl := Option.some.inj h
          exact End_ret (doneO_ok (md := [false]) (by kernel_rfl))
        · replace h := cond_f hb3 h
          refine Ab.regA hE hC hL [[], [], [.r [.row 5 1 (List.map (T.int .u8) r1)] []], [.s (strOf r1)], [], [], [.r [.row 5 1 (List.map (T.int .u8) r2)] []], [.s (strOf r2)], [], [.b true], [], [], [.l (List.map (T.int .u8) (([] : List Int) ++ pb0))], [.r [.tree (.int .u64 r3)] []], [], [.r [.tree (.int .u64 r4)] []], [], [], [.b false]] { keep := [6], ren := [] } ⟨[(6, (.t (.bool false)))], []⟩ [(sp_num_Put n).fn [(.int .u64 pn0), (.int .i64 (psize0.tmod (40:Int)))] = some ([.row 5 1 (List.map (T.int .u8) r1)], []), (bytesOf (List.map (T.int .u8) r1)).map (fun b => (⟨b.toArray⟩ : ByteArray)) = some (strOf r1), (sp_ref01_Put n).fn [(.int .u64 pn0), (.int .i64 (psize0.tmod (40:Int)))] = some ([.row 5 1 (List.map (T.int .u8) r2)], []), (bytesOf (List.map (T.int .u8) r2)).map (fun b => (⟨b.toArray⟩ : ByteArray)) = some (strOf r2), ((strOf r1).toList == (strOf r2).toList) = true, (List.length (List.map (T.int .u8) ([] : List Int)) + List.length (List.map (T.int .u8) pb0)) * 1 ≤ maxBytes, List.length (List.map (T.int .u8) ([] : List Int)) + List.length (List.map (T.int .u8) pb0) ≤ maxBytes, (List.map (T.int .u8) ([] : List Int)) ++ (List.map (T.int .u8) pb0) = List.map (T.int .u8) (([] : List Int) ++ pb0), (sp_num_Take n).fn [(.slc 1 (List.map (T.int .u8) (([] : List Int) ++ pb0)))] = some ([.tree (.int .u64 r3)], []), (sp_ref01_Take n).fn [((eS 1 (T.int .u8)) pb0)] = some ([.tree (.int .u64 r4)], []), (r3 == r4) = false] (by kernel_rfl) (by kernel_rfl) ⟨(ap_num_Put n (by exact ⟨leT.refl _, leT.refl _, trivial⟩) hr1), (bytes_strOf rfl), (ap_ref01_Put n (by exact ⟨leT.refl _, leT.refl _, trivial⟩) hr2), (bytes_strOf rfl), hb2, (app_b rfl rfl hq0), (app_c rfl rfl (by decide) hq0), (app_of rfl rfl), (ap_num_Take n (by exact ⟨leT.refl _, trivial⟩) hr3), (ap_ref01_Take n (by exact ⟨leT.refl _, trivial⟩) hr4), hb3, trivial⟩ ?_
          refine Nxt_norm ?_
          refine Ab.ret ?_
          obtain rfl := Option.some.inj h
          exact End_ret (doneO_ok (md := [false]) (by kernel_rfl))
      · replace h := cond_f hb2 h
        refine Ab.regA hE hC hL [[], [], [.r [.row 5 1 (List.map (T.int .u8) r1)] []], [.s (strOf r1)], [], [], [.r [.row 5 1 (List.map (T.int .u8) r2)] []], [.s (strOf r2)], [], [.b false]] { keep := [6], ren := [] } ⟨[(6, (.t (.bool false)))], []⟩ [(sp_num_Put n).fn [(.int .u64 pn0), (.int .i64 (psize0.tmod (40:Int)))] = some ([.row 5 1 (List.map (T.int .u8) r1)], []), (bytesOf (List.map (T.int .u8) r1)).map (fun b => (⟨b.toArray⟩ : ByteArray)) = some (strOf r1), (sp_ref01_Put n).fn [(.int .u64 pn0), (.int .i64 (psize0.tmod (40:Int)))] = some ([.row 5 1 (List.map (T.int .u8) r2)], []), (bytesOf (List.map (T.int .u8) r2)).map (fun b => (⟨b.toArray⟩ : ByteArray)) = some (strOf r2), ((strOf r1).toList == (strOf r2).toList) = false] (by kernel_rfl) (by kernel_rfl) ⟨(ap_num_Put n (by exact ⟨leT.refl _, leT.refl _, trivial⟩) hr1), (bytes_strOf rfl), (ap_ref01_Put n (by exact ⟨leT.refl _, leT.refl _, trivial⟩) hr2), (bytes_strOf rfl), hb2, trivial⟩ ?_
        refine Nxt_norm ?_
        refine Ab.ret ?_
        obtain rfl := Option.some.inj h
        exact End_ret (doneO_ok (md := [false]) (by kernel_rfl))
def ea_bits_Mul64 (a : Int × Int) : List T := [(T.int .u64) a.1, (T.int .u64) a.2]
def er_bits_Mul64 (r : (Int × Int)) : List RR × List T := ([.tree ((T.int .u64) r.1), .tree ((T.int .u64) r.2)], [])
noncomputable def sp_bits_Mul64 (n : Nat) : Spec := specP [] true ea_bits_Mul64 (fun a => f_bits_Mul64 n a.1 a.2) (fun _ r => er_bits_Mul64 r)
theorem ap_bits_Mul64 (n : Nat) {ts : List T} {a0 : Int} {a1 : Int} {r : (Int × Int)} (hle : leTs ts [(T.int .u64) a0, (T.int .u64) a1]) (h : f_bits_Mul64 n a0 a1 = some r) : (sp_bits_Mul64 n).fn ts = some ([.tree ((T.int .u64) r.1), .tree ((T.int .u64) r.2)], []) :=
  specP_fn (a := (a0, a1)) (InjA.cons (inj_int _) (InjA.one (inj_int _))) hle h
noncomputable def E_bits_Mul64 (n : Nat) : Env := { ty := tyT, glob := glob, fns := get [], ntmps := 51 }
theorem eok_bits_Mul64 (n : Nat) : EnvOK Try.prog (E_bits_Mul64 n) := ⟨tys_ok tys_chk, prog_mixed, fns_nil⟩
def K_bits_Mul64 (n : Nat) (px0 : Int) (py0 : Int) (r : (Int × Int)) : St → Prop := Done (E_bits_Mul64 n) Try.f25.results.toList [] (ea_bits_Mul64 (px0, py0)) (er_bits_Mul64 r).1 (er_bits_Mul64 r).2
set_option maxRecDepth 100000 in
set_option maxHeartbeats 4000000 in
theorem ok_bits_Mul64 (n : Nat) : SpecOK Try.prog glob 25 (sp_bits_Mul64 n) := by
  refine specP_ok (fn := Try.f25) (eok_bits_Mul64 n) (by kernel_rfl) rfl (by decide +kernel) (by kernel_rfl) (fun _ => by show 2 ≤ 51; omega) (fun _ _ r => ⟨(rrf_tree ((fun _ => rfl) _) (rrf_tree ((fun _ => rfl) _) rrf_nil)), flats_nil⟩) ?_
  rintro ⟨px0, py0⟩ r h C hL hC
  have hE := eok_bits_Mul64 n
  replace hL : ∀ n g, (n, g) ∈ C.lent → n ∈ ([] : List Nat) := hL
  replace h : f_bits_Mul64 n px0 py0 = some r := h
  show Ab _ _ _ _ _ (End (K_bits_Mul64 n px0 py0 r))
  unfold f_bits_Mul64 at h
  refine Ab.seq ?_
  refine Ab.regT hE hC hL [] { keep := [0, 1], ren := [] } ⟨[(0, (.t (.int .u64 px0))), (1, (.t (.int .u64 py0)))], []⟩ [] (by kernel_rfl) trivial ?_
  refine Nxt_norm ?_
  refine Ab.seq ?_
  refine Ab.regT hE hC hL [] { keep := [0, 1, 6], ren := [] } ⟨[(0, (.t (.int .u64 px0))), (1, (.t (.int .u64 py0))), (6, (.t (.int .u64 (bits .and .u64 px0 (4294967295:Int)))))], []⟩ [] (by kernel_rfl) trivial ?_
  refine Nxt_norm ?_
  refine Ab.seq ?_
  refine Ab.regT hE hC hL [] { keep := [0, 1, 6, 7], ren := [] } ⟨[(0, (.t (.int .u64 px0))), (1, (.t (.int .u64 py0))), (6, (.t (.int .u64 (bits .and .u64 px0 (4294967295:Int))))), (7, (.t (.int .u64 (shr .u64 px0 (32:Int)))))], []⟩ [] (by kernel_rfl) trivial ?_
  refine Nxt_norm ?_
  refine Ab.seq ?_
  refine Ab.regT hE hC hL [] { keep := [0, 1, 6, 7, 8], ren := [] } ⟨[(0, (.t (.int .u64 px0))), (1, (.t (.int .u64 py0))), (6, (.t (.int .u64 (bits .and .u64 px0 (4294967295:Int))))), (7, (.t (.int .u64 (shr .u64 px0 (32:Int))))), (8, (.t (.int .u64 (bits .and .u64 py0 (4294967295:Int)))))], []⟩ [] (by kernel_rfl) trivial ?_
  refine Nxt_norm ?_
  refine Ab.seq ?_
  refine Ab.regT hE hC hL [] { keep := [0, 1, 6, 7, 8, 9], ren := [] } ⟨[(0, (.t (.int .u64 px0))), (1, (.t (.int .u64 py0))), (6, (.t (.int .u64 (bits .and .u64 px0 (4294967295:Int))))), (7, (.t (.int .u64 (shr .u64 px0 (32:Int))))), (8, (.t (.int .u64 (bits .and .u64 py0 (4294967295:Int))))), (9, (.t (.int .u64 (shr .u64 py0 (32:Int)))))], []⟩ [] (by kernel_rfl) trivial ?_
  refine Nxt_norm ?_
  refine Ab.seq ?_
  refine Ab.regT hE hC hL [] { keep := [0, 1, 6, 7, 8, 9, 10], ren := [] } ⟨[(0, (.t (.int .u64 px0))), (1, (.t (.int .u64 py0))), (6, (.t (.int .u64 (bits .and .u64 px0 (4294967295:Int))))), (7, (.t (.int .u64 (shr .u64 px0 (32:Int))))), (8, (.t (.int .u64 (bits .and .u64 py0 (4294967295:Int))))), (9, (.t (.int .u64 (shr .u64 py0 (32:Int))))), (10, (.t (.int .u64 (w64 ((bits .and .u64 px0 (4294967295:Int)) * (bits .and .u64 py0 (4294967295:Int)))))))], []⟩ [] (by kernel_rfl) trivial ?_
  refine Nxt_norm ?_
  refine Ab.seq ?_
  refine Ab.regT hE hC hL [] { keep := [0, 1, 6, 7, 9, 11], ren := [] } ⟨[(0, (.t (.int .u64 px0))), (1, (.t (.int .u64 py0))), (6, (.t (.int .u64 (bits .and .u64 px0 (4294967295:Int))))), (7, (.t (.int .u64 (shr .u64 px0 (32:Int))))), (9, (.t (.int .u64 (shr .u64 py0 (32:Int))))), (11, (.t (.int .u64 (w64 ((w64 ((shr .u64 px0 (32:Int)) * (bits .and .u64 py0 (4294967295:Int)))) + (shr .u64 (w64 ((bits .and .u64 px0 (4294967295:Int)) * (bits .and .u64 py0 (4294967295:Int)))) (32:Int)))))))], []⟩ [] (by kernel_rfl) trivial ?_
  refine Nxt_norm ?_
  refine Ab.seq ?_
  refine Ab.regT hE hC hL [] { keep := [0, 1, 6, 7, 9, 11, 12], ren := [] } ⟨[(0, (.t (.int .u64 px0))), (1, (.t (.int .u64 py0))), (6, (.t (.int .u64 (bits .and .u64 px0 (4294967295:Int))))), (7, (.t (.int .u64 (shr .u64 px0 (32:Int))))), (9, (.t (.int .u64 (shr .u64 py0 (32:Int))))), (11, (.t (.int .u64 (w64 ((w64 ((shr .u64 px0 (32:Int)) * (bits .and .u64 py0 (4294967295:Int)))) + (shr .u64 (w64 ((bits .and .u64 px0 (4294967295:Int)) * (bits .and .u64 py0 (4294967295:Int)))) (32:Int))))))), (12, (.t (.int .u64 (bits .and .u64 (w64 ((w64 ((shr .u64 px0 (32:Int)) * (bits .and .u64 py0 (4294967295:Int)))) + (shr .u64 (w64 ((bits .and .u64 px0 (4294967295:Int)) * (bits .and .u64 py0 (4294967295:Int)))) (32:Int)))) (4294967295:Int)))))], []⟩ [] (by kernel_rfl) trivial ?_
  refine Nxt_norm ?_
  refine Ab.seq ?_
  refine Ab.regT hE hC hL [] { keep := [0, 1, 6, 7, 9, 12, 13], ren := [] } ⟨[(0, (.t (.int .u64 px0))), (1, (.t (.int .u64 py0))), (6, (.t (.int .u64 (bits .and .u64 px0 (4294967295:Int))))), (7, (.t (.int .u64 (shr .u64 px0 (32:Int))))), (9, (.t (.int .u64 (shr .u64 py0 (32:Int))))), (12, (.t (.int .u64 (bits .and .u64 (w64 ((w64 ((shr .u64 px0 (32:Int)) * (bits .and .u64 py0 (4294967295:Int)))) + (shr .u64 (w64 ((bits .and .u64 px0 (4294967295:Int)) * (bits .and .u64 py0 (4294967295:Int)))) (32:Int)))) (4294967295:Int))))), (13, (.t (.int .u64 (shr .u64 (w64 ((w64 ((shr .u64 px0 (32:Int)) * (bits .and .u64 py0 (4294967295:Int)))) + (shr .u64 (w64 ((bits .and .u64 px0 (4294967295:Int)) * (bits .and .u64 py0 (4294967295:Int)))) (32:Int)))) (32:Int)))))], []⟩ [] (by kernel_rfl) trivial ?_
  refine Nxt_norm ?_
  refine Ab.seq ?_
  refine Ab.regT hE hC hL [] { keep := [0, 1, 7, 9, 12, 13], ren := [] } ⟨[(0, (.t (.int .u64 px0))), (1, (.t (.int .u64 py0))), (7, (.t (.int .u64 (shr .u64 px0 (32:Int))))), (9, (.t (.int .u64 (shr .u64 py0 (32:Int))))), (12, (.t (.int .u64 (w64 ((bits .and .u64 (w64 ((w64 ((shr .u64 px0 (32:Int)) * (bits .and .u64 py0 (4294967295:Int)))) + (shr .u64 (w64 ((bits .and .u64 px0 (4294967295:Int)) * (bits .and .u64 py0 (4294967295:Int)))) (32:Int)))) (4294967295:Int)) + (w64 ((bits .and .u64 px0 (4294967295:Int)) * (shr .u64 py0 (32:Int))))))))), (13, (.t (.int .u64 (shr .u64 (w64 ((w64 ((shr .u64 px0 (32:Int)) * (bits .and .u64 py0 (4294967295:Int)))) + (shr .u64 (w64 ((bits .and .u64 px0 (4294967295:Int)) * (bits .and .u64 py0 (4294967295:Int)))) (32:Int)))) (32:Int)))))], []⟩ [] (by kernel_rfl) trivial ?_
  refine Nxt_norm ?_
  refine Ab.seq ?_
  refine Ab.regT hE hC hL [] { keep := [0, 1, 4], ren := [] } ⟨[(0, (.t (.int .u64 px0))), (1, (.t (.int .u64 py0))), (4, (.t (.int .u64 (w64 ((w64 ((w64 ((shr .u64 px0 (32:Int)) * (shr .u64 py0 (32:Int)))) + (shr .u64 (w64 ((w64 ((shr .u64 px0 (32:Int)) * (bits .and .u64 py0 (4294967295:Int)))) + (shr .u64 (w64 ((bits .and .u64 px0 (4294967295:Int)) * (bits .and .u64 py0 (4294967295:Int)))) (32:Int)))) (32:Int)))) + (shr .u64 (w64 ((bits .and .u64 (w64 ((w64 ((shr .u64 px0 (32:Int)) * (bits .and .u64 py0 (4294967295:Int)))) + (shr .u64 (w64 ((bits .and .u64 px0 (4294967295:Int)) * (bits .and .u64 py0 (4294967295:Int)))) (32:Int)))) (4294967295:Int)) + (w64 ((bits .and .u64 px0 (4294967295:Int)) * (shr .u64 py0 (32:Int)))))) (32:Int)))))))], []⟩ [] (by kernel_rfl) trivial ?_
  refine Nxt_norm ?_
  refine Ab.seq ?_
  refine Ab.regT hE hC hL [] { keep := [4, 5], ren := [] } ⟨[(4, (.t (.int .u64 (w64 ((w64 ((w64 ((shr .u64 px0 (32:Int)) * (shr .u64 py0 (32:Int)))) + (shr .u64 (w64 ((w64 ((shr .u64 px0 (32:Int)) * (bits .and .u64 py0 (4294967295:Int)))) + (shr .u64 (w64 ((bits .and .u64 px0 (4294967295:Int)) * (bits .and .u64 py0 (4294967295:Int)))) (32:Int)))) (32:Int)))) + (shr .u64 (w64 ((bits .and .u64 (w64 ((w64 ((shr .u64 px0 (32:Int)) * (bits .and .u64 py0 (4294967295:Int)))) + (shr .u64 (w64 ((bits .and .u64 px0 (4294967295:Int)) * (bits .and .u64 py0 (4294967295:Int)))) (32:Int)))) (4294967295:Int)) + (w64 ((bits .and .u64 px0 (4294967295:Int)) * (shr .u64 py0 (32:Int)))))) (32:Int))))))), (5, (.t (.int .u64 (w64 (px0 * py0)))))], []⟩ [] (by kernel_rfl) trivial ?_
  refine Nxt_norm ?_
  refine Ab.ret ?_
  obtain rfl := Option.some.inj h
  exact End_ret (doneO_ok (md := [false, false]) (by kernel_rfl))
def ea_ref01_Root (a : Int) : List T := [(T.int .u64) a]
def er_ref01_Root (r : Int) : List RR × List T := ([.tree ((T.int .u64) r)], [])
noncomputable def sp_ref01_Root (n : Nat) : Spec := specP [] true ea_ref01_Root (fun a => f_ref01_Root n a) (fun _ r => er_ref01_Root r)
theorem ap_ref01_Root (n : Nat) {ts : List T} {a0 : Int} {r : Int} (hle : leTs ts [(T.int .u64) a0]) (h : f_ref01_Root n a0 = some r) : (sp_ref01_Root n).fn ts = some ([.tree ((T.int .u64) r)], []) :=
  specP_fn (a := a0) (InjA.one (inj_int _)) hle h
noncomputable def E_ref01_Root (n : Nat) : Env := { ty := tyT, glob := glob, fns := get [], ntmps := 21 }
theorem eok_ref01_Root (n : Nat) : EnvOK Try.prog (E_ref01_Root n) := ⟨tys_ok tys_chk, prog_mixed, fns_nil⟩
def K_ref01_Root (n : Nat) (pn0 : Int) (r : Int) : St → Prop := Done (E_ref01_Root n) Try.f26.results.toList [] (ea_ref01_Root pn0) (er_ref01_Root r).1 (er_ref01_Root r).2
set_option maxRecDepth 100000 in
set_option maxHeartbeats 4000000 in
theorem ok_ref01_Root (n : Nat) : SpecOK Try.prog glob 26 (sp_ref01_Root n) := by
  refine specP_ok (fn := Try.f26) (eok_ref01_Root n) (by kernel_rfl) rfl (by decide +kernel) (by kernel_rfl) (fun _ => by show 1 ≤ 21; omega) (fun _ _ r => ⟨(rrf_tree ((fun _ => rfl) _) rrf_nil), flats_nil⟩) ?_
  rintro pn0 r h C hL hC
  have hE := eok_ref01_Root n
  replace hL : ∀ n g, (n, g) ∈ C.lent → n ∈ ([] : List Nat) := hL
  replace h : f_ref01_Root n pn0 = some r := h
  show Ab _ _ _ _ _ (End (K_ref01_Root n pn0 r))
  unfold f_ref01_Root at h
  refine Ab.seq ?_
  refine Ab.regT hE hC hL [] { keep := [0], ren := [] } ⟨[(0, (.t (.int .u64 pn0)))], []⟩ [] (by kernel_rfl) trivial ?_
  refine Nxt_norm ?_
  refine Ab.seq ?_
  refine Ab.regT hE hC hL [] { keep := [0, 3], ren := [] } ⟨[(0, (.t (.int .u64 pn0))), (3, (.t (.int .u64 (0:Int))))], []⟩ [] (by kernel_rfl) trivial ?_
  refine Nxt_norm ?_
  refine Ab.seq ?_
  refine Ab.seq ?_
  refine Ab.regT hE hC hL [] { keep := [0, 3, 4], ren := [] } ⟨[(0, (.t (.int .u64 pn0))), (3, (.t (.int .u64 (0:Int)))), (4, (.t (.int .i64 (31:Int))))], []⟩ [] (by kernel_rfl) trivial ?_
  refine Nxt_norm ?_
  obtain ⟨x0, hx0, h⟩ := bind_some h
  refine Ab.loopX0 (fun ((a0, a1) : (Int × Int)) => (⟨[(0, (.t (.int .u64 pn0))), (3, (.t (.int .u64 a0))), (4, (.t (.int .i64 a1)))], []⟩ : St)) (fun (a2 : Int) => (⟨[(3, (.t (.int .u64 a2)))], []⟩ : St)) { fs := [], keep := [0, 3, 4], ren := [] } ((0:Int), (31:Int)) hC hL hx0 (by kernel_rfl) ?_ ?_
  · rintro ⟨a0, a1⟩ o0 h
    replace h : f_ref01_Root_b0 n pn0 a0 a1 = some o0 := h
    unfold f_ref01_Root_b0 at h
    refine Ab.seq ?_
    refine Ab.seq ?_
    refine Ab.regT hE hC hL [] { keep := [0, 3, 4, 7], ren := [] } ⟨[(0, (.t (.int .u64 pn0))), (3, (.t (.int .u64 a0))), (4, (.t (.int .i64 a1))), (7, (.t (.bool (decide (a1 ≥ (0:Int))))))], []⟩ [] (by kernel_rfl) trivial ?_
    refine Nxt_norm ?_
    refine Ab.cond (b := (decide (a1 ≥ (0:Int)))) (by kernel_rfl) (fun hb0 => ?_) (fun hb0 => ?_)
    · replace h := cond_t hb0 h
      refine Ab.skip ?_
      refine Nxt_norm ?_
      refine Ab.seq ?_
      refine Ab.block ?_
      refine Ab.seq ?_
      obtain ⟨hq0, h⟩ := ask_dec h
      refine Ab.regT hE hC hL [[], [], [.c]] { keep := [0, 3, 4, 5], ren := [] } ⟨[(0, (.t (.int .u64 pn0))), (3, (.t (.int .u64 a0))), (4, (.t (.int .i64 a1))), (5, (.t (.int .u64 (bits .or .u64 a0 (shl .u64 (1:Int) a1)))))], []⟩ [¬ a1 < 0] (by kernel_rfl) ⟨(Int.not_lt.2 hq0), trivial⟩ ?_
      refine Nxt_norm ?_
      refine Ab.seq ?_
      refine Ab.regT hE hC hL [] { keep := [0, 3, 4, 5, 18], ren := [] } ⟨[(0, (.t (.int .u64 pn0))), (3, (.t (.int .u64 a0))), (4, (.t (.int .i64 a1))), (5, (.t (.int .u64 (bits .or .u64 a0 (shl .u64 (1:Int) a1))))), (18, (.t (.bool (decide ((w64 ((bits .or .u64 a0 (shl .u64 (1:Int) a1)) * (bits .or .u64 a0 (shl .u64 (1:Int) a1)))) ≤ pn0)))))], []⟩ [] (by kernel_rfl) trivial ?_
      refine Nxt_norm ?_
      refine Ab.cond (b := (decide ((w64 ((bits .or .u64 a0 (shl .u64 (1:Int) a1)) * (bits .or .u64 a0 (shl .u64 (1:Int) a1)))) ≤ pn0))) (by kernel_rfl) (fun hb1 => ?_) (fun hb1 => ?_)
      · replace h := cond_t hb1 h
        refine Ab.regT hE hC hL [] { keep := [0, 3, 4], ren := [] } ⟨[(0, (.t (.int .u64 pn0))), (3, (.t (.int .u64 (bits .or .u64 a0 (shl .u64 (1:Int) a1))))), (4, (.t (.int .i64 a1)))], []⟩ [] (by kernel_rfl) trivial ?_
        refine Blk_norm ?_
        refine Nxt_norm ?_
        refine Ab.regT hE hC hL [] { keep := [0, 3, 4], ren := [] } ⟨[(0, (.t (.int .u64 pn0))), (3, (.t (.int .u64 (bits .or .u64 a0 (shl .u64 (1:Int) a1))))), (4, (.t (.int .i64 (wi (a1 - (1:Int))))))], []⟩ [] (by kernel_rfl) trivial ?_
        exact LK_norm ((bits .or .u64 a0 (shl .u64 (1:Int) a1)), (wi (a1 - (1:Int)))) { fs := [], keep := [0, 3, 4], ren := [] } h (by kernel_rfl)
      · replace h := cond_f hb1 h
        refine Ab.skip ?_
        refine Blk_norm ?_
        refine Nxt_norm ?_
        refine Ab.regT hE hC hL [] { keep := [0, 3, 4], ren := [] } ⟨[(0, (.t (.int .u64 pn0))), (3, (.t (.int .u64 a0))), (4, (.t (.int .i64 (wi (a1 - (1:Int))))))], []⟩ [] (by kernel_rfl) trivial ?_
        exact LK_norm (a0, (wi (a1 - (1:Int)))) { fs := [], keep := [0, 3, 4], ren := [] } h (by kernel_rfl)
    · replace h := cond_f hb0 h
      refine Ab.exit ?_
      refine Nxt_exit ?_
      exact LK_exit a0 h (PX_mk { fs := [], keep := [3], ren := [] } (by kernel_rfl))
  · refine Nxt_norm ?_
    refine Ab.seq ?_
    refine Ab.regT hE hC hL [] { keep := [2], ren := [] } ⟨[(2, (.t (.int .u64 x0)))], []⟩ [] (by kernel_rfl) trivial ?_
    refine Nxt_norm ?_
    refine Ab.ret ?_
    obtain rfl := Option.some.inj h
    exact End_ret (doneO_ok (md := [false]) (by kernel_rfl))
def ea_law01_NumRoots (a : Int) : List T := [(T.int .u64) a]
def er_law01_NumRoots (r : Bool) : List RR × List T := ([.tree (T.bool r)], [])
noncomputable def sp_law01_NumRoots (n : Nat) : Spec := specP [] true ea_law01_NumRoots (fun a => f_law01_NumRoots n a) (fun _ r => er_law01_NumRoots r)
theorem ap_law01_NumRoots (n : Nat) {ts : List T} {a0 : Int} {r : Bool} (hle : leTs ts [(T.int .u64) a0]) (h : f_law01_NumRoots n a0 = some r) : (sp_law01_NumRoots n).fn ts = some ([.tree (T.bool r)], []) :=
  specP_fn (a := a0) (InjA.one (inj_int _)) hle h
noncomputable def E_law01_NumRoots (n : Nat) : Env := { ty := tyT, glob := glob, fns := get [(19, sp_law01_Awake n), (24, sp_num_Root n), (25, sp_bits_Mul64 n), (26, sp_ref01_Root n)], ntmps := 48 }
theorem eok_law01_NumRoots (n : Nat) : EnvOK Try.prog (E_law01_NumRoots n) := ⟨tys_ok tys_chk, prog_mixed, (fns_cons (ok_law01_Awake n) (fns_cons (ok_num_Root n) (fns_cons (ok_bits_Mul64 n) (fns_cons (ok_ref01_Root n) fns_nil))))⟩
def K_law01_NumRoots (n : Nat) (pn0 : Int) (r : Bool) : St → Prop := Done (E_law01_NumRoots n) Try.f6.results.toList [] (ea_law01_NumRoots pn0) (er_law01_NumRoots r).1 (er_law01_NumRoots r).2
set_option maxRecDepth 100000 in
set_option maxHeartbeats 4000000 in
theorem ok_law01_NumRoots (n : Nat) : SpecB Try.prog glob 6 (sp_law01_NumRoots n) := by
  refine specP_B (fn := Try.f6) (eok_law01_NumRoots n) (by kernel_rfl) rfl (by decide +kernel) (by kernel_rfl) (fun _ => by show 1 ≤ 48; omega)  ?_
  rintro pn0 r h C hL hC
  have hE := eok_law01_NumRoots n
  replace hL : ∀ n g, (n, g) ∈ C.lent → n ∈ ([] : List Nat) := hL
  replace h : f_law01_NumRoots n pn0 = some r := h
  show Ab _ _ _ _ _ (End (K_law01_NumRoots n pn0 r))
  unfold f_law01_NumRoots at h
  refine Ab.seq ?_
  refine Ab.regT hE hC hL [] { keep := [0], ren := [] } ⟨[(0, (.t (.int .u64 pn0)))], []⟩ [] (by kernel_rfl) trivial ?_
  refine Nxt_norm ?_
  refine Ab.seq ?_
  refine Ab.seq ?_
  obtain ⟨r0, hr0, h⟩ := bind_some h
  refine Ab.regT hE hC hL [[.r [.tree (.bool r0)] []]] { keep := [0, 9], ren := [] } ⟨[(0, (.t (.int .u64 pn0))), (9, (.t (.bool (!r0))))], []⟩ [(sp_law01_Awake n).fn [] = some ([.tree (.bool r0)], [])] (by kernel_rfl) ⟨(ap_law01_Awake n (by exact trivial) hr0), trivial⟩ ?_
  refine Nxt_norm ?_
  refine Ab.cond (b := (!r0)) (by kernel_rfl) (fun hb0 => ?_) (fun hb0 => ?_)
  · replace h := cond_t hb0 h
    refine Ab.seq ?_
    refine Ab.regT hE hC hL [] { keep := [2], ren := [] } ⟨[(2, (.t (.bool false)))], []⟩ [] (by kernel_rfl) trivial ?_
    refine Nxt_norm ?_
    refine Ab.ret ?_
    refine Nxt_ret ?_
    obtain rfl := Option.some.inj h
    exact End_ret (doneO_ok (md := [false]) (by kernel_rfl))
  · replace h := cond_f hb0 h
    refine Ab.skip ?_
    refine Nxt_norm ?_
    refine Ab.seq ?_
    obtain ⟨r1, hr1, h⟩ := bind_some h
    refine Ab.regT hE hC hL [[], [.r [.tree (.int .u64 r1)] []]] { keep := [0, 3], ren := [] } ⟨[(0, (.t (.int .u64 pn0))), (3, (.t (.int .u64 r1)))], []⟩ [(sp_num_Root n).fn [(.int .u64 pn0)] = some ([.tree (.int .u64 r1)], [])] (by kernel_rfl) ⟨(ap_num_Root n (by exact ⟨leT.refl _, trivial⟩) hr1), trivial⟩ ?_
    refine Nxt_norm ?_
    refine Ab.seq ?_
    obtain ⟨r2, hr2, h⟩ := bind_some h
    refine Ab.regT hE hC hL [[], [], [.r [.tree (.int .u64 r2.1), .tree (.int .u64 r2.2)] []]] { keep := [0, 3, 4, 5], ren := [] } ⟨[(0, (.t (.int .u64 pn0))), (3, (.t (.int .u64 r1))), (4, (.t (.int .u64 r2.1))), (5, (.t (.int .u64 r2.2)))], []⟩ [(sp_bits_Mul64 n).fn [(.int .u64 r1), (.int .u64 r1)] = some ([.tree (.int .u64 r2.1), .tree (.int .u64 r2.2)], [])] (by kernel_rfl) ⟨(ap_bits_Mul64 n (by exact ⟨leT.refl _, leT.refl _, trivial⟩) hr2), trivial⟩ ?_
    refine Nxt_norm ?_
    refine Ab.seq ?_
    obtain ⟨r3, hr3, h⟩ := bind_some h
    refine Ab.regT hE hC hL [[], [], [], [], [.r [.tree (.int .u64 r3.1), .tree (.int .u64 r3.2)] []]] { keep := [0, 3, 4, 5, 6, 7], ren := [] } ⟨[(0, (.t (.int .u64 pn0))), (3, (.t (.int .u64 r1))), (4, (.t (.int .u64 r2.1))), (5, (.t (.int .u64 r2.2))), (6, (.t (.int .u64 r3.1))), (7, (.t (.int .u64 r3.2)))], []⟩ [(sp_bits_Mul64 n).fn [(.int .u64 (w64 (r1 + (1:Int)))), (.int .u64 (w64 (r1 + (1:Int))))] = some ([.tree (.int .u64 r3.1), .tree (.int .u64 r3.2)], [])] (by kernel_rfl) ⟨(ap_bits_Mul64 n (by exact ⟨leT.refl _, leT.refl _, trivial⟩) hr3), trivial⟩ ?_
    refine Nxt_norm ?_
    refine Ab.seq ?_
    obtain ⟨r4, hr4, h⟩ := bind_some h
    rcases Bool.eq_false_or_eq_true (r1 == r4) with hb1 | hb1
    · replace h := cond_t hb1 h
      rcases Bool.eq_false_or_eq_true (r2.1 == (0:Int)) with hb2 | hb2
      · replace h := cond_t hb2 h
        rcases Bool.eq_false_or_eq_true (decide (r2.2 ≤ pn0)) with hb3 | hb3
        · replace h := cond_t hb3 h
          rcases Bool.eq_false_or_eq_true (decide (r3.1 > (0:Int))) with hb4 | hb4
          · replace h := cond_t hb4 h
            refine Ab.regT hE hC hL [[], [], [.r [.tree (.int .u64 r4)] []], [], [.b true], [], [], [], [.b true], [], [], [], [], [.b true], [], [], [.b true]] { keep := [2], ren := [] } ⟨[(2, (.t (.bool true)))], []⟩ [(sp_ref01_Root n).fn [(.int .u64 pn0)] = some ([.tree (.int .u64 r4)], []), (r1 == r4) = true, (r2.1 == (0:Int)) = true, (decide (r2.2 ≤ pn0)) = true, (decide (r3.1 > (0:Int))) = true] (by kernel_rfl) ⟨(ap_ref01_Root n (by exact ⟨leT.refl _, trivial⟩) hr4), hb1, hb2, hb3, hb4, trivial⟩ ?_
            refine Nxt_norm ?_
            refine Ab.ret ?_
            obtain rfl := Option.some.inj h
            exact End_ret (doneO_ok (md := [false]) (by kernel_rfl))
          · replace h := cond_f hb4 h
            refine Ab.regT hE hC hL [[], [], [.r [.tree (.int .u64 r4)] []], [], [.b true], [], [], [], [.b true], [], [], [], [], [.b true], [], [], [.b false]] { keep := [2], ren := [] } ⟨[(2, (.t (.bool (decide (r3.2 > pn0)))))], []⟩ [(sp_ref01_Root n).fn [(.int .u64 pn0)] = some ([.tree (.int .u64 r4)], []), (r1 == r4) = true, (r2.1 == (0:Int)) = true, (decide (r2.2 ≤ pn0)) = true, (decide (r3.1 > (0:Int))) = false] (by kernel_rfl) ⟨(ap_ref01_Root n (by exact ⟨leT.refl _, trivial⟩) hr4), hb1, hb2, hb3, hb4, trivial⟩ ?_
            refine Nxt_norm ?_
            refine Ab.ret ?_
            obtain rfl := Option.some.inj h
            exact End_ret (doneO_ok (md := [false]) (by kernel_rfl))
        · replace h := cond_f hb3 h
          refine Ab.regT hE hC hL [[], [], [.r [.tree (.int .u64 r4)] []], [], [.b true], [], [], [], [.b true], [], [], [], [], [.b false]] { keep := [2], ren := [] } ⟨[(2, (.t (.bool false)))], []⟩ [(sp_ref01_Root n).fn [(.int .u64 pn0)] = some ([.tree (.int .u64 r4)], []), (r1 == r4) = true, (r2.1 == (0:Int)) = true, (decide (r2.2 ≤ pn0)) = false] (by kernel_rfl) ⟨(ap_ref01_Root n (by exact ⟨leT.refl _, trivial⟩) hr4), hb1, hb2, hb3, trivial⟩ ?_
          refine Nxt_norm ?_
          refine Ab.ret ?_
          obtain rfl := Option.some.inj h
          exact End_ret (doneO_ok (md := [false]) (by kernel_rfl))
      · replace h := cond_f hb2 h
        refine Ab.regT hE hC hL [[], [], [.r [.tree (.int .u64 r4)] []], [], [.b true], [], [], [], [.b false]] { keep := [2], ren := [] } ⟨[(2, (.t (.bool false)))], []⟩ [(sp_ref01_Root n).fn [(.int .u64 pn0)] = some ([.tree (.int .u64 r4)], []), (r1 == r4) = true, (r2.1 == (0:Int)) = false] (by kernel_rfl) ⟨(ap_ref01_Root n (by exact ⟨leT.refl _, trivial⟩) hr4), hb1, hb2, trivial⟩ ?_
        refine Nxt_norm ?_
        refine Ab.ret ?_
        obtain rfl := Option.some.inj h
        exact End_ret (doneO_ok (md := [false]) (by kernel_rfl))
    · replace h := cond_f hb1 h
      refine Ab.regT hE hC hL [[], [], [.r [.tree (.int .u64 r4)] []], [], [.b false]] { keep := [2], ren := [] } ⟨[(2, (.t (.bool false)))], []⟩ [(sp_ref01_Root n).fn [(.int .u64 pn0)] = some ([.tree (.int .u64 r4)], []), (r1 == r4) = false] (by kernel_rfl) ⟨(ap_ref01_Root n (by exact ⟨leT.refl _, trivial⟩) hr4), hb1, trivial⟩ ?_
      refine Nxt_norm ?_
      refine Ab.ret ?_
      obtain rfl := Option.some.inj h
      exact End_ret (doneO_ok (md := [false]) (by kernel_rfl))
def ea_ref01_Add (a : Int × Int) : List T := [(T.int .u64) a.1, (T.int .u64) a.2]
def er_ref01_Add (r : (Int × Bool)) : List RR × List T := ([.tree ((T.int .u64) r.1), .tree (T.bool r.2)], [])
noncomputable def sp_ref01_Add (n : Nat) : Spec := specP [] true ea_ref01_Add (fun a => f_ref01_Add n a.1 a.2) (fun _ r => er_ref01_Add r)
theorem ap_ref01_Add (n : Nat) {ts : List T} {a0 : Int} {a1 : Int} {r : (Int × Bool)} (hle : leTs ts [(T.int .u64) a0, (T.int .u64) a1]) (h : f_ref01_Add n a0 a1 = some r) : (sp_ref01_Add n).fn ts = some ([.tree ((T.int .u64) r.1), .tree (T.bool r.2)], []) :=
  specP_fn (a := (a0, a1)) (InjA.cons (inj_int _) (InjA.one (inj_int _))) hle h
noncomputable def E_ref01_Add (n : Nat) : Env := { ty := tyT, glob := glob, fns := get [], ntmps := 13 }
theorem eok_ref01_Add (n : Nat) : EnvOK Try.prog (E_ref01_Add n) := ⟨tys_ok tys_chk, prog_mixed, fns_nil⟩
def K_ref01_Add (n : Nat) (pa0 : Int) (pb0 : Int) (r : (Int × Bool)) : St → Prop := Done (E_ref01_Add n) Try.f28.results.toList [] (ea_ref01_Add (pa0, pb0)) (er_ref01_Add r).1 (er_ref01_Add r).2
set_option maxRecDepth 100000 in
set_option maxHeartbeats 4000000 in
theorem ok_ref01_Add (n : Nat) : SpecOK Try.prog glob 28 (sp_ref01_Add n) := by
  refine specP_ok (fn := Try.f28) (eok_ref01_Add n) (by kernel_rfl) rfl (by decide +kernel) (by kernel_rfl) (fun _ => by show 2 ≤ 13; omega) (fun _ _ r => ⟨(rrf_tree ((fun _ => rfl) _) (rrf_tree ((fun _ => rfl) _) rrf_nil)), flats_nil⟩) ?_
  rintro ⟨pa0, pb0⟩ r h C hL hC
  have hE := eok_ref01_Add n
  replace hL : ∀ n g, (n, g) ∈ C.lent → n ∈ ([] : List Nat) := hL
  replace h : f_ref01_Add n pa0 pb0 = some r := h
  show Ab _ _ _ _ _ (End (K_ref01_Add n pa0 pb0 r))
  unfold f_ref01_Add at h
  refine Ab.seq ?_
  refine Ab.regT hE hC hL [] { keep := [0, 1], ren := [] } ⟨[(0, (.t (.int .u64 pa0))), (1, (.t (.int .u64 pb0)))], []⟩ [] (by kernel_rfl) trivial ?_
  refine Nxt_norm ?_
  refine Ab.seq ?_
  refine Ab.seq ?_
  refine Ab.regT hE hC hL [] { keep := [0, 1, 9], ren := [] } ⟨[(0, (.t (.int .u64 pa0))), (1, (.t (.int .u64 pb0))), (9, (.t (.bool (decide (pa0 > (w64 ((18446744073709551615:Int) - pb0)))))))], []⟩ [] (by kernel_rfl) trivial ?_
  refine Nxt_norm ?_
  refine Ab.cond (b := (decide (pa0 > (w64 ((18446744073709551615:Int) - pb0))))) (by kernel_rfl) (fun hb0 => ?_) (fun hb0 => ?_)
  · replace h := cond_t hb0 h
    refine Ab.seq ?_
    refine Ab.regT hE hC hL [] { keep := [4, 5], ren := [] } ⟨[(4, (.t (.int .u64 (0:Int)))), (5, (.t (.bool false)))], []⟩ [] (by kernel_rfl) trivial ?_
    refine Nxt_norm ?_
    refine Ab.ret ?_
    refine Nxt_ret ?_
    obtain rfl := Option.some.inj h
    exact End_ret (doneO_ok (md := [false, false]) (by kernel_rfl))
  · replace h := cond_f hb0 h
    refine Ab.skip ?_
    refine Nxt_norm ?_
    refine Ab.seq ?_
    refine Ab.regT hE hC hL [] { keep := [4, 5], ren := [] } ⟨[(4, (.t (.int .u64 (w64 (pa0 + pb0))))), (5, (.t (.bool true)))], []⟩ [] (by kernel_rfl) trivial ?_
    refine Nxt_norm ?_
    refine Ab.ret ?_
    obtain rfl := Option.some.inj h
    exact End_ret (doneO_ok (md := [false, false]) (by kernel_rfl))

end Go.Mg
