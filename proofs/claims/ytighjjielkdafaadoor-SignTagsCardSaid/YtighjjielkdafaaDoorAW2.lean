/- The model's code computes these functions. -/
import Derived.Test.YtighjjielkdafaaDoorAW1
namespace Go.Mg
open Go Go.Proofs
def ea_law03_plain (a : (List (Arr 32 Int))) : List T := [(eS 32 (eA 1 (T.int .u8))) a]
def er_law03_plain (r : (List (Arr 32 Int))) : List RR × List T := ([.row 24 32 (List.map (eA 1 (T.int .u8)) r)], [])
noncomputable def sp_law03_plain (n : Nat) : Spec := specP [] false ea_law03_plain (fun a => f_law03_plain n a) (fun _ r => er_law03_plain r)
theorem ap_law03_plain (n : Nat) {ts : List T} {a0 : (List (Arr 32 Int))} {r : (List (Arr 32 Int))} (hle : leTs ts [(eS 32 (eA 1 (T.int .u8))) a0]) (h : f_law03_plain n a0 = some r) : (sp_law03_plain n).fn ts = some ([.row 24 32 (List.map (eA 1 (T.int .u8)) r)], []) :=
  specP_fn (a := a0) (InjA.one (inj_eS (inj_eA (inj_int _)))) hle h
noncomputable def E_law03_plain (n : Nat) : Env := { ty := tyT, glob := glob, fns := get [], ntmps := 18 }
theorem eok_law03_plain (n : Nat) : EnvOK Tryd.prog (E_law03_plain n) := ⟨tys_ok tys_chk, prog_mixed, fns_nil⟩
def K_law03_plain (n : Nat) (pl0 : (List (Arr 32 Int))) (r : (List (Arr 32 Int))) : St → Prop := Done (E_law03_plain n) Tryd.f35.results.toList [] (ea_law03_plain pl0) (er_law03_plain r).1 (er_law03_plain r).2
set_option maxRecDepth 100000 in
set_option maxHeartbeats 4000000 in
theorem ok_law03_plain (n : Nat) : SpecOK Tryd.prog glob 35 (sp_law03_plain n) := by
  refine specP_ok (fn := Tryd.f35) (eok_law03_plain n) (by kernel_rfl) rfl (by decide +kernel) (by kernel_rfl) (fun _ => by show 1 ≤ 18; omega) (fun h => Bool.noConfusion h) ?_
  rintro pl0 r h C hL hC
  have hE := eok_law03_plain n
  replace hL : ∀ n g, (n, g) ∈ C.lent → n ∈ ([] : List Nat) := hL
  replace h : f_law03_plain n pl0 = some r := h
  show Ab _ _ _ _ _ (End (K_law03_plain n pl0 r))
  unfold f_law03_plain at h
  refine Ab.seq ?_
  refine Ab.regT hE hC hL [] { keep := [0], ren := [] } ⟨[(0, (.t ((eS 32 (eA 1 (T.int .u8))) pl0)))], []⟩ [] (by kernel_rfl) trivial ?_
  refine Nxt_norm ?_
  refine Ab.seq ?_
  refine Ab.regT hE hC hL [] { keep := [0, 3], ren := [] } ⟨[(0, (.t ((eS 32 (eA 1 (T.int .u8))) pl0))), (3, (.t .nils))], []⟩ [] (by kernel_rfl) trivial ?_
  refine Nxt_norm ?_
  refine Ab.seq ?_
  refine Ab.seq ?_
  refine Ab.regT hE hC hL [[], [.n (pl0.length : Int)]] { keep := [3, 6, 7, 8], ren := [] } ⟨[(3, (.t .nils)), (6, (.t ((eS 32 (eA 1 (T.int .u8))) pl0))), (7, (.t (.int .i64 (pl0.length : Int)))), (8, (.t (.int .i64 (0:Int))))], []⟩ [((List.length (List.map (eA 1 (T.int .u8)) pl0) : Nat) : Int) = (pl0.length : Int)] (by kernel_rfl) ⟨(len_of rfl), trivial⟩ ?_
  refine Nxt_norm ?_
  obtain ⟨x0, hx0, h⟩ := bind_some h
  refine Ab.loopX0 (fun ((a0, a1) : ((List (Arr 32 Int)) × Int)) => (⟨[(3, (.own 49000)), (6, (.t ((eS 32 (eA 1 (T.int .u8))) pl0))), (7, (.t (.int .i64 (pl0.length : Int)))), (8, (.t (.int .i64 a1)))], [(49000, (.row false 24 32 (List.map (eA 1 (T.int .u8)) a0)))]⟩ : St)) (fun (a2 : (List (Arr 32 Int))) => (⟨[(3, (.own 49000))], [(49000, (.row false 24 32 (List.map (eA 1 (T.int .u8)) a2)))]⟩ : St)) { fs := [⟨(.t 3), [], .own 48000 24 32⟩], keep := [3, 6, 7, 8], ren := [(48000, 49000)] } (([] : List (Arr 32 Int)), (0:Int)) hC hL hx0 (by kernel_rfl) ?_ ?_
  · rintro ⟨a0, a1⟩ o0 h
    replace h : f_law03_plain_b0 n pl0 a0 a1 = some o0 := h
    unfold f_law03_plain_b0 at h
    refine Ab.seq ?_
    refine Ab.regT hE hC hL [] { keep := [3, 6, 7, 8, 9], ren := [(49000, 49000)] } ⟨[(3, (.own 49000)), (6, (.t ((eS 32 (eA 1 (T.int .u8))) pl0))), (7, (.t (.int .i64 (pl0.length : Int)))), (8, (.t (.int .i64 a1))), (9, (.t (.bool (decide (a1 < (pl0.length : Int))))))], [(49000, (.row false 24 32 (List.map (eA 1 (T.int .u8)) a0)))]⟩ [] (by kernel_rfl) trivial ?_
    refine Nxt_norm ?_
    refine Ab.seq ?_
    refine Ab.cond (b := (decide (a1 < (pl0.length : Int)))) (by kernel_rfl) (fun hb0 => ?_) (fun hb0 => ?_)
    · replace h := cond_t hb0 h
      refine Ab.skip ?_
      refine Nxt_norm ?_
      refine Ab.seq ?_
      refine Ab.block ?_
      refine Ab.seq ?_
      obtain ⟨hq0, h⟩ := ask_dec h
      obtain ⟨v0, hv0, h⟩ := bind_some h
      refine Ab.regT hE hC hL [[.t ((eA 1 (T.int .u8)) v0)]] { keep := [3, 5, 6, 7, 8], ren := [(5, 5), (49000, 49000)] } ⟨[(3, (.own 49000)), (5, (.ref 5 [] (0))), (6, (.t ((eS 32 (eA 1 (T.int .u8))) pl0))), (7, (.t (.int .i64 (pl0.length : Int)))), (8, (.t (.int .i64 a1)))], [(5, (.var false 25 (.t ((eA 1 (T.int .u8)) v0)))), (49000, (.row false 24 32 (List.map (eA 1 (T.int .u8)) a0)))]⟩ [0 ≤ a1, (List.map (eA 1 (T.int .u8)) pl0)[a1.toNat]? = some ((eA 1 (T.int .u8)) v0)] (by kernel_rfl) ⟨hq0, (at_map hv0), trivial⟩ ?_
      refine Nxt_norm ?_
      obtain ⟨hq1, h⟩ := ask_dec h
      refine Ab.regT hE hC hL [[], [], [], [.l (List.map (eA 1 (T.int .u8)) (a0 ++ ([v0] : List (Arr 32 Int))))]] { keep := [3, 6, 7, 8], ren := [(15, 15)] } ⟨[(3, (.own 15)), (6, (.t ((eS 32 (eA 1 (T.int .u8))) pl0))), (7, (.t (.int .i64 (pl0.length : Int)))), (8, (.t (.int .i64 a1)))], [(15, (.row false 24 32 (List.map (eA 1 (T.int .u8)) (a0 ++ ([v0] : List (Arr 32 Int))))))]⟩ [(List.length (List.map (eA 1 (T.int .u8)) a0) + List.length (List.map (eA 1 (T.int .u8)) ([v0] : List (Arr 32 Int)))) * 32 ≤ maxBytes, List.length (List.map (eA 1 (T.int .u8)) a0) + List.length (List.map (eA 1 (T.int .u8)) ([v0] : List (Arr 32 Int))) ≤ maxBytes, (List.map (eA 1 (T.int .u8)) a0) ++ (List.map (eA 1 (T.int .u8)) ([v0] : List (Arr 32 Int))) = List.map (eA 1 (T.int .u8)) (a0 ++ ([v0] : List (Arr 32 Int)))] (by kernel_rfl) ⟨(app_b rfl rfl hq1), (app_c rfl rfl (by decide) hq1), (app_of rfl rfl), trivial⟩ ?_
      refine Blk_norm ?_
      refine Nxt_norm ?_
      refine Ab.regT hE hC hL [] { keep := [3, 6, 7, 8], ren := [(15, 15)] } ⟨[(3, (.own 15)), (6, (.t ((eS 32 (eA 1 (T.int .u8))) pl0))), (7, (.t (.int .i64 (pl0.length : Int)))), (8, (.t (.int .i64 (wi (a1 + (1:Int))))))], [(15, (.row false 24 32 (List.map (eA 1 (T.int .u8)) (a0 ++ ([v0] : List (Arr 32 Int))))))]⟩ [] (by kernel_rfl) trivial ?_
      exact LK_norm ((a0 ++ ([v0] : List (Arr 32 Int))), (wi (a1 + (1:Int)))) { fs := [], keep := [3, 6, 7, 8], ren := [(15, 49000)] } h (by kernel_rfl)
    · replace h := cond_f hb0 h
      refine Ab.exit ?_
      refine Nxt_exit ?_
      exact LK_exit a0 h (PX_mk { fs := [], keep := [3], ren := [(49000, 49000)] } (by kernel_rfl))
  · refine Nxt_norm ?_
    refine Ab.seq ?_
    refine Ab.regT hE hC hL [] { keep := [2], ren := [(49000, 49000)] } ⟨[(2, (.own 49000))], [(49000, (.row false 24 32 (List.map (eA 1 (T.int .u8)) x0)))]⟩ [] (by kernel_rfl) trivial ?_
    refine Nxt_norm ?_
    refine Ab.ret ?_
    obtain rfl := Option.some.inj h
    exact End_ret (doneO_ok (md := [true]) (by kernel_rfl))
def ea_merkle_Mix (a : (Arr 32 Int) × Int) : List T := [(eA 1 (T.int .u8)) a.1, (T.int .u64) a.2]
def er_merkle_Mix (r : (Arr 32 Int)) : List RR × List T := ([.tree ((eA 1 (T.int .u8)) r)], [])
noncomputable def sp_merkle_Mix (n : Nat) : Spec := specP [] true ea_merkle_Mix (fun a => f_merkle_Mix n a.1 a.2) (fun _ r => er_merkle_Mix r)
theorem ap_merkle_Mix (n : Nat) {ts : List T} {a0 : (Arr 32 Int)} {a1 : Int} {r : (Arr 32 Int)} (hle : leTs ts [(eA 1 (T.int .u8)) a0, (T.int .u64) a1]) (h : f_merkle_Mix n a0 a1 = some r) : (sp_merkle_Mix n).fn ts = some ([.tree ((eA 1 (T.int .u8)) r)], []) :=
  specP_fn (a := (a0, a1)) (InjA.cons (inj_eA (inj_int _)) (InjA.one (inj_int _))) hle h
noncomputable def E_merkle_Mix (n : Nat) : Env := { ty := tyT, glob := glob, fns := get [(16, sp_digest_Pair n), (48, sp_num_Put n)], ntmps := 13 }
theorem eok_merkle_Mix (n : Nat) : EnvOK Tryd.prog (E_merkle_Mix n) := ⟨tys_ok tys_chk, prog_mixed, (fns_cons (ok_digest_Pair n) (fns_cons (ok_num_Put n) fns_nil))⟩
def K_merkle_Mix (n : Nat) (pr0 : (Arr 32 Int)) (pn0 : Int) (r : (Arr 32 Int)) : St → Prop := Done (E_merkle_Mix n) Tryd.f39.results.toList [] (ea_merkle_Mix (pr0, pn0)) (er_merkle_Mix r).1 (er_merkle_Mix r).2
set_option maxRecDepth 100000 in
set_option maxHeartbeats 4000000 in
theorem ok_merkle_Mix (n : Nat) : SpecOK Tryd.prog glob 39 (sp_merkle_Mix n) := by
  refine specP_ok (fn := Tryd.f39) (eok_merkle_Mix n) (by kernel_rfl) rfl (by decide +kernel) (by kernel_rfl) (fun _ => by show 2 ≤ 13; omega) (fun _ _ r => ⟨(rrf_tree ((flat_eA (fun _ => rfl)) _) rrf_nil), flats_nil⟩) ?_
  rintro ⟨pr0, pn0⟩ r h C hL hC
  have hE := eok_merkle_Mix n
  replace hL : ∀ n g, (n, g) ∈ C.lent → n ∈ ([] : List Nat) := hL
  replace h : f_merkle_Mix n pr0 pn0 = some r := h
  show Ab _ _ _ _ _ (End (K_merkle_Mix n pr0 pn0 r))
  unfold f_merkle_Mix at h
  refine Ab.seq ?_
  refine Ab.regT hE hC hL [] { keep := [1, 2, 4], ren := [(2, 2), (4, 4)] } ⟨[(1, (.t (.int .u64 pn0))), (2, (.ref 2 [] (0))), (4, (.ref 4 [] (0)))], [(2, (.var false 25 (.t ((eA 1 (T.int .u8)) pr0)))), (4, (.var false 25 (.t ((eA 1 (T.int .u8)) (Arr.rep 32 (0:Int))))))]⟩ [] (by kernel_rfl) trivial ?_
  refine Nxt_norm ?_
  refine Ab.seq ?_
  refine Ab.regT hE hC hL [] { keep := [1, 2, 4, 5], ren := [(2, 2), (4, 4), (5, 5)] } ⟨[(1, (.t (.int .u64 pn0))), (2, (.ref 2 [] (0))), (4, (.ref 4 [] (0))), (5, (.ref 5 [] (0)))], [(2, (.var false 25 (.t ((eA 1 (T.int .u8)) pr0)))), (4, (.var false 25 (.t ((eA 1 (T.int .u8)) (Arr.rep 32 (0:Int)))))), (5, (.var false 25 (.t ((eA 1 (T.int .u8)) (Arr.rep 32 (0:Int))))))]⟩ [] (by kernel_rfl) trivial ?_
  refine Nxt_norm ?_
  refine Ab.seq ?_
  obtain ⟨r0, hr0, h⟩ := bind_some h
  refine Ab.regA hE hC hL [[], [], [.r [.row 5 1 (List.map (T.int .u8) r0)] []], [.n ((min r0.length 32 : Nat) : Int), .l (List.map (T.int .u8) (Arr.put (Arr.rep 32 (0:Int)) (over (Arr.rep 32 (0:Int)).l 0 32 r0)).l)]] { keep := [2, 4, 5], ren := [(2, 2), (4, 4), (5, 5)] } ⟨[(2, (.ref 2 [] (0))), (4, (.ref 4 [] (0))), (5, (.ref 5 [] (0)))], [(2, (.var false 25 (.t ((eA 1 (T.int .u8)) pr0)))), (4, (.var false 25 (.t ((eA 1 (T.int .u8)) (Arr.rep 32 (0:Int)))))), (5, (.var false 25 (.t ((eA 1 (T.int .u8)) (Arr.put (Arr.rep 32 (0:Int)) (over (Arr.rep 32 (0:Int)).l 0 32 r0))))))]⟩ [(sp_num_Put n).fn [(.int .u64 pn0), (.int .i64 (8:Int))] = some ([.row 5 1 (List.map (T.int .u8) r0)], []), 0 + 32 ≤ List.length (List.map (T.int .u8) ((Arr.rep 32 (0:Int)).l)), ((min (List.length (List.map (T.int .u8) r0)) 32 : Nat) : Int) = ((min r0.length 32 : Nat) : Int), List.take 0 (List.map (T.int .u8) ((Arr.rep 32 (0:Int)).l)) ++ (List.take 32 (List.map (T.int .u8) r0) ++ List.drop (0 + min (List.length (List.map (T.int .u8) r0)) 32) (List.map (T.int .u8) ((Arr.rep 32 (0:Int)).l))) = List.map (T.int .u8) (Arr.put (Arr.rep 32 (0:Int)) (over (Arr.rep 32 (0:Int)).l 0 32 r0)).l, 0 = 0 + 0 * 1] (by kernel_rfl) (by kernel_rfl) ⟨(ap_num_Put n (by exact ⟨leT.refl _, leT.refl _, trivial⟩) hr0), (by simp only [List.length_map, List.length_take, List.length_drop, List.length_set, List.length_append, Arr.h]; omega), (min_len rfl), (copy_arr (Arr.rep 32 (0:Int)) rfl (by omega)), (by omega), trivial⟩ ?_
  refine Nxt_norm ?_
  refine Ab.seq ?_
  obtain ⟨r1, hr1, h⟩ := bind_some h
  refine Ab.regT hE hC hL [[], [], [.r [.tree ((eA 1 (T.int .u8)) r1)] []]] { keep := [4], ren := [(4, 4)] } ⟨[(4, (.ref 4 [] (0)))], [(4, (.var false 25 (.t ((eA 1 (T.int .u8)) r1))))]⟩ [(sp_digest_Pair n).fn [((eA 1 (T.int .u8)) pr0), ((eA 1 (T.int .u8)) (Arr.put (Arr.rep 32 (0:Int)) (over (Arr.rep 32 (0:Int)).l 0 32 r0)))] = some ([.tree ((eA 1 (T.int .u8)) r1)], [])] (by kernel_rfl) ⟨(ap_digest_Pair n (by exact ⟨leT.refl _, leT.refl _, trivial⟩) hr1), trivial⟩ ?_
  refine Nxt_norm ?_
  refine Ab.ret ?_
  obtain rfl := Option.some.inj h
  exact End_ret (doneO_ok (md := [false]) (by kernel_rfl))
def ea_ref02_Mix (a : (Arr 32 Int) × Int) : List T := [(eA 1 (T.int .u8)) a.1, (T.int .u64) a.2]
def er_ref02_Mix (r : (Arr 32 Int)) : List RR × List T := ([.tree ((eA 1 (T.int .u8)) r)], [])
noncomputable def sp_ref02_Mix (n : Nat) : Spec := specP [] true ea_ref02_Mix (fun a => f_ref02_Mix n a.1 a.2) (fun _ r => er_ref02_Mix r)
theorem ap_ref02_Mix (n : Nat) {ts : List T} {a0 : (Arr 32 Int)} {a1 : Int} {r : (Arr 32 Int)} (hle : leTs ts [(eA 1 (T.int .u8)) a0, (T.int .u64) a1]) (h : f_ref02_Mix n a0 a1 = some r) : (sp_ref02_Mix n).fn ts = some ([.tree ((eA 1 (T.int .u8)) r)], []) :=
  specP_fn (a := (a0, a1)) (InjA.cons (inj_eA (inj_int _)) (InjA.one (inj_int _))) hle h
noncomputable def E_ref02_Mix (n : Nat) : Env := { ty := tyT, glob := glob, fns := get [(17, sp_ref02_Pair n), (49, sp_ref02_Word n)], ntmps := 9 }
theorem eok_ref02_Mix (n : Nat) : EnvOK Tryd.prog (E_ref02_Mix n) := ⟨tys_ok tys_chk, prog_mixed, (fns_cons (ok_ref02_Pair n) (fns_cons (ok_ref02_Word n) fns_nil))⟩
def K_ref02_Mix (n : Nat) (pr0 : (Arr 32 Int)) (pn0 : Int) (r : (Arr 32 Int)) : St → Prop := Done (E_ref02_Mix n) Tryd.f40.results.toList [] (ea_ref02_Mix (pr0, pn0)) (er_ref02_Mix r).1 (er_ref02_Mix r).2
set_option maxRecDepth 100000 in
set_option maxHeartbeats 4000000 in
theorem ok_ref02_Mix (n : Nat) : SpecOK Tryd.prog glob 40 (sp_ref02_Mix n) := by
  refine specP_ok (fn := Tryd.f40) (eok_ref02_Mix n) (by kernel_rfl) rfl (by decide +kernel) (by kernel_rfl) (fun _ => by show 2 ≤ 9; omega) (fun _ _ r => ⟨(rrf_tree ((flat_eA (fun _ => rfl)) _) rrf_nil), flats_nil⟩) ?_
  rintro ⟨pr0, pn0⟩ r h C hL hC
  have hE := eok_ref02_Mix n
  replace hL : ∀ n g, (n, g) ∈ C.lent → n ∈ ([] : List Nat) := hL
  replace h : f_ref02_Mix n pr0 pn0 = some r := h
  show Ab _ _ _ _ _ (End (K_ref02_Mix n pr0 pn0 r))
  unfold f_ref02_Mix at h
  refine Ab.seq ?_
  refine Ab.regT hE hC hL [] { keep := [1, 2, 4], ren := [(2, 2), (4, 4)] } ⟨[(1, (.t (.int .u64 pn0))), (2, (.ref 2 [] (0))), (4, (.ref 4 [] (0)))], [(2, (.var false 24 (.t ((eA 1 (T.int .u8)) pr0)))), (4, (.var false 24 (.t ((eA 1 (T.int .u8)) (Arr.rep 32 (0:Int))))))]⟩ [] (by kernel_rfl) trivial ?_
  refine Nxt_norm ?_
  refine Ab.seq ?_
  obtain ⟨r0, hr0, h⟩ := bind_some h
  obtain ⟨r1, hr1, h⟩ := bind_some h
  refine Ab.regA hE hC hL [[], [], [.r [.tree ((eA 1 (T.int .u8)) r0)] []], [.r [.tree ((eA 1 (T.int .u8)) r1)] []]] { keep := [4], ren := [(4, 4)] } ⟨[(4, (.ref 4 [] (0)))], [(4, (.var false 24 (.t ((eA 1 (T.int .u8)) r1))))]⟩ [(sp_ref02_Word n).fn [(.int .u64 pn0)] = some ([.tree ((eA 1 (T.int .u8)) r0)], []), (sp_ref02_Pair n).fn [((eA 1 (T.int .u8)) pr0), ((eA 1 (T.int .u8)) r0)] = some ([.tree ((eA 1 (T.int .u8)) r1)], [])] (by kernel_rfl) (by kernel_rfl) ⟨(ap_ref02_Word n (by exact ⟨leT.refl _, trivial⟩) hr0), (ap_ref02_Pair n (by exact ⟨leT.refl _, leT.refl _, trivial⟩) hr1), trivial⟩ ?_
  refine Nxt_norm ?_
  refine Ab.ret ?_
  obtain rfl := Option.some.inj h
  exact End_ret (doneO_ok (md := [false]) (by kernel_rfl))
def ea_law03_MerkleTrees (a : (List (Arr 32 Int)) × Int × Int) : List T := [(eS 32 (eA 1 (T.int .u8))) a.1, (T.int .i64) a.2.1, (T.int .u64) a.2.2]
def er_law03_MerkleTrees (r : Bool) : List RR × List T := ([.tree (T.bool r)], [])
noncomputable def sp_law03_MerkleTrees (n : Nat) : Spec := specP [] true ea_law03_MerkleTrees (fun a => f_law03_MerkleTrees n a.1 a.2.1 a.2.2) (fun _ r => er_law03_MerkleTrees r)
theorem ap_law03_MerkleTrees (n : Nat) {ts : List T} {a0 : (List (Arr 32 Int))} {a1 : Int} {a2 : Int} {r : Bool} (hle : leTs ts [(eS 32 (eA 1 (T.int .u8))) a0, (T.int .i64) a1, (T.int .u64) a2]) (h : f_law03_MerkleTrees n a0 a1 a2 = some r) : (sp_law03_MerkleTrees n).fn ts = some ([.tree (T.bool r)], []) :=
  specP_fn (a := (a0, a1, a2)) (InjA.cons (inj_eS (inj_eA (inj_int _))) (InjA.cons (inj_int _) (InjA.one (inj_int _)))) hle h
noncomputable def E_law03_MerkleTrees (n : Nat) : Env := { ty := tyT, glob := glob, fns := get [(28, sp_law03_Awake n), (29, sp_merkle_Tree n), (30, sp_law03_own n), (31, sp_merkle_Zero n), (34, sp_ref02_Tree n), (35, sp_law03_plain n), (36, sp_merkle_Depth n), (37, sp_ref02_Depth n), (38, sp_ref02_Zero n), (39, sp_merkle_Mix n), (40, sp_ref02_Mix n)], ntmps := 91 }
theorem eok_law03_MerkleTrees (n : Nat) : EnvOK Tryd.prog (E_law03_MerkleTrees n) := ⟨tys_ok tys_chk, prog_mixed, (fns_cons (ok_law03_Awake n) (fns_cons (ok_merkle_Tree n) (fns_cons (ok_law03_own n) (fns_cons (ok_merkle_Zero n) (fns_cons (ok_ref02_Tree n) (fns_cons (ok_law03_plain n) (fns_cons (ok_merkle_Depth n) (fns_cons (ok_ref02_Depth n) (fns_cons (ok_ref02_Zero n) (fns_cons (ok_merkle_Mix n) (fns_cons (ok_ref02_Mix n) fns_nil)))))))))))⟩
def K_law03_MerkleTrees (n : Nat) (pl0 : (List (Arr 32 Int))) (plimit0 : Int) (pn0 : Int) (r : Bool) : St → Prop := Done (E_law03_MerkleTrees n) Tryd.f10.results.toList [] (ea_law03_MerkleTrees (pl0, plimit0, pn0)) (er_law03_MerkleTrees r).1 (er_law03_MerkleTrees r).2
set_option maxRecDepth 100000 in
set_option maxHeartbeats 4000000 in
theorem ok_law03_MerkleTrees (n : Nat) : SpecB Tryd.prog glob 10 (sp_law03_MerkleTrees n) := by
  refine specP_B (fn := Tryd.f10) (eok_law03_MerkleTrees n) (by kernel_rfl) rfl (by decide +kernel) (by kernel_rfl) (fun _ => by show 3 ≤ 91; omega)  ?_
  rintro ⟨pl0, plimit0, pn0⟩ r h C hL hC
  have hE := eok_law03_MerkleTrees n
  replace hL : ∀ n g, (n, g) ∈ C.lent → n ∈ ([] : List Nat) := hL
  replace h : f_law03_MerkleTrees n pl0 plimit0 pn0 = some r := h
  show Ab _ _ _ _ _ (End (K_law03_MerkleTrees n pl0 plimit0 pn0 r))
  unfold f_law03_MerkleTrees at h
  refine Ab.seq ?_
  refine Ab.regT hE hC hL [] { keep := [0, 1, 2], ren := [] } ⟨[(0, (.t ((eS 32 (eA 1 (T.int .u8))) pl0))), (1, (.t (.int .i64 plimit0))), (2, (.t (.int .u64 pn0)))], []⟩ [] (by kernel_rfl) trivial ?_
  refine Nxt_norm ?_
  refine Ab.seq ?_
  refine Ab.seq ?_
  obtain ⟨r0, hr0, h⟩ := bind_some h
  refine Ab.regT hE hC hL [[.r [.tree (.bool r0)] []]] { keep := [0, 1, 2, 15], ren := [] } ⟨[(0, (.t ((eS 32 (eA 1 (T.int .u8))) pl0))), (1, (.t (.int .i64 plimit0))), (2, (.t (.int .u64 pn0))), (15, (.t (.bool (!r0))))], []⟩ [(sp_law03_Awake n).fn [] = some ([.tree (.bool r0)], [])] (by kernel_rfl) ⟨(ap_law03_Awake n (by exact trivial) hr0), trivial⟩ ?_
  refine Nxt_norm ?_
  refine Ab.cond (b := (!r0)) (by kernel_rfl) (fun hb0 => ?_) (fun hb0 => ?_)
  · replace h := cond_t hb0 h
    refine Ab.seq ?_
    refine Ab.regT hE hC hL [] { keep := [6], ren := [] } ⟨[(6, (.t (.bool false)))], []⟩ [] (by kernel_rfl) trivial ?_
    refine Nxt_norm ?_
    refine Ab.ret ?_
    refine Nxt_ret ?_
    obtain rfl := Option.some.inj h
    exact End_ret (doneO_ok (md := [false]) (by kernel_rfl))
  · replace h := cond_f hb0 h
    refine Ab.skip ?_
    refine Nxt_norm ?_
    refine Ab.seq ?_
    refine Ab.seq ?_
    refine Ab.regT hE hC hL [[], [.n (pl0.length : Int)]] { keep := [0, 1, 2, 18], ren := [] } ⟨[(0, (.t ((eS 32 (eA 1 (T.int .u8))) pl0))), (1, (.t (.int .i64 plimit0))), (2, (.t (.int .u64 pn0))), (18, (.t (.bool (decide ((pl0.length : Int) > (70:Int))))))], []⟩ [((List.length (List.map (eA 1 (T.int .u8)) pl0) : Nat) : Int) = (pl0.length : Int)] (by kernel_rfl) ⟨(len_of rfl), trivial⟩ ?_
    refine Nxt_norm ?_
    refine Ab.cond (b := (decide ((pl0.length : Int) > (70:Int)))) (by kernel_rfl) (fun hb1 => ?_) (fun hb1 => ?_)
    · replace h := cond_t hb1 h
      refine Ab.seq ?_
      refine Ab.regT hE hC hL [] { keep := [6], ren := [] } ⟨[(6, (.t (.bool true)))], []⟩ [] (by kernel_rfl) trivial ?_
      refine Nxt_norm ?_
      refine Ab.ret ?_
      refine Nxt_ret ?_
      obtain rfl := Option.some.inj h
      exact End_ret (doneO_ok (md := [false]) (by kernel_rfl))
    · replace h := cond_f hb1 h
      refine Ab.skip ?_
      refine Nxt_norm ?_
      refine Ab.seq ?_
      obtain ⟨r1, hr1, h⟩ := bind_some h
      refine Ab.regT hE hC hL [[], [.r [.row 25 32 (List.map (eA 1 (T.int .u8)) r1)] []]] { keep := [0, 1, 2, 7], ren := [(20, 20)] } ⟨[(0, (.t ((eS 32 (eA 1 (T.int .u8))) pl0))), (1, (.t (.int .i64 plimit0))), (2, (.t (.int .u64 pn0))), (7, (.own 20))], [(20, (.row false 25 32 (List.map (eA 1 (T.int .u8)) r1)))]⟩ [(sp_law03_own n).fn [((eS 32 (eA 1 (T.int .u8))) pl0)] = some ([.row 25 32 (List.map (eA 1 (T.int .u8)) r1)], [])] (by kernel_rfl) ⟨(ap_law03_own n (by exact ⟨leT.refl _, trivial⟩) hr1), trivial⟩ ?_
      refine Nxt_norm ?_
      refine Ab.seq ?_
      obtain ⟨r2, hr2, h⟩ := bind_some h
      refine Ab.regT hE hC hL [[], [], [.r [.tree ((eA 1 (T.int .u8)) r2.1), .tree (.int .i64 r2.2)] []]] { keep := [0, 1, 2, 7, 8, 9], ren := [(8, 8), (20, 20)] } ⟨[(0, (.t ((eS 32 (eA 1 (T.int .u8))) pl0))), (1, (.t (.int .i64 plimit0))), (2, (.t (.int .u64 pn0))), (7, (.own 20)), (8, (.ref 8 [] (0))), (9, (.t (.int .i64 r2.2)))], [(8, (.var false 25 (.t ((eA 1 (T.int .u8)) r2.1)))), (20, (.row false 25 32 (List.map (eA 1 (T.int .u8)) r1)))]⟩ [(sp_merkle_Tree n).fn [(.slc 32 (List.map (eA 1 (T.int .u8)) r1)), (.int .i64 plimit0)] = some ([.tree ((eA 1 (T.int .u8)) r2.1), .tree (.int .i64 r2.2)], [])] (by kernel_rfl) ⟨(ap_merkle_Tree n (by exact ⟨leT.refl _, leT.refl _, trivial⟩) hr2), trivial⟩ ?_
      refine Nxt_norm ?_
      refine Ab.seq ?_
      obtain ⟨r3, hr3, h⟩ := bind_some h
      obtain ⟨r4, hr4, h⟩ := bind_some h
      refine Ab.regT hE hC hL [[], [.r [.row 24 32 (List.map (eA 1 (T.int .u8)) r3)] []], [], [.r [.tree ((eA 1 (T.int .u8)) r4.1), .tree (.bool r4.2)] []]] { keep := [0, 1, 2, 7, 8, 9, 10, 11], ren := [(8, 8), (10, 10), (20, 20)] } ⟨[(0, (.t ((eS 32 (eA 1 (T.int .u8))) pl0))), (1, (.t (.int .i64 plimit0))), (2, (.t (.int .u64 pn0))), (7, (.own 20)), (8, (.ref 8 [] (0))), (9, (.t (.int .i64 r2.2))), (10, (.ref 10 [] (0))), (11, (.t (.bool r4.2)))], [(8, (.var false 25 (.t ((eA 1 (T.int .u8)) r2.1)))), (10, (.var false 24 (.t ((eA 1 (T.int .u8)) r4.1)))), (20, (.row false 25 32 (List.map (eA 1 (T.int .u8)) r1)))]⟩ [(sp_law03_plain n).fn [((eS 32 (eA 1 (T.int .u8))) pl0)] = some ([.row 24 32 (List.map (eA 1 (T.int .u8)) r3)], []), (sp_ref02_Tree n).fn [(.slc 32 (List.map (eA 1 (T.int .u8)) r3)), (.int .i64 plimit0)] = some ([.tree ((eA 1 (T.int .u8)) r4.1), .tree (.bool r4.2)], [])] (by kernel_rfl) ⟨(ap_law03_plain n (by exact ⟨leT.refl _, trivial⟩) hr3), (ap_ref02_Tree n (by exact ⟨leT.refl _, leT.refl _, trivial⟩) hr4), trivial⟩ ?_
      refine Nxt_norm ?_
      refine Ab.seq ?_
      refine Ab.seq ?_
      refine Ab.regT hE hC hL [[], [.n (pl0.length : Int)]] { keep := [0, 1, 2, 7, 8, 9, 10, 11, 35, 36], ren := [(8, 8), (10, 10), (20, 20)] } ⟨[(0, (.t ((eS 32 (eA 1 (T.int .u8))) pl0))), (1, (.t (.int .i64 plimit0))), (2, (.t (.int .u64 pn0))), (7, (.own 20)), (8, (.ref 8 [] (0))), (9, (.t (.int .i64 r2.2))), (10, (.ref 10 [] (0))), (11, (.t (.bool r4.2))), (35, (.t (.int .i64 (pl0.length : Int)))), (36, (.t (.int .i64 (0:Int))))], [(8, (.var false 25 (.t ((eA 1 (T.int .u8)) r2.1)))), (10, (.var false 24 (.t ((eA 1 (T.int .u8)) r4.1)))), (20, (.row false 25 32 (List.map (eA 1 (T.int .u8)) r1)))]⟩ [((List.length (List.map (eA 1 (T.int .u8)) pl0) : Nat) : Int) = (pl0.length : Int)] (by kernel_rfl) ⟨(len_of rfl), trivial⟩ ?_
      refine Nxt_norm ?_
      obtain ⟨x0, hx0, h⟩ := bind_some h
      refine Ab.loopR0 (fun (a0 : Int) => (⟨[(0, (.t ((eS 32 (eA 1 (T.int .u8))) pl0))), (1, (.t (.int .i64 plimit0))), (2, (.t (.int .u64 pn0))), (7, (.own 49000)), (8, (.ref 49001 [] (0))), (9, (.t (.int .i64 r2.2))), (10, (.ref 49002 [] (0))), (11, (.t (.bool r4.2))), (35, (.t (.int .i64 (pl0.length : Int)))), (36, (.t (.int .i64 a0)))], [(49000, (.row false 25 32 (List.map (eA 1 (T.int .u8)) r1))), (49001, (.var false 25 (.t ((eA 1 (T.int .u8)) r2.1)))), (49002, (.var false 24 (.t ((eA 1 (T.int .u8)) r4.1))))]⟩ : St)) (fun (_ : Unit) => (⟨[(1, (.t (.int .i64 plimit0))), (2, (.t (.int .u64 pn0))), (8, (.ref 49000 [] (0))), (9, (.t (.int .i64 r2.2))), (10, (.ref 49001 [] (0))), (11, (.t (.bool r4.2)))], [(49000, (.var false 25 (.t ((eA 1 (T.int .u8)) r2.1)))), (49001, (.var false 24 (.t ((eA 1 (T.int .u8)) r4.1))))]⟩ : St)) (fun r9 => K_law03_MerkleTrees n pl0 plimit0 pn0 r9) { fs := [], keep := [0, 1, 2, 7, 8, 9, 10, 11, 35, 36], ren := [(20, 49000), (8, 49001), (10, 49002)] } (0:Int) hC hL hx0 (by kernel_rfl) ?_ (fun r9 s9 e hs => ?_) (fun x1 e => ?_)
      · rintro a0 o0 h
        replace h : f_law03_MerkleTrees_b0 n pl0 r1 a0 = some o0 := h
        unfold f_law03_MerkleTrees_b0 at h
        refine Ab.seq ?_
        refine Ab.regT hE hC hL [] { keep := [0, 1, 2, 7, 8, 9, 10, 11, 35, 36, 37], ren := [(49000, 49000), (49001, 49001), (49002, 49002)] } ⟨[(0, (.t ((eS 32 (eA 1 (T.int .u8))) pl0))), (1, (.t (.int .i64 plimit0))), (2, (.t (.int .u64 pn0))), (7, (.own 49000)), (8, (.ref 49001 [] (0))), (9, (.t (.int .i64 r2.2))), (10, (.ref 49002 [] (0))), (11, (.t (.bool r4.2))), (35, (.t (.int .i64 (pl0.length : Int)))), (36, (.t (.int .i64 a0))), (37, (.t (.bool (decide (a0 < (pl0.length : Int))))))], [(49000, (.row false 25 32 (List.map (eA 1 (T.int .u8)) r1))), (49001, (.var false 25 (.t ((eA 1 (T.int .u8)) r2.1)))), (49002, (.var false 24 (.t ((eA 1 (T.int .u8)) r4.1))))]⟩ [] (by kernel_rfl) trivial ?_
        refine Nxt_norm ?_
        refine Ab.seq ?_
        refine Ab.cond (b := (decide (a0 < (pl0.length : Int)))) (by kernel_rfl) (fun hb2 => ?_) (fun hb2 => ?_)
        · replace h := cond_t hb2 h
          refine Ab.skip ?_
          refine Nxt_norm ?_
          refine Ab.seq ?_
          refine Ab.block ?_
          refine Ab.seq ?_
          refine Ab.regT hE hC hL [] { keep := [0, 1, 2, 7, 8, 9, 10, 11, 12, 35, 36], ren := [(49000, 49000), (49001, 49001), (49002, 49002)] } ⟨[(0, (.t ((eS 32 (eA 1 (T.int .u8))) pl0))), (1, (.t (.int .i64 plimit0))), (2, (.t (.int .u64 pn0))), (7, (.own 49000)), (8, (.ref 49001 [] (0))), (9, (.t (.int .i64 r2.2))), (10, (.ref 49002 [] (0))), (11, (.t (.bool r4.2))), (12, (.t (.int .i64 a0))), (35, (.t (.int .i64 (pl0.length : Int)))), (36, (.t (.int .i64 a0)))], [(49000, (.row false 25 32 (List.map (eA 1 (T.int .u8)) r1))), (49001, (.var false 25 (.t ((eA 1 (T.int .u8)) r2.1)))), (49002, (.var false 24 (.t ((eA 1 (T.int .u8)) r4.1))))]⟩ [] (by kernel_rfl) trivial ?_
          refine Nxt_norm ?_
          refine Ab.seq ?_
          obtain ⟨hq0, h⟩ := ask_dec h
          obtain ⟨hq1, h⟩ := ask_dec h
          obtain ⟨v0, hv0, h⟩ := bind_some h
          obtain ⟨v1, hv1, h⟩ := bind_some h
          refine Ab.regA hE hC hL [[], [], [.c], [.t ((eA 1 (T.int .u8)) v0)], [], [], [.t ((eA 1 (T.int .u8)) v1)], [], [.b (!(decide (v0 = v1)))]] { keep := [0, 1, 2, 7, 8, 9, 10, 11, 35, 36, 47], ren := [(49000, 49000), (49001, 49001), (49002, 49002)] } ⟨[(0, (.t ((eS 32 (eA 1 (T.int .u8))) pl0))), (1, (.t (.int .i64 plimit0))), (2, (.t (.int .u64 pn0))), (7, (.own 49000)), (8, (.ref 49001 [] (0))), (9, (.t (.int .i64 r2.2))), (10, (.ref 49002 [] (0))), (11, (.t (.bool r4.2))), (35, (.t (.int .i64 (pl0.length : Int)))), (36, (.t (.int .i64 a0))), (47, (.t (.bool (!(decide (v0 = v1))))))], [(49000, (.row false 25 32 (List.map (eA 1 (T.int .u8)) r1))), (49001, (.var false 25 (.t ((eA 1 (T.int .u8)) r2.1)))), (49002, (.var false 24 (.t ((eA 1 (T.int .u8)) r4.1))))]⟩ [0 ≤ a0, a0.toNat < List.length (List.map (eA 1 (T.int .u8)) r1), a0.toNat * 32 + 0 = a0.toNat * 32, (List.map (eA 1 (T.int .u8)) r1)[a0.toNat]? = some ((eA 1 (T.int .u8)) v0), 0 ≤ a0, (List.map (eA 1 (T.int .u8)) pl0)[a0.toNat]? = some ((eA 1 (T.int .u8)) v1), binOp (E_law03_MerkleTrees n) .neq 25 (.t ((eA 1 (T.int .u8)) v0)) (.t ((eA 1 (T.int .u8)) v1)) = some (.bool (!(decide (v0 = v1))))] (by kernel_rfl) (by kernel_rfl) ⟨hq0, (by rw [List.length_map]; exact hq1), (by omega), (at_map hv0), hq0, (at_map hv1), (bneq_25 _ rfl _ _), trivial⟩ ?_
          refine Nxt_norm ?_
          refine Ab.cond (b := (!(decide (v0 = v1)))) (by kernel_rfl) (fun hb3 => ?_) (fun hb3 => ?_)
          · replace h := cond_t hb3 h
            refine Ab.seq ?_
            refine Ab.regT hE hC hL [] { keep := [6], ren := [] } ⟨[(6, (.t (.bool false)))], []⟩ [] (by kernel_rfl) trivial ?_
            refine Nxt_norm ?_
            refine Ab.ret ?_
            refine Blk_ret ?_
            refine Nxt_ret ?_
            exact LK_ret (.inl false) h (PR_ret (doneO_ok (md := [false]) (by kernel_rfl)))
          · replace h := cond_f hb3 h
            refine Ab.skip ?_
            refine Blk_norm ?_
            refine Nxt_norm ?_
            refine Ab.regT hE hC hL [] { keep := [0, 1, 2, 7, 8, 9, 10, 11, 35, 36], ren := [(49000, 49000), (49001, 49001), (49002, 49002)] } ⟨[(0, (.t ((eS 32 (eA 1 (T.int .u8))) pl0))), (1, (.t (.int .i64 plimit0))), (2, (.t (.int .u64 pn0))), (7, (.own 49000)), (8, (.ref 49001 [] (0))), (9, (.t (.int .i64 r2.2))), (10, (.ref 49002 [] (0))), (11, (.t (.bool r4.2))), (35, (.t (.int .i64 (pl0.length : Int)))), (36, (.t (.int .i64 (wi (a0 + (1:Int))))))], [(49000, (.row false 25 32 (List.map (eA 1 (T.int .u8)) r1))), (49001, (.var false 25 (.t ((eA 1 (T.int .u8)) r2.1)))), (49002, (.var false 24 (.t ((eA 1 (T.int .u8)) r4.1))))]⟩ [] (by kernel_rfl) trivial ?_
            exact LK_norm (wi (a0 + (1:Int))) { fs := [], keep := [0, 1, 2, 7, 8, 9, 10, 11, 35, 36], ren := [(49000, 49000), (49001, 49001), (49002, 49002)] } h (by kernel_rfl)
        · replace h := cond_f hb2 h
          refine Ab.exit ?_
          refine Nxt_exit ?_
          exact LK_exit (.inr ()) h (PR_mk { fs := [], keep := [1, 2, 8, 9, 10, 11], ren := [(49001, 49000), (49002, 49001)] } (by kernel_rfl))
      · subst e
        replace h := elim_l h
        refine Nxt_ret ?_
        obtain rfl := Option.some.inj h
        exact End_ret hs
      · subst e
        replace h := elim_r h
        refine Nxt_norm ?_
        refine Ab.seq ?_
        refine Ab.regT hE hC hL [] { keep := [1, 2, 8, 9, 10, 11, 13], ren := [(49000, 49000), (49001, 49001)] } ⟨[(1, (.t (.int .i64 plimit0))), (2, (.t (.int .u64 pn0))), (8, (.ref 49000 [] (0))), (9, (.t (.int .i64 r2.2))), (10, (.ref 49001 [] (0))), (11, (.t (.bool r4.2))), (13, (.t (.int .i64 (gmin (gmax plimit0 (-5:Int)) (40:Int)))))], [(49000, (.var false 25 (.t ((eA 1 (T.int .u8)) r2.1)))), (49001, (.var false 24 (.t ((eA 1 (T.int .u8)) r4.1))))]⟩ [] (by kernel_rfl) trivial ?_
        refine Nxt_norm ?_
        refine Ab.seq ?_
        rcases Bool.eq_false_or_eq_true (decide (r2.1 = r4.1)) with hb4 | hb4
        · replace h := cond_t hb4 h
          rcases Bool.eq_false_or_eq_true ((r2.2 == (0:Int)) == r4.2) with hb5 | hb5
          · replace h := cond_t hb5 h
            rcases Bool.eq_false_or_eq_true r4.2 with hb6 | hb6
            · replace h := cond_t hb6 h
              obtain ⟨r5, hr5, h⟩ := bind_some h
              obtain ⟨r6, hr6, h⟩ := bind_some h
              rcases Bool.eq_false_or_eq_true (r5 == r6) with hb7 | hb7
              · replace h := cond_t hb7 h
                obtain ⟨r7, hr7, h⟩ := bind_some h
                obtain ⟨r8, hr8, h⟩ := bind_some h
                rcases Bool.eq_false_or_eq_true (decide (r7 = r8)) with hb8 | hb8
                · replace h := cond_t hb8 h
                  obtain ⟨r9, hr9, h⟩ := bind_some h
                  obtain ⟨r10, hr10, h⟩ := bind_some h
                  refine Ab.regA hE hC hL [[], [], [.b (decide (r2.1 = r4.1))], [.b true], [], [], [], [], [], [.b true], [], [.b true], [], [], [], [], [], [], [.r [.tree (.int .i64 r5)] []], [], [.r [.tree (.int .i64 r6)] []], [], [], [.b true], [], [.r [.tree ((eA 1 (T.int .u8)) r7)] []], [], [.r [.tree ((eA 1 (T.int .u8)) r8)] []], [.b (decide (r7 = r8))], [], [.b true], [], [], [.r [.tree ((eA 1 (T.int .u8)) r9)] []], [], [], [.r [.tree ((eA 1 (T.int .u8)) r10)] []], [.b (decide (r9 = r10))]] { keep := [6], ren := [] } ⟨[(6, (.t (.bool (decide (r9 = r10)))))], []⟩ [binOp (E_law03_MerkleTrees n) .eql 24 (.t ((eA 1 (T.int .u8)) r2.1)) (.t ((eA 1 (T.int .u8)) r4.1)) = some (.bool (decide (r2.1 = r4.1))), (decide (r2.1 = r4.1)) = true, ((r2.2 == (0:Int)) == r4.2) = true, r4.2 = true, (sp_merkle_Depth n).fn [(.int .i64 plimit0)] = some ([.tree (.int .i64 r5)], []), (sp_ref02_Depth n).fn [(.int .i64 plimit0)] = some ([.tree (.int .i64 r6)], []), (r5 == r6) = true, (sp_merkle_Zero n).fn [(.int .i64 (gmin (gmax plimit0 (-5:Int)) (40:Int)))] = some ([.tree ((eA 1 (T.int .u8)) r7)], []), (sp_ref02_Zero n).fn [(.int .i64 (gmin (gmax plimit0 (-5:Int)) (40:Int)))] = some ([.tree ((eA 1 (T.int .u8)) r8)], []), binOp (E_law03_MerkleTrees n) .eql 24 (.t ((eA 1 (T.int .u8)) r7)) (.t ((eA 1 (T.int .u8)) r8)) = some (.bool (decide (r7 = r8))), (decide (r7 = r8)) = true, (sp_merkle_Mix n).fn [((eA 1 (T.int .u8)) r2.1), (.int .u64 pn0)] = some ([.tree ((eA 1 (T.int .u8)) r9)], []), (sp_ref02_Mix n).fn [((eA 1 (T.int .u8)) r4.1), (.int .u64 pn0)] = some ([.tree ((eA 1 (T.int .u8)) r10)], []), binOp (E_law03_MerkleTrees n) .eql 24 (.t ((eA 1 (T.int .u8)) r9)) (.t ((eA 1 (T.int .u8)) r10)) = some (.bool (decide (r9 = r10)))] (by kernel_rfl) (by kernel_rfl) ⟨(beql_24 _ rfl _ _), hb4, hb5, hb6, (ap_merkle_Depth n (by exact ⟨leT.refl _, trivial⟩) hr5), (ap_ref02_Depth n (by exact ⟨leT.refl _, trivial⟩) hr6), hb7, (ap_merkle_Zero n (by exact ⟨leT.refl _, trivial⟩) hr7), (ap_ref02_Zero n (by exact ⟨leT.refl _, trivial⟩) hr8), (beql_24 _ rfl _ _), hb8, (ap_merkle_Mix n (by exact ⟨leT.refl _, leT.refl _, trivial⟩) hr9), (ap_ref02_Mix n (by exact ⟨leT.refl _, leT.refl _, trivial⟩) hr10), (beql_24 _ rfl _ _), trivial⟩ ?_
                  refine Nxt_norm ?_
                  refine Ab.ret ?_
                  obtain rfl := Option.some.inj h
                  exact End_ret (doneO_ok (md := [false]) (by kernel_rfl))
                · replace h := cond_f hb8 h
                  refine Ab.regA hE hC hL [[], [], [.b (decide (r2.1 = r4.1))], [.b true], [], [], [], [], [], [.b true], [], [.b true], [], [], [], [], [], [], [.r [.tree (.int .i64 r5)] []], [], [.r [.tree (.int .i64 r6)] []], [], [], [.b true], [], [.r [.tree ((eA 1 (T.int .u8)) r7)] []], [], [.r [.tree ((eA 1 (T.int .u8)) r8)] []], [.b (decide (r7 = r8))], [], [.b false]] { keep := [6], ren := [] } ⟨[(6, (.t (.bool false)))], []⟩ [binOp (E_law03_MerkleTrees n) .eql 24 (.t ((eA 1 (T.int .u8)) r2.1)) (.t ((eA 1 (T.int .u8)) r4.1)) = some (.bool (decide (r2.1 = r4.1))), (decide (r2.1 = r4.1)) = true, ((r2.2 == (0:Int)) == r4.2) = true, r4.2 = true, (sp_merkle_Depth n).fn [(.int .i64 plimit0)] = some ([.tree (.int .i64 r5)], []), (sp_ref02_Depth n).fn [(.int .i64 plimit0)] = some ([.tree (.int .i64 r6)], []), (r5 == r6) = true, (sp_merkle_Zero n).fn [(.int .i64 (gmin (gmax plimit0 (-5:Int)) (40:Int)))] = some ([.tree ((eA 1 (T.int .u8)) r7)], []), (sp_ref02_Zero n).fn [(.int .i64 (gmin (gmax plimit0 (-5:Int)) (40:Int)))] = some ([.tree ((eA 1 (T.int .u8)) r8)], []), binOp (E_law03_MerkleTrees n) .eql 24 (.t ((eA 1 (T.int .u8)) r7)) (.t ((eA 1 (T.int .u8)) r8)) = some (.bool (decide (r7 = r8))), (decide (r7 = r8)) = false] (by kernel_rfl) (by kernel_rfl) ⟨(beql_24 _ rfl _ _), hb4, hb5, hb6, (ap_merkle_Depth n (by exact ⟨leT.refl _, trivial⟩) hr5), (ap_ref02_Depth n (by exact ⟨leT.refl _, trivial⟩) hr6), hb7, (ap_merkle_Zero n (by exact ⟨leT.refl _, trivial⟩) hr7), (ap_ref02_Zero n (by exact ⟨leT.refl _, trivial⟩) hr8), (beql_24 _ rfl _ _), hb8, trivial⟩ ?_
                  refine Nxt_norm ?_
                  refine Ab.ret ?_
                  obtain rfl := Option.some.inj h
                  exact End_ret (doneO_ok (md := [false]) (by kernel_rfl))
              · replace h := cond_f hb7 h
                refine Ab.regA hE hC hL [[], [], [.b (decide (r2.1 = r4.1))], [.b true], [], [], [], [], [], [.b true], [], [.b true], [], [], [], [], [], [], [.r [.tree (.int .i64 r5)] []], [], [.r [.tree (.int .i64 r6)] []], [], [], [.b false]] { keep := [6], ren := [] } ⟨[(6, (.t (.bool false)))], []⟩ [binOp (E_law03_MerkleTrees n) .eql 24 (.t ((eA 1 (T.int .u8)) r2.1)) (.t ((eA 1 (T.int .u8)) r4.1)) = some (.bool (decide (r2.1 = r4.1))), (decide (r2.1 = r4.1)) = true, ((r2.2 == (0:Int)) == r4.2) = true, r4.2 = true, (sp_merkle_Depth n).fn [(.int .i64 plimit0)] = some ([.tree (.int .i64 r5)], []), (sp_ref02_Depth n).fn [(.int .i64 plimit0)] = some ([.tree (.int .i64 r6)], []), (r5 == r6) = false] (by kernel_rfl) (by kernel_rfl) ⟨(beql_24 _ rfl _ _), hb4, hb5, hb6, (ap_merkle_Depth n (by exact ⟨leT.refl _, trivial⟩) hr5), (ap_ref02_Depth n (by exact ⟨leT.refl _, trivial⟩) hr6), hb7, trivial⟩ ?_
                refine Nxt_norm ?_
                refine Ab.ret ?_
                obtain rfl := Option.some.inj h
                exact End_ret (doneO_ok (md := [false]) (by kernel_rfl))
            · replace h := cond_f hb6 h
              rcases Bool.eq_false_or_eq_true (r2.2 == (4:Int)) with hb9 | hb9
              · replace h := cond_t hb9 h
                obtain ⟨r11, hr11, h⟩ := bind_some h
                obtain ⟨r12, hr12, h⟩ := bind_some h
                rcases Bool.eq_false_or_eq_true (r11 == r12) with hb10 | hb10
                · replace h := cond_t hb10 h
                  obtain ⟨r13, hr13, h⟩ := bind_some h
                  obtain ⟨r14, hr14, h⟩ := bind_some h
                  rcases Bool.eq_false_or_eq_true (decide (r13 = r14)) with hb11 | hb11
                  · replace h := cond_t hb11 h
                    obtain ⟨r15, hr15, h⟩ := bind_some h
                    obtain ⟨r16, hr16, h⟩ := bind_some h
                    refine Ab.regA hE hC hL [[], [], [.b (decide (r2.1 = r4.1))], [.b true], [], [], [], [], [], [.b true], [], [.b false], [], [], [], [], [.b true], [], [.r [.tree (.int .i64 r11)] []], [], [.r [.tree (.int .i64 r12)] []], [], [], [.b true], [], [.r [.tree ((eA 1 (T.int .u8)) r13)] []], [], [.r [.tree ((eA 1 (T.int .u8)) r14)] []], [.b (decide (r13 = r14))], [], [.b true], [], [], [.r [.tree ((eA 1 (T.int .u8)) r15)] []], [], [], [.r [.tree ((eA 1 (T.int .u8)) r16)] []], [.b (decide (r15 = r16))]] { keep := [6], ren := [] } ⟨[(6, (.t (.bool (decide (r15 = r16)))))], []⟩ [binOp (E_law03_MerkleTrees n) .eql 24 (.t ((eA 1 (T.int .u8)) r2.1)) (.t ((eA 1 (T.int .u8)) r4.1)) = some (.bool (decide (r2.1 = r4.1))), (decide (r2.1 = r4.1)) = true, ((r2.2 == (0:Int)) == r4.2) = true, r4.2 = false, (r2.2 == (4:Int)) = true, (sp_merkle_Depth n).fn [(.int .i64 plimit0)] = some ([.tree (.int .i64 r11)], []), (sp_ref02_Depth n).fn [(.int .i64 plimit0)] = some ([.tree (.int .i64 r12)], []), (r11 == r12) = true, (sp_merkle_Zero n).fn [(.int .i64 (gmin (gmax plimit0 (-5:Int)) (40:Int)))] = some ([.tree ((eA 1 (T.int .u8)) r13)], []), (sp_ref02_Zero n).fn [(.int .i64 (gmin (gmax plimit0 (-5:Int)) (40:Int)))] = some ([.tree ((eA 1 (T.int .u8)) r14)], []), binOp (E_law03_MerkleTrees n) .eql 24 (.t ((eA 1 (T.int .u8)) r13)) (.t ((eA 1 (T.int .u8)) r14)) = some (.bool (decide (r13 = r14))), (decide (r13 = r14)) = true, (sp_merkle_Mix n).fn [((eA 1 (T.int .u8)) r2.1), (.int .u64 pn0)] = some ([.tree ((eA 1 (T.int .u8)) r15)], []), (sp_ref02_Mix n).fn [((eA 1 (T.int .u8)) r4.1), (.int .u64 pn0)] = some ([.tree ((eA 1 (T.int .u8)) r16)], []), binOp (E_law03_MerkleTrees n) .eql 24 (.t ((eA 1 (T.int .u8)) r15)) (.t ((eA 1 (T.int .u8)) r16)) = some (.bool (decide (r15 = r16)))] (by kernel_rfl) (by kernel_rfl) ⟨(beql_24 _ rfl _ _), hb4, hb5, hb6, hb9, (ap_merkle_Depth n (by exact ⟨leT.refl _, trivial⟩) hr11), (ap_ref02_Depth n (by exact ⟨leT.refl _, trivial⟩) hr12), hb10, (ap_merkle_Zero n (by exact ⟨leT.refl _, trivial⟩) hr13), (ap_ref02_Zero n (by exact ⟨leT.refl _, trivial⟩) hr14), (beql_24 _ rfl _ _), hb11, (ap_merkle_Mix n (by exact ⟨leT.refl _, leT.refl _, trivial⟩) hr15), (ap_ref02_Mix n (by exact ⟨leT.refl _, leT.refl _, trivial⟩) hr16), (beql_24 _ rfl _ _), trivial⟩ ?_
                    refine Nxt_norm ?_
                    refine Ab.ret ?_
                    obtain rfl := Option.some.inj h
                    exact End_ret (doneO_ok (md := [false]) (by kernel_rfl))
                  · replace h := cond_f hb11 h
                    refine Ab.regA hE hC hL [[], [], [.b (decide (r2.1 = r4.1))], [.b true], [], [], [], [], [], [.b true], [], [.b false], [], [], [], [], [.b true], [], [.r [.tree (.int .i64 r11)] []], [], [.r [.tree (.int .i64 r12)] []], [], [], [.b true], [], [.r [.tree ((eA 1 (T.int .u8)) r13)] []], [], [.r [.tree ((eA 1 (T.int .u8)) r14)] []], [.b (decide (r13 = r14))], [], [.b false]] { keep := [6], ren := [] } ⟨[(6, (.t (.bool false)))], []⟩ [binOp (E_law03_MerkleTrees n) .eql 24 (.t ((eA 1 (T.int .u8)) r2.1)) (.t ((eA 1 (T.int .u8)) r4.1)) = some (.bool (decide (r2.1 = r4.1))), (decide (r2.1 = r4.1)) = true, ((r2.2 == (0:Int)) == r4.2) = true, r4.2 = false, (r2.2 == (4:Int)) = true, (sp_merkle_Depth n).fn [(.int .i64 plimit0)] = some ([.tree (.int .i64 r11)], []), (sp_ref02_Depth n).fn [(.int .i64 plimit0)] = some ([.tree (.int .i64 r12)], []), (r11 == r12) = true, (sp_merkle_Zero n).fn [(.int .i64 (gmin (gmax plimit0 (-5:Int)) (40:Int)))] = some ([.tree ((eA 1 (T.int .u8)) r13)], []), (sp_ref02_Zero n).fn [(.int .i64 (gmin (gmax plimit0 (-5:Int)) (40:Int)))] = some ([.tree ((eA 1 (T.int .u8)) r14)], []), binOp (E_law03_MerkleTrees n) .eql 24 (.t ((eA 1 (T.int .u8)) r13)) (.t ((eA 1 (T.int .u8)) r14)) = some (.bool (decide (r13 = r14))), (decide (r13 = r14)) = false] (by kernel_rfl) (by kernel_rfl) ⟨(beql_24 _ rfl _ _), hb4, hb5, hb6, hb9, (ap_merkle_Depth n (by exact ⟨leT.refl _, trivial⟩) hr11), (ap_ref02_Depth n (by exact ⟨leT.refl _, trivial⟩) hr12), hb10, (ap_merkle_Zero n (by exact ⟨leT.refl _, trivial⟩) hr13), (ap_ref02_Zero n (by exact ⟨leT.refl _, trivial⟩) hr14), (beql_24 _ rfl _ _), hb11, trivial⟩ ?_
                    refine Nxt_norm ?_
                    refine Ab.ret ?_
                    obtain rfl := Option.some.inj h
                    exact End_ret (doneO_ok (md := [false]) (by kernel_rfl))
                · replace h := cond_f hb10 h
                  refine Ab.regA hE hC hL [[], [], [.b (decide (r2.1 = r4.1))], [.b true], [], [], [], [], [], [.b true], [], [.b false], [], [], [], [], [.b true], [], [.r [.tree (.int .i64 r11)] []], [], [.r [.tree (.int .i64 r12)] []], [], [], [.b false]] { keep := [6], ren := [] } ⟨[(6, (.t (.bool false)))], []⟩ [binOp (E_law03_MerkleTrees n) .eql 24 (.t ((eA 1 (T.int .u8)) r2.1)) (.t ((eA 1 (T.int .u8)) r4.1)) = some (.bool (decide (r2.1 = r4.1))), (decide (r2.1 = r4.1)) = true, ((r2.2 == (0:Int)) == r4.2) = true, r4.2 = false, (r2.2 == (4:Int)) = true, (sp_merkle_Depth n).fn [(.int .i64 plimit0)] = some ([.tree (.int .i64 r11)], []), (sp_ref02_Depth n).fn [(.int .i64 plimit0)] = some ([.tree (.int .i64 r12)], []), (r11 == r12) = false] (by kernel_rfl) (by kernel_rfl) ⟨(beql_24 _ rfl _ _), hb4, hb5, hb6, hb9, (ap_merkle_Depth n (by exact ⟨leT.refl _, trivial⟩) hr11), (ap_ref02_Depth n (by exact ⟨leT.refl _, trivial⟩) hr12), hb10, trivial⟩ ?_
                  refine Nxt_norm ?_
                  refine Ab.ret ?_
                  obtain rfl := Option.some.inj h
                  exact End_ret (doneO_ok (md := [false]) (by kernel_rfl))
              · replace h := cond_f hb9 h
                refine Ab.regA hE hC hL [[], [], [.b (decide (r2.1 = r4.1))], [.b true], [], [], [], [], [], [.b true], [], [.b false], [], [], [], [], [.b false]] { keep := [6], ren := [] } ⟨[(6, (.t (.bool false)))], []⟩ [binOp (E_law03_MerkleTrees n) .eql 24 (.t ((eA 1 (T.int .u8)) r2.1)) (.t ((eA 1 (T.int .u8)) r4.1)) = some (.bool (decide (r2.1 = r4.1))), (decide (r2.1 = r4.1)) = true, ((r2.2 == (0:Int)) == r4.2) = true, r4.2 = false, (r2.2 == (4:Int)) = false] (by kernel_rfl) (by kernel_rfl) ⟨(beql_24 _ rfl _ _), hb4, hb5, hb6, hb9, trivial⟩ ?_
                refine Nxt_norm ?_
                refine Ab.ret ?_
                obtain rfl := Option.some.inj h
                exact End_ret (doneO_ok (md := [false]) (by kernel_rfl))
          · replace h := cond_f hb5 h
            refine Ab.regA hE hC hL [[], [], [.b (decide (r2.1 = r4.1))], [.b true], [], [], [], [], [], [.b false]] { keep := [6], ren := [] } ⟨[(6, (.t (.bool false)))], []⟩ [binOp (E_law03_MerkleTrees n) .eql 24 (.t ((eA 1 (T.int .u8)) r2.1)) (.t ((eA 1 (T.int .u8)) r4.1)) = some (.bool (decide (r2.1 = r4.1))), (decide (r2.1 = r4.1)) = true, ((r2.2 == (0:Int)) == r4.2) = false] (by kernel_rfl) (by kernel_rfl) ⟨(beql_24 _ rfl _ _), hb4, hb5, trivial⟩ ?_
            refine Nxt_norm ?_
            refine Ab.ret ?_
            obtain rfl := Option.some.inj h
            exact End_ret (doneO_ok (md := [false]) (by kernel_rfl))
        · replace h := cond_f hb4 h
          refine Ab.regA hE hC hL [[], [], [.b (decide (r2.1 = r4.1))], [.b false]] { keep := [6], ren := [] } ⟨[(6, (.t (.bool false)))], []⟩ [binOp (E_law03_MerkleTrees n) .eql 24 (.t ((eA 1 (T.int .u8)) r2.1)) (.t ((eA 1 (T.int .u8)) r4.1)) = some (.bool (decide (r2.1 = r4.1))), (decide (r2.1 = r4.1)) = false] (by kernel_rfl) (by kernel_rfl) ⟨(beql_24 _ rfl _ _), hb4, trivial⟩ ?_
          refine Nxt_norm ?_
          refine Ab.ret ?_
          obtain rfl := Option.some.inj h
          exact End_ret (doneO_ok (md := [false]) (by kernel_rfl))
def ea_merkle_Branch (a : (List (Arr 32 Int)) × Int × Int) : List T := [(eS 32 (eA 1 (T.int .u8))) a.1, (T.int .i64) a.2.1, (T.int .i64) a.2.2]
def er_merkle_Branch (r : ((List (Arr 32 Int)) × Int)) : List RR × List T := ([.row 25 32 (List.map (eA 1 (T.int .u8)) r.1), .tree ((T.int .i64) r.2)], [])
noncomputable def sp_merkle_Branch (n : Nat) : Spec := specP [] false ea_merkle_Branch (fun a => f_merkle_Branch n a.1 a.2.1 a.2.2) (fun _ r => er_merkle_Branch r)
theorem ap_merkle_Branch (n : Nat) {ts : List T} {a0 : (List (Arr 32 Int))} {a1 : Int} {a2 : Int} {r : ((List (Arr 32 Int)) × Int)} (hle : leTs ts [(eS 32 (eA 1 (T.int .u8))) a0, (T.int .i64) a1, (T.int .i64) a2]) (h : f_merkle_Branch n a0 a1 a2 = some r) : (sp_merkle_Branch n).fn ts = some ([.row 25 32 (List.map (eA 1 (T.int .u8)) r.1), .tree ((T.int .i64) r.2)], []) :=
  specP_fn (a := (a0, a1, a2)) (InjA.cons (inj_eS (inj_eA (inj_int _))) (InjA.cons (inj_int _) (InjA.one (inj_int _)))) hle h
noncomputable def E_merkle_Branch (n : Nat) : Env := { ty := tyT, glob := glob, fns := get [(16, sp_digest_Pair n)], ntmps := 94 }
theorem eok_merkle_Branch (n : Nat) : EnvOK Tryd.prog (E_merkle_Branch n) := ⟨tys_ok tys_chk, prog_mixed, (fns_cons (ok_digest_Pair n) fns_nil)⟩
def K_merkle_Branch (n : Nat) (pleaves0 : (List (Arr 32 Int))) (pdepth0 : Int) (pindex0 : Int) (r : ((List (Arr 32 Int)) × Int)) : St → Prop := Done (E_merkle_Branch n) Tryd.f41.results.toList [] (ea_merkle_Branch (pleaves0, pdepth0, pindex0)) (er_merkle_Branch r).1 (er_merkle_Branch r).2
set_option maxRecDepth 100000 in
set_option maxHeartbeats 4000000 in
theorem ok_merkle_Branch (n : Nat) : SpecOK Tryd.prog glob 41 (sp_merkle_Branch n) := by
  refine specP_ok (fn := Tryd.f41) (eok_merkle_Branch n) (by kernel_rfl) rfl (by decide +kernel) (by kernel_rfl) (fun _ => by show 3 ≤ 94; omega) (fun h => Bool.noConfusion h) ?_
  rintro ⟨pleaves0, pdepth0, pindex0⟩ r h C hL hC
  have hE := eok_merkle_Branch n
  replace hL : ∀ n g, (n, g) ∈ C.lent → n ∈ ([] : List Nat) := hL
  replace h : f_merkle_Branch n pleaves0 pdepth0 pindex0 = some r := h
  show Ab _ _ _ _ _ (End (K_merkle_Branch n pleaves0 pdepth0 pindex0 r))
  unfold f_merkle_Branch at h
  refine Ab.seq ?_
  refine Ab.regT hE hC hL [] { keep := [0, 1, 2], ren := [] } ⟨[(0, (.t ((eS 32 (eA 1 (T.int .u8))) pleaves0))), (1, (.t (.int .i64 pdepth0))), (2, (.t (.int .i64 pindex0)))], []⟩ [] (by kernel_rfl) trivial ?_
  refine Nxt_norm ?_
  refine Ab.seq ?_
  refine Ab.seq ?_
  rcases Bool.eq_false_or_eq_true (decide (pdepth0 < (0:Int))) with hb0 | hb0
  · replace h := cond_t hb0 h
    refine Ab.regT hE hC hL [[], [], [.b true]] { keep := [0, 1, 2, 38], ren := [] } ⟨[(0, (.t ((eS 32 (eA 1 (T.int .u8))) pleaves0))), (1, (.t (.int .i64 pdepth0))), (2, (.t (.int .i64 pindex0))), (38, (.t (.bool true)))], []⟩ [(decide (pdepth0 < (0:Int))) = true] (by kernel_rfl) ⟨hb0, trivial⟩ ?_
    refine Nxt_norm ?_
    refine Ab.cond (b := true) (by kernel_rfl) (fun _ => ?_) (fun hb => Bool.noConfusion hb)
    refine Ab.seq ?_
    refine Ab.regT hE hC hL [] { keep := [6, 7], ren := [] } ⟨[(6, (.t .nils)), (7, (.t (.int .i64 (2:Int))))], []⟩ [] (by kernel_rfl) trivial ?_
    refine Nxt_norm ?_
    refine Ab.tidyK (s' := ⟨[(6, (.own 48000)), (7, (.t (.int .i64 (2:Int))))], [(48000, (.row false 25 32 (List.map (eA 1 (T.int .u8)) ([] : List (Arr 32 Int)))))]⟩) (q := { fs := [⟨(.t 6), [], .own 48000 25 32⟩], keep := [6, 7], ren := [(48000, 48000)] }) hC hL (by kernel_rfl) ?_
    refine Ab.ret ?_
    refine Nxt_ret ?_
    obtain rfl := Option.some.inj h
    exact End_ret (doneO_ok (md := [true, false]) (by kernel_rfl))
  · replace h := cond_f hb0 h
    rcases Bool.eq_false_or_eq_true (decide (pdepth0 > (40:Int))) with hb1 | hb1
    · replace h := cond_t hb1 h
      refine Ab.regT hE hC hL [[], [], [.b false], [], [], [], [.b true]] { keep := [0, 1, 2, 38], ren := [] } ⟨[(0, (.t ((eS 32 (eA 1 (T.int .u8))) pleaves0))), (1, (.t (.int .i64 pdepth0))), (2, (.t (.int .i64 pindex0))), (38, (.t (.bool true)))], []⟩ [(decide (pdepth0 < (0:Int))) = false, (decide (pdepth0 > (40:Int))) = true] (by kernel_rfl) ⟨hb0, hb1, trivial⟩ ?_
      refine Nxt_norm ?_
      refine Ab.cond (b := true) (by kernel_rfl) (fun _ => ?_) (fun hb => Bool.noConfusion hb)
      refine Ab.seq ?_
      refine Ab.regT hE hC hL [] { keep := [6, 7], ren := [] } ⟨[(6, (.t .nils)), (7, (.t (.int .i64 (2:Int))))], []⟩ [] (by kernel_rfl) trivial ?_
      refine Nxt_norm ?_
      refine Ab.tidyK (s' := ⟨[(6, (.own 48000)), (7, (.t (.int .i64 (2:Int))))], [(48000, (.row false 25 32 (List.map (eA 1 (T.int .u8)) ([] : List (Arr 32 Int)))))]⟩) (q := { fs := [⟨(.t 6), [], .own 48000 25 32⟩], keep := [6, 7], ren := [(48000, 48000)] }) hC hL (by kernel_rfl) ?_
      refine Ab.ret ?_
      refine Nxt_ret ?_
      obtain rfl := Option.some.inj h
      exact End_ret (doneO_ok (md := [true, false]) (by kernel_rfl))
    · replace h := cond_f hb1 h
      rcases Bool.eq_false_or_eq_true (decide (pindex0 < (0:Int))) with hb2 | hb2
      · replace h := cond_t hb2 h
        refine Ab.regT hE hC hL [[], [], [.b false], [], [], [], [.b false], [], [], [], [.b true]] { keep := [0, 1, 2, 38], ren := [] } ⟨[(0, (.t ((eS 32 (eA 1 (T.int .u8))) pleaves0))), (1, (.t (.int .i64 pdepth0))), (2, (.t (.int .i64 pindex0))), (38, (.t (.bool true)))], []⟩ [(decide (pdepth0 < (0:Int))) = false, (decide (pdepth0 > (40:Int))) = false, (decide (pindex0 < (0:Int))) = true] (by kernel_rfl) ⟨hb0, hb1, hb2, trivial⟩ ?_
        refine Nxt_norm ?_
        refine Ab.cond (b := true) (by kernel_rfl) (fun _ => ?_) (fun hb => Bool.noConfusion hb)
        refine Ab.seq ?_
        refine Ab.regT hE hC hL [] { keep := [6, 7], ren := [] } ⟨[(6, (.t .nils)), (7, (.t (.int .i64 (2:Int))))], []⟩ [] (by kernel_rfl) trivial ?_
        refine Nxt_norm ?_
        refine Ab.tidyK (s' := ⟨[(6, (.own 48000)), (7, (.t (.int .i64 (2:Int))))], [(48000, (.row false 25 32 (List.map (eA 1 (T.int .u8)) ([] : List (Arr 32 Int)))))]⟩) (q := { fs := [⟨(.t 6), [], .own 48000 25 32⟩], keep := [6, 7], ren := [(48000, 48000)] }) hC hL (by kernel_rfl) ?_
        refine Ab.ret ?_
        refine Nxt_ret ?_
        obtain rfl := Option.some.inj h
        exact End_ret (doneO_ok (md := [true, false]) (by kernel_rfl))
      · replace h := cond_f hb2 h
        obtain ⟨hq0, h⟩ := ask_dec h
        rcases Bool.eq_false_or_eq_true ((shr .i64 pindex0 pdepth0) != (0:Int)) with hb3 | hb3
        · replace h := cond_t hb3 h
          refine Ab.regT hE hC hL [[], [], [.b false], [], [], [], [.b false], [], [], [], [.b false], [], [], [.c], [], [], [.b true]] { keep := [0, 1, 2, 38], ren := [] } ⟨[(0, (.t ((eS 32 (eA 1 (T.int .u8))) pleaves0))), (1, (.t (.int .i64 pdepth0))), (2, (.t (.int .i64 pindex0))), (38, (.t (.bool true)))], []⟩ [(decide (pdepth0 < (0:Int))) = false, (decide (pdepth0 > (40:Int))) = false, (decide (pindex0 < (0:Int))) = false, ¬ pdepth0 < 0, ((shr .i64 pindex0 pdepth0) != (0:Int)) = true] (by kernel_rfl) ⟨hb0, hb1, hb2, (Int.not_lt.2 hq0), hb3, trivial⟩ ?_
          refine Nxt_norm ?_
          refine Ab.cond (b := true) (by kernel_rfl) (fun _ => ?_) (fun hb => Bool.noConfusion hb)
          refine Ab.seq ?_
          refine Ab.regT hE hC hL [] { keep := [6, 7], ren := [] } ⟨[(6, (.t .nils)), (7, (.t (.int .i64 (2:Int))))], []⟩ [] (by kernel_rfl) trivial ?_
          refine Nxt_norm ?_
          refine Ab.tidyK (s' := ⟨[(6, (.own 48000)), (7, (.t (.int .i64 (2:Int))))], [(48000, (.row false 25 32 (List.map (eA 1 (T.int .u8)) ([] : List (Arr 32 Int)))))]⟩) (q := { fs := [⟨(.t 6), [], .own 48000 25 32⟩], keep := [6, 7], ren := [(48000, 48000)] }) hC hL (by kernel_rfl) ?_
          refine Ab.ret ?_
          refine Nxt_ret ?_
          obtain rfl := Option.some.inj h
          exact End_ret (doneO_ok (md := [true, false]) (by kernel_rfl))
        · replace h := cond_f hb3 h
          refine Ab.regT hE hC hL [[], [], [.b false], [], [], [], [.b false], [], [], [], [.b false], [], [], [.c], [], [], [.b false], [], [.n (pleaves0.length : Int)], [], [.c]] { keep := [0, 1, 2, 38], ren := [] } ⟨[(0, (.t ((eS 32 (eA 1 (T.int .u8))) pleaves0))), (1, (.t (.int .i64 pdepth0))), (2, (.t (.int .i64 pindex0))), (38, (.t (.bool (decide ((pleaves0.length : Int) > (shl .i64 (1:Int) pdepth0))))))], []⟩ [(decide (pdepth0 < (0:Int))) = false, (decide (pdepth0 > (40:Int))) = false, (decide (pindex0 < (0:Int))) = false, ¬ pdepth0 < 0, ((shr .i64 pindex0 pdepth0) != (0:Int)) = false, ((List.length (List.map (eA 1 (T.int .u8)) pleaves0) : Nat) : Int) = (pleaves0.length : Int), ¬ pdepth0 < 0] (by kernel_rfl) ⟨hb0, hb1, hb2, (Int.not_lt.2 hq0), hb3, (len_of rfl), (Int.not_lt.2 hq0), trivial⟩ ?_
          refine Nxt_norm ?_
          refine Ab.cond (b := (decide ((pleaves0.length : Int) > (shl .i64 (1:Int) pdepth0)))) (by kernel_rfl) (fun hb4 => ?_) (fun hb4 => ?_)
          · replace h := cond_t hb4 h
            refine Ab.seq ?_
            refine Ab.regT hE hC hL [] { keep := [6, 7], ren := [] } ⟨[(6, (.t .nils)), (7, (.t (.int .i64 (2:Int))))], []⟩ [] (by kernel_rfl) trivial ?_
            refine Nxt_norm ?_
            refine Ab.tidyK (s' := ⟨[(6, (.own 48000)), (7, (.t (.int .i64 (2:Int))))], [(48000, (.row false 25 32 (List.map (eA 1 (T.int .u8)) ([] : List (Arr 32 Int)))))]⟩) (q := { fs := [⟨(.t 6), [], .own 48000 25 32⟩], keep := [6, 7], ren := [(48000, 48000)] }) hC hL (by kernel_rfl) ?_
            refine Ab.ret ?_
            refine Nxt_ret ?_
            obtain rfl := Option.some.inj h
            exact End_ret (doneO_ok (md := [true, false]) (by kernel_rfl))
          · replace h := cond_f hb4 h
            refine Ab.skip ?_
            refine Nxt_norm ?_
            refine Ab.seq ?_
            obtain ⟨hq1, h⟩ := ask_dec h
            refine Ab.regT hE hC hL [[], [], [.l (List.map (eA 1 (T.int .u8)) (([] : List (Arr 32 Int)) ++ pleaves0))]] { keep := [1, 2, 8], ren := [(41, 41)] } ⟨[(1, (.t (.int .i64 pdepth0))), (2, (.t (.int .i64 pindex0))), (8, (.own 41))], [(41, (.row false 25 32 (List.map (eA 1 (T.int .u8)) (([] : List (Arr 32 Int)) ++ pleaves0))))]⟩ [(List.length (List.map (eA 1 (T.int .u8)) ([] : List (Arr 32 Int))) + List.length (List.map (eA 1 (T.int .u8)) pleaves0)) * 32 ≤ maxBytes, List.length (List.map (eA 1 (T.int .u8)) ([] : List (Arr 32 Int))) + List.length (List.map (eA 1 (T.int .u8)) pleaves0) ≤ maxBytes, (List.map (eA 1 (T.int .u8)) ([] : List (Arr 32 Int))) ++ (List.map (eA 1 (T.int .u8)) pleaves0) = List.map (eA 1 (T.int .u8)) (([] : List (Arr 32 Int)) ++ pleaves0)] (by kernel_rfl) ⟨(app_b rfl rfl hq1), (app_c rfl rfl (by decide) hq1), (app_of rfl rfl), trivial⟩ ?_
            refine Nxt_norm ?_
            refine Ab.seq ?_
            refine Ab.regT hE hC hL [] { keep := [1, 2, 8, 9], ren := [(9, 9), (41, 41)] } ⟨[(1, (.t (.int .i64 pdepth0))), (2, (.t (.int .i64 pindex0))), (8, (.own 41)), (9, (.ref 9 [] (0)))], [(9, (.var false 25 (.t ((eA 1 (T.int .u8)) (Arr.rep 32 (0:Int)))))), (41, (.row false 25 32 (List.map (eA 1 (T.int .u8)) (([] : List (Arr 32 Int)) ++ pleaves0))))]⟩ [] (by kernel_rfl) trivial ?_
            refine Nxt_norm ?_
            refine Ab.seq ?_
            refine Ab.regT hE hC hL [] { keep := [1, 2, 8, 9, 10], ren := [(9, 9), (41, 41)] } ⟨[(1, (.t (.int .i64 pdepth0))), (2, (.t (.int .i64 pindex0))), (8, (.own 41)), (9, (.ref 9 [] (0))), (10, (.t .nils))], [(9, (.var false 25 (.t ((eA 1 (T.int .u8)) (Arr.rep 32 (0:Int)))))), (41, (.row false 25 32 (List.map (eA 1 (T.int .u8)) (([] : List (Arr 32 Int)) ++ pleaves0))))]⟩ [] (by kernel_rfl) trivial ?_
            refine Nxt_norm ?_
            refine Ab.seq ?_
            refine Ab.seq ?_
            refine Ab.regT hE hC hL [] { keep := [2, 8, 9, 10, 42, 43], ren := [(9, 9), (41, 41)] } ⟨[(2, (.t (.int .i64 pindex0))), (8, (.own 41)), (9, (.ref 9 [] (0))), (10, (.t .nils)), (42, (.t (.int .i64 pdepth0))), (43, (.t (.int .i64 (0:Int))))], [(9, (.var false 25 (.t ((eA 1 (T.int .u8)) (Arr.rep 32 (0:Int)))))), (41, (.row false 25 32 (List.map (eA 1 (T.int .u8)) (([] : List (Arr 32 Int)) ++ pleaves0))))]⟩ [] (by kernel_rfl) trivial ?_
            refine Nxt_norm ?_
            obtain ⟨x1, hx0, h⟩ := bind_some h
            refine Ab.loopX0 (fun ((a0, a1, a2, a3, a4) : (Int × (List (Arr 32 Int)) × (Arr 32 Int) × (List (Arr 32 Int)) × Int)) => (⟨[(2, (.t (.int .i64 a0))), (8, (.own 49000)), (9, (.ref 49001 [] (0))), (10, (.own 49002)), (42, (.t (.int .i64 pdepth0))), (43, (.t (.int .i64 a4)))], [(49000, (.row false 25 32 (List.map (eA 1 (T.int .u8)) a1))), (49001, (.var false 25 (.t ((eA 1 (T.int .u8)) a2)))), (49002, (.row false 25 32 (List.map (eA 1 (T.int .u8)) a3)))]⟩ : St)) (fun (a5 : (List (Arr 32 Int))) => (⟨[(10, (.own 49000))], [(49000, (.row false 25 32 (List.map (eA 1 (T.int .u8)) a5)))]⟩ : St)) { fs := [⟨(.t 10), [], .own 48000 25 32⟩], keep := [2, 8, 9, 10, 42, 43], ren := [(41, 49000), (9, 49001), (48000, 49002)] } (pindex0, (([] : List (Arr 32 Int)) ++ pleaves0), (Arr.rep 32 (0:Int)), ([] : List (Arr 32 Int)), (0:Int)) hC hL hx0 (by kernel_rfl) ?_ ?_
            · rintro ⟨a0, a1, a2, a3, a4⟩ o0 h
              replace h : f_merkle_Branch_b0 n pdepth0 a0 a1 a2 a3 a4 = some o0 := h
              unfold f_merkle_Branch_b0 at h
              refine Ab.seq ?_
              refine Ab.regT hE hC hL [] { keep := [2, 8, 9, 10, 42, 43, 44], ren := [(49000, 49000), (49001, 49001), (49002, 49002)] } ⟨[(2, (.t (.int .i64 a0))), (8, (.own 49000)), (9, (.ref 49001 [] (0))), (10, (.own 49002)), (42, (.t (.int .i64 pdepth0))), (43, (.t (.int .i64 a4))), (44, (.t (.bool (decide (a4 < pdepth0)))))], [(49000, (.row false 25 32 (List.map (eA 1 (T.int .u8)) a1))), (49001, (.var false 25 (.t ((eA 1 (T.int .u8)) a2)))), (49002, (.row false 25 32 (List.map (eA 1 (T.int .u8)) a3)))]⟩ [] (by kernel_rfl) trivial ?_
              refine Nxt_norm ?_
              refine Ab.seq ?_
              refine Ab.cond (b := (decide (a4 < pdepth0))) (by kernel_rfl) (fun hb5 => ?_) (fun hb5 => ?_)
              · replace h := cond_t hb5 h
                refine Ab.skip ?_
                refine Nxt_norm ?_
                refine Ab.seq ?_
                refine Ab.block ?_
                refine Ab.seq ?_
                refine Ab.regT hE hC hL [] { keep := [2, 8, 9, 10, 11, 42, 43], ren := [(11, 11), (49000, 49000), (49001, 49001), (49002, 49002)] } ⟨[(2, (.t (.int .i64 a0))), (8, (.own 49000)), (9, (.ref 49001 [] (0))), (10, (.own 49002)), (11, (.ref 11 [] (0))), (42, (.t (.int .i64 pdepth0))), (43, (.t (.int .i64 a4)))], [(11, (.var false 25 (.t ((eA 1 (T.int .u8)) a2)))), (49000, (.row false 25 32 (List.map (eA 1 (T.int .u8)) a1))), (49001, (.var false 25 (.t ((eA 1 (T.int .u8)) a2)))), (49002, (.row false 25 32 (List.map (eA 1 (T.int .u8)) a3)))]⟩ [] (by kernel_rfl) trivial ?_
                refine Nxt_norm ?_
                refine Ab.seqJ (fun (a6 : (Arr 32 Int)) => (⟨[(2, (.t (.int .i64 a0))), (8, (.own 49000)), (9, (.ref 49001 [] (0))), (10, (.own 49002)), (11, (.ref 49003 [] (0))), (42, (.t (.int .i64 pdepth0))), (43, (.t (.int .i64 a4)))], [(49000, (.row false 25 32 (List.map (eA 1 (T.int .u8)) a1))), (49001, (.var false 25 (.t ((eA 1 (T.int .u8)) a2)))), (49002, (.row false 25 32 (List.map (eA 1 (T.int .u8)) a3))), (49003, (.var false 25 (.t ((eA 1 (T.int .u8)) a6))))]⟩ : St)) (fun (a6 : (Arr 32 Int)) => f_merkle_Branch_j0 n a0 a1 a2 a3 a4 a6 = some o0) hC hL ?_ ?_
                · refine Ab.seq ?_
                  refine Ab.regT hE hC hL [] { keep := [2, 8, 9, 10, 11, 12, 42, 43], ren := [(11, 11), (49000, 49000), (49001, 49001), (49002, 49002)] } ⟨[(2, (.t (.int .i64 a0))), (8, (.own 49000)), (9, (.ref 49001 [] (0))), (10, (.own 49002)), (11, (.ref 11 [] (0))), (12, (.t (.int .i64 (bits .xor .i64 a0 (1:Int))))), (42, (.t (.int .i64 pdepth0))), (43, (.t (.int .i64 a4)))], [(11, (.var false 25 (.t ((eA 1 (T.int .u8)) a2)))), (49000, (.row false 25 32 (List.map (eA 1 (T.int .u8)) a1))), (49001, (.var false 25 (.t ((eA 1 (T.int .u8)) a2)))), (49002, (.row false 25 32 (List.map (eA 1 (T.int .u8)) a3)))]⟩ [] (by kernel_rfl) trivial ?_
                  refine Nxt_norm ?_
                  refine Ab.seq ?_
                  refine Ab.regT hE hC hL [[], [], [.n (a1.length : Int)]] { keep := [2, 8, 9, 10, 11, 12, 42, 43, 51], ren := [(11, 11), (49000, 49000), (49001, 49001), (49002, 49002)] } ⟨[(2, (.t (.int .i64 a0))), (8, (.own 49000)), (9, (.ref 49001 [] (0))), (10, (.own 49002)), (11, (.ref 11 [] (0))), (12, (.t (.int .i64 (bits .xor .i64 a0 (1:Int))))), (42, (.t (.int .i64 pdepth0))), (43, (.t (.int .i64 a4))), (51, (.t (.bool (decide ((bits .xor .i64 a0 (1:Int)) < (a1.length : Int))))))], [(11, (.var false 25 (.t ((eA 1 (T.int .u8)) a2)))), (49000, (.row false 25 32 (List.map (eA 1 (T.int .u8)) a1))), (49001, (.var false 25 (.t ((eA 1 (T.int .u8)) a2)))), (49002, (.row false 25 32 (List.map (eA 1 (T.int .u8)) a3)))]⟩ [((List.length (List.map (eA 1 (T.int .u8)) a1) : Nat) : Int) = (a1.length : Int)] (by kernel_rfl) ⟨(len_of rfl), trivial⟩ ?_
                  refine Nxt_norm ?_
                  refine Ab.cond (b := (decide ((bits .xor .i64 a0 (1:Int)) < (a1.length : Int)))) (by kernel_rfl) (fun hb6 => ?_) (fun hb6 => ?_)
                  · replace h := cond_t hb6 h
                    obtain ⟨hq2, h⟩ := ask_dec h
                    obtain ⟨hq3, h⟩ := ask_dec h
                    obtain ⟨v0, hv0, h⟩ := bind_some h
                    refine Ab.regT hE hC hL [[], [], [.c], [.t ((eA 1 (T.int .u8)) v0)]] { keep := [2, 8, 9, 10, 11, 42, 43], ren := [(11, 11), (49000, 49000), (49001, 49001), (49002, 49002)] } ⟨[(2, (.t (.int .i64 a0))), (8, (.own 49000)), (9, (.ref 49001 [] (0))), (10, (.own 49002)), (11, (.ref 11 [] (0))), (42, (.t (.int .i64 pdepth0))), (43, (.t (.int .i64 a4)))], [(11, (.var false 25 (.t ((eA 1 (T.int .u8)) v0)))), (49000, (.row false 25 32 (List.map (eA 1 (T.int .u8)) a1))), (49001, (.var false 25 (.t ((eA 1 (T.int .u8)) a2)))), (49002, (.row false 25 32 (List.map (eA 1 (T.int .u8)) a3)))]⟩ [0 ≤ (bits .xor .i64 a0 (1:Int)), (bits .xor .i64 a0 (1:Int)).toNat < List.length (List.map (eA 1 (T.int .u8)) a1), (bits .xor .i64 a0 (1:Int)).toNat * 32 + 0 = (bits .xor .i64 a0 (1:Int)).toNat * 32, (List.map (eA 1 (T.int .u8)) a1)[(bits .xor .i64 a0 (1:Int)).toNat]? = some ((eA 1 (T.int .u8)) v0)] (by kernel_rfl) ⟨hq2, (by rw [List.length_map]; exact hq3), (by omega), (at_map hv0), trivial⟩ ?_
                    exact Nxt_norm ⟨v0, { fs := [], keep := [2, 8, 9, 10, 11, 42, 43], ren := [(49000, 49000), (49001, 49001), (49002, 49002), (11, 49003)] }, h, by kernel_rfl⟩
                  · replace h := cond_f hb6 h
                    refine Ab.skip ?_
                    exact Nxt_norm ⟨a2, { fs := [], keep := [2, 8, 9, 10, 11, 42, 43], ren := [(49000, 49000), (49001, 49001), (49002, 49002), (11, 49003)] }, h, by kernel_rfl⟩
                · rintro a6 h
                  replace h : f_merkle_Branch_j0 n a0 a1 a2 a3 a4 a6 = some o0 := h
                  unfold f_merkle_Branch_j0 at h
                  refine Ab.seq ?_
                  obtain ⟨hq4, h⟩ := ask_dec h
                  refine Ab.regT hE hC hL [[], [], [], [.l (List.map (eA 1 (T.int .u8)) (a3 ++ ([a6] : List (Arr 32 Int))))]] { keep := [2, 8, 9, 10, 42, 43], ren := [(59, 59), (49000, 49000), (49001, 49001)] } ⟨[(2, (.t (.int .i64 a0))), (8, (.own 49000)), (9, (.ref 49001 [] (0))), (10, (.own 59)), (42, (.t (.int .i64 pdepth0))), (43, (.t (.int .i64 a4)))], [(59, (.row false 25 32 (List.map (eA 1 (T.int .u8)) (a3 ++ ([a6] : List (Arr 32 Int)))))), (49000, (.row false 25 32 (List.map (eA 1 (T.int .u8)) a1))), (49001, (.var false 25 (.t ((eA 1 (T.int .u8)) a2))))]⟩ [(List.length (List.map (eA 1 (T.int .u8)) a3) + List.length (List.map (eA 1 (T.int .u8)) ([a6] : List (Arr 32 Int)))) * 32 ≤ maxBytes, List.length (List.map (eA 1 (T.int .u8)) a3) + List.length (List.map (eA 1 (T.int .u8)) ([a6] : List (Arr 32 Int))) ≤ maxBytes, (List.map (eA 1 (T.int .u8)) a3) ++ (List.map (eA 1 (T.int .u8)) ([a6] : List (Arr 32 Int))) = List.map (eA 1 (T.int .u8)) (a3 ++ ([a6] : List (Arr 32 Int)))] (by kernel_rfl) ⟨(app_b rfl rfl hq4), (app_c rfl rfl (by decide) hq4), (app_of rfl rfl), trivial⟩ ?_
                  refine Nxt_norm ?_
                  refine Ab.seq ?_
                  refine Ab.regT hE hC hL [] { keep := [2, 8, 9, 10, 13, 42, 43], ren := [(59, 59), (49000, 49000), (49001, 49001)] } ⟨[(2, (.t (.int .i64 a0))), (8, (.own 49000)), (9, (.ref 49001 [] (0))), (10, (.own 59)), (13, (.t .nils)), (42, (.t (.int .i64 pdepth0))), (43, (.t (.int .i64 a4)))], [(59, (.row false 25 32 (List.map (eA 1 (T.int .u8)) (a3 ++ ([a6] : List (Arr 32 Int)))))), (49000, (.row false 25 32 (List.map (eA 1 (T.int .u8)) a1))), (49001, (.var false 25 (.t ((eA 1 (T.int .u8)) a2))))]⟩ [] (by kernel_rfl) trivial ?_
                  refine Nxt_norm ?_
                  refine Ab.seq ?_
                  refine Ab.seq ?_
                  refine Ab.regT hE hC hL [] { keep := [2, 8, 9, 10, 13, 14, 42, 43], ren := [(59, 59), (49000, 49000), (49001, 49001)] } ⟨[(2, (.t (.int .i64 a0))), (8, (.own 49000)), (9, (.ref 49001 [] (0))), (10, (.own 59)), (13, (.t .nils)), (14, (.t (.int .i64 (0:Int)))), (42, (.t (.int .i64 pdepth0))), (43, (.t (.int .i64 a4)))], [(59, (.row false 25 32 (List.map (eA 1 (T.int .u8)) (a3 ++ ([a6] : List (Arr 32 Int)))))), (49000, (.row false 25 32 (List.map (eA 1 (T.int .u8)) a1))), (49001, (.var false 25 (.t ((eA 1 (T.int .u8)) a2))))]⟩ [] (by kernel_rfl) trivial ?_
                  refine Nxt_norm ?_
                  obtain ⟨x0, hx1, h⟩ := bind_some h
                  refine Ab.loopX0 (fun ((a9, a10) : ((List (Arr 32 Int)) × Int)) => (⟨[(2, (.t (.int .i64 a0))), (8, (.own 49000)), (9, (.ref 49001 [] (0))), (10, (.own 49002)), (13, (.own 49003)), (14, (.t (.int .i64 a10))), (42, (.t (.int .i64 pdepth0))), (43, (.t (.int .i64 a4)))], [(49000, (.row false 25 32 (List.map (eA 1 (T.int .u8)) a1))), (49001, (.var false 25 (.t ((eA 1 (T.int .u8)) a2)))), (49002, (.row false 25 32 (List.map (eA 1 (T.int .u8)) (a3 ++ ([a6] : List (Arr 32 Int)))))), (49003, (.row false 25 32 (List.map (eA 1 (T.int .u8)) a9)))]⟩ : St)) (fun (a11 : (List (Arr 32 Int))) => (⟨[(2, (.t (.int .i64 a0))), (9, (.ref 49000 [] (0))), (10, (.own 49001)), (13, (.own 49002)), (42, (.t (.int .i64 pdepth0))), (43, (.t (.int .i64 a4)))], [(49000, (.var false 25 (.t ((eA 1 (T.int .u8)) a2)))), (49001, (.row false 25 32 (List.map (eA 1 (T.int .u8)) (a3 ++ ([a6] : List (Arr 32 Int)))))), (49002, (.row false 25 32 (List.map (eA 1 (T.int .u8)) a11)))]⟩ : St)) { fs := [⟨(.t 13), [], .own 48000 25 32⟩], keep := [2, 8, 9, 10, 13, 14, 42, 43], ren := [(49000, 49000), (49001, 49001), (59, 49002), (48000, 49003)] } (([] : List (Arr 32 Int)), (0:Int)) hC hL hx1 (by kernel_rfl) ?_ ?_
                  · rintro ⟨a9, a10⟩ o1 h
                    replace h : f_merkle_Branch_b1 n a1 a2 a9 a10 = some o1 := h
                    unfold f_merkle_Branch_b1 at h
                    refine Ab.seq ?_
                    refine Ab.seq ?_
                    refine Ab.regT hE hC hL [[], [], [.n (a1.length : Int)]] { keep := [2, 8, 9, 10, 13, 14, 42, 43, 63], ren := [(49000, 49000), (49001, 49001), (49002, 49002), (49003, 49003)] } ⟨[(2, (.t (.int .i64 a0))), (8, (.own 49000)), (9, (.ref 49001 [] (0))), (10, (.own 49002)), (13, (.own 49003)), (14, (.t (.int .i64 a10))), (42, (.t (.int .i64 pdepth0))), (43, (.t (.int .i64 a4))), (63, (.t (.bool (decide (a10 < (a1.length : Int))))))], [(49000, (.row false 25 32 (List.map (eA 1 (T.int .u8)) a1))), (49001, (.var false 25 (.t ((eA 1 (T.int .u8)) a2)))), (49002, (.row false 25 32 (List.map (eA 1 (T.int .u8)) (a3 ++ ([a6] : List (Arr 32 Int)))))), (49003, (.row false 25 32 (List.map (eA 1 (T.int .u8)) a9)))]⟩ [((List.length (List.map (eA 1 (T.int .u8)) a1) : Nat) : Int) = (a1.length : Int)] (by kernel_rfl) ⟨(len_of rfl), trivial⟩ ?_
                    refine Nxt_norm ?_
                    refine Ab.cond (b := (decide (a10 < (a1.length : Int)))) (by kernel_rfl) (fun hb7 => ?_) (fun hb7 => ?_)
                    · replace h := cond_t hb7 h
                      refine Ab.skip ?_
                      refine Nxt_norm ?_
                      refine Ab.seq ?_
                      refine Ab.block ?_
                      refine Ab.seq ?_
                      refine Ab.regT hE hC hL [] { keep := [2, 8, 9, 10, 13, 14, 15, 42, 43], ren := [(15, 15), (49000, 49000), (49001, 49001), (49002, 49002), (49003, 49003)] } ⟨[(2, (.t (.int .i64 a0))), (8, (.own 49000)), (9, (.ref 49001 [] (0))), (10, (.own 49002)), (13, (.own 49003)), (14, (.t (.int .i64 a10))), (15, (.ref 15 [] (0))), (42, (.t (.int .i64 pdepth0))), (43, (.t (.int .i64 a4)))], [(15, (.var false 25 (.t ((eA 1 (T.int .u8)) a2)))), (49000, (.row false 25 32 (List.map (eA 1 (T.int .u8)) a1))), (49001, (.var false 25 (.t ((eA 1 (T.int .u8)) a2)))), (49002, (.row false 25 32 (List.map (eA 1 (T.int .u8)) (a3 ++ ([a6] : List (Arr 32 Int)))))), (49003, (.row false 25 32 (List.map (eA 1 (T.int .u8)) a9)))]⟩ [] (by kernel_rfl) trivial ?_
                      refine Nxt_norm ?_
                      refine Ab.seq ?_
                      refine Ab.seq ?_
                      refine Ab.regT hE hC hL [[], [], [], [.n (a1.length : Int)]] { keep := [2, 8, 9, 10, 13, 14, 15, 42, 43, 71], ren := [(15, 15), (49000, 49000), (49001, 49001), (49002, 49002), (49003, 49003)] } ⟨[(2, (.t (.int .i64 a0))), (8, (.own 49000)), (9, (.ref 49001 [] (0))), (10, (.own 49002)), (13, (.own 49003)), (14, (.t (.int .i64 a10))), (15, (.ref 15 [] (0))), (42, (.t (.int .i64 pdepth0))), (43, (.t (.int .i64 a4))), (71, (.t (.bool (decide ((wi (a10 + (1:Int))) < (a1.length : Int))))))], [(15, (.var false 25 (.t ((eA 1 (T.int .u8)) a2)))), (49000, (.row false 25 32 (List.map (eA 1 (T.int .u8)) a1))), (49001, (.var false 25 (.t ((eA 1 (T.int .u8)) a2)))), (49002, (.row false 25 32 (List.map (eA 1 (T.int .u8)) (a3 ++ ([a6] : List (Arr 32 Int)))))), (49003, (.row false 25 32 (List.map (eA 1 (T.int .u8)) a9)))]⟩ [((List.length (List.map (eA 1 (T.int .u8)) a1) : Nat) : Int) = (a1.length : Int)] (by kernel_rfl) ⟨(len_of rfl), trivial⟩ ?_
                      refine Nxt_norm ?_
                      refine Ab.cond (b := (decide ((wi (a10 + (1:Int))) < (a1.length : Int)))) (by kernel_rfl) (fun hb8 => ?_) (fun hb8 => ?_)
                      · replace h := cond_t hb8 h
                        obtain ⟨hq5, h⟩ := ask_dec h
                        obtain ⟨hq6, h⟩ := ask_dec h
                        obtain ⟨v1, hv1, h⟩ := bind_some h
                        refine Ab.regT hE hC hL [[], [], [], [.c], [.t ((eA 1 (T.int .u8)) v1)]] { keep := [2, 8, 9, 10, 13, 14, 15, 42, 43], ren := [(15, 15), (49000, 49000), (49001, 49001), (49002, 49002), (49003, 49003)] } ⟨[(2, (.t (.int .i64 a0))), (8, (.own 49000)), (9, (.ref 49001 [] (0))), (10, (.own 49002)), (13, (.own 49003)), (14, (.t (.int .i64 a10))), (15, (.ref 15 [] (0))), (42, (.t (.int .i64 pdepth0))), (43, (.t (.int .i64 a4)))], [(15, (.var false 25 (.t ((eA 1 (T.int .u8)) v1)))), (49000, (.row false 25 32 (List.map (eA 1 (T.int .u8)) a1))), (49001, (.var false 25 (.t ((eA 1 (T.int .u8)) a2)))), (49002, (.row false 25 32 (List.map (eA 1 (T.int .u8)) (a3 ++ ([a6] : List (Arr 32 Int)))))), (49003, (.row false 25 32 (List.map (eA 1 (T.int .u8)) a9)))]⟩ [0 ≤ (wi (a10 + (1:Int))), (wi (a10 + (1:Int))).toNat < List.length (List.map (eA 1 (T.int .u8)) a1), (wi (a10 + (1:Int))).toNat * 32 + 0 = (wi (a10 + (1:Int))).toNat * 32, (List.map (eA 1 (T.int .u8)) a1)[(wi (a10 + (1:Int))).toNat]? = some ((eA 1 (T.int .u8)) v1)] (by kernel_rfl) ⟨hq5, (by rw [List.length_map]; exact hq6), (by omega), (at_map hv1), trivial⟩ ?_
                        refine Nxt_norm ?_
                        obtain ⟨hq7, h⟩ := ask_dec h
                        obtain ⟨hq8, h⟩ := ask_dec h
                        obtain ⟨v2, hv2, h⟩ := bind_some h
                        obtain ⟨r0, hr0, h⟩ := bind_some h
                        obtain ⟨hq9, h⟩ := ask_dec h
                        refine Ab.regA hE hC hL [[], [], [], [.c], [.t ((eA 1 (T.int .u8)) v2)], [], [.r [.tree ((eA 1 (T.int .u8)) r0)] []], [], [.l (List.map (eA 1 (T.int .u8)) (a9 ++ ([r0] : List (Arr 32 Int))))]] { keep := [2, 8, 9, 10, 13, 14, 42, 43], ren := [(85, 85), (49000, 49000), (49001, 49001), (49002, 49002)] } ⟨[(2, (.t (.int .i64 a0))), (8, (.own 49000)), (9, (.ref 49001 [] (0))), (10, (.own 49002)), (13, (.own 85)), (14, (.t (.int .i64 a10))), (42, (.t (.int .i64 pdepth0))), (43, (.t (.int .i64 a4)))], [(85, (.row false 25 32 (List.map (eA 1 (T.int .u8)) (a9 ++ ([r0] : List (Arr 32 Int)))))), (49000, (.row false 25 32 (List.map (eA 1 (T.int .u8)) a1))), (49001, (.var false 25 (.t ((eA 1 (T.int .u8)) a2)))), (49002, (.row false 25 32 (List.map (eA 1 (T.int .u8)) (a3 ++ ([a6] : List (Arr 32 Int))))))]⟩ [0 ≤ a10, a10.toNat < List.length (List.map (eA 1 (T.int .u8)) a1), a10.toNat * 32 + 0 = a10.toNat * 32, (List.map (eA 1 (T.int .u8)) a1)[a10.toNat]? = some ((eA 1 (T.int .u8)) v2), (sp_digest_Pair n).fn [((eA 1 (T.int .u8)) v2), ((eA 1 (T.int .u8)) v1)] = some ([.tree ((eA 1 (T.int .u8)) r0)], []), (List.length (List.map (eA 1 (T.int .u8)) a9) + List.length (List.map (eA 1 (T.int .u8)) ([r0] : List (Arr 32 Int)))) * 32 ≤ maxBytes, List.length (List.map (eA 1 (T.int .u8)) a9) + List.length (List.map (eA 1 (T.int .u8)) ([r0] : List (Arr 32 Int))) ≤ maxBytes, (List.map (eA 1 (T.int .u8)) a9) ++ (List.map (eA 1 (T.int .u8)) ([r0] : List (Arr 32 Int))) = List.map (eA 1 (T.int .u8)) (a9 ++ ([r0] : List (Arr 32 Int)))] (by kernel_rfl) (by kernel_rfl) ⟨hq7, (by rw [List.length_map]; exact hq8), (by omega), (at_map hv2), (ap_digest_Pair n (by exact ⟨leT.refl _, leT.refl _, trivial⟩) hr0), (app_b rfl rfl hq9), (app_c rfl rfl (by decide) hq9), (app_of rfl rfl), trivial⟩ ?_
                        refine Blk_norm ?_
                        refine Nxt_norm ?_
                        refine Ab.regT hE hC hL [] { keep := [2, 8, 9, 10, 13, 14, 42, 43], ren := [(85, 85), (49000, 49000), (49001, 49001), (49002, 49002)] } ⟨[(2, (.t (.int .i64 a0))), (8, (.own 49000)), (9, (.ref 49001 [] (0))), (10, (.own 49002)), (13, (.own 85)), (14, (.t (.int .i64 (wi (a10 + (2:Int)))))), (42, (.t (.int .i64 pdepth0))), (43, (.t (.int .i64 a4)))], [(85, (.row false 25 32 (List.map (eA 1 (T.int .u8)) (a9 ++ ([r0] : List (Arr 32 Int)))))), (49000, (.row false 25 32 (List.map (eA 1 (T.int .u8)) a1))), (49001, (.var false 25 (.t ((eA 1 (T.int .u8)) a2)))), (49002, (.row false 25 32 (List.map (eA 1 (T.int .u8)) (a3 ++ ([a6] : List (Arr 32 Int))))))]⟩ [] (by kernel_rfl) trivial ?_
                        exact LK_norm ((a9 ++ ([r0] : List (Arr 32 Int))), (wi (a10 + (2:Int)))) { fs := [], keep := [2, 8, 9, 10, 13, 14, 42, 43], ren := [(49000, 49000), (49001, 49001), (49002, 49002), (85, 49003)] } h (by kernel_rfl)
                      · replace h := cond_f hb8 h
                        refine Ab.skip ?_
                        refine Nxt_norm ?_
                        obtain ⟨hq10, h⟩ := ask_dec h
                        obtain ⟨hq11, h⟩ := ask_dec h
                        obtain ⟨v3, hv3, h⟩ := bind_some h
                        obtain ⟨r1, hr1, h⟩ := bind_some h
                        obtain ⟨hq12, h⟩ := ask_dec h
                        refine Ab.regA hE hC hL [[], [], [], [.c], [.t ((eA 1 (T.int .u8)) v3)], [], [.r [.tree ((eA 1 (T.int .u8)) r1)] []], [], [.l (List.map (eA 1 (T.int .u8)) (a9 ++ ([r1] : List (Arr 32 Int))))]] { keep := [2, 8, 9, 10, 13, 14, 42, 43], ren := [(85, 85), (49000, 49000), (49001, 49001), (49002, 49002)] } ⟨[(2, (.t (.int .i64 a0))), (8, (.own 49000)), (9, (.ref 49001 [] (0))), (10, (.own 49002)), (13, (.own 85)), (14, (.t (.int .i64 a10))), (42, (.t (.int .i64 pdepth0))), (43, (.t (.int .i64 a4)))], [(85, (.row false 25 32 (List.map (eA 1 (T.int .u8)) (a9 ++ ([r1] : List (Arr 32 Int)))))), (49000, (.row false 25 32 (List.map (eA 1 (T.int .u8)) a1))), (49001, (.var false 25 (.t ((eA 1 (T.int .u8)) a2)))), (49002, (.row false 25 32 (List.map (eA 1 (T.int .u8)) (a3 ++ ([a6] : List (Arr 32 Int))))))]⟩ [0 ≤ a10, a10.toNat < List.length (List.map (eA 1 (T.int .u8)) a1), a10.toNat * 32 + 0 = a10.toNat * 32, (List.map (eA 1 (T.int .u8)) a1)[a10.toNat]? = some ((eA 1 (T.int .u8)) v3), (sp_digest_Pair n).fn [((eA 1 (T.int .u8)) v3), ((eA 1 (T.int .u8)) a2)] = some ([.tree ((eA 1 (T.int .u8)) r1)], []), (List.length (List.map (eA 1 (T.int .u8)) a9) + List.length (List.map (eA 1 (T.int .u8)) ([r1] : List (Arr 32 Int)))) * 32 ≤ maxBytes, List.length (List.map (eA 1 (T.int .u8)) a9) + List.length (List.map (eA 1 (T.int .u8)) ([r1] : List (Arr 32 Int))) ≤ maxBytes, (List.map (eA 1 (T.int .u8)) a9) ++ (List.map (eA 1 (T.int .u8)) ([r1] : List (Arr 32 Int))) = List.map (eA 1 (T.int .u8)) (a9 ++ ([r1] : List (Arr 32 Int)))] (by kernel_rfl) (by kernel_rfl) ⟨hq10, (by rw [List.length_map]; exact hq11), (by omega), (at_map hv3), (ap_digest_Pair n (by exact ⟨leT.refl _, leT.refl _, trivial⟩) hr1), (app_b rfl rfl hq12), (app_c rfl rfl (by decide) hq12), (app_of rfl rfl), trivial⟩ ?_
                        refine Blk_norm ?_
                        refine Nxt_norm ?_
                        refine Ab.regT hE hC hL [] { keep := [2, 8, 9, 10, 13, 14, 42, 43], ren := [(85, 85), (49000, 49000), (49001, 49001), (49002, 49002)] } ⟨[(2, (.t (.int .i64 a0))), (8, (.own 49000)), (9, (.ref 49001 [] (0))), (10, (.own 49002)), (13, (.own 85)), (14, (.t (.int .i64 (wi (a10 + (2:Int)))))), (42, (.t (.int .i64 pdepth0))), (43, (.t (.int .i64 a4)))], [(85, (.row false 25 32 (List.map (eA 1 (T.int .u8)) (a9 ++ ([r1] : List (Arr 32 Int)))))), (49000, (.row false 25 32 (List.map (eA 1 (T.int .u8)) a1))), (49001, (.var false 25 (.t ((eA 1 (T.int .u8)) a2)))), (49002, (.row false 25 32 (List.map (eA 1 (T.int .u8)) (a3 ++ ([a6] : List (Arr 32 Int))))))]⟩ [] (by kernel_rfl) trivial ?_
                        exact LK_norm ((a9 ++ ([r1] : List (Arr 32 Int))), (wi (a10 + (2:Int)))) { fs := [], keep := [2, 8, 9, 10, 13, 14, 42, 43], ren := [(49000, 49000), (49001, 49001), (49002, 49002), (85, 49003)] } h (by kernel_rfl)
                    · replace h := cond_f hb7 h
                      refine Ab.exit ?_
                      refine Nxt_exit ?_
                      exact LK_exit a9 h (PX_mk { fs := [], keep := [2, 9, 10, 13, 42, 43], ren := [(49001, 49000), (49002, 49001), (49003, 49002)] } (by kernel_rfl))
                  · refine Nxt_norm ?_
                    obtain ⟨r2, hr2, h⟩ := bind_some h
                    refine Ab.regT hE hC hL [[], [], [], [.r [.tree ((eA 1 (T.int .u8)) r2)] []]] { keep := [2, 8, 9, 10, 42, 43], ren := [(49000, 49000), (49001, 49001), (49002, 49002)] } ⟨[(2, (.t (.int .i64 (wi (a0.tdiv (2:Int)))))), (8, (.own 49002)), (9, (.ref 49000 [] (0))), (10, (.own 49001)), (42, (.t (.int .i64 pdepth0))), (43, (.t (.int .i64 a4)))], [(49000, (.var false 25 (.t ((eA 1 (T.int .u8)) r2)))), (49001, (.row false 25 32 (List.map (eA 1 (T.int .u8)) (a3 ++ ([a6] : List (Arr 32 Int)))))), (49002, (.row false 25 32 (List.map (eA 1 (T.int .u8)) x0)))]⟩ [(sp_digest_Pair n).fn [((eA 1 (T.int .u8)) a2), ((eA 1 (T.int .u8)) a2)] = some ([.tree ((eA 1 (T.int .u8)) r2)], [])] (by kernel_rfl) ⟨(ap_digest_Pair n (by exact ⟨leT.refl _, leT.refl _, trivial⟩) hr2), trivial⟩ ?_
                    refine Blk_norm ?_
                    refine Nxt_norm ?_
                    refine Ab.regT hE hC hL [] { keep := [2, 8, 9, 10, 42, 43], ren := [(49000, 49000), (49001, 49001), (49002, 49002)] } ⟨[(2, (.t (.int .i64 (wi (a0.tdiv (2:Int)))))), (8, (.own 49002)), (9, (.ref 49000 [] (0))), (10, (.own 49001)), (42, (.t (.int .i64 pdepth0))), (43, (.t (.int .i64 (wi (a4 + (1:Int))))))], [(49000, (.var false 25 (.t ((eA 1 (T.int .u8)) r2)))), (49001, (.row false 25 32 (List.map (eA 1 (T.int .u8)) (a3 ++ ([a6] : List (Arr 32 Int)))))), (49002, (.row false 25 32 (List.map (eA 1 (T.int .u8)) x0)))]⟩ [] (by kernel_rfl) trivial ?_
                    exact LK_norm ((wi (a0.tdiv (2:Int))), x0, r2, (a3 ++ ([a6] : List (Arr 32 Int))), (wi (a4 + (1:Int)))) { fs := [], keep := [2, 8, 9, 10, 42, 43], ren := [(49002, 49000), (49000, 49001), (49001, 49002)] } h (by kernel_rfl)
              · replace h := cond_f hb5 h
                refine Ab.exit ?_
                refine Nxt_exit ?_
                exact LK_exit a3 h (PX_mk { fs := [], keep := [10], ren := [(49002, 49000)] } (by kernel_rfl))
            · refine Nxt_norm ?_
              refine Ab.seq ?_
              refine Ab.regT hE hC hL [] { keep := [6, 7], ren := [(49000, 49000)] } ⟨[(6, (.own 49000)), (7, (.t (.int .i64 (0:Int))))], [(49000, (.row false 25 32 (List.map (eA 1 (T.int .u8)) x1)))]⟩ [] (by kernel_rfl) trivial ?_
              refine Nxt_norm ?_
              refine Ab.ret ?_
              obtain rfl := Option.some.inj h
              exact End_ret (doneO_ok (md := [true, false]) (by kernel_rfl))
def ea_ref02_Branch (a : (List (Arr 32 Int)) × Int × Int) : List T := [(eS 32 (eA 1 (T.int .u8))) a.1, (T.int .i64) a.2.1, (T.int .i64) a.2.2]
def er_ref02_Branch (r : ((List (Arr 32 Int)) × Bool)) : List RR × List T := ([.row 24 32 (List.map (eA 1 (T.int .u8)) r.1), .tree (T.bool r.2)], [])
noncomputable def sp_ref02_Branch (n : Nat) : Spec := specP [] false ea_ref02_Branch (fun a => f_ref02_Branch n a.1 a.2.1 a.2.2) (fun _ r => er_ref02_Branch r)
theorem ap_ref02_Branch (n : Nat) {ts : List T} {a0 : (List (Arr 32 Int))} {a1 : Int} {a2 : Int} {r : ((List (Arr 32 Int)) × Bool)} (hle : leTs ts [(eS 32 (eA 1 (T.int .u8))) a0, (T.int .i64) a1, (T.int .i64) a2]) (h : f_ref02_Branch n a0 a1 a2 = some r) : (sp_ref02_Branch n).fn ts = some ([.row 24 32 (List.map (eA 1 (T.int .u8)) r.1), .tree (T.bool r.2)], []) :=
  specP_fn (a := (a0, a1, a2)) (InjA.cons (inj_eS (inj_eA (inj_int _))) (InjA.cons (inj_int _) (InjA.one (inj_int _)))) hle h
noncomputable def E_ref02_Branch (n : Nat) : Env := { ty := tyT, glob := glob, fns := get [(51, sp_ref02_Full n)], ntmps := 72 }
theorem eok_ref02_Branch (n : Nat) : EnvOK Tryd.prog (E_ref02_Branch n) := ⟨tys_ok tys_chk, prog_mixed, (fns_cons (ok_ref02_Full n) fns_nil)⟩
def K_ref02_Branch (n : Nat) (pl0 : (List (Arr 32 Int))) (pdepth0 : Int) (pindex0 : Int) (r : ((List (Arr 32 Int)) × Bool)) : St → Prop := Done (E_ref02_Branch n) Tryd.f42.results.toList [] (ea_ref02_Branch (pl0, pdepth0, pindex0)) (er_ref02_Branch r).1 (er_ref02_Branch r).2
set_option maxRecDepth 100000 in
set_option maxHeartbeats 4000000 in
theorem ok_ref02_Branch (n : Nat) : SpecOK Tryd.prog glob 42 (sp_ref02_Branch n) := by
  refine specP_ok (fn := Tryd.f42) (eok_ref02_Branch n) (by kernel_rfl) rfl (by decide +kernel) (by kernel_rfl) (fun _ => by show 3 ≤ 72; omega) (fun h => Bool.noConfusion h) ?_
  rintro ⟨pl0, pdepth0, pindex0⟩ r h C hL hC
  have hE := eok_ref02_Branch n
  replace hL : ∀ n g, (n, g) ∈ C.lent → n ∈ ([] : List Nat) := hL
  replace h : f_ref02_Branch n pl0 pdepth0 pindex0 = some r := h
  show Ab _ _ _ _ _ (End (K_ref02_Branch n pl0 pdepth0 pindex0 r))
  unfold f_ref02_Branch at h
  refine Ab.seq ?_
  refine Ab.regT hE hC hL [] { keep := [0, 1, 2], ren := [] } ⟨[(0, (.t ((eS 32 (eA 1 (T.int .u8))) pl0))), (1, (.t (.int .i64 pdepth0))), (2, (.t (.int .i64 pindex0)))], []⟩ [] (by kernel_rfl) trivial ?_
  refine Nxt_norm ?_
  refine Ab.seq ?_
  refine Ab.seq ?_
  rcases Bool.eq_false_or_eq_true (decide (pdepth0 < (0:Int))) with hb0 | hb0
  · replace h := cond_t hb0 h
    refine Ab.regT hE hC hL [[], [], [.b true]] { keep := [0, 1, 2, 34], ren := [] } ⟨[(0, (.t ((eS 32 (eA 1 (T.int .u8))) pl0))), (1, (.t (.int .i64 pdepth0))), (2, (.t (.int .i64 pindex0))), (34, (.t (.bool true)))], []⟩ [(decide (pdepth0 < (0:Int))) = true] (by kernel_rfl) ⟨hb0, trivial⟩ ?_
    refine Nxt_norm ?_
    refine Ab.cond (b := true) (by kernel_rfl) (fun _ => ?_) (fun hb => Bool.noConfusion hb)
    refine Ab.seq ?_
    refine Ab.regT hE hC hL [] { keep := [6, 7], ren := [] } ⟨[(6, (.t .nils)), (7, (.t (.bool false)))], []⟩ [] (by kernel_rfl) trivial ?_
    refine Nxt_norm ?_
    refine Ab.tidyK (s' := ⟨[(6, (.own 48000)), (7, (.t (.bool false)))], [(48000, (.row false 24 32 (List.map (eA 1 (T.int .u8)) ([] : List (Arr 32 Int)))))]⟩) (q := { fs := [⟨(.t 6), [], .own 48000 24 32⟩], keep := [6, 7], ren := [(48000, 48000)] }) hC hL (by kernel_rfl) ?_
    refine Ab.ret ?_
    refine Nxt_ret ?_
    obtain rfl := Option.some.inj h
    exact End_ret (doneO_ok (md := [true, false]) (by kernel_rfl))
  · replace h := cond_f hb0 h
    rcases Bool.eq_false_or_eq_true (decide (pdepth0 > (40:Int))) with hb1 | hb1
    · replace h := cond_t hb1 h
      refine Ab.regT hE hC hL [[], [], [.b false], [], [], [], [.b true]] { keep := [0, 1, 2, 34], ren := [] } ⟨[(0, (.t ((eS 32 (eA 1 (T.int .u8))) pl0))), (1, (.t (.int .i64 pdepth0))), (2, (.t (.int .i64 pindex0))), (34, (.t (.bool true)))], []⟩ [(decide (pdepth0 < (0:Int))) = false, (decide (pdepth0 > (40:Int))) = true] (by kernel_rfl) ⟨hb0, hb1, trivial⟩ ?_
      refine Nxt_norm ?_
      refine Ab.cond (b := true) (by kernel_rfl) (fun _ => ?_) (fun hb => Bool.noConfusion hb)
      refine Ab.seq ?_
      refine Ab.regT hE hC hL [] { keep := [6, 7], ren := [] } ⟨[(6, (.t .nils)), (7, (.t (.bool false)))], []⟩ [] (by kernel_rfl) trivial ?_
      refine Nxt_norm ?_
      refine Ab.tidyK (s' := ⟨[(6, (.own 48000)), (7, (.t (.bool false)))], [(48000, (.row false 24 32 (List.map (eA 1 (T.int .u8)) ([] : List (Arr 32 Int)))))]⟩) (q := { fs := [⟨(.t 6), [], .own 48000 24 32⟩], keep := [6, 7], ren := [(48000, 48000)] }) hC hL (by kernel_rfl) ?_
      refine Ab.ret ?_
      refine Nxt_ret ?_
      obtain rfl := Option.some.inj h
      exact End_ret (doneO_ok (md := [true, false]) (by kernel_rfl))
    · replace h := cond_f hb1 h
      rcases Bool.eq_false_or_eq_true (decide (pindex0 < (0:Int))) with hb2 | hb2
      · replace h := cond_t hb2 h
        refine Ab.regT hE hC hL [[], [], [.b false], [], [], [], [.b false], [], [], [], [.b true]] { keep := [0, 1, 2, 34], ren := [] } ⟨[(0, (.t ((eS 32 (eA 1 (T.int .u8))) pl0))), (1, (.t (.int .i64 pdepth0))), (2, (.t (.int .i64 pindex0))), (34, (.t (.bool true)))], []⟩ [(decide (pdepth0 < (0:Int))) = false, (decide (pdepth0 > (40:Int))) = false, (decide (pindex0 < (0:Int))) = true] (by kernel_rfl) ⟨hb0, hb1, hb2, trivial⟩ ?_
        refine Nxt_norm ?_
        refine Ab.cond (b := true) (by kernel_rfl) (fun _ => ?_) (fun hb => Bool.noConfusion hb)
        refine Ab.seq ?_
        refine Ab.regT hE hC hL [] { keep := [6, 7], ren := [] } ⟨[(6, (.t .nils)), (7, (.t (.bool false)))], []⟩ [] (by kernel_rfl) trivial ?_
        refine Nxt_norm ?_
        refine Ab.tidyK (s' := ⟨[(6, (.own 48000)), (7, (.t (.bool false)))], [(48000, (.row false 24 32 (List.map (eA 1 (T.int .u8)) ([] : List (Arr 32 Int)))))]⟩) (q := { fs := [⟨(.t 6), [], .own 48000 24 32⟩], keep := [6, 7], ren := [(48000, 48000)] }) hC hL (by kernel_rfl) ?_
        refine Ab.ret ?_
        refine Nxt_ret ?_
        obtain rfl := Option.some.inj h
        exact End_ret (doneO_ok (md := [true, false]) (by kernel_rfl))
      · replace h := cond_f hb2 h
        obtain ⟨hq0, h⟩ := ask_dec h
        rcases Bool.eq_false_or_eq_true (decide (pindex0 ≥ (shl .i64 (1:Int) pdepth0))) with hb3 | hb3
        · replace h := cond_t hb3 h
          refine Ab.regT hE hC hL [[], [], [.b false], [], [], [], [.b false], [], [], [], [.b false], [], [], [.c], [], [], [.b true]] { keep := [0, 1, 2, 34], ren := [] } ⟨[(0, (.t ((eS 32 (eA 1 (T.int .u8))) pl0))), (1, (.t (.int .i64 pdepth0))), (2, (.t (.int .i64 pindex0))), (34, (.t (.bool true)))], []⟩ [(decide (pdepth0 < (0:Int))) = false, (decide (pdepth0 > (40:Int))) = false, (decide (pindex0 < (0:Int))) = false, ¬ pdepth0 < 0, (decide (pindex0 ≥ (shl .i64 (1:Int) pdepth0))) = true] (by kernel_rfl) ⟨hb0, hb1, hb2, (Int.not_lt.2 hq0), hb3, trivial⟩ ?_
          refine Nxt_norm ?_
          refine Ab.cond (b := true) (by kernel_rfl) (fun _ => ?_) (fun hb => Bool.noConfusion hb)
          refine Ab.seq ?_
          refine Ab.regT hE hC hL [] { keep := [6, 7], ren := [] } ⟨[(6, (.t .nils)), (7, (.t (.bool false)))], []⟩ [] (by kernel_rfl) trivial ?_
          refine Nxt_norm ?_
          refine Ab.tidyK (s' := ⟨[(6, (.own 48000)), (7, (.t (.bool false)))], [(48000, (.row false 24 32 (List.map (eA 1 (T.int .u8)) ([] : List (Arr 32 Int)))))]⟩) (q := { fs := [⟨(.t 6), [], .own 48000 24 32⟩], keep := [6, 7], ren := [(48000, 48000)] }) hC hL (by kernel_rfl) ?_
          refine Ab.ret ?_
          refine Nxt_ret ?_
          obtain rfl := Option.some.inj h
          exact End_ret (doneO_ok (md := [true, false]) (by kernel_rfl))
        · replace h := cond_f hb3 h
          refine Ab.regT hE hC hL [[], [], [.b false], [], [], [], [.b false], [], [], [], [.b false], [], [], [.c], [], [], [.b false], [], [.n (pl0.length : Int)], [], [.c]] { keep := [0, 1, 2, 34], ren := [] } ⟨[(0, (.t ((eS 32 (eA 1 (T.int .u8))) pl0))), (1, (.t (.int .i64 pdepth0))), (2, (.t (.int .i64 pindex0))), (34, (.t (.bool (decide ((pl0.length : Int) > (shl .i64 (1:Int) pdepth0))))))], []⟩ [(decide (pdepth0 < (0:Int))) = false, (decide (pdepth0 > (40:Int))) = false, (decide (pindex0 < (0:Int))) = false, ¬ pdepth0 < 0, (decide (pindex0 ≥ (shl .i64 (1:Int) pdepth0))) = false, ((List.length (List.map (eA 1 (T.int .u8)) pl0) : Nat) : Int) = (pl0.length : Int), ¬ pdepth0 < 0] (by kernel_rfl) ⟨hb0, hb1, hb2, (Int.not_lt.2 hq0), hb3, (len_of rfl), (Int.not_lt.2 hq0), trivial⟩ ?_
          refine Nxt_norm ?_
          refine Ab.cond (b := (decide ((pl0.length : Int) > (shl .i64 (1:Int) pdepth0)))) (by kernel_rfl) (fun hb4 => ?_) (fun hb4 => ?_)
          · replace h := cond_t hb4 h
            refine Ab.seq ?_
            refine Ab.regT hE hC hL [] { keep := [6, 7], ren := [] } ⟨[(6, (.t .nils)), (7, (.t (.bool false)))], []⟩ [] (by kernel_rfl) trivial ?_
            refine Nxt_norm ?_
            refine Ab.tidyK (s' := ⟨[(6, (.own 48000)), (7, (.t (.bool false)))], [(48000, (.row false 24 32 (List.map (eA 1 (T.int .u8)) ([] : List (Arr 32 Int)))))]⟩) (q := { fs := [⟨(.t 6), [], .own 48000 24 32⟩], keep := [6, 7], ren := [(48000, 48000)] }) hC hL (by kernel_rfl) ?_
            refine Ab.ret ?_
            refine Nxt_ret ?_
            obtain rfl := Option.some.inj h
            exact End_ret (doneO_ok (md := [true, false]) (by kernel_rfl))
          · replace h := cond_f hb4 h
            refine Ab.skip ?_
            refine Nxt_norm ?_
            refine Ab.seq ?_
            refine Ab.regT hE hC hL [] { keep := [0, 1, 2, 8], ren := [] } ⟨[(0, (.t ((eS 32 (eA 1 (T.int .u8))) pl0))), (1, (.t (.int .i64 pdepth0))), (2, (.t (.int .i64 pindex0))), (8, (.t .nils))], []⟩ [] (by kernel_rfl) trivial ?_
            refine Nxt_norm ?_
            refine Ab.seq ?_
            refine Ab.seq ?_
            refine Ab.regT hE hC hL [] { keep := [0, 1, 2, 8, 9], ren := [] } ⟨[(0, (.t ((eS 32 (eA 1 (T.int .u8))) pl0))), (1, (.t (.int .i64 pdepth0))), (2, (.t (.int .i64 pindex0))), (8, (.t .nils)), (9, (.t (.int .i64 (0:Int))))], []⟩ [] (by kernel_rfl) trivial ?_
            refine Nxt_norm ?_
            obtain ⟨x0, hx0, h⟩ := bind_some h
            refine Ab.loopX0 (fun ((a0, a1) : ((List (Arr 32 Int)) × Int)) => (⟨[(0, (.t ((eS 32 (eA 1 (T.int .u8))) pl0))), (1, (.t (.int .i64 pdepth0))), (2, (.t (.int .i64 pindex0))), (8, (.own 49000)), (9, (.t (.int .i64 a1)))], [(49000, (.row false 24 32 (List.map (eA 1 (T.int .u8)) a0)))]⟩ : St)) (fun (a2 : (List (Arr 32 Int))) => (⟨[(8, (.own 49000))], [(49000, (.row false 24 32 (List.map (eA 1 (T.int .u8)) a2)))]⟩ : St)) { fs := [⟨(.t 8), [], .own 48000 24 32⟩], keep := [0, 1, 2, 8, 9], ren := [(48000, 49000)] } (([] : List (Arr 32 Int)), (0:Int)) hC hL hx0 (by kernel_rfl) ?_ ?_
            · rintro ⟨a0, a1⟩ o0 h
              replace h : f_ref02_Branch_b0 n pdepth0 pindex0 pl0 a0 a1 = some o0 := h
              unfold f_ref02_Branch_b0 at h
              refine Ab.seq ?_
              refine Ab.seq ?_
              refine Ab.regT hE hC hL [] { keep := [0, 1, 2, 8, 9, 37], ren := [(49000, 49000)] } ⟨[(0, (.t ((eS 32 (eA 1 (T.int .u8))) pl0))), (1, (.t (.int .i64 pdepth0))), (2, (.t (.int .i64 pindex0))), (8, (.own 49000)), (9, (.t (.int .i64 a1))), (37, (.t (.bool (decide (a1 < pdepth0)))))], [(49000, (.row false 24 32 (List.map (eA 1 (T.int .u8)) a0)))]⟩ [] (by kernel_rfl) trivial ?_
              refine Nxt_norm ?_
              refine Ab.cond (b := (decide (a1 < pdepth0))) (by kernel_rfl) (fun hb5 => ?_) (fun hb5 => ?_)
              · replace h := cond_t hb5 h
                refine Ab.skip ?_
                refine Nxt_norm ?_
                refine Ab.seq ?_
                refine Ab.block ?_
                refine Ab.seq ?_
                obtain ⟨hq1, h⟩ := ask_dec h
                refine Ab.regT hE hC hL [[], [], [.c], [], [], [.c]] { keep := [0, 1, 2, 8, 9, 10], ren := [(49000, 49000)] } ⟨[(0, (.t ((eS 32 (eA 1 (T.int .u8))) pl0))), (1, (.t (.int .i64 pdepth0))), (2, (.t (.int .i64 pindex0))), (8, (.own 49000)), (9, (.t (.int .i64 a1))), (10, (.t (.int .i64 (shl .i64 (bits .xor .i64 (shr .i64 pindex0 a1) (1:Int)) a1))))], [(49000, (.row false 24 32 (List.map (eA 1 (T.int .u8)) a0)))]⟩ [¬ a1 < 0, ¬ a1 < 0] (by kernel_rfl) ⟨(Int.not_lt.2 hq1), (Int.not_lt.2 hq1), trivial⟩ ?_
                refine Nxt_norm ?_
                refine Ab.seq ?_
                refine Ab.regT hE hC hL [[], [], [.c]] { keep := [0, 1, 2, 8, 9, 10, 11], ren := [(49000, 49000)] } ⟨[(0, (.t ((eS 32 (eA 1 (T.int .u8))) pl0))), (1, (.t (.int .i64 pdepth0))), (2, (.t (.int .i64 pindex0))), (8, (.own 49000)), (9, (.t (.int .i64 a1))), (10, (.t (.int .i64 (shl .i64 (bits .xor .i64 (shr .i64 pindex0 a1) (1:Int)) a1)))), (11, (.t (.int .i64 (wi ((shl .i64 (bits .xor .i64 (shr .i64 pindex0 a1) (1:Int)) a1) + (shl .i64 (1:Int) a1))))))], [(49000, (.row false 24 32 (List.map (eA 1 (T.int .u8)) a0)))]⟩ [¬ a1 < 0] (by kernel_rfl) ⟨(Int.not_lt.2 hq1), trivial⟩ ?_
                refine Nxt_norm ?_
                refine Ab.seq ?_
                refine Ab.seq ?_
                refine Ab.regT hE hC hL [[], [], [.n (pl0.length : Int)]] { keep := [0, 1, 2, 8, 9, 10, 11, 53], ren := [(49000, 49000)] } ⟨[(0, (.t ((eS 32 (eA 1 (T.int .u8))) pl0))), (1, (.t (.int .i64 pdepth0))), (2, (.t (.int .i64 pindex0))), (8, (.own 49000)), (9, (.t (.int .i64 a1))), (10, (.t (.int .i64 (shl .i64 (bits .xor .i64 (shr .i64 pindex0 a1) (1:Int)) a1)))), (11, (.t (.int .i64 (wi ((shl .i64 (bits .xor .i64 (shr .i64 pindex0 a1) (1:Int)) a1) + (shl .i64 (1:Int) a1)))))), (53, (.t (.bool (decide ((shl .i64 (bits .xor .i64 (shr .i64 pindex0 a1) (1:Int)) a1) > (pl0.length : Int))))))], [(49000, (.row false 24 32 (List.map (eA 1 (T.int .u8)) a0)))]⟩ [((List.length (List.map (eA 1 (T.int .u8)) pl0) : Nat) : Int) = (pl0.length : Int)] (by kernel_rfl) ⟨(len_of rfl), trivial⟩ ?_
                refine Nxt_norm ?_
                refine Ab.cond (b := (decide ((shl .i64 (bits .xor .i64 (shr .i64 pindex0 a1) (1:Int)) a1) > (pl0.length : Int)))) (by kernel_rfl) (fun hb6 => ?_) (fun hb6 => ?_)
                · replace h := cond_t hb6 h
                  refine Ab.regT hE hC hL [[], [.n (pl0.length : Int)]] { keep := [0, 1, 2, 8, 9, 10, 11], ren := [(49000, 49000)] } ⟨[(0, (.t ((eS 32 (eA 1 (T.int .u8))) pl0))), (1, (.t (.int .i64 pdepth0))), (2, (.t (.int .i64 pindex0))), (8, (.own 49000)), (9, (.t (.int .i64 a1))), (10, (.t (.int .i64 (pl0.length : Int)))), (11, (.t (.int .i64 (wi ((shl .i64 (bits .xor .i64 (shr .i64 pindex0 a1) (1:Int)) a1) + (shl .i64 (1:Int) a1))))))], [(49000, (.row false 24 32 (List.map (eA 1 (T.int .u8)) a0)))]⟩ [((List.length (List.map (eA 1 (T.int .u8)) pl0) : Nat) : Int) = (pl0.length : Int)] (by kernel_rfl) ⟨(len_of rfl), trivial⟩ ?_
                  refine Nxt_norm ?_
                  refine Ab.seq ?_
                  refine Ab.seq ?_
                  refine Ab.regT hE hC hL [[], [], [.n (pl0.length : Int)]] { keep := [0, 1, 2, 8, 9, 10, 11, 59], ren := [(49000, 49000)] } ⟨[(0, (.t ((eS 32 (eA 1 (T.int .u8))) pl0))), (1, (.t (.int .i64 pdepth0))), (2, (.t (.int .i64 pindex0))), (8, (.own 49000)), (9, (.t (.int .i64 a1))), (10, (.t (.int .i64 (pl0.length : Int)))), (11, (.t (.int .i64 (wi ((shl .i64 (bits .xor .i64 (shr .i64 pindex0 a1) (1:Int)) a1) + (shl .i64 (1:Int) a1)))))), (59, (.t (.bool (decide ((wi ((shl .i64 (bits .xor .i64 (shr .i64 pindex0 a1) (1:Int)) a1) + (shl .i64 (1:Int) a1))) > (pl0.length : Int))))))], [(49000, (.row false 24 32 (List.map (eA 1 (T.int .u8)) a0)))]⟩ [((List.length (List.map (eA 1 (T.int .u8)) pl0) : Nat) : Int) = (pl0.length : Int)] (by kernel_rfl) ⟨(len_of rfl), trivial⟩ ?_
                  refine Nxt_norm ?_
                  refine Ab.cond (b := (decide ((wi ((shl .i64 (bits .xor .i64 (shr .i64 pindex0 a1) (1:Int)) a1) + (shl .i64 (1:Int) a1))) > (pl0.length : Int)))) (by kernel_rfl) (fun hb7 => ?_) (fun hb7 => ?_)
                  · replace h := cond_t hb7 h
                    refine Ab.regT hE hC hL [[], [.n (pl0.length : Int)]] { keep := [0, 1, 2, 8, 9, 10, 11], ren := [(49000, 49000)] } ⟨[(0, (.t ((eS 32 (eA 1 (T.int .u8))) pl0))), (1, (.t (.int .i64 pdepth0))), (2, (.t (.int .i64 pindex0))), (8, (.own 49000)), (9, (.t (.int .i64 a1))), (10, (.t (.int .i64 (pl0.length : Int)))), (11, (.t (.int .i64 (pl0.length : Int))))], [(49000, (.row false 24 32 (List.map (eA 1 (T.int .u8)) a0)))]⟩ [((List.length (List.map (eA 1 (T.int .u8)) pl0) : Nat) : Int) = (pl0.length : Int)] (by kernel_rfl) ⟨(len_of rfl), trivial⟩ ?_
                    refine Nxt_norm ?_
                    obtain ⟨hq2, h⟩ := ask_dec h
                    obtain ⟨r0, hr0, h⟩ := bind_some h
                    obtain ⟨hq3, h⟩ := ask_dec h
                    refine Ab.regT hE hC hL [[], [], [], [], [.l (List.map (eA 1 (T.int .u8)) (List.take ((pl0.length : Int).toNat - (pl0.length : Int).toNat) (List.drop ((pl0.length : Int).toNat) pl0)))], [], [.r [.tree ((eA 1 (T.int .u8)) r0)] []], [], [.l (List.map (eA 1 (T.int .u8)) (a0 ++ ([r0] : List (Arr 32 Int))))]] { keep := [0, 1, 2, 8, 9], ren := [(70, 70)] } ⟨[(0, (.t ((eS 32 (eA 1 (T.int .u8))) pl0))), (1, (.t (.int .i64 pdepth0))), (2, (.t (.int .i64 pindex0))), (8, (.own 70)), (9, (.t (.int .i64 a1)))], [(70, (.row false 24 32 (List.map (eA 1 (T.int .u8)) (a0 ++ ([r0] : List (Arr 32 Int))))))]⟩ [List.take ((pl0.length : Int).toNat - (pl0.length : Int).toNat) (List.drop ((pl0.length : Int).toNat) (List.map (eA 1 (T.int .u8)) pl0)) = List.map (eA 1 (T.int .u8)) (List.take ((pl0.length : Int).toNat - (pl0.length : Int).toNat) (List.drop ((pl0.length : Int).toNat) pl0)), 0 ≤ (pl0.length : Int), (pl0.length : Int) ≤ (pl0.length : Int), (pl0.length : Int) ≤ ((List.length (List.map (eA 1 (T.int .u8)) pl0) : Nat) : Int), (sp_ref02_Full n).fn [((eS 32 (eA 1 (T.int .u8))) (List.take ((pl0.length : Int).toNat - (pl0.length : Int).toNat) (List.drop ((pl0.length : Int).toNat) pl0))), (.int .i64 a1)] = some ([.tree ((eA 1 (T.int .u8)) r0)], []), (List.length (List.map (eA 1 (T.int .u8)) a0) + List.length (List.map (eA 1 (T.int .u8)) ([r0] : List (Arr 32 Int)))) * 32 ≤ maxBytes, List.length (List.map (eA 1 (T.int .u8)) a0) + List.length (List.map (eA 1 (T.int .u8)) ([r0] : List (Arr 32 Int))) ≤ maxBytes, (List.map (eA 1 (T.int .u8)) a0) ++ (List.map (eA 1 (T.int .u8)) ([r0] : List (Arr 32 Int))) = List.map (eA 1 (T.int .u8)) (a0 ++ ([r0] : List (Arr 32 Int)))] (by kernel_rfl) ⟨(win_map rfl _ _), (Int.natCast_nonneg _), hq2, (le_len rfl hq2), (ap_ref02_Full n (by exact ⟨leT.refl _, leT.refl _, trivial⟩) hr0), (app_b rfl rfl hq3), (app_c rfl rfl (by decide) hq3), (app_of rfl rfl), trivial⟩ ?_
                    refine Blk_norm ?_
                    refine Nxt_norm ?_
                    refine Ab.regT hE hC hL [] { keep := [0, 1, 2, 8, 9], ren := [(70, 70)] } ⟨[(0, (.t ((eS 32 (eA 1 (T.int .u8))) pl0))), (1, (.t (.int .i64 pdepth0))), (2, (.t (.int .i64 pindex0))), (8, (.own 70)), (9, (.t (.int .i64 (wi (a1 + (1:Int))))))], [(70, (.row false 24 32 (List.map (eA 1 (T.int .u8)) (a0 ++ ([r0] : List (Arr 32 Int))))))]⟩ [] (by kernel_rfl) trivial ?_
                    exact LK_norm ((a0 ++ ([r0] : List (Arr 32 Int))), (wi (a1 + (1:Int)))) { fs := [], keep := [0, 1, 2, 8, 9], ren := [(70, 49000)] } h (by kernel_rfl)
                  · replace h := cond_f hb7 h
                    refine Ab.skip ?_
                    refine Nxt_norm ?_
                    obtain ⟨hq4, h⟩ := ask_dec h
                    obtain ⟨r1, hr1, h⟩ := bind_some h
                    obtain ⟨hq5, h⟩ := ask_dec h
                    refine Ab.regT hE hC hL [[], [], [], [], [.l (List.map (eA 1 (T.int .u8)) (List.take ((wi ((shl .i64 (bits .xor .i64 (shr .i64 pindex0 a1) (1:Int)) a1) + (shl .i64 (1:Int) a1))).toNat - (pl0.length : Int).toNat) (List.drop ((pl0.length : Int).toNat) pl0)))], [], [.r [.tree ((eA 1 (T.int .u8)) r1)] []], [], [.l (List.map (eA 1 (T.int .u8)) (a0 ++ ([r1] : List (Arr 32 Int))))]] { keep := [0, 1, 2, 8, 9], ren := [(70, 70)] } ⟨[(0, (.t ((eS 32 (eA 1 (T.int .u8))) pl0))), (1, (.t (.int .i64 pdepth0))), (2, (.t (.int .i64 pindex0))), (8, (.own 70)), (9, (.t (.int .i64 a1)))], [(70, (.row false 24 32 (List.map (eA 1 (T.int .u8)) (a0 ++ ([r1] : List (Arr 32 Int))))))]⟩ [List.take ((wi ((shl .i64 (bits .xor .i64 (shr .i64 pindex0 a1) (1:Int)) a1) + (shl .i64 (1:Int) a1))).toNat - (pl0.length : Int).toNat) (List.drop ((pl0.length : Int).toNat) (List.map (eA 1 (T.int .u8)) pl0)) = List.map (eA 1 (T.int .u8)) (List.take ((wi ((shl .i64 (bits .xor .i64 (shr .i64 pindex0 a1) (1:Int)) a1) + (shl .i64 (1:Int) a1))).toNat - (pl0.length : Int).toNat) (List.drop ((pl0.length : Int).toNat) pl0)), 0 ≤ (pl0.length : Int), (pl0.length : Int) ≤ (wi ((shl .i64 (bits .xor .i64 (shr .i64 pindex0 a1) (1:Int)) a1) + (shl .i64 (1:Int) a1))), (wi ((shl .i64 (bits .xor .i64 (shr .i64 pindex0 a1) (1:Int)) a1) + (shl .i64 (1:Int) a1))) ≤ ((List.length (List.map (eA 1 (T.int .u8)) pl0) : Nat) : Int), (sp_ref02_Full n).fn [((eS 32 (eA 1 (T.int .u8))) (List.take ((wi ((shl .i64 (bits .xor .i64 (shr .i64 pindex0 a1) (1:Int)) a1) + (shl .i64 (1:Int) a1))).toNat - (pl0.length : Int).toNat) (List.drop ((pl0.length : Int).toNat) pl0))), (.int .i64 a1)] = some ([.tree ((eA 1 (T.int .u8)) r1)], []), (List.length (List.map (eA 1 (T.int .u8)) a0) + List.length (List.map (eA 1 (T.int .u8)) ([r1] : List (Arr 32 Int)))) * 32 ≤ maxBytes, List.length (List.map (eA 1 (T.int .u8)) a0) + List.length (List.map (eA 1 (T.int .u8)) ([r1] : List (Arr 32 Int))) ≤ maxBytes, (List.map (eA 1 (T.int .u8)) a0) ++ (List.map (eA 1 (T.int .u8)) ([r1] : List (Arr 32 Int))) = List.map (eA 1 (T.int .u8)) (a0 ++ ([r1] : List (Arr 32 Int)))] (by kernel_rfl) ⟨(win_map rfl _ _), (Int.natCast_nonneg _), hq4, (le_len rfl (Int.not_lt.1 (of_decide_eq_false hb7))), (ap_ref02_Full n (by exact ⟨leT.refl _, leT.refl _, trivial⟩) hr1), (app_b rfl rfl hq5), (app_c rfl rfl (by decide) hq5), (app_of rfl rfl), trivial⟩ ?_
                    refine Blk_norm ?_
                    refine Nxt_norm ?_
                    refine Ab.regT hE hC hL [] { keep := [0, 1, 2, 8, 9], ren := [(70, 70)] } ⟨[(0, (.t ((eS 32 (eA 1 (T.int .u8))) pl0))), (1, (.t (.int .i64 pdepth0))), (2, (.t (.int .i64 pindex0))), (8, (.own 70)), (9, (.t (.int .i64 (wi (a1 + (1:Int))))))], [(70, (.row false 24 32 (List.map (eA 1 (T.int .u8)) (a0 ++ ([r1] : List (Arr 32 Int))))))]⟩ [] (by kernel_rfl) trivial ?_
                    exact LK_norm ((a0 ++ ([r1] : List (Arr 32 Int))), (wi (a1 + (1:Int)))) { fs := [], keep := [0, 1, 2, 8, 9], ren := [(70, 49000)] } h (by kernel_rfl)
                · replace h := cond_f hb6 h
                  refine Ab.skip ?_
                  refine Nxt_norm ?_
                  refine Ab.seq ?_
                  refine Ab.seq ?_
                  refine Ab.regT hE hC hL [[], [], [.n (pl0.length : Int)]] { keep := [0, 1, 2, 8, 9, 10, 11, 59], ren := [(49000, 49000)] } ⟨[(0, (.t ((eS 32 (eA 1 (T.int .u8))) pl0))), (1, (.t (.int .i64 pdepth0))), (2, (.t (.int .i64 pindex0))), (8, (.own 49000)), (9, (.t (.int .i64 a1))), (10, (.t (.int .i64 (shl .i64 (bits .xor .i64 (shr .i64 pindex0 a1) (1:Int)) a1)))), (11, (.t (.int .i64 (wi ((shl .i64 (bits .xor .i64 (shr .i64 pindex0 a1) (1:Int)) a1) + (shl .i64 (1:Int) a1)))))), (59, (.t (.bool (decide ((wi ((shl .i64 (bits .xor .i64 (shr .i64 pindex0 a1) (1:Int)) a1) + (shl .i64 (1:Int) a1))) > (pl0.length : Int))))))], [(49000, (.row false 24 32 (List.map (eA 1 (T.int .u8)) a0)))]⟩ [((List.length (List.map (eA 1 (T.int .u8)) pl0) : Nat) : Int) = (pl0.length : Int)] (by kernel_rfl) ⟨(len_of rfl), trivial⟩ ?_
                  refine Nxt_norm ?_
                  refine Ab.cond (b := (decide ((wi ((shl .i64 (bits .xor .i64 (shr .i64 pindex0 a1) (1:Int)) a1) + (shl .i64 (1:Int) a1))) > (pl0.length : Int)))) (by kernel_rfl) (fun hb8 => ?_) (fun hb8 => ?_)
                  · replace h := cond_t hb8 h
                    refine Ab.regT hE hC hL [[], [.n (pl0.length : Int)]] { keep := [0, 1, 2, 8, 9, 10, 11], ren := [(49000, 49000)] } ⟨[(0, (.t ((eS 32 (eA 1 (T.int .u8))) pl0))), (1, (.t (.int .i64 pdepth0))), (2, (.t (.int .i64 pindex0))), (8, (.own 49000)), (9, (.t (.int .i64 a1))), (10, (.t (.int .i64 (shl .i64 (bits .xor .i64 (shr .i64 pindex0 a1) (1:Int)) a1)))), (11, (.t (.int .i64 (pl0.length : Int))))], [(49000, (.row false 24 32 (List.map (eA 1 (T.int .u8)) a0)))]⟩ [((List.length (List.map (eA 1 (T.int .u8)) pl0) : Nat) : Int) = (pl0.length : Int)] (by kernel_rfl) ⟨(len_of rfl), trivial⟩ ?_
                    refine Nxt_norm ?_
                    obtain ⟨hq6, h⟩ := ask_dec h
                    obtain ⟨hq7, h⟩ := ask_dec h
                    obtain ⟨r2, hr2, h⟩ := bind_some h
                    obtain ⟨hq8, h⟩ := ask_dec h
                    refine Ab.regT hE hC hL [[], [], [], [], [.l (List.map (eA 1 (T.int .u8)) (List.take ((pl0.length : Int).toNat - (shl .i64 (bits .xor .i64 (shr .i64 pindex0 a1) (1:Int)) a1).toNat) (List.drop ((shl .i64 (bits .xor .i64 (shr .i64 pindex0 a1) (1:Int)) a1).toNat) pl0)))], [], [.r [.tree ((eA 1 (T.int .u8)) r2)] []], [], [.l (List.map (eA 1 (T.int .u8)) (a0 ++ ([r2] : List (Arr 32 Int))))]] { keep := [0, 1, 2, 8, 9], ren := [(70, 70)] } ⟨[(0, (.t ((eS 32 (eA 1 (T.int .u8))) pl0))), (1, (.t (.int .i64 pdepth0))), (2, (.t (.int .i64 pindex0))), (8, (.own 70)), (9, (.t (.int .i64 a1)))], [(70, (.row false 24 32 (List.map (eA 1 (T.int .u8)) (a0 ++ ([r2] : List (Arr 32 Int))))))]⟩ [List.take ((pl0.length : Int).toNat - (shl .i64 (bits .xor .i64 (shr .i64 pindex0 a1) (1:Int)) a1).toNat) (List.drop ((shl .i64 (bits .xor .i64 (shr .i64 pindex0 a1) (1:Int)) a1).toNat) (List.map (eA 1 (T.int .u8)) pl0)) = List.map (eA 1 (T.int .u8)) (List.take ((pl0.length : Int).toNat - (shl .i64 (bits .xor .i64 (shr .i64 pindex0 a1) (1:Int)) a1).toNat) (List.drop ((shl .i64 (bits .xor .i64 (shr .i64 pindex0 a1) (1:Int)) a1).toNat) pl0)), 0 ≤ (shl .i64 (bits .xor .i64 (shr .i64 pindex0 a1) (1:Int)) a1), (shl .i64 (bits .xor .i64 (shr .i64 pindex0 a1) (1:Int)) a1) ≤ (pl0.length : Int), (pl0.length : Int) ≤ ((List.length (List.map (eA 1 (T.int .u8)) pl0) : Nat) : Int), (sp_ref02_Full n).fn [((eS 32 (eA 1 (T.int .u8))) (List.take ((pl0.length : Int).toNat - (shl .i64 (bits .xor .i64 (shr .i64 pindex0 a1) (1:Int)) a1).toNat) (List.drop ((shl .i64 (bits .xor .i64 (shr .i64 pindex0 a1) (1:Int)) a1).toNat) pl0))), (.int .i64 a1)] = some ([.tree ((eA 1 (T.int .u8)) r2)], []), (List.length (List.map (eA 1 (T.int .u8)) a0) + List.length (List.map (eA 1 (T.int .u8)) ([r2] : List (Arr 32 Int)))) * 32 ≤ maxBytes, List.length (List.map (eA 1 (T.int .u8)) a0) + List.length (List.map (eA 1 (T.int .u8)) ([r2] : List (Arr 32 Int))) ≤ maxBytes, (List.map (eA 1 (T.int .u8)) a0) ++ (List.map (eA 1 (T.int .u8)) ([r2] : List (Arr 32 Int))) = List.map (eA 1 (T.int .u8)) (a0 ++ ([r2] : List (Arr 32 Int)))] (by kernel_rfl) ⟨(win_map rfl _ _), hq6, (Int.not_lt.1 (of_decide_eq_false hb6)), (le_len rfl hq7), (ap_ref02_Full n (by exact ⟨leT.refl _, leT.refl _, trivial⟩) hr2), (app_b rfl rfl hq8), (app_c rfl rfl (by decide) hq8), (app_of rfl rfl), trivial⟩ ?_
                    refine Blk_norm ?_
                    refine Nxt_norm ?_
                    refine Ab.regT hE hC hL [] { keep := [0, 1, 2, 8, 9], ren := [(70, 70)] } ⟨[(0, (.t ((eS 32 (eA 1 (T.int .u8))) pl0))), (1, (.t (.int .i64 pdepth0))), (2, (.t (.int .i64 pindex0))), (8, (.own 70)), (9, (.t (.int .i64 (wi (a1 + (1:Int))))))], [(70, (.row false 24 32 (List.map (eA 1 (T.int .u8)) (a0 ++ ([r2] : List (Arr 32 Int))))))]⟩ [] (by kernel_rfl) trivial ?_
                    exact LK_norm ((a0 ++ ([r2] : List (Arr 32 Int))), (wi (a1 + (1:Int)))) { fs := [], keep := [0, 1, 2, 8, 9], ren := [(70, 49000)] } h (by kernel_rfl)
                  · replace h := cond_f hb8 h
                    refine Ab.skip ?_
                    refine Nxt_norm ?_
                    obtain ⟨hq9, h⟩ := ask_dec h
                    obtain ⟨hq10, h⟩ := ask_dec h
                    obtain ⟨r3, hr3, h⟩ := bind_some h
                    obtain ⟨hq11, h⟩ := ask_dec h
                    refine Ab.regT hE hC hL [[], [], [], [], [.l (List.map (eA 1 (T.int .u8)) (List.take ((wi ((shl .i64 (bits .xor .i64 (shr .i64 pindex0 a1) (1:Int)) a1) + (shl .i64 (1:Int) a1))).toNat - (shl .i64 (bits .xor .i64 (shr .i64 pindex0 a1) (1:Int)) a1).toNat) (List.drop ((shl .i64 (bits .xor .i64 (shr .i64 pindex0 a1) (1:Int)) a1).toNat) pl0)))], [], [.r [.tree ((eA 1 (T.int .u8)) r3)] []], [], [.l (List.map (eA 1 (T.int .u8)) (a0 ++ ([r3] : List (Arr 32 Int))))]] { keep := [0, 1, 2, 8, 9], ren := [(70, 70)] } ⟨[(0, (.t ((eS 32 (eA 1 (T.int .u8))) pl0))), (1, (.t (.int .i64 pdepth0))), (2, (.t (.int .i64 pindex0))), (8, (.own 70)), (9, (.t (.int .i64 a1)))], [(70, (.row false 24 32 (List.map (eA 1 (T.int .u8)) (a0 ++ ([r3] : List (Arr 32 Int))))))]⟩ [List.take ((wi ((shl .i64 (bits .xor .i64 (shr .i64 pindex0 a1) (1:Int)) a1) + (shl .i64 (1:Int) a1))).toNat - (shl .i64 (bits .xor .i64 (shr .i64 pindex0 a1) (1:Int)) a1).toNat) (List.drop ((shl .i64 (bits .xor .i64 (shr .i64 pindex0 a1) (1:Int)) a1).toNat) (List.map (eA 1 (T.int .u8)) pl0)) = List.map (eA 1 (T.int .u8)) (List.take ((wi ((shl .i64 (bits .xor .i64 (shr .i64 pindex0 a1) (1:Int)) a1) + (shl .i64 (1:Int) a1))).toNat - (shl .i64 (bits .xor .i64 (shr .i64 pindex0 a1) (1:Int)) a1).toNat) (List.drop ((shl .i64 (bits .xor .i64 (shr .i64 pindex0 a1) (1:Int)) a1).toNat) pl0)), 0 ≤ (shl .i64 (bits .xor .i64 (shr .i64 pindex0 a1) (1:Int)) a1), (shl .i64 (bits .xor .i64 (shr .i64 pindex0 a1) (1:Int)) a1) ≤ (wi ((shl .i64 (bits .xor .i64 (shr .i64 pindex0 a1) (1:Int)) a1) + (shl .i64 (1:Int) a1))), (wi ((shl .i64 (bits .xor .i64 (shr .i64 pindex0 a1) (1:Int)) a1) + (shl .i64 (1:Int) a1))) ≤ ((List.length (List.map (eA 1 (T.int .u8)) pl0) : Nat) : Int), (sp_ref02_Full n).fn [((eS 32 (eA 1 (T.int .u8))) (List.take ((wi ((shl .i64 (bits .xor .i64 (shr .i64 pindex0 a1) (1:Int)) a1) + (shl .i64 (1:Int) a1))).toNat - (shl .i64 (bits .xor .i64 (shr .i64 pindex0 a1) (1:Int)) a1).toNat) (List.drop ((shl .i64 (bits .xor .i64 (shr .i64 pindex0 a1) (1:Int)) a1).toNat) pl0))), (.int .i64 a1)] = some ([.tree ((eA 1 (T.int .u8)) r3)], []), (List.length (List.map (eA 1 (T.int .u8)) a0) + List.length (List.map (eA 1 (T.int .u8)) ([r3] : List (Arr 32 Int)))) * 32 ≤ maxBytes, List.length (List.map (eA 1 (T.int .u8)) a0) + List.length (List.map (eA 1 (T.int .u8)) ([r3] : List (Arr 32 Int))) ≤ maxBytes, (List.map (eA 1 (T.int .u8)) a0) ++ (List.map (eA 1 (T.int .u8)) ([r3] : List (Arr 32 Int))) = List.map (eA 1 (T.int .u8)) (a0 ++ ([r3] : List (Arr 32 Int)))] (by kernel_rfl) ⟨(win_map rfl _ _), hq9, hq10, (le_len rfl (Int.not_lt.1 (of_decide_eq_false hb8))), (ap_ref02_Full n (by exact ⟨leT.refl _, leT.refl _, trivial⟩) hr3), (app_b rfl rfl hq11), (app_c rfl rfl (by decide) hq11), (app_of rfl rfl), trivial⟩ ?_
                    refine Blk_norm ?_
                    refine Nxt_norm ?_
                    refine Ab.regT hE hC hL [] { keep := [0, 1, 2, 8, 9], ren := [(70, 70)] } ⟨[(0, (.t ((eS 32 (eA 1 (T.int .u8))) pl0))), (1, (.t (.int .i64 pdepth0))), (2, (.t (.int .i64 pindex0))), (8, (.own 70)), (9, (.t (.int .i64 (wi (a1 + (1:Int))))))], [(70, (.row false 24 32 (List.map (eA 1 (T.int .u8)) (a0 ++ ([r3] : List (Arr 32 Int))))))]⟩ [] (by kernel_rfl) trivial ?_
                    exact LK_norm ((a0 ++ ([r3] : List (Arr 32 Int))), (wi (a1 + (1:Int)))) { fs := [], keep := [0, 1, 2, 8, 9], ren := [(70, 49000)] } h (by kernel_rfl)
              · replace h := cond_f hb5 h
                refine Ab.exit ?_
                refine Nxt_exit ?_
                exact LK_exit a0 h (PX_mk { fs := [], keep := [8], ren := [(49000, 49000)] } (by kernel_rfl))
            · refine Nxt_norm ?_
              refine Ab.seq ?_
              refine Ab.regT hE hC hL [] { keep := [6, 7], ren := [(49000, 49000)] } ⟨[(6, (.own 49000)), (7, (.t (.bool true)))], [(49000, (.row false 24 32 (List.map (eA 1 (T.int .u8)) x0)))]⟩ [] (by kernel_rfl) trivial ?_
              refine Nxt_norm ?_
              refine Ab.ret ?_
              obtain rfl := Option.some.inj h
              exact End_ret (doneO_ok (md := [true, false]) (by kernel_rfl))
def ea_merkle_Verify (a : (Arr 32 Int) × (List (Arr 32 Int)) × Int × (Arr 32 Int)) : List T := [(eA 1 (T.int .u8)) a.1, (eS 32 (eA 1 (T.int .u8))) a.2.1, (T.int .u64) a.2.2.1, (eA 1 (T.int .u8)) a.2.2.2]
def er_merkle_Verify (r : Bool) : List RR × List T := ([.tree (T.bool r)], [])
noncomputable def sp_merkle_Verify (n : Nat) : Spec := specP [] true ea_merkle_Verify (fun a => f_merkle_Verify n a.1 a.2.1 a.2.2.1 a.2.2.2) (fun _ r => er_merkle_Verify r)
theorem ap_merkle_Verify (n : Nat) {ts : List T} {a0 : (Arr 32 Int)} {a1 : (List (Arr 32 Int))} {a2 : Int} {a3 : (Arr 32 Int)} {r : Bool} (hle : leTs ts [(eA 1 (T.int .u8)) a0, (eS 32 (eA 1 (T.int .u8))) a1, (T.int .u64) a2, (eA 1 (T.int .u8)) a3]) (h : f_merkle_Verify n a0 a1 a2 a3 = some r) : (sp_merkle_Verify n).fn ts = some ([.tree (T.bool r)], []) :=
  specP_fn (a := (a0, a1, a2, a3)) (InjA.cons (inj_eA (inj_int _)) (InjA.cons (inj_eS (inj_eA (inj_int _))) (InjA.cons (inj_int _) (InjA.one (inj_eA (inj_int _)))))) hle h
noncomputable def E_merkle_Verify (n : Nat) : Env := { ty := tyT, glob := glob, fns := get [(16, sp_digest_Pair n)], ntmps := 37 }
theorem eok_merkle_Verify (n : Nat) : EnvOK Tryd.prog (E_merkle_Verify n) := ⟨tys_ok tys_chk, prog_mixed, (fns_cons (ok_digest_Pair n) fns_nil)⟩
def K_merkle_Verify (n : Nat) (pleaf0 : (Arr 32 Int)) (pbranch0 : (List (Arr 32 Int))) (pindex0 : Int) (proot0 : (Arr 32 Int)) (r : Bool) : St → Prop := Done (E_merkle_Verify n) Tryd.f43.results.toList [] (ea_merkle_Verify (pleaf0, pbranch0, pindex0, proot0)) (er_merkle_Verify r).1 (er_merkle_Verify r).2
set_option maxRecDepth 100000 in
set_option maxHeartbeats 4000000 in
theorem ok_merkle_Verify (n : Nat) : SpecOK Tryd.prog glob 43 (sp_merkle_Verify n) := by
  refine specP_ok (fn := Tryd.f43) (eok_merkle_Verify n) (by kernel_rfl) rfl (by decide +kernel) (by kernel_rfl) (fun _ => by show 4 ≤ 37; omega) (fun _ _ r => ⟨(rrf_tree ((fun _ => rfl) _) rrf_nil), flats_nil⟩) ?_
  rintro ⟨pleaf0, pbranch0, pindex0, proot0⟩ r h C hL hC
  have hE := eok_merkle_Verify n
  replace hL : ∀ n g, (n, g) ∈ C.lent → n ∈ ([] : List Nat) := hL
  replace h : f_merkle_Verify n pleaf0 pbranch0 pindex0 proot0 = some r := h
  show Ab _ _ _ _ _ (End (K_merkle_Verify n pleaf0 pbranch0 pindex0 proot0 r))
  unfold f_merkle_Verify at h
  refine Ab.seq ?_
  refine Ab.regT hE hC hL [] { keep := [1, 2, 4, 7], ren := [(4, 4), (7, 7)] } ⟨[(1, (.t ((eS 32 (eA 1 (T.int .u8))) pbranch0))), (2, (.t (.int .u64 pindex0))), (4, (.ref 4 [] (0))), (7, (.ref 7 [] (0)))], [(4, (.var false 25 (.t ((eA 1 (T.int .u8)) pleaf0)))), (7, (.var false 25 (.t ((eA 1 (T.int .u8)) proot0))))]⟩ [] (by kernel_rfl) trivial ?_
  refine Nxt_norm ?_
  refine Ab.seq ?_
  refine Ab.seq ?_
  refine Ab.regT hE hC hL [[], [.n (pbranch0.length : Int)]] { keep := [2, 4, 7, 11, 12, 13], ren := [(4, 4), (7, 7)] } ⟨[(2, (.t (.int .u64 pindex0))), (4, (.ref 4 [] (0))), (7, (.ref 7 [] (0))), (11, (.t ((eS 32 (eA 1 (T.int .u8))) pbranch0))), (12, (.t (.int .i64 (pbranch0.length : Int)))), (13, (.t (.int .i64 (0:Int))))], [(4, (.var false 25 (.t ((eA 1 (T.int .u8)) pleaf0)))), (7, (.var false 25 (.t ((eA 1 (T.int .u8)) proot0))))]⟩ [((List.length (List.map (eA 1 (T.int .u8)) pbranch0) : Nat) : Int) = (pbranch0.length : Int)] (by kernel_rfl) ⟨(len_of rfl), trivial⟩ ?_
  refine Nxt_norm ?_
  obtain ⟨x0, hx0, h⟩ := bind_some h
  refine Ab.loopX0 (fun ((a0, a1) : ((Arr 32 Int) × Int)) => (⟨[(2, (.t (.int .u64 pindex0))), (4, (.ref 49000 [] (0))), (7, (.ref 49001 [] (0))), (11, (.t ((eS 32 (eA 1 (T.int .u8))) pbranch0))), (12, (.t (.int .i64 (pbranch0.length : Int)))), (13, (.t (.int .i64 a1)))], [(49000, (.var false 25 (.t ((eA 1 (T.int .u8)) a0)))), (49001, (.var false 25 (.t ((eA 1 (T.int .u8)) proot0))))]⟩ : St)) (fun (a2 : (Arr 32 Int)) => (⟨[(4, (.ref 49000 [] (0))), (7, (.ref 49001 [] (0)))], [(49000, (.var false 25 (.t ((eA 1 (T.int .u8)) a2)))), (49001, (.var false 25 (.t ((eA 1 (T.int .u8)) proot0))))]⟩ : St)) { fs := [], keep := [2, 4, 7, 11, 12, 13], ren := [(4, 49000), (7, 49001)] } (pleaf0, (0:Int)) hC hL hx0 (by kernel_rfl) ?_ ?_
  · rintro ⟨a0, a1⟩ o0 h
    replace h : f_merkle_Verify_b0 n pbranch0 pindex0 a0 a1 = some o0 := h
    unfold f_merkle_Verify_b0 at h
    refine Ab.seq ?_
    refine Ab.regT hE hC hL [] { keep := [2, 4, 7, 11, 12, 13, 14], ren := [(49000, 49000), (49001, 49001)] } ⟨[(2, (.t (.int .u64 pindex0))), (4, (.ref 49000 [] (0))), (7, (.ref 49001 [] (0))), (11, (.t ((eS 32 (eA 1 (T.int .u8))) pbranch0))), (12, (.t (.int .i64 (pbranch0.length : Int)))), (13, (.t (.int .i64 a1))), (14, (.t (.bool (decide (a1 < (pbranch0.length : Int))))))], [(49000, (.var false 25 (.t ((eA 1 (T.int .u8)) a0)))), (49001, (.var false 25 (.t ((eA 1 (T.int .u8)) proot0))))]⟩ [] (by kernel_rfl) trivial ?_
    refine Nxt_norm ?_
    refine Ab.seq ?_
    refine Ab.cond (b := (decide (a1 < (pbranch0.length : Int)))) (by kernel_rfl) (fun hb0 => ?_) (fun hb0 => ?_)
    · replace h := cond_t hb0 h
      refine Ab.skip ?_
      refine Nxt_norm ?_
      refine Ab.seq ?_
      refine Ab.block ?_
      refine Ab.seq ?_
      obtain ⟨hq0, h⟩ := ask_dec h
      obtain ⟨v0, hv0, h⟩ := bind_some h
      refine Ab.regT hE hC hL [[], [.t ((eA 1 (T.int .u8)) v0)]] { keep := [2, 4, 7, 9, 10, 11, 12, 13], ren := [(10, 10), (49000, 49000), (49001, 49001)] } ⟨[(2, (.t (.int .u64 pindex0))), (4, (.ref 49000 [] (0))), (7, (.ref 49001 [] (0))), (9, (.t (.int .i64 a1))), (10, (.ref 10 [] (0))), (11, (.t ((eS 32 (eA 1 (T.int .u8))) pbranch0))), (12, (.t (.int .i64 (pbranch0.length : Int)))), (13, (.t (.int .i64 a1)))], [(10, (.var false 25 (.t ((eA 1 (T.int .u8)) v0)))), (49000, (.var false 25 (.t ((eA 1 (T.int .u8)) a0)))), (49001, (.var false 25 (.t ((eA 1 (T.int .u8)) proot0))))]⟩ [0 ≤ a1, (List.map (eA 1 (T.int .u8)) pbranch0)[a1.toNat]? = some ((eA 1 (T.int .u8)) v0)] (by kernel_rfl) ⟨hq0, (at_map hv0), trivial⟩ ?_
      refine Nxt_norm ?_
      refine Ab.seq ?_
      rcases Bool.eq_false_or_eq_true (decide (a1 < (64:Int))) with hb1 | hb1
      · replace h := cond_t hb1 h
        refine Ab.regT hE hC hL [[], [], [.b true], [], [], [.c]] { keep := [2, 4, 7, 10, 11, 12, 13, 26], ren := [(10, 10), (49000, 49000), (49001, 49001)] } ⟨[(2, (.t (.int .u64 pindex0))), (4, (.ref 49000 [] (0))), (7, (.ref 49001 [] (0))), (10, (.ref 10 [] (0))), (11, (.t ((eS 32 (eA 1 (T.int .u8))) pbranch0))), (12, (.t (.int .i64 (pbranch0.length : Int)))), (13, (.t (.int .i64 a1))), (26, (.t (.bool ((bits .and .u64 (shr .u64 pindex0 a1) (1:Int)) != (0:Int)))))], [(10, (.var false 25 (.t ((eA 1 (T.int .u8)) v0)))), (49000, (.var false 25 (.t ((eA 1 (T.int .u8)) a0)))), (49001, (.var false 25 (.t ((eA 1 (T.int .u8)) proot0))))]⟩ [(decide (a1 < (64:Int))) = true, ¬ a1 < 0] (by kernel_rfl) ⟨hb1, (Int.not_lt.2 hq0), trivial⟩ ?_
        refine Nxt_norm ?_
        refine Ab.cond (b := ((bits .and .u64 (shr .u64 pindex0 a1) (1:Int)) != (0:Int))) (by kernel_rfl) (fun hb2 => ?_) (fun hb2 => ?_)
        · replace h := cond_t hb2 h
          obtain ⟨r0, hr0, h⟩ := bind_some h
          refine Ab.regT hE hC hL [[], [], [.r [.tree ((eA 1 (T.int .u8)) r0)] []]] { keep := [2, 4, 7, 11, 12, 13], ren := [(49000, 49000), (49001, 49001)] } ⟨[(2, (.t (.int .u64 pindex0))), (4, (.ref 49000 [] (0))), (7, (.ref 49001 [] (0))), (11, (.t ((eS 32 (eA 1 (T.int .u8))) pbranch0))), (12, (.t (.int .i64 (pbranch0.length : Int)))), (13, (.t (.int .i64 a1)))], [(49000, (.var false 25 (.t ((eA 1 (T.int .u8)) r0)))), (49001, (.var false 25 (.t ((eA 1 (T.int .u8)) proot0))))]⟩ [(sp_digest_Pair n).fn [((eA 1 (T.int .u8)) v0), ((eA 1 (T.int .u8)) a0)] = some ([.tree ((eA 1 (T.int .u8)) r0)], [])] (by kernel_rfl) ⟨(ap_digest_Pair n (by exact ⟨leT.refl _, leT.refl _, trivial⟩) hr0), trivial⟩ ?_
          refine Blk_norm ?_
          refine Nxt_norm ?_
          refine Ab.regT hE hC hL [] { keep := [2, 4, 7, 11, 12, 13], ren := [(49000, 49000), (49001, 49001)] } ⟨[(2, (.t (.int .u64 pindex0))), (4, (.ref 49000 [] (0))), (7, (.ref 49001 [] (0))), (11, (.t ((eS 32 (eA 1 (T.int .u8))) pbranch0))), (12, (.t (.int .i64 (pbranch0.length : Int)))), (13, (.t (.int .i64 (wi (a1 + (1:Int))))))], [(49000, (.var false 25 (.t ((eA 1 (T.int .u8)) r0)))), (49001, (.var false 25 (.t ((eA 1 (T.int .u8)) proot0))))]⟩ [] (by kernel_rfl) trivial ?_
          exact LK_norm (r0, (wi (a1 + (1:Int)))) { fs := [], keep := [2, 4, 7, 11, 12, 13], ren := [(49000, 49000), (49001, 49001)] } h (by kernel_rfl)
        · replace h := cond_f hb2 h
          obtain ⟨r1, hr1, h⟩ := bind_some h
          refine Ab.regT hE hC hL [[], [], [.r [.tree ((eA 1 (T.int .u8)) r1)] []]] { keep := [2, 4, 7, 11, 12, 13], ren := [(49000, 49000), (49001, 49001)] } ⟨[(2, (.t (.int .u64 pindex0))), (4, (.ref 49000 [] (0))), (7, (.ref 49001 [] (0))), (11, (.t ((eS 32 (eA 1 (T.int .u8))) pbranch0))), (12, (.t (.int .i64 (pbranch0.length : Int)))), (13, (.t (.int .i64 a1)))], [(49000, (.var false 25 (.t ((eA 1 (T.int .u8)) r1)))), (49001, (.var false 25 (.t ((eA 1 (T.int .u8)) proot0))))]⟩ [(sp_digest_Pair n).fn [((eA 1 (T.int .u8)) a0), ((eA 1 (T.int .u8)) v0)] = some ([.tree ((eA 1 (T.int .u8)) r1)], [])] (by kernel_rfl) ⟨(ap_digest_Pair n (by exact ⟨leT.refl _, leT.refl _, trivial⟩) hr1), trivial⟩ ?_
          refine Blk_norm ?_
          refine Nxt_norm ?_
          refine Ab.regT hE hC hL [] { keep := [2, 4, 7, 11, 12, 13], ren := [(49000, 49000), (49001, 49001)] } ⟨[(2, (.t (.int .u64 pindex0))), (4, (.ref 49000 [] (0))), (7, (.ref 49001 [] (0))), (11, (.t ((eS 32 (eA 1 (T.int .u8))) pbranch0))), (12, (.t (.int .i64 (pbranch0.length : Int)))), (13, (.t (.int .i64 (wi (a1 + (1:Int))))))], [(49000, (.var false 25 (.t ((eA 1 (T.int .u8)) r1)))), (49001, (.var false 25 (.t ((eA 1 (T.int .u8)) proot0))))]⟩ [] (by kernel_rfl) trivial ?_
          exact LK_norm (r1, (wi (a1 + (1:Int)))) { fs := [], keep := [2, 4, 7, 11, 12, 13], ren := [(49000, 49000), (49001, 49001)] } h (by kernel_rfl)
      · replace h := cond_f hb1 h
        refine Ab.regT hE hC hL [[], [], [.b false]] { keep := [2, 4, 7, 10, 11, 12, 13, 26], ren := [(10, 10), (49000, 49000), (49001, 49001)] } ⟨[(2, (.t (.int .u64 pindex0))), (4, (.ref 49000 [] (0))), (7, (.ref 49001 [] (0))), (10, (.ref 10 [] (0))), (11, (.t ((eS 32 (eA 1 (T.int .u8))) pbranch0))), (12, (.t (.int .i64 (pbranch0.length : Int)))), (13, (.t (.int .i64 a1))), (26, (.t (.bool false)))], [(10, (.var false 25 (.t ((eA 1 (T.int .u8)) v0)))), (49000, (.var false 25 (.t ((eA 1 (T.int .u8)) a0)))), (49001, (.var false 25 (.t ((eA 1 (T.int .u8)) proot0))))]⟩ [(decide (a1 < (64:Int))) = false] (by kernel_rfl) ⟨hb1, trivial⟩ ?_
        refine Nxt_norm ?_
        refine Ab.cond (b := false) (by kernel_rfl) (fun hb => Bool.noConfusion hb) (fun _ => ?_)
        obtain ⟨r2, hr2, h⟩ := bind_some h
        refine Ab.regT hE hC hL [[], [], [.r [.tree ((eA 1 (T.int .u8)) r2)] []]] { keep := [2, 4, 7, 11, 12, 13], ren := [(49000, 49000), (49001, 49001)] } ⟨[(2, (.t (.int .u64 pindex0))), (4, (.ref 49000 [] (0))), (7, (.ref 49001 [] (0))), (11, (.t ((eS 32 (eA 1 (T.int .u8))) pbranch0))), (12, (.t (.int .i64 (pbranch0.length : Int)))), (13, (.t (.int .i64 a1)))], [(49000, (.var false 25 (.t ((eA 1 (T.int .u8)) r2)))), (49001, (.var false 25 (.t ((eA 1 (T.int .u8)) proot0))))]⟩ [(sp_digest_Pair n).fn [((eA 1 (T.int .u8)) a0), ((eA 1 (T.int .u8)) v0)] = some ([.tree ((eA 1 (T.int .u8)) r2)], [])] (by kernel_rfl) ⟨(ap_digest_Pair n (by exact ⟨leT.refl _, leT.refl _, trivial⟩) hr2), trivial⟩ ?_
        refine Blk_norm ?_
        refine Nxt_norm ?_
        refine Ab.regT hE hC hL [] { keep := [2, 4, 7, 11, 12, 13], ren := [(49000, 49000), (49001, 49001)] } ⟨[(2, (.t (.int .u64 pindex0))), (4, (.ref 49000 [] (0))), (7, (.ref 49001 [] (0))), (11, (.t ((eS 32 (eA 1 (T.int .u8))) pbranch0))), (12, (.t (.int .i64 (pbranch0.length : Int)))), (13, (.t (.int .i64 (wi (a1 + (1:Int))))))], [(49000, (.var false 25 (.t ((eA 1 (T.int .u8)) r2)))), (49001, (.var false 25 (.t ((eA 1 (T.int .u8)) proot0))))]⟩ [] (by kernel_rfl) trivial ?_
        exact LK_norm (r2, (wi (a1 + (1:Int)))) { fs := [], keep := [2, 4, 7, 11, 12, 13], ren := [(49000, 49000), (49001, 49001)] } h (by kernel_rfl)
    · replace h := cond_f hb0 h
      refine Ab.exit ?_
      refine Nxt_exit ?_
      exact LK_exit a0 h (PX_mk { fs := [], keep := [4, 7], ren := [(49000, 49000), (49001, 49001)] } (by kernel_rfl))
  · refine Nxt_norm ?_
    refine Ab.seq ?_
    refine Ab.regT hE hC hL [[], [], [.b (decide (x0 = proot0))]] { keep := [8], ren := [] } ⟨[(8, (.t (.bool (decide (x0 = proot0)))))], []⟩ [binOp (E_merkle_Verify n) .eql 25 (.t ((eA 1 (T.int .u8)) x0)) (.t ((eA 1 (T.int .u8)) proot0)) = some (.bool (decide (x0 = proot0)))] (by kernel_rfl) ⟨(beql_25 _ rfl _ _), trivial⟩ ?_
    refine Nxt_norm ?_
    refine Ab.ret ?_
    obtain rfl := Option.some.inj h
    exact End_ret (doneO_ok (md := [false]) (by kernel_rfl))
def ea_ref02_Verify (a : (Arr 32 Int) × (List (Arr 32 Int)) × Int × (Arr 32 Int)) : List T := [(eA 1 (T.int .u8)) a.1, (eS 32 (eA 1 (T.int .u8))) a.2.1, (T.int .u64) a.2.2.1, (eA 1 (T.int .u8)) a.2.2.2]
def er_ref02_Verify (r : Bool) : List RR × List T := ([.tree (T.bool r)], [])
noncomputable def sp_ref02_Verify (n : Nat) : Spec := specP [] true ea_ref02_Verify (fun a => f_ref02_Verify n a.1 a.2.1 a.2.2.1 a.2.2.2) (fun _ r => er_ref02_Verify r)
theorem ap_ref02_Verify (n : Nat) {ts : List T} {a0 : (Arr 32 Int)} {a1 : (List (Arr 32 Int))} {a2 : Int} {a3 : (Arr 32 Int)} {r : Bool} (hle : leTs ts [(eA 1 (T.int .u8)) a0, (eS 32 (eA 1 (T.int .u8))) a1, (T.int .u64) a2, (eA 1 (T.int .u8)) a3]) (h : f_ref02_Verify n a0 a1 a2 a3 = some r) : (sp_ref02_Verify n).fn ts = some ([.tree (T.bool r)], []) :=
  specP_fn (a := (a0, a1, a2, a3)) (InjA.cons (inj_eA (inj_int _)) (InjA.cons (inj_eS (inj_eA (inj_int _))) (InjA.cons (inj_int _) (InjA.one (inj_eA (inj_int _)))))) hle h
noncomputable def E_ref02_Verify (n : Nat) : Env := { ty := tyT, glob := glob, fns := get [(17, sp_ref02_Pair n)], ntmps := 36 }
theorem eok_ref02_Verify (n : Nat) : EnvOK Tryd.prog (E_ref02_Verify n) := ⟨tys_ok tys_chk, prog_mixed, (fns_cons (ok_ref02_Pair n) fns_nil)⟩
def K_ref02_Verify (n : Nat) (pleaf0 : (Arr 32 Int)) (pbranch0 : (List (Arr 32 Int))) (pindex0 : Int) (proot0 : (Arr 32 Int)) (r : Bool) : St → Prop := Done (E_ref02_Verify n) Tryd.f44.results.toList [] (ea_ref02_Verify (pleaf0, pbranch0, pindex0, proot0)) (er_ref02_Verify r).1 (er_ref02_Verify r).2
set_option maxRecDepth 100000 in
set_option maxHeartbeats 4000000 in
theorem ok_ref02_Verify (n : Nat) : SpecOK Tryd.prog glob 44 (sp_ref02_Verify n) := by
  refine specP_ok (fn := Tryd.f44) (eok_ref02_Verify n) (by kernel_rfl) rfl (by decide +kernel) (by kernel_rfl) (fun _ => by show 4 ≤ 36; omega) (fun _ _ r => ⟨(rrf_tree ((fun _ => rfl) _) rrf_nil), flats_nil⟩) ?_
  rintro ⟨pleaf0, pbranch0, pindex0, proot0⟩ r h C hL hC
  have hE := eok_ref02_Verify n
  replace hL : ∀ n g, (n, g) ∈ C.lent → n ∈ ([] : List Nat) := hL
  replace h : f_ref02_Verify n pleaf0 pbranch0 pindex0 proot0 = some r := h
  show Ab _ _ _ _ _ (End (K_ref02_Verify n pleaf0 pbranch0 pindex0 proot0 r))
  unfold f_ref02_Verify at h
  refine Ab.seq ?_
  refine Ab.regT hE hC hL [] { keep := [1, 2, 4, 7], ren := [(4, 4), (7, 7)] } ⟨[(1, (.t ((eS 32 (eA 1 (T.int .u8))) pbranch0))), (2, (.t (.int .u64 pindex0))), (4, (.ref 4 [] (0))), (7, (.ref 7 [] (0)))], [(4, (.var false 24 (.t ((eA 1 (T.int .u8)) pleaf0)))), (7, (.var false 24 (.t ((eA 1 (T.int .u8)) proot0))))]⟩ [] (by kernel_rfl) trivial ?_
  refine Nxt_norm ?_
  refine Ab.seq ?_
  refine Ab.seq ?_
  refine Ab.regT hE hC hL [] { keep := [1, 2, 4, 7, 9], ren := [(4, 4), (7, 7)] } ⟨[(1, (.t ((eS 32 (eA 1 (T.int .u8))) pbranch0))), (2, (.t (.int .u64 pindex0))), (4, (.ref 4 [] (0))), (7, (.ref 7 [] (0))), (9, (.t (.int .i64 (0:Int))))], [(4, (.var false 24 (.t ((eA 1 (T.int .u8)) pleaf0)))), (7, (.var false 24 (.t ((eA 1 (T.int .u8)) proot0))))]⟩ [] (by kernel_rfl) trivial ?_
  refine Nxt_norm ?_
  obtain ⟨x0, hx0, h⟩ := bind_some h
  refine Ab.loopX0 (fun ((a0, a1, a2) : (Int × (Arr 32 Int) × Int)) => (⟨[(1, (.t ((eS 32 (eA 1 (T.int .u8))) pbranch0))), (2, (.t (.int .u64 a0))), (4, (.ref 49000 [] (0))), (7, (.ref 49001 [] (0))), (9, (.t (.int .i64 a2)))], [(49000, (.var false 24 (.t ((eA 1 (T.int .u8)) a1)))), (49001, (.var false 24 (.t ((eA 1 (T.int .u8)) proot0))))]⟩ : St)) (fun (a3 : (Arr 32 Int)) => (⟨[(4, (.ref 49000 [] (0))), (7, (.ref 49001 [] (0)))], [(49000, (.var false 24 (.t ((eA 1 (T.int .u8)) a3)))), (49001, (.var false 24 (.t ((eA 1 (T.int .u8)) proot0))))]⟩ : St)) { fs := [], keep := [1, 2, 4, 7, 9], ren := [(4, 49000), (7, 49001)] } (pindex0, pleaf0, (0:Int)) hC hL hx0 (by kernel_rfl) ?_ ?_
  · rintro ⟨a0, a1, a2⟩ o0 h
    replace h : f_ref02_Verify_b0 n pbranch0 a0 a1 a2 = some o0 := h
    unfold f_ref02_Verify_b0 at h
    refine Ab.seq ?_
    refine Ab.seq ?_
    refine Ab.regT hE hC hL [[], [], [.n (pbranch0.length : Int)]] { keep := [1, 2, 4, 7, 9, 13], ren := [(49000, 49000), (49001, 49001)] } ⟨[(1, (.t ((eS 32 (eA 1 (T.int .u8))) pbranch0))), (2, (.t (.int .u64 a0))), (4, (.ref 49000 [] (0))), (7, (.ref 49001 [] (0))), (9, (.t (.int .i64 a2))), (13, (.t (.bool (decide (a2 < (pbranch0.length : Int))))))], [(49000, (.var false 24 (.t ((eA 1 (T.int .u8)) a1)))), (49001, (.var false 24 (.t ((eA 1 (T.int .u8)) proot0))))]⟩ [((List.length (List.map (eA 1 (T.int .u8)) pbranch0) : Nat) : Int) = (pbranch0.length : Int)] (by kernel_rfl) ⟨(len_of rfl), trivial⟩ ?_
    refine Nxt_norm ?_
    refine Ab.cond (b := (decide (a2 < (pbranch0.length : Int)))) (by kernel_rfl) (fun hb0 => ?_) (fun hb0 => ?_)
    · replace h := cond_t hb0 h
      refine Ab.skip ?_
      refine Nxt_norm ?_
      refine Ab.seq ?_
      refine Ab.block ?_
      refine Ab.seq ?_
      refine Ab.seq ?_
      refine Ab.regT hE hC hL [] { keep := [1, 2, 4, 7, 9, 18], ren := [(49000, 49000), (49001, 49001)] } ⟨[(1, (.t ((eS 32 (eA 1 (T.int .u8))) pbranch0))), (2, (.t (.int .u64 a0))), (4, (.ref 49000 [] (0))), (7, (.ref 49001 [] (0))), (9, (.t (.int .i64 a2))), (18, (.t (.bool ((a0.tmod (2:Int)) == (1:Int)))))], [(49000, (.var false 24 (.t ((eA 1 (T.int .u8)) a1)))), (49001, (.var false 24 (.t ((eA 1 (T.int .u8)) proot0))))]⟩ [] (by kernel_rfl) trivial ?_
      refine Nxt_norm ?_
      refine Ab.cond (b := ((a0.tmod (2:Int)) == (1:Int))) (by kernel_rfl) (fun hb1 => ?_) (fun hb1 => ?_)
      · replace h := cond_t hb1 h
        obtain ⟨hq0, h⟩ := ask_dec h
        obtain ⟨v0, hv0, h⟩ := bind_some h
        obtain ⟨r0, hr0, h⟩ := bind_some h
        refine Ab.regA hE hC hL [[], [], [.t ((eA 1 (T.int .u8)) v0)], [], [], [.r [.tree ((eA 1 (T.int .u8)) r0)] []]] { keep := [1, 2, 4, 7, 9], ren := [(49000, 49000), (49001, 49001)] } ⟨[(1, (.t ((eS 32 (eA 1 (T.int .u8))) pbranch0))), (2, (.t (.int .u64 a0))), (4, (.ref 49000 [] (0))), (7, (.ref 49001 [] (0))), (9, (.t (.int .i64 a2)))], [(49000, (.var false 24 (.t ((eA 1 (T.int .u8)) r0)))), (49001, (.var false 24 (.t ((eA 1 (T.int .u8)) proot0))))]⟩ [0 ≤ a2, (List.map (eA 1 (T.int .u8)) pbranch0)[a2.toNat]? = some ((eA 1 (T.int .u8)) v0), (sp_ref02_Pair n).fn [((eA 1 (T.int .u8)) v0), ((eA 1 (T.int .u8)) a1)] = some ([.tree ((eA 1 (T.int .u8)) r0)], [])] (by kernel_rfl) (by kernel_rfl) ⟨hq0, (at_map hv0), (ap_ref02_Pair n (by exact ⟨leT.refl _, leT.refl _, trivial⟩) hr0), trivial⟩ ?_
        refine Nxt_norm ?_
        refine Ab.regT hE hC hL [] { keep := [1, 2, 4, 7, 9], ren := [(49000, 49000), (49001, 49001)] } ⟨[(1, (.t ((eS 32 (eA 1 (T.int .u8))) pbranch0))), (2, (.t (.int .u64 (w64 (a0.tdiv (2:Int)))))), (4, (.ref 49000 [] (0))), (7, (.ref 49001 [] (0))), (9, (.t (.int .i64 a2)))], [(49000, (.var false 24 (.t ((eA 1 (T.int .u8)) r0)))), (49001, (.var false 24 (.t ((eA 1 (T.int .u8)) proot0))))]⟩ [] (by kernel_rfl) trivial ?_
        refine Blk_norm ?_
        refine Nxt_norm ?_
        refine Ab.regT hE hC hL [] { keep := [1, 2, 4, 7, 9], ren := [(49000, 49000), (49001, 49001)] } ⟨[(1, (.t ((eS 32 (eA 1 (T.int .u8))) pbranch0))), (2, (.t (.int .u64 (w64 (a0.tdiv (2:Int)))))), (4, (.ref 49000 [] (0))), (7, (.ref 49001 [] (0))), (9, (.t (.int .i64 (wi (a2 + (1:Int))))))], [(49000, (.var false 24 (.t ((eA 1 (T.int .u8)) r0)))), (49001, (.var false 24 (.t ((eA 1 (T.int .u8)) proot0))))]⟩ [] (by kernel_rfl) trivial ?_
        exact LK_norm ((w64 (a0.tdiv (2:Int))), r0, (wi (a2 + (1:Int)))) { fs := [], keep := [1, 2, 4, 7, 9], ren := [(49000, 49000), (49001, 49001)] } h (by kernel_rfl)
      · replace h := cond_f hb1 h
        obtain ⟨hq1, h⟩ := ask_dec h
        obtain ⟨v1, hv1, h⟩ := bind_some h
        obtain ⟨r1, hr1, h⟩ := bind_some h
        refine Ab.regA hE hC hL [[], [], [], [.t ((eA 1 (T.int .u8)) v1)], [], [.r [.tree ((eA 1 (T.int .u8)) r1)] []]] { keep := [1, 2, 4, 7, 9], ren := [(49000, 49000), (49001, 49001)] } ⟨[(1, (.t ((eS 32 (eA 1 (T.int .u8))) pbranch0))), (2, (.t (.int .u64 a0))), (4, (.ref 49000 [] (0))), (7, (.ref 49001 [] (0))), (9, (.t (.int .i64 a2)))], [(49000, (.var false 24 (.t ((eA 1 (T.int .u8)) r1)))), (49001, (.var false 24 (.t ((eA 1 (T.int .u8)) proot0))))]⟩ [0 ≤ a2, (List.map (eA 1 (T.int .u8)) pbranch0)[a2.toNat]? = some ((eA 1 (T.int .u8)) v1), (sp_ref02_Pair n).fn [((eA 1 (T.int .u8)) a1), ((eA 1 (T.int .u8)) v1)] = some ([.tree ((eA 1 (T.int .u8)) r1)], [])] (by kernel_rfl) (by kernel_rfl) ⟨hq1, (at_map hv1), (ap_ref02_Pair n (by exact ⟨leT.refl _, leT.refl _, trivial⟩) hr1), trivial⟩ ?_
        refine Nxt_norm ?_
        refine Ab.regT hE hC hL [] { keep := [1, 2, 4, 7, 9], ren := [(49000, 49000), (49001, 49001)] } ⟨[(1, (.t ((eS 32 (eA 1 (T.int .u8))) pbranch0))), (2, (.t (.int .u64 (w64 (a0.tdiv (2:Int)))))), (4, (.ref 49000 [] (0))), (7, (.ref 49001 [] (0))), (9, (.t (.int .i64 a2)))], [(49000, (.var false 24 (.t ((eA 1 (T.int .u8)) r1)))), (49001, (.var false 24 (.t ((eA 1 (T.int .u8)) proot0))))]⟩ [] (by kernel_rfl) trivial ?_
        refine Blk_norm ?_
        refine Nxt_norm ?_
        refine Ab.regT hE hC hL [] { keep := [1, 2, 4, 7, 9], ren := [(49000, 49000), (49001, 49001)] } ⟨[(1, (.t ((eS 32 (eA 1 (T.int .u8))) pbranch0))), (2, (.t (.int .u64 (w64 (a0.tdiv (2:Int)))))), (4, (.ref 49000 [] (0))), (7, (.ref 49001 [] (0))), (9, (.t (.int .i64 (wi (a2 + (1:Int))))))], [(49000, (.var false 24 (.t ((eA 1 (T.int .u8)) r1)))), (49001, (.var false 24 (.t ((eA 1 (T.int .u8)) proot0))))]⟩ [] (by kernel_rfl) trivial ?_
        exact LK_norm ((w64 (a0.tdiv (2:Int))), r1, (wi (a2 + (1:Int)))) { fs := [], keep := [1, 2, 4, 7, 9], ren := [(49000, 49000), (49001, 49001)] } h (by kernel_rfl)
    · replace h := cond_f hb0 h
      refine Ab.exit ?_
      refine Nxt_exit ?_
      exact LK_exit a1 h (PX_mk { fs := [], keep := [4, 7], ren := [(49000, 49000), (49001, 49001)] } (by kernel_rfl))
  · refine Nxt_norm ?_
    refine Ab.seq ?_
    refine Ab.regT hE hC hL [[], [], [.b (decide (x0 = proot0))]] { keep := [8], ren := [] } ⟨[(8, (.t (.bool (decide (x0 = proot0)))))], []⟩ [binOp (E_ref02_Verify n) .eql 24 (.t ((eA 1 (T.int .u8)) x0)) (.t ((eA 1 (T.int .u8)) proot0)) = some (.bool (decide (x0 = proot0)))] (by kernel_rfl) ⟨(beql_24 _ rfl _ _), trivial⟩ ?_
    refine Nxt_norm ?_
    refine Ab.ret ?_
    obtain rfl := Option.some.inj h
    exact End_ret (doneO_ok (md := [false]) (by kernel_rfl))
def ea_law03_MerkleBranches (a : (List (Arr 32 Int)) × Int × Int × Int × (Arr 32 Int)) : List T := [(eS 32 (eA 1 (T.int .u8))) a.1, (T.int .i64) a.2.1, (T.int .i64) a.2.2.1, (T.int .u64) a.2.2.2.1, (eA 1 (T.int .u8)) a.2.2.2.2]
def er_law03_MerkleBranches (r : Bool) : List RR × List T := ([.tree (T.bool r)], [])
noncomputable def sp_law03_MerkleBranches (n : Nat) : Spec := specP [] true ea_law03_MerkleBranches (fun a => f_law03_MerkleBranches n a.1 a.2.1 a.2.2.1 a.2.2.2.1 a.2.2.2.2) (fun _ r => er_law03_MerkleBranches r)
theorem ap_law03_MerkleBranches (n : Nat) {ts : List T} {a0 : (List (Arr 32 Int))} {a1 : Int} {a2 : Int} {a3 : Int} {a4 : (Arr 32 Int)} {r : Bool} (hle : leTs ts [(eS 32 (eA 1 (T.int .u8))) a0, (T.int .i64) a1, (T.int .i64) a2, (T.int .u64) a3, (eA 1 (T.int .u8)) a4]) (h : f_law03_MerkleBranches n a0 a1 a2 a3 a4 = some r) : (sp_law03_MerkleBranches n).fn ts = some ([.tree (T.bool r)], []) :=
  specP_fn (a := (a0, a1, a2, a3, a4)) (InjA.cons (inj_eS (inj_eA (inj_int _))) (InjA.cons (inj_int _) (InjA.cons (inj_int _) (InjA.cons (inj_int _) (InjA.one (inj_eA (inj_int _))))))) hle h
noncomputable def E_law03_MerkleBranches (n : Nat) : Env := { ty := tyT, glob := glob, fns := get [(28, sp_law03_Awake n), (30, sp_law03_own n), (35, sp_law03_plain n), (41, sp_merkle_Branch n), (42, sp_ref02_Branch n), (43, sp_merkle_Verify n), (44, sp_ref02_Verify n)], ntmps := 98 }
theorem eok_law03_MerkleBranches (n : Nat) : EnvOK Tryd.prog (E_law03_MerkleBranches n) := ⟨tys_ok tys_chk, prog_mixed, (fns_cons (ok_law03_Awake n) (fns_cons (ok_law03_own n) (fns_cons (ok_law03_plain n) (fns_cons (ok_merkle_Branch n) (fns_cons (ok_ref02_Branch n) (fns_cons (ok_merkle_Verify n) (fns_cons (ok_ref02_Verify n) fns_nil)))))))⟩
def K_law03_MerkleBranches (n : Nat) (pl0 : (List (Arr 32 Int))) (pdepth0 : Int) (pindex0 : Int) (pplace0 : Int) (proot0 : (Arr 32 Int)) (r : Bool) : St → Prop := Done (E_law03_MerkleBranches n) Tryd.f11.results.toList [] (ea_law03_MerkleBranches (pl0, pdepth0, pindex0, pplace0, proot0)) (er_law03_MerkleBranches r).1 (er_law03_MerkleBranches r).2
set_option maxRecDepth 100000 in
set_option maxHeartbeats 4000000 in
theorem ok_law03_MerkleBranches (n : Nat) : SpecB Tryd.prog glob 11 (sp_law03_MerkleBranches n) := by
  refine specP_B (fn := Tryd.f11) (eok_law03_MerkleBranches n) (by kernel_rfl) rfl (by decide +kernel) (by kernel_rfl) (fun _ => by show 5 ≤ 98; omega)  ?_
  rintro ⟨pl0, pdepth0, pindex0, pplace0, proot0⟩ r h C hL hC
  have hE := eok_law03_MerkleBranches n
  replace hL : ∀ n g, (n, g) ∈ C.lent → n ∈ ([] : List Nat) := hL
  replace h : f_law03_MerkleBranches n pl0 pdepth0 pindex0 pplace0 proot0 = some r := h
  show Ab _ _ _ _ _ (End (K_law03_MerkleBranches n pl0 pdepth0 pindex0 pplace0 proot0 r))
  unfold f_law03_MerkleBranches at h
  refine Ab.seq ?_
  refine Ab.regT hE hC hL [] { keep := [0, 1, 2, 3, 9], ren := [(9, 9)] } ⟨[(0, (.t ((eS 32 (eA 1 (T.int .u8))) pl0))), (1, (.t (.int .i64 pdepth0))), (2, (.t (.int .i64 pindex0))), (3, (.t (.int .u64 pplace0))), (9, (.ref 9 [] (0)))], [(9, (.var false 25 (.t ((eA 1 (T.int .u8)) proot0))))]⟩ [] (by kernel_rfl) trivial ?_
  refine Nxt_norm ?_
  refine Ab.seq ?_
  refine Ab.seq ?_
  obtain ⟨r0, hr0, h⟩ := bind_some h
  refine Ab.regT hE hC hL [[.r [.tree (.bool r0)] []]] { keep := [0, 1, 2, 3, 9, 17], ren := [(9, 9)] } ⟨[(0, (.t ((eS 32 (eA 1 (T.int .u8))) pl0))), (1, (.t (.int .i64 pdepth0))), (2, (.t (.int .i64 pindex0))), (3, (.t (.int .u64 pplace0))), (9, (.ref 9 [] (0))), (17, (.t (.bool (!r0))))], [(9, (.var false 25 (.t ((eA 1 (T.int .u8)) proot0))))]⟩ [(sp_law03_Awake n).fn [] = some ([.tree (.bool r0)], [])] (by kernel_rfl) ⟨(ap_law03_Awake n (by exact trivial) hr0), trivial⟩ ?_
  refine Nxt_norm ?_
  refine Ab.cond (b := (!r0)) (by kernel_rfl) (fun hb0 => ?_) (fun hb0 => ?_)
  · replace h := cond_t hb0 h
    refine Ab.seq ?_
    refine Ab.regT hE hC hL [] { keep := [10], ren := [] } ⟨[(10, (.t (.bool false)))], []⟩ [] (by kernel_rfl) trivial ?_
    refine Nxt_norm ?_
    refine Ab.ret ?_
    refine Nxt_ret ?_
    obtain rfl := Option.some.inj h
    exact End_ret (doneO_ok (md := [false]) (by kernel_rfl))
  · replace h := cond_f hb0 h
    refine Ab.skip ?_
    refine Nxt_norm ?_
    refine Ab.seq ?_
    refine Ab.seq ?_
    refine Ab.regT hE hC hL [[], [.n (pl0.length : Int)]] { keep := [0, 1, 2, 3, 9, 20], ren := [(9, 9)] } ⟨[(0, (.t ((eS 32 (eA 1 (T.int .u8))) pl0))), (1, (.t (.int .i64 pdepth0))), (2, (.t (.int .i64 pindex0))), (3, (.t (.int .u64 pplace0))), (9, (.ref 9 [] (0))), (20, (.t (.bool (decide ((pl0.length : Int) > (70:Int))))))], [(9, (.var false 25 (.t ((eA 1 (T.int .u8)) proot0))))]⟩ [((List.length (List.map (eA 1 (T.int .u8)) pl0) : Nat) : Int) = (pl0.length : Int)] (by kernel_rfl) ⟨(len_of rfl), trivial⟩ ?_
    refine Nxt_norm ?_
    refine Ab.cond (b := (decide ((pl0.length : Int) > (70:Int)))) (by kernel_rfl) (fun hb1 => ?_) (fun hb1 => ?_)
    · replace h := cond_t hb1 h
      refine Ab.seq ?_
      refine Ab.regT hE hC hL [] { keep := [10], ren := [] } ⟨[(10, (.t (.bool true)))], []⟩ [] (by kernel_rfl) trivial ?_
      refine Nxt_norm ?_
      refine Ab.ret ?_
      refine Nxt_ret ?_
      obtain rfl := Option.some.inj h
      exact End_ret (doneO_ok (md := [false]) (by kernel_rfl))
    · replace h := cond_f hb1 h
      refine Ab.skip ?_
      refine Nxt_norm ?_
      refine Ab.seq ?_
      obtain ⟨r1, hr1, h⟩ := bind_some h
      obtain ⟨r2, hr2, h⟩ := bind_some h
      refine Ab.regT hE hC hL [[], [.r [.row 25 32 (List.map (eA 1 (T.int .u8)) r1)] []], [], [], [.r [.row 25 32 (List.map (eA 1 (T.int .u8)) r2.1), .tree (.int .i64 r2.2)] []]] { keep := [0, 1, 2, 3, 9, 11, 12], ren := [(9, 9), (26, 26)] } ⟨[(0, (.t ((eS 32 (eA 1 (T.int .u8))) pl0))), (1, (.t (.int .i64 pdepth0))), (2, (.t (.int .i64 pindex0))), (3, (.t (.int .u64 pplace0))), (9, (.ref 9 [] (0))), (11, (.own 26)), (12, (.t (.int .i64 r2.2)))], [(9, (.var false 25 (.t ((eA 1 (T.int .u8)) proot0)))), (26, (.row false 25 32 (List.map (eA 1 (T.int .u8)) r2.1)))]⟩ [(sp_law03_own n).fn [((eS 32 (eA 1 (T.int .u8))) pl0)] = some ([.row 25 32 (List.map (eA 1 (T.int .u8)) r1)], []), (sp_merkle_Branch n).fn [(.slc 32 (List.map (eA 1 (T.int .u8)) r1)), (.int .i64 pdepth0), (.int .i64 pindex0)] = some ([.row 25 32 (List.map (eA 1 (T.int .u8)) r2.1), .tree (.int .i64 r2.2)], [])] (by kernel_rfl) ⟨(ap_law03_own n (by exact ⟨leT.refl _, trivial⟩) hr1), (ap_merkle_Branch n (by exact ⟨leT.refl _, leT.refl _, leT.refl _, trivial⟩) hr2), trivial⟩ ?_
      refine Nxt_norm ?_
      refine Ab.seq ?_
      obtain ⟨r3, hr3, h⟩ := bind_some h
      obtain ⟨r4, hr4, h⟩ := bind_some h
      refine Ab.regT hE hC hL [[], [.r [.row 24 32 (List.map (eA 1 (T.int .u8)) r3)] []], [], [], [.r [.row 24 32 (List.map (eA 1 (T.int .u8)) r4.1), .tree (.bool r4.2)] []]] { keep := [0, 3, 9, 11, 12, 13, 14], ren := [(9, 9), (26, 26), (34, 34)] } ⟨[(0, (.t ((eS 32 (eA 1 (T.int .u8))) pl0))), (3, (.t (.int .u64 pplace0))), (9, (.ref 9 [] (0))), (11, (.own 26)), (12, (.t (.int .i64 r2.2))), (13, (.own 34)), (14, (.t (.bool r4.2)))], [(9, (.var false 25 (.t ((eA 1 (T.int .u8)) proot0)))), (26, (.row false 25 32 (List.map (eA 1 (T.int .u8)) r2.1))), (34, (.row false 24 32 (List.map (eA 1 (T.int .u8)) r4.1)))]⟩ [(sp_law03_plain n).fn [((eS 32 (eA 1 (T.int .u8))) pl0)] = some ([.row 24 32 (List.map (eA 1 (T.int .u8)) r3)], []), (sp_ref02_Branch n).fn [(.slc 32 (List.map (eA 1 (T.int .u8)) r3)), (.int .i64 pdepth0), (.int .i64 pindex0)] = some ([.row 24 32 (List.map (eA 1 (T.int .u8)) r4.1), .tree (.bool r4.2)], [])] (by kernel_rfl) ⟨(ap_law03_plain n (by exact ⟨leT.refl _, trivial⟩) hr3), (ap_ref02_Branch n (by exact ⟨leT.refl _, leT.refl _, leT.refl _, trivial⟩) hr4), trivial⟩ ?_
      refine Nxt_norm ?_
      refine Ab.seqJ (fun (_ : Unit) => (⟨[(0, (.t ((eS 32 (eA 1 (T.int .u8))) pl0))), (3, (.t (.int .u64 pplace0))), (9, (.ref 49000 [] (0))), (11, (.own 49001)), (13, (.own 49002))], [(49000, (.var false 25 (.t ((eA 1 (T.int .u8)) proot0)))), (49001, (.row false 25 32 (List.map (eA 1 (T.int .u8)) r2.1))), (49002, (.row false 24 32 (List.map (eA 1 (T.int .u8)) r4.1)))]⟩ : St)) (fun (_ : Unit) => f_law03_MerkleBranches_j0 n pl0 pplace0 proot0 r2 r4 = some r) hC hL ?_ ?_
      · refine Ab.seq ?_
        rcases Bool.eq_false_or_eq_true (!((r2.2 == (0:Int)) == r4.2)) with hb2 | hb2
        · replace h := cond_t hb2 h
          refine Ab.regT hE hC hL [[], [], [], [], [.b true]] { keep := [0, 3, 9, 11, 13, 55], ren := [(9, 9), (26, 26), (34, 34)] } ⟨[(0, (.t ((eS 32 (eA 1 (T.int .u8))) pl0))), (3, (.t (.int .u64 pplace0))), (9, (.ref 9 [] (0))), (11, (.own 26)), (13, (.own 34)), (55, (.t (.bool true)))], [(9, (.var false 25 (.t ((eA 1 (T.int .u8)) proot0)))), (26, (.row false 25 32 (List.map (eA 1 (T.int .u8)) r2.1))), (34, (.row false 24 32 (List.map (eA 1 (T.int .u8)) r4.1)))]⟩ [(!((r2.2 == (0:Int)) == r4.2)) = true] (by kernel_rfl) ⟨hb2, trivial⟩ ?_
          refine Nxt_norm ?_
          refine Ab.cond (b := true) (by kernel_rfl) (fun _ => ?_) (fun hb => Bool.noConfusion hb)
          refine Ab.seq ?_
          refine Ab.regT hE hC hL [] { keep := [10], ren := [] } ⟨[(10, (.t (.bool false)))], []⟩ [] (by kernel_rfl) trivial ?_
          refine Nxt_norm ?_
          refine Ab.ret ?_
          refine Nxt_ret ?_
          obtain rfl := Option.some.inj h
          exact End_ret (doneO_ok (md := [false]) (by kernel_rfl))
        · replace h := cond_f hb2 h
          rcases Bool.eq_false_or_eq_true (!r4.2) with hb3 | hb3
          · replace h := cond_t hb3 h
            rcases Bool.eq_false_or_eq_true (r2.2 != (2:Int)) with hb4 | hb4
            · replace h := cond_t hb4 h
              refine Ab.regT hE hC hL [[], [], [], [], [.b false], [], [], [.b true], [], [], [], [], [.b true]] { keep := [0, 3, 9, 11, 13, 55], ren := [(9, 9), (26, 26), (34, 34)] } ⟨[(0, (.t ((eS 32 (eA 1 (T.int .u8))) pl0))), (3, (.t (.int .u64 pplace0))), (9, (.ref 9 [] (0))), (11, (.own 26)), (13, (.own 34)), (55, (.t (.bool true)))], [(9, (.var false 25 (.t ((eA 1 (T.int .u8)) proot0)))), (26, (.row false 25 32 (List.map (eA 1 (T.int .u8)) r2.1))), (34, (.row false 24 32 (List.map (eA 1 (T.int .u8)) r4.1)))]⟩ [(!((r2.2 == (0:Int)) == r4.2)) = false, (!r4.2) = true, (r2.2 != (2:Int)) = true] (by kernel_rfl) ⟨hb2, hb3, hb4, trivial⟩ ?_
              refine Nxt_norm ?_
              refine Ab.cond (b := true) (by kernel_rfl) (fun _ => ?_) (fun hb => Bool.noConfusion hb)
              refine Ab.seq ?_
              refine Ab.regT hE hC hL [] { keep := [10], ren := [] } ⟨[(10, (.t (.bool false)))], []⟩ [] (by kernel_rfl) trivial ?_
              refine Nxt_norm ?_
              refine Ab.ret ?_
              refine Nxt_ret ?_
              obtain rfl := Option.some.inj h
              exact End_ret (doneO_ok (md := [false]) (by kernel_rfl))
            · replace h := cond_f hb4 h
              refine Ab.regT hE hC hL [[], [], [], [], [.b false], [], [], [.b true], [], [], [], [], [.b false], [], [.n (r2.1.length : Int)], [], [.n (r4.1.length : Int)]] { keep := [0, 3, 9, 11, 13, 55], ren := [(9, 9), (26, 26), (34, 34)] } ⟨[(0, (.t ((eS 32 (eA 1 (T.int .u8))) pl0))), (3, (.t (.int .u64 pplace0))), (9, (.ref 9 [] (0))), (11, (.own 26)), (13, (.own 34)), (55, (.t (.bool ((r2.1.length : Int) != (r4.1.length : Int)))))], [(9, (.var false 25 (.t ((eA 1 (T.int .u8)) proot0)))), (26, (.row false 25 32 (List.map (eA 1 (T.int .u8)) r2.1))), (34, (.row false 24 32 (List.map (eA 1 (T.int .u8)) r4.1)))]⟩ [(!((r2.2 == (0:Int)) == r4.2)) = false, (!r4.2) = true, (r2.2 != (2:Int)) = false, ((List.length (List.map (eA 1 (T.int .u8)) r2.1) : Nat) : Int) = (r2.1.length : Int), ((List.length (List.map (eA 1 (T.int .u8)) r4.1) : Nat) : Int) = (r4.1.length : Int)] (by kernel_rfl) ⟨hb2, hb3, hb4, (len_of rfl), (len_of rfl), trivial⟩ ?_
              refine Nxt_norm ?_
              refine Ab.cond (b := ((r2.1.length : Int) != (r4.1.length : Int))) (by kernel_rfl) (fun hb5 => ?_) (fun hb5 => ?_)
              · replace h := cond_t hb5 h
                refine Ab.seq ?_
                refine Ab.regT hE hC hL [] { keep := [10], ren := [] } ⟨[(10, (.t (.bool false)))], []⟩ [] (by kernel_rfl) trivial ?_
                refine Nxt_norm ?_
                refine Ab.ret ?_
                refine Nxt_ret ?_
                obtain rfl := Option.some.inj h
                exact End_ret (doneO_ok (md := [false]) (by kernel_rfl))
              · replace h := cond_f hb5 h
                refine Ab.skip ?_
                exact Nxt_norm ⟨(), { fs := [], keep := [0, 3, 9, 11, 13], ren := [(9, 49000), (26, 49001), (34, 49002)] }, h, by kernel_rfl⟩
          · replace h := cond_f hb3 h
            refine Ab.regT hE hC hL [[], [], [], [], [.b false], [], [], [.b false], [], [], [], [], [], [], [.n (r2.1.length : Int)], [], [.n (r4.1.length : Int)]] { keep := [0, 3, 9, 11, 13, 55], ren := [(9, 9), (26, 26), (34, 34)] } ⟨[(0, (.t ((eS 32 (eA 1 (T.int .u8))) pl0))), (3, (.t (.int .u64 pplace0))), (9, (.ref 9 [] (0))), (11, (.own 26)), (13, (.own 34)), (55, (.t (.bool ((r2.1.length : Int) != (r4.1.length : Int)))))], [(9, (.var false 25 (.t ((eA 1 (T.int .u8)) proot0)))), (26, (.row false 25 32 (List.map (eA 1 (T.int .u8)) r2.1))), (34, (.row false 24 32 (List.map (eA 1 (T.int .u8)) r4.1)))]⟩ [(!((r2.2 == (0:Int)) == r4.2)) = false, (!r4.2) = false, ((List.length (List.map (eA 1 (T.int .u8)) r2.1) : Nat) : Int) = (r2.1.length : Int), ((List.length (List.map (eA 1 (T.int .u8)) r4.1) : Nat) : Int) = (r4.1.length : Int)] (by kernel_rfl) ⟨hb2, hb3, (len_of rfl), (len_of rfl), trivial⟩ ?_
            refine Nxt_norm ?_
            refine Ab.cond (b := ((r2.1.length : Int) != (r4.1.length : Int))) (by kernel_rfl) (fun hb6 => ?_) (fun hb6 => ?_)
            · replace h := cond_t hb6 h
              refine Ab.seq ?_
              refine Ab.regT hE hC hL [] { keep := [10], ren := [] } ⟨[(10, (.t (.bool false)))], []⟩ [] (by kernel_rfl) trivial ?_
              refine Nxt_norm ?_
              refine Ab.ret ?_
              refine Nxt_ret ?_
              obtain rfl := Option.some.inj h
              exact End_ret (doneO_ok (md := [false]) (by kernel_rfl))
            · replace h := cond_f hb6 h
              refine Ab.skip ?_
              exact Nxt_norm ⟨(), { fs := [], keep := [0, 3, 9, 11, 13], ren := [(9, 49000), (26, 49001), (34, 49002)] }, h, by kernel_rfl⟩
      · rintro ⟨⟩ h
        replace h : f_law03_MerkleBranches_j0 n pl0 pplace0 proot0 r2 r4 = some r := h
        unfold f_law03_MerkleBranches_j0 at h
        refine Ab.seq ?_
        refine Ab.seq ?_
        refine Ab.regT hE hC hL [[], [.n (r2.1.length : Int)]] { keep := [0, 3, 9, 11, 13, 57, 58], ren := [(49000, 49000), (49001, 49001), (49002, 49002)] } ⟨[(0, (.t ((eS 32 (eA 1 (T.int .u8))) pl0))), (3, (.t (.int .u64 pplace0))), (9, (.ref 49000 [] (0))), (11, (.own 49001)), (13, (.own 49002)), (57, (.t (.int .i64 (r2.1.length : Int)))), (58, (.t (.int .i64 (0:Int))))], [(49000, (.var false 25 (.t ((eA 1 (T.int .u8)) proot0)))), (49001, (.row false 25 32 (List.map (eA 1 (T.int .u8)) r2.1))), (49002, (.row false 24 32 (List.map (eA 1 (T.int .u8)) r4.1)))]⟩ [((List.length (List.map (eA 1 (T.int .u8)) r2.1) : Nat) : Int) = (r2.1.length : Int)] (by kernel_rfl) ⟨(len_of rfl), trivial⟩ ?_
        refine Nxt_norm ?_
        obtain ⟨x0, hx0, h⟩ := bind_some h
        refine Ab.loopR0 (fun (a0 : Int) => (⟨[(0, (.t ((eS 32 (eA 1 (T.int .u8))) pl0))), (3, (.t (.int .u64 pplace0))), (9, (.ref 49000 [] (0))), (11, (.own 49001)), (13, (.own 49002)), (57, (.t (.int .i64 (r2.1.length : Int)))), (58, (.t (.int .i64 a0)))], [(49000, (.var false 25 (.t ((eA 1 (T.int .u8)) proot0)))), (49001, (.row false 25 32 (List.map (eA 1 (T.int .u8)) r2.1))), (49002, (.row false 24 32 (List.map (eA 1 (T.int .u8)) r4.1)))]⟩ : St)) (fun (_ : Unit) => (⟨[(0, (.t ((eS 32 (eA 1 (T.int .u8))) pl0))), (3, (.t (.int .u64 pplace0))), (9, (.ref 49000 [] (0))), (11, (.own 49001)), (13, (.own 49002))], [(49000, (.var false 25 (.t ((eA 1 (T.int .u8)) proot0)))), (49001, (.row false 25 32 (List.map (eA 1 (T.int .u8)) r2.1))), (49002, (.row false 24 32 (List.map (eA 1 (T.int .u8)) r4.1)))]⟩ : St)) (fun r9 => K_law03_MerkleBranches n pl0 pdepth0 pindex0 pplace0 proot0 r9) { fs := [], keep := [0, 3, 9, 11, 13, 57, 58], ren := [(49000, 49000), (49001, 49001), (49002, 49002)] } (0:Int) hC hL hx0 (by kernel_rfl) ?_ (fun r9 s9 e hs => ?_) (fun x1 e => ?_)
        · rintro a0 o0 h
          replace h : f_law03_MerkleBranches_b0 n r2 r4 a0 = some o0 := h
          unfold f_law03_MerkleBranches_b0 at h
          refine Ab.seq ?_
          refine Ab.regT hE hC hL [] { keep := [0, 3, 9, 11, 13, 57, 58, 59], ren := [(49000, 49000), (49001, 49001), (49002, 49002)] } ⟨[(0, (.t ((eS 32 (eA 1 (T.int .u8))) pl0))), (3, (.t (.int .u64 pplace0))), (9, (.ref 49000 [] (0))), (11, (.own 49001)), (13, (.own 49002)), (57, (.t (.int .i64 (r2.1.length : Int)))), (58, (.t (.int .i64 a0))), (59, (.t (.bool (decide (a0 < (r2.1.length : Int))))))], [(49000, (.var false 25 (.t ((eA 1 (T.int .u8)) proot0)))), (49001, (.row false 25 32 (List.map (eA 1 (T.int .u8)) r2.1))), (49002, (.row false 24 32 (List.map (eA 1 (T.int .u8)) r4.1)))]⟩ [] (by kernel_rfl) trivial ?_
          refine Nxt_norm ?_
          refine Ab.seq ?_
          refine Ab.cond (b := (decide (a0 < (r2.1.length : Int)))) (by kernel_rfl) (fun hb7 => ?_) (fun hb7 => ?_)
          · replace h := cond_t hb7 h
            refine Ab.skip ?_
            refine Nxt_norm ?_
            refine Ab.seq ?_
            refine Ab.block ?_
            refine Ab.seq ?_
            refine Ab.regT hE hC hL [] { keep := [0, 3, 9, 11, 13, 15, 57, 58], ren := [(49000, 49000), (49001, 49001), (49002, 49002)] } ⟨[(0, (.t ((eS 32 (eA 1 (T.int .u8))) pl0))), (3, (.t (.int .u64 pplace0))), (9, (.ref 49000 [] (0))), (11, (.own 49001)), (13, (.own 49002)), (15, (.t (.int .i64 a0))), (57, (.t (.int .i64 (r2.1.length : Int)))), (58, (.t (.int .i64 a0)))], [(49000, (.var false 25 (.t ((eA 1 (T.int .u8)) proot0)))), (49001, (.row false 25 32 (List.map (eA 1 (T.int .u8)) r2.1))), (49002, (.row false 24 32 (List.map (eA 1 (T.int .u8)) r4.1)))]⟩ [] (by kernel_rfl) trivial ?_
            refine Nxt_norm ?_
            refine Ab.seq ?_
            obtain ⟨hq0, h⟩ := ask_dec h
            obtain ⟨hq1, h⟩ := ask_dec h
            obtain ⟨v0, hv0, h⟩ := bind_some h
            obtain ⟨hq2, h⟩ := ask_dec h
            obtain ⟨v1, hv1, h⟩ := bind_some h
            refine Ab.regA hE hC hL [[], [], [.c], [.t ((eA 1 (T.int .u8)) v0)], [], [], [.c], [.t ((eA 1 (T.int .u8)) v1)], [.b (!(decide (v0 = v1)))]] { keep := [0, 3, 9, 11, 13, 57, 58, 69], ren := [(49000, 49000), (49001, 49001), (49002, 49002)] } ⟨[(0, (.t ((eS 32 (eA 1 (T.int .u8))) pl0))), (3, (.t (.int .u64 pplace0))), (9, (.ref 49000 [] (0))), (11, (.own 49001)), (13, (.own 49002)), (57, (.t (.int .i64 (r2.1.length : Int)))), (58, (.t (.int .i64 a0))), (69, (.t (.bool (!(decide (v0 = v1))))))], [(49000, (.var false 25 (.t ((eA 1 (T.int .u8)) proot0)))), (49001, (.row false 25 32 (List.map (eA 1 (T.int .u8)) r2.1))), (49002, (.row false 24 32 (List.map (eA 1 (T.int .u8)) r4.1)))]⟩ [0 ≤ a0, a0.toNat < List.length (List.map (eA 1 (T.int .u8)) r2.1), a0.toNat * 32 + 0 = a0.toNat * 32, (List.map (eA 1 (T.int .u8)) r2.1)[a0.toNat]? = some ((eA 1 (T.int .u8)) v0), 0 ≤ a0, a0.toNat < List.length (List.map (eA 1 (T.int .u8)) r4.1), a0.toNat * 32 + 0 = a0.toNat * 32, (List.map (eA 1 (T.int .u8)) r4.1)[a0.toNat]? = some ((eA 1 (T.int .u8)) v1), binOp (E_law03_MerkleBranches n) .neq 24 (.t ((eA 1 (T.int .u8)) v0)) (.t ((eA 1 (T.int .u8)) v1)) = some (.bool (!(decide (v0 = v1))))] (by kernel_rfl) (by kernel_rfl) ⟨hq0, (by rw [List.length_map]; exact hq1), (by omega), (at_map hv0), hq0, (by rw [List.length_map]; exact hq2), (by omega), (at_map hv1), (bneq_24 _ rfl _ _), trivial⟩ ?_
            refine Nxt_norm ?_
            refine Ab.cond (b := (!(decide (v0 = v1)))) (by kernel_rfl) (fun hb8 => ?_) (fun hb8 => ?_)
            · replace h := cond_t hb8 h
              refine Ab.seq ?_
              refine Ab.regT hE hC hL [] { keep := [10], ren := [] } ⟨[(10, (.t (.bool false)))], []⟩ [] (by kernel_rfl) trivial ?_
              refine Nxt_norm ?_
              refine Ab.ret ?_
              refine Blk_ret ?_
              refine Nxt_ret ?_
              exact LK_ret (.inl false) h (PR_ret (doneO_ok (md := [false]) (by kernel_rfl)))
            · replace h := cond_f hb8 h
              refine Ab.skip ?_
              refine Blk_norm ?_
              refine Nxt_norm ?_
              refine Ab.regT hE hC hL [] { keep := [0, 3, 9, 11, 13, 57, 58], ren := [(49000, 49000), (49001, 49001), (49002, 49002)] } ⟨[(0, (.t ((eS 32 (eA 1 (T.int .u8))) pl0))), (3, (.t (.int .u64 pplace0))), (9, (.ref 49000 [] (0))), (11, (.own 49001)), (13, (.own 49002)), (57, (.t (.int .i64 (r2.1.length : Int)))), (58, (.t (.int .i64 (wi (a0 + (1:Int))))))], [(49000, (.var false 25 (.t ((eA 1 (T.int .u8)) proot0)))), (49001, (.row false 25 32 (List.map (eA 1 (T.int .u8)) r2.1))), (49002, (.row false 24 32 (List.map (eA 1 (T.int .u8)) r4.1)))]⟩ [] (by kernel_rfl) trivial ?_
              exact LK_norm (wi (a0 + (1:Int))) { fs := [], keep := [0, 3, 9, 11, 13, 57, 58], ren := [(49000, 49000), (49001, 49001), (49002, 49002)] } h (by kernel_rfl)
          · replace h := cond_f hb7 h
            refine Ab.exit ?_
            refine Nxt_exit ?_
            exact LK_exit (.inr ()) h (PR_mk { fs := [], keep := [0, 3, 9, 11, 13], ren := [(49000, 49000), (49001, 49001), (49002, 49002)] } (by kernel_rfl))
        · subst e
          replace h := elim_l h
          refine Nxt_ret ?_
          obtain rfl := Option.some.inj h
          exact End_ret hs
        · subst e
          replace h := elim_r h
          refine Nxt_norm ?_
          refine Ab.seq ?_
          obtain ⟨r5, hr5, h⟩ := bind_some h
          obtain ⟨r6, hr6, h⟩ := bind_some h
          obtain ⟨r7, hr7, h⟩ := bind_some h
          rcases Bool.eq_false_or_eq_true (r6 == r7) with hb9 | hb9
          · replace h := cond_t hb9 h
            obtain ⟨r8, hr8, h⟩ := bind_some h
            obtain ⟨r9, hr9, h⟩ := bind_some h
            obtain ⟨r10, hr10, h⟩ := bind_some h
            obtain ⟨r11, hr11, h⟩ := bind_some h
            refine Ab.regA hE hC hL [[], [], [.r [.row 25 32 (List.map (eA 1 (T.int .u8)) r5)] []], [], [], [.r [.tree (.bool r6)] []], [], [], [], [], [.r [.tree (.bool r7)] []], [], [.b true], [], [], [.r [.row 25 32 (List.map (eA 1 (T.int .u8)) r8)] []], [], [], [.r [.tree (.bool r9)] []], [], [], [.r [.row 24 32 (List.map (eA 1 (T.int .u8)) r10)] []], [], [], [.r [.tree (.bool r11)] []]] { keep := [10], ren := [] } ⟨[(10, (.t (.bool (r9 == r11))))], []⟩ [(sp_law03_own n).fn [(.slc 32 (List.map (eA 1 (T.int .u8)) r2.1))] = some ([.row 25 32 (List.map (eA 1 (T.int .u8)) r5)], []), (sp_merkle_Verify n).fn [((eA 1 (T.int .u8)) proot0), (.slc 32 (List.map (eA 1 (T.int .u8)) r5)), (.int .u64 pplace0), ((eA 1 (T.int .u8)) proot0)] = some ([.tree (.bool r6)], []), (sp_ref02_Verify n).fn [((eA 1 (T.int .u8)) proot0), (.slc 32 (List.map (eA 1 (T.int .u8)) r4.1)), (.int .u64 pplace0), ((eA 1 (T.int .u8)) proot0)] = some ([.tree (.bool r7)], []), (r6 == r7) = true, (sp_law03_own n).fn [((eS 32 (eA 1 (T.int .u8))) pl0)] = some ([.row 25 32 (List.map (eA 1 (T.int .u8)) r8)], []), (sp_merkle_Verify n).fn [((eA 1 (T.int .u8)) proot0), (.slc 32 (List.map (eA 1 (T.int .u8)) r8)), (.int .u64 pplace0), ((eA 1 (T.int .u8)) proot0)] = some ([.tree (.bool r9)], []), (sp_law03_plain n).fn [((eS 32 (eA 1 (T.int .u8))) pl0)] = some ([.row 24 32 (List.map (eA 1 (T.int .u8)) r10)], []), (sp_ref02_Verify n).fn [((eA 1 (T.int .u8)) proot0), (.slc 32 (List.map (eA 1 (T.int .u8)) r10)), (.int .u64 pplace0), ((eA 1 (T.int .u8)) proot0)] = some ([.tree (.bool r11)], [])] (by kernel_rfl) (by kernel_rfl) ⟨(ap_law03_own n (by exact ⟨leT.refl _, trivial⟩) hr5), (ap_merkle_Verify n (by exact ⟨leT.refl _, leT.refl _, leT.refl _, leT.refl _, trivial⟩) hr6), (ap_ref02_Verify n (by exact ⟨leT.refl _, leT.refl _, leT.refl _, leT.refl _, trivial⟩) hr7), hb9, (ap_law03_own n (by exact ⟨leT.refl _, trivial⟩) hr8), (ap_merkle_Verify n (by exact ⟨leT.refl _, leT.refl _, leT.refl _, leT.refl _, trivial⟩) hr9), (ap_law03_plain n (by exact ⟨leT.refl _, trivial⟩) hr10), (ap_ref02_Verify n (by exact ⟨leT.refl _, leT.refl _, leT.refl _, leT.refl _, trivial⟩) hr11), trivial⟩ ?_
            refine Nxt_norm ?_
            refine Ab.ret ?_
            obtain rfl := Option.some.inj h
            exact End_ret (doneO_ok (md := [false]) (by kernel_rfl))
          · replace h := cond_f hb9 h
            refine Ab.regA hE hC hL [[], [], [.r [.row 25 32 (List.map (eA 1 (T.int .u8)) r5)] []], [], [], [.r [.tree (.bool r6)] []], [], [], [], [], [.r [.tree (.bool r7)] []], [], [.b false]] { keep := [10], ren := [] } ⟨[(10, (.t (.bool false)))], []⟩ [(sp_law03_own n).fn [(.slc 32 (List.map (eA 1 (T.int .u8)) r2.1))] = some ([.row 25 32 (List.map (eA 1 (T.int .u8)) r5)], []), (sp_merkle_Verify n).fn [((eA 1 (T.int .u8)) proot0), (.slc 32 (List.map (eA 1 (T.int .u8)) r5)), (.int .u64 pplace0), ((eA 1 (T.int .u8)) proot0)] = some ([.tree (.bool r6)], []), (sp_ref02_Verify n).fn [((eA 1 (T.int .u8)) proot0), (.slc 32 (List.map (eA 1 (T.int .u8)) r4.1)), (.int .u64 pplace0), ((eA 1 (T.int .u8)) proot0)] = some ([.tree (.bool r7)], []), (r6 == r7) = false] (by kernel_rfl) (by kernel_rfl) ⟨(ap_law03_own n (by exact ⟨leT.refl _, trivial⟩) hr5), (ap_merkle_Verify n (by exact ⟨leT.refl _, leT.refl _, leT.refl _, leT.refl _, trivial⟩) hr6), (ap_ref02_Verify n (by exact ⟨leT.refl _, leT.refl _, leT.refl _, leT.refl _, trivial⟩) hr7), hb9, trivial⟩ ?_
            refine Nxt_norm ?_
            refine Ab.ret ?_
            obtain rfl := Option.some.inj h
            exact End_ret (doneO_ok (md := [false]) (by kernel_rfl))
def ea_law03_MerkleProves (a : (List (Arr 32 Int)) × Int × Int × (Arr 32 Int)) : List T := [(eS 32 (eA 1 (T.int .u8))) a.1, (T.int .i64) a.2.1, (T.int .i64) a.2.2.1, (eA 1 (T.int .u8)) a.2.2.2]
def er_law03_MerkleProves (r : Bool) : List RR × List T := ([.tree (T.bool r)], [])
noncomputable def sp_law03_MerkleProves (n : Nat) : Spec := specP [] true ea_law03_MerkleProves (fun a => f_law03_MerkleProves n a.1 a.2.1 a.2.2.1 a.2.2.2) (fun _ r => er_law03_MerkleProves r)
theorem ap_law03_MerkleProves (n : Nat) {ts : List T} {a0 : (List (Arr 32 Int))} {a1 : Int} {a2 : Int} {a3 : (Arr 32 Int)} {r : Bool} (hle : leTs ts [(eS 32 (eA 1 (T.int .u8))) a0, (T.int .i64) a1, (T.int .i64) a2, (eA 1 (T.int .u8)) a3]) (h : f_law03_MerkleProves n a0 a1 a2 a3 = some r) : (sp_law03_MerkleProves n).fn ts = some ([.tree (T.bool r)], []) :=
  specP_fn (a := (a0, a1, a2, a3)) (InjA.cons (inj_eS (inj_eA (inj_int _))) (InjA.cons (inj_int _) (InjA.cons (inj_int _) (InjA.one (inj_eA (inj_int _)))))) hle h
noncomputable def E_law03_MerkleProves (n : Nat) : Env := { ty := tyT, glob := glob, fns := get [(28, sp_law03_Awake n), (29, sp_merkle_Tree n), (30, sp_law03_own n), (41, sp_merkle_Branch n), (43, sp_merkle_Verify n)], ntmps := 116 }
theorem eok_law03_MerkleProves (n : Nat) : EnvOK Tryd.prog (E_law03_MerkleProves n) := ⟨tys_ok tys_chk, prog_mixed, (fns_cons (ok_law03_Awake n) (fns_cons (ok_merkle_Tree n) (fns_cons (ok_law03_own n) (fns_cons (ok_merkle_Branch n) (fns_cons (ok_merkle_Verify n) fns_nil)))))⟩
def K_law03_MerkleProves (n : Nat) (pl0 : (List (Arr 32 Int))) (pdepth0 : Int) (pindex0 : Int) (pother0 : (Arr 32 Int)) (r : Bool) : St → Prop := Done (E_law03_MerkleProves n) Tryd.f12.results.toList [] (ea_law03_MerkleProves (pl0, pdepth0, pindex0, pother0)) (er_law03_MerkleProves r).1 (er_law03_MerkleProves r).2
set_option maxRecDepth 100000 in
set_option maxHeartbeats 4000000 in
theorem ok_law03_MerkleProves (n : Nat) : SpecB Tryd.prog glob 12 (sp_law03_MerkleProves n) := by
  refine specP_B (fn := Tryd.f12) (eok_law03_MerkleProves n) (by kernel_rfl) rfl (by decide +kernel) (by kernel_rfl) (fun _ => by show 4 ≤ 116; omega)  ?_
  rintro ⟨pl0, pdepth0, pindex0, pother0⟩ r h C hL hC
  have hE := eok_law03_MerkleProves n
  replace hL : ∀ n g, (n, g) ∈ C.lent → n ∈ ([] : List Nat) := hL
  replace h : f_law03_MerkleProves n pl0 pdepth0 pindex0 pother0 = some r := h
  show Ab _ _ _ _ _ (End (K_law03_MerkleProves n pl0 pdepth0 pindex0 pother0 r))
  unfold f_law03_MerkleProves at h
  refine Ab.seq ?_
  refine Ab.regT hE hC hL [] { keep := [0, 1, 2, 7], ren := [(7, 7)] } ⟨[(0, (.t ((eS 32 (eA 1 (T.int .u8))) pl0))), (1, (.t (.int .i64 pdepth0))), (2, (.t (.int .i64 pindex0))), (7, (.ref 7 [] (0)))], [(7, (.var false 25 (.t ((eA 1 (T.int .u8)) pother0))))]⟩ [] (by kernel_rfl) trivial ?_
  refine Nxt_norm ?_
  refine Ab.seq ?_
  refine Ab.seq ?_
  obtain ⟨r0, hr0, h⟩ := bind_some h
  refine Ab.regT hE hC hL [[.r [.tree (.bool r0)] []]] { keep := [0, 1, 2, 7, 17], ren := [(7, 7)] } ⟨[(0, (.t ((eS 32 (eA 1 (T.int .u8))) pl0))), (1, (.t (.int .i64 pdepth0))), (2, (.t (.int .i64 pindex0))), (7, (.ref 7 [] (0))), (17, (.t (.bool (!r0))))], [(7, (.var false 25 (.t ((eA 1 (T.int .u8)) pother0))))]⟩ [(sp_law03_Awake n).fn [] = some ([.tree (.bool r0)], [])] (by kernel_rfl) ⟨(ap_law03_Awake n (by exact trivial) hr0), trivial⟩ ?_
  refine Nxt_norm ?_
  refine Ab.cond (b := (!r0)) (by kernel_rfl) (fun hb0 => ?_) (fun hb0 => ?_)
  · replace h := cond_t hb0 h
    refine Ab.seq ?_
    refine Ab.regT hE hC hL [] { keep := [8], ren := [] } ⟨[(8, (.t (.bool false)))], []⟩ [] (by kernel_rfl) trivial ?_
    refine Nxt_norm ?_
    refine Ab.ret ?_
    refine Nxt_ret ?_
    obtain rfl := Option.some.inj h
    exact End_ret (doneO_ok (md := [false]) (by kernel_rfl))
  · replace h := cond_f hb0 h
    refine Ab.skip ?_
    refine Nxt_norm ?_
    refine Ab.seq ?_
    refine Ab.regT hE hC hL [] { keep := [0, 1, 2, 7], ren := [(7, 7)] } ⟨[(0, (.t ((eS 32 (eA 1 (T.int .u8))) pl0))), (1, (.t (.int .i64 (wi ((w64 pdepth0).tmod (7:Int)))))), (2, (.t (.int .i64 pindex0))), (7, (.ref 7 [] (0)))], [(7, (.var false 25 (.t ((eA 1 (T.int .u8)) pother0))))]⟩ [] (by kernel_rfl) trivial ?_
    refine Nxt_norm ?_
    refine Ab.seq ?_
    refine Ab.seq ?_
    obtain ⟨hq0, h⟩ := ask_dec h
    rcases Bool.eq_false_or_eq_true (decide ((pl0.length : Int) > (shl .i64 (1:Int) (wi ((w64 pdepth0).tmod (7:Int)))))) with hb1 | hb1
    · replace h := cond_t hb1 h
      refine Ab.regT hE hC hL [[], [.n (pl0.length : Int)], [], [.c], [], [.b true]] { keep := [0, 1, 2, 7, 31], ren := [(7, 7)] } ⟨[(0, (.t ((eS 32 (eA 1 (T.int .u8))) pl0))), (1, (.t (.int .i64 (wi ((w64 pdepth0).tmod (7:Int)))))), (2, (.t (.int .i64 pindex0))), (7, (.ref 7 [] (0))), (31, (.t (.bool true)))], [(7, (.var false 25 (.t ((eA 1 (T.int .u8)) pother0))))]⟩ [((List.length (List.map (eA 1 (T.int .u8)) pl0) : Nat) : Int) = (pl0.length : Int), ¬ (wi ((w64 pdepth0).tmod (7:Int))) < 0, (decide ((pl0.length : Int) > (shl .i64 (1:Int) (wi ((w64 pdepth0).tmod (7:Int)))))) = true] (by kernel_rfl) ⟨(len_of rfl), (Int.not_lt.2 hq0), hb1, trivial⟩ ?_
      refine Nxt_norm ?_
      refine Ab.cond (b := true) (by kernel_rfl) (fun _ => ?_) (fun hb => Bool.noConfusion hb)
      refine Ab.seq ?_
      refine Ab.regT hE hC hL [] { keep := [8], ren := [] } ⟨[(8, (.t (.bool true)))], []⟩ [] (by kernel_rfl) trivial ?_
      refine Nxt_norm ?_
      refine Ab.ret ?_
      refine Nxt_ret ?_
      obtain rfl := Option.some.inj h
      exact End_ret (doneO_ok (md := [false]) (by kernel_rfl))
    · replace h := cond_f hb1 h
      refine Ab.regT hE hC hL [[], [.n (pl0.length : Int)], [], [.c], [], [.b false], [], [.n (pl0.length : Int)]] { keep := [0, 1, 2, 7, 31], ren := [(7, 7)] } ⟨[(0, (.t ((eS 32 (eA 1 (T.int .u8))) pl0))), (1, (.t (.int .i64 (wi ((w64 pdepth0).tmod (7:Int)))))), (2, (.t (.int .i64 pindex0))), (7, (.ref 7 [] (0))), (31, (.t (.bool ((pl0.length : Int) == (0:Int)))))], [(7, (.var false 25 (.t ((eA 1 (T.int .u8)) pother0))))]⟩ [((List.length (List.map (eA 1 (T.int .u8)) pl0) : Nat) : Int) = (pl0.length : Int), ¬ (wi ((w64 pdepth0).tmod (7:Int))) < 0, (decide ((pl0.length : Int) > (shl .i64 (1:Int) (wi ((w64 pdepth0).tmod (7:Int)))))) = false, ((List.length (List.map (eA 1 (T.int .u8)) pl0) : Nat) : Int) = (pl0.length : Int)] (by kernel_rfl) ⟨(len_of rfl), (Int.not_lt.2 hq0), hb1, (len_of rfl), trivial⟩ ?_
      refine Nxt_norm ?_
      refine Ab.cond (b := ((pl0.length : Int) == (0:Int))) (by kernel_rfl) (fun hb2 => ?_) (fun hb2 => ?_)
      · replace h := cond_t hb2 h
        refine Ab.seq ?_
        refine Ab.regT hE hC hL [] { keep := [8], ren := [] } ⟨[(8, (.t (.bool true)))], []⟩ [] (by kernel_rfl) trivial ?_
        refine Nxt_norm ?_
        refine Ab.ret ?_
        refine Nxt_ret ?_
        obtain rfl := Option.some.inj h
        exact End_ret (doneO_ok (md := [false]) (by kernel_rfl))
      · replace h := cond_f hb2 h
        refine Ab.skip ?_
        refine Nxt_norm ?_
        refine Ab.seq ?_
        obtain ⟨hq1, h⟩ := ask_dec h
        refine Ab.regT hE hC hL [[], [], [], [.n (pl0.length : Int)], [], [.c]] { keep := [0, 1, 2, 7], ren := [(7, 7)] } ⟨[(0, (.t ((eS 32 (eA 1 (T.int .u8))) pl0))), (1, (.t (.int .i64 (wi ((w64 pdepth0).tmod (7:Int)))))), (2, (.t (.int .i64 (wi ((w64 pindex0).tmod (w64 (pl0.length : Int))))))), (7, (.ref 7 [] (0)))], [(7, (.var false 25 (.t ((eA 1 (T.int .u8)) pother0))))]⟩ [((List.length (List.map (eA 1 (T.int .u8)) pl0) : Nat) : Int) = (pl0.length : Int), (w64 (pl0.length : Int)) ≠ 0] (by kernel_rfl) ⟨(len_of rfl), hq1, trivial⟩ ?_
        refine Nxt_norm ?_
        refine Ab.seq ?_
        obtain ⟨r1, hr1, h⟩ := bind_some h
        obtain ⟨r2, hr2, h⟩ := bind_some h
        refine Ab.regA hE hC hL [[], [.r [.row 25 32 (List.map (eA 1 (T.int .u8)) r1)] []], [], [.c], [.r [.tree ((eA 1 (T.int .u8)) r2.1), .tree (.int .i64 r2.2)] []]] { keep := [0, 1, 2, 7, 9, 10], ren := [(7, 7), (9, 9)] } ⟨[(0, (.t ((eS 32 (eA 1 (T.int .u8))) pl0))), (1, (.t (.int .i64 (wi ((w64 pdepth0).tmod (7:Int)))))), (2, (.t (.int .i64 (wi ((w64 pindex0).tmod (w64 (pl0.length : Int))))))), (7, (.ref 7 [] (0))), (9, (.ref 9 [] (0))), (10, (.t (.int .i64 r2.2)))], [(7, (.var false 25 (.t ((eA 1 (T.int .u8)) pother0)))), (9, (.var false 25 (.t ((eA 1 (T.int .u8)) r2.1))))]⟩ [(sp_law03_own n).fn [((eS 32 (eA 1 (T.int .u8))) pl0)] = some ([.row 25 32 (List.map (eA 1 (T.int .u8)) r1)], []), ¬ (wi ((w64 pdepth0).tmod (7:Int))) < 0, (sp_merkle_Tree n).fn [(.slc 32 (List.map (eA 1 (T.int .u8)) r1)), (.int .i64 (shl .i64 (1:Int) (wi ((w64 pdepth0).tmod (7:Int)))))] = some ([.tree ((eA 1 (T.int .u8)) r2.1), .tree (.int .i64 r2.2)], [])] (by kernel_rfl) (by kernel_rfl) ⟨(ap_law03_own n (by exact ⟨leT.refl _, trivial⟩) hr1), (Int.not_lt.2 hq0), (ap_merkle_Tree n (by exact ⟨leT.refl _, leT.refl _, trivial⟩) hr2), trivial⟩ ?_
        refine Nxt_norm ?_
        refine Ab.seq ?_
        obtain ⟨r3, hr3, h⟩ := bind_some h
        obtain ⟨r4, hr4, h⟩ := bind_some h
        refine Ab.regT hE hC hL [[], [.r [.row 25 32 (List.map (eA 1 (T.int .u8)) r3)] []], [], [], [.r [.row 25 32 (List.map (eA 1 (T.int .u8)) r4.1), .tree (.int .i64 r4.2)] []]] { keep := [0, 1, 2, 7, 9, 10, 11, 12], ren := [(7, 7), (9, 9), (52, 52)] } ⟨[(0, (.t ((eS 32 (eA 1 (T.int .u8))) pl0))), (1, (.t (.int .i64 (wi ((w64 pdepth0).tmod (7:Int)))))), (2, (.t (.int .i64 (wi ((w64 pindex0).tmod (w64 (pl0.length : Int))))))), (7, (.ref 7 [] (0))), (9, (.ref 9 [] (0))), (10, (.t (.int .i64 r2.2))), (11, (.own 52)), (12, (.t (.int .i64 r4.2)))], [(7, (.var false 25 (.t ((eA 1 (T.int .u8)) pother0)))), (9, (.var false 25 (.t ((eA 1 (T.int .u8)) r2.1)))), (52, (.row false 25 32 (List.map (eA 1 (T.int .u8)) r4.1)))]⟩ [(sp_law03_own n).fn [((eS 32 (eA 1 (T.int .u8))) pl0)] = some ([.row 25 32 (List.map (eA 1 (T.int .u8)) r3)], []), (sp_merkle_Branch n).fn [(.slc 32 (List.map (eA 1 (T.int .u8)) r3)), (.int .i64 (wi ((w64 pdepth0).tmod (7:Int)))), (.int .i64 (wi ((w64 pindex0).tmod (w64 (pl0.length : Int)))))] = some ([.row 25 32 (List.map (eA 1 (T.int .u8)) r4.1), .tree (.int .i64 r4.2)], [])] (by kernel_rfl) ⟨(ap_law03_own n (by exact ⟨leT.refl _, trivial⟩) hr3), (ap_merkle_Branch n (by exact ⟨leT.refl _, leT.refl _, leT.refl _, trivial⟩) hr4), trivial⟩ ?_
        refine Nxt_norm ?_
        refine Ab.seq ?_
        obtain ⟨r5, hr5, h⟩ := bind_some h
        refine Ab.regT hE hC hL [[], [.r [.row 25 32 (List.map (eA 1 (T.int .u8)) r5)] []]] { keep := [0, 1, 2, 7, 9, 10, 11, 12, 13], ren := [(7, 7), (9, 9), (52, 52), (56, 56)] } ⟨[(0, (.t ((eS 32 (eA 1 (T.int .u8))) pl0))), (1, (.t (.int .i64 (wi ((w64 pdepth0).tmod (7:Int)))))), (2, (.t (.int .i64 (wi ((w64 pindex0).tmod (w64 (pl0.length : Int))))))), (7, (.ref 7 [] (0))), (9, (.ref 9 [] (0))), (10, (.t (.int .i64 r2.2))), (11, (.own 52)), (12, (.t (.int .i64 r4.2))), (13, (.own 56))], [(7, (.var false 25 (.t ((eA 1 (T.int .u8)) pother0)))), (9, (.var false 25 (.t ((eA 1 (T.int .u8)) r2.1)))), (52, (.row false 25 32 (List.map (eA 1 (T.int .u8)) r4.1))), (56, (.row false 25 32 (List.map (eA 1 (T.int .u8)) r5)))]⟩ [(sp_law03_own n).fn [((eS 32 (eA 1 (T.int .u8))) pl0)] = some ([.row 25 32 (List.map (eA 1 (T.int .u8)) r5)], [])] (by kernel_rfl) ⟨(ap_law03_own n (by exact ⟨leT.refl _, trivial⟩) hr5), trivial⟩ ?_
        refine Nxt_norm ?_
        refine Ab.seq ?_
        obtain ⟨hq2, h⟩ := ask_dec h
        obtain ⟨hq3, h⟩ := ask_dec h
        obtain ⟨v0, hv0, h⟩ := bind_some h
        refine Ab.regT hE hC hL [[], [], [], [.c], [.t ((eA 1 (T.int .u8)) v0), .l (List.map (eA 1 (T.int .u8)) (List.set r5 ((wi ((w64 pindex0).tmod (w64 (pl0.length : Int)))).toNat) pother0))]] { keep := [0, 1, 2, 7, 9, 10, 11, 12, 13], ren := [(7, 7), (9, 9), (52, 52), (56, 56)] } ⟨[(0, (.t ((eS 32 (eA 1 (T.int .u8))) pl0))), (1, (.t (.int .i64 (wi ((w64 pdepth0).tmod (7:Int)))))), (2, (.t (.int .i64 (wi ((w64 pindex0).tmod (w64 (pl0.length : Int))))))), (7, (.ref 7 [] (0))), (9, (.ref 9 [] (0))), (10, (.t (.int .i64 r2.2))), (11, (.own 52)), (12, (.t (.int .i64 r4.2))), (13, (.own 56))], [(7, (.var false 25 (.t ((eA 1 (T.int .u8)) pother0)))), (9, (.var false 25 (.t ((eA 1 (T.int .u8)) r2.1)))), (52, (.row false 25 32 (List.map (eA 1 (T.int .u8)) r4.1))), (56, (.row false 25 32 (List.map (eA 1 (T.int .u8)) (List.set r5 ((wi ((w64 pindex0).tmod (w64 (pl0.length : Int)))).toNat) pother0))))]⟩ [0 ≤ (wi ((w64 pindex0).tmod (w64 (pl0.length : Int)))), (wi ((w64 pindex0).tmod (w64 (pl0.length : Int)))).toNat < List.length (List.map (eA 1 (T.int .u8)) r5), (wi ((w64 pindex0).tmod (w64 (pl0.length : Int)))).toNat * 32 + 0 = (wi ((w64 pindex0).tmod (w64 (pl0.length : Int)))).toNat * 32, (List.map (eA 1 (T.int .u8)) r5)[(wi ((w64 pindex0).tmod (w64 (pl0.length : Int)))).toNat]? = some ((eA 1 (T.int .u8)) v0), (List.map (eA 1 (T.int .u8)) r5)[(wi ((w64 pindex0).tmod (w64 (pl0.length : Int)))).toNat]? = some ((eA 1 (T.int .u8)) v0), (List.map (eA 1 (T.int .u8)) r5).set ((wi ((w64 pindex0).tmod (w64 (pl0.length : Int)))).toNat) ((eA 1 (T.int .u8)) pother0) = List.map (eA 1 (T.int .u8)) (List.set r5 ((wi ((w64 pindex0).tmod (w64 (pl0.length : Int)))).toNat) pother0)] (by kernel_rfl) ⟨hq2, (by rw [List.length_map]; exact hq3), (by omega), (at_map hv0), (at_map hv0), set_map, trivial⟩ ?_
        refine Nxt_norm ?_
        refine Ab.seq ?_
        obtain ⟨r6, hr6, h⟩ := bind_some h
        obtain ⟨r7, hr7, h⟩ := bind_some h
        refine Ab.regA hE hC hL [[], [.r [.row 25 32 (List.map (eA 1 (T.int .u8)) r6)] []], [], [.c], [.r [.tree ((eA 1 (T.int .u8)) r7.1), .tree (.int .i64 r7.2)] []]] { keep := [0, 1, 2, 7, 9, 10, 11, 12, 14, 15], ren := [(7, 7), (9, 9), (14, 14), (52, 52)] } ⟨[(0, (.t ((eS 32 (eA 1 (T.int .u8))) pl0))), (1, (.t (.int .i64 (wi ((w64 pdepth0).tmod (7:Int)))))), (2, (.t (.int .i64 (wi ((w64 pindex0).tmod (w64 (pl0.length : Int))))))), (7, (.ref 7 [] (0))), (9, (.ref 9 [] (0))), (10, (.t (.int .i64 r2.2))), (11, (.own 52)), (12, (.t (.int .i64 r4.2))), (14, (.ref 14 [] (0))), (15, (.t (.int .i64 r7.2)))], [(7, (.var false 25 (.t ((eA 1 (T.int .u8)) pother0)))), (9, (.var false 25 (.t ((eA 1 (T.int .u8)) r2.1)))), (14, (.var false 25 (.t ((eA 1 (T.int .u8)) r7.1)))), (52, (.row false 25 32 (List.map (eA 1 (T.int .u8)) r4.1)))]⟩ [(sp_law03_own n).fn [(.slc 32 (List.map (eA 1 (T.int .u8)) (List.set r5 ((wi ((w64 pindex0).tmod (w64 (pl0.length : Int)))).toNat) pother0)))] = some ([.row 25 32 (List.map (eA 1 (T.int .u8)) r6)], []), ¬ (wi ((w64 pdepth0).tmod (7:Int))) < 0, (sp_merkle_Tree n).fn [(.slc 32 (List.map (eA 1 (T.int .u8)) r6)), (.int .i64 (shl .i64 (1:Int) (wi ((w64 pdepth0).tmod (7:Int)))))] = some ([.tree ((eA 1 (T.int .u8)) r7.1), .tree (.int .i64 r7.2)], [])] (by kernel_rfl) (by kernel_rfl) ⟨(ap_law03_own n (by exact ⟨leT.refl _, trivial⟩) hr6), (Int.not_lt.2 hq0), (ap_merkle_Tree n (by exact ⟨leT.refl _, leT.refl _, trivial⟩) hr7), trivial⟩ ?_
        refine Nxt_norm ?_
        refine Ab.seq ?_
        rcases Bool.eq_false_or_eq_true (r2.2 == (0:Int)) with hb3 | hb3
        · replace h := cond_t hb3 h
          rcases Bool.eq_false_or_eq_true (r4.2 == (0:Int)) with hb4 | hb4
          · replace h := cond_t hb4 h
            rcases Bool.eq_false_or_eq_true (r7.2 == (0:Int)) with hb5 | hb5
            · replace h := cond_t hb5 h
              rcases Bool.eq_false_or_eq_true ((r4.1.length : Int) == (wi ((w64 pdepth0).tmod (7:Int)))) with hb6 | hb6
              · replace h := cond_t hb6 h
                obtain ⟨v1, hv1, h⟩ := bind_some h
                obtain ⟨r8, hr8, h⟩ := bind_some h
                rcases Bool.eq_false_or_eq_true r8 with hb7 | hb7
                · replace h := cond_t hb7 h
                  obtain ⟨r9, hr9, h⟩ := bind_some h
                  rcases Bool.eq_false_or_eq_true r9 with hb8 | hb8
                  · replace h := cond_t hb8 h
                    obtain ⟨r10, hr10, h⟩ := bind_some h
                    refine Ab.regA hE hC hL [[], [], [.b true], [], [], [], [.b true], [], [], [], [.b true], [], [.n (r4.1.length : Int)], [], [], [], [.b true], [], [], [.t ((eA 1 (T.int .u8)) v1)], [], [], [], [], [], [.r [.tree (.bool r8)] []], [], [.b true], [], [], [], [], [], [.r [.tree (.bool r9)] []], [], [.b true], [], [], [.b (decide (r2.1 = r7.1))], [], [], [], [], [], [.r [.tree (.bool r10)] []]] { keep := [8], ren := [] } ⟨[(8, (.t (.bool ((decide (r2.1 = r7.1)) == r10))))], []⟩ [(r2.2 == (0:Int)) = true, (r4.2 == (0:Int)) = true, (r7.2 == (0:Int)) = true, ((List.length (List.map (eA 1 (T.int .u8)) r4.1) : Nat) : Int) = (r4.1.length : Int), ((r4.1.length : Int) == (wi ((w64 pdepth0).tmod (7:Int)))) = true, 0 ≤ (wi ((w64 pindex0).tmod (w64 (pl0.length : Int)))), (List.map (eA 1 (T.int .u8)) pl0)[(wi ((w64 pindex0).tmod (w64 (pl0.length : Int)))).toNat]? = some ((eA 1 (T.int .u8)) v1), (sp_merkle_Verify n).fn [((eA 1 (T.int .u8)) v1), (.slc 32 (List.map (eA 1 (T.int .u8)) r4.1)), (.int .u64 (w64 (wi ((w64 pindex0).tmod (w64 (pl0.length : Int)))))), ((eA 1 (T.int .u8)) r2.1)] = some ([.tree (.bool r8)], []), r8 = true, (sp_merkle_Verify n).fn [((eA 1 (T.int .u8)) pother0), (.slc 32 (List.map (eA 1 (T.int .u8)) r4.1)), (.int .u64 (w64 (wi ((w64 pindex0).tmod (w64 (pl0.length : Int)))))), ((eA 1 (T.int .u8)) r7.1)] = some ([.tree (.bool r9)], []), r9 = true, binOp (E_law03_MerkleProves n) .eql 25 (.t ((eA 1 (T.int .u8)) r2.1)) (.t ((eA 1 (T.int .u8)) r7.1)) = some (.bool (decide (r2.1 = r7.1))), (sp_merkle_Verify n).fn [((eA 1 (T.int .u8)) pother0), (.slc 32 (List.map (eA 1 (T.int .u8)) r4.1)), (.int .u64 (w64 (wi ((w64 pindex0).tmod (w64 (pl0.length : Int)))))), ((eA 1 (T.int .u8)) r2.1)] = some ([.tree (.bool r10)], [])] (by kernel_rfl) (by kernel_rfl) ⟨hb3, hb4, hb5, (len_of rfl), hb6, hq2, (at_map hv1), (ap_merkle_Verify n (by exact ⟨leT.refl _, leT.refl _, leT.refl _, leT.refl _, trivial⟩) hr8), hb7, (ap_merkle_Verify n (by exact ⟨leT.refl _, leT.refl _, leT.refl _, leT.refl _, trivial⟩) hr9), hb8, (beql_25 _ rfl _ _), (ap_merkle_Verify n (by exact ⟨leT.refl _, leT.refl _, leT.refl _, leT.refl _, trivial⟩) hr10), trivial⟩ ?_
                    refine Nxt_norm ?_
                    refine Ab.ret ?_
                    obtain rfl := Option.some.inj h
                    exact End_ret (doneO_ok (md := [false]) (by kernel_rfl))
                  · replace h := cond_f hb8 h
                    refine Ab.regA hE hC hL [[], [], [.b true], [], [], [], [.b true], [], [], [], [.b true], [], [.n (r4.1.length : Int)], [], [], [], [.b true], [], [], [.t ((eA 1 (T.int .u8)) v1)], [], [], [], [], [], [.r [.tree (.bool r8)] []], [], [.b true], [], [], [], [], [], [.r [.tree (.bool r9)] []], [], [.b false]] { keep := [8], ren := [] } ⟨[(8, (.t (.bool false)))], []⟩ [(r2.2 == (0:Int)) = true, (r4.2 == (0:Int)) = true, (r7.2 == (0:Int)) = true, ((List.length (List.map (eA 1 (T.int .u8)) r4.1) : Nat) : Int) = (r4.1.length : Int), ((r4.1.length : Int) == (wi ((w64 pdepth0).tmod (7:Int)))) = true, 0 ≤ (wi ((w64 pindex0).tmod (w64 (pl0.length : Int)))), (List.map (eA 1 (T.int .u8)) pl0)[(wi ((w64 pindex0).tmod (w64 (pl0.length : Int)))).toNat]? = some ((eA 1 (T.int .u8)) v1), (sp_merkle_Verify n).fn [((eA 1 (T.int .u8)) v1), (.slc 32 (List.map (eA 1 (T.int .u8)) r4.1)), (.int .u64 (w64 (wi ((w64 pindex0).tmod (w64 (pl0.length : Int)))))), ((eA 1 (T.int .u8)) r2.1)] = some ([.tree (.bool r8)], []), r8 = true, (sp_merkle_Verify n).fn [((eA 1 (T.int .u8)) pother0), (.slc 32 (List.map (eA 1 (T.int .u8)) r4.1)), (.int .u64 (w64 (wi ((w64 pindex0).tmod (w64 (pl0.length : Int)))))), ((eA 1 (T.int .u8)) r7.1)] = some ([.tree (.bool r9)], []), r9 = false] (by kernel_rfl) (by kernel_rfl) ⟨hb3, hb4, hb5, (len_of rfl), hb6, hq2, (at_map hv1), (ap_merkle_Verify n (by exact ⟨leT.refl _, leT.refl _, leT.refl _, leT.refl _, trivial⟩) hr8), hb7, (ap_merkle_Verify n (by exact ⟨leT.refl _, leT.refl _, leT.refl _, leT.refl _, trivial⟩) hr9), hb8, trivial⟩ ?_
                    refine Nxt_norm ?_
                    refine Ab.ret ?_
                    obtain rfl := Option.some.inj h
                    exact End_ret (doneO_ok (md := [false]) (by kernel_rfl))
                · replace h := cond_f hb7 h
                  refine Ab.regA hE hC hL [[], [], [.b true], [], [], [], [.b true], [], [], [], [.b true], [], [.n (r4.1.length : Int)], [], [], [], [.b true], [], [], [.t ((eA 1 (T.int .u8)) v1)], [], [], [], [], [], [.r [.tree (.bool r8)] []], [], [.b false]] { keep := [8], ren := [] } ⟨[(8, (.t (.bool false)))], []⟩ [(r2.2 == (0:Int)) = true, (r4.2 == (0:Int)) = true, (r7.2 == (0:Int)) = true, ((List.length (List.map (eA 1 (T.int .u8)) r4.1) : Nat) : Int) = (r4.1.length : Int), ((r4.1.length : Int) == (wi ((w64 pdepth0).tmod (7:Int)))) = true, 0 ≤ (wi ((w64 pindex0).tmod (w64 (pl0.length : Int)))), (List.map (eA 1 (T.int .u8)) pl0)[(wi ((w64 pindex0).tmod (w64 (pl0.length : Int)))).toNat]? = some ((eA 1 (T.int .u8)) v1), (sp_merkle_Verify n).fn [((eA 1 (T.int .u8)) v1), (.slc 32 (List.map (eA 1 (T.int .u8)) r4.1)), (.int .u64 (w64 (wi ((w64 pindex0).tmod (w64 (pl0.length : Int)))))), ((eA 1 (T.int .u8)) r2.1)] = some ([.tree (.bool r8)], []), r8 = false] (by kernel_rfl) (by kernel_rfl) ⟨hb3, hb4, hb5, (len_of rfl), hb6, hq2, (at_map hv1), (ap_merkle_Verify n (by exact ⟨leT.refl _, leT.refl _, leT.refl _, leT.refl _, trivial⟩) hr8), hb7, trivial⟩ ?_
                  refine Nxt_norm ?_
                  refine Ab.ret ?_
                  obtain rfl := Option.some.inj h
                  exact End_ret (doneO_ok (md := [false]) (by kernel_rfl))
              · replace h := cond_f hb6 h
                refine Ab.regA hE hC hL [[], [], [.b true], [], [], [], [.b true], [], [], [], [.b true], [], [.n (r4.1.length : Int)], [], [], [], [.b false]] { keep := [8], ren := [] } ⟨[(8, (.t (.bool false)))], []⟩ [(r2.2 == (0:Int)) = true, (r4.2 == (0:Int)) = true, (r7.2 == (0:Int)) = true, ((List.length (List.map (eA 1 (T.int .u8)) r4.1) : Nat) : Int) = (r4.1.length : Int), ((r4.1.length : Int) == (wi ((w64 pdepth0).tmod (7:Int)))) = false] (by kernel_rfl) (by kernel_rfl) ⟨hb3, hb4, hb5, (len_of rfl), hb6, trivial⟩ ?_
                refine Nxt_norm ?_
                refine Ab.ret ?_
                obtain rfl := Option.some.inj h
                exact End_ret (doneO_ok (md := [false]) (by kernel_rfl))
            · replace h := cond_f hb5 h
              refine Ab.regA hE hC hL [[], [], [.b true], [], [], [], [.b true], [], [], [], [.b false]] { keep := [8], ren := [] } ⟨[(8, (.t (.bool false)))], []⟩ [(r2.2 == (0:Int)) = true, (r4.2 == (0:Int)) = true, (r7.2 == (0:Int)) = false] (by kernel_rfl) (by kernel_rfl) ⟨hb3, hb4, hb5, trivial⟩ ?_
              refine Nxt_norm ?_
              refine Ab.ret ?_
              obtain rfl := Option.some.inj h
              exact End_ret (doneO_ok (md := [false]) (by kernel_rfl))
          · replace h := cond_f hb4 h
            refine Ab.regA hE hC hL [[], [], [.b true], [], [], [], [.b false]] { keep := [8], ren := [] } ⟨[(8, (.t (.bool false)))], []⟩ [(r2.2 == (0:Int)) = true, (r4.2 == (0:Int)) = false] (by kernel_rfl) (by kernel_rfl) ⟨hb3, hb4, trivial⟩ ?_
            refine Nxt_norm ?_
            refine Ab.ret ?_
            obtain rfl := Option.some.inj h
            exact End_ret (doneO_ok (md := [false]) (by kernel_rfl))
        · replace h := cond_f hb3 h
          refine Ab.regA hE hC hL [[], [], [.b false]] { keep := [8], ren := [] } ⟨[(8, (.t (.bool false)))], []⟩ [(r2.2 == (0:Int)) = false] (by kernel_rfl) (by kernel_rfl) ⟨hb3, trivial⟩ ?_
          refine Nxt_norm ?_
          refine Ab.ret ?_
          obtain rfl := Option.some.inj h
          exact End_ret (doneO_ok (md := [false]) (by kernel_rfl))

end Go.Mg
