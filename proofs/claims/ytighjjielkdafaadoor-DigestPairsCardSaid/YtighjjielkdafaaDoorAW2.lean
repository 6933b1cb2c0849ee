/- The model's code computes these functions. -/
import Derived.Test.YtighjjielkdafaaDoorAW1
namespace Go.Mg
open Go Go.Proofs
def ea_ref02_Hex (a : (Arr 32 Int)) : List T := [(eA 1 (T.int .u8)) a]
def er_ref02_Hex (r : ByteArray) : List RR × List T := ([.tree (T.str r)], [])
noncomputable def sp_ref02_Hex (n : Nat) : Spec := specP [] true ea_ref02_Hex (fun a => f_ref02_Hex n a) (fun _ r => er_ref02_Hex r)
theorem ap_ref02_Hex (n : Nat) {ts : List T} {a0 : (Arr 32 Int)} {r : ByteArray} (hle : leTs ts [(eA 1 (T.int .u8)) a0]) (h : f_ref02_Hex n a0 = some r) : (sp_ref02_Hex n).fn ts = some ([.tree (T.str r)], []) :=
  specP_fn (a := a0) (InjA.one (inj_eA (inj_int _))) hle h
noncomputable def E_ref02_Hex (n : Nat) : Env := { ty := tyT, glob := glob, fns := get [], ntmps := 28 }
theorem eok_ref02_Hex (n : Nat) : EnvOK Tryd.prog (E_ref02_Hex n) := ⟨tys_ok tys_chk, prog_mixed, fns_nil⟩
def K_ref02_Hex (n : Nat) (pr0 : (Arr 32 Int)) (r : ByteArray) : St → Prop := Done (E_ref02_Hex n) Tryd.f19.results.toList [] (ea_ref02_Hex pr0) (er_ref02_Hex r).1 (er_ref02_Hex r).2
set_option maxRecDepth 100000 in
set_option maxHeartbeats 4000000 in
theorem ok_ref02_Hex (n : Nat) : SpecOK Tryd.prog glob 19 (sp_ref02_Hex n) := by
  refine specP_ok (fn := Tryd.f19) (eok_ref02_Hex n) (by kernel_rfl) rfl (by decide +kernel) (by kernel_rfl) (fun _ => by show 1 ≤ 28; omega) (fun _ _ r => ⟨(rrf_tree ((fun _ => rfl) _) rrf_nil), flats_nil⟩) ?_
  rintro pr0 r h C hL hC
  have hE := eok_ref02_Hex n
  replace hL : ∀ n g, (n, g) ∈ C.lent → n ∈ ([] : List Nat) := hL
  replace h : f_ref02_Hex n pr0 = some r := h
  show Ab _ _ _ _ _ (End (K_ref02_Hex n pr0 r))
  unfold f_ref02_Hex at h
  refine Ab.seq ?_
  refine Ab.regT hE hC hL [] { keep := [1], ren := [(1, 1)] } ⟨[(1, (.ref 1 [] (0)))], [(1, (.var false 24 (.t ((eA 1 (T.int .u8)) pr0))))]⟩ [] (by kernel_rfl) trivial ?_
  refine Nxt_norm ?_
  refine Ab.seq ?_
  refine Ab.regT hE hC hL [] { keep := [1, 3], ren := [(1, 1)] } ⟨[(1, (.ref 1 [] (0))), (3, (.t (.str str_2)))], [(1, (.var false 24 (.t ((eA 1 (T.int .u8)) pr0))))]⟩ [] (by kernel_rfl) trivial ?_
  refine Nxt_norm ?_
  refine Ab.seq ?_
  refine Ab.regT hE hC hL [[.l (List.map (T.int .u8) (List.replicate 64 (0:Int)))]] { keep := [1, 3, 4], ren := [(1, 1), (6, 6)] } ⟨[(1, (.ref 1 [] (0))), (3, (.t (.str str_2))), (4, (.own 6))], [(1, (.var false 24 (.t ((eA 1 (T.int .u8)) pr0)))), (6, (.row false 5 1 (List.map (T.int .u8) (List.replicate 64 (0:Int)))))]⟩ [0 ≤ (64:Int), ((64:Int) = (64:Int) ∨ (64:Int) = 0), (64:Int) ≤ (64:Int), ((1 : Nat) : Int) * (64:Int) ≤ 140737488355328, (64:Int) ≤ 140737488355328, List.replicate ((64:Int)).toNat (.int .u8 0) = List.map (T.int .u8) (List.replicate 64 (0:Int))] (by kernel_rfl) ⟨(by decide), (by decide), (by decide), (by decide), (by decide), (rep_map rfl), trivial⟩ ?_
  refine Nxt_norm ?_
  refine Ab.seq ?_
  refine Ab.seq ?_
  refine Ab.regT hE hC hL [] { keep := [1, 3, 4, 5], ren := [(1, 1), (6, 6)] } ⟨[(1, (.ref 1 [] (0))), (3, (.t (.str str_2))), (4, (.own 6)), (5, (.t (.int .i64 (0:Int))))], [(1, (.var false 24 (.t ((eA 1 (T.int .u8)) pr0)))), (6, (.row false 5 1 (List.map (T.int .u8) (List.replicate 64 (0:Int)))))]⟩ [] (by kernel_rfl) trivial ?_
  refine Nxt_norm ?_
  obtain ⟨x0, hx0, h⟩ := bind_some h
  refine Ab.loopX0 (fun ((a0, a1) : ((List Int) × Int)) => (⟨[(1, (.ref 49000 [] (0))), (3, (.t (.str str_2))), (4, (.own 49001)), (5, (.t (.int .i64 a1)))], [(49000, (.var false 24 (.t ((eA 1 (T.int .u8)) pr0)))), (49001, (.row false 5 1 (List.map (T.int .u8) a0)))]⟩ : St)) (fun (a2 : (List Int)) => (⟨[(4, (.own 49000))], [(49000, (.row false 5 1 (List.map (T.int .u8) a2)))]⟩ : St)) { fs := [], keep := [1, 3, 4, 5], ren := [(1, 49000), (6, 49001)] } ((List.replicate 64 (0:Int)), (0:Int)) hC hL hx0 (by kernel_rfl) ?_ ?_
  · rintro ⟨a0, a1⟩ o0 h
    replace h : f_ref02_Hex_b0 n pr0 a0 a1 = some o0 := h
    unfold f_ref02_Hex_b0 at h
    refine Ab.seq ?_
    refine Ab.seq ?_
    refine Ab.regT hE hC hL [] { keep := [1, 3, 4, 5, 8], ren := [(49000, 49000), (49001, 49001)] } ⟨[(1, (.ref 49000 [] (0))), (3, (.t (.str str_2))), (4, (.own 49001)), (5, (.t (.int .i64 a1))), (8, (.t (.bool (decide (a1 < (64:Int))))))], [(49000, (.var false 24 (.t ((eA 1 (T.int .u8)) pr0)))), (49001, (.row false 5 1 (List.map (T.int .u8) a0)))]⟩ [] (by kernel_rfl) trivial ?_
    refine Nxt_norm ?_
    refine Ab.cond (b := (decide (a1 < (64:Int)))) (by kernel_rfl) (fun hb0 => ?_) (fun hb0 => ?_)
    · replace h := cond_t hb0 h
      refine Ab.skip ?_
      refine Nxt_norm ?_
      refine Ab.seq ?_
      refine Ab.block ?_
      obtain ⟨hq0, h⟩ := ask_dec h
      obtain ⟨hq1, h⟩ := ask_dec h
      obtain ⟨v0, hv0, h⟩ := bind_some h
      obtain ⟨hq2, h⟩ := ask_dec h
      obtain ⟨hq3, h⟩ := ask_dec h
      obtain ⟨v1, hv1, h⟩ := bind_some h
      obtain ⟨hq4, h⟩ := ask_dec h
      obtain ⟨hq5, h⟩ := ask_dec h
      obtain ⟨v2, hv2, h⟩ := bind_some h
      refine Ab.regT hE hC hL [[], [], [], [], [], [.c], [.t (.int .u8 v0)], [], [], [], [], [.c], [], [.n v1], [.c], [.t (.int .u8 v2), .l (List.map (T.int .u8) (List.set a0 a1.toNat v1))]] { keep := [1, 3, 4, 5], ren := [(49000, 49000), (49001, 49001)] } ⟨[(1, (.ref 49000 [] (0))), (3, (.t (.str str_2))), (4, (.own 49001)), (5, (.t (.int .i64 a1)))], [(49000, (.var false 24 (.t ((eA 1 (T.int .u8)) pr0)))), (49001, (.row false 5 1 (List.map (T.int .u8) (List.set a0 a1.toNat v1))))]⟩ [0 ≤ (wi (a1.tdiv (2:Int))), (wi (a1.tdiv (2:Int))) < ((32 : Nat) : Int), (wi (a1.tdiv (2:Int))).toNat * 1 + 0 = 0 + (wi (a1.tdiv (2:Int))).toNat * 1, (List.map (T.int .u8) pr0.l)[(wi (a1.tdiv (2:Int))).toNat]? = some (.int .u8 v0), ¬ (wi ((4:Int) * (wi ((1:Int) - (a1.tmod (2:Int)))))) < 0, 0 ≤ (bits .and .u8 (shr .u8 v0 (wi ((4:Int) * (wi ((1:Int) - (a1.tmod (2:Int))))))) (15:Int)), (str_2.data[(bits .and .u8 (shr .u8 v0 (wi ((4:Int) * (wi ((1:Int) - (a1.tmod (2:Int))))))) (15:Int)).toNat]?).map (fun b => (b.toNat : Int)) = some v1, 0 ≤ a1, a1.toNat < List.length (List.map (T.int .u8) a0), a1.toNat * 1 + 0 = a1.toNat * 1, (List.map (T.int .u8) a0)[a1.toNat]? = some (.int .u8 v2), (List.map (T.int .u8) a0)[a1.toNat]? = some (.int .u8 v2), (List.map (T.int .u8) a0).set a1.toNat (.int .u8 v1) = List.map (T.int .u8) (List.set a0 a1.toNat v1)] (by kernel_rfl) ⟨hq0, hq1, (by omega), (at_map hv0), (Int.not_lt.2 hq2), hq3, hv1, hq4, (by rw [List.length_map]; exact hq5), (by omega), (at_map hv2), (at_map hv2), set_map, trivial⟩ ?_
      refine Blk_norm ?_
      refine Nxt_norm ?_
      refine Ab.regT hE hC hL [] { keep := [1, 3, 4, 5], ren := [(49000, 49000), (49001, 49001)] } ⟨[(1, (.ref 49000 [] (0))), (3, (.t (.str str_2))), (4, (.own 49001)), (5, (.t (.int .i64 (wi (a1 + (1:Int))))))], [(49000, (.var false 24 (.t ((eA 1 (T.int .u8)) pr0)))), (49001, (.row false 5 1 (List.map (T.int .u8) (List.set a0 a1.toNat v1))))]⟩ [] (by kernel_rfl) trivial ?_
      exact LK_norm ((List.set a0 a1.toNat v1), (wi (a1 + (1:Int)))) { fs := [], keep := [1, 3, 4, 5], ren := [(49000, 49000), (49001, 49001)] } h (by kernel_rfl)
    · replace h := cond_f hb0 h
      refine Ab.exit ?_
      refine Nxt_exit ?_
      exact LK_exit a0 h (PX_mk { fs := [], keep := [4], ren := [(49001, 49000)] } (by kernel_rfl))
  · refine Nxt_norm ?_
    refine Ab.seq ?_
    refine Ab.regT hE hC hL [[], [.s (strOf x0)]] { keep := [2], ren := [] } ⟨[(2, (.t (.str (strOf x0))))], []⟩ [(bytesOf (List.map (T.int .u8) x0)).map (fun b => (⟨b.toArray⟩ : ByteArray)) = some (strOf x0)] (by kernel_rfl) ⟨(bytes_strOf rfl), trivial⟩ ?_
    refine Nxt_norm ?_
    refine Ab.ret ?_
    obtain rfl := Option.some.inj h
    exact End_ret (doneO_ok (md := [false]) (by kernel_rfl))
def ea_law02_DigestPairs (a : (Arr 32 Int) × (Arr 32 Int)) : List T := [(eA 1 (T.int .u8)) a.1, (eA 1 (T.int .u8)) a.2]
def er_law02_DigestPairs (r : Bool) : List RR × List T := ([.tree (T.bool r)], [])
noncomputable def sp_law02_DigestPairs (n : Nat) : Spec := specP [] true ea_law02_DigestPairs (fun a => f_law02_DigestPairs n a.1 a.2) (fun _ r => er_law02_DigestPairs r)
theorem ap_law02_DigestPairs (n : Nat) {ts : List T} {a0 : (Arr 32 Int)} {a1 : (Arr 32 Int)} {r : Bool} (hle : leTs ts [(eA 1 (T.int .u8)) a0, (eA 1 (T.int .u8)) a1]) (h : f_law02_DigestPairs n a0 a1 = some r) : (sp_law02_DigestPairs n).fn ts = some ([.tree (T.bool r)], []) :=
  specP_fn (a := (a0, a1)) (InjA.cons (inj_eA (inj_int _)) (InjA.one (inj_eA (inj_int _)))) hle h
noncomputable def E_law02_DigestPairs (n : Nat) : Env := { ty := tyT, glob := glob, fns := get [(13, sp_law02_Awake n), (14, sp_digest_Of n), (16, sp_digest_Pair n), (17, sp_ref02_Pair n), (18, sp_digest_Hex n), (19, sp_ref02_Hex n)], ntmps := 35 }
theorem eok_law02_DigestPairs (n : Nat) : EnvOK Tryd.prog (E_law02_DigestPairs n) := ⟨tys_ok tys_chk, prog_mixed, (fns_cons (ok_law02_Awake n) (fns_cons (ok_digest_Of n) (fns_cons (ok_digest_Pair n) (fns_cons (ok_ref02_Pair n) (fns_cons (ok_digest_Hex n) (fns_cons (ok_ref02_Hex n) fns_nil))))))⟩
def K_law02_DigestPairs (n : Nat) (pa0 : (Arr 32 Int)) (pb0 : (Arr 32 Int)) (r : Bool) : St → Prop := Done (E_law02_DigestPairs n) Tryd.f5.results.toList [] (ea_law02_DigestPairs (pa0, pb0)) (er_law02_DigestPairs r).1 (er_law02_DigestPairs r).2
set_option maxRecDepth 100000 in
set_option maxHeartbeats 4000000 in
theorem ok_law02_DigestPairs (n : Nat) : SpecB Tryd.prog glob 5 (sp_law02_DigestPairs n) := by
  refine specP_B (fn := Tryd.f5) (eok_law02_DigestPairs n) (by kernel_rfl) rfl (by decide +kernel) (by kernel_rfl) (fun _ => by show 2 ≤ 35; omega)  ?_
  rintro ⟨pa0, pb0⟩ r h C hL hC
  have hE := eok_law02_DigestPairs n
  replace hL : ∀ n g, (n, g) ∈ C.lent → n ∈ ([] : List Nat) := hL
  replace h : f_law02_DigestPairs n pa0 pb0 = some r := h
  show Ab _ _ _ _ _ (End (K_law02_DigestPairs n pa0 pb0 r))
  unfold f_law02_DigestPairs at h
  refine Ab.seq ?_
  refine Ab.regT hE hC hL [] { keep := [2, 3], ren := [(2, 2), (3, 3)] } ⟨[(2, (.ref 2 [] (0))), (3, (.ref 3 [] (0)))], [(2, (.var false 24 (.t ((eA 1 (T.int .u8)) pa0)))), (3, (.var false 24 (.t ((eA 1 (T.int .u8)) pb0))))]⟩ [] (by kernel_rfl) trivial ?_
  refine Nxt_norm ?_
  refine Ab.seq ?_
  refine Ab.seq ?_
  obtain ⟨r0, hr0, h⟩ := bind_some h
  refine Ab.regT hE hC hL [[.r [.tree (.bool r0)] []]] { keep := [2, 3, 7], ren := [(2, 2), (3, 3)] } ⟨[(2, (.ref 2 [] (0))), (3, (.ref 3 [] (0))), (7, (.t (.bool (!r0))))], [(2, (.var false 24 (.t ((eA 1 (T.int .u8)) pa0)))), (3, (.var false 24 (.t ((eA 1 (T.int .u8)) pb0))))]⟩ [(sp_law02_Awake n).fn [] = some ([.tree (.bool r0)], [])] (by kernel_rfl) ⟨(ap_law02_Awake n (by exact trivial) hr0), trivial⟩ ?_
  refine Nxt_norm ?_
  refine Ab.cond (b := (!r0)) (by kernel_rfl) (fun hb0 => ?_) (fun hb0 => ?_)
  · replace h := cond_t hb0 h
    refine Ab.seq ?_
    refine Ab.regT hE hC hL [] { keep := [4], ren := [] } ⟨[(4, (.t (.bool false)))], []⟩ [] (by kernel_rfl) trivial ?_
    refine Nxt_norm ?_
    refine Ab.ret ?_
    refine Nxt_ret ?_
    obtain rfl := Option.some.inj h
    exact End_ret (doneO_ok (md := [false]) (by kernel_rfl))
  · replace h := cond_f hb0 h
    refine Ab.skip ?_
    refine Nxt_norm ?_
    refine Ab.seq ?_
    obtain ⟨hq0, h⟩ := ask_dec h
    obtain ⟨hq1, h⟩ := ask_dec h
    refine Ab.regA hE hC hL [[], [], [.l (List.map (T.int .u8) (([] : List Int) ++ pa0.l))], [], [.l (List.map (T.int .u8) ((([] : List Int) ++ pa0.l) ++ pb0.l))]] { keep := [2, 3, 5], ren := [(2, 2), (3, 3), (12, 12)] } ⟨[(2, (.ref 2 [] (0))), (3, (.ref 3 [] (0))), (5, (.own 12))], [(2, (.var false 24 (.t ((eA 1 (T.int .u8)) pa0)))), (3, (.var false 24 (.t ((eA 1 (T.int .u8)) pb0)))), (12, (.row false 5 1 (List.map (T.int .u8) ((([] : List Int) ++ pa0.l) ++ pb0.l))))]⟩ [(List.length (List.map (T.int .u8) ([] : List Int)) + List.length (List.take 32 (List.drop 0 (List.map (T.int .u8) pa0.l)))) * 1 ≤ maxBytes, List.length (List.map (T.int .u8) ([] : List Int)) + List.length (List.take 32 (List.drop 0 (List.map (T.int .u8) pa0.l))) ≤ maxBytes, (List.map (T.int .u8) ([] : List Int)) ++ (List.take 32 (List.drop 0 (List.map (T.int .u8) pa0.l))) = List.map (T.int .u8) (([] : List Int) ++ pa0.l), 0 + 32 ≤ List.length (List.map (T.int .u8) pa0.l), 0 = 0 + 0 * 1, (List.length (List.map (T.int .u8) (([] : List Int) ++ pa0.l)) + List.length (List.take 32 (List.drop 0 (List.map (T.int .u8) pb0.l)))) * 1 ≤ maxBytes, List.length (List.map (T.int .u8) (([] : List Int) ++ pa0.l)) + List.length (List.take 32 (List.drop 0 (List.map (T.int .u8) pb0.l))) ≤ maxBytes, (List.map (T.int .u8) (([] : List Int) ++ pa0.l)) ++ (List.take 32 (List.drop 0 (List.map (T.int .u8) pb0.l))) = List.map (T.int .u8) ((([] : List Int) ++ pa0.l) ++ pb0.l), 0 + 32 ≤ List.length (List.map (T.int .u8) pb0.l), 0 = 0 + 0 * 1] (by kernel_rfl) (by kernel_rfl) ⟨(app_b rfl (win_all pa0) hq0), (app_c rfl (win_all pa0) (by decide) hq0), (app_of rfl (win_all pa0)), (by simp only [List.length_map, List.length_take, List.length_drop, List.length_set, List.length_append, Arr.h]; omega), (by omega), (app_b rfl (win_all pb0) hq1), (app_c rfl (win_all pb0) (by decide) hq1), (app_of rfl (win_all pb0)), (by simp only [List.length_map, List.length_take, List.length_drop, List.length_set, List.length_append, Arr.h]; omega), (by omega), trivial⟩ ?_
    refine Nxt_norm ?_
    refine Ab.seq ?_
    obtain ⟨r1, hr1, h⟩ := bind_some h
    obtain ⟨r2, hr2, h⟩ := bind_some h
    rcases Bool.eq_false_or_eq_true (decide (r1 = r2)) with hb1 | hb1
    · replace h := cond_t hb1 h
      obtain ⟨r3, hr3, h⟩ := bind_some h
      rcases Bool.eq_false_or_eq_true (decide (r1 = r3)) with hb2 | hb2
      · replace h := cond_t hb2 h
        obtain ⟨r4, hr4, h⟩ := bind_some h
        obtain ⟨r5, hr5, h⟩ := bind_some h
        refine Ab.regA hE hC hL [[], [], [.r [.tree ((eA 1 (T.int .u8)) r1)] []], [], [.r [.tree ((eA 1 (T.int .u8)) r2)] []], [.b (decide (r1 = r2))], [.b true], [], [], [.r [.tree ((eA 1 (T.int .u8)) r1)] []], [], [], [.r [.tree ((eA 1 (T.int .u8)) r3)] []], [.b (decide (r1 = r3))], [], [.b true], [], [.r [.tree (.str r4)] []], [], [.r [.tree (.str r5)] []]] { keep := [4], ren := [] } ⟨[(4, (.t (.bool (r4.toList == r5.toList))))], []⟩ [(sp_digest_Pair n).fn [((eA 1 (T.int .u8)) pa0), ((eA 1 (T.int .u8)) pb0)] = some ([.tree ((eA 1 (T.int .u8)) r1)], []), (sp_digest_Of n).fn [(.slc 1 (List.map (T.int .u8) ((([] : List Int) ++ pa0.l) ++ pb0.l)))] = some ([.tree ((eA 1 (T.int .u8)) r2)], []), binOp (E_law02_DigestPairs n) .eql 25 (.t ((eA 1 (T.int .u8)) r1)) (.t ((eA 1 (T.int .u8)) r2)) = some (.bool (decide (r1 = r2))), (decide (r1 = r2)) = true, (sp_digest_Pair n).fn [((eA 1 (T.int .u8)) pa0), ((eA 1 (T.int .u8)) pb0)] = some ([.tree ((eA 1 (T.int .u8)) r1)], []), (sp_ref02_Pair n).fn [((eA 1 (T.int .u8)) pa0), ((eA 1 (T.int .u8)) pb0)] = some ([.tree ((eA 1 (T.int .u8)) r3)], []), binOp (E_law02_DigestPairs n) .eql 24 (.t ((eA 1 (T.int .u8)) r1)) (.t ((eA 1 (T.int .u8)) r3)) = some (.bool (decide (r1 = r3))), (decide (r1 = r3)) = true, (sp_digest_Hex n).fn [((eA 1 (T.int .u8)) pa0)] = some ([.tree (.str r4)], []), (sp_ref02_Hex n).fn [((eA 1 (T.int .u8)) pa0)] = some ([.tree (.str r5)], [])] (by kernel_rfl) (by kernel_rfl) ⟨(ap_digest_Pair n (by exact ⟨leT.refl _, leT.refl _, trivial⟩) hr1), (ap_digest_Of n (by exact ⟨leT.refl _, trivial⟩) hr2), (beql_25 _ rfl _ _), hb1, (ap_digest_Pair n (by exact ⟨leT.refl _, leT.refl _, trivial⟩) hr1), (ap_ref02_Pair n (by exact ⟨leT.refl _, leT.refl _, trivial⟩) hr3), (beql_24 _ rfl _ _), hb2, (ap_digest_Hex n (by exact ⟨leT.refl _, trivial⟩) hr4), (ap_ref02_Hex n (by exact ⟨leT.refl _, trivial⟩) hr5), trivial⟩ ?_
        refine Nxt_norm ?_
        refine Ab.ret ?_
        obtain rfl := Option.some.inj h
        exact End_ret (doneO_ok (md := [false]) (by kernel_rfl))
      · replace h := cond_f hb2 h
        refine Ab.regA hE hC hL [[], [], [.r [.tree ((eA 1 (T.int .u8)) r1)] []], [], [.r [.tree ((eA 1 (T.int .u8)) r2)] []], [.b (decide (r1 = r2))], [.b true], [], [], [.r [.tree ((eA 1 (T.int .u8)) r1)] []], [], [], [.r [.tree ((eA 1 (T.int .u8)) r3)] []], [.b (decide (r1 = r3))], [], [.b false]] { keep := [4], ren := [] } ⟨[(4, (.t (.bool false)))], []⟩ [(sp_digest_Pair n).fn [((eA 1 (T.int .u8)) pa0), ((eA 1 (T.int .u8)) pb0)] = some ([.tree ((eA 1 (T.int .u8)) r1)], []), (sp_digest_Of n).fn [(.slc 1 (List.map (T.int .u8) ((([] : List Int) ++ pa0.l) ++ pb0.l)))] = some ([.tree ((eA 1 (T.int .u8)) r2)], []), binOp (E_law02_DigestPairs n) .eql 25 (.t ((eA 1 (T.int .u8)) r1)) (.t ((eA 1 (T.int .u8)) r2)) = some (.bool (decide (r1 = r2))), (decide (r1 = r2)) = true, (sp_digest_Pair n).fn [((eA 1 (T.int .u8)) pa0), ((eA 1 (T.int .u8)) pb0)] = some ([.tree ((eA 1 (T.int .u8)) r1)], []), (sp_ref02_Pair n).fn [((eA 1 (T.int .u8)) pa0), ((eA 1 (T.int .u8)) pb0)] = some ([.tree ((eA 1 (T.int .u8)) r3)], []), binOp (E_law02_DigestPairs n) .eql 24 (.t ((eA 1 (T.int .u8)) r1)) (.t ((eA 1 (T.int .u8)) r3)) = some (.bool (decide (r1 = r3))), (decide (r1 = r3)) = false] (by kernel_rfl) (by kernel_rfl) ⟨(ap_digest_Pair n (by exact ⟨leT.refl _, leT.refl _, trivial⟩) hr1), (ap_digest_Of n (by exact ⟨leT.refl _, trivial⟩) hr2), (beql_25 _ rfl _ _), hb1, (ap_digest_Pair n (by exact ⟨leT.refl _, leT.refl _, trivial⟩) hr1), (ap_ref02_Pair n (by exact ⟨leT.refl _, leT.refl _, trivial⟩) hr3), (beql_24 _ rfl _ _), hb2, trivial⟩ ?_
        refine Nxt_norm ?_
        refine Ab.ret ?_
        obtain rfl := Option.some.inj h
        exact End_ret (doneO_ok (md := [false]) (by kernel_rfl))
    · replace h := cond_f hb1 h
      refine Ab.regA hE hC hL [[], [], [.r [.tree ((eA 1 (T.int .u8)) r1)] []], [], [.r [.tree ((eA 1 (T.int .u8)) r2)] []], [.b (decide (r1 = r2))], [.b false]] { keep := [4], ren := [] } ⟨[(4, (.t (.bool false)))], []⟩ [(sp_digest_Pair n).fn [((eA 1 (T.int .u8)) pa0), ((eA 1 (T.int .u8)) pb0)] = some ([.tree ((eA 1 (T.int .u8)) r1)], []), (sp_digest_Of n).fn [(.slc 1 (List.map (T.int .u8) ((([] : List Int) ++ pa0.l) ++ pb0.l)))] = some ([.tree ((eA 1 (T.int .u8)) r2)], []), binOp (E_law02_DigestPairs n) .eql 25 (.t ((eA 1 (T.int .u8)) r1)) (.t ((eA 1 (T.int .u8)) r2)) = some (.bool (decide (r1 = r2))), (decide (r1 = r2)) = false] (by kernel_rfl) (by kernel_rfl) ⟨(ap_digest_Pair n (by exact ⟨leT.refl _, leT.refl _, trivial⟩) hr1), (ap_digest_Of n (by exact ⟨leT.refl _, trivial⟩) hr2), (beql_25 _ rfl _ _), hb1, trivial⟩ ?_
      refine Nxt_norm ?_
      refine Ab.ret ?_
      obtain rfl := Option.some.inj h
      exact End_ret (doneO_ok (md := [false]) (by kernel_rfl))
def ea_sign_Join (a : (List (Arr 32 Int))) : List T := [(eS 32 (eA 1 (T.int .u8))) a]
def er_sign_Join (r : (Arr 32 Int)) : List RR × List T := ([.tree ((eA 1 (T.int .u8)) r)], [])
noncomputable def sp_sign_Join (n : Nat) : Spec := specP [] true ea_sign_Join (fun a => f_sign_Join n a) (fun _ r => er_sign_Join r)
theorem ap_sign_Join (n : Nat) {ts : List T} {a0 : (List (Arr 32 Int))} {r : (Arr 32 Int)} (hle : leTs ts [(eS 32 (eA 1 (T.int .u8))) a0]) (h : f_sign_Join n a0 = some r) : (sp_sign_Join n).fn ts = some ([.tree ((eA 1 (T.int .u8)) r)], []) :=
  specP_fn (a := a0) (InjA.one (inj_eS (inj_eA (inj_int _)))) hle h
noncomputable def E_sign_Join (n : Nat) : Env := { ty := tyT, glob := glob, fns := get [], ntmps := 27 }
theorem eok_sign_Join (n : Nat) : EnvOK Tryd.prog (E_sign_Join n) := ⟨tys_ok tys_chk, prog_mixed, fns_nil⟩
def K_sign_Join (n : Nat) (ptags0 : (List (Arr 32 Int))) (r : (Arr 32 Int)) : St → Prop := Done (E_sign_Join n) Tryd.f21.results.toList [] (ea_sign_Join ptags0) (er_sign_Join r).1 (er_sign_Join r).2
set_option maxRecDepth 100000 in
set_option maxHeartbeats 4000000 in
theorem ok_sign_Join (n : Nat) : SpecOK Tryd.prog glob 21 (sp_sign_Join n) := by
  refine specP_ok (fn := Tryd.f21) (eok_sign_Join n) (by kernel_rfl) rfl (by decide +kernel) (by kernel_rfl) (fun _ => by show 1 ≤ 27; omega) (fun _ _ r => ⟨(rrf_tree ((flat_eA (fun _ => rfl)) _) rrf_nil), flats_nil⟩) ?_
  rintro ptags0 r h C hL hC
  have hE := eok_sign_Join n
  replace hL : ∀ n g, (n, g) ∈ C.lent → n ∈ ([] : List Nat) := hL
  replace h : f_sign_Join n ptags0 = some r := h
  show Ab _ _ _ _ _ (End (K_sign_Join n ptags0 r))
  unfold f_sign_Join at h
  refine Ab.seq ?_
  refine Ab.regT hE hC hL [] { keep := [0, 2], ren := [(2, 2)] } ⟨[(0, (.t ((eS 32 (eA 1 (T.int .u8))) ptags0))), (2, (.ref 2 [] (0)))], [(2, (.var false 25 (.t ((eA 1 (T.int .u8)) (Arr.rep 32 (0:Int))))))]⟩ [] (by kernel_rfl) trivial ?_
  refine Nxt_norm ?_
  refine Ab.seq ?_
  refine Ab.regT hE hC hL [] { keep := [0, 2, 3], ren := [(2, 2), (3, 3)] } ⟨[(0, (.t ((eS 32 (eA 1 (T.int .u8))) ptags0))), (2, (.ref 2 [] (0))), (3, (.ref 3 [] (0)))], [(2, (.var false 25 (.t ((eA 1 (T.int .u8)) (Arr.rep 32 (0:Int)))))), (3, (.var false 25 (.t ((eA 1 (T.int .u8)) (Arr.rep 32 (0:Int))))))]⟩ [] (by kernel_rfl) trivial ?_
  refine Nxt_norm ?_
  refine Ab.seq ?_
  refine Ab.seq ?_
  refine Ab.regT hE hC hL [[], [.n (ptags0.length : Int)]] { keep := [2, 3, 7, 8, 9], ren := [(2, 2), (3, 3)] } ⟨[(2, (.ref 2 [] (0))), (3, (.ref 3 [] (0))), (7, (.t ((eS 32 (eA 1 (T.int .u8))) ptags0))), (8, (.t (.int .i64 (ptags0.length : Int)))), (9, (.t (.int .i64 (0:Int))))], [(2, (.var false 25 (.t ((eA 1 (T.int .u8)) (Arr.rep 32 (0:Int)))))), (3, (.var false 25 (.t ((eA 1 (T.int .u8)) (Arr.rep 32 (0:Int))))))]⟩ [((List.length (List.map (eA 1 (T.int .u8)) ptags0) : Nat) : Int) = (ptags0.length : Int)] (by kernel_rfl) ⟨(len_of rfl), trivial⟩ ?_
  refine Nxt_norm ?_
  obtain ⟨x1, hx0, h⟩ := bind_some h
  refine Ab.loopX0 (fun ((a0, a1) : ((Arr 32 Int) × Int)) => (⟨[(2, (.ref 49000 [] (0))), (3, (.ref 49001 [] (0))), (7, (.t ((eS 32 (eA 1 (T.int .u8))) ptags0))), (8, (.t (.int .i64 (ptags0.length : Int)))), (9, (.t (.int .i64 a1)))], [(49000, (.var false 25 (.t ((eA 1 (T.int .u8)) (Arr.rep 32 (0:Int)))))), (49001, (.var false 25 (.t ((eA 1 (T.int .u8)) a0))))]⟩ : St)) (fun (a2 : (Arr 32 Int)) => (⟨[(2, (.ref 49000 [] (0))), (3, (.ref 49001 [] (0)))], [(49000, (.var false 25 (.t ((eA 1 (T.int .u8)) (Arr.rep 32 (0:Int)))))), (49001, (.var false 25 (.t ((eA 1 (T.int .u8)) a2))))]⟩ : St)) { fs := [], keep := [2, 3, 7, 8, 9], ren := [(2, 49000), (3, 49001)] } ((Arr.rep 32 (0:Int)), (0:Int)) hC hL hx0 (by kernel_rfl) ?_ ?_
  · rintro ⟨a0, a1⟩ o0 h
    replace h : f_sign_Join_b0 n ptags0 a0 a1 = some o0 := h
    unfold f_sign_Join_b0 at h
    refine Ab.seq ?_
    refine Ab.regT hE hC hL [] { keep := [2, 3, 7, 8, 9, 10], ren := [(49000, 49000), (49001, 49001)] } ⟨[(2, (.ref 49000 [] (0))), (3, (.ref 49001 [] (0))), (7, (.t ((eS 32 (eA 1 (T.int .u8))) ptags0))), (8, (.t (.int .i64 (ptags0.length : Int)))), (9, (.t (.int .i64 a1))), (10, (.t (.bool (decide (a1 < (ptags0.length : Int))))))], [(49000, (.var false 25 (.t ((eA 1 (T.int .u8)) (Arr.rep 32 (0:Int)))))), (49001, (.var false 25 (.t ((eA 1 (T.int .u8)) a0))))]⟩ [] (by kernel_rfl) trivial ?_
    refine Nxt_norm ?_
    refine Ab.seq ?_
    refine Ab.cond (b := (decide (a1 < (ptags0.length : Int)))) (by kernel_rfl) (fun hb0 => ?_) (fun hb0 => ?_)
    · replace h := cond_t hb0 h
      refine Ab.skip ?_
      refine Nxt_norm ?_
      refine Ab.seq ?_
      refine Ab.block ?_
      refine Ab.seq ?_
      obtain ⟨hq0, h⟩ := ask_dec h
      obtain ⟨v0, hv0, h⟩ := bind_some h
      refine Ab.regT hE hC hL [[.t ((eA 1 (T.int .u8)) v0)]] { keep := [2, 3, 5, 7, 8, 9], ren := [(5, 5), (49000, 49000), (49001, 49001)] } ⟨[(2, (.ref 49000 [] (0))), (3, (.ref 49001 [] (0))), (5, (.ref 5 [] (0))), (7, (.t ((eS 32 (eA 1 (T.int .u8))) ptags0))), (8, (.t (.int .i64 (ptags0.length : Int)))), (9, (.t (.int .i64 a1)))], [(5, (.var false 25 (.t ((eA 1 (T.int .u8)) v0)))), (49000, (.var false 25 (.t ((eA 1 (T.int .u8)) (Arr.rep 32 (0:Int)))))), (49001, (.var false 25 (.t ((eA 1 (T.int .u8)) a0))))]⟩ [0 ≤ a1, (List.map (eA 1 (T.int .u8)) ptags0)[a1.toNat]? = some ((eA 1 (T.int .u8)) v0)] (by kernel_rfl) ⟨hq0, (at_map hv0), trivial⟩ ?_
      refine Nxt_norm ?_
      refine Ab.seq ?_
      refine Ab.regT hE hC hL [] { keep := [2, 3, 5, 7, 8, 9, 13], ren := [(5, 5), (49000, 49000), (49001, 49001)] } ⟨[(2, (.ref 49000 [] (0))), (3, (.ref 49001 [] (0))), (5, (.ref 5 [] (0))), (7, (.t ((eS 32 (eA 1 (T.int .u8))) ptags0))), (8, (.t (.int .i64 (ptags0.length : Int)))), (9, (.t (.int .i64 a1))), (13, (.t (.int .i64 (0:Int))))], [(5, (.var false 25 (.t ((eA 1 (T.int .u8)) v0)))), (49000, (.var false 25 (.t ((eA 1 (T.int .u8)) (Arr.rep 32 (0:Int)))))), (49001, (.var false 25 (.t ((eA 1 (T.int .u8)) a0))))]⟩ [] (by kernel_rfl) trivial ?_
      refine Nxt_norm ?_
      obtain ⟨x0, hx1, h⟩ := bind_some h
      refine Ab.loopX0 (fun ((a3, a4) : ((Arr 32 Int) × Int)) => (⟨[(2, (.ref 49000 [] (0))), (3, (.ref 49001 [] (0))), (5, (.ref 49002 [] (0))), (7, (.t ((eS 32 (eA 1 (T.int .u8))) ptags0))), (8, (.t (.int .i64 (ptags0.length : Int)))), (9, (.t (.int .i64 a1))), (13, (.t (.int .i64 a4)))], [(49000, (.var false 25 (.t ((eA 1 (T.int .u8)) (Arr.rep 32 (0:Int)))))), (49001, (.var false 25 (.t ((eA 1 (T.int .u8)) a3)))), (49002, (.var false 25 (.t ((eA 1 (T.int .u8)) v0))))]⟩ : St)) (fun (a5 : (Arr 32 Int)) => (⟨[(2, (.ref 49000 [] (0))), (3, (.ref 49001 [] (0))), (7, (.t ((eS 32 (eA 1 (T.int .u8))) ptags0))), (8, (.t (.int .i64 (ptags0.length : Int)))), (9, (.t (.int .i64 a1)))], [(49000, (.var false 25 (.t ((eA 1 (T.int .u8)) (Arr.rep 32 (0:Int)))))), (49001, (.var false 25 (.t ((eA 1 (T.int .u8)) a5))))]⟩ : St)) { fs := [], keep := [2, 3, 5, 7, 8, 9, 13], ren := [(49000, 49000), (49001, 49001), (5, 49002)] } (a0, (0:Int)) hC hL hx1 (by kernel_rfl) ?_ ?_
      · rintro ⟨a3, a4⟩ o1 h
        replace h : f_sign_Join_b1 n v0 a3 a4 = some o1 := h
        unfold f_sign_Join_b1 at h
        refine Ab.seq ?_
        refine Ab.regT hE hC hL [] { keep := [2, 3, 5, 7, 8, 9, 13, 14], ren := [(49000, 49000), (49001, 49001), (49002, 49002)] } ⟨[(2, (.ref 49000 [] (0))), (3, (.ref 49001 [] (0))), (5, (.ref 49002 [] (0))), (7, (.t ((eS 32 (eA 1 (T.int .u8))) ptags0))), (8, (.t (.int .i64 (ptags0.length : Int)))), (9, (.t (.int .i64 a1))), (13, (.t (.int .i64 a4))), (14, (.t (.bool (decide (a4 < (32:Int))))))], [(49000, (.var false 25 (.t ((eA 1 (T.int .u8)) (Arr.rep 32 (0:Int)))))), (49001, (.var false 25 (.t ((eA 1 (T.int .u8)) a3)))), (49002, (.var false 25 (.t ((eA 1 (T.int .u8)) v0))))]⟩ [] (by kernel_rfl) trivial ?_
        refine Nxt_norm ?_
        refine Ab.seq ?_
        refine Ab.cond (b := (decide (a4 < (32:Int)))) (by kernel_rfl) (fun hb1 => ?_) (fun hb1 => ?_)
        · replace h := cond_t hb1 h
          refine Ab.skip ?_
          refine Nxt_norm ?_
          refine Ab.seq ?_
          refine Ab.block ?_
          refine Ab.seq ?_
          refine Ab.regT hE hC hL [] { keep := [2, 3, 5, 6, 7, 8, 9, 13], ren := [(49000, 49000), (49001, 49001), (49002, 49002)] } ⟨[(2, (.ref 49000 [] (0))), (3, (.ref 49001 [] (0))), (5, (.ref 49002 [] (0))), (6, (.t (.int .i64 a4))), (7, (.t ((eS 32 (eA 1 (T.int .u8))) ptags0))), (8, (.t (.int .i64 (ptags0.length : Int)))), (9, (.t (.int .i64 a1))), (13, (.t (.int .i64 a4)))], [(49000, (.var false 25 (.t ((eA 1 (T.int .u8)) (Arr.rep 32 (0:Int)))))), (49001, (.var false 25 (.t ((eA 1 (T.int .u8)) a3)))), (49002, (.var false 25 (.t ((eA 1 (T.int .u8)) v0))))]⟩ [] (by kernel_rfl) trivial ?_
          refine Nxt_norm ?_
          obtain ⟨hq1, h⟩ := ask_dec h
          obtain ⟨v1, hv1, h⟩ := bind_some h
          obtain ⟨v2, hv2, h⟩ := bind_some h
          refine Ab.regA hE hC hL [[], [.c], [.t (.int .u8 v1)], [], [.c], [.t (.int .u8 v2)], [], [.c], [.t (.int .u8 v1), .l (List.map (T.int .u8) (Arr.set a3 (a4.toNat) (bits .xor .u8 v1 v2)).l)]] { keep := [2, 3, 5, 7, 8, 9, 13], ren := [(49000, 49000), (49001, 49001), (49002, 49002)] } ⟨[(2, (.ref 49000 [] (0))), (3, (.ref 49001 [] (0))), (5, (.ref 49002 [] (0))), (7, (.t ((eS 32 (eA 1 (T.int .u8))) ptags0))), (8, (.t (.int .i64 (ptags0.length : Int)))), (9, (.t (.int .i64 a1))), (13, (.t (.int .i64 a4)))], [(49000, (.var false 25 (.t ((eA 1 (T.int .u8)) (Arr.rep 32 (0:Int)))))), (49001, (.var false 25 (.t ((eA 1 (T.int .u8)) (Arr.set a3 (a4.toNat) (bits .xor .u8 v1 v2)))))), (49002, (.var false 25 (.t ((eA 1 (T.int .u8)) v0))))]⟩ [0 ≤ a4, a4 < ((32 : Nat) : Int), a4.toNat * 1 + 0 = 0 + a4.toNat * 1, (List.map (T.int .u8) a3.l)[a4.toNat]? = some (.int .u8 v1), 0 ≤ a4, a4 < ((32 : Nat) : Int), a4.toNat * 1 + 0 = 0 + a4.toNat * 1, (List.map (T.int .u8) v0.l)[a4.toNat]? = some (.int .u8 v2), 0 ≤ a4, a4 < ((32 : Nat) : Int), a4.toNat * 1 + 0 = 0 + a4.toNat * 1, (List.map (T.int .u8) a3.l)[a4.toNat]? = some (.int .u8 v1), (List.map (T.int .u8) a3.l)[a4.toNat]? = some (.int .u8 v1), (List.map (T.int .u8) a3.l).set a4.toNat (.int .u8 (bits .xor .u8 v1 v2)) = List.map (T.int .u8) (Arr.set a3 (a4.toNat) (bits .xor .u8 v1 v2)).l] (by kernel_rfl) (by kernel_rfl) ⟨hq1, (of_decide_eq_true hb1), (by omega), (at_map hv1), hq1, (of_decide_eq_true hb1), (by omega), (at_map hv2), hq1, (of_decide_eq_true hb1), (by omega), (at_map hv1), (at_map hv1), set_map, trivial⟩ ?_
          refine Blk_norm ?_
          refine Nxt_norm ?_
          refine Ab.regT hE hC hL [] { keep := [2, 3, 5, 7, 8, 9, 13], ren := [(49000, 49000), (49001, 49001), (49002, 49002)] } ⟨[(2, (.ref 49000 [] (0))), (3, (.ref 49001 [] (0))), (5, (.ref 49002 [] (0))), (7, (.t ((eS 32 (eA 1 (T.int .u8))) ptags0))), (8, (.t (.int .i64 (ptags0.length : Int)))), (9, (.t (.int .i64 a1))), (13, (.t (.int .i64 (wi (a4 + (1:Int))))))], [(49000, (.var false 25 (.t ((eA 1 (T.int .u8)) (Arr.rep 32 (0:Int)))))), (49001, (.var false 25 (.t ((eA 1 (T.int .u8)) (Arr.set a3 (a4.toNat) (bits .xor .u8 v1 v2)))))), (49002, (.var false 25 (.t ((eA 1 (T.int .u8)) v0))))]⟩ [] (by kernel_rfl) trivial ?_
          exact LK_norm ((Arr.set a3 (a4.toNat) (bits .xor .u8 v1 v2)), (wi (a4 + (1:Int)))) { fs := [], keep := [2, 3, 5, 7, 8, 9, 13], ren := [(49000, 49000), (49001, 49001), (49002, 49002)] } h (by kernel_rfl)
        · replace h := cond_f hb1 h
          refine Ab.exit ?_
          refine Nxt_exit ?_
          exact LK_exit a3 h (PX_mk { fs := [], keep := [2, 3, 7, 8, 9], ren := [(49000, 49000), (49001, 49001)] } (by kernel_rfl))
      · refine Blk_norm ?_
        refine Nxt_norm ?_
        refine Ab.regT hE hC hL [] { keep := [2, 3, 7, 8, 9], ren := [(49000, 49000), (49001, 49001)] } ⟨[(2, (.ref 49000 [] (0))), (3, (.ref 49001 [] (0))), (7, (.t ((eS 32 (eA 1 (T.int .u8))) ptags0))), (8, (.t (.int .i64 (ptags0.length : Int)))), (9, (.t (.int .i64 (wi (a1 + (1:Int))))))], [(49000, (.var false 25 (.t ((eA 1 (T.int .u8)) (Arr.rep 32 (0:Int)))))), (49001, (.var false 25 (.t ((eA 1 (T.int .u8)) x0))))]⟩ [] (by kernel_rfl) trivial ?_
        exact LK_norm (x0, (wi (a1 + (1:Int)))) { fs := [], keep := [2, 3, 7, 8, 9], ren := [(49000, 49000), (49001, 49001)] } h (by kernel_rfl)
    · replace h := cond_f hb0 h
      refine Ab.exit ?_
      refine Nxt_exit ?_
      exact LK_exit a0 h (PX_mk { fs := [], keep := [2, 3], ren := [(49000, 49000), (49001, 49001)] } (by kernel_rfl))
  · refine Nxt_norm ?_
    refine Ab.seq ?_
    refine Ab.regT hE hC hL [] { keep := [2], ren := [(49000, 49000)] } ⟨[(2, (.ref 49000 [] (0)))], [(49000, (.var false 25 (.t ((eA 1 (T.int .u8)) x1))))]⟩ [] (by kernel_rfl) trivial ?_
    refine Nxt_norm ?_
    refine Ab.ret ?_
    obtain rfl := Option.some.inj h
    exact End_ret (doneO_ok (md := [false]) (by kernel_rfl))
def ea_sign_Tag (a : (Arr 32 Int) × (Arr 32 Int)) : List T := [(eA 1 (T.int .u8)) a.1, (eA 1 (T.int .u8)) a.2]
def er_sign_Tag (r : (Arr 32 Int)) : List RR × List T := ([.tree ((eA 1 (T.int .u8)) r)], [])
noncomputable def sp_sign_Tag (n : Nat) : Spec := specP [] true ea_sign_Tag (fun a => f_sign_Tag n a.1 a.2) (fun _ r => er_sign_Tag r)
theorem ap_sign_Tag (n : Nat) {ts : List T} {a0 : (Arr 32 Int)} {a1 : (Arr 32 Int)} {r : (Arr 32 Int)} (hle : leTs ts [(eA 1 (T.int .u8)) a0, (eA 1 (T.int .u8)) a1]) (h : f_sign_Tag n a0 a1 = some r) : (sp_sign_Tag n).fn ts = some ([.tree ((eA 1 (T.int .u8)) r)], []) :=
  specP_fn (a := (a0, a1)) (InjA.cons (inj_eA (inj_int _)) (InjA.one (inj_eA (inj_int _)))) hle h
noncomputable def E_sign_Tag (n : Nat) : Env := { ty := tyT, glob := glob, fns := get [(16, sp_digest_Pair n)], ntmps := 8 }
theorem eok_sign_Tag (n : Nat) : EnvOK Tryd.prog (E_sign_Tag n) := ⟨tys_ok tys_chk, prog_mixed, (fns_cons (ok_digest_Pair n) fns_nil)⟩
def K_sign_Tag (n : Nat) (pkey0 : (Arr 32 Int)) (pmessage0 : (Arr 32 Int)) (r : (Arr 32 Int)) : St → Prop := Done (E_sign_Tag n) Tryd.f25.results.toList [] (ea_sign_Tag (pkey0, pmessage0)) (er_sign_Tag r).1 (er_sign_Tag r).2
set_option maxRecDepth 100000 in
set_option maxHeartbeats 4000000 in
theorem ok_sign_Tag (n : Nat) : SpecOK Tryd.prog glob 25 (sp_sign_Tag n) := by
  refine specP_ok (fn := Tryd.f25) (eok_sign_Tag n) (by kernel_rfl) rfl (by decide +kernel) (by kernel_rfl) (fun _ => by show 2 ≤ 8; omega) (fun _ _ r => ⟨(rrf_tree ((flat_eA (fun _ => rfl)) _) rrf_nil), flats_nil⟩) ?_
  rintro ⟨pkey0, pmessage0⟩ r h C hL hC
  have hE := eok_sign_Tag n
  replace hL : ∀ n g, (n, g) ∈ C.lent → n ∈ ([] : List Nat) := hL
  replace h : f_sign_Tag n pkey0 pmessage0 = some r := h
  show Ab _ _ _ _ _ (End (K_sign_Tag n pkey0 pmessage0 r))
  unfold f_sign_Tag at h
  refine Ab.seq ?_
  refine Ab.regT hE hC hL [] { keep := [2, 3, 4], ren := [(2, 2), (3, 3), (4, 4)] } ⟨[(2, (.ref 2 [] (0))), (3, (.ref 3 [] (0))), (4, (.ref 4 [] (0)))], [(2, (.var false 25 (.t ((eA 1 (T.int .u8)) pkey0)))), (3, (.var false 25 (.t ((eA 1 (T.int .u8)) pmessage0)))), (4, (.var false 25 (.t ((eA 1 (T.int .u8)) (Arr.rep 32 (0:Int))))))]⟩ [] (by kernel_rfl) trivial ?_
  refine Nxt_norm ?_
  refine Ab.seq ?_
  obtain ⟨r0, hr0, h⟩ := bind_some h
  refine Ab.regT hE hC hL [[], [], [.r [.tree ((eA 1 (T.int .u8)) r0)] []]] { keep := [4], ren := [(4, 4)] } ⟨[(4, (.ref 4 [] (0)))], [(4, (.var false 25 (.t ((eA 1 (T.int .u8)) r0))))]⟩ [(sp_digest_Pair n).fn [((eA 1 (T.int .u8)) pkey0), ((eA 1 (T.int .u8)) pmessage0)] = some ([.tree ((eA 1 (T.int .u8)) r0)], [])] (by kernel_rfl) ⟨(ap_digest_Pair n (by exact ⟨leT.refl _, leT.refl _, trivial⟩) hr0), trivial⟩ ?_
  refine Nxt_norm ?_
  refine Ab.ret ?_
  obtain rfl := Option.some.inj h
  exact End_ret (doneO_ok (md := [false]) (by kernel_rfl))
def ea_sign_Valid (a : (List (Arr 32 Int)) × (Arr 32 Int) × (Arr 32 Int)) : List T := [(eS 32 (eA 1 (T.int .u8))) a.1, (eA 1 (T.int .u8)) a.2.1, (eA 1 (T.int .u8)) a.2.2]
def er_sign_Valid (r : Bool) : List RR × List T := ([.tree (T.bool r)], [])
noncomputable def sp_sign_Valid (n : Nat) : Spec := specP [] true ea_sign_Valid (fun a => f_sign_Valid n a.1 a.2.1 a.2.2) (fun _ r => er_sign_Valid r)
theorem ap_sign_Valid (n : Nat) {ts : List T} {a0 : (List (Arr 32 Int))} {a1 : (Arr 32 Int)} {a2 : (Arr 32 Int)} {r : Bool} (hle : leTs ts [(eS 32 (eA 1 (T.int .u8))) a0, (eA 1 (T.int .u8)) a1, (eA 1 (T.int .u8)) a2]) (h : f_sign_Valid n a0 a1 a2 = some r) : (sp_sign_Valid n).fn ts = some ([.tree (T.bool r)], []) :=
  specP_fn (a := (a0, a1, a2)) (InjA.cons (inj_eS (inj_eA (inj_int _))) (InjA.cons (inj_eA (inj_int _)) (InjA.one (inj_eA (inj_int _))))) hle h
noncomputable def E_sign_Valid (n : Nat) : Env := { ty := tyT, glob := glob, fns := get [(21, sp_sign_Join n), (25, sp_sign_Tag n)], ntmps := 32 }
theorem eok_sign_Valid (n : Nat) : EnvOK Tryd.prog (E_sign_Valid n) := ⟨tys_ok tys_chk, prog_mixed, (fns_cons (ok_sign_Join n) (fns_cons (ok_sign_Tag n) fns_nil))⟩
def K_sign_Valid (n : Nat) (pkeys0 : (List (Arr 32 Int))) (pmessage0 : (Arr 32 Int)) (psig0 : (Arr 32 Int)) (r : Bool) : St → Prop := Done (E_sign_Valid n) Tryd.f27.results.toList [] (ea_sign_Valid (pkeys0, pmessage0, psig0)) (er_sign_Valid r).1 (er_sign_Valid r).2
set_option maxRecDepth 100000 in
set_option maxHeartbeats 4000000 in
theorem ok_sign_Valid (n : Nat) : SpecOK Tryd.prog glob 27 (sp_sign_Valid n) := by
  refine specP_ok (fn := Tryd.f27) (eok_sign_Valid n) (by kernel_rfl) rfl (by decide +kernel) (by kernel_rfl) (fun _ => by show 3 ≤ 32; omega) (fun _ _ r => ⟨(rrf_tree ((fun _ => rfl) _) rrf_nil), flats_nil⟩) ?_
  rintro ⟨pkeys0, pmessage0, psig0⟩ r h C hL hC
  have hE := eok_sign_Valid n
  replace hL : ∀ n g, (n, g) ∈ C.lent → n ∈ ([] : List Nat) := hL
  replace h : f_sign_Valid n pkeys0 pmessage0 psig0 = some r := h
  show Ab _ _ _ _ _ (End (K_sign_Valid n pkeys0 pmessage0 psig0 r))
  unfold f_sign_Valid at h
  refine Ab.seq ?_
  refine Ab.regT hE hC hL [] { keep := [0, 4, 5], ren := [(4, 4), (5, 5)] } ⟨[(0, (.t ((eS 32 (eA 1 (T.int .u8))) pkeys0))), (4, (.ref 4 [] (0))), (5, (.ref 5 [] (0)))], [(4, (.var false 25 (.t ((eA 1 (T.int .u8)) pmessage0)))), (5, (.var false 25 (.t ((eA 1 (T.int .u8)) psig0))))]⟩ [] (by kernel_rfl) trivial ?_
  refine Nxt_norm ?_
  refine Ab.seq ?_
  refine Ab.regT hE hC hL [] { keep := [0, 4, 5, 7], ren := [(4, 4), (5, 5)] } ⟨[(0, (.t ((eS 32 (eA 1 (T.int .u8))) pkeys0))), (4, (.ref 4 [] (0))), (5, (.ref 5 [] (0))), (7, (.t .nils))], [(4, (.var false 25 (.t ((eA 1 (T.int .u8)) pmessage0)))), (5, (.var false 25 (.t ((eA 1 (T.int .u8)) psig0))))]⟩ [] (by kernel_rfl) trivial ?_
  refine Nxt_norm ?_
  refine Ab.seq ?_
  refine Ab.seq ?_
  refine Ab.regT hE hC hL [[], [.n (pkeys0.length : Int)]] { keep := [4, 5, 7, 10, 11, 12], ren := [(4, 4), (5, 5)] } ⟨[(4, (.ref 4 [] (0))), (5, (.ref 5 [] (0))), (7, (.t .nils)), (10, (.t ((eS 32 (eA 1 (T.int .u8))) pkeys0))), (11, (.t (.int .i64 (pkeys0.length : Int)))), (12, (.t (.int .i64 (0:Int))))], [(4, (.var false 25 (.t ((eA 1 (T.int .u8)) pmessage0)))), (5, (.var false 25 (.t ((eA 1 (T.int .u8)) psig0))))]⟩ [((List.length (List.map (eA 1 (T.int .u8)) pkeys0) : Nat) : Int) = (pkeys0.length : Int)] (by kernel_rfl) ⟨(len_of rfl), trivial⟩ ?_
  refine Nxt_norm ?_
  obtain ⟨x0, hx0, h⟩ := bind_some h
  refine Ab.loopX0 (fun ((a0, a1) : ((List (Arr 32 Int)) × Int)) => (⟨[(4, (.ref 49000 [] (0))), (5, (.ref 49001 [] (0))), (7, (.own 49002)), (10, (.t ((eS 32 (eA 1 (T.int .u8))) pkeys0))), (11, (.t (.int .i64 (pkeys0.length : Int)))), (12, (.t (.int .i64 a1)))], [(49000, (.var false 25 (.t ((eA 1 (T.int .u8)) pmessage0)))), (49001, (.var false 25 (.t ((eA 1 (T.int .u8)) psig0)))), (49002, (.row false 25 32 (List.map (eA 1 (T.int .u8)) a0)))]⟩ : St)) (fun (a2 : (List (Arr 32 Int))) => (⟨[(5, (.ref 49000 [] (0))), (7, (.own 49001))], [(49000, (.var false 25 (.t ((eA 1 (T.int .u8)) psig0)))), (49001, (.row false 25 32 (List.map (eA 1 (T.int .u8)) a2)))]⟩ : St)) { fs := [⟨(.t 7), [], .own 48000 25 32⟩], keep := [4, 5, 7, 10, 11, 12], ren := [(4, 49000), (5, 49001), (48000, 49002)] } (([] : List (Arr 32 Int)), (0:Int)) hC hL hx0 (by kernel_rfl) ?_ ?_
  · rintro ⟨a0, a1⟩ o0 h
    replace h : f_sign_Valid_b0 n pkeys0 pmessage0 a0 a1 = some o0 := h
    unfold f_sign_Valid_b0 at h
    refine Ab.seq ?_
    refine Ab.regT hE hC hL [] { keep := [4, 5, 7, 10, 11, 12, 13], ren := [(49000, 49000), (49001, 49001), (49002, 49002)] } ⟨[(4, (.ref 49000 [] (0))), (5, (.ref 49001 [] (0))), (7, (.own 49002)), (10, (.t ((eS 32 (eA 1 (T.int .u8))) pkeys0))), (11, (.t (.int .i64 (pkeys0.length : Int)))), (12, (.t (.int .i64 a1))), (13, (.t (.bool (decide (a1 < (pkeys0.length : Int))))))], [(49000, (.var false 25 (.t ((eA 1 (T.int .u8)) pmessage0)))), (49001, (.var false 25 (.t ((eA 1 (T.int .u8)) psig0)))), (49002, (.row false 25 32 (List.map (eA 1 (T.int .u8)) a0)))]⟩ [] (by kernel_rfl) trivial ?_
    refine Nxt_norm ?_
    refine Ab.seq ?_
    refine Ab.cond (b := (decide (a1 < (pkeys0.length : Int)))) (by kernel_rfl) (fun hb0 => ?_) (fun hb0 => ?_)
    · replace h := cond_t hb0 h
      refine Ab.skip ?_
      refine Nxt_norm ?_
      refine Ab.seq ?_
      refine Ab.block ?_
      refine Ab.seq ?_
      obtain ⟨hq0, h⟩ := ask_dec h
      obtain ⟨v0, hv0, h⟩ := bind_some h
      refine Ab.regT hE hC hL [[.t ((eA 1 (T.int .u8)) v0)]] { keep := [4, 5, 7, 9, 10, 11, 12], ren := [(9, 9), (49000, 49000), (49001, 49001), (49002, 49002)] } ⟨[(4, (.ref 49000 [] (0))), (5, (.ref 49001 [] (0))), (7, (.own 49002)), (9, (.ref 9 [] (0))), (10, (.t ((eS 32 (eA 1 (T.int .u8))) pkeys0))), (11, (.t (.int .i64 (pkeys0.length : Int)))), (12, (.t (.int .i64 a1)))], [(9, (.var false 25 (.t ((eA 1 (T.int .u8)) v0)))), (49000, (.var false 25 (.t ((eA 1 (T.int .u8)) pmessage0)))), (49001, (.var false 25 (.t ((eA 1 (T.int .u8)) psig0)))), (49002, (.row false 25 32 (List.map (eA 1 (T.int .u8)) a0)))]⟩ [0 ≤ a1, (List.map (eA 1 (T.int .u8)) pkeys0)[a1.toNat]? = some ((eA 1 (T.int .u8)) v0)] (by kernel_rfl) ⟨hq0, (at_map hv0), trivial⟩ ?_
      refine Nxt_norm ?_
      obtain ⟨r0, hr0, h⟩ := bind_some h
      obtain ⟨hq1, h⟩ := ask_dec h
      refine Ab.regT hE hC hL [[], [], [], [.r [.tree ((eA 1 (T.int .u8)) r0)] []], [], [.l (List.map (eA 1 (T.int .u8)) (a0 ++ ([r0] : List (Arr 32 Int))))]] { keep := [4, 5, 7, 10, 11, 12], ren := [(21, 21), (49000, 49000), (49001, 49001)] } ⟨[(4, (.ref 49000 [] (0))), (5, (.ref 49001 [] (0))), (7, (.own 21)), (10, (.t ((eS 32 (eA 1 (T.int .u8))) pkeys0))), (11, (.t (.int .i64 (pkeys0.length : Int)))), (12, (.t (.int .i64 a1)))], [(21, (.row false 25 32 (List.map (eA 1 (T.int .u8)) (a0 ++ ([r0] : List (Arr 32 Int)))))), (49000, (.var false 25 (.t ((eA 1 (T.int .u8)) pmessage0)))), (49001, (.var false 25 (.t ((eA 1 (T.int .u8)) psig0))))]⟩ [(sp_sign_Tag n).fn [((eA 1 (T.int .u8)) v0), ((eA 1 (T.int .u8)) pmessage0)] = some ([.tree ((eA 1 (T.int .u8)) r0)], []), (List.length (List.map (eA 1 (T.int .u8)) a0) + List.length (List.map (eA 1 (T.int .u8)) ([r0] : List (Arr 32 Int)))) * 32 ≤ maxBytes, List.length (List.map (eA 1 (T.int .u8)) a0) + List.length (List.map (eA 1 (T.int .u8)) ([r0] : List (Arr 32 Int))) ≤ maxBytes, (List.map (eA 1 (T.int .u8)) a0) ++ (List.map (eA 1 (T.int .u8)) ([r0] : List (Arr 32 Int))) = List.map (eA 1 (T.int .u8)) (a0 ++ ([r0] : List (Arr 32 Int)))] (by kernel_rfl) ⟨(ap_sign_Tag n (by exact ⟨leT.refl _, leT.refl _, trivial⟩) hr0), (app_b rfl rfl hq1), (app_c rfl rfl (by decide) hq1), (app_of rfl rfl), trivial⟩ ?_
      refine Blk_norm ?_
      refine Nxt_norm ?_
      refine Ab.regT hE hC hL [] { keep := [4, 5, 7, 10, 11, 12], ren := [(21, 21), (49000, 49000), (49001, 49001)] } ⟨[(4, (.ref 49000 [] (0))), (5, (.ref 49001 [] (0))), (7, (.own 21)), (10, (.t ((eS 32 (eA 1 (T.int .u8))) pkeys0))), (11, (.t (.int .i64 (pkeys0.length : Int)))), (12, (.t (.int .i64 (wi (a1 + (1:Int))))))], [(21, (.row false 25 32 (List.map (eA 1 (T.int .u8)) (a0 ++ ([r0] : List (Arr 32 Int)))))), (49000, (.var false 25 (.t ((eA 1 (T.int .u8)) pmessage0)))), (49001, (.var false 25 (.t ((eA 1 (T.int .u8)) psig0))))]⟩ [] (by kernel_rfl) trivial ?_
      exact LK_norm ((a0 ++ ([r0] : List (Arr 32 Int))), (wi (a1 + (1:Int)))) { fs := [], keep := [4, 5, 7, 10, 11, 12], ren := [(49000, 49000), (49001, 49001), (21, 49002)] } h (by kernel_rfl)
    · replace h := cond_f hb0 h
      refine Ab.exit ?_
      refine Nxt_exit ?_
      exact LK_exit a0 h (PX_mk { fs := [], keep := [5, 7], ren := [(49001, 49000), (49002, 49001)] } (by kernel_rfl))
  · refine Nxt_norm ?_
    refine Ab.seq ?_
    rcases Bool.eq_false_or_eq_true (decide ((x0.length : Int) > (0:Int))) with hb1 | hb1
    · replace h := cond_t hb1 h
      obtain ⟨r1, hr1, h⟩ := bind_some h
      refine Ab.regA hE hC hL [[], [.n (x0.length : Int)], [], [.b true], [], [.r [.tree ((eA 1 (T.int .u8)) r1)] []], [], [.b (decide (r1 = psig0))]] { keep := [6], ren := [] } ⟨[(6, (.t (.bool (decide (r1 = psig0)))))], []⟩ [((List.length (List.map (eA 1 (T.int .u8)) x0) : Nat) : Int) = (x0.length : Int), (decide ((x0.length : Int) > (0:Int))) = true, (sp_sign_Join n).fn [(.slc 32 (List.map (eA 1 (T.int .u8)) x0))] = some ([.tree ((eA 1 (T.int .u8)) r1)], []), binOp (E_sign_Valid n) .eql 25 (.t ((eA 1 (T.int .u8)) r1)) (.t ((eA 1 (T.int .u8)) psig0)) = some (.bool (decide (r1 = psig0)))] (by kernel_rfl) (by kernel_rfl) ⟨(len_of rfl), hb1, (ap_sign_Join n (by exact ⟨leT.refl _, trivial⟩) hr1), (beql_25 _ rfl _ _), trivial⟩ ?_
      refine Nxt_norm ?_
      refine Ab.ret ?_
      obtain rfl := Option.some.inj h
      exact End_ret (doneO_ok (md := [false]) (by kernel_rfl))
    · replace h := cond_f hb1 h
      refine Ab.regA hE hC hL [[], [.n (x0.length : Int)], [], [.b false]] { keep := [6], ren := [] } ⟨[(6, (.t (.bool false)))], []⟩ [((List.length (List.map (eA 1 (T.int .u8)) x0) : Nat) : Int) = (x0.length : Int), (decide ((x0.length : Int) > (0:Int))) = false] (by kernel_rfl) (by kernel_rfl) ⟨(len_of rfl), hb1, trivial⟩ ?_
      refine Nxt_norm ?_
      refine Ab.ret ?_
      obtain rfl := Option.some.inj h
      exact End_ret (doneO_ok (md := [false]) (by kernel_rfl))
def ea_law07_Awake (a : Unit) : List T := []
def er_law07_Awake (r : Bool) : List RR × List T := ([.tree (T.bool r)], [])
noncomputable def sp_law07_Awake (n : Nat) : Spec := specP [] true ea_law07_Awake (fun a => f_law07_Awake n) (fun _ r => er_law07_Awake r)
theorem ap_law07_Awake (n : Nat) {ts : List T} {r : Bool} (hle : leTs ts []) (h : f_law07_Awake n = some r) : (sp_law07_Awake n).fn ts = some ([.tree (T.bool r)], []) :=
  specP_fn (a := ()) injA0 hle h
noncomputable def E_law07_Awake (n : Nat) : Env := { ty := tyT, glob := glob, fns := get [(21, sp_sign_Join n), (25, sp_sign_Tag n), (27, sp_sign_Valid n)], ntmps := 29 }
theorem eok_law07_Awake (n : Nat) : EnvOK Tryd.prog (E_law07_Awake n) := ⟨tys_ok tys_chk, prog_mixed, (fns_cons (ok_sign_Join n) (fns_cons (ok_sign_Tag n) (fns_cons (ok_sign_Valid n) fns_nil)))⟩
def K_law07_Awake (n : Nat) (r : Bool) : St → Prop := Done (E_law07_Awake n) Tryd.f20.results.toList [] (ea_law07_Awake ()) (er_law07_Awake r).1 (er_law07_Awake r).2
set_option maxRecDepth 100000 in
set_option maxHeartbeats 4000000 in
theorem ok_law07_Awake (n : Nat) : SpecOK Tryd.prog glob 20 (sp_law07_Awake n) := by
  refine specP_ok (fn := Tryd.f20) (eok_law07_Awake n) (by kernel_rfl) rfl (by decide +kernel) (by kernel_rfl) (fun _ => by show 0 ≤ 29; omega) (fun _ _ r => ⟨(rrf_tree ((fun _ => rfl) _) rrf_nil), flats_nil⟩) ?_
  rintro ⟨⟩ r h C hL hC
  have hE := eok_law07_Awake n
  replace hL : ∀ n g, (n, g) ∈ C.lent → n ∈ ([] : List Nat) := hL
  replace h : f_law07_Awake n = some r := h
  show Ab _ _ _ _ _ (End (K_law07_Awake n r))
  unfold f_law07_Awake at h
  refine Ab.seq ?_
  refine Ab.regT hE hC hL [] { keep := [], ren := [] } ⟨[], []⟩ [] (by kernel_rfl) trivial ?_
  refine Nxt_norm ?_
  refine Ab.seq ?_
  obtain ⟨r0, hr0, h⟩ := bind_some h
  refine Ab.regT hE hC hL [[], [], [.r [.tree ((eA 1 (T.int .u8)) r0)] []]] { keep := [1], ren := [(1, 1)] } ⟨[(1, (.ref 1 [] (0)))], [(1, (.var false 25 (.t ((eA 1 (T.int .u8)) r0))))]⟩ [(sp_sign_Tag n).fn [((eA 1 (T.int .u8)) (⟨[(1:Int), (0:Int), (0:Int), (0:Int), (0:Int), (0:Int), (0:Int), (0:Int), (0:Int), (0:Int), (0:Int), (0:Int), (0:Int), (0:Int), (0:Int), (0:Int), (0:Int), (0:Int), (0:Int), (0:Int), (0:Int), (0:Int), (0:Int), (0:Int), (0:Int), (0:Int), (0:Int), (0:Int), (0:Int), (0:Int), (0:Int), (0:Int)], rfl⟩ : (Arr 32 Int))), ((eA 1 (T.int .u8)) (⟨[(2:Int), (0:Int), (0:Int), (0:Int), (0:Int), (0:Int), (0:Int), (0:Int), (0:Int), (0:Int), (0:Int), (0:Int), (0:Int), (0:Int), (0:Int), (0:Int), (0:Int), (0:Int), (0:Int), (0:Int), (0:Int), (0:Int), (0:Int), (0:Int), (0:Int), (0:Int), (0:Int), (0:Int), (0:Int), (0:Int), (0:Int), (0:Int)], rfl⟩ : (Arr 32 Int)))] = some ([.tree ((eA 1 (T.int .u8)) r0)], [])] (by kernel_rfl) ⟨(ap_sign_Tag n (by exact ⟨leT.refl _, leT.refl _, trivial⟩) hr0), trivial⟩ ?_
  refine Nxt_norm ?_
  refine Ab.seq ?_
  obtain ⟨r1, hr1, h⟩ := bind_some h
  rcases Bool.eq_false_or_eq_true (!r1) with hb0 | hb0
  · replace h := cond_t hb0 h
    rcases Bool.eq_false_or_eq_true (!(decide (r0 = (Arr.rep 32 (0:Int))))) with hb1 | hb1
    · replace h := cond_t hb1 h
      obtain ⟨r2, hr2, h⟩ := bind_some h
      rcases Bool.eq_false_or_eq_true (decide (r2 = (Arr.rep 32 (0:Int)))) with hb2 | hb2
      · replace h := cond_t hb2 h
        obtain ⟨r3, hr3, h⟩ := bind_some h
        refine Ab.regT hE hC hL [[], [], [.r [.tree (.bool r1)] []], [], [.b true], [], [], [.b (!(decide (r0 = (Arr.rep 32 (0:Int)))))], [], [.b true], [], [], [], [.r [.tree ((eA 1 (T.int .u8)) r2)] []], [], [.b (decide (r2 = (Arr.rep 32 (0:Int))))], [], [.b true], [], [], [], [], [.r [.tree (.bool r3)] []]] { keep := [0], ren := [] } ⟨[(0, (.t (.bool r3)))], []⟩ [(sp_sign_Valid n).fn [.nils, ((eA 1 (T.int .u8)) (Arr.rep 32 (0:Int))), ((eA 1 (T.int .u8)) (Arr.rep 32 (0:Int)))] = some ([.tree (.bool r1)], []), (!r1) = true, binOp (E_law07_Awake n) .neq 25 (.t ((eA 1 (T.int .u8)) r0)) (.t ((eA 1 (T.int .u8)) (Arr.rep 32 (0:Int)))) = some (.bool (!(decide (r0 = (Arr.rep 32 (0:Int)))))), (!(decide (r0 = (Arr.rep 32 (0:Int))))) = true, (sp_sign_Join n).fn [(.slc 32 (List.map (eA 1 (T.int .u8)) ([r0, r0] : List (Arr 32 Int))))] = some ([.tree ((eA 1 (T.int .u8)) r2)], []), binOp (E_law07_Awake n) .eql 25 (.t ((eA 1 (T.int .u8)) r2)) (.t ((eA 1 (T.int .u8)) (Arr.rep 32 (0:Int)))) = some (.bool (decide (r2 = (Arr.rep 32 (0:Int))))), (decide (r2 = (Arr.rep 32 (0:Int)))) = true, (sp_sign_Valid n).fn [(.slc 32 (List.map (eA 1 (T.int .u8)) ([(⟨[(1:Int), (0:Int), (0:Int), (0:Int), (0:Int), (0:Int), (0:Int), (0:Int), (0:Int), (0:Int), (0:Int), (0:Int), (0:Int), (0:Int), (0:Int), (0:Int), (0:Int), (0:Int), (0:Int), (0:Int), (0:Int), (0:Int), (0:Int), (0:Int), (0:Int), (0:Int), (0:Int), (0:Int), (0:Int), (0:Int), (0:Int), (0:Int)], rfl⟩ : (Arr 32 Int))] : List (Arr 32 Int)))), ((eA 1 (T.int .u8)) (⟨[(2:Int), (0:Int), (0:Int), (0:Int), (0:Int), (0:Int), (0:Int), (0:Int), (0:Int), (0:Int), (0:Int), (0:Int), (0:Int), (0:Int), (0:Int), (0:Int), (0:Int), (0:Int), (0:Int), (0:Int), (0:Int), (0:Int), (0:Int), (0:Int), (0:Int), (0:Int), (0:Int), (0:Int), (0:Int), (0:Int), (0:Int), (0:Int)], rfl⟩ : (Arr 32 Int))), ((eA 1 (T.int .u8)) r0)] = some ([.tree (.bool r3)], [])] (by kernel_rfl) ⟨(ap_sign_Valid n (by exact ⟨le_nil, leT.refl _, leT.refl _, trivial⟩) hr1), hb0, (bneq_25 _ rfl _ _), hb1, (ap_sign_Join n (by exact ⟨leT.refl _, trivial⟩) hr2), (beql_25 _ rfl _ _), hb2, (ap_sign_Valid n (by exact ⟨leT.refl _, leT.refl _, leT.refl _, trivial⟩) hr3), trivial⟩ ?_
        refine Nxt_norm ?_
        refine Ab.ret ?_
        obtain rfl := Option.some.inj h
        exact End_ret (doneO_ok (md := [false]) (by kernel_rfl))
      · replace h := cond_f hb2 h
        refine Ab.regT hE hC hL [[], [], [.r [.tree (.bool r1)] []], [], [.b true], [], [], [.b (!(decide (r0 = (Arr.rep 32 (0:Int)))))], [], [.b true], [], [], [], [.r [.tree ((eA 1 (T.int .u8)) r2)] []], [], [.b (decide (r2 = (Arr.rep 32 (0:Int))))], [], [.b false]] { keep := [0], ren := [] } ⟨[(0, (.t (.bool false)))], []⟩ [(sp_sign_Valid n).fn [.nils, ((eA 1 (T.int .u8)) (Arr.rep 32 (0:Int))), ((eA 1 (T.int .u8)) (Arr.rep 32 (0:Int)))] = some ([.tree (.bool r1)], []), (!r1) = true, binOp (E_law07_Awake n) .neq 25 (.t ((eA 1 (T.int .u8)) r0)) (.t ((eA 1 (T.int .u8)) (Arr.rep 32 (0:Int)))) = some (.bool (!(decide (r0 = (Arr.rep 32 (0:Int)))))), (!(decide (r0 = (Arr.rep 32 (0:Int))))) = true, (sp_sign_Join n).fn [(.slc 32 (List.map (eA 1 (T.int .u8)) ([r0, r0] : List (Arr 32 Int))))] = some ([.tree ((eA 1 (T.int .u8)) r2)], []), binOp (E_law07_Awake n) .eql 25 (.t ((eA 1 (T.int .u8)) r2)) (.t ((eA 1 (T.int .u8)) (Arr.rep 32 (0:Int)))) = some (.bool (decide (r2 = (Arr.rep 32 (0:Int))))), (decide (r2 = (Arr.rep 32 (0:Int)))) = false] (by kernel_rfl) ⟨(ap_sign_Valid n (by exact ⟨le_nil, leT.refl _, leT.refl _, trivial⟩) hr1), hb0, (bneq_25 _ rfl _ _), hb1, (ap_sign_Join n (by exact ⟨leT.refl _, trivial⟩) hr2), (beql_25 _ rfl _ _), hb2, trivial⟩ ?_
        refine Nxt_norm ?_
        refine Ab.ret ?_
        obtain rfl := Option.some.inj h
        exact End_ret (doneO_ok (md := [false]) (by kernel_rfl))
    · replace h := cond_f hb1 h
      refine Ab.regT hE hC hL [[], [], [.r [.tree (.bool r1)] []], [], [.b true], [], [], [.b (!(decide (r0 = (Arr.rep 32 (0:Int)))))], [], [.b false]] { keep := [0], ren := [] } ⟨[(0, (.t (.bool false)))], []⟩ [(sp_sign_Valid n).fn [.nils, ((eA 1 (T.int .u8)) (Arr.rep 32 (0:Int))), ((eA 1 (T.int .u8)) (Arr.rep 32 (0:Int)))] = some ([.tree (.bool r1)], []), (!r1) = true, binOp (E_law07_Awake n) .neq 25 (.t ((eA 1 (T.int .u8)) r0)) (.t ((eA 1 (T.int .u8)) (Arr.rep 32 (0:Int)))) = some (.bool (!(decide (r0 = (Arr.rep 32 (0:Int)))))), (!(decide (r0 = (Arr.rep 32 (0:Int))))) = false] (by kernel_rfl) ⟨(ap_sign_Valid n (by exact ⟨le_nil, leT.refl _, leT.refl _, trivial⟩) hr1), hb0, (bneq_25 _ rfl _ _), hb1, trivial⟩ ?_
      refine Nxt_norm ?_
      refine Ab.ret ?_
      obtain rfl := Option.some.inj h
      exact End_ret (doneO_ok (md := [false]) (by kernel_rfl))
  · replace h := cond_f hb0 h
    refine Ab.regT hE hC hL [[], [], [.r [.tree (.bool r1)] []], [], [.b false]] { keep := [0], ren := [] } ⟨[(0, (.t (.bool false)))], []⟩ [(sp_sign_Valid n).fn [.nils, ((eA 1 (T.int .u8)) (Arr.rep 32 (0:Int))), ((eA 1 (T.int .u8)) (Arr.rep 32 (0:Int)))] = some ([.tree (.bool r1)], []), (!r1) = false] (by kernel_rfl) ⟨(ap_sign_Valid n (by exact ⟨le_nil, leT.refl _, leT.refl _, trivial⟩) hr1), hb0, trivial⟩ ?_
    refine Nxt_norm ?_
    refine Ab.ret ?_
    obtain rfl := Option.some.inj h
    exact End_ret (doneO_ok (md := [false]) (by kernel_rfl))
def ea_law07_SignJoins (a : (List (Arr 32 Int)) × Int) : List T := [(eS 32 (eA 1 (T.int .u8))) a.1, (T.int .i64) a.2]
def er_law07_SignJoins (r : Bool) : List RR × List T := ([.tree (T.bool r)], [])
noncomputable def sp_law07_SignJoins (n : Nat) : Spec := specP [] true ea_law07_SignJoins (fun a => f_law07_SignJoins n a.1 a.2) (fun _ r => er_law07_SignJoins r)
theorem ap_law07_SignJoins (n : Nat) {ts : List T} {a0 : (List (Arr 32 Int))} {a1 : Int} {r : Bool} (hle : leTs ts [(eS 32 (eA 1 (T.int .u8))) a0, (T.int .i64) a1]) (h : f_law07_SignJoins n a0 a1 = some r) : (sp_law07_SignJoins n).fn ts = some ([.tree (T.bool r)], []) :=
  specP_fn (a := (a0, a1)) (InjA.cons (inj_eS (inj_eA (inj_int _))) (InjA.one (inj_int _))) hle h
noncomputable def E_law07_SignJoins (n : Nat) : Env := { ty := tyT, glob := glob, fns := get [(20, sp_law07_Awake n), (21, sp_sign_Join n)], ntmps := 59 }
theorem eok_law07_SignJoins (n : Nat) : EnvOK Tryd.prog (E_law07_SignJoins n) := ⟨tys_ok tys_chk, prog_mixed, (fns_cons (ok_law07_Awake n) (fns_cons (ok_sign_Join n) fns_nil))⟩
def K_law07_SignJoins (n : Nat) (pl0 : (List (Arr 32 Int))) (pcut0 : Int) (r : Bool) : St → Prop := Done (E_law07_SignJoins n) Tryd.f6.results.toList [] (ea_law07_SignJoins (pl0, pcut0)) (er_law07_SignJoins r).1 (er_law07_SignJoins r).2
set_option maxRecDepth 100000 in
set_option maxHeartbeats 4000000 in
theorem ok_law07_SignJoins (n : Nat) : SpecB Tryd.prog glob 6 (sp_law07_SignJoins n) := by
  refine specP_B (fn := Tryd.f6) (eok_law07_SignJoins n) (by kernel_rfl) rfl (by decide +kernel) (by kernel_rfl) (fun _ => by show 2 ≤ 59; omega)  ?_
  rintro ⟨pl0, pcut0⟩ r h C hL hC
  have hE := eok_law07_SignJoins n
  replace hL : ∀ n g, (n, g) ∈ C.lent → n ∈ ([] : List Nat) := hL
  replace h : f_law07_SignJoins n pl0 pcut0 = some r := h
  show Ab _ _ _ _ _ (End (K_law07_SignJoins n pl0 pcut0 r))
  unfold f_law07_SignJoins at h
  refine Ab.seq ?_
  refine Ab.regT hE hC hL [] { keep := [0, 1], ren := [] } ⟨[(0, (.t ((eS 32 (eA 1 (T.int .u8))) pl0))), (1, (.t (.int .i64 pcut0)))], []⟩ [] (by kernel_rfl) trivial ?_
  refine Nxt_norm ?_
  refine Ab.seq ?_
  refine Ab.seq ?_
  obtain ⟨r0, hr0, h⟩ := bind_some h
  refine Ab.regT hE hC hL [[.r [.tree (.bool r0)] []]] { keep := [0, 1, 8], ren := [] } ⟨[(0, (.t ((eS 32 (eA 1 (T.int .u8))) pl0))), (1, (.t (.int .i64 pcut0))), (8, (.t (.bool (!r0))))], []⟩ [(sp_law07_Awake n).fn [] = some ([.tree (.bool r0)], [])] (by kernel_rfl) ⟨(ap_law07_Awake n (by exact trivial) hr0), trivial⟩ ?_
  refine Nxt_norm ?_
  refine Ab.cond (b := (!r0)) (by kernel_rfl) (fun hb0 => ?_) (fun hb0 => ?_)
  · replace h := cond_t hb0 h
    refine Ab.seq ?_
    refine Ab.regT hE hC hL [] { keep := [4], ren := [] } ⟨[(4, (.t (.bool false)))], []⟩ [] (by kernel_rfl) trivial ?_
    refine Nxt_norm ?_
    refine Ab.ret ?_
    refine Nxt_ret ?_
    obtain rfl := Option.some.inj h
    exact End_ret (doneO_ok (md := [false]) (by kernel_rfl))
  · replace h := cond_f hb0 h
    refine Ab.skip ?_
    refine Nxt_norm ?_
    refine Ab.seq ?_
    refine Ab.seq ?_
    refine Ab.regT hE hC hL [[], [.n (pl0.length : Int)]] { keep := [0, 1, 11], ren := [] } ⟨[(0, (.t ((eS 32 (eA 1 (T.int .u8))) pl0))), (1, (.t (.int .i64 pcut0))), (11, (.t (.bool (decide ((pl0.length : Int) > (60:Int))))))], []⟩ [((List.length (List.map (eA 1 (T.int .u8)) pl0) : Nat) : Int) = (pl0.length : Int)] (by kernel_rfl) ⟨(len_of rfl), trivial⟩ ?_
    refine Nxt_norm ?_
    refine Ab.cond (b := (decide ((pl0.length : Int) > (60:Int)))) (by kernel_rfl) (fun hb1 => ?_) (fun hb1 => ?_)
    · replace h := cond_t hb1 h
      refine Ab.seq ?_
      refine Ab.regT hE hC hL [] { keep := [4], ren := [] } ⟨[(4, (.t (.bool true)))], []⟩ [] (by kernel_rfl) trivial ?_
      refine Nxt_norm ?_
      refine Ab.ret ?_
      refine Nxt_ret ?_
      obtain rfl := Option.some.inj h
      exact End_ret (doneO_ok (md := [false]) (by kernel_rfl))
    · replace h := cond_f hb1 h
      refine Ab.skip ?_
      refine Nxt_norm ?_
      refine Ab.seq ?_
      obtain ⟨hq0, h⟩ := ask_dec h
      refine Ab.regT hE hC hL [[], [], [], [.n (pl0.length : Int)], [], [], [.c]] { keep := [0, 1], ren := [] } ⟨[(0, (.t ((eS 32 (eA 1 (T.int .u8))) pl0))), (1, (.t (.int .i64 (wi ((w64 pcut0).tmod (w64 (wi ((pl0.length : Int) + (1:Int)))))))))], []⟩ [((List.length (List.map (eA 1 (T.int .u8)) pl0) : Nat) : Int) = (pl0.length : Int), (w64 (wi ((pl0.length : Int) + (1:Int)))) ≠ 0] (by kernel_rfl) ⟨(len_of rfl), hq0, trivial⟩ ?_
      refine Nxt_norm ?_
      refine Ab.seq ?_
      obtain ⟨hq1, h⟩ := ask_dec h
      obtain ⟨hq2, h⟩ := ask_dec h
      obtain ⟨hq3, h⟩ := ask_dec h
      obtain ⟨hq4, h⟩ := ask_dec h
      refine Ab.regA hE hC hL [[], [], [], [.l (List.map (eA 1 (T.int .u8)) (List.drop ((wi ((w64 pcut0).tmod (w64 (wi ((pl0.length : Int) + (1:Int)))))).toNat) pl0))], [.l (List.map (eA 1 (T.int .u8)) (([] : List (Arr 32 Int)) ++ (List.drop ((wi ((w64 pcut0).tmod (w64 (wi ((pl0.length : Int) + (1:Int)))))).toNat) pl0)))], [], [], [.l (List.map (eA 1 (T.int .u8)) (List.take ((wi ((w64 pcut0).tmod (w64 (wi ((pl0.length : Int) + (1:Int)))))).toNat) pl0))], [.l (List.map (eA 1 (T.int .u8)) ((([] : List (Arr 32 Int)) ++ (List.drop ((wi ((w64 pcut0).tmod (w64 (wi ((pl0.length : Int) + (1:Int)))))).toNat) pl0)) ++ (List.take ((wi ((w64 pcut0).tmod (w64 (wi ((pl0.length : Int) + (1:Int)))))).toNat) pl0)))]] { keep := [0, 1, 5], ren := [(28, 28)] } ⟨[(0, (.t ((eS 32 (eA 1 (T.int .u8))) pl0))), (1, (.t (.int .i64 (wi ((w64 pcut0).tmod (w64 (wi ((pl0.length : Int) + (1:Int))))))))), (5, (.own 28))], [(28, (.row false 25 32 (List.map (eA 1 (T.int .u8)) ((([] : List (Arr 32 Int)) ++ (List.drop ((wi ((w64 pcut0).tmod (w64 (wi ((pl0.length : Int) + (1:Int)))))).toNat) pl0)) ++ (List.take ((wi ((w64 pcut0).tmod (w64 (wi ((pl0.length : Int) + (1:Int)))))).toNat) pl0)))))]⟩ [List.take (List.length (List.map (eA 1 (T.int .u8)) pl0) - (wi ((w64 pcut0).tmod (w64 (wi ((pl0.length : Int) + (1:Int)))))).toNat) (List.drop ((wi ((w64 pcut0).tmod (w64 (wi ((pl0.length : Int) + (1:Int)))))).toNat) (List.map (eA 1 (T.int .u8)) pl0)) = List.map (eA 1 (T.int .u8)) (List.drop ((wi ((w64 pcut0).tmod (w64 (wi ((pl0.length : Int) + (1:Int)))))).toNat) pl0), 0 ≤ (wi ((w64 pcut0).tmod (w64 (wi ((pl0.length : Int) + (1:Int)))))), (wi ((w64 pcut0).tmod (w64 (wi ((pl0.length : Int) + (1:Int)))))) ≤ ((List.length (List.map (eA 1 (T.int .u8)) pl0) : Nat) : Int), (List.length (List.map (eA 1 (T.int .u8)) ([] : List (Arr 32 Int))) + List.length (List.map (eA 1 (T.int .u8)) (List.drop ((wi ((w64 pcut0).tmod (w64 (wi ((pl0.length : Int) + (1:Int)))))).toNat) pl0))) * 32 ≤ maxBytes, List.length (List.map (eA 1 (T.int .u8)) ([] : List (Arr 32 Int))) + List.length (List.map (eA 1 (T.int .u8)) (List.drop ((wi ((w64 pcut0).tmod (w64 (wi ((pl0.length : Int) + (1:Int)))))).toNat) pl0)) ≤ maxBytes, (List.map (eA 1 (T.int .u8)) ([] : List (Arr 32 Int))) ++ (List.map (eA 1 (T.int .u8)) (List.drop ((wi ((w64 pcut0).tmod (w64 (wi ((pl0.length : Int) + (1:Int)))))).toNat) pl0)) = List.map (eA 1 (T.int .u8)) (([] : List (Arr 32 Int)) ++ (List.drop ((wi ((w64 pcut0).tmod (w64 (wi ((pl0.length : Int) + (1:Int)))))).toNat) pl0)), List.take ((wi ((w64 pcut0).tmod (w64 (wi ((pl0.length : Int) + (1:Int)))))).toNat - 0) (List.drop 0 (List.map (eA 1 (T.int .u8)) pl0)) = List.map (eA 1 (T.int .u8)) (List.take ((wi ((w64 pcut0).tmod (w64 (wi ((pl0.length : Int) + (1:Int)))))).toNat) pl0), 0 ≤ (wi ((w64 pcut0).tmod (w64 (wi ((pl0.length : Int) + (1:Int)))))), (wi ((w64 pcut0).tmod (w64 (wi ((pl0.length : Int) + (1:Int)))))) ≤ ((List.length (List.map (eA 1 (T.int .u8)) pl0) : Nat) : Int), (List.length (List.map (eA 1 (T.int .u8)) (([] : List (Arr 32 Int)) ++ (List.drop ((wi ((w64 pcut0).tmod (w64 (wi ((pl0.length : Int) + (1:Int)))))).toNat) pl0))) + List.length (List.map (eA 1 (T.int .u8)) (List.take ((wi ((w64 pcut0).tmod (w64 (wi ((pl0.length : Int) + (1:Int)))))).toNat) pl0))) * 32 ≤ maxBytes, List.length (List.map (eA 1 (T.int .u8)) (([] : List (Arr 32 Int)) ++ (List.drop ((wi ((w64 pcut0).tmod (w64 (wi ((pl0.length : Int) + (1:Int)))))).toNat) pl0))) + List.length (List.map (eA 1 (T.int .u8)) (List.take ((wi ((w64 pcut0).tmod (w64 (wi ((pl0.length : Int) + (1:Int)))))).toNat) pl0)) ≤ maxBytes, (List.map (eA 1 (T.int .u8)) (([] : List (Arr 32 Int)) ++ (List.drop ((wi ((w64 pcut0).tmod (w64 (wi ((pl0.length : Int) + (1:Int)))))).toNat) pl0))) ++ (List.map (eA 1 (T.int .u8)) (List.take ((wi ((w64 pcut0).tmod (w64 (wi ((pl0.length : Int) + (1:Int)))))).toNat) pl0)) = List.map (eA 1 (T.int .u8)) ((([] : List (Arr 32 Int)) ++ (List.drop ((wi ((w64 pcut0).tmod (w64 (wi ((pl0.length : Int) + (1:Int)))))).toNat) pl0)) ++ (List.take ((wi ((w64 pcut0).tmod (w64 (wi ((pl0.length : Int) + (1:Int)))))).toNat) pl0))] (by kernel_rfl) (by kernel_rfl) ⟨(win_suf rfl _), hq1, (le_len rfl hq2), (app_b rfl rfl hq3), (app_c rfl rfl (by decide) hq3), (app_of rfl rfl), (win_pre rfl _), hq1, (le_len rfl hq2), (app_b rfl rfl hq4), (app_c rfl rfl (by decide) hq4), (app_of rfl rfl), trivial⟩ ?_
      refine Nxt_norm ?_
      refine Ab.seq ?_
      obtain ⟨hq5, h⟩ := ask_dec h
      obtain ⟨r1, hr1, h⟩ := bind_some h
      refine Ab.regT hE hC hL [[], [], [.l (List.map (eA 1 (T.int .u8)) (([] : List (Arr 32 Int)) ++ pl0))], [.r [.tree ((eA 1 (T.int .u8)) r1)] []]] { keep := [0, 1, 5, 6], ren := [(6, 6), (28, 28)] } ⟨[(0, (.t ((eS 32 (eA 1 (T.int .u8))) pl0))), (1, (.t (.int .i64 (wi ((w64 pcut0).tmod (w64 (wi ((pl0.length : Int) + (1:Int))))))))), (5, (.own 28)), (6, (.ref 6 [] (0)))], [(6, (.var false 25 (.t ((eA 1 (T.int .u8)) r1)))), (28, (.row false 25 32 (List.map (eA 1 (T.int .u8)) ((([] : List (Arr 32 Int)) ++ (List.drop ((wi ((w64 pcut0).tmod (w64 (wi ((pl0.length : Int) + (1:Int)))))).toNat) pl0)) ++ (List.take ((wi ((w64 pcut0).tmod (w64 (wi ((pl0.length : Int) + (1:Int)))))).toNat) pl0)))))]⟩ [(List.length (List.map (eA 1 (T.int .u8)) ([] : List (Arr 32 Int))) + List.length (List.map (eA 1 (T.int .u8)) pl0)) * 32 ≤ maxBytes, List.length (List.map (eA 1 (T.int .u8)) ([] : List (Arr 32 Int))) + List.length (List.map (eA 1 (T.int .u8)) pl0) ≤ maxBytes, (List.map (eA 1 (T.int .u8)) ([] : List (Arr 32 Int))) ++ (List.map (eA 1 (T.int .u8)) pl0) = List.map (eA 1 (T.int .u8)) (([] : List (Arr 32 Int)) ++ pl0), (sp_sign_Join n).fn [(.slc 32 (List.map (eA 1 (T.int .u8)) (([] : List (Arr 32 Int)) ++ pl0)))] = some ([.tree ((eA 1 (T.int .u8)) r1)], [])] (by kernel_rfl) ⟨(app_b rfl rfl hq5), (app_c rfl rfl (by decide) hq5), (app_of rfl rfl), (ap_sign_Join n (by exact ⟨leT.refl _, trivial⟩) hr1), trivial⟩ ?_
      refine Nxt_norm ?_
      refine Ab.seq ?_
      obtain ⟨r2, hr2, h⟩ := bind_some h
      rcases Bool.eq_false_or_eq_true (decide (r1 = r2)) with hb2 | hb2
      · replace h := cond_t hb2 h
        obtain ⟨r3, hr3, h⟩ := bind_some h
        obtain ⟨r4, hr4, h⟩ := bind_some h
        obtain ⟨r5, hr5, h⟩ := bind_some h
        rcases Bool.eq_false_or_eq_true (decide (r1 = r5)) with hb3 | hb3
        · replace h := cond_t hb3 h
          obtain ⟨r6, hr6, h⟩ := bind_some h
          refine Ab.regA hE hC hL [[], [], [.r [.tree ((eA 1 (T.int .u8)) r2)] []], [.b (decide (r1 = r2))], [.b true], [], [], [], [.l (List.map (eA 1 (T.int .u8)) (List.take ((wi ((w64 pcut0).tmod (w64 (wi ((pl0.length : Int) + (1:Int)))))).toNat) pl0))], [.r [.tree ((eA 1 (T.int .u8)) r3)] []], [], [], [.l (List.map (eA 1 (T.int .u8)) (List.drop ((wi ((w64 pcut0).tmod (w64 (wi ((pl0.length : Int) + (1:Int)))))).toNat) pl0))], [.r [.tree ((eA 1 (T.int .u8)) r4)] []], [], [.r [.tree ((eA 1 (T.int .u8)) r5)] []], [.b (decide (r1 = r5))], [], [.b true], [], [], [], [.r [.tree ((eA 1 (T.int .u8)) r6)] []], [], [.b (decide (r6 = (Arr.rep 32 (0:Int))))]] { keep := [4], ren := [] } ⟨[(4, (.t (.bool (decide (r6 = (Arr.rep 32 (0:Int)))))))], []⟩ [(sp_sign_Join n).fn [(.slc 32 (List.map (eA 1 (T.int .u8)) ((([] : List (Arr 32 Int)) ++ (List.drop ((wi ((w64 pcut0).tmod (w64 (wi ((pl0.length : Int) + (1:Int)))))).toNat) pl0)) ++ (List.take ((wi ((w64 pcut0).tmod (w64 (wi ((pl0.length : Int) + (1:Int)))))).toNat) pl0))))] = some ([.tree ((eA 1 (T.int .u8)) r2)], []), binOp (E_law07_SignJoins n) .eql 25 (.t ((eA 1 (T.int .u8)) r1)) (.t ((eA 1 (T.int .u8)) r2)) = some (.bool (decide (r1 = r2))), (decide (r1 = r2)) = true, List.take ((wi ((w64 pcut0).tmod (w64 (wi ((pl0.length : Int) + (1:Int)))))).toNat - 0) (List.drop 0 (List.map (eA 1 (T.int .u8)) pl0)) = List.map (eA 1 (T.int .u8)) (List.take ((wi ((w64 pcut0).tmod (w64 (wi ((pl0.length : Int) + (1:Int)))))).toNat) pl0), 0 ≤ (wi ((w64 pcut0).tmod (w64 (wi ((pl0.length : Int) + (1:Int)))))), (wi ((w64 pcut0).tmod (w64 (wi ((pl0.length : Int) + (1:Int)))))) ≤ ((List.length (List.map (eA 1 (T.int .u8)) pl0) : Nat) : Int), (sp_sign_Join n).fn [((eS 32 (eA 1 (T.int .u8))) (List.take ((wi ((w64 pcut0).tmod (w64 (wi ((pl0.length : Int) + (1:Int)))))).toNat) pl0))] = some ([.tree ((eA 1 (T.int .u8)) r3)], []), List.take (List.length (List.map (eA 1 (T.int .u8)) pl0) - (wi ((w64 pcut0).tmod (w64 (wi ((pl0.length : Int) + (1:Int)))))).toNat) (List.drop ((wi ((w64 pcut0).tmod (w64 (wi ((pl0.length : Int) + (1:Int)))))).toNat) (List.map (eA 1 (T.int .u8)) pl0)) = List.map (eA 1 (T.int .u8)) (List.drop ((wi ((w64 pcut0).tmod (w64 (wi ((pl0.length : Int) + (1:Int)))))).toNat) pl0), 0 ≤ (wi ((w64 pcut0).tmod (w64 (wi ((pl0.length : Int) + (1:Int)))))), (wi ((w64 pcut0).tmod (w64 (wi ((pl0.length : Int) + (1:Int)))))) ≤ ((List.length (List.map (eA 1 (T.int .u8)) pl0) : Nat) : Int), (sp_sign_Join n).fn [((eS 32 (eA 1 (T.int .u8))) (List.drop ((wi ((w64 pcut0).tmod (w64 (wi ((pl0.length : Int) + (1:Int)))))).toNat) pl0))] = some ([.tree ((eA 1 (T.int .u8)) r4)], []), (sp_sign_Join n).fn [(.slc 32 (List.map (eA 1 (T.int .u8)) ([r3, r4] : List (Arr 32 Int))))] = some ([.tree ((eA 1 (T.int .u8)) r5)], []), binOp (E_law07_SignJoins n) .eql 25 (.t ((eA 1 (T.int .u8)) r1)) (.t ((eA 1 (T.int .u8)) r5)) = some (.bool (decide (r1 = r5))), (decide (r1 = r5)) = true, (sp_sign_Join n).fn [(.slc 32 (List.map (eA 1 (T.int .u8)) ([r1, r1] : List (Arr 32 Int))))] = some ([.tree ((eA 1 (T.int .u8)) r6)], []), binOp (E_law07_SignJoins n) .eql 25 (.t ((eA 1 (T.int .u8)) r6)) (.t ((eA 1 (T.int .u8)) (Arr.rep 32 (0:Int)))) = some (.bool (decide (r6 = (Arr.rep 32 (0:Int)))))] (by kernel_rfl) (by kernel_rfl) ⟨(ap_sign_Join n (by exact ⟨leT.refl _, trivial⟩) hr2), (beql_25 _ rfl _ _), hb2, (win_pre rfl _), hq1, (le_len rfl hq2), (ap_sign_Join n (by exact ⟨leT.refl _, trivial⟩) hr3), (win_suf rfl _), hq1, (le_len rfl hq2), (ap_sign_Join n (by exact ⟨leT.refl _, trivial⟩) hr4), (ap_sign_Join n (by exact ⟨leT.refl _, trivial⟩) hr5), (beql_25 _ rfl _ _), hb3, (ap_sign_Join n (by exact ⟨leT.refl _, trivial⟩) hr6), (beql_25 _ rfl _ _), trivial⟩ ?_
          refine Nxt_norm ?_
          refine Ab.ret ?_
          obtain rfl := Option.some.inj h
          exact End_ret (doneO_ok (md := [false]) (by kernel_rfl))
        · replace h := cond_f hb3 h
          refine Ab.regA hE hC hL [[], [], [.r [.tree ((eA 1 (T.int .u8)) r2)] []], [.b (decide (r1 = r2))], [.b true], [], [], [], [.l (List.map (eA 1 (T.int .u8)) (List.take ((wi ((w64 pcut0).tmod (w64 (wi ((pl0.length : Int) + (1:Int)))))).toNat) pl0))], [.r [.tree ((eA 1 (T.int .u8)) r3)] []], [], [], [.l (List.map (eA 1 (T.int .u8)) (List.drop ((wi ((w64 pcut0).tmod (w64 (wi ((pl0.length : Int) + (1:Int)))))).toNat) pl0))], [.r [.tree ((eA 1 (T.int .u8)) r4)] []], [], [.r [.tree ((eA 1 (T.int .u8)) r5)] []], [.b (decide (r1 = r5))], [], [.b false]] { keep := [4], ren := [] } ⟨[(4, (.t (.bool false)))], []⟩ [(sp_sign_Join n).fn [(.slc 32 (List.map (eA 1 (T.int .u8)) ((([] : List (Arr 32 Int)) ++ (List.drop ((wi ((w64 pcut0).tmod (w64 (wi ((pl0.length : Int) + (1:Int)))))).toNat) pl0)) ++ (List.take ((wi ((w64 pcut0).tmod (w64 (wi ((pl0.length : Int) + (1:Int)))))).toNat) pl0))))] = some ([.tree ((eA 1 (T.int .u8)) r2)], []), binOp (E_law07_SignJoins n) .eql 25 (.t ((eA 1 (T.int .u8)) r1)) (.t ((eA 1 (T.int .u8)) r2)) = some (.bool (decide (r1 = r2))), (decide (r1 = r2)) = true, List.take ((wi ((w64 pcut0).tmod (w64 (wi ((pl0.length : Int) + (1:Int)))))).toNat - 0) (List.drop 0 (List.map (eA 1 (T.int .u8)) pl0)) = List.map (eA 1 (T.int .u8)) (List.take ((wi ((w64 pcut0).tmod (w64 (wi ((pl0.length : Int) + (1:Int)))))).toNat) pl0), 0 ≤ (wi ((w64 pcut0).tmod (w64 (wi ((pl0.length : Int) + (1:Int)))))), (wi ((w64 pcut0).tmod (w64 (wi ((pl0.length : Int) + (1:Int)))))) ≤ ((List.length (List.map (eA 1 (T.int .u8)) pl0) : Nat) : Int), (sp_sign_Join n).fn [((eS 32 (eA 1 (T.int .u8))) (List.take ((wi ((w64 pcut0).tmod (w64 (wi ((pl0.length : Int) + (1:Int)))))).toNat) pl0))] = some ([.tree ((eA 1 (T.int .u8)) r3)], []), List.take (List.length (List.map (eA 1 (T.int .u8)) pl0) - (wi ((w64 pcut0).tmod (w64 (wi ((pl0.length : Int) + (1:Int)))))).toNat) (List.drop ((wi ((w64 pcut0).tmod (w64 (wi ((pl0.length : Int) + (1:Int)))))).toNat) (List.map (eA 1 (T.int .u8)) pl0)) = List.map (eA 1 (T.int .u8)) (List.drop ((wi ((w64 pcut0).tmod (w64 (wi ((pl0.length : Int) + (1:Int)))))).toNat) pl0), 0 ≤ (wi ((w64 pcut0).tmod (w64 (wi ((pl0.length : Int) + (1:Int)))))), (wi ((w64 pcut0).tmod (w64 (wi ((pl0.length : Int) + (1:Int)))))) ≤ ((List.length (List.map (eA 1 (T.int .u8)) pl0) : Nat) : Int), (sp_sign_Join n).fn [((eS 32 (eA 1 (T.int .u8))) (List.drop ((wi ((w64 pcut0).tmod (w64 (wi ((pl0.length : Int) + (1:Int)))))).toNat) pl0))] = some ([.tree ((eA 1 (T.int .u8)) r4)], []), (sp_sign_Join n).fn [(.slc 32 (List.map (eA 1 (T.int .u8)) ([r3, r4] : List (Arr 32 Int))))] = some ([.tree ((eA 1 (T.int .u8)) r5)], []), binOp (E_law07_SignJoins n) .eql 25 (.t ((eA 1 (T.int .u8)) r1)) (.t ((eA 1 (T.int .u8)) r5)) = some (.bool (decide (r1 = r5))), (decide (r1 = r5)) = false] (by kernel_rfl) (by kernel_rfl) ⟨(ap_sign_Join n (by exact ⟨leT.refl _, trivial⟩) hr2), (beql_25 _ rfl _ _), hb2, (win_pre rfl _), hq1, (le_len rfl hq2), (ap_sign_Join n (by exact ⟨leT.refl _, trivial⟩) hr3), (win_suf rfl _), hq1, (le_len rfl hq2), (ap_sign_Join n (by exact ⟨leT.refl _, trivial⟩) hr4), (ap_sign_Join n (by exact ⟨leT.refl _, trivial⟩) hr5), (beql_25 _ rfl _ _), hb3, trivial⟩ ?_
          refine Nxt_norm ?_
          refine Ab.ret ?_
          obtain rfl := Option.some.inj h
          exact End_ret (doneO_ok (md := [false]) (by kernel_rfl))
      · replace h := cond_f hb2 h
        refine Ab.regA hE hC hL [[], [], [.r [.tree ((eA 1 (T.int .u8)) r2)] []], [.b (decide (r1 = r2))], [.b false]] { keep := [4], ren := [] } ⟨[(4, (.t (.bool false)))], []⟩ [(sp_sign_Join n).fn [(.slc 32 (List.map (eA 1 (T.int .u8)) ((([] : List (Arr 32 Int)) ++ (List.drop ((wi ((w64 pcut0).tmod (w64 (wi ((pl0.length : Int) + (1:Int)))))).toNat) pl0)) ++ (List.take ((wi ((w64 pcut0).tmod (w64 (wi ((pl0.length : Int) + (1:Int)))))).toNat) pl0))))] = some ([.tree ((eA 1 (T.int .u8)) r2)], []), binOp (E_law07_SignJoins n) .eql 25 (.t ((eA 1 (T.int .u8)) r1)) (.t ((eA 1 (T.int .u8)) r2)) = some (.bool (decide (r1 = r2))), (decide (r1 = r2)) = false] (by kernel_rfl) (by kernel_rfl) ⟨(ap_sign_Join n (by exact ⟨leT.refl _, trivial⟩) hr2), (beql_25 _ rfl _ _), hb2, trivial⟩ ?_
        refine Nxt_norm ?_
        refine Ab.ret ?_
        obtain rfl := Option.some.inj h
        exact End_ret (doneO_ok (md := [false]) (by kernel_rfl))
def ea_num_Put (a : Int × Int) : List T := [(T.int .u64) a.1, (T.int .i64) a.2]
def er_num_Put (r : (List Int)) : List RR × List T := ([.row 5 1 (List.map (T.int .u8) r)], [])
noncomputable def sp_num_Put (n : Nat) : Spec := specP [] false ea_num_Put (fun a => f_num_Put n a.1 a.2) (fun _ r => er_num_Put r)
theorem ap_num_Put (n : Nat) {ts : List T} {a0 : Int} {a1 : Int} {r : (List Int)} (hle : leTs ts [(T.int .u64) a0, (T.int .i64) a1]) (h : f_num_Put n a0 a1 = some r) : (sp_num_Put n).fn ts = some ([.row 5 1 (List.map (T.int .u8) r)], []) :=
  specP_fn (a := (a0, a1)) (InjA.cons (inj_int _) (InjA.one (inj_int _))) hle h
noncomputable def E_num_Put (n : Nat) : Env := { ty := tyT, glob := glob, fns := get [], ntmps := 27 }
theorem eok_num_Put (n : Nat) : EnvOK Tryd.prog (E_num_Put n) := ⟨tys_ok tys_chk, prog_mixed, fns_nil⟩
def K_num_Put (n : Nat) (pn0 : Int) (psize0 : Int) (r : (List Int)) : St → Prop := Done (E_num_Put n) Tryd.f48.results.toList [] (ea_num_Put (pn0, psize0)) (er_num_Put r).1 (er_num_Put r).2
set_option maxRecDepth 100000 in
set_option maxHeartbeats 4000000 in
theorem ok_num_Put (n : Nat) : SpecOK Tryd.prog glob 48 (sp_num_Put n) := by
  refine specP_ok (fn := Tryd.f48) (eok_num_Put n) (by kernel_rfl) rfl (by decide +kernel) (by kernel_rfl) (fun _ => by show 2 ≤ 27; omega) (fun h => Bool.noConfusion h) ?_
  rintro ⟨pn0, psize0⟩ r h C hL hC
  have hE := eok_num_Put n
  replace hL : ∀ n g, (n, g) ∈ C.lent → n ∈ ([] : List Nat) := hL
  replace h : f_num_Put n pn0 psize0 = some r := h
  show Ab _ _ _ _ _ (End (K_num_Put n pn0 psize0 r))
  unfold f_num_Put at h
  refine Ab.seq ?_
  refine Ab.regT hE hC hL [] { keep := [0, 1], ren := [] } ⟨[(0, (.t (.int .u64 pn0))), (1, (.t (.int .i64 psize0)))], []⟩ [] (by kernel_rfl) trivial ?_
  refine Nxt_norm ?_
  refine Ab.seq ?_
  refine Ab.regT hE hC hL [] { keep := [0, 1, 5], ren := [] } ⟨[(0, (.t (.int .u64 pn0))), (1, (.t (.int .i64 psize0))), (5, (.t .nils))], []⟩ [] (by kernel_rfl) trivial ?_
  refine Nxt_norm ?_
  refine Ab.seq ?_
  refine Ab.seq ?_
  refine Ab.regT hE hC hL [] { keep := [0, 5, 8, 9], ren := [] } ⟨[(0, (.t (.int .u64 pn0))), (5, (.t .nils)), (8, (.t (.int .i64 (gmax psize0 (0:Int))))), (9, (.t (.int .i64 (0:Int))))], []⟩ [] (by kernel_rfl) trivial ?_
  refine Nxt_norm ?_
  obtain ⟨x0, hx0, h⟩ := bind_some h
  refine Ab.loopX0 (fun ((a0, a1) : ((List Int) × Int)) => (⟨[(0, (.t (.int .u64 pn0))), (5, (.own 49000)), (8, (.t (.int .i64 (gmax psize0 (0:Int))))), (9, (.t (.int .i64 a1)))], [(49000, (.row false 5 1 (List.map (T.int .u8) a0)))]⟩ : St)) (fun (a2 : (List Int)) => (⟨[(5, (.own 49000))], [(49000, (.row false 5 1 (List.map (T.int .u8) a2)))]⟩ : St)) { fs := [⟨(.t 5), [], .own 48000 5 1⟩], keep := [0, 5, 8, 9], ren := [(48000, 49000)] } (([] : List Int), (0:Int)) hC hL hx0 (by kernel_rfl) ?_ ?_
  · rintro ⟨a0, a1⟩ o0 h
    replace h : f_num_Put_b0 n pn0 psize0 a0 a1 = some o0 := h
    unfold f_num_Put_b0 at h
    refine Ab.seq ?_
    refine Ab.regT hE hC hL [] { keep := [0, 5, 8, 9, 10], ren := [(49000, 49000)] } ⟨[(0, (.t (.int .u64 pn0))), (5, (.own 49000)), (8, (.t (.int .i64 (gmax psize0 (0:Int))))), (9, (.t (.int .i64 a1))), (10, (.t (.bool (decide (a1 < (gmax psize0 (0:Int)))))))], [(49000, (.row false 5 1 (List.map (T.int .u8) a0)))]⟩ [] (by kernel_rfl) trivial ?_
    refine Nxt_norm ?_
    refine Ab.seq ?_
    refine Ab.cond (b := (decide (a1 < (gmax psize0 (0:Int))))) (by kernel_rfl) (fun hb0 => ?_) (fun hb0 => ?_)
    · replace h := cond_t hb0 h
      refine Ab.skip ?_
      refine Nxt_norm ?_
      refine Ab.seq ?_
      refine Ab.block ?_
      refine Ab.seq ?_
      refine Ab.regT hE hC hL [] { keep := [0, 5, 6, 8, 9], ren := [(49000, 49000)] } ⟨[(0, (.t (.int .u64 pn0))), (5, (.own 49000)), (6, (.t (.int .i64 a1))), (8, (.t (.int .i64 (gmax psize0 (0:Int))))), (9, (.t (.int .i64 a1)))], [(49000, (.row false 5 1 (List.map (T.int .u8) a0)))]⟩ [] (by kernel_rfl) trivial ?_
      refine Nxt_norm ?_
      refine Ab.seq ?_
      refine Ab.regT hE hC hL [] { keep := [0, 5, 6, 8, 9, 13], ren := [(49000, 49000)] } ⟨[(0, (.t (.int .u64 pn0))), (5, (.own 49000)), (6, (.t (.int .i64 a1))), (8, (.t (.int .i64 (gmax psize0 (0:Int))))), (9, (.t (.int .i64 a1))), (13, (.t (.bool (decide (a1 < (8:Int))))))], [(49000, (.row false 5 1 (List.map (T.int .u8) a0)))]⟩ [] (by kernel_rfl) trivial ?_
      refine Nxt_norm ?_
      refine Ab.cond (b := (decide (a1 < (8:Int)))) (by kernel_rfl) (fun hb1 => ?_) (fun hb1 => ?_)
      · replace h := cond_t hb1 h
        obtain ⟨hq0, h⟩ := ask_dec h
        obtain ⟨hq1, h⟩ := ask_dec h
        refine Ab.regT hE hC hL [[], [], [], [], [.c], [], [], [.l (List.map (T.int .u8) (a0 ++ ([(w8 (shr .u64 pn0 (wi ((8:Int) * a1))))] : List Int)))]] { keep := [0, 5, 8, 9], ren := [(21, 21)] } ⟨[(0, (.t (.int .u64 pn0))), (5, (.own 21)), (8, (.t (.int .i64 (gmax psize0 (0:Int))))), (9, (.t (.int .i64 a1)))], [(21, (.row false 5 1 (List.map (T.int .u8) (a0 ++ ([(w8 (shr .u64 pn0 (wi ((8:Int) * a1))))] : List Int)))))]⟩ [¬ (wi ((8:Int) * a1)) < 0, (List.length (List.map (T.int .u8) a0) + List.length (List.map (T.int .u8) ([(w8 (shr .u64 pn0 (wi ((8:Int) * a1))))] : List Int))) * 1 ≤ maxBytes, List.length (List.map (T.int .u8) a0) + List.length (List.map (T.int .u8) ([(w8 (shr .u64 pn0 (wi ((8:Int) * a1))))] : List Int)) ≤ maxBytes, (List.map (T.int .u8) a0) ++ (List.map (T.int .u8) ([(w8 (shr .u64 pn0 (wi ((8:Int) * a1))))] : List Int)) = List.map (T.int .u8) (a0 ++ ([(w8 (shr .u64 pn0 (wi ((8:Int) * a1))))] : List Int))] (by kernel_rfl) ⟨(Int.not_lt.2 hq0), (app_b rfl rfl hq1), (app_c rfl rfl (by decide) hq1), (app_of rfl rfl), trivial⟩ ?_
        refine Blk_norm ?_
        refine Nxt_norm ?_
        refine Ab.regT hE hC hL [] { keep := [0, 5, 8, 9], ren := [(21, 21)] } ⟨[(0, (.t (.int .u64 pn0))), (5, (.own 21)), (8, (.t (.int .i64 (gmax psize0 (0:Int))))), (9, (.t (.int .i64 (wi (a1 + (1:Int))))))], [(21, (.row false 5 1 (List.map (T.int .u8) (a0 ++ ([(w8 (shr .u64 pn0 (wi ((8:Int) * a1))))] : List Int)))))]⟩ [] (by kernel_rfl) trivial ?_
        exact LK_norm ((a0 ++ ([(w8 (shr .u64 pn0 (wi ((8:Int) * a1))))] : List Int)), (wi (a1 + (1:Int)))) { fs := [], keep := [0, 5, 8, 9], ren := [(21, 49000)] } h (by kernel_rfl)
      · replace h := cond_f hb1 h
        obtain ⟨hq2, h⟩ := ask_dec h
        refine Ab.regT hE hC hL [[], [], [.l (List.map (T.int .u8) (a0 ++ ([(0:Int)] : List Int)))]] { keep := [0, 5, 8, 9], ren := [(24, 24)] } ⟨[(0, (.t (.int .u64 pn0))), (5, (.own 24)), (8, (.t (.int .i64 (gmax psize0 (0:Int))))), (9, (.t (.int .i64 a1)))], [(24, (.row false 5 1 (List.map (T.int .u8) (a0 ++ ([(0:Int)] : List Int)))))]⟩ [(List.length (List.map (T.int .u8) a0) + List.length (List.map (T.int .u8) ([(0:Int)] : List Int))) * 1 ≤ maxBytes, List.length (List.map (T.int .u8) a0) + List.length (List.map (T.int .u8) ([(0:Int)] : List Int)) ≤ maxBytes, (List.map (T.int .u8) a0) ++ (List.map (T.int .u8) ([(0:Int)] : List Int)) = List.map (T.int .u8) (a0 ++ ([(0:Int)] : List Int))] (by kernel_rfl) ⟨(app_b rfl rfl hq2), (app_c rfl rfl (by decide) hq2), (app_of rfl rfl), trivial⟩ ?_
        refine Blk_norm ?_
        refine Nxt_norm ?_
        refine Ab.regT hE hC hL [] { keep := [0, 5, 8, 9], ren := [(24, 24)] } ⟨[(0, (.t (.int .u64 pn0))), (5, (.own 24)), (8, (.t (.int .i64 (gmax psize0 (0:Int))))), (9, (.t (.int .i64 (wi (a1 + (1:Int))))))], [(24, (.row false 5 1 (List.map (T.int .u8) (a0 ++ ([(0:Int)] : List Int)))))]⟩ [] (by kernel_rfl) trivial ?_
        exact LK_norm ((a0 ++ ([(0:Int)] : List Int)), (wi (a1 + (1:Int)))) { fs := [], keep := [0, 5, 8, 9], ren := [(24, 49000)] } h (by kernel_rfl)
    · replace h := cond_f hb0 h
      refine Ab.exit ?_
      refine Nxt_exit ?_
      exact LK_exit a0 h (PX_mk { fs := [], keep := [5], ren := [(49000, 49000)] } (by kernel_rfl))
  · refine Nxt_norm ?_
    refine Ab.seq ?_
    refine Ab.regT hE hC hL [] { keep := [4], ren := [(49000, 49000)] } ⟨[(4, (.own 49000))], [(49000, (.row false 5 1 (List.map (T.int .u8) x0)))]⟩ [] (by kernel_rfl) trivial ?_
    refine Nxt_norm ?_
    refine Ab.ret ?_
    obtain rfl := Option.some.inj h
    exact End_ret (doneO_ok (md := [true]) (by kernel_rfl))

end Go.Mg
