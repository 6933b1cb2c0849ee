/- The model's code computes these functions. -/
import Derived.Test.YtighjjielkdafaaDoorAF
namespace Go.Mg
open Go Go.Proofs
def ea_bits_RotateLeft32 (a : Int × Int) : List T := [(T.int .u32) a.1, (T.int .i64) a.2]
def er_bits_RotateLeft32 (r : Int) : List RR × List T := ([.tree ((T.int .u32) r)], [])
noncomputable def sp_bits_RotateLeft32 (n : Nat) : Spec := specP [] true ea_bits_RotateLeft32 (fun a => f_bits_RotateLeft32 n a.1 a.2) (fun _ r => er_bits_RotateLeft32 r)
theorem ap_bits_RotateLeft32 (n : Nat) {ts : List T} {a0 : Int} {a1 : Int} {r : Int} (hle : leTs ts [(T.int .u32) a0, (T.int .i64) a1]) (h : f_bits_RotateLeft32 n a0 a1 = some r) : (sp_bits_RotateLeft32 n).fn ts = some ([.tree ((T.int .u32) r)], []) :=
  specP_fn (a := (a0, a1)) (InjA.cons (inj_int _) (InjA.one (inj_int _))) hle h
noncomputable def E_bits_RotateLeft32 (n : Nat) : Env := { ty := tyT, glob := glob, fns := get [], ntmps := 17 }
theorem eok_bits_RotateLeft32 (n : Nat) : EnvOK Tryd.prog (E_bits_RotateLeft32 n) := ⟨tys_ok tys_chk, prog_mixed, fns_nil⟩
def K_bits_RotateLeft32 (n : Nat) (px0 : Int) (pk0 : Int) (r : Int) : St → Prop := Done (E_bits_RotateLeft32 n) Tryd.f52.results.toList [] (ea_bits_RotateLeft32 (px0, pk0)) (er_bits_RotateLeft32 r).1 (er_bits_RotateLeft32 r).2
set_option maxRecDepth 100000 in
set_option maxHeartbeats 4000000 in
theorem ok_bits_RotateLeft32 (n : Nat) : SpecOK Tryd.prog glob 52 (sp_bits_RotateLeft32 n) := by
  refine specP_ok (fn := Tryd.f52) (eok_bits_RotateLeft32 n) (by kernel_rfl) rfl (by decide +kernel) (by kernel_rfl) (fun _ => by show 2 ≤ 17; omega) (fun _ _ r => ⟨(rrf_tree ((fun _ => rfl) _) rrf_nil), flats_nil⟩) ?_
  rintro ⟨px0, pk0⟩ r h C hL hC
  have hE := eok_bits_RotateLeft32 n
  replace hL : ∀ n g, (n, g) ∈ C.lent → n ∈ ([] : List Nat) := hL
  replace h : f_bits_RotateLeft32 n px0 pk0 = some r := h
  show Ab _ _ _ _ _ (End (K_bits_RotateLeft32 n px0 pk0 r))
  unfold f_bits_RotateLeft32 at h
  refine Ab.seq ?_
  refine Ab.regT hE hC hL [] { keep := [0, 1], ren := [] } ⟨[(0, (.t (.int .u32 px0))), (1, (.t (.int .i64 pk0)))], []⟩ [] (by kernel_rfl) trivial ?_
  refine Nxt_norm ?_
  refine Ab.seq ?_
  refine Ab.regT hE hC hL [] { keep := [0, 5], ren := [] } ⟨[(0, (.t (.int .u32 px0))), (5, (.t (.int .u64 (bits .and .u64 (w64 pk0) (31:Int)))))], []⟩ [] (by kernel_rfl) trivial ?_
  refine Nxt_norm ?_
  refine Ab.seq ?_
  obtain ⟨hq0, h⟩ := ask_dec h
  obtain ⟨hq1, h⟩ := ask_dec h
  refine Ab.regT hE hC hL [[], [], [.c], [], [], [], [.c]] { keep := [4], ren := [] } ⟨[(4, (.t (.int .u32 (bits .or .u32 (shl .u32 px0 (bits .and .u64 (w64 pk0) (31:Int))) (shr .u32 px0 (w64 ((32:Int) - (bits .and .u64 (w64 pk0) (31:Int)))))))))], []⟩ [¬ (bits .and .u64 (w64 pk0) (31:Int)) < 0, ¬ (w64 ((32:Int) - (bits .and .u64 (w64 pk0) (31:Int)))) < 0] (by kernel_rfl) ⟨(Int.not_lt.2 hq0), (Int.not_lt.2 hq1), trivial⟩ ?_
  refine Nxt_norm ?_
  refine Ab.ret ?_
  obtain rfl := Option.some.inj h
  exact End_ret (doneO_ok (md := [false]) (by kernel_rfl))
def ea_digest_block (a : (Arr 8 Int) × (List Int)) : List T := [(eA 1 (T.int .u32)) a.1, (eS 1 (T.int .u8)) a.2]
def er_digest_block (r : (Arr 8 Int)) : List RR × List T := ([], [(eA 1 (T.int .u32)) r])
noncomputable def sp_digest_block (n : Nat) : Spec := specP [true, false] true ea_digest_block (fun a => f_digest_block n a.1 a.2) (fun _ r => er_digest_block r)
theorem ap_digest_block (n : Nat) {ts : List T} {a0 : (Arr 8 Int)} {a1 : (List Int)} {r : (Arr 8 Int)} (hle : leTs ts [(eA 1 (T.int .u32)) a0, (eS 1 (T.int .u8)) a1]) (h : f_digest_block n a0 a1 = some r) : (sp_digest_block n).fn ts = some ([], [(eA 1 (T.int .u32)) r]) :=
  specP_fn (a := (a0, a1)) (InjA.cons (inj_eA (inj_int _)) (InjA.one (inj_eS (inj_int _)))) hle h
noncomputable def E_digest_block (n : Nat) : Env := { ty := tyT, glob := glob, fns := get [(52, sp_bits_RotateLeft32 n)], ntmps := 208 }
theorem eok_digest_block (n : Nat) : EnvOK Tryd.prog (E_digest_block n) := ⟨tys_ok tys_chk, prog_mixed, (fns_cons (ok_bits_RotateLeft32 n) fns_nil)⟩
def K_digest_block (n : Nat) (pt0 : (Arr 8 Int)) (po0 : (List Int)) (r : (Arr 8 Int)) : St → Prop := Done (E_digest_block n) Tryd.f45.results.toList [true, false] (ea_digest_block (pt0, po0)) (er_digest_block r).1 (er_digest_block r).2
set_option maxRecDepth 100000 in
set_option maxHeartbeats 4000000 in
theorem ok_digest_block (n : Nat) : SpecOK Tryd.prog glob 45 (sp_digest_block n) := by
  refine specP_ok (fn := Tryd.f45) (eok_digest_block n) (by kernel_rfl) rfl (by decide +kernel) (by kernel_rfl) (fun _ => by show 2 ≤ 208; omega) (fun _ _ r => ⟨rrf_nil, (flats_cons ((flat_eA (fun _ => rfl)) _) flats_nil)⟩) ?_
  rintro ⟨pt0, po0⟩ r h C hL hC
  have hE := eok_digest_block n
  replace hL : ∀ n g, (n, g) ∈ C.lent → n ∈ ([50000] : List Nat) := hL
  replace h : f_digest_block n pt0 po0 = some r := h
  show Ab _ _ _ _ _ (End (K_digest_block n pt0 po0 r))
  unfold f_digest_block at h
  refine Ab.seq ?_
  refine Ab.regT hE hC hL [] { keep := [0, 1, 4], ren := [(4, 4), (50000, 50000)] } ⟨[(0, (.ref 50000 [] (0))), (1, (.t ((eS 1 (T.int .u8)) po0))), (4, (.ref 4 [] (0)))], [(4, (.var false 76 (.t ((eA 1 (T.int .u32)) (Arr.rep 64 (0:Int)))))), (50000, (.var false 0 (.t ((eA 1 (T.int .u32)) pt0))))]⟩ [] (by kernel_rfl) trivial ?_
  refine Nxt_norm ?_
  refine Ab.seq ?_
  refine Ab.seq ?_
  refine Ab.regT hE hC hL [] { keep := [0, 1, 4, 16], ren := [(4, 4), (50000, 50000)] } ⟨[(0, (.ref 50000 [] (0))), (1, (.t ((eS 1 (T.int .u8)) po0))), (4, (.ref 4 [] (0))), (16, (.t (.int .i64 (0:Int))))], [(4, (.var false 76 (.t ((eA 1 (T.int .u32)) (Arr.rep 64 (0:Int)))))), (50000, (.var false 0 (.t ((eA 1 (T.int .u32)) pt0))))]⟩ [] (by kernel_rfl) trivial ?_
  refine Nxt_norm ?_
  obtain ⟨x0, hx0, h⟩ := bind_some h
  refine Ab.loopX0 (fun ((a0, a1) : ((Arr 64 Int) × Int)) => (⟨[(0, (.ref 50000 [] (0))), (1, (.t ((eS 1 (T.int .u8)) po0))), (4, (.ref 49001 [] (0))), (16, (.t (.int .i64 a1)))], [(50000, (.var false 0 (.t ((eA 1 (T.int .u32)) pt0)))), (49001, (.var false 76 (.t ((eA 1 (T.int .u32)) a0))))]⟩ : St)) (fun (a2 : (Arr 64 Int)) => (⟨[(0, (.ref 50000 [] (0))), (4, (.ref 49001 [] (0)))], [(50000, (.var false 0 (.t ((eA 1 (T.int .u32)) pt0)))), (49001, (.var false 76 (.t ((eA 1 (T.int .u32)) a2))))]⟩ : St)) { fs := [], keep := [0, 1, 4, 16], ren := [(50000, 50000), (4, 49001)] } ((Arr.rep 64 (0:Int)), (0:Int)) hC hL hx0 (by kernel_rfl) ?_ ?_
  · rintro ⟨a0, a1⟩ o0 h
    replace h : f_digest_block_b0 n po0 a0 a1 = some o0 := h
    unfold f_digest_block_b0 at h
    refine Ab.seq ?_
    refine Ab.regT hE hC hL [] { keep := [0, 1, 4, 16, 17], ren := [(49001, 49001), (50000, 50000)] } ⟨[(0, (.ref 50000 [] (0))), (1, (.t ((eS 1 (T.int .u8)) po0))), (4, (.ref 49001 [] (0))), (16, (.t (.int .i64 a1))), (17, (.t (.bool (decide (a1 < (16:Int))))))], [(49001, (.var false 76 (.t ((eA 1 (T.int .u32)) a0)))), (50000, (.var false 0 (.t ((eA 1 (T.int .u32)) pt0))))]⟩ [] (by kernel_rfl) trivial ?_
    refine Nxt_norm ?_
    refine Ab.seq ?_
    refine Ab.cond (b := (decide (a1 < (16:Int)))) (by kernel_rfl) (fun hb0 => ?_) (fun hb0 => ?_)
    · replace h := cond_t hb0 h
      refine Ab.skip ?_
      refine Nxt_norm ?_
      refine Ab.seq ?_
      refine Ab.block ?_
      refine Ab.seq ?_
      refine Ab.regT hE hC hL [] { keep := [0, 1, 4, 5, 16], ren := [(49001, 49001), (50000, 50000)] } ⟨[(0, (.ref 50000 [] (0))), (1, (.t ((eS 1 (T.int .u8)) po0))), (4, (.ref 49001 [] (0))), (5, (.t (.int .i64 a1))), (16, (.t (.int .i64 a1)))], [(49001, (.var false 76 (.t ((eA 1 (T.int .u32)) a0)))), (50000, (.var false 0 (.t ((eA 1 (T.int .u32)) pt0))))]⟩ [] (by kernel_rfl) trivial ?_
      refine Nxt_norm ?_
      obtain ⟨hq0, h⟩ := ask_dec h
      obtain ⟨v0, hv0, h⟩ := bind_some h
      obtain ⟨hq1, h⟩ := ask_dec h
      obtain ⟨v1, hv1, h⟩ := bind_some h
      obtain ⟨hq2, h⟩ := ask_dec h
      obtain ⟨v2, hv2, h⟩ := bind_some h
      obtain ⟨hq3, h⟩ := ask_dec h
      obtain ⟨v3, hv3, h⟩ := bind_some h
      obtain ⟨hq4, h⟩ := ask_dec h
      obtain ⟨hq5, h⟩ := ask_dec h
      obtain ⟨v4, hv4, h⟩ := bind_some h
      refine Ab.regA hE hC hL [[], [], [], [], [.t (.int .u8 v0)], [], [], [], [], [], [], [], [.t (.int .u8 v1)], [], [], [], [], [], [], [], [], [.t (.int .u8 v2)], [], [], [], [], [], [], [], [], [.t (.int .u8 v3)], [], [], [], [.c], [.t (.int .u32 v4), .l (List.map (T.int .u32) (Arr.set a0 (a1.toNat) (bits .or .u32 (bits .or .u32 (bits .or .u32 (shl .u32 (w32 v0) (24:Int)) (shl .u32 (w32 v1) (16:Int))) (shl .u32 (w32 v2) (8:Int))) (w32 v3))).l)]] { keep := [0, 1, 4, 16], ren := [(49001, 49001), (50000, 50000)] } ⟨[(0, (.ref 50000 [] (0))), (1, (.t ((eS 1 (T.int .u8)) po0))), (4, (.ref 49001 [] (0))), (16, (.t (.int .i64 a1)))], [(49001, (.var false 76 (.t ((eA 1 (T.int .u32)) (Arr.set a0 (a1.toNat) (bits .or .u32 (bits .or .u32 (bits .or .u32 (shl .u32 (w32 v0) (24:Int)) (shl .u32 (w32 v1) (16:Int))) (shl .u32 (w32 v2) (8:Int))) (w32 v3))))))), (50000, (.var false 0 (.t ((eA 1 (T.int .u32)) pt0))))]⟩ [0 ≤ (wi ((4:Int) * a1)), (List.map (T.int .u8) po0)[(wi ((4:Int) * a1)).toNat]? = some (.int .u8 v0), 0 ≤ (wi ((wi ((4:Int) * a1)) + (1:Int))), (List.map (T.int .u8) po0)[(wi ((wi ((4:Int) * a1)) + (1:Int))).toNat]? = some (.int .u8 v1), 0 ≤ (wi ((wi ((4:Int) * a1)) + (2:Int))), (List.map (T.int .u8) po0)[(wi ((wi ((4:Int) * a1)) + (2:Int))).toNat]? = some (.int .u8 v2), 0 ≤ (wi ((wi ((4:Int) * a1)) + (3:Int))), (List.map (T.int .u8) po0)[(wi ((wi ((4:Int) * a1)) + (3:Int))).toNat]? = some (.int .u8 v3), 0 ≤ a1, a1 < ((64 : Nat) : Int), a1.toNat * 1 + 0 = 0 + a1.toNat * 1, (List.map (T.int .u32) a0.l)[a1.toNat]? = some (.int .u32 v4), (List.map (T.int .u32) a0.l)[a1.toNat]? = some (.int .u32 v4), (List.map (T.int .u32) a0.l).set a1.toNat (.int .u32 (bits .or .u32 (bits .or .u32 (bits .or .u32 (shl .u32 (w32 v0) (24:Int)) (shl .u32 (w32 v1) (16:Int))) (shl .u32 (w32 v2) (8:Int))) (w32 v3))) = List.map (T.int .u32) (Arr.set a0 (a1.toNat) (bits .or .u32 (bits .or .u32 (bits .or .u32 (shl .u32 (w32 v0) (24:Int)) (shl .u32 (w32 v1) (16:Int))) (shl .u32 (w32 v2) (8:Int))) (w32 v3))).l] (by kernel_rfl) (by kernel_rfl) ⟨hq0, (at_map hv0), hq1, (at_map hv1), hq2, (at_map hv2), hq3, (at_map hv3), hq4, hq5, (by omega), (at_map hv4), (at_map hv4), set_map, trivial⟩ ?_
      refine Blk_norm ?_
      refine Nxt_norm ?_
      refine Ab.regT hE hC hL [] { keep := [0, 1, 4, 16], ren := [(49001, 49001), (50000, 50000)] } ⟨[(0, (.ref 50000 [] (0))), (1, (.t ((eS 1 (T.int .u8)) po0))), (4, (.ref 49001 [] (0))), (16, (.t (.int .i64 (wi (a1 + (1:Int))))))], [(49001, (.var false 76 (.t ((eA 1 (T.int .u32)) (Arr.set a0 (a1.toNat) (bits .or .u32 (bits .or .u32 (bits .or .u32 (shl .u32 (w32 v0) (24:Int)) (shl .u32 (w32 v1) (16:Int))) (shl .u32 (w32 v2) (8:Int))) (w32 v3))))))), (50000, (.var false 0 (.t ((eA 1 (T.int .u32)) pt0))))]⟩ [] (by kernel_rfl) trivial ?_
      exact LK_norm ((Arr.set a0 (a1.toNat) (bits .or .u32 (bits .or .u32 (bits .or .u32 (shl .u32 (w32 v0) (24:Int)) (shl .u32 (w32 v1) (16:Int))) (shl .u32 (w32 v2) (8:Int))) (w32 v3))), (wi (a1 + (1:Int)))) { fs := [], keep := [0, 1, 4, 16], ren := [(50000, 50000), (49001, 49001)] } h (by kernel_rfl)
    · replace h := cond_f hb0 h
      refine Ab.exit ?_
      refine Nxt_exit ?_
      exact LK_exit a0 h (PX_mk { fs := [], keep := [0, 4], ren := [(50000, 50000), (49001, 49001)] } (by kernel_rfl))
  · refine Nxt_norm ?_
    refine Ab.seq ?_
    refine Ab.seq ?_
    refine Ab.regT hE hC hL [] { keep := [0, 4, 6], ren := [(49001, 49001), (50000, 50000)] } ⟨[(0, (.ref 50000 [] (0))), (4, (.ref 49001 [] (0))), (6, (.t (.int .i64 (16:Int))))], [(49001, (.var false 76 (.t ((eA 1 (T.int .u32)) x0)))), (50000, (.var false 0 (.t ((eA 1 (T.int .u32)) pt0))))]⟩ [] (by kernel_rfl) trivial ?_
    refine Nxt_norm ?_
    obtain ⟨x1, hx1, h⟩ := bind_some h
    refine Ab.loopX0 (fun ((a8, a9) : ((Arr 64 Int) × Int)) => (⟨[(0, (.ref 50000 [] (0))), (4, (.ref 49001 [] (0))), (6, (.t (.int .i64 a9)))], [(50000, (.var false 0 (.t ((eA 1 (T.int .u32)) pt0)))), (49001, (.var false 76 (.t ((eA 1 (T.int .u32)) a8))))]⟩ : St)) (fun (a10 : (Arr 64 Int)) => (⟨[(0, (.ref 50000 [] (0))), (4, (.ref 49001 [] (0)))], [(50000, (.var false 0 (.t ((eA 1 (T.int .u32)) pt0)))), (49001, (.var false 76 (.t ((eA 1 (T.int .u32)) a10))))]⟩ : St)) { fs := [], keep := [0, 4, 6], ren := [(50000, 50000), (49001, 49001)] } (x0, (16:Int)) hC hL hx1 (by kernel_rfl) ?_ ?_
    · rintro ⟨a8, a9⟩ o1 h
      replace h : f_digest_block_b1 n  a8 a9 = some o1 := h
      unfold f_digest_block_b1 at h
      refine Ab.seq ?_
      refine Ab.seq ?_
      refine Ab.regT hE hC hL [] { keep := [0, 4, 6, 56], ren := [(49001, 49001), (50000, 50000)] } ⟨[(0, (.ref 50000 [] (0))), (4, (.ref 49001 [] (0))), (6, (.t (.int .i64 a9))), (56, (.t (.bool (decide (a9 < (64:Int))))))], [(49001, (.var false 76 (.t ((eA 1 (T.int .u32)) a8)))), (50000, (.var false 0 (.t ((eA 1 (T.int .u32)) pt0))))]⟩ [] (by kernel_rfl) trivial ?_
      refine Nxt_norm ?_
      refine Ab.cond (b := (decide (a9 < (64:Int)))) (by kernel_rfl) (fun hb1 => ?_) (fun hb1 => ?_)
      · replace h := cond_t hb1 h
        refine Ab.skip ?_
        refine Nxt_norm ?_
        refine Ab.seq ?_
        refine Ab.block ?_
        refine Ab.seq ?_
        obtain ⟨hq6, h⟩ := ask_dec h
        obtain ⟨hq7, h⟩ := ask_dec h
        obtain ⟨v5, hv5, h⟩ := bind_some h
        obtain ⟨r0, hr0, h⟩ := bind_some h
        obtain ⟨r1, hr1, h⟩ := bind_some h
        refine Ab.regA hE hC hL [[], [], [.c], [.t (.int .u32 v5)], [.r [.tree (.int .u32 r0)] []], [], [], [.c], [.t (.int .u32 v5)], [.r [.tree (.int .u32 r1)] []], [], [], [], [.c], [.t (.int .u32 v5)]] { keep := [0, 4, 6, 7], ren := [(49001, 49001), (50000, 50000)] } ⟨[(0, (.ref 50000 [] (0))), (4, (.ref 49001 [] (0))), (6, (.t (.int .i64 a9))), (7, (.t (.int .u32 (bits .xor .u32 (bits .xor .u32 r0 r1) (shr .u32 v5 (3:Int))))))], [(49001, (.var false 76 (.t ((eA 1 (T.int .u32)) a8)))), (50000, (.var false 0 (.t ((eA 1 (T.int .u32)) pt0))))]⟩ [0 ≤ (wi (a9 - (15:Int))), (wi (a9 - (15:Int))) < ((64 : Nat) : Int), (wi (a9 - (15:Int))).toNat * 1 + 0 = 0 + (wi (a9 - (15:Int))).toNat * 1, (List.map (T.int .u32) a8.l)[(wi (a9 - (15:Int))).toNat]? = some (.int .u32 v5), (sp_bits_RotateLeft32 n).fn [(.int .u32 v5), (.int .i64 (-7:Int))] = some ([.tree (.int .u32 r0)], []), 0 ≤ (wi (a9 - (15:Int))), (wi (a9 - (15:Int))) < ((64 : Nat) : Int), (wi (a9 - (15:Int))).toNat * 1 + 0 = 0 + (wi (a9 - (15:Int))).toNat * 1, (List.map (T.int .u32) a8.l)[(wi (a9 - (15:Int))).toNat]? = some (.int .u32 v5), (sp_bits_RotateLeft32 n).fn [(.int .u32 v5), (.int .i64 (-18:Int))] = some ([.tree (.int .u32 r1)], []), 0 ≤ (wi (a9 - (15:Int))), (wi (a9 - (15:Int))) < ((64 : Nat) : Int), (wi (a9 - (15:Int))).toNat * 1 + 0 = 0 + (wi (a9 - (15:Int))).toNat * 1, (List.map (T.int .u32) a8.l)[(wi (a9 - (15:Int))).toNat]? = some (.int .u32 v5)] (by kernel_rfl) (by kernel_rfl) ⟨hq6, hq7, (by omega), (at_map hv5), (ap_bits_RotateLeft32 n (by exact ⟨leT.refl _, leT.refl _, trivial⟩) hr0), hq6, hq7, (by omega), (at_map hv5), (ap_bits_RotateLeft32 n (by exact ⟨leT.refl _, leT.refl _, trivial⟩) hr1), hq6, hq7, (by omega), (at_map hv5), trivial⟩ ?_
        refine Nxt_norm ?_
        refine Ab.seq ?_
        obtain ⟨hq8, h⟩ := ask_dec h
        obtain ⟨hq9, h⟩ := ask_dec h
        obtain ⟨v6, hv6, h⟩ := bind_some h
        obtain ⟨r2, hr2, h⟩ := bind_some h
        obtain ⟨r3, hr3, h⟩ := bind_some h
        refine Ab.regA hE hC hL [[], [], [.c], [.t (.int .u32 v6)], [.r [.tree (.int .u32 r2)] []], [], [], [.c], [.t (.int .u32 v6)], [.r [.tree (.int .u32 r3)] []], [], [], [], [.c], [.t (.int .u32 v6)]] { keep := [0, 4, 6, 7, 8], ren := [(49001, 49001), (50000, 50000)] } ⟨[(0, (.ref 50000 [] (0))), (4, (.ref 49001 [] (0))), (6, (.t (.int .i64 a9))), (7, (.t (.int .u32 (bits .xor .u32 (bits .xor .u32 r0 r1) (shr .u32 v5 (3:Int)))))), (8, (.t (.int .u32 (bits .xor .u32 (bits .xor .u32 r2 r3) (shr .u32 v6 (10:Int))))))], [(49001, (.var false 76 (.t ((eA 1 (T.int .u32)) a8)))), (50000, (.var false 0 (.t ((eA 1 (T.int .u32)) pt0))))]⟩ [0 ≤ (wi (a9 - (2:Int))), (wi (a9 - (2:Int))) < ((64 : Nat) : Int), (wi (a9 - (2:Int))).toNat * 1 + 0 = 0 + (wi (a9 - (2:Int))).toNat * 1, (List.map (T.int .u32) a8.l)[(wi (a9 - (2:Int))).toNat]? = some (.int .u32 v6), (sp_bits_RotateLeft32 n).fn [(.int .u32 v6), (.int .i64 (-17:Int))] = some ([.tree (.int .u32 r2)], []), 0 ≤ (wi (a9 - (2:Int))), (wi (a9 - (2:Int))) < ((64 : Nat) : Int), (wi (a9 - (2:Int))).toNat * 1 + 0 = 0 + (wi (a9 - (2:Int))).toNat * 1, (List.map (T.int .u32) a8.l)[(wi (a9 - (2:Int))).toNat]? = some (.int .u32 v6), (sp_bits_RotateLeft32 n).fn [(.int .u32 v6), (.int .i64 (-19:Int))] = some ([.tree (.int .u32 r3)], []), 0 ≤ (wi (a9 - (2:Int))), (wi (a9 - (2:Int))) < ((64 : Nat) : Int), (wi (a9 - (2:Int))).toNat * 1 + 0 = 0 + (wi (a9 - (2:Int))).toNat * 1, (List.map (T.int .u32) a8.l)[(wi (a9 - (2:Int))).toNat]? = some (.int .u32 v6)] (by kernel_rfl) (by kernel_rfl) ⟨hq8, hq9, (by omega), (at_map hv6), (ap_bits_RotateLeft32 n (by exact ⟨leT.refl _, leT.refl _, trivial⟩) hr2), hq8, hq9, (by omega), (at_map hv6), (ap_bits_RotateLeft32 n (by exact ⟨leT.refl _, leT.refl _, trivial⟩) hr3), hq8, hq9, (by omega), (at_map hv6), trivial⟩ ?_
        refine Nxt_norm ?_
        obtain ⟨hq10, h⟩ := ask_dec h
        obtain ⟨hq11, h⟩ := ask_dec h
        obtain ⟨v7, hv7, h⟩ := bind_some h
        obtain ⟨hq12, h⟩ := ask_dec h
        obtain ⟨hq13, h⟩ := ask_dec h
        obtain ⟨v8, hv8, h⟩ := bind_some h
        obtain ⟨hq14, h⟩ := ask_dec h
        obtain ⟨v9, hv9, h⟩ := bind_some h
        refine Ab.regA hE hC hL [[], [], [], [.c], [.t (.int .u32 v7)], [], [], [], [], [.c], [.t (.int .u32 v8)], [], [], [], [.c], [.t (.int .u32 v9), .l (List.map (T.int .u32) (Arr.set a8 (a9.toNat) (w32 ((w32 ((w32 (v7 + (bits .xor .u32 (bits .xor .u32 r0 r1) (shr .u32 v5 (3:Int))))) + v8)) + (bits .xor .u32 (bits .xor .u32 r2 r3) (shr .u32 v6 (10:Int)))))).l)]] { keep := [0, 4, 6], ren := [(49001, 49001), (50000, 50000)] } ⟨[(0, (.ref 50000 [] (0))), (4, (.ref 49001 [] (0))), (6, (.t (.int .i64 a9)))], [(49001, (.var false 76 (.t ((eA 1 (T.int .u32)) (Arr.set a8 (a9.toNat) (w32 ((w32 ((w32 (v7 + (bits .xor .u32 (bits .xor .u32 r0 r1) (shr .u32 v5 (3:Int))))) + v8)) + (bits .xor .u32 (bits .xor .u32 r2 r3) (shr .u32 v6 (10:Int)))))))))), (50000, (.var false 0 (.t ((eA 1 (T.int .u32)) pt0))))]⟩ [0 ≤ (wi (a9 - (16:Int))), (wi (a9 - (16:Int))) < ((64 : Nat) : Int), (wi (a9 - (16:Int))).toNat * 1 + 0 = 0 + (wi (a9 - (16:Int))).toNat * 1, (List.map (T.int .u32) a8.l)[(wi (a9 - (16:Int))).toNat]? = some (.int .u32 v7), 0 ≤ (wi (a9 - (7:Int))), (wi (a9 - (7:Int))) < ((64 : Nat) : Int), (wi (a9 - (7:Int))).toNat * 1 + 0 = 0 + (wi (a9 - (7:Int))).toNat * 1, (List.map (T.int .u32) a8.l)[(wi (a9 - (7:Int))).toNat]? = some (.int .u32 v8), 0 ≤ a9, a9 < ((64 : Nat) : Int), a9.toNat * 1 + 0 = 0 + a9.toNat * 1, (List.map (T.int .u32) a8.l)[a9.toNat]? = some (.int .u32 v9), (List.map (T.int .u32) a8.l)[a9.toNat]? = some (.int .u32 v9), (List.map (T.int .u32) a8.l).set a9.toNat (.int .u32 (w32 ((w32 ((w32 (v7 + (bits .xor .u32 (bits .xor .u32 r0 r1) (shr .u32 v5 (3:Int))))) + v8)) + (bits .xor .u32 (bits .xor .u32 r2 r3) (shr .u32 v6 (10:Int)))))) = List.map (T.int .u32) (Arr.set a8 (a9.toNat) (w32 ((w32 ((w32 (v7 + (bits .xor .u32 (bits .xor .u32 r0 r1) (shr .u32 v5 (3:Int))))) + v8)) + (bits .xor .u32 (bits .xor .u32 r2 r3) (shr .u32 v6 (10:Int)))))).l] (by kernel_rfl) (by kernel_rfl) ⟨hq10, hq11, (by omega), (at_map hv7), hq12, hq13, (by omega), (at_map hv8), hq14, (of_decide_eq_true hb1), (by omega), (at_map hv9), (at_map hv9), set_map, trivial⟩ ?_
        refine Blk_norm ?_
        refine Nxt_norm ?_
        refine Ab.regT hE hC hL [] { keep := [0, 4, 6], ren := [(49001, 49001), (50000, 50000)] } ⟨[(0, (.ref 50000 [] (0))), (4, (.ref 49001 [] (0))), (6, (.t (.int .i64 (wi (a9 + (1:Int))))))], [(49001, (.var false 76 (.t ((eA 1 (T.int .u32)) (Arr.set a8 (a9.toNat) (w32 ((w32 ((w32 (v7 + (bits .xor .u32 (bits .xor .u32 r0 r1) (shr .u32 v5 (3:Int))))) + v8)) + (bits .xor .u32 (bits .xor .u32 r2 r3) (shr .u32 v6 (10:Int)))))))))), (50000, (.var false 0 (.t ((eA 1 (T.int .u32)) pt0))))]⟩ [] (by kernel_rfl) trivial ?_
        exact LK_norm ((Arr.set a8 (a9.toNat) (w32 ((w32 ((w32 (v7 + (bits .xor .u32 (bits .xor .u32 r0 r1) (shr .u32 v5 (3:Int))))) + v8)) + (bits .xor .u32 (bits .xor .u32 r2 r3) (shr .u32 v6 (10:Int)))))), (wi (a9 + (1:Int)))) { fs := [], keep := [0, 4, 6], ren := [(50000, 50000), (49001, 49001)] } h (by kernel_rfl)
      · replace h := cond_f hb1 h
        refine Ab.exit ?_
        refine Nxt_exit ?_
        exact LK_exit a8 h (PX_mk { fs := [], keep := [0, 4], ren := [(50000, 50000), (49001, 49001)] } (by kernel_rfl))
    · refine Nxt_norm ?_
      refine Ab.seq ?_
      refine Ab.regT hE hC hL [] { keep := [0, 4, 9], ren := [(9, 9), (49001, 49001), (50000, 50000)] } ⟨[(0, (.ref 50000 [] (0))), (4, (.ref 49001 [] (0))), (9, (.ref 9 [] (0)))], [(9, (.var false 73 (.t ((eA 1 (T.int .u32)) pt0)))), (49001, (.var false 76 (.t ((eA 1 (T.int .u32)) x1)))), (50000, (.var false 0 (.t ((eA 1 (T.int .u32)) pt0))))]⟩ [] (by kernel_rfl) trivial ?_
      refine Nxt_norm ?_
      refine Ab.seq ?_
      refine Ab.seq ?_
      refine Ab.regT hE hC hL [] { keep := [0, 4, 9, 111], ren := [(9, 9), (49001, 49001), (50000, 50000)] } ⟨[(0, (.ref 50000 [] (0))), (4, (.ref 49001 [] (0))), (9, (.ref 9 [] (0))), (111, (.t (.int .i64 (0:Int))))], [(9, (.var false 73 (.t ((eA 1 (T.int .u32)) pt0)))), (49001, (.var false 76 (.t ((eA 1 (T.int .u32)) x1)))), (50000, (.var false 0 (.t ((eA 1 (T.int .u32)) pt0))))]⟩ [] (by kernel_rfl) trivial ?_
      refine Nxt_norm ?_
      obtain ⟨x2, hx2, h⟩ := bind_some h
      refine Ab.loopX0 (fun ((a16, a17) : ((Arr 8 Int) × Int)) => (⟨[(0, (.ref 50000 [] (0))), (4, (.ref 49001 [] (0))), (9, (.ref 49002 [] (0))), (111, (.t (.int .i64 a17)))], [(50000, (.var false 0 (.t ((eA 1 (T.int .u32)) pt0)))), (49001, (.var false 76 (.t ((eA 1 (T.int .u32)) x1)))), (49002, (.var false 73 (.t ((eA 1 (T.int .u32)) a16))))]⟩ : St)) (fun (a18 : (Arr 8 Int)) => (⟨[(0, (.ref 50000 [] (0))), (9, (.ref 49001 [] (0)))], [(50000, (.var false 0 (.t ((eA 1 (T.int .u32)) pt0)))), (49001, (.var false 73 (.t ((eA 1 (T.int .u32)) a18))))]⟩ : St)) { fs := [], keep := [0, 4, 9, 111], ren := [(50000, 50000), (49001, 49001), (9, 49002)] } (pt0, (0:Int)) hC hL hx2 (by kernel_rfl) ?_ ?_
      · rintro ⟨a16, a17⟩ o2 h
        replace h : f_digest_block_b2 n x1 a16 a17 = some o2 := h
        unfold f_digest_block_b2 at h
        refine Ab.seq ?_
        refine Ab.regT hE hC hL [] { keep := [0, 4, 9, 111, 112], ren := [(49001, 49001), (49002, 49002), (50000, 50000)] } ⟨[(0, (.ref 50000 [] (0))), (4, (.ref 49001 [] (0))), (9, (.ref 49002 [] (0))), (111, (.t (.int .i64 a17))), (112, (.t (.bool (decide (a17 < (64:Int))))))], [(49001, (.var false 76 (.t ((eA 1 (T.int .u32)) x1)))), (49002, (.var false 73 (.t ((eA 1 (T.int .u32)) a16)))), (50000, (.var false 0 (.t ((eA 1 (T.int .u32)) pt0))))]⟩ [] (by kernel_rfl) trivial ?_
        refine Nxt_norm ?_
        refine Ab.seq ?_
        refine Ab.cond (b := (decide (a17 < (64:Int)))) (by kernel_rfl) (fun hb2 => ?_) (fun hb2 => ?_)
        · replace h := cond_t hb2 h
          refine Ab.skip ?_
          refine Nxt_norm ?_
          refine Ab.seq ?_
          refine Ab.block ?_
          refine Ab.seq ?_
          refine Ab.regT hE hC hL [] { keep := [0, 4, 9, 10, 111], ren := [(49001, 49001), (49002, 49002), (50000, 50000)] } ⟨[(0, (.ref 50000 [] (0))), (4, (.ref 49001 [] (0))), (9, (.ref 49002 [] (0))), (10, (.t (.int .i64 a17))), (111, (.t (.int .i64 a17)))], [(49001, (.var false 76 (.t ((eA 1 (T.int .u32)) x1)))), (49002, (.var false 73 (.t ((eA 1 (T.int .u32)) a16)))), (50000, (.var false 0 (.t ((eA 1 (T.int .u32)) pt0))))]⟩ [] (by kernel_rfl) trivial ?_
          refine Nxt_norm ?_
          refine Ab.seq ?_
          obtain ⟨v10, hv10, h⟩ := bind_some h
          obtain ⟨r4, hr4, h⟩ := bind_some h
          obtain ⟨r5, hr5, h⟩ := bind_some h
          obtain ⟨r6, hr6, h⟩ := bind_some h
          refine Ab.regA hE hC hL [[], [.t (.int .u32 v10)], [.r [.tree (.int .u32 r4)] []], [], [.t (.int .u32 v10)], [.r [.tree (.int .u32 r5)] []], [], [], [.t (.int .u32 v10)], [.r [.tree (.int .u32 r6)] []]] { keep := [0, 4, 9, 10, 11, 111], ren := [(49001, 49001), (49002, 49002), (50000, 50000)] } ⟨[(0, (.ref 50000 [] (0))), (4, (.ref 49001 [] (0))), (9, (.ref 49002 [] (0))), (10, (.t (.int .i64 a17))), (11, (.t (.int .u32 (bits .xor .u32 (bits .xor .u32 r4 r5) r6)))), (111, (.t (.int .i64 a17)))], [(49001, (.var false 76 (.t ((eA 1 (T.int .u32)) x1)))), (49002, (.var false 73 (.t ((eA 1 (T.int .u32)) a16)))), (50000, (.var false 0 (.t ((eA 1 (T.int .u32)) pt0))))]⟩ [4 = 4, (List.map (T.int .u32) a16.l)[4]? = some (.int .u32 v10), (sp_bits_RotateLeft32 n).fn [(.int .u32 v10), (.int .i64 (-6:Int))] = some ([.tree (.int .u32 r4)], []), 4 = 4, (List.map (T.int .u32) a16.l)[4]? = some (.int .u32 v10), (sp_bits_RotateLeft32 n).fn [(.int .u32 v10), (.int .i64 (-11:Int))] = some ([.tree (.int .u32 r5)], []), 4 = 4, (List.map (T.int .u32) a16.l)[4]? = some (.int .u32 v10), (sp_bits_RotateLeft32 n).fn [(.int .u32 v10), (.int .i64 (-25:Int))] = some ([.tree (.int .u32 r6)], [])] (by kernel_rfl) (by kernel_rfl) ⟨(by omega), (at_map hv10), (ap_bits_RotateLeft32 n (by exact ⟨leT.refl _, leT.refl _, trivial⟩) hr4), (by omega), (at_map hv10), (ap_bits_RotateLeft32 n (by exact ⟨leT.refl _, leT.refl _, trivial⟩) hr5), (by omega), (at_map hv10), (ap_bits_RotateLeft32 n (by exact ⟨leT.refl _, leT.refl _, trivial⟩) hr6), trivial⟩ ?_
          refine Nxt_norm ?_
          refine Ab.seq ?_
          obtain ⟨v11, hv11, h⟩ := bind_some h
          obtain ⟨v12, hv12, h⟩ := bind_some h
          obtain ⟨v13, hv13, h⟩ := bind_some h
          obtain ⟨hq15, h⟩ := ask_dec h
          obtain ⟨v14, hv14, h⟩ := bind_some h
          obtain ⟨v15, hv15, h⟩ := bind_some h
          refine Ab.regA hE hC hL [[], [.t (.int .u32 v11)], [], [], [], [.t (.int .u32 v10)], [], [.t (.int .u32 v12)], [], [], [.t (.int .u32 v10)], [], [], [.t (.int .u32 v13)], [], [], [], [], [.t (.int .u32 v14)], [], [], [], [.c], [.t (.int .u32 v15)]] { keep := [0, 4, 9, 12, 111], ren := [(49001, 49001), (49002, 49002), (50000, 50000)] } ⟨[(0, (.ref 50000 [] (0))), (4, (.ref 49001 [] (0))), (9, (.ref 49002 [] (0))), (12, (.t (.int .u32 (w32 ((w32 ((w32 ((w32 (v11 + (bits .xor .u32 (bits .xor .u32 r4 r5) r6))) + (bits .xor .u32 (bits .and .u32 v10 v12) (bits .and .u32 (bits .xor .u32 (4294967295) v10) v13)))) + v14)) + v15))))), (111, (.t (.int .i64 a17)))], [(49001, (.var false 76 (.t ((eA 1 (T.int .u32)) x1)))), (49002, (.var false 73 (.t ((eA 1 (T.int .u32)) a16)))), (50000, (.var false 0 (.t ((eA 1 (T.int .u32)) pt0))))]⟩ [7 = 7, (List.map (T.int .u32) a16.l)[7]? = some (.int .u32 v11), 4 = 4, (List.map (T.int .u32) a16.l)[4]? = some (.int .u32 v10), 5 = 5, (List.map (T.int .u32) a16.l)[5]? = some (.int .u32 v12), 4 = 4, (List.map (T.int .u32) a16.l)[4]? = some (.int .u32 v10), 6 = 6, (List.map (T.int .u32) a16.l)[6]? = some (.int .u32 v13), 0 ≤ a17, a17 < ((64 : Nat) : Int), (List.map (T.int .u32) g_0.l)[a17.toNat]? = some (.int .u32 v14), 0 ≤ a17, a17 < ((64 : Nat) : Int), a17.toNat * 1 + 0 = 0 + a17.toNat * 1, (List.map (T.int .u32) x1.l)[a17.toNat]? = some (.int .u32 v15)] (by kernel_rfl) (by kernel_rfl) ⟨(by omega), (at_map hv11), (by omega), (at_map hv10), (by omega), (at_map hv12), (by omega), (at_map hv10), (by omega), (at_map hv13), hq15, (of_decide_eq_true hb2), (at_map hv14), hq15, (of_decide_eq_true hb2), (by omega), (at_map hv15), trivial⟩ ?_
          refine Nxt_norm ?_
          refine Ab.seq ?_
          obtain ⟨v16, hv16, h⟩ := bind_some h
          obtain ⟨r7, hr7, h⟩ := bind_some h
          obtain ⟨r8, hr8, h⟩ := bind_some h
          obtain ⟨r9, hr9, h⟩ := bind_some h
          refine Ab.regA hE hC hL [[], [.t (.int .u32 v16)], [.r [.tree (.int .u32 r7)] []], [], [.t (.int .u32 v16)], [.r [.tree (.int .u32 r8)] []], [], [], [.t (.int .u32 v16)], [.r [.tree (.int .u32 r9)] []]] { keep := [0, 4, 9, 12, 13, 111], ren := [(49001, 49001), (49002, 49002), (50000, 50000)] } ⟨[(0, (.ref 50000 [] (0))), (4, (.ref 49001 [] (0))), (9, (.ref 49002 [] (0))), (12, (.t (.int .u32 (w32 ((w32 ((w32 ((w32 (v11 + (bits .xor .u32 (bits .xor .u32 r4 r5) r6))) + (bits .xor .u32 (bits .and .u32 v10 v12) (bits .and .u32 (bits .xor .u32 (4294967295) v10) v13)))) + v14)) + v15))))), (13, (.t (.int .u32 (bits .xor .u32 (bits .xor .u32 r7 r8) r9)))), (111, (.t (.int .i64 a17)))], [(49001, (.var false 76 (.t ((eA 1 (T.int .u32)) x1)))), (49002, (.var false 73 (.t ((eA 1 (T.int .u32)) a16)))), (50000, (.var false 0 (.t ((eA 1 (T.int .u32)) pt0))))]⟩ [0 = 0, (List.map (T.int .u32) a16.l)[0]? = some (.int .u32 v16), (sp_bits_RotateLeft32 n).fn [(.int .u32 v16), (.int .i64 (-2:Int))] = some ([.tree (.int .u32 r7)], []), 0 = 0, (List.map (T.int .u32) a16.l)[0]? = some (.int .u32 v16), (sp_bits_RotateLeft32 n).fn [(.int .u32 v16), (.int .i64 (-13:Int))] = some ([.tree (.int .u32 r8)], []), 0 = 0, (List.map (T.int .u32) a16.l)[0]? = some (.int .u32 v16), (sp_bits_RotateLeft32 n).fn [(.int .u32 v16), (.int .i64 (-22:Int))] = some ([.tree (.int .u32 r9)], [])] (by kernel_rfl) (by kernel_rfl) ⟨(by omega), (at_map hv16), (ap_bits_RotateLeft32 n (by exact ⟨leT.refl _, leT.refl _, trivial⟩) hr7), (by omega), (at_map hv16), (ap_bits_RotateLeft32 n (by exact ⟨leT.refl _, leT.refl _, trivial⟩) hr8), (by omega), (at_map hv16), (ap_bits_RotateLeft32 n (by exact ⟨leT.refl _, leT.refl _, trivial⟩) hr9), trivial⟩ ?_
          refine Nxt_norm ?_
          refine Ab.seq ?_
          obtain ⟨v17, hv17, h⟩ := bind_some h
          obtain ⟨v18, hv18, h⟩ := bind_some h
          refine Ab.regT hE hC hL [[], [.t (.int .u32 v16)], [], [.t (.int .u32 v17)], [], [], [.t (.int .u32 v16)], [], [.t (.int .u32 v18)], [], [], [], [.t (.int .u32 v17)], [], [.t (.int .u32 v18)]] { keep := [0, 4, 9, 12, 13, 14, 111], ren := [(49001, 49001), (49002, 49002), (50000, 50000)] } ⟨[(0, (.ref 50000 [] (0))), (4, (.ref 49001 [] (0))), (9, (.ref 49002 [] (0))), (12, (.t (.int .u32 (w32 ((w32 ((w32 ((w32 (v11 + (bits .xor .u32 (bits .xor .u32 r4 r5) r6))) + (bits .xor .u32 (bits .and .u32 v10 v12) (bits .and .u32 (bits .xor .u32 (4294967295) v10) v13)))) + v14)) + v15))))), (13, (.t (.int .u32 (bits .xor .u32 (bits .xor .u32 r7 r8) r9)))), (14, (.t (.int .u32 (bits .xor .u32 (bits .xor .u32 (bits .and .u32 v16 v17) (bits .and .u32 v16 v18)) (bits .and .u32 v17 v18))))), (111, (.t (.int .i64 a17)))], [(49001, (.var false 76 (.t ((eA 1 (T.int .u32)) x1)))), (49002, (.var false 73 (.t ((eA 1 (T.int .u32)) a16)))), (50000, (.var false 0 (.t ((eA 1 (T.int .u32)) pt0))))]⟩ [0 = 0, (List.map (T.int .u32) a16.l)[0]? = some (.int .u32 v16), 1 = 1, (List.map (T.int .u32) a16.l)[1]? = some (.int .u32 v17), 0 = 0, (List.map (T.int .u32) a16.l)[0]? = some (.int .u32 v16), 2 = 2, (List.map (T.int .u32) a16.l)[2]? = some (.int .u32 v18), 1 = 1, (List.map (T.int .u32) a16.l)[1]? = some (.int .u32 v17), 2 = 2, (List.map (T.int .u32) a16.l)[2]? = some (.int .u32 v18)] (by kernel_rfl) ⟨(by omega), (at_map hv16), (by omega), (at_map hv17), (by omega), (at_map hv16), (by omega), (at_map hv18), (by omega), (at_map hv17), (by omega), (at_map hv18), trivial⟩ ?_
          refine Nxt_norm ?_
          refine Ab.seq ?_
          refine Ab.regA hE hC hL [[], [], [.n ((min (List.take 7 (List.drop 0 a16.l)).length 7 : Nat) : Int), .l (List.map (T.int .u32) (Arr.put a16 (over a16.l 1 7 (List.take 7 (List.drop 0 a16.l)))).l)]] { keep := [0, 4, 9, 12, 13, 14, 111], ren := [(49001, 49001), (49002, 49002), (50000, 50000)] } ⟨[(0, (.ref 50000 [] (0))), (4, (.ref 49001 [] (0))), (9, (.ref 49002 [] (0))), (12, (.t (.int .u32 (w32 ((w32 ((w32 ((w32 (v11 + (bits .xor .u32 (bits .xor .u32 r4 r5) r6))) + (bits .xor .u32 (bits .and .u32 v10 v12) (bits .and .u32 (bits .xor .u32 (4294967295) v10) v13)))) + v14)) + v15))))), (13, (.t (.int .u32 (bits .xor .u32 (bits .xor .u32 r7 r8) r9)))), (14, (.t (.int .u32 (bits .xor .u32 (bits .xor .u32 (bits .and .u32 v16 v17) (bits .and .u32 v16 v18)) (bits .and .u32 v17 v18))))), (111, (.t (.int .i64 a17)))], [(49001, (.var false 76 (.t ((eA 1 (T.int .u32)) x1)))), (49002, (.var false 73 (.t ((eA 1 (T.int .u32)) (Arr.put a16 (over a16.l 1 7 (List.take 7 (List.drop 0 a16.l)))))))), (50000, (.var false 0 (.t ((eA 1 (T.int .u32)) pt0))))]⟩ [1 + 7 ≤ List.length (List.map (T.int .u32) a16.l), ((min (List.length (List.take 7 (List.drop 0 (List.map (T.int .u32) a16.l)))) 7 : Nat) : Int) = ((min (List.take 7 (List.drop 0 a16.l)).length 7 : Nat) : Int), List.take 1 (List.map (T.int .u32) a16.l) ++ (List.take 7 (List.take 7 (List.drop 0 (List.map (T.int .u32) a16.l))) ++ List.drop (1 + min (List.length (List.take 7 (List.drop 0 (List.map (T.int .u32) a16.l)))) 7) (List.map (T.int .u32) a16.l)) = List.map (T.int .u32) (Arr.put a16 (over a16.l 1 7 (List.take 7 (List.drop 0 a16.l)))).l, 0 + 7 ≤ List.length (List.map (T.int .u32) a16.l), 0 = 0 + 0 * 1, 1 = 0 + 1 * 1] (by kernel_rfl) (by kernel_rfl) ⟨(by simp only [List.length_map, List.length_take, List.length_drop, List.length_set, List.length_append, Arr.h]; omega), (min_len (win_map rfl _ _)), (copy_arr a16 (win_map rfl _ _) (by omega)), (by simp only [List.length_map, List.length_take, List.length_drop, List.length_set, List.length_append, Arr.h]; omega), (by omega), (by omega), trivial⟩ ?_
          refine Nxt_norm ?_
          refine Ab.seq ?_
          obtain ⟨v19, hv19, h⟩ := bind_some h
          refine Ab.regT hE hC hL [[], [.t (.int .u32 v19)], [], [], [], [.t (.int .u32 v19), .l (List.map (T.int .u32) (Arr.set (Arr.put a16 (over a16.l 1 7 (List.take 7 (List.drop 0 a16.l)))) 4 (w32 (v19 + (w32 ((w32 ((w32 ((w32 (v11 + (bits .xor .u32 (bits .xor .u32 r4 r5) r6))) + (bits .xor .u32 (bits .and .u32 v10 v12) (bits .and .u32 (bits .xor .u32 (4294967295) v10) v13)))) + v14)) + v15))))).l)]] { keep := [0, 4, 9, 12, 13, 14, 111], ren := [(49001, 49001), (49002, 49002), (50000, 50000)] } ⟨[(0, (.ref 50000 [] (0))), (4, (.ref 49001 [] (0))), (9, (.ref 49002 [] (0))), (12, (.t (.int .u32 (w32 ((w32 ((w32 ((w32 (v11 + (bits .xor .u32 (bits .xor .u32 r4 r5) r6))) + (bits .xor .u32 (bits .and .u32 v10 v12) (bits .and .u32 (bits .xor .u32 (4294967295) v10) v13)))) + v14)) + v15))))), (13, (.t (.int .u32 (bits .xor .u32 (bits .xor .u32 r7 r8) r9)))), (14, (.t (.int .u32 (bits .xor .u32 (bits .xor .u32 (bits .and .u32 v16 v17) (bits .and .u32 v16 v18)) (bits .and .u32 v17 v18))))), (111, (.t (.int .i64 a17)))], [(49001, (.var false 76 (.t ((eA 1 (T.int .u32)) x1)))), (49002, (.var false 73 (.t ((eA 1 (T.int .u32)) (Arr.set (Arr.put a16 (over a16.l 1 7 (List.take 7 (List.drop 0 a16.l)))) 4 (w32 (v19 + (w32 ((w32 ((w32 ((w32 (v11 + (bits .xor .u32 (bits .xor .u32 r4 r5) r6))) + (bits .xor .u32 (bits .and .u32 v10 v12) (bits .and .u32 (bits .xor .u32 (4294967295) v10) v13)))) + v14)) + v15))))))))), (50000, (.var false 0 (.t ((eA 1 (T.int .u32)) pt0))))]⟩ [4 = 4, (List.map (T.int .u32) (Arr.put a16 (over a16.l 1 7 (List.take 7 (List.drop 0 a16.l)))).l)[4]? = some (.int .u32 v19), 4 = 4, (List.map (T.int .u32) (Arr.put a16 (over a16.l 1 7 (List.take 7 (List.drop 0 a16.l)))).l)[4]? = some (.int .u32 v19), (List.map (T.int .u32) (Arr.put a16 (over a16.l 1 7 (List.take 7 (List.drop 0 a16.l)))).l)[4]? = some (.int .u32 v19), (List.map (T.int .u32) (Arr.put a16 (over a16.l 1 7 (List.take 7 (List.drop 0 a16.l)))).l).set 4 (.int .u32 (w32 (v19 + (w32 ((w32 ((w32 ((w32 (v11 + (bits .xor .u32 (bits .xor .u32 r4 r5) r6))) + (bits .xor .u32 (bits .and .u32 v10 v12) (bits .and .u32 (bits .xor .u32 (4294967295) v10) v13)))) + v14)) + v15))))) = List.map (T.int .u32) (Arr.set (Arr.put a16 (over a16.l 1 7 (List.take 7 (List.drop 0 a16.l)))) 4 (w32 (v19 + (w32 ((w32 ((w32 ((w32 (v11 + (bits .xor .u32 (bits .xor .u32 r4 r5) r6))) + (bits .xor .u32 (bits .and .u32 v10 v12) (bits .and .u32 (bits .xor .u32 (4294967295) v10) v13)))) + v14)) + v15))))).l] (by kernel_rfl) ⟨(by omega), (at_map hv19), (by omega), (at_map hv19), (at_map hv19), set_map, trivial⟩ ?_
          refine Nxt_norm ?_
          obtain ⟨v20, hv20, h⟩ := bind_some h
          refine Ab.regT hE hC hL [[], [], [], [], [], [], [.t (.int .u32 v20), .l (List.map (T.int .u32) (Arr.set (Arr.set (Arr.put a16 (over a16.l 1 7 (List.take 7 (List.drop 0 a16.l)))) 4 (w32 (v19 + (w32 ((w32 ((w32 ((w32 (v11 + (bits .xor .u32 (bits .xor .u32 r4 r5) r6))) + (bits .xor .u32 (bits .and .u32 v10 v12) (bits .and .u32 (bits .xor .u32 (4294967295) v10) v13)))) + v14)) + v15))))) 0 (w32 ((w32 ((w32 ((w32 ((w32 ((w32 (v11 + (bits .xor .u32 (bits .xor .u32 r4 r5) r6))) + (bits .xor .u32 (bits .and .u32 v10 v12) (bits .and .u32 (bits .xor .u32 (4294967295) v10) v13)))) + v14)) + v15)) + (bits .xor .u32 (bits .xor .u32 r7 r8) r9))) + (bits .xor .u32 (bits .xor .u32 (bits .and .u32 v16 v17) (bits .and .u32 v16 v18)) (bits .and .u32 v17 v18))))).l)]] { keep := [0, 4, 9, 111], ren := [(49001, 49001), (49002, 49002), (50000, 50000)] } ⟨[(0, (.ref 50000 [] (0))), (4, (.ref 49001 [] (0))), (9, (.ref 49002 [] (0))), (111, (.t (.int .i64 a17)))], [(49001, (.var false 76 (.t ((eA 1 (T.int .u32)) x1)))), (49002, (.var false 73 (.t ((eA 1 (T.int .u32)) (Arr.set (Arr.set (Arr.put a16 (over a16.l 1 7 (List.take 7 (List.drop 0 a16.l)))) 4 (w32 (v19 + (w32 ((w32 ((w32 ((w32 (v11 + (bits .xor .u32 (bits .xor .u32 r4 r5) r6))) + (bits .xor .u32 (bits .and .u32 v10 v12) (bits .and .u32 (bits .xor .u32 (4294967295) v10) v13)))) + v14)) + v15))))) 0 (w32 ((w32 ((w32 ((w32 ((w32 ((w32 (v11 + (bits .xor .u32 (bits .xor .u32 r4 r5) r6))) + (bits .xor .u32 (bits .and .u32 v10 v12) (bits .and .u32 (bits .xor .u32 (4294967295) v10) v13)))) + v14)) + v15)) + (bits .xor .u32 (bits .xor .u32 r7 r8) r9))) + (bits .xor .u32 (bits .xor .u32 (bits .and .u32 v16 v17) (bits .and .u32 v16 v18)) (bits .and .u32 v17 v18))))))))), (50000, (.var false 0 (.t ((eA 1 (T.int .u32)) pt0))))]⟩ [0 = 0, (List.map (T.int .u32) (Arr.set (Arr.put a16 (over a16.l 1 7 (List.take 7 (List.drop 0 a16.l)))) 4 (w32 (v19 + (w32 ((w32 ((w32 ((w32 (v11 + (bits .xor .u32 (bits .xor .u32 r4 r5) r6))) + (bits .xor .u32 (bits .and .u32 v10 v12) (bits .and .u32 (bits .xor .u32 (4294967295) v10) v13)))) + v14)) + v15))))).l)[0]? = some (.int .u32 v20), (List.map (T.int .u32) (Arr.set (Arr.put a16 (over a16.l 1 7 (List.take 7 (List.drop 0 a16.l)))) 4 (w32 (v19 + (w32 ((w32 ((w32 ((w32 (v11 + (bits .xor .u32 (bits .xor .u32 r4 r5) r6))) + (bits .xor .u32 (bits .and .u32 v10 v12) (bits .and .u32 (bits .xor .u32 (4294967295) v10) v13)))) + v14)) + v15))))).l)[0]? = some (.int .u32 v20), (List.map (T.int .u32) (Arr.set (Arr.put a16 (over a16.l 1 7 (List.take 7 (List.drop 0 a16.l)))) 4 (w32 (v19 + (w32 ((w32 ((w32 ((w32 (v11 + (bits .xor .u32 (bits .xor .u32 r4 r5) r6))) + (bits .xor .u32 (bits .and .u32 v10 v12) (bits .and .u32 (bits .xor .u32 (4294967295) v10) v13)))) + v14)) + v15))))).l).set 0 (.int .u32 (w32 ((w32 ((w32 ((w32 ((w32 ((w32 (v11 + (bits .xor .u32 (bits .xor .u32 r4 r5) r6))) + (bits .xor .u32 (bits .and .u32 v10 v12) (bits .and .u32 (bits .xor .u32 (4294967295) v10) v13)))) + v14)) + v15)) + (bits .xor .u32 (bits .xor .u32 r7 r8) r9))) + (bits .xor .u32 (bits .xor .u32 (bits .and .u32 v16 v17) (bits .and .u32 v16 v18)) (bits .and .u32 v17 v18))))) = List.map (T.int .u32) (Arr.set (Arr.set (Arr.put a16 (over a16.l 1 7 (List.take 7 (List.drop 0 a16.l)))) 4 (w32 (v19 + (w32 ((w32 ((w32 ((w32 (v11 + (bits .xor .u32 (bits .xor .u32 r4 r5) r6))) + (bits .xor .u32 (bits .and .u32 v10 v12) (bits .and .u32 (bits .xor .u32 (4294967295) v10) v13)))) + v14)) + v15))))) 0 (w32 ((w32 ((w32 ((w32 ((w32 ((w32 (v11 + (bits .xor .u32 (bits .xor .u32 r4 r5) r6))) + (bits .xor .u32 (bits .and .u32 v10 v12) (bits .and .u32 (bits .xor .u32 (4294967295) v10) v13)))) + v14)) + v15)) + (bits .xor .u32 (bits .xor .u32 r7 r8) r9))) + (bits .xor .u32 (bits .xor .u32 (bits .and .u32 v16 v17) (bits .and .u32 v16 v18)) (bits .and .u32 v17 v18))))).l] (by kernel_rfl) ⟨(by omega), (at_map hv20), (at_map hv20), set_map, trivial⟩ ?_
          refine Blk_norm ?_
          refine Nxt_norm ?_
          refine Ab.regT hE hC hL [] { keep := [0, 4, 9, 111], ren := [(49001, 49001), (49002, 49002), (50000, 50000)] } ⟨[(0, (.ref 50000 [] (0))), (4, (.ref 49001 [] (0))), (9, (.ref 49002 [] (0))), (111, (.t (.int .i64 (wi (a17 + (1:Int))))))], [(49001, (.var false 76 (.t ((eA 1 (T.int .u32)) x1)))), (49002, (.var false 73 (.t ((eA 1 (T.int .u32)) (Arr.set (Arr.set (Arr.put a16 (over a16.l 1 7 (List.take 7 (List.drop 0 a16.l)))) 4 (w32 (v19 + (w32 ((w32 ((w32 ((w32 (v11 + (bits .xor .u32 (bits .xor .u32 r4 r5) r6))) + (bits .xor .u32 (bits .and .u32 v10 v12) (bits .and .u32 (bits .xor .u32 (4294967295) v10) v13)))) + v14)) + v15))))) 0 (w32 ((w32 ((w32 ((w32 ((w32 ((w32 (v11 + (bits .xor .u32 (bits .xor .u32 r4 r5) r6))) + (bits .xor .u32 (bits .and .u32 v10 v12) (bits .and .u32 (bits .xor .u32 (4294967295) v10) v13)))) + v14)) + v15)) + (bits .xor .u32 (bits .xor .u32 r7 r8) r9))) + (bits .xor .u32 (bits .xor .u32 (bits .and .u32 v16 v17) (bits .and .u32 v16 v18)) (bits .and .u32 v17 v18))))))))), (50000, (.var false 0 (.t ((eA 1 (T.int .u32)) pt0))))]⟩ [] (by kernel_rfl) trivial ?_
          exact LK_norm ((Arr.set (Arr.set (Arr.put a16 (over a16.l 1 7 (List.take 7 (List.drop 0 a16.l)))) 4 (w32 (v19 + (w32 ((w32 ((w32 ((w32 (v11 + (bits .xor .u32 (bits .xor .u32 r4 r5) r6))) + (bits .xor .u32 (bits .and .u32 v10 v12) (bits .and .u32 (bits .xor .u32 (4294967295) v10) v13)))) + v14)) + v15))))) 0 (w32 ((w32 ((w32 ((w32 ((w32 ((w32 (v11 + (bits .xor .u32 (bits .xor .u32 r4 r5) r6))) + (bits .xor .u32 (bits .and .u32 v10 v12) (bits .and .u32 (bits .xor .u32 (4294967295) v10) v13)))) + v14)) + v15)) + (bits .xor .u32 (bits .xor .u32 r7 r8) r9))) + (bits .xor .u32 (bits .xor .u32 (bits .and .u32 v16 v17) (bits .and .u32 v16 v18)) (bits .and .u32 v17 v18))))), (wi (a17 + (1:Int)))) { fs := [], keep := [0, 4, 9, 111], ren := [(50000, 50000), (49001, 49001), (49002, 49002)] } h (by kernel_rfl)
        · replace h := cond_f hb2 h
          refine Ab.exit ?_
          refine Nxt_exit ?_
          exact LK_exit a16 h (PX_mk { fs := [], keep := [0, 9], ren := [(50000, 50000), (49002, 49001)] } (by kernel_rfl))
      · refine Nxt_norm ?_
        refine Ab.seq ?_
        refine Ab.regT hE hC hL [] { keep := [0, 9, 193], ren := [(49001, 49001), (50000, 50000)] } ⟨[(0, (.ref 50000 [] (0))), (9, (.ref 49001 [] (0))), (193, (.t (.int .i64 (0:Int))))], [(49001, (.var false 73 (.t ((eA 1 (T.int .u32)) x2)))), (50000, (.var false 0 (.t ((eA 1 (T.int .u32)) pt0))))]⟩ [] (by kernel_rfl) trivial ?_
        refine Nxt_norm ?_
        obtain ⟨x3, hx3, h⟩ := bind_some h
        refine Ab.loopX0 (fun ((a24, a25) : ((Arr 8 Int) × Int)) => (⟨[(0, (.ref 50000 [] (0))), (9, (.ref 49001 [] (0))), (193, (.t (.int .i64 a25)))], [(50000, (.var false 0 (.t ((eA 1 (T.int .u32)) a24)))), (49001, (.var false 73 (.t ((eA 1 (T.int .u32)) x2))))]⟩ : St)) (fun (a26 : (Arr 8 Int)) => (⟨[], [(50000, (.var false 0 (.t ((eA 1 (T.int .u32)) a26))))]⟩ : St)) { fs := [], keep := [0, 9, 193], ren := [(50000, 50000), (49001, 49001)] } (pt0, (0:Int)) hC hL hx3 (by kernel_rfl) ?_ ?_
        · rintro ⟨a24, a25⟩ o3 h
          replace h : f_digest_block_b3 n x2 a24 a25 = some o3 := h
          unfold f_digest_block_b3 at h
          refine Ab.seq ?_
          refine Ab.regT hE hC hL [] { keep := [0, 9, 193, 194], ren := [(49001, 49001), (50000, 50000)] } ⟨[(0, (.ref 50000 [] (0))), (9, (.ref 49001 [] (0))), (193, (.t (.int .i64 a25))), (194, (.t (.bool (decide (a25 < (8:Int))))))], [(49001, (.var false 73 (.t ((eA 1 (T.int .u32)) x2)))), (50000, (.var false 0 (.t ((eA 1 (T.int .u32)) a24))))]⟩ [] (by kernel_rfl) trivial ?_
          refine Nxt_norm ?_
          refine Ab.seq ?_
          refine Ab.cond (b := (decide (a25 < (8:Int)))) (by kernel_rfl) (fun hb3 => ?_) (fun hb3 => ?_)
          · replace h := cond_t hb3 h
            refine Ab.skip ?_
            refine Nxt_norm ?_
            refine Ab.seq ?_
            refine Ab.block ?_
            refine Ab.seq ?_
            refine Ab.regT hE hC hL [] { keep := [0, 9, 15, 193], ren := [(49001, 49001), (50000, 50000)] } ⟨[(0, (.ref 50000 [] (0))), (9, (.ref 49001 [] (0))), (15, (.t (.int .i64 a25))), (193, (.t (.int .i64 a25)))], [(49001, (.var false 73 (.t ((eA 1 (T.int .u32)) x2)))), (50000, (.var false 0 (.t ((eA 1 (T.int .u32)) a24))))]⟩ [] (by kernel_rfl) trivial ?_
            refine Nxt_norm ?_
            obtain ⟨hq16, h⟩ := ask_dec h
            obtain ⟨v21, hv21, h⟩ := bind_some h
            obtain ⟨v22, hv22, h⟩ := bind_some h
            refine Ab.regA hE hC hL [[], [], [], [.c], [.t (.int .u32 v21)], [], [.c], [.t (.int .u32 v22)], [], [], [.c], [.t (.int .u32 v21), .l (List.map (T.int .u32) (Arr.set a24 (a25.toNat) (w32 (v21 + v22))).l)]] { keep := [0, 9, 193], ren := [(49001, 49001), (50000, 50000)] } ⟨[(0, (.ref 50000 [] (0))), (9, (.ref 49001 [] (0))), (193, (.t (.int .i64 a25)))], [(49001, (.var false 73 (.t ((eA 1 (T.int .u32)) x2)))), (50000, (.var false 0 (.t ((eA 1 (T.int .u32)) (Arr.set a24 (a25.toNat) (w32 (v21 + v22)))))))]⟩ [0 ≤ a25, a25 < ((8 : Nat) : Int), a25.toNat * 1 + 0 = 0 + a25.toNat * 1, (List.map (T.int .u32) a24.l)[a25.toNat]? = some (.int .u32 v21), 0 ≤ a25, a25 < ((8 : Nat) : Int), a25.toNat * 1 + 0 = 0 + a25.toNat * 1, (List.map (T.int .u32) x2.l)[a25.toNat]? = some (.int .u32 v22), 0 ≤ a25, a25 < ((8 : Nat) : Int), a25.toNat * 1 + 0 = 0 + a25.toNat * 1, (List.map (T.int .u32) a24.l)[a25.toNat]? = some (.int .u32 v21), (List.map (T.int .u32) a24.l)[a25.toNat]? = some (.int .u32 v21), (List.map (T.int .u32) a24.l).set a25.toNat (.int .u32 (w32 (v21 + v22))) = List.map (T.int .u32) (Arr.set a24 (a25.toNat) (w32 (v21 + v22))).l] (by kernel_rfl) (by kernel_rfl) ⟨hq16, (of_decide_eq_true hb3), (by omega), (at_map hv21), hq16, (of_decide_eq_true hb3), (by omega), (at_map hv22), hq16, (of_decide_eq_true hb3), (by omega), (at_map hv21), (at_map hv21), set_map, trivial⟩ ?_
            refine Blk_norm ?_
            refine Nxt_norm ?_
            refine Ab.regT hE hC hL [] { keep := [0, 9, 193], ren := [(49001, 49001), (50000, 50000)] } ⟨[(0, (.ref 50000 [] (0))), (9, (.ref 49001 [] (0))), (193, (.t (.int .i64 (wi (a25 + (1:Int))))))], [(49001, (.var false 73 (.t ((eA 1 (T.int .u32)) x2)))), (50000, (.var false 0 (.t ((eA 1 (T.int .u32)) (Arr.set a24 (a25.toNat) (w32 (v21 + v22)))))))]⟩ [] (by kernel_rfl) trivial ?_
            exact LK_norm ((Arr.set a24 (a25.toNat) (w32 (v21 + v22))), (wi (a25 + (1:Int)))) { fs := [], keep := [0, 9, 193], ren := [(50000, 50000), (49001, 49001)] } h (by kernel_rfl)
          · replace h := cond_f hb3 h
            refine Ab.exit ?_
            refine Nxt_exit ?_
            exact LK_exit a24 h (PX_mk { fs := [], keep := [], ren := [(50000, 50000)] } (by kernel_rfl))
        · obtain rfl := Option.some.inj h
          exact End_norm (doneO_ok (md := []) (by kernel_rfl))
def ea_digest_Of (a : (List Int)) : List T := [(eS 1 (T.int .u8)) a]
def er_digest_Of (r : (Arr 32 Int)) : List RR × List T := ([.tree ((eA 1 (T.int .u8)) r)], [])
noncomputable def sp_digest_Of (n : Nat) : Spec := specP [] true ea_digest_Of (fun a => f_digest_Of n a) (fun _ r => er_digest_Of r)
theorem ap_digest_Of (n : Nat) {ts : List T} {a0 : (List Int)} {r : (Arr 32 Int)} (hle : leTs ts [(eS 1 (T.int .u8)) a0]) (h : f_digest_Of n a0 = some r) : (sp_digest_Of n).fn ts = some ([.tree ((eA 1 (T.int .u8)) r)], []) :=
  specP_fn (a := a0) (InjA.one (inj_eS (inj_int _))) hle h
noncomputable def E_digest_Of (n : Nat) : Env := { ty := tyT, glob := glob, fns := get [(45, sp_digest_block n)], ntmps := 78 }
theorem eok_digest_Of (n : Nat) : EnvOK Tryd.prog (E_digest_Of n) := ⟨tys_ok tys_chk, prog_mixed, (fns_cons (ok_digest_block n) fns_nil)⟩
def K_digest_Of (n : Nat) (pb0 : (List Int)) (r : (Arr 32 Int)) : St → Prop := Done (E_digest_Of n) Tryd.f14.results.toList [] (ea_digest_Of pb0) (er_digest_Of r).1 (er_digest_Of r).2
set_option maxRecDepth 100000 in
set_option maxHeartbeats 4000000 in
theorem ok_digest_Of (n : Nat) : SpecOK Tryd.prog glob 14 (sp_digest_Of n) := by
  refine specP_ok (fn := Tryd.f14) (eok_digest_Of n) (by kernel_rfl) rfl (by decide +kernel) (by kernel_rfl) (fun _ => by show 1 ≤ 78; omega) (fun _ _ r => ⟨(rrf_tree ((flat_eA (fun _ => rfl)) _) rrf_nil), flats_nil⟩) ?_
  rintro pb0 r h C hL hC
  have hE := eok_digest_Of n
  replace hL : ∀ n g, (n, g) ∈ C.lent → n ∈ ([] : List Nat) := hL
  replace h : f_digest_Of n pb0 = some r := h
  show Ab _ _ _ _ _ (End (K_digest_Of n pb0 r))
  unfold f_digest_Of at h
  refine Ab.seq ?_
  refine Ab.regT hE hC hL [] { keep := [0, 2], ren := [(2, 2)] } ⟨[(0, (.t ((eS 1 (T.int .u8)) pb0))), (2, (.ref 2 [] (0)))], [(2, (.var false 25 (.t ((eA 1 (T.int .u8)) (Arr.rep 32 (0:Int))))))]⟩ [] (by kernel_rfl) trivial ?_
  refine Nxt_norm ?_
  refine Ab.seq ?_
  refine Ab.regT hE hC hL [] { keep := [0, 2, 3], ren := [(2, 2), (3, 3)] } ⟨[(0, (.t ((eS 1 (T.int .u8)) pb0))), (2, (.ref 2 [] (0))), (3, (.ref 3 [] (0)))], [(2, (.var false 25 (.t ((eA 1 (T.int .u8)) (Arr.rep 32 (0:Int)))))), (3, (.var false 73 (.t ((eA 1 (T.int .u32)) (⟨[(1779033703:Int), (3144134277:Int), (1013904242:Int), (2773480762:Int), (1359893119:Int), (2600822924:Int), (528734635:Int), (1541459225:Int)], rfl⟩ : (Arr 8 Int))))))]⟩ [] (by kernel_rfl) trivial ?_
  refine Nxt_norm ?_
  refine Ab.seq ?_
  refine Ab.regT hE hC hL [[], [.n (pb0.length : Int)]] { keep := [0, 2, 3, 4], ren := [(2, 2), (3, 3)] } ⟨[(0, (.t ((eS 1 (T.int .u8)) pb0))), (2, (.ref 2 [] (0))), (3, (.ref 3 [] (0))), (4, (.t (.int .u64 (w64 ((w64 (pb0.length : Int)) * (8:Int))))))], [(2, (.var false 25 (.t ((eA 1 (T.int .u8)) (Arr.rep 32 (0:Int)))))), (3, (.var false 73 (.t ((eA 1 (T.int .u32)) (⟨[(1779033703:Int), (3144134277:Int), (1013904242:Int), (2773480762:Int), (1359893119:Int), (2600822924:Int), (528734635:Int), (1541459225:Int)], rfl⟩ : (Arr 8 Int))))))]⟩ [((List.length (List.map (T.int .u8) pb0) : Nat) : Int) = (pb0.length : Int)] (by kernel_rfl) ⟨(len_of rfl), trivial⟩ ?_
  refine Nxt_norm ?_
  refine Ab.seq ?_
  obtain ⟨hq0, h⟩ := ask_dec h
  obtain ⟨hq1, h⟩ := ask_dec h
  refine Ab.regT hE hC hL [[], [], [.l (List.map (T.int .u8) (([] : List Int) ++ pb0))], [], [.l (List.map (T.int .u8) ((([] : List Int) ++ pb0) ++ ([(128:Int)] : List Int)))]] { keep := [0, 2, 3, 4], ren := [(2, 2), (3, 3), (18, 18)] } ⟨[(0, (.own 18)), (2, (.ref 2 [] (0))), (3, (.ref 3 [] (0))), (4, (.t (.int .u64 (w64 ((w64 (pb0.length : Int)) * (8:Int))))))], [(2, (.var false 25 (.t ((eA 1 (T.int .u8)) (Arr.rep 32 (0:Int)))))), (3, (.var false 73 (.t ((eA 1 (T.int .u32)) (⟨[(1779033703:Int), (3144134277:Int), (1013904242:Int), (2773480762:Int), (1359893119:Int), (2600822924:Int), (528734635:Int), (1541459225:Int)], rfl⟩ : (Arr 8 Int)))))), (18, (.row false 5 1 (List.map (T.int .u8) ((([] : List Int) ++ pb0) ++ ([(128:Int)] : List Int)))))]⟩ [(List.length (List.map (T.int .u8) ([] : List Int)) + List.length (List.map (T.int .u8) pb0)) * 1 ≤ maxBytes, List.length (List.map (T.int .u8) ([] : List Int)) + List.length (List.map (T.int .u8) pb0) ≤ maxBytes, (List.map (T.int .u8) ([] : List Int)) ++ (List.map (T.int .u8) pb0) = List.map (T.int .u8) (([] : List Int) ++ pb0), (List.length (List.map (T.int .u8) (([] : List Int) ++ pb0)) + List.length (List.map (T.int .u8) ([(128:Int)] : List Int))) * 1 ≤ maxBytes, List.length (List.map (T.int .u8) (([] : List Int) ++ pb0)) + List.length (List.map (T.int .u8) ([(128:Int)] : List Int)) ≤ maxBytes, (List.map (T.int .u8) (([] : List Int) ++ pb0)) ++ (List.map (T.int .u8) ([(128:Int)] : List Int)) = List.map (T.int .u8) ((([] : List Int) ++ pb0) ++ ([(128:Int)] : List Int))] (by kernel_rfl) ⟨(app_b rfl rfl hq0), (app_c rfl rfl (by decide) hq0), (app_of rfl rfl), (app_b rfl rfl hq1), (app_c rfl rfl (by decide) hq1), (app_of rfl rfl), trivial⟩ ?_
  refine Nxt_norm ?_
  obtain ⟨x0, hx0, h⟩ := bind_some h
  refine Ab.loopX (fun (a0 : (List Int)) => (⟨[(0, (.own 49000)), (2, (.ref 49001 [] (0))), (3, (.ref 49002 [] (0))), (4, (.t (.int .u64 (w64 ((w64 (pb0.length : Int)) * (8:Int))))))], [(49000, (.row false 5 1 (List.map (T.int .u8) a0))), (49001, (.var false 25 (.t ((eA 1 (T.int .u8)) (Arr.rep 32 (0:Int)))))), (49002, (.var false 73 (.t ((eA 1 (T.int .u32)) (⟨[(1779033703:Int), (3144134277:Int), (1013904242:Int), (2773480762:Int), (1359893119:Int), (2600822924:Int), (528734635:Int), (1541459225:Int)], rfl⟩ : (Arr 8 Int))))))]⟩ : St)) (fun (a1 : (List Int)) => (⟨[(0, (.own 49000)), (2, (.ref 49001 [] (0))), (3, (.ref 49002 [] (0))), (4, (.t (.int .u64 (w64 ((w64 (pb0.length : Int)) * (8:Int))))))], [(49000, (.row false 5 1 (List.map (T.int .u8) a1))), (49001, (.var false 25 (.t ((eA 1 (T.int .u8)) (Arr.rep 32 (0:Int)))))), (49002, (.var false 73 (.t ((eA 1 (T.int .u32)) (⟨[(1779033703:Int), (3144134277:Int), (1013904242:Int), (2773480762:Int), (1359893119:Int), (2600822924:Int), (528734635:Int), (1541459225:Int)], rfl⟩ : (Arr 8 Int))))))]⟩ : St)) { fs := [], keep := [0, 2, 3, 4], ren := [(18, 49000), (2, 49001), (3, 49002)] } ((([] : List Int) ++ pb0) ++ ([(128:Int)] : List Int)) hC hL hx0 (by kernel_rfl) ?_ ?_
  · rintro a0 o0 h
    replace h : f_digest_Of_b0 n  a0 = some o0 := h
    unfold f_digest_Of_b0 at h
    refine Ab.seq ?_
    refine Ab.seq ?_
    refine Ab.regT hE hC hL [[], [.n (a0.length : Int)]] { keep := [0, 2, 3, 4, 22], ren := [(49000, 49000), (49001, 49001), (49002, 49002)] } ⟨[(0, (.own 49000)), (2, (.ref 49001 [] (0))), (3, (.ref 49002 [] (0))), (4, (.t (.int .u64 (w64 ((w64 (pb0.length : Int)) * (8:Int)))))), (22, (.t (.bool (((a0.length : Int).tmod (64:Int)) != (56:Int)))))], [(49000, (.row false 5 1 (List.map (T.int .u8) a0))), (49001, (.var false 25 (.t ((eA 1 (T.int .u8)) (Arr.rep 32 (0:Int)))))), (49002, (.var false 73 (.t ((eA 1 (T.int .u32)) (⟨[(1779033703:Int), (3144134277:Int), (1013904242:Int), (2773480762:Int), (1359893119:Int), (2600822924:Int), (528734635:Int), (1541459225:Int)], rfl⟩ : (Arr 8 Int))))))]⟩ [((List.length (List.map (T.int .u8) a0) : Nat) : Int) = (a0.length : Int)] (by kernel_rfl) ⟨(len_of rfl), trivial⟩ ?_
    refine Nxt_norm ?_
    refine Ab.cond (b := (((a0.length : Int).tmod (64:Int)) != (56:Int))) (by kernel_rfl) (fun hb0 => ?_) (fun hb0 => ?_)
    · replace h := cond_t hb0 h
      refine Ab.skip ?_
      refine Nxt_norm ?_
      refine Ab.block ?_
      obtain ⟨hq2, h⟩ := ask_dec h
      refine Ab.regT hE hC hL [[], [], [.l (List.map (T.int .u8) (a0 ++ ([(0:Int)] : List Int)))]] { keep := [0, 2, 3, 4], ren := [(25, 25), (49001, 49001), (49002, 49002)] } ⟨[(0, (.own 25)), (2, (.ref 49001 [] (0))), (3, (.ref 49002 [] (0))), (4, (.t (.int .u64 (w64 ((w64 (pb0.length : Int)) * (8:Int))))))], [(25, (.row false 5 1 (List.map (T.int .u8) (a0 ++ ([(0:Int)] : List Int))))), (49001, (.var false 25 (.t ((eA 1 (T.int .u8)) (Arr.rep 32 (0:Int)))))), (49002, (.var false 73 (.t ((eA 1 (T.int .u32)) (⟨[(1779033703:Int), (3144134277:Int), (1013904242:Int), (2773480762:Int), (1359893119:Int), (2600822924:Int), (528734635:Int), (1541459225:Int)], rfl⟩ : (Arr 8 Int))))))]⟩ [(List.length (List.map (T.int .u8) a0) + List.length (List.map (T.int .u8) ([(0:Int)] : List Int))) * 1 ≤ maxBytes, List.length (List.map (T.int .u8) a0) + List.length (List.map (T.int .u8) ([(0:Int)] : List Int)) ≤ maxBytes, (List.map (T.int .u8) a0) ++ (List.map (T.int .u8) ([(0:Int)] : List Int)) = List.map (T.int .u8) (a0 ++ ([(0:Int)] : List Int))] (by kernel_rfl) ⟨(app_b rfl rfl hq2), (app_c rfl rfl (by decide) hq2), (app_of rfl rfl), trivial⟩ ?_
      refine Blk_norm ?_
      exact LK_norm (a0 ++ ([(0:Int)] : List Int)) { fs := [], keep := [0, 2, 3, 4], ren := [(25, 49000), (49001, 49001), (49002, 49002)] } h (by kernel_rfl)
    · replace h := cond_f hb0 h
      refine Ab.exit ?_
      refine Nxt_exit ?_
      exact LK_exit a0 h (PX_mk { fs := [], keep := [0, 2, 3, 4], ren := [(49000, 49000), (49001, 49001), (49002, 49002)] } (by kernel_rfl))
  · refine Ab.seq ?_
    refine Ab.seq ?_
    refine Ab.regT hE hC hL [] { keep := [0, 2, 3, 4, 5], ren := [(49000, 49000), (49001, 49001), (49002, 49002)] } ⟨[(0, (.own 49000)), (2, (.ref 49001 [] (0))), (3, (.ref 49002 [] (0))), (4, (.t (.int .u64 (w64 ((w64 (pb0.length : Int)) * (8:Int)))))), (5, (.t (.int .i64 (56:Int))))], [(49000, (.row false 5 1 (List.map (T.int .u8) x0))), (49001, (.var false 25 (.t ((eA 1 (T.int .u8)) (Arr.rep 32 (0:Int)))))), (49002, (.var false 73 (.t ((eA 1 (T.int .u32)) (⟨[(1779033703:Int), (3144134277:Int), (1013904242:Int), (2773480762:Int), (1359893119:Int), (2600822924:Int), (528734635:Int), (1541459225:Int)], rfl⟩ : (Arr 8 Int))))))]⟩ [] (by kernel_rfl) trivial ?_
    refine Nxt_norm ?_
    obtain ⟨x1, hx1, h⟩ := bind_some h
    refine Ab.loopX0 (fun ((a5, a6) : ((List Int) × Int)) => (⟨[(0, (.own 49000)), (2, (.ref 49001 [] (0))), (3, (.ref 49002 [] (0))), (4, (.t (.int .u64 (w64 ((w64 (pb0.length : Int)) * (8:Int)))))), (5, (.t (.int .i64 a6)))], [(49000, (.row false 5 1 (List.map (T.int .u8) a5))), (49001, (.var false 25 (.t ((eA 1 (T.int .u8)) (Arr.rep 32 (0:Int)))))), (49002, (.var false 73 (.t ((eA 1 (T.int .u32)) (⟨[(1779033703:Int), (3144134277:Int), (1013904242:Int), (2773480762:Int), (1359893119:Int), (2600822924:Int), (528734635:Int), (1541459225:Int)], rfl⟩ : (Arr 8 Int))))))]⟩ : St)) (fun (a7 : (List Int)) => (⟨[(0, (.own 49000)), (2, (.ref 49001 [] (0))), (3, (.ref 49002 [] (0)))], [(49000, (.row false 5 1 (List.map (T.int .u8) a7))), (49001, (.var false 25 (.t ((eA 1 (T.int .u8)) (Arr.rep 32 (0:Int)))))), (49002, (.var false 73 (.t ((eA 1 (T.int .u32)) (⟨[(1779033703:Int), (3144134277:Int), (1013904242:Int), (2773480762:Int), (1359893119:Int), (2600822924:Int), (528734635:Int), (1541459225:Int)], rfl⟩ : (Arr 8 Int))))))]⟩ : St)) { fs := [], keep := [0, 2, 3, 4, 5], ren := [(49000, 49000), (49001, 49001), (49002, 49002)] } (x0, (56:Int)) hC hL hx1 (by kernel_rfl) ?_ ?_
    · rintro ⟨a5, a6⟩ o1 h
      replace h : f_digest_Of_b1 n pb0 a5 a6 = some o1 := h
      unfold f_digest_Of_b1 at h
      refine Ab.seq ?_
      refine Ab.seq ?_
      refine Ab.regT hE hC hL [] { keep := [0, 2, 3, 4, 5, 27], ren := [(49000, 49000), (49001, 49001), (49002, 49002)] } ⟨[(0, (.own 49000)), (2, (.ref 49001 [] (0))), (3, (.ref 49002 [] (0))), (4, (.t (.int .u64 (w64 ((w64 (pb0.length : Int)) * (8:Int)))))), (5, (.t (.int .i64 a6))), (27, (.t (.bool (decide (a6 ≥ (0:Int))))))], [(49000, (.row false 5 1 (List.map (T.int .u8) a5))), (49001, (.var false 25 (.t ((eA 1 (T.int .u8)) (Arr.rep 32 (0:Int)))))), (49002, (.var false 73 (.t ((eA 1 (T.int .u32)) (⟨[(1779033703:Int), (3144134277:Int), (1013904242:Int), (2773480762:Int), (1359893119:Int), (2600822924:Int), (528734635:Int), (1541459225:Int)], rfl⟩ : (Arr 8 Int))))))]⟩ [] (by kernel_rfl) trivial ?_
      refine Nxt_norm ?_
      refine Ab.cond (b := (decide (a6 ≥ (0:Int)))) (by kernel_rfl) (fun hb1 => ?_) (fun hb1 => ?_)
      · replace h := cond_t hb1 h
        refine Ab.skip ?_
        refine Nxt_norm ?_
        refine Ab.seq ?_
        refine Ab.block ?_
        obtain ⟨hq3, h⟩ := ask_dec h
        obtain ⟨hq4, h⟩ := ask_dec h
        refine Ab.regT hE hC hL [[], [], [], [.c], [], [], [.l (List.map (T.int .u8) (a5 ++ ([(w8 (shr .u64 (w64 ((w64 (pb0.length : Int)) * (8:Int))) a6))] : List Int)))]] { keep := [0, 2, 3, 4, 5], ren := [(36, 36), (49001, 49001), (49002, 49002)] } ⟨[(0, (.own 36)), (2, (.ref 49001 [] (0))), (3, (.ref 49002 [] (0))), (4, (.t (.int .u64 (w64 ((w64 (pb0.length : Int)) * (8:Int)))))), (5, (.t (.int .i64 a6)))], [(36, (.row false 5 1 (List.map (T.int .u8) (a5 ++ ([(w8 (shr .u64 (w64 ((w64 (pb0.length : Int)) * (8:Int))) a6))] : List Int))))), (49001, (.var false 25 (.t ((eA 1 (T.int .u8)) (Arr.rep 32 (0:Int)))))), (49002, (.var false 73 (.t ((eA 1 (T.int .u32)) (⟨[(1779033703:Int), (3144134277:Int), (1013904242:Int), (2773480762:Int), (1359893119:Int), (2600822924:Int), (528734635:Int), (1541459225:Int)], rfl⟩ : (Arr 8 Int))))))]⟩ [¬ a6 < 0, (List.length (List.map (T.int .u8) a5) + List.length (List.map (T.int .u8) ([(w8 (shr .u64 (w64 ((w64 (pb0.length : Int)) * (8:Int))) a6))] : List Int))) * 1 ≤ maxBytes, List.length (List.map (T.int .u8) a5) + List.length (List.map (T.int .u8) ([(w8 (shr .u64 (w64 ((w64 (pb0.length : Int)) * (8:Int))) a6))] : List Int)) ≤ maxBytes, (List.map (T.int .u8) a5) ++ (List.map (T.int .u8) ([(w8 (shr .u64 (w64 ((w64 (pb0.length : Int)) * (8:Int))) a6))] : List Int)) = List.map (T.int .u8) (a5 ++ ([(w8 (shr .u64 (w64 ((w64 (pb0.length : Int)) * (8:Int))) a6))] : List Int))] (by kernel_rfl) ⟨(Int.not_lt.2 hq3), (app_b rfl rfl hq4), (app_c rfl rfl (by decide) hq4), (app_of rfl rfl), trivial⟩ ?_
        refine Blk_norm ?_
        refine Nxt_norm ?_
        refine Ab.regT hE hC hL [] { keep := [0, 2, 3, 4, 5], ren := [(36, 36), (49001, 49001), (49002, 49002)] } ⟨[(0, (.own 36)), (2, (.ref 49001 [] (0))), (3, (.ref 49002 [] (0))), (4, (.t (.int .u64 (w64 ((w64 (pb0.length : Int)) * (8:Int)))))), (5, (.t (.int .i64 (wi (a6 - (8:Int))))))], [(36, (.row false 5 1 (List.map (T.int .u8) (a5 ++ ([(w8 (shr .u64 (w64 ((w64 (pb0.length : Int)) * (8:Int))) a6))] : List Int))))), (49001, (.var false 25 (.t ((eA 1 (T.int .u8)) (Arr.rep 32 (0:Int)))))), (49002, (.var false 73 (.t ((eA 1 (T.int .u32)) (⟨[(1779033703:Int), (3144134277:Int), (1013904242:Int), (2773480762:Int), (1359893119:Int), (2600822924:Int), (528734635:Int), (1541459225:Int)], rfl⟩ : (Arr 8 Int))))))]⟩ [] (by kernel_rfl) trivial ?_
        exact LK_norm ((a5 ++ ([(w8 (shr .u64 (w64 ((w64 (pb0.length : Int)) * (8:Int))) a6))] : List Int)), (wi (a6 - (8:Int)))) { fs := [], keep := [0, 2, 3, 4, 5], ren := [(36, 49000), (49001, 49001), (49002, 49002)] } h (by kernel_rfl)
      · replace h := cond_f hb1 h
        refine Ab.exit ?_
        refine Nxt_exit ?_
        exact LK_exit a5 h (PX_mk { fs := [], keep := [0, 2, 3], ren := [(49000, 49000), (49001, 49001), (49002, 49002)] } (by kernel_rfl))
    · refine Nxt_norm ?_
      obtain ⟨x2, hx2, h⟩ := bind_some h
      refine Ab.loopX (fun ((a13, a14) : ((List Int) × (Arr 8 Int))) => (⟨[(0, (.t ((eS 1 (T.int .u8)) a13))), (2, (.ref 49000 [] (0))), (3, (.ref 49001 [] (0)))], [(49000, (.var false 25 (.t ((eA 1 (T.int .u8)) (Arr.rep 32 (0:Int)))))), (49001, (.var false 73 (.t ((eA 1 (T.int .u32)) a14))))]⟩ : St)) (fun (a15 : (Arr 8 Int)) => (⟨[(2, (.ref 49000 [] (0))), (3, (.ref 49001 [] (0)))], [(49000, (.var false 25 (.t ((eA 1 (T.int .u8)) (Arr.rep 32 (0:Int)))))), (49001, (.var false 73 (.t ((eA 1 (T.int .u32)) a15))))]⟩ : St)) { fs := [⟨(.t 0), [], .tree⟩], keep := [0, 2, 3], ren := [(49001, 49000), (49002, 49001)] } (x1, (⟨[(1779033703:Int), (3144134277:Int), (1013904242:Int), (2773480762:Int), (1359893119:Int), (2600822924:Int), (528734635:Int), (1541459225:Int)], rfl⟩ : (Arr 8 Int))) hC hL hx2 (by kernel_rfl) ?_ ?_
      · rintro ⟨a13, a14⟩ o2 h
        replace h : f_digest_Of_b2 n  a13 a14 = some o2 := h
        unfold f_digest_Of_b2 at h
        refine Ab.seq ?_
        refine Ab.seq ?_
        refine Ab.regT hE hC hL [[], [.n (a13.length : Int)]] { keep := [0, 2, 3, 39], ren := [(49000, 49000), (49001, 49001)] } ⟨[(0, (.t ((eS 1 (T.int .u8)) a13))), (2, (.ref 49000 [] (0))), (3, (.ref 49001 [] (0))), (39, (.t (.bool (decide ((a13.length : Int) > (0:Int))))))], [(49000, (.var false 25 (.t ((eA 1 (T.int .u8)) (Arr.rep 32 (0:Int)))))), (49001, (.var false 73 (.t ((eA 1 (T.int .u32)) a14))))]⟩ [((List.length (List.map (T.int .u8) a13) : Nat) : Int) = (a13.length : Int)] (by kernel_rfl) ⟨(len_of rfl), trivial⟩ ?_
        refine Nxt_norm ?_
        refine Ab.cond (b := (decide ((a13.length : Int) > (0:Int)))) (by kernel_rfl) (fun hb2 => ?_) (fun hb2 => ?_)
        · replace h := cond_t hb2 h
          refine Ab.skip ?_
          refine Nxt_norm ?_
          refine Ab.seq ?_
          refine Ab.block ?_
          obtain ⟨hq5, h⟩ := ask_dec h
          obtain ⟨r0, hr0, h⟩ := bind_some h
          refine Ab.regT hE hC hL [[], [.l (List.map (T.int .u8) (List.take 64 a13))], [.r [] [((eA 1 (T.int .u32)) r0)]]] { keep := [0, 2, 3], ren := [(49000, 49000), (49001, 49001)] } ⟨[(0, (.t ((eS 1 (T.int .u8)) a13))), (2, (.ref 49000 [] (0))), (3, (.ref 49001 [] (0)))], [(49000, (.var false 25 (.t ((eA 1 (T.int .u8)) (Arr.rep 32 (0:Int)))))), (49001, (.var false 73 (.t ((eA 1 (T.int .u32)) r0))))]⟩ [List.take 64 (List.drop 0 (List.map (T.int .u8) a13)) = List.map (T.int .u8) (List.take 64 a13), 0 ≤ (64:Int), (64:Int) ≤ ((List.length (List.map (T.int .u8) a13) : Nat) : Int), (sp_digest_block n).fn [((eA 1 (T.int .u32)) a14), ((eS 1 (T.int .u8)) (List.take 64 a13))] = some ([], [((eA 1 (T.int .u32)) r0)])] (by kernel_rfl) ⟨(win_pre rfl _), (by decide), (le_len rfl hq5), (ap_digest_block n (by exact ⟨leT.refl _, leT.refl _, trivial⟩) hr0), trivial⟩ ?_
          refine Blk_norm ?_
          refine Nxt_norm ?_
          refine Ab.regT hE hC hL [[], [.l (List.map (T.int .u8) (List.drop 64 a13))]] { keep := [0, 2, 3], ren := [(49000, 49000), (49001, 49001)] } ⟨[(0, (.t ((eS 1 (T.int .u8)) (List.drop 64 a13)))), (2, (.ref 49000 [] (0))), (3, (.ref 49001 [] (0)))], [(49000, (.var false 25 (.t ((eA 1 (T.int .u8)) (Arr.rep 32 (0:Int)))))), (49001, (.var false 73 (.t ((eA 1 (T.int .u32)) r0))))]⟩ [List.take (List.length (List.map (T.int .u8) a13) - 64) (List.drop 64 (List.map (T.int .u8) a13)) = List.map (T.int .u8) (List.drop 64 a13), 0 ≤ (64:Int), (64:Int) ≤ ((List.length (List.map (T.int .u8) a13) : Nat) : Int)] (by kernel_rfl) ⟨(win_suf rfl _), (by decide), (le_len rfl hq5), trivial⟩ ?_
          exact LK_norm ((List.drop 64 a13), r0) { fs := [], keep := [0, 2, 3], ren := [(49000, 49000), (49001, 49001)] } h (by kernel_rfl)
        · replace h := cond_f hb2 h
          refine Ab.exit ?_
          refine Nxt_exit ?_
          exact LK_exit a14 h (PX_mk { fs := [], keep := [2, 3], ren := [(49000, 49000), (49001, 49001)] } (by kernel_rfl))
      · refine Ab.seq ?_
        refine Ab.regT hE hC hL [] { keep := [2, 3, 6], ren := [(6, 6), (49000, 49000), (49001, 49001)] } ⟨[(2, (.ref 49000 [] (0))), (3, (.ref 49001 [] (0))), (6, (.ref 6 [] (0)))], [(6, (.var false 25 (.t ((eA 1 (T.int .u8)) (Arr.rep 32 (0:Int)))))), (49000, (.var false 25 (.t ((eA 1 (T.int .u8)) (Arr.rep 32 (0:Int)))))), (49001, (.var false 73 (.t ((eA 1 (T.int .u32)) x2))))]⟩ [] (by kernel_rfl) trivial ?_
        refine Nxt_norm ?_
        refine Ab.seq ?_
        refine Ab.seq ?_
        refine Ab.regT hE hC hL [] { keep := [2, 6, 45, 46], ren := [(6, 6), (49000, 49000)] } ⟨[(2, (.ref 49000 [] (0))), (6, (.ref 6 [] (0))), (45, (.t ((eA 1 (T.int .u32)) x2))), (46, (.t (.int .i64 (0:Int))))], [(6, (.var false 25 (.t ((eA 1 (T.int .u8)) (Arr.rep 32 (0:Int)))))), (49000, (.var false 25 (.t ((eA 1 (T.int .u8)) (Arr.rep 32 (0:Int))))))]⟩ [] (by kernel_rfl) trivial ?_
        refine Nxt_norm ?_
        obtain ⟨x3, hx3, h⟩ := bind_some h
        refine Ab.loopX0 (fun ((a21, a22) : ((Arr 32 Int) × Int)) => (⟨[(2, (.ref 49000 [] (0))), (6, (.ref 49001 [] (0))), (45, (.t ((eA 1 (T.int .u32)) x2))), (46, (.t (.int .i64 a22)))], [(49000, (.var false 25 (.t ((eA 1 (T.int .u8)) (Arr.rep 32 (0:Int)))))), (49001, (.var false 25 (.t ((eA 1 (T.int .u8)) a21))))]⟩ : St)) (fun (a23 : (Arr 32 Int)) => (⟨[(2, (.ref 49000 [] (0))), (6, (.ref 49001 [] (0)))], [(49000, (.var false 25 (.t ((eA 1 (T.int .u8)) (Arr.rep 32 (0:Int)))))), (49001, (.var false 25 (.t ((eA 1 (T.int .u8)) a23))))]⟩ : St)) { fs := [], keep := [2, 6, 45, 46], ren := [(49000, 49000), (6, 49001)] } ((Arr.rep 32 (0:Int)), (0:Int)) hC hL hx3 (by kernel_rfl) ?_ ?_
        · rintro ⟨a21, a22⟩ o3 h
          replace h : f_digest_Of_b3 n x2 a21 a22 = some o3 := h
          unfold f_digest_Of_b3 at h
          refine Ab.seq ?_
          refine Ab.regT hE hC hL [] { keep := [2, 6, 45, 46, 47], ren := [(49000, 49000), (49001, 49001)] } ⟨[(2, (.ref 49000 [] (0))), (6, (.ref 49001 [] (0))), (45, (.t ((eA 1 (T.int .u32)) x2))), (46, (.t (.int .i64 a22))), (47, (.t (.bool (decide (a22 < (8:Int))))))], [(49000, (.var false 25 (.t ((eA 1 (T.int .u8)) (Arr.rep 32 (0:Int)))))), (49001, (.var false 25 (.t ((eA 1 (T.int .u8)) a21))))]⟩ [] (by kernel_rfl) trivial ?_
          refine Nxt_norm ?_
          refine Ab.seq ?_
          refine Ab.cond (b := (decide (a22 < (8:Int)))) (by kernel_rfl) (fun hb3 => ?_) (fun hb3 => ?_)
          · replace h := cond_t hb3 h
            refine Ab.skip ?_
            refine Nxt_norm ?_
            refine Ab.seq ?_
            refine Ab.block ?_
            refine Ab.seq ?_
            obtain ⟨hq6, h⟩ := ask_dec h
            obtain ⟨v0, hv0, h⟩ := bind_some h
            refine Ab.regT hE hC hL [[], [.t (.int .u32 v0)]] { keep := [2, 6, 7, 8, 45, 46], ren := [(49000, 49000), (49001, 49001)] } ⟨[(2, (.ref 49000 [] (0))), (6, (.ref 49001 [] (0))), (7, (.t (.int .i64 a22))), (8, (.t (.int .u32 v0))), (45, (.t ((eA 1 (T.int .u32)) x2))), (46, (.t (.int .i64 a22)))], [(49000, (.var false 25 (.t ((eA 1 (T.int .u8)) (Arr.rep 32 (0:Int)))))), (49001, (.var false 25 (.t ((eA 1 (T.int .u8)) a21))))]⟩ [0 ≤ a22, a22 < ((8 : Nat) : Int), (List.map (T.int .u32) x2.l)[a22.toNat]? = some (.int .u32 v0)] (by kernel_rfl) ⟨hq6, (of_decide_eq_true hb3), (at_map hv0), trivial⟩ ?_
            refine Nxt_norm ?_
            obtain ⟨hq7, h⟩ := ask_dec h
            obtain ⟨hq8, h⟩ := ask_dec h
            obtain ⟨v1, hv1, h⟩ := bind_some h
            obtain ⟨hq9, h⟩ := ask_dec h
            obtain ⟨hq10, h⟩ := ask_dec h
            obtain ⟨v2, hv2, h⟩ := bind_some h
            obtain ⟨hq11, h⟩ := ask_dec h
            obtain ⟨hq12, h⟩ := ask_dec h
            obtain ⟨v3, hv3, h⟩ := bind_some h
            obtain ⟨hq13, h⟩ := ask_dec h
            obtain ⟨hq14, h⟩ := ask_dec h
            obtain ⟨v4, hv4, h⟩ := bind_some h
            refine Ab.regT hE hC hL [[], [], [], [], [], [], [], [], [], [], [], [], [], [], [], [], [], [], [], [], [], [], [.c], [.t (.int .u8 v1), .l (List.map (T.int .u8) (Arr.set a21 ((wi ((4:Int) * a22)).toNat) (w8 (shr .u32 v0 (24:Int)))).l)], [.c], [.t (.int .u8 v2), .l (List.map (T.int .u8) (Arr.set (Arr.set a21 ((wi ((4:Int) * a22)).toNat) (w8 (shr .u32 v0 (24:Int)))) ((wi ((wi ((4:Int) * a22)) + (1:Int))).toNat) (w8 (shr .u32 v0 (16:Int)))).l)], [.c], [.t (.int .u8 v3), .l (List.map (T.int .u8) (Arr.set (Arr.set (Arr.set a21 ((wi ((4:Int) * a22)).toNat) (w8 (shr .u32 v0 (24:Int)))) ((wi ((wi ((4:Int) * a22)) + (1:Int))).toNat) (w8 (shr .u32 v0 (16:Int)))) ((wi ((wi ((4:Int) * a22)) + (2:Int))).toNat) (w8 (shr .u32 v0 (8:Int)))).l)], [.c], [.t (.int .u8 v4), .l (List.map (T.int .u8) (Arr.set (Arr.set (Arr.set (Arr.set a21 ((wi ((4:Int) * a22)).toNat) (w8 (shr .u32 v0 (24:Int)))) ((wi ((wi ((4:Int) * a22)) + (1:Int))).toNat) (w8 (shr .u32 v0 (16:Int)))) ((wi ((wi ((4:Int) * a22)) + (2:Int))).toNat) (w8 (shr .u32 v0 (8:Int)))) ((wi ((wi ((4:Int) * a22)) + (3:Int))).toNat) (w8 v0)).l)]] { keep := [2, 6, 45, 46], ren := [(49000, 49000), (49001, 49001)] } ⟨[(2, (.ref 49000 [] (0))), (6, (.ref 49001 [] (0))), (45, (.t ((eA 1 (T.int .u32)) x2))), (46, (.t (.int .i64 a22)))], [(49000, (.var false 25 (.t ((eA 1 (T.int .u8)) (Arr.rep 32 (0:Int)))))), (49001, (.var false 25 (.t ((eA 1 (T.int .u8)) (Arr.set (Arr.set (Arr.set (Arr.set a21 ((wi ((4:Int) * a22)).toNat) (w8 (shr .u32 v0 (24:Int)))) ((wi ((wi ((4:Int) * a22)) + (1:Int))).toNat) (w8 (shr .u32 v0 (16:Int)))) ((wi ((wi ((4:Int) * a22)) + (2:Int))).toNat) (w8 (shr .u32 v0 (8:Int)))) ((wi ((wi ((4:Int) * a22)) + (3:Int))).toNat) (w8 v0))))))]⟩ [0 ≤ (wi ((4:Int) * a22)), (wi ((4:Int) * a22)) < ((32 : Nat) : Int), (wi ((4:Int) * a22)).toNat * 1 + 0 = 0 + (wi ((4:Int) * a22)).toNat * 1, (List.map (T.int .u8) a21.l)[(wi ((4:Int) * a22)).toNat]? = some (.int .u8 v1), (List.map (T.int .u8) a21.l)[(wi ((4:Int) * a22)).toNat]? = some (.int .u8 v1), (List.map (T.int .u8) a21.l).set ((wi ((4:Int) * a22)).toNat) (.int .u8 (w8 (shr .u32 v0 (24:Int)))) = List.map (T.int .u8) (Arr.set a21 ((wi ((4:Int) * a22)).toNat) (w8 (shr .u32 v0 (24:Int)))).l, 0 ≤ (wi ((wi ((4:Int) * a22)) + (1:Int))), (wi ((wi ((4:Int) * a22)) + (1:Int))) < ((32 : Nat) : Int), (wi ((wi ((4:Int) * a22)) + (1:Int))).toNat * 1 + 0 = 0 + ((wi ((wi ((4:Int) * a22)) + (1:Int))).toNat * 1), (List.map (T.int .u8) (Arr.set a21 ((wi ((4:Int) * a22)).toNat) (w8 (shr .u32 v0 (24:Int)))).l)[(wi ((wi ((4:Int) * a22)) + (1:Int))).toNat]? = some (.int .u8 v2), (List.map (T.int .u8) (Arr.set a21 ((wi ((4:Int) * a22)).toNat) (w8 (shr .u32 v0 (24:Int)))).l)[(wi ((wi ((4:Int) * a22)) + (1:Int))).toNat]? = some (.int .u8 v2), (List.map (T.int .u8) (Arr.set a21 ((wi ((4:Int) * a22)).toNat) (w8 (shr .u32 v0 (24:Int)))).l).set ((wi ((wi ((4:Int) * a22)) + (1:Int))).toNat) (.int .u8 (w8 (shr .u32 v0 (16:Int)))) = List.map (T.int .u8) (Arr.set (Arr.set a21 ((wi ((4:Int) * a22)).toNat) (w8 (shr .u32 v0 (24:Int)))) ((wi ((wi ((4:Int) * a22)) + (1:Int))).toNat) (w8 (shr .u32 v0 (16:Int)))).l, 0 ≤ (wi ((wi ((4:Int) * a22)) + (2:Int))), (wi ((wi ((4:Int) * a22)) + (2:Int))) < ((32 : Nat) : Int), (wi ((wi ((4:Int) * a22)) + (2:Int))).toNat * 1 + 0 = 0 + ((wi ((wi ((4:Int) * a22)) + (2:Int))).toNat * 1), (List.map (T.int .u8) (Arr.set (Arr.set a21 ((wi ((4:Int) * a22)).toNat) (w8 (shr .u32 v0 (24:Int)))) ((wi ((wi ((4:Int) * a22)) + (1:Int))).toNat) (w8 (shr .u32 v0 (16:Int)))).l)[(wi ((wi ((4:Int) * a22)) + (2:Int))).toNat]? = some (.int .u8 v3), (List.map (T.int .u8) (Arr.set (Arr.set a21 ((wi ((4:Int) * a22)).toNat) (w8 (shr .u32 v0 (24:Int)))) ((wi ((wi ((4:Int) * a22)) + (1:Int))).toNat) (w8 (shr .u32 v0 (16:Int)))).l)[(wi ((wi ((4:Int) * a22)) + (2:Int))).toNat]? = some (.int .u8 v3), (List.map (T.int .u8) (Arr.set (Arr.set a21 ((wi ((4:Int) * a22)).toNat) (w8 (shr .u32 v0 (24:Int)))) ((wi ((wi ((4:Int) * a22)) + (1:Int))).toNat) (w8 (shr .u32 v0 (16:Int)))).l).set ((wi ((wi ((4:Int) * a22)) + (2:Int))).toNat) (.int .u8 (w8 (shr .u32 v0 (8:Int)))) = List.map (T.int .u8) (Arr.set (Arr.set (Arr.set a21 ((wi ((4:Int) * a22)).toNat) (w8 (shr .u32 v0 (24:Int)))) ((wi ((wi ((4:Int) * a22)) + (1:Int))).toNat) (w8 (shr .u32 v0 (16:Int)))) ((wi ((wi ((4:Int) * a22)) + (2:Int))).toNat) (w8 (shr .u32 v0 (8:Int)))).l, 0 ≤ (wi ((wi ((4:Int) * a22)) + (3:Int))), (wi ((wi ((4:Int) * a22)) + (3:Int))) < ((32 : Nat) : Int), (wi ((wi ((4:Int) * a22)) + (3:Int))).toNat * 1 + 0 = 0 + ((wi ((wi ((4:Int) * a22)) + (3:Int))).toNat * 1), (List.map (T.int .u8) (Arr.set (Arr.set (Arr.set a21 ((wi ((4:Int) * a22)).toNat) (w8 (shr .u32 v0 (24:Int)))) ((wi ((wi ((4:Int) * a22)) + (1:Int))).toNat) (w8 (shr .u32 v0 (16:Int)))) ((wi ((wi ((4:Int) * a22)) + (2:Int))).toNat) (w8 (shr .u32 v0 (8:Int)))).l)[(wi ((wi ((4:Int) * a22)) + (3:Int))).toNat]? = some (.int .u8 v4), (List.map (T.int .u8) (Arr.set (Arr.set (Arr.set a21 ((wi ((4:Int) * a22)).toNat) (w8 (shr .u32 v0 (24:Int)))) ((wi ((wi ((4:Int) * a22)) + (1:Int))).toNat) (w8 (shr .u32 v0 (16:Int)))) ((wi ((wi ((4:Int) * a22)) + (2:Int))).toNat) (w8 (shr .u32 v0 (8:Int)))).l)[(wi ((wi ((4:Int) * a22)) + (3:Int))).toNat]? = some (.int .u8 v4), (List.map (T.int .u8) (Arr.set (Arr.set (Arr.set a21 ((wi ((4:Int) * a22)).toNat) (w8 (shr .u32 v0 (24:Int)))) ((wi ((wi ((4:Int) * a22)) + (1:Int))).toNat) (w8 (shr .u32 v0 (16:Int)))) ((wi ((wi ((4:Int) * a22)) + (2:Int))).toNat) (w8 (shr .u32 v0 (8:Int)))).l).set ((wi ((wi ((4:Int) * a22)) + (3:Int))).toNat) (.int .u8 (w8 v0)) = List.map (T.int .u8) (Arr.set (Arr.set (Arr.set (Arr.set a21 ((wi ((4:Int) * a22)).toNat) (w8 (shr .u32 v0 (24:Int)))) ((wi ((wi ((4:Int) * a22)) + (1:Int))).toNat) (w8 (shr .u32 v0 (16:Int)))) ((wi ((wi ((4:Int) * a22)) + (2:Int))).toNat) (w8 (shr .u32 v0 (8:Int)))) ((wi ((wi ((4:Int) * a22)) + (3:Int))).toNat) (w8 v0)).l] (by kernel_rfl) ⟨hq7, hq8, (by omega), (at_map hv1), (at_map hv1), set_map, hq9, hq10, (by omega), (at_map hv2), (at_map hv2), set_map, hq11, hq12, (by omega), (at_map hv3), (at_map hv3), set_map, hq13, hq14, (by omega), (at_map hv4), (at_map hv4), set_map, trivial⟩ ?_
            refine Blk_norm ?_
            refine Nxt_norm ?_
            refine Ab.regT hE hC hL [] { keep := [2, 6, 45, 46], ren := [(49000, 49000), (49001, 49001)] } ⟨[(2, (.ref 49000 [] (0))), (6, (.ref 49001 [] (0))), (45, (.t ((eA 1 (T.int .u32)) x2))), (46, (.t (.int .i64 (wi (a22 + (1:Int))))))], [(49000, (.var false 25 (.t ((eA 1 (T.int .u8)) (Arr.rep 32 (0:Int)))))), (49001, (.var false 25 (.t ((eA 1 (T.int .u8)) (Arr.set (Arr.set (Arr.set (Arr.set a21 ((wi ((4:Int) * a22)).toNat) (w8 (shr .u32 v0 (24:Int)))) ((wi ((wi ((4:Int) * a22)) + (1:Int))).toNat) (w8 (shr .u32 v0 (16:Int)))) ((wi ((wi ((4:Int) * a22)) + (2:Int))).toNat) (w8 (shr .u32 v0 (8:Int)))) ((wi ((wi ((4:Int) * a22)) + (3:Int))).toNat) (w8 v0))))))]⟩ [] (by kernel_rfl) trivial ?_
            exact LK_norm ((Arr.set (Arr.set (Arr.set (Arr.set a21 ((wi ((4:Int) * a22)).toNat) (w8 (shr .u32 v0 (24:Int)))) ((wi ((wi ((4:Int) * a22)) + (1:Int))).toNat) (w8 (shr .u32 v0 (16:Int)))) ((wi ((wi ((4:Int) * a22)) + (2:Int))).toNat) (w8 (shr .u32 v0 (8:Int)))) ((wi ((wi ((4:Int) * a22)) + (3:Int))).toNat) (w8 v0)), (wi (a22 + (1:Int)))) { fs := [], keep := [2, 6, 45, 46], ren := [(49000, 49000), (49001, 49001)] } h (by kernel_rfl)
          · replace h := cond_f hb3 h
            refine Ab.exit ?_
            refine Nxt_exit ?_
            exact LK_exit a21 h (PX_mk { fs := [], keep := [2, 6], ren := [(49000, 49000), (49001, 49001)] } (by kernel_rfl))
        · refine Nxt_norm ?_
          refine Ab.seq ?_
          refine Ab.regT hE hC hL [] { keep := [2], ren := [(49000, 49000)] } ⟨[(2, (.ref 49000 [] (0)))], [(49000, (.var false 25 (.t ((eA 1 (T.int .u8)) x3))))]⟩ [] (by kernel_rfl) trivial ?_
          refine Nxt_norm ?_
          refine Ab.ret ?_
          obtain rfl := Option.some.inj h
          exact End_ret (doneO_ok (md := [false]) (by kernel_rfl))
def ea_digest_Hex (a : (Arr 32 Int)) : List T := [(eA 1 (T.int .u8)) a]
def er_digest_Hex (r : ByteArray) : List RR × List T := ([.tree (T.str r)], [])
noncomputable def sp_digest_Hex (n : Nat) : Spec := specP [] true ea_digest_Hex (fun a => f_digest_Hex n a) (fun _ r => er_digest_Hex r)
theorem ap_digest_Hex (n : Nat) {ts : List T} {a0 : (Arr 32 Int)} {r : ByteArray} (hle : leTs ts [(eA 1 (T.int .u8)) a0]) (h : f_digest_Hex n a0 = some r) : (sp_digest_Hex n).fn ts = some ([.tree (T.str r)], []) :=
  specP_fn (a := a0) (InjA.one (inj_eA (inj_int _))) hle h
noncomputable def E_digest_Hex (n : Nat) : Env := { ty := tyT, glob := glob, fns := get [], ntmps := 23 }
theorem eok_digest_Hex (n : Nat) : EnvOK Tryd.prog (E_digest_Hex n) := ⟨tys_ok tys_chk, prog_mixed, fns_nil⟩
def K_digest_Hex (n : Nat) (ps0 : (Arr 32 Int)) (r : ByteArray) : St → Prop := Done (E_digest_Hex n) Tryd.f18.results.toList [] (ea_digest_Hex ps0) (er_digest_Hex r).1 (er_digest_Hex r).2
set_option maxRecDepth 100000 in
set_option maxHeartbeats 4000000 in
theorem ok_digest_Hex (n : Nat) : SpecOK Tryd.prog glob 18 (sp_digest_Hex n) := by
  refine specP_ok (fn := Tryd.f18) (eok_digest_Hex n) (by kernel_rfl) rfl (by decide +kernel) (by kernel_rfl) (fun _ => by show 1 ≤ 23; omega) (fun _ _ r => ⟨(rrf_tree ((fun _ => rfl) _) rrf_nil), flats_nil⟩) ?_
  rintro ps0 r h C hL hC
  have hE := eok_digest_Hex n
  replace hL : ∀ n g, (n, g) ∈ C.lent → n ∈ ([] : List Nat) := hL
  replace h : f_digest_Hex n ps0 = some r := h
  show Ab _ _ _ _ _ (End (K_digest_Hex n ps0 r))
  unfold f_digest_Hex at h
  refine Ab.seq ?_
  refine Ab.regT hE hC hL [] { keep := [1], ren := [(1, 1)] } ⟨[(1, (.ref 1 [] (0)))], [(1, (.var false 25 (.t ((eA 1 (T.int .u8)) ps0))))]⟩ [] (by kernel_rfl) trivial ?_
  refine Nxt_norm ?_
  refine Ab.seq ?_
  refine Ab.regT hE hC hL [[.l (List.map (T.int .u8) ([] : List Int))]] { keep := [1, 3], ren := [(1, 1), (6, 6)] } ⟨[(1, (.ref 1 [] (0))), (3, (.own 6))], [(1, (.var false 25 (.t ((eA 1 (T.int .u8)) ps0)))), (6, (.row false 5 1 (List.map (T.int .u8) ([] : List Int))))]⟩ [0 ≤ (0:Int), ((0:Int) = (64:Int) ∨ (0:Int) = 0), (0:Int) ≤ (64:Int), ((1 : Nat) : Int) * (64:Int) ≤ 140737488355328, (64:Int) ≤ 140737488355328, List.replicate ((0:Int)).toNat (.int .u8 0) = List.map (T.int .u8) ([] : List Int)] (by kernel_rfl) ⟨(by decide), (by decide), (by decide), (by decide), (by decide), rfl, trivial⟩ ?_
  refine Nxt_norm ?_
  refine Ab.seq ?_
  refine Ab.seq ?_
  refine Ab.regT hE hC hL [] { keep := [3, 7, 8], ren := [(6, 6)] } ⟨[(3, (.own 6)), (7, (.t ((eA 1 (T.int .u8)) ps0))), (8, (.t (.int .i64 (0:Int))))], [(6, (.row false 5 1 (List.map (T.int .u8) ([] : List Int))))]⟩ [] (by kernel_rfl) trivial ?_
  refine Nxt_norm ?_
  obtain ⟨x0, hx0, h⟩ := bind_some h
  refine Ab.loopX0 (fun ((a0, a1) : ((List Int) × Int)) => (⟨[(3, (.own 49000)), (7, (.t ((eA 1 (T.int .u8)) ps0))), (8, (.t (.int .i64 a1)))], [(49000, (.row false 5 1 (List.map (T.int .u8) a0)))]⟩ : St)) (fun (a2 : (List Int)) => (⟨[(3, (.own 49000))], [(49000, (.row false 5 1 (List.map (T.int .u8) a2)))]⟩ : St)) { fs := [], keep := [3, 7, 8], ren := [(6, 49000)] } (([] : List Int), (0:Int)) hC hL hx0 (by kernel_rfl) ?_ ?_
  · rintro ⟨a0, a1⟩ o0 h
    replace h : f_digest_Hex_b0 n ps0 a0 a1 = some o0 := h
    unfold f_digest_Hex_b0 at h
    refine Ab.seq ?_
    refine Ab.regT hE hC hL [] { keep := [3, 7, 8, 9], ren := [(49000, 49000)] } ⟨[(3, (.own 49000)), (7, (.t ((eA 1 (T.int .u8)) ps0))), (8, (.t (.int .i64 a1))), (9, (.t (.bool (decide (a1 < (32:Int))))))], [(49000, (.row false 5 1 (List.map (T.int .u8) a0)))]⟩ [] (by kernel_rfl) trivial ?_
    refine Nxt_norm ?_
    refine Ab.seq ?_
    refine Ab.cond (b := (decide (a1 < (32:Int)))) (by kernel_rfl) (fun hb0 => ?_) (fun hb0 => ?_)
    · replace h := cond_t hb0 h
      refine Ab.skip ?_
      refine Nxt_norm ?_
      refine Ab.seq ?_
      refine Ab.block ?_
      refine Ab.seq ?_
      obtain ⟨hq0, h⟩ := ask_dec h
      obtain ⟨v0, hv0, h⟩ := bind_some h
      refine Ab.regT hE hC hL [[.t (.int .u8 v0)]] { keep := [3, 5, 7, 8], ren := [(49000, 49000)] } ⟨[(3, (.own 49000)), (5, (.t (.int .u8 v0))), (7, (.t ((eA 1 (T.int .u8)) ps0))), (8, (.t (.int .i64 a1)))], [(49000, (.row false 5 1 (List.map (T.int .u8) a0)))]⟩ [0 ≤ a1, a1 < ((32 : Nat) : Int), (List.map (T.int .u8) ps0.l)[a1.toNat]? = some (.int .u8 v0)] (by kernel_rfl) ⟨hq0, (of_decide_eq_true hb0), (at_map hv0), trivial⟩ ?_
      refine Nxt_norm ?_
      obtain ⟨hq1, h⟩ := ask_dec h
      obtain ⟨v1, hv1, h⟩ := bind_some h
      obtain ⟨hq2, h⟩ := ask_dec h
      obtain ⟨v2, hv2, h⟩ := bind_some h
      obtain ⟨hq3, h⟩ := ask_dec h
      refine Ab.regA hE hC hL [[], [], [], [.n v1], [], [], [.n v2], [], [.l (List.map (T.int .u8) (a0 ++ ([v1, v2] : List Int)))]] { keep := [3, 7, 8], ren := [(19, 19)] } ⟨[(3, (.own 19)), (7, (.t ((eA 1 (T.int .u8)) ps0))), (8, (.t (.int .i64 a1)))], [(19, (.row false 5 1 (List.map (T.int .u8) (a0 ++ ([v1, v2] : List Int)))))]⟩ [0 ≤ (shr .u8 v0 (4:Int)), (str_2.data[(shr .u8 v0 (4:Int)).toNat]?).map (fun b => (b.toNat : Int)) = some v1, 0 ≤ (bits .and .u8 v0 (15:Int)), (str_2.data[(bits .and .u8 v0 (15:Int)).toNat]?).map (fun b => (b.toNat : Int)) = some v2, (List.length (List.map (T.int .u8) a0) + List.length (List.map (T.int .u8) ([v1, v2] : List Int))) * 1 ≤ maxBytes, List.length (List.map (T.int .u8) a0) + List.length (List.map (T.int .u8) ([v1, v2] : List Int)) ≤ maxBytes, (List.map (T.int .u8) a0) ++ (List.map (T.int .u8) ([v1, v2] : List Int)) = List.map (T.int .u8) (a0 ++ ([v1, v2] : List Int))] (by kernel_rfl) (by kernel_rfl) ⟨hq1, hv1, hq2, hv2, (app_b rfl rfl hq3), (app_c rfl rfl (by decide) hq3), (app_of rfl rfl), trivial⟩ ?_
      refine Blk_norm ?_
      refine Nxt_norm ?_
      refine Ab.regT hE hC hL [] { keep := [3, 7, 8], ren := [(19, 19)] } ⟨[(3, (.own 19)), (7, (.t ((eA 1 (T.int .u8)) ps0))), (8, (.t (.int .i64 (wi (a1 + (1:Int))))))], [(19, (.row false 5 1 (List.map (T.int .u8) (a0 ++ ([v1, v2] : List Int)))))]⟩ [] (by kernel_rfl) trivial ?_
      exact LK_norm ((a0 ++ ([v1, v2] : List Int)), (wi (a1 + (1:Int)))) { fs := [], keep := [3, 7, 8], ren := [(19, 49000)] } h (by kernel_rfl)
    · replace h := cond_f hb0 h
      refine Ab.exit ?_
      refine Nxt_exit ?_
      exact LK_exit a0 h (PX_mk { fs := [], keep := [3], ren := [(49000, 49000)] } (by kernel_rfl))
  · refine Nxt_norm ?_
    refine Ab.seq ?_
    refine Ab.regT hE hC hL [[], [.s (strOf x0)]] { keep := [2], ren := [] } ⟨[(2, (.t (.str (strOf x0))))], []⟩ [(bytesOf (List.map (T.int .u8) x0)).map (fun b => (⟨b.toArray⟩ : ByteArray)) = some (strOf x0)] (by kernel_rfl) ⟨(bytes_strOf rfl), trivial⟩ ?_
    refine Nxt_norm ?_
    refine Ab.ret ?_
    obtain rfl := Option.some.inj h
    exact End_ret (doneO_ok (md := [false]) (by kernel_rfl))

end Go.Mg
