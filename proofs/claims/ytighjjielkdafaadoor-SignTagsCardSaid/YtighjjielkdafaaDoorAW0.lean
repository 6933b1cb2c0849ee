/- The model's code computes these functions. -/
import Derived.Test.YtighjjielkdafaaDoorAF
namespace Go.Mg
open Go Go.Proofs
def ea_bits_RotateLeft32 (a : Int × Int) : List T := [(T.int .u32) a.1, (T.int .i64) a.2]
def er_bits_RotateLeft32 (r : Int) : List RR × List T := ([.tree ((T.int .u32) r)], [])
noncomputable def sp_bits_RotateLeft32 (n : Nat) : Spec := specP [] true ea_bits_RotateLeft32 (fun a => f_bits_RotateLeft32 n a.1 a.2) (fun _ r => er_bits_RotateLeft32 r)
theorem ap_bits_RotateLeft32 (n : Nat) {ts : List T} {a0 : Int} {a1 : Int} {r : Int} (hle : leTs ts [(T.int .u32) a0, (T.int .i64) a1]) (h : f_bits_RotateLeft32 n a0 a1 = some r) : (sp_bits_RotateLeft32 n).fn ts = some ([.tree ((T.int .u32) r)], []) :=
  specP_fn (a := (a0, a1)) (InjA.cons (inj_int _) (InjA.one (inj_int _))) hle h
noncomputable def E_bits_RotateLeft32 (n : Nat) : Env := { ty := tyT, glob := glob, fns := get [], ntmps := 17 }
theorem eok_bits_RotateLeft32 (n : Nat) : EnvOK Tryd.prog (E_bits_RotateLeft32 n) := ⟨tys_ok tys_chk, prog_mixed, fns_nil⟩
def K_bits_RotateLeft32 (n : Nat) (px0 : Int) (pk0 : Int) (r : Int) : St → Prop := Done (E_bits_RotateLeft32 n) Tryd.f52.results.toList [] (ea_bits_RotateLeft32 (px0, pk0)) (er_bits_RotateLeft32 r).1 (er_bits_RotateLeft32 r).2
set_option maxRecDepth 100000 in
set_option maxHeartbeats 4000000 in
theorem ok_bits_RotateLeft32 (n : Nat) : SpecOK Tryd.prog glob 52 (sp_bits_RotateLeft32 n) := by
  refine specP_ok (fn := Tryd.f52) (eok_bits_RotateLeft32 n) (by kernel_rfl) rfl (by decide +kernel) (by kernel_rfl) (fun _ => by show 2 ≤ 17; omega) (fun _ _ r => ⟨(rrf_tree ((fun _ => rfl) _) rrf_nil), flats_nil⟩) ?_
  rintro ⟨px0, pk0⟩ r h C hL hC
  have hE := eok_bits_RotateLeft32 n
  replace hL : ∀ n g, (n, g) ∈ C.lent → n ∈ ([] : List Nat) := hL
  replace h : f_bits_RotateLeft32 n px0 pk0 = some r := h
  show Ab _ _ _ _ _ (End (K_bits_RotateLeft32 n px0 pk0 r))
  unfold f_bits_RotateLeft32 at h
  refine Ab.seq ?_
  refine Ab.regT hE hC hL [] { keep := [0, 1], ren := [] } ⟨[(0, (.t (.int .u32 px0))), (1, (.t (.int .i64 pk0)))], []⟩ [] (by kernel_rfl) trivial ?_
  refine Nxt_norm ?_
  refine Ab.seq ?_
  refine Ab.regT hE hC hL [] { keep := [0, 5], ren := [] } ⟨[(0, (.t (.int .u32 px0))), (5, (.t (.int .u64 (bits .and .u64 (w64 pk0) (31:Int)))))], []⟩ [] (by kernel_rfl) trivial ?_
  refine Nxt_norm ?_
  refine Ab.seq ?_
  obtain ⟨hq0, h⟩ := ask_dec h
  obtain ⟨hq1, h⟩ := ask_dec h
  refine Ab.regT hE hC hL [[], [], [.c], [], [], [], [.c]] { keep := [4], ren := [] } ⟨[(4, (.t (.int .u32 (bits .or .u32 (shl .u32 px0 (bits .and .u64 (w64 pk0) (31:Int))) (shr .u32 px0 (w64 ((32:Int) - (bits .and .u64 (w64 pk0) (31:Int)))))))))], []⟩ [¬ (bits .and .u64 (w64 pk0) (31:Int)) < 0, ¬ (w64 ((32:Int) - (bits .and .u64 (w64 pk0) (31:Int)))) < 0] (by kernel_rfl) ⟨(Int.not_lt.2 hq0), (Int.not_lt.2 hq1), trivial⟩ ?_
  refine Nxt_norm ?_
  refine Ab.ret ?_
  obtain rfl := Option.some.inj h
  exact End_ret (doneO_ok (md := [false]) (by kernel_rfl))
def ea_digest_block (a : (Arr 8 Int) × (List Int)) : List T := [(eA 1 (T.int .u32)) a.1, (eS 1 (T.int .u8)) a.2]
def er_digest_block (r : (Arr 8 Int)) : List RR × List T := ([], [(eA 1 (T.int .u32)) r])
noncomputable def sp_digest_block (n : Nat) : Spec := specP [true, false] true ea_digest_block (fun a => f_digest_block n a.1 a.2) (fun _ r => er_digest_block r)
theorem ap_digest_block (n : Nat) {ts : List T} {a0 : (Arr 8 Int)} {a1 : (List Int)} {r : (Arr 8 Int)} (hle : leTs ts [(eA 1 (T.int .u32)) a0, (eS 1 (T.int .u8)) a1]) (h : f_digest_block n a0 a1 = some r) : (sp_digest_block n).fn ts = some ([], [(eA 1 (T.int .u32)) r]) :=
  specP_fn (a := (a0, a1)) (InjA.cons (inj_eA (inj_int _)) (InjA.one (inj_eS (inj_int _)))) hle h
noncomputable def E_digest_block (n : Nat) : Env := { ty := tyT, glob := glob, fns := get [(52, sp_bits_RotateLeft32 n)], ntmps := 208 }
theorem eok_digest_block (n : Nat) : EnvOK Tryd.prog (E_digest_block n) := ⟨tys_ok tys_chk, prog_mixed, (fns_cons (ok_bits_RotateLeft32 n) fns_nil)⟩
def K_digest_block (n : Nat) (pt0 : (Arr 8 Int)) (po0 : (List Int)) (r : (Arr 8 Int)) : St → Prop := Done (E_digest_block n) Tryd.f45.results.toList [true, false] (ea_digest_block (pt0, po0)) (er_digest_block r).1 (er_digest_block r).2
set_option maxRecDepth 100000 in
set_option maxHeartbeats 4000000 in
theorem ok_digest_block (n : Nat) : SpecOK Tryd.prog glob 45 (sp_digest_block n) := by
  refine specP_ok (fn := Tryd.f45) (eok_digest_block n) (by kernel_rfl) rfl (by decide +kernel) (by kernel_rfl) (fun _ => by show 2 ≤ 208; omega) (fun _ _ r => ⟨rrf_nil, (flats_cons ((flat_eA (fun _ => rfl)) _) flats_nil)⟩) ?_
  rintro ⟨pt0, po0⟩ r h C hL hC
  have hE := eok_digest_block n
  replace hL : ∀ n g, (n, g) ∈ C.lent → n ∈ ([50000] : List Nat) := hL
  replace h : f_digest_block n pt0 po0 = some r := h
  show Ab _ _ _ _ _ (End (K_digest_block n pt0 po0 r))
  unfold f_digest_block at h
  refine Ab.seq ?_
  refine Ab.regT hE hC hL [] { keep := [0, 1, 4], ren := [(4, 4), (50000, 50000)] } ⟨[(0, (.ref 50000 [] (0))), (1, (.t ((eS 1 (T.int .u8)) po0))), (4, (.ref 4 [] (0)))], [(4, (.var false 76 (.t ((eA 1 (T.int .u32)) (Arr.rep 64 (0:Int)))))), (50000, (.var false 0 (.t ((eA 1 (T.int .u32)) pt0))))]⟩ [] (by kernel_rfl) trivial ?_
  refine Nxt_norm ?_
  refine Ab.seq ?_
  refine Ab.seq ?_
  refine Ab.regT hE hC hL [] { keep := [0, 1, 4, 16], ren := [(4, 4), (50000, 50000)] } ⟨[(0, (.ref 50000 [] (0))), (1, (.t ((eS 1 (T.int .u8)) po0))), (4, (.ref 4 [] (0))), (16, (.t (.int .i64 (0:Int))))], [(4, (.var false 76 (.t ((eA 1 (T.int .u32)) (Arr.rep 64 (0:Int)))))), (50000, (.var false 0 (.t ((eA 1 (T.int .u32)) pt0))))]⟩ [] (by kernel_rfl) trivial ?_
  refine Nxt_norm ?_
  obtain ⟨x0, hx0, h⟩ := bind_some h
  refine Ab.loopX0 (fun ((a0, a1) : ((Arr 64 Int) × Int)) => (⟨[(0, (.ref 50000 [] (0))), (1, (.t ((eS 1 (T.int .u8)) po0))), (4, (.ref 49001 [] (0))), (16, (.t (.int .i64 a1)))], [(50000, (.var false 0 (.t ((eA 1 (T.int .u32)) pt0)))), (49001, (.var false 76 (.t ((eA 1 (T.int .u32)) a0))))]⟩ : St)) (fun (a2 : (Arr 64 Int)) => (⟨[(0, (.ref 50000 [] (0))), (4, (.ref 49001 [] (0)))], [(50000, (.var false 0 (.t ((eA 1 (T.int .u32)) pt0)))), (49001, (.var false 76 (.t ((eA 1 (T.int .u32)) a2))))]⟩ : St)) { fs := [], keep := [0, 1, 4, 16], ren := [(50000, 50000), (4, 49001)] } ((Arr.rep 64 (0:Int)), (0:Int)) hC hL hx0 (by kernel_rfl) ?_ ?_
  · rintro ⟨a0, a1⟩ o0 h
    replace h : f_digest_block_b0 n po0 a0 a1 = some o0 := h
    unfold f_digest_block_b0 at h
    refine Ab.seq ?_
    refine Ab.regT hE hC hL [] { keep := [0, 1, 4, 16, 17], ren := [(49001, 49001), (50000, 50000)] } ⟨[(0, (.ref 50000 [] (0))), (1, (.t ((eS 1 (T.int .u8)) po0))), (4, (.ref 49001 [] (0))), (16, (.t (.int .i64 a1))), (17, (.t (.bool (decide (a1 < (16:Int))))))], [(49001, (.var false 76 (.t ((eA 1 (T.int .u32)) a0)))), (50000, (.var false 0 (.t ((eA 1 (T.int .u32)) pt0))))]⟩ [] (by kernel_rfl) trivial ?_
    refine Nxt_norm ?_
    refine Ab.seq ?_
    refine Ab.cond (b := (decide (a1 < (16:Int)))) (by kernel_rfl) (fun hb0 => ?_) (fun hb0 => ?_)
    · replace h := cond_t hb0 h
      refine Ab.skip ?_
      refine Nxt_norm ?_
      refine Ab.seq ?_
      refine Ab.block ?_
      refine Ab.seq ?_
      refine Ab.regT hE hC hL [] { keep := [0, 1, 4, 5, 16], ren := [(49001, 49001), (50000, 50000)] } ⟨[(0, (.ref 50000 [] (0))), (1, (.t ((eS 1 (T.int .u8)) po0))), (4, (.ref 49001 [] (0))), (5, (.t (.int .i64 a1))), (16, (.t (.int .i64 a1)))], [(49001, (.var false 76 (.t ((eA 1 (T.int .u32)) a0)))), (50000, (.var false 0 (.t ((eA 1 (T.int .u32)) pt0))))]⟩ [] (by kernel_rfl) trivial ?_
      refine Nxt_norm ?_
      obtain ⟨hq0, h⟩ := ask_dec h
      obtain ⟨v0, hv0, h⟩ := bind_some h
      obtain ⟨hq1, h⟩ := ask_dec h
      obtain ⟨v1, hv1, h⟩ := bind_some h
      obtain ⟨hq2, h⟩ := ask_dec h
      obtain ⟨v2, hv2, h⟩ := bind_some h
      obtain ⟨hq3, h⟩ := ask_dec h
      obtain ⟨v3, hv3, h⟩ := bind_some h
      obtain ⟨hq4, h⟩ := ask_dec h
      obtain ⟨hq5, h⟩ := ask_dec h
      obtain ⟨v4, hv4, h⟩ := bind_some h
      refine Ab.regA hE hC hL [[], [], [], [], [.t (.int .u8 v0)], [], [], [], [], [], [], [], [.t (.int .u8 v1)], [], [], [], [], [], [], [], [], [.t (.int .u8 v2)], [], [], [], [], [], [], [], [], [.t (.int .u8 v3)], [], [], [], [.c], [.t (.int .u32 v4), .l (List.map (T.int .u32) (Arr.set a0 (a1.toNat) (bits .or .u32 (bits .or .u32 (bits .or .u32 (shl .u32 (w32 v0) (24:Int)) (shl .u32 (w32 v1) (16:Int))) (shl .u32 (w32 v2) (8:Int))) (w32 v3))).l)]] { keep := [0, 1, 4, 16], ren := [(49001, 49001), (50000, 50000)] } ⟨[(0, (.ref 50000 [] (0))), (1, (.t ((eS 1 (T.int .u8)) po0))), (4, (.ref 49001 [] (0))), (16, (.t (.int .i64 a1)))], [(49001, (.var false 76 (.t ((eA 1 (T.int .u32)) (Arr.set a0 (a1.toNat) (bits .or .u32 (bits .or .u32 (bits .or .u32 (shl .u32 (w32 v0) (24:Int)) (shl .u32 (w32 v1) (16:Int))) (shl .u32 (w32 v2) (8:Int))) (w32 v3))))))), (50000, (.var false 0 (.t ((eA 1 (T.int .u32)) pt0))))]⟩ [0 ≤ (wi ((4:Int) * a1)), (List.map (T.int .u8) po0)[(wi ((4:Int) * a1)).toNat]? = some (.int .u8 v0), 0 ≤ (wi ((wi ((4:Int) * a1)) + (1:Int))), (List.map (T.int .u8) po0)[(wi ((wi ((4:Int) * a1)) + (1:Int))).toNat]? = some (.int .u8 v1), 0 ≤ (wi ((wi ((4:Int) * a1)) + (2:Int))), (List.map (T.int .u8) po0)[(wi ((wi ((4:Int) * a1)) + (2:Int))).toNat]? = some (.int .u8 v2), 0 ≤ (wi ((wi ((4:Int) * a1)) + (3:Int))), (List.map (T.int .u8) po0)[(wi ((wi ((4:Int) * a1)) + (3:Int))).toNat]? = some (.int .u8 v3), 0 ≤ a1, a1 < ((64 : Nat) : Int), a1.toNat * 1 + 0 = 0 + a1.toNat * 1, (List.map (T.int .u32) a0.l)[a1.toNat]? = some (.int .u32 v4), (List.map (T.int .u32) a0.l)[a1.toNat]? = some (.int .u32 v4), (List.map (T.int .u32) a0.l).set a1.toNat (.int .u32 (bits .or .u32 (bits .or .u32 (bits .or .u32 (shl .u32 (w32 v0) (24:Int)) (shl .u32 (w32 v1) (16:Int))) (shl .u32 (w32 v2) (8:Int))) (w32 v3))) = List.map (T.int .u32) (Arr.set a0 (a1.toNat) (bits .or .u32 (bits .or .u32 (bits .or .u32 (shl .u32 (w32 v0) (24:Int)) (shl .u32 (w32 v1) (16:Int))) (shl .u32 (w32 v2) (8:Int))) (w32 v3))).l] (by kernel_rfl) (by kernel_rfl) ⟨hq0, (at_map hv0), hq1, (at_map hv1), hq2, (at_map hv2), hq3, (at_map hv3), hq4, hq5, (by omega), (at_map hv4), (at_map hv4), set_map, trivial⟩ ?_
      refine Blk_norm ?_
      refine Nxt_norm ?_
      refine Ab.regT hE hC hL [] { keep := [0, 1, 4, 16], ren := [(49001, 49001), (50000, 50000)] } ⟨[(0, (.ref 50000 [] (0))), (1, (.t ((eS 1 (T.int .u8)) po0))), (4, (.ref 49001 [] (0))), (16, (.t (.int .i64 (wi (a1 + (1:Int))))))], [(49001, (.var false 76 (.t ((eA 1 (T.int .u32)) (Arr.set a0 (a1.toNat) (bits .or .u32 (bits .or .u32 (bits .or .u32 (shl .u32 (w32 v0) (24:Int)) (shl .u32 (w32 v1) (16:Int))) (shl .u32 (w32 v2) (8:Int))) (w32 v3))))))), (50000, (.var false 0 (.t ((eA 1 (T.int .u32)) pt0))))]⟩ [] (by kernel_rfl) trivial ?_
      exact LK_norm ((Arr.set a0 (a1.toNat) (bits .or .u32 (bits .or .u32 (bits .or .u32 (shl .u32 (w32 v0) (24:Int)) (shl .u32 (w32 v1) (16:Int))) (shl .u32 (w32 v2) (8:Int))) (w32 v3))), (wi (a1 + (1:Int)))) { fs := [], keep := [0, 1, 4, 16], ren := [(50000, 50000), (49001, 49001)] } h (by kernel_rfl)
    · replace h := cond_f hb0 h
      refine Ab.exit ?_
      refine Nxt_exit ?_
      exact LK_exit a0 h (PX_mk { fs := [], keep := [0, 4], ren := [(50000, 50000), (49001, 49001)] } (by kernel_rfl))
  · refine Nxt_norm ?_
    refine Ab.seq ?_
    refine Ab.seq ?_
    refine Ab.regT hE hC hL [] { keep := [0, 4, 6], ren := [(49001, 49001), (50000, 50000)] } ⟨[(0, (.ref 50000 [] (0))), (4, (.ref 49001 [] (0))), (6, (.t (.int .i64 (16:Int))))], [(49001, (.var false 76 (.t ((eA 1 (T.int .u32)) x0)))), (50000, (.var false 0 (.t ((eA 1 (T.int .u32)) pt0))))]⟩ [] (by kernel_rfl) trivial ?_
    refine Nxt_norm ?_
    obtain ⟨x1, hx1, h⟩ := bind_some h
    refine Ab.loopX0 (fun ((a8, a9) : ((Arr 64 Int) × Int)) => (⟨[(0, (.ref 50000 [] (0))), (4, (.ref 49001 [] (0))), (6, (.t (.int .i64 a9)))], [(50000, (.var false 0 (.t ((eA 1 (T.int .u32)) pt0)))), (49001, (.var false 76 (.t ((eA 1 (T.int .u32)) a8))))]⟩ : St)) (fun (a10 : (Arr 64 Int)) => (⟨[(0, (.ref 50000 [] (0))), (4, (.ref 49001 [] (0)))], [(50000, (.var false 0 (.t ((eA 1 (T.int .u32)) pt0)))), (49001, (.var false 76 (.t ((eA 1 (T.int .u32)) a10))))]⟩ : St)) { fs := [], keep := [0, 4, 6], ren := [(50000, 50000), (49001, 49001)] } (x0, (16:Int)) hC hL hx1 (by kernel_rfl) ?_ ?_
    · rintro ⟨a8, a9⟩ o1 h
      replace h : f_digest_block_b1 n  a8 a9 = some o1 := h
      unfold f_digest_block_b1 at h
      refine Ab.seq ?_
      refine Ab.seq ?_
      refine Ab.regT hE hC hL [] { keep := [0, 4, 6, 56], ren := [(49001, 49001), (50000, 50000)] } ⟨[(0, (.ref 50000 [] (0))), (4, (.ref 49001 [] (0))), (6, (.t (.int .i64 a9))), (56, (.t (.bool (decide (a9 < (64:Int))))))], [(49001, (.var false 76 (.t ((eA 1 (T.int .u32)) a8)))), (50000, (.var false 0 (.t ((eA 1 (T.int .u32)) pt0))))]⟩ [] (by kernel_rfl) trivial ?_
      refine Nxt_norm ?_
      refine Ab.cond (b := (decide (a9 < (64:Int)))) (by kernel_rfl) (fun hb1 => ?_) (fun hb1 => ?_)
      · replace h := cond_t hb1 h
        refine Ab.skip ?_
        refine Nxt_norm ?_
        refine Ab.seq ?_
        refine Ab.block ?_
        refine Ab.seq ?_
        obtain ⟨hq6, h⟩ := ask_dec h
        obtain ⟨hq7, h⟩ := ask_dec h
        obtain ⟨v5, hv5, h⟩ := bind_some h
        obtain ⟨r0, hr0, h⟩ := bind_some h
        obtain ⟨r1, hr1, h⟩ := bind_some h
        refine Ab.regA hE hC hL [[], [], [.c], [.t (.int .u32 v5)], [.r [.tree (.int .u32 r0)] []], [], [], [.c], [.t (.int .u32 v5)], [.r [.tree (.int .u32 r1)] []], [], [], [], [.c], [.t (.int .u32 v5)]] { keep := [0, 4, 6, 7], ren := [(49001, 49001), (50000, 50000)] } ⟨[(0, (.ref 50000 [] (0))), (4, (.ref 49001 [] (0))), (6, (.t (.int .i64 a9))), (7, (.t (.int .u32 (bits .xor .u32 (bits .xor .u32 r0 r1) (shr .u32 v5 (3:Int))))))], [(49001, (.var false 76 (.t ((eA 1 (T.int .u32)) a8)))), (50000, (.var false 0 (.t ((eA 1 (T.int .u32)) pt0))))]⟩ [0 ≤ (wi (a9 - (15:Int))), (wi (a9 - (15:Int))) < ((64 : Nat) : Int), (wi (a9 - (15:Int))).toNat * 1 + 0 = 0 + (wi (a9 - (15:Int))).toNat * 1, (List.map (T.int .u32) a8.l)[(wi (a9 - (15:Int))).toNat]? = some (.int .u32 v5), (sp_bits_RotateLeft32 n).fn [(.int .u32 v5), (.int .i64 (-7:Int))] = some ([.tree (.int .u32 r0)], []), 0 ≤ (wi (a9 - (15:Int))), (wi (a9 - (15:Int))) < ((64 : Nat) : Int), (wi (a9 - (15:Int))).toNat * 1 + 0 = 0 + (wi (a9 - (15:Int))).toNat * 1, (List.map (T.int .u32) a8.l)[(wi (a9 - (15:Int))).toNat]? = some (.int .u32 v5), (sp_bits_RotateLeft32 n).fn [(.int .u32 v5), (.int .i64 (-18:Int))] = some ([.tree (.int .u32 r1)], []), 0 ≤ (wi (a9 - (15:Int))), (wi (a9 - (15:Int))) < ((64 : Nat) : Int), (wi (a9 - (15:Int))).toNat * 1 + 0 = 0 + (wi (a9 - (15:Int))).toNat * 1, (List.map (T.int .u32) a8.l)[(wi (a9 - (15:Int))).toNat]? = some (.int .u32 v5)] (by kernel_rfl) (by kernel_rfl) ⟨hq6, hq7, (by omega), (at_map hv5), (ap_bits_RotateLeft32 n (by exact ⟨leT.refl _, leT.refl _, trivial⟩) hr0), hq6, hq7, (by omega), (at_map hv5), (ap_bits_RotateLeft32 n (by exact ⟨leT.refl _, leT.refl _, trivial⟩) hr1), hq6, hq7, (by omega), (at_map hv5), trivial⟩ ?_
        refine Nxt_norm ?_
        refine Ab.seq ?_
        obtain ⟨hq8, h⟩ := ask_dec h
        obtain ⟨hq9, h⟩ := ask_dec h
        obtain ⟨v6, hv6, h⟩ := bind_some h
        obtain ⟨r2, hr2, h⟩ := bind_some h
        obtain ⟨r3, hr3, h⟩ := bind_some h
        refine Ab.regA hE hC hL [[], [], [.c], [.t (.int .u32 v6)], [.r [.tree (.int .u32 r2)] []], [], [], [.c], [.t (.int .u32 v6)], [.r [.tree (.int .u32 r3)] []], [], [], [], [.c], [.t (.int .u32 v6)]] { keep := [0, 4, 6, 7, 8], ren := [(49001, 49001), (50000, 50000)] } ⟨[(0, (.ref 50000 [] (0))), (4, (.ref 49001 [] (0))), (6, (.t (.int .i64 a9))), (7, (.t (.int .u32 (bits .xor .u32 (bits .xor .u32 r0 r1) (shr .u32 v5 (3:Int)))))), (8, (.t (.int .u32 (bits .xor .u32 (bits .xor .u32 r2 r3) (shr .u32 v6 (10:Int))))))], [(49001, (.var false 76 (.t ((eA 1 (T.int .u32)) a8)))), (50000, (.var false 0 (.t ((eA 1 (T.int .u32)) pt0))))]⟩ [0 ≤ (wi (a9 - (2:Int))), (wi (a9 - (2:Int))) < ((64 : Nat) : Int), (wi (a9 - (2:Int))).toNat * 1 + 0 = 0 + (wi (a9 - (2:Int))).toNat * 1, (List.map (T.int .u32) a8.l)[(wi (a9 - (2:Int))).toNat]? = some (.int .u32 v6), (sp_bits_RotateLeft32 n).fn [(.int .u32 v6), (.int .i64 (-17:Int))] = some ([.tree (.int .u32 r2)], []), 0 ≤ (wi (a9 - (2:Int))), (wi (a9 - (2:Int))) < ((64 : Nat) : Int), (wi (a9 - (2:Int))).toNat * 1 + 0 = 0 + (wi (a9 - (2:Int))).toNat * 1, (List.map (T.int .u32) a8.l)[(wi (a9 - (2:Int))).toNat]? = some (.int .u32 v6), (sp_bits_RotateLeft32 n).fn [(.int .u32 v6), (.int .i64 (-19:Int))] = some ([.tree (.int .u32 r3)], []), 0 ≤ (wi (a9 - (2:Int))), (wi (a9 - (2:Int))) < ((64 : Nat) : Int), (wi (a9 - (2:Int))).toNat * 1 + 0 = 0 + (wi (a9 - (2:Int))).toNat * 1, (List.map (T.int .u32) a8.l)[(wi (a9 - (2:Int))).toNat]? = some (.int .u32 v6)] (by kernel_rfl) (by kernel_rfl) ⟨hq8, hq9, (by omega), (at_map hv6), (ap_bits_RotateLeft32 n (by exact ⟨leT.refl _, leT.refl _, trivial⟩) hr2), hq8, hq9, (by omega), (at_map hv6), (ap_bits_RotateLeft32 n (by exact ⟨leT.refl _, leT.refl _, trivial⟩) hr3), hq8, hq9, (by omega), (at_map hv6), trivial⟩ ?_
        refine Nxt_norm ?_
        obtain ⟨hq10, h⟩ := ask_dec h
        obtain ⟨hq11, h⟩ := ask_dec h
        obtain ⟨v7, hv7, h⟩ := bind_some h
        obtain ⟨hq12, h⟩ := ask_dec h
        obtain ⟨hq13, h⟩ := ask_dec h
        obtain ⟨v8, hv8, h⟩ := bind_some h
        obtain ⟨hq14, h⟩ := ask_dec h
        obtain ⟨v9, hv9, h⟩ := bind_some h
        refine Ab.regA hE hC hL [[], [], [], [.c], [.t (.int .u32 v7)], [], [], [], [], [.c], [.t (.int .u32 v8)], [], [], [], [.c], [.t (.int .u32 v9), .l (List.map (T.int .u32) (Arr.set a8 (a9.toNat) (w32 ((w32 ((w32 (v7 + (bits .xor .u32 (bits .xor .u32 r0 r1) (shr .u32 v5 (3:Int))))) + v8)) + (bits .xor .u32 (bits .xor .u32 r2 r3) (shr .u32 v6 (10:Int)))))).l)]] { keep := [0, 4, 6], ren := [(49001, 49001), (50000, 50000)] } ⟨[(0, (.ref 50000 [] (0))), (4, (.ref 49001 [] (0))), (6, (.t (.int .i64 a9)))], [(49001, (.var false 76 (.t ((eA 1 (T.int .u32)) (Arr.set a8 (a9.toNat) (w32 ((w32 ((w32 (v7 + (bits .xor .u32 (bits .xor .u32 r0 r1) (shr .u32 v5 (3:Int))))) + v8)) + (bits .xor .u32 (bits .xor .u32 r2 r3) (shr .u32 v6 (10:Int)))))))))), (50000, (.var false 0 (.t ((eA 1 (T.int .u32)) pt0))))]⟩ [0 ≤ (wi (a9 - (16:Int))), (wi (a9 - (16:Int))) < ((64 : Nat) : Int), (wi (a9 - (16:Int))).toNat * 1 + 0 = 0 + (wi (a9 - (16:Int))).toNat * 1, (List.map (T.int .u32) a8.l)[(wi (a9 - (16:Int))).toNat]? = some (.int .u32 v7), 0 ≤ (wi (a9 - (7:Int))), (wi (a9 - (7:Int))) < ((64 : Nat) : Int), (wi (a9 - (7:Int))).toNat * 1 + 0 = 0 + (wi (a9 - (7:Int))).toNat * 1, (List.map (T.int .u32) a8.l)[(wi (a9 - (7:Int))).toNat]? = some (.int .u32 v8), 0 ≤ a9, a9 < ((64 : Nat) : Int), a9.toNat * 1 + 0 = 0 + a9.toNat * 1, (List.map (T.int .u32) a8.l)[a9.toNat]? = some (.int .u32 v9), (List.map (T.int .u32) a8.l)[a9.toNat]? = some (.int .u32 v9), (List.map (T.int .u32) a8.l).set a9.toNat (.int .u32 (w32 ((w32 ((w32 (v7 + (bits .xor .u32 (bits .xor .u32 r0 r1) (shr .u32 v5 (3:Int))))) + v8)) + (bits .xor .u32 (bits .xor .u32 r2 r3) (shr .u32 v6 (10:Int)))))) = List.map (T.int .u32) (Arr.set a8 (a9.toNat) (w32 ((w32 ((w32 (v7 + (bits .xor .u32 (bits .xor .u32 r0 r1) (shr .u32 v5 (3:Int))))) + v8)) + (bits .xor .u32 (bits .xor .u32 r2 r3) (shr .u32 v6 (10:Int)))))).l] (by kernel_rfl) (by kernel_rfl) ⟨hq10, hq11, (by omega), (at_map hv7), hq12, hq13, (by omega), (at_map hv8), hq14, (of_decide_eq_true hb1), (by omega), (at_map hv9), (at_map hv9), set_map, trivial⟩ ?_
        refine Blk_norm ?_
        refine Nxt_norm ?_
        refine Ab.regT hE hC hL [] { keep := [0, 4, 6], ren := [(49001, 49001), (50000, 50000)] } ⟨[(0, (.ref 50000 [] (0))), (4, (.ref 49001 [] (0))), (6, (.t (.int .i64 (wi (a9 + (1:Int))))))], [(49001, (.var false 76 (.t ((eA 1 (T.int .u32)) (Arr.set a8 (a9.toNat) (w32 ((w32 ((w32 (v7 + (bits .xor .u32 (bits .xor .u32 r0 r1) (shr .u32 v5 (3:Int))))) + v8)) + (bits .xor .u32 (bits .xor .u32 r2 r3) (shr .u32 v6 (10:Int)))))))))), (50000, (.var false 0 (.t ((eA 1 (T.int .u32)) pt0))))]⟩ [] (by kernel_rfl) trivial ?_
        exact LK_norm ((Arr.set a8 (a9.toNat) (w32 ((w32 ((w32 (v7 + (bits .xor .u32 (bits .xor .u32 r0 r1) (shr .u32 v5 (3:Int))))) + v8)) + (bits .xor .u32 (bits .xor .u32 r2 r3) (shr .u32 v6 (10:Int)))))), (wi (a9 + (1:Int)))) { fs := [], keep := [0, 4, 6], ren := [(50000, 50000), (49001, 49001)] } h (by kernel_rfl)
      · replace h := cond_f hb1 h
        refine Ab.exit ?_
        refine Nxt_exit ?_
        exact LK_exit a8 h (PX_mk { fs := [], keep := [0, 4], ren := [(50000, 50000), (49001, 49001)] } (by kernel_rfl))
    · refine Nxt_norm ?_
      refine Ab.seq ?_
      refine Ab.regT hE hC hL [] { keep := [0, 4, 9], ren := [(9, 9), (49001, 49001), (50000, 50000)] } ⟨[(0, (.ref 50000 [] (0))), (4, (.ref 49001 [] (0))), (9, (.ref 9 [] (0)))], [(9, (.var false 73 (.t ((eA 1 (T.int .u32)) pt0)))), (49001, (.var false 76 (.t ((eA 1 (T.int .u32)) x1)))), (50000, (.var false 0 (.t ((eA 1 (T.int .u32)) pt0))))]⟩ [] (by kernel_rfl) trivial ?_
      refine Nxt_norm ?_
      refine Ab.seq ?_
      refine Ab.seq ?_
      refine Ab.regT hE hC hL [] { keep := [0, 4, 9, 111], ren := [(9, 9), (49001, 49001), (50000, 50000)] } ⟨[(0, (.ref 50000 [] (0))), (4, (.ref 49001 [] (0))), (9, (.ref 9 [] (0))), (111, (.t (.int .i64 (0:Int))))], [(9, (.var false 73 (.t ((eA 1 (T.int .u32)) pt0)))), (49001, (.var false 76 (.t ((eA 1 (T.int .u32)) x1)))), (50000, (.var false 0 (.t ((eA 1 (T.int .u32)) pt0))))]⟩ [] (by kernel_rfl) trivial ?_
      refine Nxt_norm ?_
      obtain ⟨x2, hx2, h⟩ := bind_some h
      refine Ab.loopX0 (fun ((a16, a17) : ((Arr 8 Int) × Int)) => (⟨[(0, (.ref 50000 [] (0))), (4, (.ref 49001 [] (0))), (9, (.ref 49002 [] (0))), (111, (.t (.int .i64 a17)))], [(50000, (.var false 0 (.t ((eA 1 (T.int .u32)) pt0)))), (49001, (.var false 76 (.t ((eA 1 (T.int .u32)) x1)))), (49002, (.var false 73 (.t ((eA 1 (T.int .u32)) a16))))]⟩ : St)) (fun (a18 : (Arr 8 Int)) => (⟨[(0, (.ref 50000 [] (0))), (9, (.ref 49001 [] (0)))], [(50000, (.var false 0 (.t ((eA 1 (T.int .u32)) pt0)))), (49001, (.var false 73 (.t ((eA 1 (T.int .u32)) a18))))]⟩ : St)) { fs := [], keep := [0, 4, 9, 111], ren := [(50000, 50000), (49001, 49001), (9, 49002)] } (pt0, (0:Int)) hC hL hx2 (by kernel_rfl) ?_ ?_
      · rintro ⟨a16, a17⟩ o2 h
        replace h : f_digest_block_b2 n x1 a16 a17 = some o2 := h
        unfold f_digest_block_b2 at h
        refine Ab.seq ?_
        refine Ab.regT hE hC hL [] { keep := [0, 4, 9, 111, 112], ren := [(49001, 49001), (49002, 49002), (50000, 50000)] } ⟨[(0, (.ref 50000 [] (0))), (4, (.ref 49001 [] (0))), (9, (.ref 49002 [] (0))), (111, (.t (.int .i64 a17))), (112, (.t (.bool (decide (a17 < (64:Int))))))], [(49001, (.var false 76 (.t ((eA 1 (T.int .u32)) x1)))), (49002, (.var false 73 (.t ((eA 1 (T.int .u32)) a16)))), (50000, (.var false 0 (.t ((eA 1 (T.int .u32)) pt0))))]⟩ [] (by kernel_rfl) trivial ?_
        refine Nxt_norm ?_
        refine Ab.seq ?_
        refine Ab.cond (b := (decide (a17 < (64:Int)))) (by kernel_rfl) (fun hb2 => ?_) (fun hb2 => ?_)
        · replace h := cond_t hb2 h
          refine Ab.skip ?_
          refine Nxt_norm ?_
          refine Ab.seq ?_
          refine Ab.block ?_
          refine Ab.seq ?_
          refine Ab.regT hE hC hL [] { keep := [0, 4, 9, 10, 111], ren := [(49001, 49001), (49002, 49002), (50000, 50000)] } ⟨[(0, (.ref 50000 [] (0))), (4, (.ref 49001 [] (0))), (9, (.ref 49002 [] (0))), (10, (.t (.int .i64 a17))), (111, (.t (.int .i64 a17)))], [(49001, (.var false 76 (.t ((eA 1 (T.int .u32)) x1)))), (49002, (.var false 73 (.t ((eA 1 (T.int .u32)) a16)))), (50000, (.var false 0 (.t ((eA 1 (T.int .u32)) pt0))))]⟩ [] (by kernel_rfl) trivial ?_
          refine Nxt_norm ?_
          refine Ab.seq ?_
          obtain ⟨v10, hv10, h⟩ := bind_some h
          obtain ⟨r4, hr4, h⟩ := bind_some h
          obtain ⟨r5, hr5, h⟩ := bind_some h
          obtain ⟨r6, hr6, h⟩ := bind_some h
          refine Ab.regA hE hC hL [[], [.t (.int .u32 v10)], [.r [.tree (.int .u32 r4)] []], [], [.t (.int .u32 v10)], [.r [.tree (.int .u32 r5)] []], [], [], [.t (.int .u32 v10)], [.r [.tree (.int .u32 r6)] []]] { keep := [0, 4, 9, 10, 11, 111], ren := [(49001, 49001), (49002, 49002), (50000, 50000)] } ⟨[(0, (.ref 50000 [] (0))), (4, (.ref 49001 [] (0))), (9, (.ref 49002 [] (0))), (10, (.t (.int .i64 a17))), (11, (.t (.int .u32 (bits .xor .u32 (bits .xor .u32 r4 r5) r6)))), (111, (.t (.int .i64 a17)))], [(49001, (.var false 76 (.t ((eA 1 (T.int .u32)) x1)))), (49002, (.var false 73 (.t ((eA 1 (T.int .u32)) a16)))), (50000, (.var false 0 (.t ((eA 1 (T.int .u32)) pt0))))]⟩ [4 = 4, (List.map (T.int .u32) a16.l)[4]? = some (.int .u32 v10), (sp_bits_RotateLeft32 n).fn [(.int .u32 v10), (.int .i64 (-6:Int))] = some ([.tree (.int .u32 r4)], []), 4 = 4, (List.map (T.int .u32) a16.l)[4]? = some (.int .u32 v10), (sp_bits_RotateLeft32 n).fn [(.int .u32 v10), (.int .i64 (-11:Int))] = some ([.tree (.int .u32 r5)], []), 4 = 4, (List.map (T.int .u32) a16.l)[4]? = some (.int .u32 v10), (sp_bits_RotateLeft32 n).fn [(.int .u32 v10), (.int .i64 (-25:Int))] = some ([.tree (.int .u32 r6)], [])] (by kernel_rfl) (by kernel_rfl) ⟨(by omega), (at_map hv10), (ap_bits_RotateLeft32 n (by exact ⟨leT.refl _, leT.refl _, trivial⟩) hr4), (by omega), (at_map hv10), (ap_bits_RotateLeft32 n (by exact ⟨leT.refl _, leT.refl _, trivial⟩) hr5), (by omega), (at_map hv10), (ap_bits_RotateLeft32 n (by exact ⟨leT.refl _, leT.refl _, trivial⟩) hr6), trivial⟩ ?_
          refine Nxt_norm ?_
          refine Ab.seq ?_
          obtain ⟨v11, hv11, h⟩ := bind_some h
          obtain ⟨v12, hv12, h⟩ := bind_some h
          obtain ⟨v13, hv13, h⟩ := bind_some h
          obtain ⟨hq15, h⟩ := ask_dec h
          obtain ⟨v14, hv14, h⟩ := bind_some h
          obtain ⟨v15, hv15, h⟩ := bind_some h
          refine Ab.regA hE hC hL [[], [.t (.int .u32 v11)], [], [], [], [.t (.int .u32 v10)], [], [.t (.int .u32 v12)], [], [], [.t (.int .u32 v10)], [], [], [.t (.int .u32 v13)], [], [], [], [], [.t (.int .u32 v14)], [], [], [], [.c], [.t (.int .u32 v15)]] { keep := [0, 4, 9, 12, 111], ren := [(49001, 49001), (49002, 49002), (50000, 50000)] } ⟨[(0, (.ref 50000 [] (0))), (4, (.ref 49001 [] (0))), (9, (.ref 49002 [] (0))), (12, (.t (.int .u32 (w32 ((w32 ((w32 ((w32 (v11 + (bits .xor .u32 (bits .xor .u32 r4 r5) r6))) + (bits .xor .u32 (bits .and .u32 v10 v12) (bits .and .u32 (bits .xor .u32 (4294967295) v10) v13)))) + v14)) + v15))))), (111, (.t (.int .i64 a17)))], [(49001, (.var false 76 (.t ((eA 1 (T.int .u32)) x1)))), (49002, (.var false 73 (.t ((eA 1 (T.int .u32)) a16)))), (50000, (.var false 0 (.t ((eA 1 (T.int .u32)) pt0))))]⟩ [7 = 7, (List.map (T.int .u32) a16.l)[7]? = some (.int .u32 v11), 4 = 4, (List.map (T.int .u32) a16.l)[4]? = some (.int .u32 v10), 5 = 5, (List.map (T.int .u32) a16.l)[5]? = some (.int .u32 v12), 4 = 4, (List.map (T.int .u32) a16.l)[4]? = some (.int .u32 v10), 6 = 6, (List.map (T.int .u32) a16.l)[6]? = some (.int .u32 v13), 0 ≤ a17, a17 < ((64 : Nat) : Int), (List.map (T.int .u32) g_0.l)[a17.toNat]? = some (.int .u32 v14), 0 ≤ a17, a17 < ((64 : Nat) : Int), a17.toNat * 1 + 0 = 0 + a17.toNat * 1, (List.map (T.int .u32) x1.l)[a17.toNat]? = some (.int .u32 v15)] (by kernel_rfl) (by kernel_rfl) ⟨(by omega), (at_map hv11), (by omega), (at_map hv10), (by omega), (at_map hv12), (by omega), (at_map hv10), (by omega), (at_map hv13), hq15, (of_decide_eq_true hb2), (at_map hv14), hq15, (of_decide_eq_true hb2), (by omega), (at_map hv15), trivial⟩ ?_
          refine Nxt_norm ?_
          refine Ab.seq ?_
          obtain ⟨v16, hv16, h⟩ := bind_some h
          obtain ⟨r7, hr7, h⟩ := bind_some h
          obtain ⟨r8, hr8, h⟩ := bind_some h
          obtain ⟨r9, hr9, h⟩ := bind_some h
          refine Ab.regA hE hC hL [[], [.t (.int .u32 v16)], [.r [.tree (.int .u32 r7)] []], [], [.t (.int .u32 v16)], [.r [.tree (.int .u32 r8)] []], [], [], [.t (.int .u32 v16)], [.r [.tree (.int .u32 r9)] []]] { keep := [0, 4, 9, 12, 13, 111], ren := [(49001, 49001), (49002, 49002), (50000, 50000)] } ⟨[(0, (.ref 50000 [] (0))), (4, (.ref 49001 [] (0))), (9, (.ref 49002 [] (0))), (12, (.t (.int .u32 (w32 ((w32 ((w32 ((w32 (v11 + (bits .xor .u32 (bits .xor .u32 r4 r5) r6))) + (bits .xor .u32 (bits .and .u32 v10 v12) (bits .and .u32 (bits .xor .u32 (4294967295) v10) v13)))) + v14)) + v15))))), (13, (.t (.int .u32 (bits .xor .u32 (bits .xor .u32 r7 r8) r9)))), (111, (.t (.int .i64 a17)))], [(49001, (.var false 76 (.t ((eA 1 (T.int .u32)) x1)))), (49002, (.var false 73 (.t ((eA 1 (T.int .u32)) a16)))), (50000, (.var false 0 (.t ((eA 1 (T.int .u32)) pt0))))]⟩ [0 = 0, (List.map (T.int .u32) a16.l)[0]? = some (.int .u32 v16), (sp_bits_RotateLeft32 n).fn [(.int .u32 v16), (.int .i64 (-2:Int))] = some ([.tree (.int .u32 r7)], []), 0 = 0, (List.map (T.int .u32) a16.l)[0]? = some (.int .u32 v16), (sp_bits_RotateLeft32 n).fn [(.int .u32 v16), (.int .i64 (-13:Int))] = some ([.tree (.int .u32 r8)], []), 0 = 0, (List.map (T.int .u32) a16.l)[0]? = some (.int .u32 v16), (sp_bits_RotateLeft32 n).fn [(.int .u32 v16), (.int .i64 (-22:Int))] = some ([.tree (.int .u32 r9)], [])] (by kernel_rfl) (by kernel_rfl) ⟨(by omega), (at_map hv16), (ap_bits_RotateLeft32 n (by exact ⟨leT.refl _, leT.refl _, trivial⟩) hr7), (by omega), (at_map hv16), (ap_bits_RotateLeft32 n (by exact ⟨leT.refl _, leT.refl _, trivial⟩) hr8), (by omega), (at_map hv16), (ap_bits_RotateLeft32 n (by exact ⟨leT.refl _, leT.refl _, trivial⟩) hr9), trivial⟩ ?_
          refine Nxt_norm ?_
          refine Ab.seq ?_
          obtain ⟨v17, hv17, h⟩ := bind_some h
          obtain ⟨v18, hv18, h⟩ := bind_some h
          refine Ab.regT hE hC hL [[], [.t (.int .u32 v16)], [], [.t (.int .u32 v17)], [], [], [.t (.int .u32 v16)], [], [.t (.int .u32 v18)], [], [], [], [.t (.int .u32 v17)], [], [.t (.int .u32 v18)]] { keep := [0, 4, 9, 12, 13, 14, 111], ren := [(49001, 49001), (49002, 49002), (50000, 50000)] } ⟨[(0, (.ref 50000 [] (0))), (4, (.ref 49001 [] (0))), (9, (.ref 49002 [] (0))), (12, (.t (.int .u32 (w32 ((w32 ((w32 ((w32 (v11 + (bits .xor .u32 (bits .xor .u32 r4 r5) r6))) + (bits .xor .u32 (bits .and .u32 v10 v12) (bits .and .u32 (bits .xor .u32 (4294967295) v10) v13)))) + v14)) + v15))))), (13, (.t (.int .u32 (bits .xor .u32 (bits .xor .u32 r7 r8) r9)))), (14, (.t (.int .u32 (bits .xor .u32 (bits .xor .u32 (bits .and .u32 v16 v17) (bits .and .u32 v16 v18)) (bits .and .u32 v17 v18))))), (111, (.t (.int .i64 a17)))], [(49001, (.var false 76 (.t ((eA 1 (T.int .u32)) x1)))), (49002, (.var false 73 (.t ((eA 1 (T.int .u32)) a16)))), (50000, (.var false 0 (.t ((eA 1 (T.int .u32)) pt0))))]⟩ [0 = 0, (List.map (T.int .u32) a16.l)[0]? = some (.int .u32 v16), 1 = 1, (List.map (T.int .u32) a16.l)[1]? = some (.int .u32 v17), 0 = 0, (List.map (T.int .u32) a16.l)[0]? = some (.int .u32 v16), 2 = 2, (List.map (T.int .u32) a16.l)[2]? = some (.int .u32 v18), 1 = 1, (List.map (T.int .u32) a16.l)[1]? = some (.int .u32 v17), 2 = 2, (List.map (T.int .u32) a16.l)[2]? = some (.int .u32 v18)] (by kernel_rfl) ⟨(by omega), (at_map hv16), (by omega), (at_map hv17), (by omega), (at_map hv16), (by omega), (at_map hv18), (by omega), (at_map hv17), (by omega), (at_map hv18), trivial⟩ ?_
          refine Nxt_norm ?_
          refine Ab.seq ?_
          refine Ab.regA hE hC hL [[], [], [.n ((min (List.take 7 (List.drop 0 a16.l)).length 7 : Nat) : Int), .l (List.map (T.int .u32) (Arr.put a16 (over a16.l 1 7 (List.take 7 (List.drop 0 a16.l)))).l)]] { keep := [0, 4, 9, 12, 13, 14, 111], ren := [(49001, 49001), (49002, 49002), (50000, 50000)] } ⟨[(0, (.ref 50000 [] (0))), (4, (.ref 49001 [] (0))), (9, (.ref 49002 [] (0))), (12, (.t (.int .u32 (w32 ((w32 ((w32 ((w32 (v11 + (bits .xor .u32 (bits .xor .u32 r4 r5) r6))) + (bits .xor .u32 (bits .and .u32 v10 v12) (bits .and .u32 (bits .xor .u32 (4294967295) v10) v13)))) + v14)) + v15))))), (13, (.t (.int .u32 (bits .xor .u32 (bits .xor .u32 r7 r8) r9)))), (14, (.t (.int .u32 (bits .xor .u32 (bits .xor .u32 (bits .and .u32 v16 v17) (bits .and .u32 v16 v18)) (bits .and .u32 v17 v18))))), (111, (.t (.int .i64 a17)))], [(49001, (.var false 76 (.t ((eA 1 (T.int .u32)) x1)))), (49002, (.var false 73 (.t ((eA 1 (T.int .u32)) (Arr.put a16 (over a16.l 1 7 (List.take 7 (List.drop 0 a16.l)))))))), (50000, (.var false 0 (.t ((eA 1 (T.int .u32)) pt0))))]⟩ [1 + 7 ≤ List.length (List.map (T.int .u32) a16.l), ((min (List.length (List.take 7 (List.drop 0 (List.map (T.int .u32) a16.l)))) 7 : Nat) : Int) = ((min (List.take 7 (List.drop 0 a16.l)).length 7 : Nat) : Int), List.take 1 (List.map (T.int .u32) a16.l) ++ (List.take 7 (List.take 7 (List.drop 0 (List.map (T.int .u32) a16.l))) ++ List.drop (1 + min (List.length (List.take 7 (List.drop 0 (List.map (T.int .u32) a16.l)))) 7) (List.map (T.int .u32) a16.l)) = List.map (T.int .u32) (Arr.put a16 (over a16.l 1 7 (List.take 7 (List.drop 0 a16.l)))).l, 0 + 7 ≤ List.length (List.map (T.int .u32) a16.l), 0 = 0 + 0 * 1, 1 = 0 + 1 * 1] (by kernel_rfl) (by kernel_rfl) ⟨(by simp only [List.length_map, List.length_take, List.length_drop, List.length_set, List.length_append, Arr.h]; omega), (min_len (win_map rfl _ _)), (copy_arr a16 (win_map rfl _ _) (by omega)), (by simp only [List.length_map, List.length_take, List.length_drop, List.length_set, List.length_append, Arr.h]; omega), (by omega), (by omega), trivial⟩ ?_
          refine Nxt_norm ?_
          refine Ab.seq ?_
          obtain ⟨v19, hv19, h⟩ := bind_some h
          refine Ab.regT hE hC hL [[], [.t (.int .u32 v19)], [], [], [], [.t (.int .u32 v19), .l (List.map (T.int .u32) (Arr.set (Arr.put a16 (over a16.l 1 7 (List.take 7 (List.drop 0 a16.l)))) 4 (w32 (v19 + (w32 ((w32 ((w32 ((w32 (v11 + (bits .xor .u32 (bits .xor .u32 r4 r5) r6))) + (bits .xor .u32 (bits .and .u32 v10 v12) (bits .and .u32 (bits .xor .u32 (4294967295) v10) v13)))) + v14)) + v15))))).l)]] { keep := [0, 4, 9, 12, 13, 14, 111], ren := [(49001, 49001), (49002, 49002), (50000, 50000)] } ⟨[(0, (.ref 50000 [] (0))), (4, (.ref 49001 [] (0))), (9, (.ref 49002 [] (0))), (12, (.t (.int .u32 (w32 ((w32 ((w32 ((w32 (v11 + (bits .xor .u32 (bits .xor .u32 r4 r5) r6))) + (bits .xor .u32 (bits .and .u32 v10 v12) (bits .and .u32 (bits .xor .u32 (4294967295) v10) v13)))) + v14)) + v15))))), (13, (.t (.int .u32 (bits .xor .u32 (bits .xor .u32 r7 r8) r9)))), (14, (.t (.int .u32 (bits .xor .u32 (bits .xor .u32 (bits .and .u32 v16 v17) (bits .and .u32 v16 v18)) (bits .and .u32 v17 v18))))), (111, (.t (.int .i64 a17)))], [(49001, (.var false 76 (.t ((eA 1 (T.int .u32)) x1)))), (49002, (.var false 73 (.t ((eA 1 (T.int .u32)) (Arr.set (Arr.put a16 (over a16.l 1 7 (List.take 7 (List.drop 0 a16.l)))) 4 (w32 (v19 + (w32 ((w32 ((w32 ((w32 (v11 + (bits .xor .u32 (bits .xor .u32 r4 r5) r6))) + (bits .xor .u32 (bits .and .u32 v10 v12) (bits .and .u32 (bits .xor .u32 (4294967295) v10) v13)))) + v14)) + v15))))))))), (50000, (.var false 0 (.t ((eA 1 (T.int .u32)) pt0))))]⟩ [4 = 4, (List.map (T.int .u32) (Arr.put a16 (over a16.l 1 7 (List.take 7 (List.drop 0 a16.l)))).l)[4]? = some (.int .u32 v19), 4 = 4, (List.map (T.int .u32) (Arr.put a16 (over a16.l 1 7 (List.take 7 (List.drop 0 a16.l)))).l)[4]? = some (.int .u32 v19), (List.map (T.int .u32) (Arr.put a16 (over a16.l 1 7 (List.take 7 (List.drop 0 a16.l)))).l)[4]? = some (.int .u32 v19), (List.map (T.int .u32) (Arr.put a16 (over a16.l 1 7 (List.take 7 (List.drop 0 a16.l)))).l).set 4 (.int .u32 (w32 (v19 + (w32 ((w32 ((w32 ((w32 (v11 + (bits .xor .u32 (bits .xor .u32 r4 r5) r6))) + (bits .xor .u32 (bits .and .u32 v10 v12) (bits .and .u32 (bits .xor .u32 (4294967295) v10) v13)))) + v14)) + v15))))) = List.map (T.int .u32) (Arr.set (Arr.put a16 (over a16.l 1 7 (List.take 7 (List.drop 0 a16.l)))) 4 (w32 (v19 + (w32 ((w32 ((w32 ((w32 (v11 + (bits .xor .u32 (bits .xor .u32 r4 r5) r6))) + (bits .xor .u32 (bits .and .u32 v10 v12) (bits .and .u32 (bits .xor .u32 (4294967295) v10) v13)))) + v14)) + v15))))).l] (by kernel_rfl) ⟨(by omega), (at_map hv19), (by omega), (at_map hv19), (at_map hv19), set_map, trivial⟩ ?_
          refine Nxt_norm ?_
          obtain ⟨v20, hv20, h⟩ := bind_some h
          refine Ab.regT hE hC hL [[], [], [], [], [], [], [.t (.int .u32 v20), .l (List.map (T.int .u32) (Arr.set (Arr.set (Arr.put a16 (over a16.l 1 7 (List.take 7 (List.drop 0 a16.l)))) 4 (w32 (v19 + (w32 ((w32 ((w32 ((w32 (v11 + (bits .xor .u32 (bits .xor .u32 r4 r5) r6))) + (bits .xor .u32 (bits .and .u32 v10 v12) (bits .and .u32 (bits .xor .u32 (4294967295) v10) v13)))) + v14)) + v15))))) 0 (w32 ((w32 ((w32 ((w32 ((w32 ((w32 (v11 + (bits .xor .u32 (bits .xor .u32 r4 r5) r6))) + (bits .xor .u32 (bits .and .u32 v10 v12) (bits .and .u32 (bits .xor .u32 (4294967295) v10) v13)))) + v14)) + v15)) + (bits .xor .u32 (bits .xor .u32 r7 r8) r9))) + (bits .xor .u32 (bits .xor .u32 (bits .and .u32 v16 v17) (bits .and .u32 v16 v18)) (bits .and .u32 v17 v18))))).l)]] { keep := [0, 4, 9, 111], ren := [(49001, 49001), (49002, 49002), (50000, 50000)] } ⟨[(0, (.ref 50000 [] (0))), (4, (.ref 49001 [] (0))), (9, (.ref 49002 [] (0))), (111, (.t (.int .i64 a17)))], [(49001, (.var false 76 (.t ((eA 1 (T.int .u32)) x1)))), (49002, (.var false 73 (.t ((eA 1 (T.int .u32)) (Arr.set (Arr.set (Arr.put a16 (over a16.l 1 7 (List.take 7 (List.drop 0 a16.l)))) 4 (w32 (v19 + (w32 ((w32 ((w32 ((w32 (v11 + (bits .xor .u32 (bits .xor .u32 r4 r5) r6))) + (bits .xor .u32 (bits .and .u32 v10 v12) (bits .and .u32 (bits .xor .u32 (4294967295) v10) v13)))) + v14)) + v15))))) 0 (w32 ((w32 ((w32 ((w32 ((w32 ((w32 (v11 + (bits .xor .u32 (bits .xor .u32 r4 r5) r6))) + (bits .xor .u32 (bits .and .u32 v10 v12) (bits .and .u32 (bits .xor .u32 (4294967295) v10) v13)))) + v14)) + v15)) + (bits .xor .u32 (bits .xor .u32 r7 r8) r9))) + (bits .xor .u32 (bits .xor .u32 (bits .and .u32 v16 v17) (bits .and .u32 v16 v18)) (bits .and .u32 v17 v18))))))))), (50000, (.var false 0 (.t ((eA 1 (T.int .u32)) pt0))))]⟩ [0 = 0, (List.map (T.int .u32) (Arr.set (Arr.put a16 (over a16.l 1 7 (List.take 7 (List.drop 0 a16.l)))) 4 (w32 (v19 + (w32 ((w32 ((w32 ((w32 (v11 + (bits .xor .u32 (bits .xor .u32 r4 r5) r6))) + (bits .xor .u32 (bits .and .u32 v10 v12) (bits .and .u32 (bits .xor .u32 (4294967295) v10) v13)))) + v14)) + v15))))).l)[0]? = some (.int .u32 v20), (List.map (T.int .u32) (Arr.set (Arr.put a16 (over a16.l 1 7 (List.take 7 (List.drop 0 a16.l)))) 4 (w32 (v19 + (w32 ((w32 ((w32 ((w32 (v11 + (bits .xor .u32 (bits .xor .u32 r4 r5) r6))) + (bits .xor .u32 (bits .and .u32 v10 v12) (bits .and .u32 (bits .xor .u32 (4294967295) v10) v13)))) + v14)) + v15))))).l)[0]? = some (.int .u32 v20), (List.map (T.int .u32) (Arr.set (Arr.put a16 (over a16.l 1 7 (List.take 7 (List.drop 0 a16.l)))) 4 (w32 (v19 + (w32 ((w32 ((w32 ((w32 (v11 + (bits .xor .u32 (bits .xor .u32 r4 r5) r6))) + (bits .xor .u32 (bits .and .u32 v10 v12) (bits .and .u32 (bits .xor .u32 (4294967295) v10) v13)))) + v14)) + v15))))).l).set 0 (.int .u32 (w32 ((w32 ((w32 ((w32 ((w32 ((w32 (v11 + (bits .xor .u32 (bits .xor .u32 r4 r5) r6))) + (bits .xor .u32 (bits .and .u32 v10 v12) (bits .and .u32 (bits .xor .u32 (4294967295) v10) v13)))) + v14)) + v15)) + (bits .xor .u32 (bits .xor .u32 r7 r8) r9))) + (bits .xor .u32 (bits .xor .u32 (bits .and .u32 v16 v17) (bits .and .u32 v16 v18)) (bits .and .u32 v17 v18))))) = List.map (T.int .u32) (Arr.set (Arr.set (Arr.put a16 (over a16.l 1 7 (List.take 7 (List.drop 0 a16.l)))) 4 (w32 (v19 + (w32 ((w32 ((w32 ((w32 (v11 + (bits .xor .u32 (bits .xor .u32 r4 r5) r6))) + (bits .xor .u32 (bits .and .u32 v10 v12) (bits .and .u32 (bits .xor .u32 (4294967295) v10) v13)))) + v14)) + v15))))) 0 (w32 ((w32 ((w32 ((w32 ((w32 ((w32 (v11 + (bits .xor .u32 (bits .xor .u32 r4 r5) r6))) + (bits .xor .u32 (bits .and .u32 v10 v12) (bits .and .u32 (bits .xor .u32 (4294967295) v10) v13)))) + v14)) + v15)) + (bits .xor .u32 (bits .xor .u32 r7 r8) r9))) + (bits .xor .u32 (bits .xor .u32 (bits .and .u32 v16 v17) (bits .and .u32 v16 v18)) (bits .and .u32 v17 v18))))).l] (by kernel_rfl) ⟨(by omega), (at_map hv20), (at_map hv20), set_map, trivial⟩ ?_
          refine Blk_norm ?_
          refine Nxt_norm ?_
          refine Ab.regT hE hC hL [] { keep := [0, 4, 9, 111], ren := [(49001, 49001), (49002, 49002), (50000, 50000)] } ⟨[(0, (.ref 50000 [] (0))), (4, (.ref 49001 [] (0))), (9, (.ref 49002 [] (0))), (111, (.t (.int .i64 (wi (a17 + (1:Int))))))], [(49001, (.var false 76 (.t ((eA 1 (T.int .u32)) x1)))), (49002, (.var false 73 (.t ((eA 1 (T.int .u32)) (Arr.set (Arr.set (Arr.put a16 (over a16.l 1 7 (List.take 7 (List.drop 0 a16.l)))) 4 (w32 (v19 + (w32 ((w32 ((w32 ((w32 (v11 + (bits .xor .u32 (bits .xor .u32 r4 r5) r6))) + (bits .xor .u32 (bits .and .u32 v10 v12) (bits .and .u32 (bits .xor .u32 (4294967295) v10) v13)))) + v14)) + v15))))) 0 (w32 ((w32 ((w32 ((w32 ((w32 ((w32 (v11 + (bits .xor .u32 (bits .xor .u32 r4 r5) r6))) + (bits .xor .u32 (bits .and .u32 v10 v12) (bits .and .u32 (bits .xor .u32 (4294967295) v10) v13)))) + v14)) + v15)) + (bits .xor .u32 (bits .xor .u32 r7 r8) r9))) + (bits .xor .u32 (bits .xor .u32 (bits .and .u32 v16 v17) (bits .and .u32 v16 v18)) (bits .and .u32 v17 v18))))))))), (50000, (.var false 0 (.t ((eA 1 (T.int .u32)) pt0))))]⟩ [] (by kernel_rfl) trivial ?_
          exact LK_norm ((Arr.set (Arr.set (Arr.put a16 (over a16.l 1 7 (List.take 7 (List.drop 0 a16.l)))) 4 (w32 (v19 + (w32 ((w32 ((w32 ((w32 (v11 + (bits .xor .u32 (bits .xor .u32 r4 r5) r6))) + (bits .xor .u32 (bits .and .u32 v10 v12) (bits .and .u32 (bits .xor .u32 (4294967295) v10) v13)))) + v14)) + v15))))) 0 (w32 ((w32 ((w32 ((w32 ((w32 ((w32 (v11 + (bits .xor .u32 (bits .xor .u32 r4 r5) r6))) + (bits .xor .u32 (bits .and .u32 v10 v12) (bits .and .u32 (bits .xor .u32 (4294967295) v10) v13)))) + v14)) + v15)) + (bits .xor .u32 (bits .xor .u32 r7 r8) r9))) + (bits .xor .u32 (bits .xor .u32 (bits .and .u32 v16 v17) (bits .and .u32 v16 v18)) (bits .and .u32 v17 v18))))), (wi (a17 + (1:Int)))) { fs := [], keep := [0, 4, 9, 111], ren := [(50000, 50000), (49001, 49001), (49002, 49002)] } h (by kernel_rfl)
        · replace h := cond_f hb2 h
          refine Ab.exit ?_
          refine Nxt_exit ?_
          exact LK_exit a16 h (PX_mk { fs := [], keep := [0, 9], ren := [(50000, 50000), (49002, 49001)] } (by kernel_rfl))
      · refine Nxt_norm ?_
        refine Ab.seq ?_
        refine Ab.regT hE hC hL [] { keep := [0, 9, 193], ren := [(49001, 49001), (50000, 50000)] } ⟨[(0, (.ref 50000 [] (0))), (9, (.ref 49001 [] (0))), (193, (.t (.int .i64 (0:Int))))], [(49001, (.var false 73 (.t ((eA 1 (T.int .u32)) x2)))), (50000, (.var false 0 (.t ((eA 1 (T.int .u32)) pt0))))]⟩ [] (by kernel_rfl) trivial ?_
        refine Nxt_norm ?_
        obtain ⟨x3, hx3, h⟩ := bind_some h
        refine Ab.loopX0 (fun ((a24, a25) : ((Arr 8 Int) × Int)) => (⟨[(0, (.ref 50000 [] (0))), (9, (.ref 49001 [] (0))), (193, (.t (.int .i64 a25)))], [(50000, (.var false 0 (.t ((eA 1 (T.int .u32)) a24)))), (49001, (.var false 73 (.t ((eA 1 (T.int .u32)) x2))))]⟩ : St)) (fun (a26 : (Arr 8 Int)) => (⟨[], [(50000, (.var false 0 (.t ((eA 1 (T.int .u32)) a26))))]⟩ : St)) { fs := [], keep := [0, 9, 193], ren := [(50000, 50000), (49001, 49001)] } (pt0, (0:Int)) hC hL hx3 (by kernel_rfl) ?_ ?_
        · rintro ⟨a24, a25⟩ o3 h
          replace h : f_digest_block_b3 n x2 a24 a25 = some o3 := h
          unfold f_digest_block_b3 at h
          refine Ab.seq ?_
          refine Ab.regT hE hC hL [] { keep := [0, 9, 193, 194], ren := [(49001, 49001), (50000, 50000)] } ⟨[(0, (.ref 50000 [] (0))), (9, (.ref 49001 [] (0))), (193, (.t (.int .i64 a25))), (194, (.t (.bool (decide (a25 < (8:Int))))))], [(49001, (.var false 73 (.t ((eA 1 (T.int .u32)) x2)))), (50000, (.var false 0 (.t ((eA 1 (T.int .u32)) a24))))]⟩ [] (by kernel_rfl) trivial ?_
          refine Nxt_norm ?_
          refine Ab.seq ?_
          refine Ab.cond (b := (decide (a25 < (8:Int)))) (by kernel_rfl) (fun hb3 => ?_) (fun hb3 => ?_)
          · replace h := cond_t hb3 h
            refine Ab.skip ?_
            refine Nxt_norm ?_
            refine Ab.seq ?_
            refine Ab.block ?_
            refine Ab.seq ?_
            refine Ab.regT hE hC hL [] { keep := [0, 9, 15, 193], ren := [(49001, 49001), (50000, 50000)] } ⟨[(0, (.ref 50000 [] (0))), (9, (.ref 49001 [] (0))), (15, (.t (.int .i64 a25))), (193, (.t (.int .i64 a25)))], [(49001, (.var false 73 (.t ((eA 1 (T.int .u32)) x2)))), (50000, (.var false 0 (.t ((eA 1 (T.int .u32)) a24))))]⟩ [] (by kernel_rfl) trivial ?_
            refine Nxt_norm ?_
            obtain ⟨hq16, h⟩ := ask_dec h
            obtain ⟨v21, hv21, h⟩ := bind_some h
            obtain ⟨v22, hv22, h⟩ := bind_some h
            refine Ab.regA hE hC hL [[], [], [], [.c], [.t (.int .u32 v21)], [], [.c], [.t (.int .u32 v22)], [], [], [.c], [.t (.int .u32 v21), .l (List.map (T.int .u32) (Arr.set a24 (a25.toNat) (w32 (v21 + v22))).l)]] { keep := [0, 9, 193], ren := [(49001, 49001), (50000, 50000)] } ⟨[(0, (.ref 50000 [] (0))), (9, (.ref 49001 [] (0))), (193, (.t (.int .i64 a25)))], [(49001, (.var false 73 (.t ((eA 1 (T.int .u32)) x2)))), (50000, (.var false 0 (.t ((eA 1 (T.int .u32)) (Arr.set a24 (a25.toNat) (w32 (v21 + v22)))))))]⟩ [0 ≤ a25, a25 < ((8 : Nat) : Int), a25.toNat * 1 + 0 = 0 + a25.toNat * 1, (List.map (T.int .u32) a24.l)[a25.toNat]? = some (.int .u32 v21), 0 ≤ a25, a25 < ((8 : Nat) : Int), a25.toNat * 1 + 0 = 0 + a25.toNat * 1, (List.map (T.int .u32) x2.l)[a25.toNat]? = some (.int .u32 v22), 0 ≤ a25, a25 < ((8 : Nat) : Int), a25.toNat * 1 + 0 = 0 + a25.toNat * 1, (List.map (T.int .u32) a24.l)[a25.toNat]? = some (.int .u32 v21), (List.map (T.int .u32) a24.l)[a25.toNat]? = some (.int .u32 v21), (List.map (T.int .u32) a24.l).set a25.toNat (.int .u32 (w32 (v21 + v22))) = List.map (T.int .u32) (Arr.set a24 (a25.toNat) (w32 (v21 + v22))).l] (by kernel_rfl) (by kernel_rfl) ⟨hq16, (of_decide_eq_true hb3), (by omega), (at_map hv21), hq16, (of_decide_eq_true hb3), (by omega), (at_map hv22), hq16, (of_decide_eq_true hb3), (by omega), (at_map hv21), (at_map hv21), set_map, trivial⟩ ?_
            refine Blk_norm ?_
            refine Nxt_norm ?_
            refine Ab.regT hE hC hL [] { keep := [0, 9, 193], ren := [(49001, 49001), (50000, 50000)] } ⟨[(0, (.ref 50000 [] (0))), (9, (.ref 49001 [] (0))), (193, (.t (.int .i64 (wi (a25 + (1:Int))))))], [(49001, (.var false 73 (.t ((eA 1 (T.int .u32)) x2)))), (50000, (.var false 0 (.t ((eA 1 (T.int .u32)) (Arr.set a24 (a25.toNat) (w32 (v21 + v22)))))))]⟩ [] (by kernel_rfl) trivial ?_
            exact LK_norm ((Arr.set a24 (a25.toNat) (w32 (v21 + v22))), (wi (a25 + (1:Int)))) { fs := [], keep := [0, 9, 193], ren := [(50000, 50000), (49001, 49001)] } h (by kernel_rfl)
          · replace h := cond_f hb3 h
            refine Ab.exit ?_
            refine Nxt_exit ?_
            exact LK_exit a24 h (PX_mk { fs := [], keep := [], ren := [(50000, 50000)] } (by kernel_rfl))
        · obtain rfl := Option.some.inj h
          exact End_norm (doneO_ok (md := []) (by kernel_rfl))
def ea_digest_Of (a : (List Int)) : List T := [(eS 1 (T.int .u8)) a]
def er_digest_Of (r : (Arr 32 Int)) : List RR × List T := ([.tree ((eA 1 (T.int .u8)) r)], [])
noncomputable def sp_digest_Of (n : Nat) : Spec := specP [] true ea_digest_Of (fun a => f_digest_Of n a) (fun _ r => er_digest_Of r)
theorem ap_digest_Of (n : Nat) {ts : List T} {a0 : (List Int)} {r : (Arr 32 Int)} (hle : leTs ts [(eS 1 (T.int .u8)) a0]) (h : f_digest_Of n a0 = some r) : (sp_digest_Of n).fn ts = some ([.tree ((eA 1 (T.int .u8)) r)], []) :=
  specP_fn (a := a0) (InjA.one (inj_eS (inj_int _))) hle h
noncomputable def E_digest_Of (n : Nat) : Env := { ty := tyT, glob := glob, fns := get [(45, sp_digest_block n)], ntmps := 78 }
theorem eok_digest_Of (n : Nat) : EnvOK Tryd.prog (E_digest_Of n) := ⟨tys_ok tys_chk, prog_mixed, (fns_cons (ok_digest_block n) fns_nil)⟩
def K_digest_Of (n : Nat) (pb0 : (List Int)) (r : (Arr 32 Int)) : St → Prop := Done (E_digest_Of n) Tryd.f14.results.toList [] (ea_digest_Of pb0) (er_digest_Of r).1 (er_digest_Of r).2
set_option maxRecDepth 100000 in
set_option maxHeartbeats 4000000 in
theorem ok_digest_Of (n : Nat) : SpecOK Tryd.prog glob 14 (sp_digest_Of n) := by
  refine specP_ok (fn := Tryd.f14) (eok_digest_Of n) (by kernel_rfl) rfl (by decide +kernel) (by kernel_rfl) (fun _ => by show 1 ≤ 78; omega) (fun _ _ r => ⟨(rrf_tree ((flat_eA (fun _ => rfl)) _) rrf_nil), flats_nil⟩) ?_
  rintro pb0 r h C hL hC
  have hE := eok_digest_Of n
  replace hL : ∀ n g, (n, g) ∈ C.lent → n ∈ ([] : List Nat) := hL
  replace h : f_digest_Of n pb0 = some r := h
  show Ab _ _ _ _ _ (End (K_digest_Of n pb0 r))
  unfold f_digest_Of at h
  refine Ab.seq ?_
  refine Ab.regT hE hC hL [] { keep := [0, 2], ren := [(2, 2)] } ⟨[(0, (.t ((eS 1 (T.int .u8)) pb0))), (2, (.ref 2 [] (0)))], [(2, (.var false 25 (.t ((eA 1 (T.int .u8)) (Arr.rep 32 (0:Int))))))]⟩ [] (by kernel_rfl) trivial ?_
  refine Nxt_norm ?_
  refine Ab.seq ?_
  refine Ab.regT hE hC hL [] { keep := [0, 2, 3], ren := [(2, 2), (3, 3)] } ⟨[(0, (.t ((eS 1 (T.int .u8)) pb0))), (2, (.ref 2 [] (0))), (3, (.ref 3 [] (0)))], [(2, (.var false 25 (.t ((eA 1 (T.int .u8)) (Arr.rep 32 (0:Int)))))), (3, (.var false 73 (.t ((eA 1 (T.int .u32)) (⟨[(1779033703:Int), (3144134277:Int), (1013904242:Int), (2773480762:Int), (1359893119:Int), (2600822924:Int), (528734635:Int), (1541459225:Int)], rfl⟩ : (Arr 8 Int))))))]⟩ [] (by kernel_rfl) trivial ?_
  refine Nxt_norm ?_
  refine Ab.seq ?_
  refine Ab.regT hE hC hL [[], [.n (pb0.length : Int)]] { keep := [0, 2, 3, 4], ren := [(2, 2), (3, 3)] } ⟨[(0, (.t ((eS 1 (T.int .u8)) pb0))), (2, (.ref 2 [] (0))), (3, (.ref 3 [] (0))), (4, (.t (.int .u64 (w64 ((w64 (pb0.length : Int)) * (8:Int))))))], [(2, (.var false 25 (.t ((eA 1 (T.int .u8)) (Arr.rep 32 (0:Int)))))), (3, (.var false 73 (.t ((eA 1 (T.int .u32)) (⟨[(1779033703:Int), (3144134277:Int), (1013904242:Int), (2773480762:Int), (1359893119:Int), (2600822924:Int), (528734635:Int), (1541459225:Int)], rfl⟩ : (Arr 8 Int))))))]⟩ [((List.length (List.map (T.int .u8) pb0) : Nat) : Int) = (pb0.length : Int)] (by kernel_rfl) ⟨(len_of rfl), trivial⟩ ?_
  refine Nxt_norm ?_
  refine Ab.seq ?_
  obtain ⟨hq0, h⟩ := ask_dec h
  obtain ⟨hq1, h⟩ := ask_dec h
  refine Ab.regT hE hC hL [[], [], [.l (List.map (T.int .u8) (([] : List Int) ++ pb0))], [], [.l (List.map (T.int .u8) ((([] : List Int) ++ pb0) ++ ([(128:Int)] : List Int)))]] { keep := [0, 2, 3, 4], ren := [(2, 2), (3, 3), (18, 18)] } ⟨[(0, (.own 18)), (2, (.ref 2 [] (0))), (3, (.ref 3 [] (0))), (4, (.t (.int .u64 (w64 ((w64 (pb0.length : Int)) * (8:Int))))))], [(2, (.var false 25 (.t ((eA 1 (T.int .u8)) (Arr.rep 32 (0:Int)))))), (3, (.var false 73 (.t ((eA 1 (T.int .u32)) (⟨[(1779033703:Int), (3144134277:Int), (1013904242:Int), (2773480762:Int), (1359893119:Int), (2600822924:Int), (528734635:Int), (1541459225:Int)], rfl⟩ : (Arr 8 Int)))))), (18, (.row false 5 1 (List.map (T.int .u8) ((([] : List Int) ++ pb0) ++ ([(128:Int)] : List Int)))))]⟩ [(List.length (List.map (T.int .u8) ([] : List Int)) + List.length (List.map (T.int .u8) pb0)) * 1 ≤ maxBytes, List.length (List.map (T.int .u8) ([] : List Int)) + List.length (List.map (T.int .u8) pb0) ≤ maxBytes, (List.map (T.int .u8) ([] : List Int)) ++ (List.map (T.int .u8) pb0) = List.map (T.int .u8) (([] : List Int) ++ pb0), (List.length (List.map (T.int .u8) (([] : List Int) ++ pb0)) + List.length (List.map (T.int .u8) ([(128:Int)] : List Int))) * 1 ≤ maxBytes, List.length (List.map (T.int .u8) (([] : List Int) ++ pb0)) + List.length (List.map (T.int .u8) ([(128:Int)] : List Int)) ≤ maxBytes, (List.map (T.int .u8) (([] : List Int) ++ pb0)) ++ (List.map (T.int .u8) ([(128:Int)] : List Int)) = List.map (T.int .u8) ((([] : List Int) ++ pb0) ++ ([(128:Int)] : List Int))] (by kernel_rfl) ⟨(app_b rfl rfl hq0), (app_c rfl rfl (by decide) hq0), (app_of rfl rfl), (app_b rfl rfl hq1), (app_c rfl rfl (by decide) hq1), (app_of rfl rfl), trivial⟩ ?_
  refine Nxt_norm ?_
  obtain ⟨x0, hx0, h⟩ := bind_some h
  refine Ab.loopX (fun (a0 : (List Int)) => (⟨[(0, (.own 49000)), (2, (.ref 49001 [] (0))), (3, (.ref 49002 [] (0))), (4, (.t (.int .u64 (w64 ((w64 (pb0.length : Int)) * (8:Int))))))], [(49000, (.row false 5 1 (List.map (T.int .u8) a0))), (49001, (.var false 25 (.t ((eA 1 (T.int .u8)) (Arr.rep 32 (0:Int)))))), (49002, (.var false 73 (.t ((eA 1 (T.int .u32)) (⟨[(1779033703:Int), (3144134277:Int), (1013904242:Int), (2773480762:Int), (1359893119:Int), (2600822924:Int), (528734635:Int), (1541459225:Int)], rfl⟩ : (Arr 8 Int))))))]⟩ : St)) (fun (a1 : (List Int)) => (⟨[(0, (.own 49000)), (2, (.ref 49001 [] (0))), (3, (.ref 49002 [] (0))), (4, (.t (.int .u64 (w64 ((w64 (pb0.length : Int)) * (8:Int))))))], [(49000, (.row false 5 1 (List.map (T.int .u8) a1))), (49001, (.var false 25 (.t ((eA 1 (T.int .u8)) (Arr.rep 32 (0:Int)))))), (49002, (.var false 73 (.t ((eA 1 (T.int .u32)) (⟨[(1779033703:Int), (3144134277:Int), (1013904242:Int), (2773480762:Int), (1359893119:Int), (2600822924:Int), (528734635:Int), (1541459225:Int)], rfl⟩ : (Arr 8 Int))))))]⟩ : St)) { fs := [], keep := [0, 2, 3, 4], ren := [(18, 49000), (2, 49001), (3, 49002)] } ((([] : List Int) ++ pb0) ++ ([(128:Int)] : List Int)) hC hL hx0 (by kernel_rfl) ?_ ?_
  · rintro a0 o0 h
    replace h : f_digest_Of_b0 n  a0 = some o0 := h
    unfold f_digest_Of_b0 at h
    refine Ab.seq ?_
    refine Ab.seq ?_
    refine Ab.regT hE hC hL [[], [.n (a0.length : Int)]] { keep := [0, 2, 3, 4, 22], ren := [(49000, 49000), (49001, 49001), (49002, 49002)] } ⟨[(0, (.own 49000)), (2, (.ref 49001 [] (0))), (3, (.ref 49002 [] (0))), (4, (.t (.int .u64 (w64 ((w64 (pb0.length : Int)) * (8:Int)))))), (22, (.t (.bool (((a0.length : Int).tmod (64:Int)) != (56:Int)))))], [(49000, (.row false 5 1 (List.map (T.int .u8) a0))), (49001, (.var false 25 (.t ((eA 1 (T.int .u8)) (Arr.rep 32 (0:Int)))))), (49002, (.var false 73 (.t ((eA 1 (T.int .u32)) (⟨[(1779033703:Int), (3144134277:Int), (1013904242:Int), (2773480762:Int), (1359893119:Int), (2600822924:Int), (528734635:Int), (1541459225:Int)], rfl⟩ : (Arr 8 Int))))))]⟩ [((List.length (List.map (T.int .u8) a0) : Nat) : Int) = (a0.length : Int)] (by kernel_rfl) ⟨(len_of rfl), trivial⟩ ?_
    refine Nxt_norm ?_
    refine Ab.cond (b := (((a0.length : Int).tmod (64:Int)) != (56:Int))) (by kernel_rfl) (fun hb0 => ?_) (fun hb0 => ?_)
    · replace h := cond_t hb0 h
      refine Ab.skip ?_
      refine Nxt_norm ?_
      refine Ab.block ?_
      obtain ⟨hq2, h⟩ := ask_dec h
      refine Ab.regT hE hC hL [[], [], [.l (List.map (T.int .u8) (a0 ++ ([(0:Int)] : List Int)))]] { keep := [0, 2, 3, 4], ren := [(25, 25), (49001, 49001), (49002, 49002)] } ⟨[(0, (.own 25)), (2, (.ref 49001 [] (0))), (3, (.ref 49002 [] (0))), (4, (.t (.int .u64 (w64 ((w64 (pb0.length : Int)) * (8:Int))))))], [(25, (.row false 5 1 (List.map (T.int .u8) (a0 ++ ([(0:Int)] : List Int))))), (49001, (.var false 25 (.t ((eA 1 (T.int .u8)) (Arr.rep 32 (0:Int)))))), (49002, (.var false 73 (.t ((eA 1 (T.int .u32)) (⟨[(1779033703:Int), (3144134277:Int), (1013904242:Int), (2773480762:Int), (1359893119:Int), (2600822924:Int), (528734635:Int), (1541459225:Int)], rfl⟩ : (Arr 8 Int))))))]⟩ [(List.length (List.map (T.int .u8) a0) + List.length (List.map (T.int .u8) ([(0:Int)] : List Int))) * 1 ≤ maxBytes, List.length (List.map (T.int .u8) a0) + List.length (List.map (T.int .u8) ([(0:Int)] : List Int)) ≤ maxBytes, (List.map (T.int .u8) a0) ++ (List.map (T.int .u8) ([(0:Int)] : List Int)) = List.map (T.int .u8) (a0 ++ ([(0:Int)] : List Int))] (by kernel_rfl) ⟨(app_b rfl rfl hq2), (app_c rfl rfl (by decide) hq2), (app_of rfl rfl), trivial⟩ ?_
      refine Blk_norm ?_
      exact LK_norm (a0 ++ ([(0:Int)] : List Int)) { fs := [], keep := [0, 2, 3, 4], ren := [(25, 49000), (49001, 49001), (49002, 49002)] } h (by kernel_rfl)
    · replace h := cond_f hb0 h
      refine Ab.exit ?_
      refine Nxt_exit ?_
      exact LK_exit a0 h (PX_mk { fs := [], keep := [0, 2, 3, 4], ren := [(49000, 49000), (49001, 49001), (49002, 49002)] } (by kernel_rfl))
  · refine Ab.seq ?_
    refine Ab.seq ?_
    refine Ab.regT hE hC hL [] { keep := [0, 2, 3, 4, 5], ren := [(49000, 49000), (49001, 49001), (49002, 49002)] } ⟨[(0, (.own 49000)), (2, (.ref 49001 [] (0))), (3, (.ref 49002 [] (0))), (4, (.t (.int .u64 (w64 ((w64 (pb0.length : Int)) * (8:Int)))))), (5, (.t (.int .i64 (56:Int))))], [(49000, (.row false 5 1 (List.map (T.int .u8) x0))), (49001, (.var false 25 (.t ((eA 1 (T.int .u8)) (Arr.rep 32 (0:Int)))))), (49002, (.var false 73 (.t ((eA 1 (T.int .u32)) (⟨[(1779033703:Int), (3144134277:Int), (1013904242:Int), (2773480762:Int), (1359893119:Int), (2600822924:Int), (528734635:Int), (1541459225:Int)], rfl⟩ : (Arr 8 Int))))))]⟩ [] (by kernel_rfl) trivial ?_
    refine Nxt_norm ?_
    obtain ⟨x1, hx1, h⟩ := bind_some h
    refine Ab.loopX0 (fun ((a5, a6) : ((List Int) × Int)) => (⟨[(0, (.own 49000)), (2, (.ref 49001 [] (0))), (3, (.ref 49002 [] (0))), (4, (.t (.int .u64 (w64 ((w64 (pb0.length : Int)) * (8:Int)))))), (5, (.t (.int .i64 a6)))], [(49000, (.row false 5 1 (List.map (T.int .u8) a5))), (49001, (.var false 25 (.t ((eA 1 (T.int .u8)) (Arr.rep 32 (0:Int)))))), (49002, (.var false 73 (.t ((eA 1 (T.int .u32)) (⟨[(1779033703:Int), (3144134277:Int), (1013904242:Int), (2773480762:Int), (1359893119:Int), (2600822924:Int), (528734635:Int), (1541459225:Int)], rfl⟩ : (Arr 8 Int))))))]⟩ : St)) (fun (a7 : (List Int)) => (⟨[(0, (.own 49000)), (2, (.ref 49001 [] (0))), (3, (.ref 49002 [] (0)))], [(49000, (.row false 5 1 (List.map (T.int .u8) a7))), (49001, (.var false 25 (.t ((eA 1 (T.int .u8)) (Arr.rep 32 (0:Int)))))), (49002, (.var false 73 (.t ((eA 1 (T.int .u32)) (⟨[(1779033703:Int), (3144134277:Int), (1013904242:Int), (2773480762:Int), (1359893119:Int), (2600822924:Int), (528734635:Int), (1541459225:Int)], rfl⟩ : (Arr 8 Int))))))]⟩ : St)) { fs := [], keep := [0, 2, 3, 4, 5], ren := [(49000, 49000), (49001, 49001), (49002, 49002)] } (x0, (56:Int)) hC hL hx1 (by kernel_rfl) ?_ ?_
    · rintro ⟨a5, a6⟩ o1 h
      replace h : f_digest_Of_b1 n pb0 a5 a6 = some o1 := h
      unfold f_digest_Of_b1 at h
      refine Ab.seq ?_
      refine Ab.seq ?_
      refine Ab.regT hE hC hL [] { keep := [0, 2, 3, 4, 5, 27], ren := [(49000, 49000), (49001, 49001), (49002, 49002)] } ⟨[(0, (.own 49000)), (2, (.ref 49001 [] (0))), (3, (.ref 49002 [] (0))), (4, (.t (.int .u64 (w64 ((w64 (pb0.length : Int)) * (8:Int)))))), (5, (.t (.int .i64 a6))), (27, (.t (.bool (decide (a6 ≥ (0:Int))))))], [(49000, (.row false 5 1 (List.map (T.int .u8) a5))), (49001, (.var false 25 (.t ((eA 1 (T.int .u8)) (Arr.rep 32 (0:Int)))))), (49002, (.var false 73 (.t ((eA 1 (T.int .u32)) (⟨[(1779033703:Int), (3144134277:Int), (1013904242:Int), (2773480762:Int), (1359893119:Int), (2600822924:Int), (528734635:Int), (1541459225:Int)], rfl⟩ : (Arr 8 Int))))))]⟩ [] (by kernel_rfl) trivial ?_
      refine Nxt_norm ?_
      refine Ab.cond (b := (decide (a6 ≥ (0:Int)))) (by kernel_rfl) (fun hb1 => ?_) (fun hb1 => ?_)
      · replace h := cond_t hb1 h
        refine Ab.skip ?_
        refine Nxt_norm ?_
        refine Ab.seq ?_
        refine Ab.block ?_
        obtain ⟨hq3, h⟩ := ask_dec h
        obtain ⟨hq4, h⟩ := ask_dec h
        refine Ab.regT hE hC hL [[], [], [], [.c], [], [], [.l (List.map (T.int .u8) (a5 ++ ([(w8 (shr .u64 (w64 ((w64 (pb0.length : Int)) * (8:Int))) a6))] : List Int)))]] { keep := [0, 2, 3, 4, 5], ren := [(36, 36), (49001, 49001), (49002, 49002)] } ⟨[(0, (.own 36)), (2, (.ref 49001 [] (0))), (3, (.ref 49002 [] (0))), (4, (.t (.int .u64 (w64 ((w64 (pb0.length : Int)) * (8:Int)))))), (5, (.t (.int .i64 a6)))], [(36, (.row false 5 1 (List.map (T.int .u8) (a5 ++ ([(w8 (shr .u64 (w64 ((w64 (pb0.length : Int)) * (8:Int))) a6))] : List Int))))), (49001, (.var false 25 (.t ((eA 1 (T.int .u8)) (Arr.rep 32 (0:Int)))))), (49002, (.var false 73 (.t ((eA 1 (T.int .u32)) (⟨[(1779033703:Int), (3144134277:Int), (1013904242:Int), (2773480762:Int), (1359893119:Int), (2600822924:Int), (528734635:Int), (1541459225:Int)], rfl⟩ : (Arr 8 Int))))))]⟩ [¬ a6 < 0, (List.length (List.map (T.int .u8) a5) + List.length (List.map (T.int .u8) ([(w8 (shr .u64 (w64 ((w64 (pb0.length : Int)) * (8:Int))) a6))] : List Int))) * 1 ≤ maxBytes, List.length (List.map (T.int .u8) a5) + List.length (List.map (T.int .u8) ([(w8 (shr .u64 (w64 ((w64 (pb0.length : Int)) * (8:Int))) a6))] : List Int)) ≤ maxBytes, (List.map (T.int .u8) a5) ++ (List.map (T.int .u8) ([(w8 (shr .u64 (w64 ((w64 (pb0.length : Int)) * (8:Int))) a6))] : List Int)) = List.map (T.int .u8) (a5 ++ ([(w8 (shr .u64 (w64 ((w64 (pb0.length : Int)) * (8:Int))) a6))] : List Int))] (by kernel_rfl) ⟨(Int.not_lt.2 hq3), (app_b rfl rfl hq4), (app_c rfl rfl (by decide) hq4), (app_of rfl rfl), trivial⟩ ?_
        refine Blk_norm ?_
        refine Nxt_norm ?_
        refine Ab.regT hE hC hL [] { keep := [0, 2, 3, 4, 5], ren := [(36, 36), (49001, 49001), (49002, 49002)] } ⟨[(0, (.own 36)), (2, (.ref 49001 [] (0))), (3, (.ref 49002 [] (0))), (4, (.t (.int .u64 (w64 ((w64 (pb0.length : Int)) * (8:Int)))))), (5, (.t (.int .i64 (wi (a6 - (8:Int))))))], [(36, (.row false 5 1 (List.map (T.int .u8) (a5 ++ ([(w8 (shr .u64 (w64 ((w64 (pb0.length : Int)) * (8:Int))) a6))] : List Int))))), (49001, (.var false 25 (.t ((eA 1 (T.int .u8)) (Arr.rep 32 (0:Int)))))), (49002, (.var false 73 (.t ((eA 1 (T.int .u32)) (⟨[(1779033703:Int), (3144134277:Int), (1013904242:Int), (2773480762:Int), (1359893119:Int), (2600822924:Int), (528734635:Int), (1541459225:Int)], rfl⟩ : (Arr 8 Int))))))]⟩ [] (by kernel_rfl) trivial ?_
        exact LK_norm ((a5 ++ ([(w8 (shr .u64 (w64 ((w64 (pb0.length : Int)) * (8:Int))) a6))] : List Int)), (wi (a6 - (8:Int)))) { fs := [], keep := [0, 2, 3, 4, 5], ren := [(36, 49000), (49001, 49001), (49002, 49002)] } h (by kernel_rfl)
      · replace h := cond_f hb1 h
        refine Ab.exit ?_
        refine Nxt_exit ?_
        exact LK_exit a5 h (PX_mk { fs := [], keep := [0, 2, 3], ren := [(49000, 49000), (49001, 49001), (49002, 49002)] } (by kernel_rfl))
    · refine Nxt_norm ?_
      obtain ⟨x2, hx2, h⟩ := bind_some h
      refine Ab.loopX (fun ((a13, a14) : ((List Int) × (Arr 8 Int))) => (⟨[(0, (.t ((eS 1 (T.int .u8)) a13))), (2, (.ref 49000 [] (0))), (3, (.ref 49001 [] (0)))], [(49000, (.var false 25 (.t ((eA 1 (T.int .u8)) (Arr.rep 32 (0:Int)))))), (49001, (.var false 73 (.t ((eA 1 (T.int .u32)) a14))))]⟩ : St)) (fun (a15 : (Arr 8 Int)) => (⟨[(2, (.ref 49000 [] (0))), (3, (.ref 49001 [] (0)))], [(49000, (.var false 25 (.t ((eA 1 (T.int .u8)) (Arr.rep 32 (0:Int)))))), (49001, (.var false 73 (.t ((eA 1 (T.int .u32)) a15))))]⟩ : St)) { fs := [⟨(.t 0), [], .tree⟩], keep := [0, 2, 3], ren := [(49001, 49000), (49002, 49001)] } (x1, (⟨[(1779033703:Int), (3144134277:Int), (1013904242:Int), (2773480762:Int), (1359893119:Int), (2600822924:Int), (528734635:Int), (1541459225:Int)], rfl⟩ : (Arr 8 Int))) hC hL hx2 (by kernel_rfl) ?_ ?_
      · rintro ⟨a13, a14⟩ o2 h
        replace h : f_digest_Of_b2 n  a13 a14 = some o2 := h
        unfold f_digest_Of_b2 at h
        refine Ab.seq ?_
        refine Ab.seq ?_
        refine Ab.regT hE hC hL [[], [.n (a13.length : Int)]] { keep := [0, 2, 3, 39], ren := [(49000, 49000), (49001, 49001)] } ⟨[(0, (.t ((eS 1 (T.int .u8)) a13))), (2, (.ref 49000 [] (0))), (3, (.ref 49001 [] (0))), (39, (.t (.bool (decide ((a13.length : Int) > (0:Int))))))], [(49000, (.var false 25 (.t ((eA 1 (T.int .u8)) (Arr.rep 32 (0:Int)))))), (49001, (.var false 73 (.t ((eA 1 (T.int .u32)) a14))))]⟩ [((List.length (List.map (T.int .u8) a13) : Nat) : Int) = (a13.length : Int)] (by kernel_rfl) ⟨(len_of rfl), trivial⟩ ?_
        refine Nxt_norm ?_
        refine Ab.cond (b := (decide ((a13.length : Int) > (0:Int)))) (by kernel_rfl) (fun hb2 => ?_) (fun hb2 => ?_)
        · replace h := cond_t hb2 h
          refine Ab.skip ?_
          refine Nxt_norm ?_
          refine Ab.seq ?_
          refine Ab.block ?_
          obtain ⟨hq5, h⟩ := ask_dec h
          obtain ⟨r0, hr0, h⟩ := bind_some h
          refine Ab.regT hE hC hL [[], [.l (List.map (T.int .u8) (List.take 64 a13))], [.r [] [((eA 1 (T.int .u32)) r0)]]] { keep := [0, 2, 3], ren := [(49000, 49000), (49001, 49001)] } ⟨[(0, (.t ((eS 1 (T.int .u8)) a13))), (2, (.ref 49000 [] (0))), (3, (.ref 49001 [] (0)))], [(49000, (.var false 25 (.t ((eA 1 (T.int .u8)) (Arr.rep 32 (0:Int)))))), (49001, (.var false 73 (.t ((eA 1 (T.int .u32)) r0))))]⟩ [List.take 64 (List.drop 0 (List.map (T.int .u8) a13)) = List.map (T.int .u8) (List.take 64 a13), 0 ≤ (64:Int), (64:Int) ≤ ((List.length (List.map (T.int .u8) a13) : Nat) : Int), (sp_digest_block n).fn [((eA 1 (T.int .u32)) a14), ((eS 1 (T.int .u8)) (List.take 64 a13))] = some ([], [((eA 1 (T.int .u32)) r0)])] (by kernel_rfl) ⟨(win_pre rfl _), (by decide), (le_len rfl hq5), (ap_digest_block n (by exact ⟨leT.refl _, leT.refl _, trivial⟩) hr0), trivial⟩ ?_
          refine Blk_norm ?_
          refine Nxt_norm ?_
          refine Ab.regT hE hC hL [[], [.l (List.map (T.int .u8) (List.drop 64 a13))]] { keep := [0, 2, 3], ren := [(49000, 49000), (49001, 49001)] } ⟨[(0, (.t ((eS 1 (T.int .u8)) (List.drop 64 a13)))), (2, (.ref 49000 [] (0))), (3, (.ref 49001 [] (0)))], [(49000, (.var false 25 (.t ((eA 1 (T.int .u8)) (Arr.rep 32 (0:Int)))))), (49001, (.var false 73 (.t ((eA 1 (T.int .u32)) r0))))]⟩ [List.take (List.length (List.map (T.int .u8) a13) - 64) (List.drop 64 (List.map (T.int .u8) a13)) = List.map (T.int .u8) (List.drop 64 a13), 0 ≤ (64:Int), (64:Int) ≤ ((List.length (List.map (T.int .u8) a13) : Nat) : Int)] (by kernel_rfl) ⟨(win_suf rfl _), (by decide), (le_len rfl hq5), trivial⟩ ?_
          exact LK_norm ((List.drop 64 a13), r0) { fs := [], keep := [0, 2, 3], ren := [(49000, 49000), (49001, 49001)] } h (by kernel_rfl)
        · replace h := cond_f hb2 h
          refine Ab.exit ?_
          refine Nxt_exit ?_
          exact LK_exit a14 h (PX_mk { fs := [], keep := [2, 3], ren := [(49000, 49000), (49001, 49001)] } (by kernel_rfl))
      · refine Ab.seq ?_
        refine Ab.regT hE hC hL [] { keep := [2, 3, 6], ren := [(6, 6), (49000, 49000), (49001, 49001)] } ⟨[(2, (.ref 49000 [] (0))), (3, (.ref 49001 [] (0))), (6, (.ref 6 [] (0)))], [(6, (.var false 25 (.t ((eA 1 (T.int .u8)) (Arr.rep 32 (0:Int)))))), (49000, (.var false 25 (.t ((eA 1 (T.int .u8)) (Arr.rep 32 (0:Int)))))), (49001, (.var false 73 (.t ((eA 1 (T.int .u32)) x2))))]⟩ [] (by kernel_rfl) trivial ?_
        refine Nxt_norm ?_
        refine Ab.seq ?_
        refine Ab.seq ?_
        refine Ab.regT hE hC hL [] { keep := [2, 6, 45, 46], ren := [(6, 6), (49000, 49000)] } ⟨[(2, (.ref 49000 [] (0))), (6, (.ref 6 [] (0))), (45, (.t ((eA 1 (T.int .u32)) x2))), (46, (.t (.int .i64 (0:Int))))], [(6, (.var false 25 (.t ((eA 1 (T.int .u8)) (Arr.rep 32 (0:Int)))))), (49000, (.var false 25 (.t ((eA 1 (T.int .u8)) (Arr.rep 32 (0:Int))))))]⟩ [] (by kernel_rfl) trivial ?_
        refine Nxt_norm ?_
        obtain ⟨x3, hx3, h⟩ := bind_some h
        refine Ab.loopX0 (fun ((a21, a22) : ((Arr 32 Int) × Int)) => (⟨[(2, (.ref 49000 [] (0))), (6, (.ref 49001 [] (0))), (45, (.t ((eA 1 (T.int .u32)) x2))), (46, (.t (.int .i64 a22)))], [(49000, (.var false 25 (.t ((eA 1 (T.int .u8)) (Arr.rep 32 (0:Int)))))), (49001, (.var false 25 (.t ((eA 1 (T.int .u8)) a21))))]⟩ : St)) (fun (a23 : (Arr 32 Int)) => (⟨[(2, (.ref 49000 [] (0))), (6, (.ref 49001 [] (0)))], [(49000, (.var false 25 (.t ((eA 1 (T.int .u8)) (Arr.rep 32 (0:Int)))))), (49001, (.var false 25 (.t ((eA 1 (T.int .u8)) a23))))]⟩ : St)) { fs := [], keep := [2, 6, 45, 46], ren := [(49000, 49000), (6, 49001)] } ((Arr.rep 32 (0:Int)), (0:Int)) hC hL hx3 (by kernel_rfl) ?_ ?_
        · rintro ⟨a21, a22⟩ o3 h
          replace h : f_digest_Of_b3 n x2 a21 a22 = some o3 := h
          unfold f_digest_Of_b3 at h
          refine Ab.seq ?_
          refine Ab.regT hE hC hL [] { keep := [2, 6, 45, 46, 47], ren := [(49000, 49000), (49001, 49001)] } ⟨[(2, (.ref 49000 [] (0))), (6, (.ref 49001 [] (0))), (45, (.t ((eA 1 (T.int .u32)) x2))), (46, (.t (.int .i64 a22))), (47, (.t (.bool (decide (a22 < (8:Int))))))], [(49000, (.var false 25 (.t ((eA 1 (T.int .u8)) (Arr.rep 32 (0:Int)))))), (49001, (.var false 25 (.t ((eA 1 (T.int .u8)) a21))))]⟩ [] (by kernel_rfl) trivial ?_
          refine Nxt_norm ?_
          refine Ab.seq ?_
          refine Ab.cond (b := (decide (a22 < (8:Int)))) (by kernel_rfl) (fun hb3 => ?_) (fun hb3 => ?_)
          · replace h := cond_t hb3 h
            refine Ab.skip ?_
            refine Nxt_norm ?_
            refine Ab.seq ?_
            refine Ab.block ?_
            refine Ab.seq ?_
            obtain ⟨hq6, h⟩ := ask_dec h
            obtain ⟨v0, hv0, h⟩ := bind_some h
            refine Ab.regT hE hC hL [[], [.t (.int .u32 v0)]] { keep := [2, 6, 7, 8, 45, 46], ren := [(49000, 49000), (49001, 49001)] } ⟨[(2, (.ref 49000 [] (0))), (6, (.ref 49001 [] (0))), (7, (.t (.int .i64 a22))), (8, (.t (.int .u32 v0))), (45, (.t ((eA 1 (T.int .u32)) x2))), (46, (.t (.int .i64 a22)))], [(49000, (.var false 25 (.t ((eA 1 (T.int .u8)) (Arr.rep 32 (0:Int)))))), (49001, (.var false 25 (.t ((eA 1 (T.int .u8)) a21))))]⟩ [0 ≤ a22, a22 < ((8 : Nat) : Int), (List.map (T.int .u32) x2.l)[a22.toNat]? = some (.int .u32 v0)] (by kernel_rfl) ⟨hq6, (of_decide_eq_true hb3), (at_map hv0), trivial⟩ ?_
            refine Nxt_norm ?_
            obtain ⟨hq7, h⟩ := ask_dec h
            obtain ⟨hq8, h⟩ := ask_dec h
            obtain ⟨v1, hv1, h⟩ := bind_some h
            obtain ⟨hq9, h⟩ := ask_dec h
            obtain ⟨hq10, h⟩ := ask_dec h
            obtain ⟨v2, hv2, h⟩ := bind_some h
            obtain ⟨hq11, h⟩ := ask_dec h
            obtain ⟨hq12, h⟩ := ask_dec h
            obtain ⟨v3, hv3, h⟩ := bind_some h
            obtain ⟨hq13, h⟩ := ask_dec h
            obtain ⟨hq14, h⟩ := ask_dec h
            obtain ⟨v4, hv4, h⟩ := bind_some h
            refine Ab.regT hE hC hL [[], [], [], [], [], [], [], [], [], [], [], [], [], [], [], [], [], [], [], [], [], [], [.c], [.t (.int .u8 v1), .l (List.map (T.int .u8) (Arr.set a21 ((wi ((4:Int) * a22)).toNat) (w8 (shr .u32 v0 (24:Int)))).l)], [.c], [.t (.int .u8 v2), .l (List.map (T.int .u8) (Arr.set (Arr.set a21 ((wi ((4:Int) * a22)).toNat) (w8 (shr .u32 v0 (24:Int)))) ((wi ((wi ((4:Int) * a22)) + (1:Int))).toNat) (w8 (shr .u32 v0 (16:Int)))).l)], [.c], [.t (.int .u8 v3), .l (List.map (T.int .u8) (Arr.set (Arr.set (Arr.set a21 ((wi ((4:Int) * a22)).toNat) (w8 (shr .u32 v0 (24:Int)))) ((wi ((wi ((4:Int) * a22)) + (1:Int))).toNat) (w8 (shr .u32 v0 (16:Int)))) ((wi ((wi ((4:Int) * a22)) + (2:Int))).toNat) (w8 (shr .u32 v0 (8:Int)))).l)], [.c], [.t (.int .u8 v4), .l (List.map (T.int .u8) (Arr.set (Arr.set (Arr.set (Arr.set a21 ((wi ((4:Int) * a22)).toNat) (w8 (shr .u32 v0 (24:Int)))) ((wi ((wi ((4:Int) * a22)) + (1:Int))).toNat) (w8 (shr .u32 v0 (16:Int)))) ((wi ((wi ((4:Int) * a22)) + (2:Int))).toNat) (w8 (shr .u32 v0 (8:Int)))) ((wi ((wi ((4:Int) * a22)) + (3:Int))).toNat) (w8 v0)).l)]] { keep := [2, 6, 45, 46], ren := [(49000, 49000), (49001, 49001)] } ⟨[(2, (.ref 49000 [] (0))), (6, (.ref 49001 [] (0))), (45, (.t ((eA 1 (T.int .u32)) x2))), (46, (.t (.int .i64 a22)))], [(49000, (.var false 25 (.t ((eA 1 (T.int .u8)) (Arr.rep 32 (0:Int)))))), (49001, (.var false 25 (.t ((eA 1 (T.int .u8)) (Arr.set (Arr.set (Arr.set (Arr.set a21 ((wi ((4:Int) * a22)).toNat) (w8 (shr .u32 v0 (24:Int)))) ((wi ((wi ((4:Int) * a22)) + (1:Int))).toNat) (w8 (shr .u32 v0 (16:Int)))) ((wi ((wi ((4:Int) * a22)) + (2:Int))).toNat) (w8 (shr .u32 v0 (8:Int)))) ((wi ((wi ((4:Int) * a22)) + (3:Int))).toNat) (w8 v0))))))]⟩ [0 ≤ (wi ((4:Int) * a22)), (wi ((4:Int) * a22)) < ((32 : Nat) : Int), (wi ((4:Int) * a22)).toNat * 1 + 0 = 0 + (wi ((4:Int) * a22)).toNat * 1, (List.map (T.int .u8) a21.l)[(wi ((4:Int) * a22)).toNat]? = some (.int .u8 v1), (List.map (T.int .u8) a21.l)[(wi ((4:Int) * a22)).toNat]? = some (.int .u8 v1), (List.map (T.int .u8) a21.l).set ((wi ((4:Int) * a22)).toNat) (.int .u8 (w8 (shr .u32 v0 (24:Int)))) = List.map (T.int .u8) (Arr.set a21 ((wi ((4:Int) * a22)).toNat) (w8 (shr .u32 v0 (24:Int)))).l, 0 ≤ (wi ((wi ((4:Int) * a22)) + (1:Int))), (wi ((wi ((4:Int) * a22)) + (1:Int))) < ((32 : Nat) : Int), (wi ((wi ((4:Int) * a22)) + (1:Int))).toNat * 1 + 0 = 0 + ((wi ((wi ((4:Int) * a22)) + (1:Int))).toNat * 1), (List.map (T.int .u8) (Arr.set a21 ((wi ((4:Int) * a22)).toNat) (w8 (shr .u32 v0 (24:Int)))).l)[(wi ((wi ((4:Int) * a22)) + (1:Int))).toNat]? = some (.int .u8 v2), (List.map (T.int .u8) (Arr.set a21 ((wi ((4:Int) * a22)).toNat) (w8 (shr .u32 v0 (24:Int)))).l)[(wi ((wi ((4:Int) * a22)) + (1:Int))).toNat]? = some (.int .u8 v2), (List.map (T.int .u8) (Arr.set a21 ((wi ((4:Int) * a22)).toNat) (w8 (shr .u32 v0 (24:Int)))).l).set ((wi ((wi ((4:Int) * a22)) + (1:Int))).toNat) (.int .u8 (w8 (shr .u32 v0 (16:Int)))) = List.map (T.int .u8) (Arr.set (Arr.set a21 ((wi ((4:Int) * a22)).toNat) (w8 (shr .u32 v0 (24:Int)))) ((wi ((wi ((4:Int) * a22)) + (1:Int))).toNat) (w8 (shr .u32 v0 (16:Int)))).l, 0 ≤ (wi ((wi ((4:Int) * a22)) + (2:Int))), (wi ((wi ((4:Int) * a22)) + (2:Int))) < ((32 : Nat) : Int), (wi ((wi ((4:Int) * a22)) + (2:Int))).toNat * 1 + 0 = 0 + ((wi ((wi ((4:Int) * a22)) + (2:Int))).toNat * 1), (List.map (T.int .u8) (Arr.set (Arr.set a21 ((wi ((4:Int) * a22)).toNat) (w8 (shr .u32 v0 (24:Int)))) ((wi ((wi ((4:Int) * a22)) + (1:Int))).toNat) (w8 (shr .u32 v0 (16:Int)))).l)[(wi ((wi ((4:Int) * a22)) + (2:Int))).toNat]? = some (.int .u8 v3), (List.map (T.int .u8) (Arr.set (Arr.set a21 ((wi ((4:Int) * a22)).toNat) (w8 (shr .u32 v0 (24:Int)))) ((wi ((wi ((4:Int) * a22)) + (1:Int))).toNat) (w8 (shr .u32 v0 (16:Int)))).l)[(wi ((wi ((4:Int) * a22)) + (2:Int))).toNat]? = some (.int .u8 v3), (List.map (T.int .u8) (Arr.set (Arr.set a21 ((wi ((4:Int) * a22)).toNat) (w8 (shr .u32 v0 (24:Int)))) ((wi ((wi ((4:Int) * a22)) + (1:Int))).toNat) (w8 (shr .u32 v0 (16:Int)))).l).set ((wi ((wi ((4:Int) * a22)) + (2:Int))).toNat) (.int .u8 (w8 (shr .u32 v0 (8:Int)))) = List.map (T.int .u8) (Arr.set (Arr.set (Arr.set a21 ((wi ((4:Int) * a22)).toNat) (w8 (shr .u32 v0 (24:Int)))) ((wi ((wi ((4:Int) * a22)) + (1:Int))).toNat) (w8 (shr .u32 v0 (16:Int)))) ((wi ((wi ((4:Int) * a22)) + (2:Int))).toNat) (w8 (shr .u32 v0 (8:Int)))).l, 0 ≤ (wi ((wi ((4:Int) * a22)) + (3:Int))), (wi ((wi ((4:Int) * a22)) + (3:Int))) < ((32 : Nat) : Int), (wi ((wi ((4:Int) * a22)) + (3:Int))).toNat * 1 + 0 = 0 + ((wi ((wi ((4:Int) * a22)) + (3:Int))).toNat * 1), (List.map (T.int .u8) (Arr.set (Arr.set (Arr.set a21 ((wi ((4:Int) * a22)).toNat) (w8 (shr .u32 v0 (24:Int)))) ((wi ((wi ((4:Int) * a22)) + (1:Int))).toNat) (w8 (shr .u32 v0 (16:Int)))) ((wi ((wi ((4:Int) * a22)) + (2:Int))).toNat) (w8 (shr .u32 v0 (8:Int)))).l)[(wi ((wi ((4:Int) * a22)) + (3:Int))).toNat]? = some (.int .u8 v4), (List.map (T.int .u8) (Arr.set (Arr.set (Arr.set a21 ((wi ((4:Int) * a22)).toNat) (w8 (shr .u32 v0 (24:Int)))) ((wi ((wi ((4:Int) * a22)) + (1:Int))).toNat) (w8 (shr .u32 v0 (16:Int)))) ((wi ((wi ((4:Int) * a22)) + (2:Int))).toNat) (w8 (shr .u32 v0 (8:Int)))).l)[(wi ((wi ((4:Int) * a22)) + (3:Int))).toNat]? = some (.int .u8 v4), (List.map (T.int .u8) (Arr.set (Arr.set (Arr.set a21 ((wi ((4:Int) * a22)).toNat) (w8 (shr .u32 v0 (24:Int)))) ((wi ((wi ((4:Int) * a22)) + (1:Int))).toNat) (w8 (shr .u32 v0 (16:Int)))) ((wi ((wi ((4:Int) * a22)) + (2:Int))).toNat) (w8 (shr .u32 v0 (8:Int)))).l).set ((wi ((wi ((4:Int) * a22)) + (3:Int))).toNat) (.int .u8 (w8 v0)) = List.map (T.int .u8) (Arr.set (Arr.set (Arr.set (Arr.set a21 ((wi ((4:Int) * a22)).toNat) (w8 (shr .u32 v0 (24:Int)))) ((wi ((wi ((4:Int) * a22)) + (1:Int))).toNat) (w8 (shr .u32 v0 (16:Int)))) ((wi ((wi ((4:Int) * a22)) + (2:Int))).toNat) (w8 (shr .u32 v0 (8:Int)))) ((wi ((wi ((4:Int) * a22)) + (3:Int))).toNat) (w8 v0)).l] (by kernel_rfl) ⟨hq7, hq8, (by omega), (at_map hv1), (at_map hv1), set_map, hq9, hq10, (by omega), (at_map hv2), (at_map hv2), set_map, hq11, hq12, (by omega), (at_map hv3), (at_map hv3), set_map, hq13, hq14, (by omega), (at_map hv4), (at_map hv4), set_map, trivial⟩ ?_
            refine Blk_norm ?_
            refine Nxt_norm ?_
            refine Ab.regT hE hC hL [] { keep := [2, 6, 45, 46], ren := [(49000, 49000), (49001, 49001)] } ⟨[(2, (.ref 49000 [] (0))), (6, (.ref 49001 [] (0))), (45, (.t ((eA 1 (T.int .u32)) x2))), (46, (.t (.int .i64 (wi (a22 + (1:Int))))))], [(49000, (.var false 25 (.t ((eA 1 (T.int .u8)) (Arr.rep 32 (0:Int)))))), (49001, (.var false 25 (.t ((eA 1 (T.int .u8)) (Arr.set (Arr.set (Arr.set (Arr.set a21 ((wi ((4:Int) * a22)).toNat) (w8 (shr .u32 v0 (24:Int)))) ((wi ((wi ((4:Int) * a22)) + (1:Int))).toNat) (w8 (shr .u32 v0 (16:Int)))) ((wi ((wi ((4:Int) * a22)) + (2:Int))).toNat) (w8 (shr .u32 v0 (8:Int)))) ((wi ((wi ((4:Int) * a22)) + (3:Int))).toNat) (w8 v0))))))]⟩ [] (by kernel_rfl) trivial ?_
            exact LK_norm ((Arr.set (Arr.set (Arr.set (Arr.set a21 ((wi ((4:Int) * a22)).toNat) (w8 (shr .u32 v0 (24:Int)))) ((wi ((wi ((4:Int) * a22)) + (1:Int))).toNat) (w8 (shr .u32 v0 (16:Int)))) ((wi ((wi ((4:Int) * a22)) + (2:Int))).toNat) (w8 (shr .u32 v0 (8:Int)))) ((wi ((wi ((4:Int) * a22)) + (3:Int))).toNat) (w8 v0)), (wi (a22 + (1:Int)))) { fs := [], keep := [2, 6, 45, 46], ren := [(49000, 49000), (49001, 49001)] } h (by kernel_rfl)
          · replace h := cond_f hb3 h
            refine Ab.exit ?_
            refine Nxt_exit ?_
            exact LK_exit a21 h (PX_mk { fs := [], keep := [2, 6], ren := [(49000, 49000), (49001, 49001)] } (by kernel_rfl))
        · refine Nxt_norm ?_
          refine Ab.seq ?_
          refine Ab.regT hE hC hL [] { keep := [2], ren := [(49000, 49000)] } ⟨[(2, (.ref 49000 [] (0)))], [(49000, (.var false 25 (.t ((eA 1 (T.int .u8)) x3))))]⟩ [] (by kernel_rfl) trivial ?_
          refine Nxt_norm ?_
          refine Ab.ret ?_
          obtain rfl := Option.some.inj h
          exact End_ret (doneO_ok (md := [false]) (by kernel_rfl))
def ea_digest_Hex (a : (Arr 32 Int)) : List T := [(eA 1 (T.int .u8)) a]
def er_digest_Hex (r : ByteArray) : List RR × List T := ([.tree (T.str r)], [])
noncomputable def sp_digest_Hex (n : Nat) : Spec := specP [] true ea_digest_Hex (fun a => f_digest_Hex n a) (fun _ r => er_digest_Hex r)
theorem ap_digest_Hex (n : Nat) {ts : List T} {a0 : (Arr 32 Int)} {r : ByteArray} (hle : leTs ts [(eA 1 (T.int .u8)) a0]) (h : f_digest_Hex n a0 = some r) : (sp_digest_Hex n).fn ts = some ([.tree (T.str r)], []) :=
  specP_fn (a := a0) (InjA.one (inj_eA (inj_int _))) hle h
noncomputable def E_digest_Hex (n : Nat) : Env := { ty := tyT, glob := glob, fns := get [], ntmps := 23 }
theorem eok_digest_Hex (n : Nat) : EnvOK Tryd.prog (E_digest_Hex n) := ⟨tys_ok tys_chk, prog_mixed, fns_nil⟩
def K_digest_Hex (n : Nat) (ps0 : (Arr 32 Int)) (r : ByteArray) : St → Prop := Done (E_digest_Hex n) Tryd.f18.results.toList [] (ea_digest_Hex ps0) (er_digest_Hex r).1 (er_digest_Hex r).2
set_option maxRecDepth 100000 in
set_option maxHeartbeats 4000000 in
theorem ok_digest_Hex (n : Nat) : SpecOK Tryd.prog glob 18 (sp_digest_Hex n) := by
  refine specP_ok (fn := Tryd.f18) (eok_digest_Hex n) (by kernel_rfl) rfl (by decide +kernel) (by kernel_rfl) (fun _ => by show 1 ≤ 23; omega) (fun _ _ r => ⟨(rrf_tree ((fun _ => rfl) _) rrf_nil), flats_nil⟩) ?_
  rintro ps0 r h C hL hC
  have hE := eok_digest_Hex n
  replace hL : ∀ n g, (n, g) ∈ C.lent → n ∈ ([] : List Nat) := hL
  replace h : f_digest_Hex n ps0 = some r := h
  show Ab _ _ _ _ _ (End (K_digest_Hex n ps0 r))
  unfold f_digest_Hex at h
  refine Ab.seq ?_
  refine Ab.regT hE hC hL [] { keep := [1], ren := [(1, 1)] } ⟨[(1, (.ref 1 [] (0)))], [(1, (.var false 25 (.t ((eA 1 (T.int .u8)) ps0))))]⟩ [] (by kernel_rfl) trivial ?_
  refine Nxt_norm ?_
  refine Ab.seq ?_
  refine Ab.regT hE hC hL [[.l (List.map (T.int .u8) ([] : List Int))]] { keep := [1, 3], ren := [(1, 1), (6, 6)] } ⟨[(1, (.ref 1 [] (0))), (3, (.own 6))], [(1, (.var false 25 (.t ((eA 1 (T.int .u8)) ps0)))), (6, (.row false 5 1 (List.map (T.int .u8) ([] : List Int))))]⟩ [0 ≤ (0:Int), ((0:Int) = (64:Int) ∨ (0:Int) = 0), (0:Int) ≤ (64:Int), ((1 : Nat) : Int) * (64:Int) ≤ 140737488355328, (64:Int) ≤ 140737488355328, List.replicate ((0:Int)).toNat (.int .u8 0) = List.map (T.int .u8) ([] : List Int)] (by kernel_rfl) ⟨(by decide), (by decide), (by decide), (by decide), (by decide), rfl, trivial⟩ ?_
  refine Nxt_norm ?_
  refine Ab.seq ?_
  refine Ab.seq ?_
  refine Ab.regT hE hC hL [] { keep := [3, 7, 8], ren := [(6, 6)] } ⟨[(3, (.own 6)), (7, (.t ((eA 1 (T.int .u8)) ps0))), (8, (.t (.int .i64 (0:Int))))], [(6, (.row false 5 1 (List.map (T.int .u8) ([] : List Int))))]⟩ [] (by kernel_rfl) trivial ?_
  refine Nxt_norm ?_
  obtain ⟨x0, hx0, h⟩ := bind_some h
  refine Ab.loopX0 (fun ((a0, a1) : ((List Int) × Int)) => (⟨[(3, (.own 49000)), (7, (.t ((eA 1 (T.int .u8)) ps0))), (8, (.t (.int .i64 a1)))], [(49000, (.row false 5 1 (List.map (T.int .u8) a0)))]⟩ : St)) (fun (a2 : (List Int)) => (⟨[(3, (.own 49000))], [(49000, (.row false 5 1 (List.map (T.int .u8) a2)))]⟩ : St)) { fs := [], keep := [3, 7, 8], ren := [(6, 49000)] } (([] : List Int), (0:Int)) hC hL hx0 (by kernel_rfl) ?_ ?_
  · rintro ⟨a0, a1⟩ o0 h
    replace h : f_digest_Hex_b0 n ps0 a0 a1 = some o0 := h
    unfold f_digest_Hex_b0 at h
    refine Ab.seq ?_
    refine Ab.regT hE hC hL [] { keep := [3, 7, 8, 9], ren := [(49000, 49000)] } ⟨[(3, (.own 49000)), (7, (.t ((eA 1 (T.int .u8)) ps0))), (8, (.t (.int .i64 a1))), (9, (.t (.bool (decide (a1 < (32:Int))))))], [(49000, (.row false 5 1 (List.map (T.int .u8) a0)))]⟩ [] (by kernel_rfl) trivial ?_
    refine Nxt_norm ?_
    refine Ab.seq ?_
    refine Ab.cond (b := (decide (a1 < (32:Int)))) (by kernel_rfl) (fun hb0 => ?_) (fun hb0 => ?_)
    · replace h := cond_t hb0 h
      refine Ab.skip ?_
      refine Nxt_norm ?_
      refine Ab.seq ?_
      refine Ab.block ?_
      refine Ab.seq ?_
      obtain ⟨hq0, h⟩ := ask_dec h
      obtain ⟨v0, hv0, h⟩ := bind_some h
      refine Ab.regT hE hC hL [[.t (.int .u8 v0)]] { keep := [3, 5, 7, 8], ren := [(49000, 49000)] } ⟨[(3, (.own 49000)), (5, (.t (.int .u8 v0))), (7, (.t ((eA 1 (T.int .u8)) ps0))), (8, (.t (.int .i64 a1)))], [(49000, (.row false 5 1 (List.map (T.int .u8) a0)))]⟩ [0 ≤ a1, a1 < ((32 : Nat) : Int), (List.map (T.int .u8) ps0.l)[a1.toNat]? = some (.int .u8 v0)] (by kernel_rfl) ⟨hq0, (of_decide_eq_true hb0), (at_map hv0), trivial⟩ ?_
      refine Nxt_norm ?_
      obtain ⟨hq1, h⟩ := ask_dec h
      obtain ⟨v1, hv1, h⟩ := bind_some h
      obtain ⟨hq2, h⟩ := ask_dec h
      obtain ⟨v2, hv2, h⟩ := bind_some h
      obtain ⟨hq3, h⟩ := ask_dec h
      refine Ab.regA hE hC hL [[], [], [], [.n v1], [], [], [.n v2], [], [.l (List.map (T.int .u8) (a0 ++ ([v1, v2] : List Int)))]] { keep := [3, 7, 8], ren := [(19, 19)] } ⟨[(3, (.own 19)), (7, (.t ((eA 1 (T.int .u8)) ps0))), (8, (.t (.int .i64 a1)))], [(19, (.row false 5 1 (List.map (T.int .u8) (a0 ++ ([v1, v2] : List Int)))))]⟩ [0 ≤ (shr .u8 v0 (4:Int)), (str_2.data[(shr .u8 v0 (4:Int)).toNat]?).map (fun b => (b.toNat : Int)) = some v1, 0 ≤ (bits .and .u8 v0 (15:Int)), (str_2.data[(bits .and .u8 v0 (15:Int)).toNat]?).map (fun b => (b.toNat : Int)) = some v2, (List.length (List.map (T.int .u8) a0) + List.length (List.map (T.int .u8) ([v1, v2] : List Int))) * 1 ≤ maxBytes, List.length (List.map (T.int .u8) a0) + List.length (List.map (T.int .u8) ([v1, v2] : List Int)) ≤ maxBytes, (List.map (T.int .u8) a0) ++ (List.map (T.int .u8) ([v1, v2] : List Int)) = List.map (T.int .u8) (a0 ++ ([v1, v2] : List Int))] (by kernel_rfl) (by kernel_rfl) ⟨hq1, hv1, hq2, hv2, (app_b rfl rfl hq3), (app_c rfl rfl (by decide) hq3), (app_of rfl rfl), trivial⟩ ?_
      refine Blk_norm ?_
      refine Nxt_norm ?_
      refine Ab.regT hE hC hL [] { keep := [3, 7, 8], ren := [(19, 19)] } ⟨[(3, (.own 19)), (7, (.t ((eA 1 (T.int .u8)) ps0))), (8, (.t (.int .i64 (wi (a1 + (1:Int))))))], [(19, (.row false 5 1 (List.map (T.int .u8) (a0 ++ ([v1, v2] : List Int)))))]⟩ [] (by kernel_rfl) trivial ?_
      exact LK_norm ((a0 ++ ([v1, v2] : List Int)), (wi (a1 + (1:Int)))) { fs := [], keep := [3, 7, 8], ren := [(19, 49000)] } h (by kernel_rfl)
    · replace h := cond_f hb0 h
      refine Ab.exit ?_
      refine Nxt_exit ?_
      exact LK_exit a0 h (PX_mk { fs := [], keep := [3], ren := [(49000, 49000)] } (by kernel_rfl))
  · refine Nxt_norm ?_
    refine Ab.seq ?_
    refine Ab.regT hE hC hL [[], [.s (strOf x0)]] { keep := [2], ren := [] } ⟨[(2, (.t (.str (strOf x0))))], []⟩ [(bytesOf (List.map (T.int .u8) x0)).map (fun b => (⟨b.toArray⟩ : ByteArray)) = some (strOf x0)] (by kernel_rfl) ⟨(bytes_strOf rfl), trivial⟩ ?_
    refine Nxt_norm ?_
    refine Ab.ret ?_
    obtain rfl := Option.some.inj h
    exact End_ret (doneO_ok (md := [false]) (by kernel_rfl))
def ea_law02_Awake (a : Unit) : List T := []
def er_law02_Awake (r : Bool) : List RR × List T := ([.tree (T.bool r)], [])
noncomputable def sp_law02_Awake (n : Nat) : Spec := specP [] true ea_law02_Awake (fun a => f_law02_Awake n) (fun _ r => er_law02_Awake r)
theorem ap_law02_Awake (n : Nat) {ts : List T} {r : Bool} (hle : leTs ts []) (h : f_law02_Awake n = some r) : (sp_law02_Awake n).fn ts = some ([.tree (T.bool r)], []) :=
  specP_fn (a := ()) injA0 hle h
noncomputable def E_law02_Awake (n : Nat) : Env := { ty := tyT, glob := glob, fns := get [(14, sp_digest_Of n), (18, sp_digest_Hex n)], ntmps := 11 }
theorem eok_law02_Awake (n : Nat) : EnvOK Tryd.prog (E_law02_Awake n) := ⟨tys_ok tys_chk, prog_mixed, (fns_cons (ok_digest_Of n) (fns_cons (ok_digest_Hex n) fns_nil))⟩
def K_law02_Awake (n : Nat) (r : Bool) : St → Prop := Done (E_law02_Awake n) Tryd.f13.results.toList [] (ea_law02_Awake ()) (er_law02_Awake r).1 (er_law02_Awake r).2
set_option maxRecDepth 100000 in
set_option maxHeartbeats 4000000 in
theorem ok_law02_Awake (n : Nat) : SpecOK Tryd.prog glob 13 (sp_law02_Awake n) := by
  refine specP_ok (fn := Tryd.f13) (eok_law02_Awake n) (by kernel_rfl) rfl (by decide +kernel) (by kernel_rfl) (fun _ => by show 0 ≤ 11; omega) (fun _ _ r => ⟨(rrf_tree ((fun _ => rfl) _) rrf_nil), flats_nil⟩) ?_
  rintro ⟨⟩ r h C hL hC
  have hE := eok_law02_Awake n
  replace hL : ∀ n g, (n, g) ∈ C.lent → n ∈ ([] : List Nat) := hL
  replace h : f_law02_Awake n = some r := h
  show Ab _ _ _ _ _ (End (K_law02_Awake n r))
  unfold f_law02_Awake at h
  refine Ab.seq ?_
  refine Ab.regT hE hC hL [] { keep := [], ren := [] } ⟨[], []⟩ [] (by kernel_rfl) trivial ?_
  refine Nxt_norm ?_
  refine Ab.seq ?_
  obtain ⟨r0, hr0, h⟩ := bind_some h
  obtain ⟨r1, hr1, h⟩ := bind_some h
  rcases Bool.eq_false_or_eq_true (r1.toList == str_0.toList) with hb0 | hb0
  · replace h := cond_t hb0 h
    obtain ⟨r2, hr2, h⟩ := bind_some h
    obtain ⟨r3, hr3, h⟩ := bind_some h
    refine Ab.regT hE hC hL [[.r [.tree ((eA 1 (T.int .u8)) r0)] []], [.r [.tree (.str r1)] []], [], [.b true], [], [], [.r [.tree ((eA 1 (T.int .u8)) r2)] []], [.r [.tree (.str r3)] []]] { keep := [0], ren := [] } ⟨[(0, (.t (.bool (r3.toList == str_1.toList))))], []⟩ [(sp_digest_Of n).fn [.nils] = some ([.tree ((eA 1 (T.int .u8)) r0)], []), (sp_digest_Hex n).fn [((eA 1 (T.int .u8)) r0)] = some ([.tree (.str r1)], []), (r1.toList == str_0.toList) = true, (sp_digest_Of n).fn [((eS 1 (T.int .u8)) ([(97:Int), (98:Int), (99:Int)] : List Int))] = some ([.tree ((eA 1 (T.int .u8)) r2)], []), (sp_digest_Hex n).fn [((eA 1 (T.int .u8)) r2)] = some ([.tree (.str r3)], [])] (by kernel_rfl) ⟨(ap_digest_Of n (by exact ⟨le_nil, trivial⟩) hr0), (ap_digest_Hex n (by exact ⟨leT.refl _, trivial⟩) hr1), hb0, (ap_digest_Of n (by exact ⟨leT.refl _, trivial⟩) hr2), (ap_digest_Hex n (by exact ⟨leT.refl _, trivial⟩) hr3), trivial⟩ ?_
    refine Nxt_norm ?_
    refine Ab.ret ?_
    obtain rfl := Option.some.inj h
    exact End_ret (doneO_ok (md := [false]) (by kernel_rfl))
  · replace h := cond_f hb0 h
    refine Ab.regT hE hC hL [[.r [.tree ((eA 1 (T.int .u8)) r0)] []], [.r [.tree (.str r1)] []], [], [.b false]] { keep := [0], ren := [] } ⟨[(0, (.t (.bool false)))], []⟩ [(sp_digest_Of n).fn [.nils] = some ([.tree ((eA 1 (T.int .u8)) r0)], []), (sp_digest_Hex n).fn [((eA 1 (T.int .u8)) r0)] = some ([.tree (.str r1)], []), (r1.toList == str_0.toList) = false] (by kernel_rfl) ⟨(ap_digest_Of n (by exact ⟨le_nil, trivial⟩) hr0), (ap_digest_Hex n (by exact ⟨leT.refl _, trivial⟩) hr1), hb0, trivial⟩ ?_
    refine Nxt_norm ?_
    refine Ab.ret ?_
    obtain rfl := Option.some.inj h
    exact End_ret (doneO_ok (md := [false]) (by kernel_rfl))
def ea_ref02_numbers (a : Unit) : List T := []
def er_ref02_numbers (r : (Arr 64 Int)) : List RR × List T := ([.tree ((eA 1 (T.int .u32)) r)], [])
noncomputable def sp_ref02_numbers (n : Nat) : Spec := specP [] true ea_ref02_numbers (fun a => f_ref02_numbers n) (fun _ r => er_ref02_numbers r)
theorem ap_ref02_numbers (n : Nat) {ts : List T} {r : (Arr 64 Int)} (hle : leTs ts []) (h : f_ref02_numbers n = some r) : (sp_ref02_numbers n).fn ts = some ([.tree ((eA 1 (T.int .u32)) r)], []) :=
  specP_fn (a := ()) injA0 hle h
noncomputable def E_ref02_numbers (n : Nat) : Env := { ty := tyT, glob := glob, fns := get [], ntmps := 2 }
theorem eok_ref02_numbers (n : Nat) : EnvOK Tryd.prog (E_ref02_numbers n) := ⟨tys_ok tys_chk, prog_mixed, fns_nil⟩
def K_ref02_numbers (n : Nat) (r : (Arr 64 Int)) : St → Prop := Done (E_ref02_numbers n) Tryd.f46.results.toList [] (ea_ref02_numbers ()) (er_ref02_numbers r).1 (er_ref02_numbers r).2
set_option maxRecDepth 100000 in
set_option maxHeartbeats 4000000 in
theorem ok_ref02_numbers (n : Nat) : SpecOK Tryd.prog glob 46 (sp_ref02_numbers n) := by
  refine specP_ok (fn := Tryd.f46) (eok_ref02_numbers n) (by kernel_rfl) rfl (by decide +kernel) (by kernel_rfl) (fun _ => by show 0 ≤ 2; omega) (fun _ _ r => ⟨(rrf_tree ((flat_eA (fun _ => rfl)) _) rrf_nil), flats_nil⟩) ?_
  rintro ⟨⟩ r h C hL hC
  have hE := eok_ref02_numbers n
  replace hL : ∀ n g, (n, g) ∈ C.lent → n ∈ ([] : List Nat) := hL
  replace h : f_ref02_numbers n = some r := h
  show Ab _ _ _ _ _ (End (K_ref02_numbers n r))
  unfold f_ref02_numbers at h
  refine Ab.seq ?_
  refine Ab.regT hE hC hL [] { keep := [0], ren := [(0, 0)] } ⟨[(0, (.ref 0 [] (0)))], [(0, (.var false 76 (.t ((eA 1 (T.int .u32)) (Arr.rep 64 (0:Int))))))]⟩ [] (by kernel_rfl) trivial ?_
  refine Nxt_norm ?_
  refine Ab.seq ?_
  refine Ab.regT hE hC hL [] { keep := [0], ren := [(0, 0)] } ⟨[(0, (.ref 0 [] (0)))], [(0, (.var false 76 (.t ((eA 1 (T.int .u32)) (⟨[(1116352408:Int), (1899447441:Int), (3049323471:Int), (3921009573:Int), (961987163:Int), (1508970993:Int), (2453635748:Int), (2870763221:Int), (3624381080:Int), (310598401:Int), (607225278:Int), (1426881987:Int), (1925078388:Int), (2162078206:Int), (2614888103:Int), (3248222580:Int), (3835390401:Int), (4022224774:Int), (264347078:Int), (604807628:Int), (770255983:Int), (1249150122:Int), (1555081692:Int), (1996064986:Int), (2554220882:Int), (2821834349:Int), (2952996808:Int), (3210313671:Int), (3336571891:Int), (3584528711:Int), (113926993:Int), (338241895:Int), (666307205:Int), (773529912:Int), (1294757372:Int), (1396182291:Int), (1695183700:Int), (1986661051:Int), (2177026350:Int), (2456956037:Int), (2730485921:Int), (2820302411:Int), (3259730800:Int), (3345764771:Int), (3516065817:Int), (3600352804:Int), (4094571909:Int), (275423344:Int), (430227734:Int), (506948616:Int), (659060556:Int), (883997877:Int), (958139571:Int), (1322822218:Int), (1537002063:Int), (1747873779:Int), (1955562222:Int), (2024104815:Int), (2227730452:Int), (2361852424:Int), (2428436474:Int), (2756734187:Int), (3204031479:Int), (3329325298:Int)], rfl⟩ : (Arr 64 Int))))))]⟩ [] (by kernel_rfl) trivial ?_
  refine Nxt_norm ?_
  refine Ab.ret ?_
  obtain rfl := Option.some.inj h
  exact End_ret (doneO_ok (md := [false]) (by kernel_rfl))
def ea_ref02_right (a : Int × Int) : List T := [(T.int .u32) a.1, (T.int .i64) a.2]
def er_ref02_right (r : Int) : List RR × List T := ([.tree ((T.int .u32) r)], [])
noncomputable def sp_ref02_right (n : Nat) : Spec := specP [] true ea_ref02_right (fun a => f_ref02_right n a.1 a.2) (fun _ r => er_ref02_right r)
theorem ap_ref02_right (n : Nat) {ts : List T} {a0 : Int} {a1 : Int} {r : Int} (hle : leTs ts [(T.int .u32) a0, (T.int .i64) a1]) (h : f_ref02_right n a0 a1 = some r) : (sp_ref02_right n).fn ts = some ([.tree ((T.int .u32) r)], []) :=
  specP_fn (a := (a0, a1)) (InjA.cons (inj_int _) (InjA.one (inj_int _))) hle h
noncomputable def E_ref02_right (n : Nat) : Env := { ty := tyT, glob := glob, fns := get [], ntmps := 13 }
theorem eok_ref02_right (n : Nat) : EnvOK Tryd.prog (E_ref02_right n) := ⟨tys_ok tys_chk, prog_mixed, fns_nil⟩
def K_ref02_right (n : Nat) (px0 : Int) (pn0 : Int) (r : Int) : St → Prop := Done (E_ref02_right n) Tryd.f47.results.toList [] (ea_ref02_right (px0, pn0)) (er_ref02_right r).1 (er_ref02_right r).2
set_option maxRecDepth 100000 in
set_option maxHeartbeats 4000000 in
theorem ok_ref02_right (n : Nat) : SpecOK Tryd.prog glob 47 (sp_ref02_right n) := by
  refine specP_ok (fn := Tryd.f47) (eok_ref02_right n) (by kernel_rfl) rfl (by decide +kernel) (by kernel_rfl) (fun _ => by show 2 ≤ 13; omega) (fun _ _ r => ⟨(rrf_tree ((fun _ => rfl) _) rrf_nil), flats_nil⟩) ?_
  rintro ⟨px0, pn0⟩ r h C hL hC
  have hE := eok_ref02_right n
  replace hL : ∀ n g, (n, g) ∈ C.lent → n ∈ ([] : List Nat) := hL
  replace h : f_ref02_right n px0 pn0 = some r := h
  show Ab _ _ _ _ _ (End (K_ref02_right n px0 pn0 r))
  unfold f_ref02_right at h
  refine Ab.seq ?_
  refine Ab.regT hE hC hL [] { keep := [0, 1], ren := [] } ⟨[(0, (.t (.int .u32 px0))), (1, (.t (.int .i64 pn0)))], []⟩ [] (by kernel_rfl) trivial ?_
  refine Nxt_norm ?_
  refine Ab.seq ?_
  obtain ⟨hq0, h⟩ := ask_dec h
  obtain ⟨hq1, h⟩ := ask_dec h
  refine Ab.regA hE hC hL [[], [], [.c], [], [], [], [.c]] { keep := [4], ren := [] } ⟨[(4, (.t (.int .u32 (bits .or .u32 (shr .u32 px0 pn0) (shl .u32 px0 (wi ((32:Int) - pn0)))))))], []⟩ [¬ pn0 < 0, ¬ (wi ((32:Int) - pn0)) < 0] (by kernel_rfl) (by kernel_rfl) ⟨(Int.not_lt.2 hq0), (Int.not_lt.2 hq1), trivial⟩ ?_
  refine Nxt_norm ?_
  refine Ab.ret ?_
  obtain rfl := Option.some.inj h
  exact End_ret (doneO_ok (md := [false]) (by kernel_rfl))
def ea_ref02_Of (a : (List Int)) : List T := [(eS 1 (T.int .u8)) a]
def er_ref02_Of (r : (Arr 32 Int)) : List RR × List T := ([.tree ((eA 1 (T.int .u8)) r)], [])
noncomputable def sp_ref02_Of (n : Nat) : Spec := specP [] true ea_ref02_Of (fun a => f_ref02_Of n a) (fun _ r => er_ref02_Of r)
theorem ap_ref02_Of (n : Nat) {ts : List T} {a0 : (List Int)} {r : (Arr 32 Int)} (hle : leTs ts [(eS 1 (T.int .u8)) a0]) (h : f_ref02_Of n a0 = some r) : (sp_ref02_Of n).fn ts = some ([.tree ((eA 1 (T.int .u8)) r)], []) :=
  specP_fn (a := a0) (InjA.one (inj_eS (inj_int _))) hle h
noncomputable def E_ref02_Of (n : Nat) : Env := { ty := tyT, glob := glob, fns := get [(46, sp_ref02_numbers n), (47, sp_ref02_right n)], ntmps := 283 }
theorem eok_ref02_Of (n : Nat) : EnvOK Tryd.prog (E_ref02_Of n) := ⟨tys_ok tys_chk, prog_mixed, (fns_cons (ok_ref02_numbers n) (fns_cons (ok_ref02_right n) fns_nil))⟩
def K_ref02_Of (n : Nat) (pt0 : (List Int)) (r : (Arr 32 Int)) : St → Prop := Done (E_ref02_Of n) Tryd.f15.results.toList [] (ea_ref02_Of pt0) (er_ref02_Of r).1 (er_ref02_Of r).2
set_option maxRecDepth 100000 in
set_option maxHeartbeats 4000000 in
theorem ok_ref02_Of (n : Nat) : SpecOK Tryd.prog glob 15 (sp_ref02_Of n) := by
  refine specP_ok (fn := Tryd.f15) (eok_ref02_Of n) (by kernel_rfl) rfl (by decide +kernel) (by kernel_rfl) (fun _ => by show 1 ≤ 283; omega) (fun _ _ r => ⟨(rrf_tree ((flat_eA (fun _ => rfl)) _) rrf_nil), flats_nil⟩) ?_
  rintro pt0 r h C hL hC
  have hE := eok_ref02_Of n
  replace hL : ∀ n g, (n, g) ∈ C.lent → n ∈ ([] : List Nat) := hL
  replace h : f_ref02_Of n pt0 = some r := h
  show Ab _ _ _ _ _ (End (K_ref02_Of n pt0 r))
  unfold f_ref02_Of at h
  refine Ab.seq ?_
  refine Ab.regT hE hC hL [] { keep := [0, 2], ren := [(2, 2)] } ⟨[(0, (.t ((eS 1 (T.int .u8)) pt0))), (2, (.ref 2 [] (0)))], [(2, (.var false 24 (.t ((eA 1 (T.int .u8)) (Arr.rep 32 (0:Int))))))]⟩ [] (by kernel_rfl) trivial ?_
  refine Nxt_norm ?_
  refine Ab.seq ?_
  refine Ab.regT hE hC hL [] { keep := [0, 2, 3], ren := [(2, 2), (3, 3)] } ⟨[(0, (.t ((eS 1 (T.int .u8)) pt0))), (2, (.ref 2 [] (0))), (3, (.ref 3 [] (0)))], [(2, (.var false 24 (.t ((eA 1 (T.int .u8)) (Arr.rep 32 (0:Int)))))), (3, (.var false 73 (.t ((eA 1 (T.int .u32)) (⟨[(1779033703:Int), (3144134277:Int), (1013904242:Int), (2773480762:Int), (1359893119:Int), (2600822924:Int), (528734635:Int), (1541459225:Int)], rfl⟩ : (Arr 8 Int))))))]⟩ [] (by kernel_rfl) trivial ?_
  refine Nxt_norm ?_
  refine Ab.seq ?_
  obtain ⟨r0, hr0, h⟩ := bind_some h
  refine Ab.regT hE hC hL [[.r [.tree ((eA 1 (T.int .u32)) r0)] []]] { keep := [0, 2, 3, 4], ren := [(2, 2), (3, 3), (4, 4)] } ⟨[(0, (.t ((eS 1 (T.int .u8)) pt0))), (2, (.ref 2 [] (0))), (3, (.ref 3 [] (0))), (4, (.ref 4 [] (0)))], [(2, (.var false 24 (.t ((eA 1 (T.int .u8)) (Arr.rep 32 (0:Int)))))), (3, (.var false 73 (.t ((eA 1 (T.int .u32)) (⟨[(1779033703:Int), (3144134277:Int), (1013904242:Int), (2773480762:Int), (1359893119:Int), (2600822924:Int), (528734635:Int), (1541459225:Int)], rfl⟩ : (Arr 8 Int)))))), (4, (.var false 76 (.t ((eA 1 (T.int .u32)) r0))))]⟩ [(sp_ref02_numbers n).fn [] = some ([.tree ((eA 1 (T.int .u32)) r0)], [])] (by kernel_rfl) ⟨(ap_ref02_numbers n (by exact trivial) hr0), trivial⟩ ?_
  refine Nxt_norm ?_
  refine Ab.seq ?_
  obtain ⟨hq0, h⟩ := ask_dec h
  obtain ⟨hq1, h⟩ := ask_dec h
  refine Ab.regT hE hC hL [[], [.n (pt0.length : Int)], [], [], [], [], [.l (List.map (T.int .u8) (List.replicate ((wi ((wi ((wi ((wi ((pt0.length : Int) + (9:Int))) + (63:Int))).tdiv (64:Int))) * (64:Int))).toNat) (0:Int)))]] { keep := [0, 2, 3, 4, 5], ren := [(2, 2), (3, 3), (4, 4), (34, 34)] } ⟨[(0, (.t ((eS 1 (T.int .u8)) pt0))), (2, (.ref 2 [] (0))), (3, (.ref 3 [] (0))), (4, (.ref 4 [] (0))), (5, (.own 34))], [(2, (.var false 24 (.t ((eA 1 (T.int .u8)) (Arr.rep 32 (0:Int)))))), (3, (.var false 73 (.t ((eA 1 (T.int .u32)) (⟨[(1779033703:Int), (3144134277:Int), (1013904242:Int), (2773480762:Int), (1359893119:Int), (2600822924:Int), (528734635:Int), (1541459225:Int)], rfl⟩ : (Arr 8 Int)))))), (4, (.var false 76 (.t ((eA 1 (T.int .u32)) r0)))), (34, (.row false 5 1 (List.map (T.int .u8) (List.replicate ((wi ((wi ((wi ((wi ((pt0.length : Int) + (9:Int))) + (63:Int))).tdiv (64:Int))) * (64:Int))).toNat) (0:Int)))))]⟩ [((List.length (List.map (T.int .u8) pt0) : Nat) : Int) = (pt0.length : Int), 0 ≤ (wi ((wi ((wi ((wi ((pt0.length : Int) + (9:Int))) + (63:Int))).tdiv (64:Int))) * (64:Int))), ((wi ((wi ((wi ((wi ((pt0.length : Int) + (9:Int))) + (63:Int))).tdiv (64:Int))) * (64:Int))) = (wi ((wi ((wi ((wi ((pt0.length : Int) + (9:Int))) + (63:Int))).tdiv (64:Int))) * (64:Int))) ∨ (wi ((wi ((wi ((wi ((pt0.length : Int) + (9:Int))) + (63:Int))).tdiv (64:Int))) * (64:Int))) = 0), (wi ((wi ((wi ((wi ((pt0.length : Int) + (9:Int))) + (63:Int))).tdiv (64:Int))) * (64:Int))) ≤ (wi ((wi ((wi ((wi ((pt0.length : Int) + (9:Int))) + (63:Int))).tdiv (64:Int))) * (64:Int))), ((1 : Nat) : Int) * (wi ((wi ((wi ((wi ((pt0.length : Int) + (9:Int))) + (63:Int))).tdiv (64:Int))) * (64:Int))) ≤ 140737488355328, (wi ((wi ((wi ((wi ((pt0.length : Int) + (9:Int))) + (63:Int))).tdiv (64:Int))) * (64:Int))) ≤ 140737488355328, List.replicate ((wi ((wi ((wi ((wi ((pt0.length : Int) + (9:Int))) + (63:Int))).tdiv (64:Int))) * (64:Int)))).toNat (.int .u8 0) = List.map (T.int .u8) (List.replicate ((wi ((wi ((wi ((wi ((pt0.length : Int) + (9:Int))) + (63:Int))).tdiv (64:Int))) * (64:Int))).toNat) (0:Int))] (by kernel_rfl) ⟨(len_of rfl), hq0, (.inl rfl), (Int.le_refl _), hq1, (by have := hq1; omega), (rep_map rfl), trivial⟩ ?_
  refine Nxt_norm ?_
  refine Ab.seq ?_
  refine Ab.regT hE hC hL [[], [], [.n ((min pt0.length (List.replicate ((wi ((wi ((wi ((wi ((pt0.length : Int) + (9:Int))) + (63:Int))).tdiv (64:Int))) * (64:Int))).toNat) (0:Int)).length : Nat) : Int), .l (List.map (T.int .u8) (over (List.replicate ((wi ((wi ((wi ((wi ((pt0.length : Int) + (9:Int))) + (63:Int))).tdiv (64:Int))) * (64:Int))).toNat) (0:Int)) 0 (List.replicate ((wi ((wi ((wi ((wi ((pt0.length : Int) + (9:Int))) + (63:Int))).tdiv (64:Int))) * (64:Int))).toNat) (0:Int)).length pt0))]] { keep := [0, 2, 3, 4, 5], ren := [(2, 2), (3, 3), (4, 4), (34, 34)] } ⟨[(0, (.t ((eS 1 (T.int .u8)) pt0))), (2, (.ref 2 [] (0))), (3, (.ref 3 [] (0))), (4, (.ref 4 [] (0))), (5, (.own 34))], [(2, (.var false 24 (.t ((eA 1 (T.int .u8)) (Arr.rep 32 (0:Int)))))), (3, (.var false 73 (.t ((eA 1 (T.int .u32)) (⟨[(1779033703:Int), (3144134277:Int), (1013904242:Int), (2773480762:Int), (1359893119:Int), (2600822924:Int), (528734635:Int), (1541459225:Int)], rfl⟩ : (Arr 8 Int)))))), (4, (.var false 76 (.t ((eA 1 (T.int .u32)) r0)))), (34, (.row false 5 1 (List.map (T.int .u8) (over (List.replicate ((wi ((wi ((wi ((wi ((pt0.length : Int) + (9:Int))) + (63:Int))).tdiv (64:Int))) * (64:Int))).toNat) (0:Int)) 0 (List.replicate ((wi ((wi ((wi ((wi ((pt0.length : Int) + (9:Int))) + (63:Int))).tdiv (64:Int))) * (64:Int))).toNat) (0:Int)).length pt0))))]⟩ [((min (List.length (List.map (T.int .u8) pt0)) (List.length (List.map (T.int .u8) (List.replicate ((wi ((wi ((wi ((wi ((pt0.length : Int) + (9:Int))) + (63:Int))).tdiv (64:Int))) * (64:Int))).toNat) (0:Int)))) : Nat) : Int) = ((min pt0.length (List.replicate ((wi ((wi ((wi ((wi ((pt0.length : Int) + (9:Int))) + (63:Int))).tdiv (64:Int))) * (64:Int))).toNat) (0:Int)).length : Nat) : Int), List.take (List.length (List.map (T.int .u8) (List.replicate ((wi ((wi ((wi ((wi ((pt0.length : Int) + (9:Int))) + (63:Int))).tdiv (64:Int))) * (64:Int))).toNat) (0:Int)))) (List.map (T.int .u8) pt0) ++ List.drop (List.length (List.map (T.int .u8) pt0)) (List.map (T.int .u8) (List.replicate ((wi ((wi ((wi ((wi ((pt0.length : Int) + (9:Int))) + (63:Int))).tdiv (64:Int))) * (64:Int))).toNat) (0:Int))) = List.map (T.int .u8) (over (List.replicate ((wi ((wi ((wi ((wi ((pt0.length : Int) + (9:Int))) + (63:Int))).tdiv (64:Int))) * (64:Int))).toNat) (0:Int)) 0 (List.replicate ((wi ((wi ((wi ((wi ((pt0.length : Int) + (9:Int))) + (63:Int))).tdiv (64:Int))) * (64:Int))).toNat) (0:Int)).length pt0)] (by kernel_rfl) ⟨(min_len2 rfl), (copy_own rfl), trivial⟩ ?_
  refine Nxt_norm ?_
  refine Ab.seq ?_
  obtain ⟨hq2, h⟩ := ask_dec h
  obtain ⟨v0, hv0, h⟩ := bind_some h
  refine Ab.regT hE hC hL [[], [], [.n (pt0.length : Int)], [.c], [.t (.int .u8 v0), .l (List.map (T.int .u8) (List.set (over (List.replicate ((wi ((wi ((wi ((wi ((pt0.length : Int) + (9:Int))) + (63:Int))).tdiv (64:Int))) * (64:Int))).toNat) (0:Int)) 0 (List.replicate ((wi ((wi ((wi ((wi ((pt0.length : Int) + (9:Int))) + (63:Int))).tdiv (64:Int))) * (64:Int))).toNat) (0:Int)).length pt0) ((pt0.length : Int).toNat) (128:Int)))]] { keep := [0, 2, 3, 4, 5], ren := [(2, 2), (3, 3), (4, 4), (34, 34)] } ⟨[(0, (.t ((eS 1 (T.int .u8)) pt0))), (2, (.ref 2 [] (0))), (3, (.ref 3 [] (0))), (4, (.ref 4 [] (0))), (5, (.own 34))], [(2, (.var false 24 (.t ((eA 1 (T.int .u8)) (Arr.rep 32 (0:Int)))))), (3, (.var false 73 (.t ((eA 1 (T.int .u32)) (⟨[(1779033703:Int), (3144134277:Int), (1013904242:Int), (2773480762:Int), (1359893119:Int), (2600822924:Int), (528734635:Int), (1541459225:Int)], rfl⟩ : (Arr 8 Int)))))), (4, (.var false 76 (.t ((eA 1 (T.int .u32)) r0)))), (34, (.row false 5 1 (List.map (T.int .u8) (List.set (over (List.replicate ((wi ((wi ((wi ((wi ((pt0.length : Int) + (9:Int))) + (63:Int))).tdiv (64:Int))) * (64:Int))).toNat) (0:Int)) 0 (List.replicate ((wi ((wi ((wi ((wi ((pt0.length : Int) + (9:Int))) + (63:Int))).tdiv (64:Int))) * (64:Int))).toNat) (0:Int)).length pt0) ((pt0.length : Int).toNat) (128:Int)))))]⟩ [((List.length (List.map (T.int .u8) pt0) : Nat) : Int) = (pt0.length : Int), 0 ≤ (pt0.length : Int), (pt0.length : Int).toNat < List.length (List.map (T.int .u8) (over (List.replicate ((wi ((wi ((wi ((wi ((pt0.length : Int) + (9:Int))) + (63:Int))).tdiv (64:Int))) * (64:Int))).toNat) (0:Int)) 0 (List.replicate ((wi ((wi ((wi ((wi ((pt0.length : Int) + (9:Int))) + (63:Int))).tdiv (64:Int))) * (64:Int))).toNat) (0:Int)).length pt0)), (pt0.length : Int).toNat * 1 + 0 = (pt0.length : Int).toNat * 1, (List.map (T.int .u8) (over (List.replicate ((wi ((wi ((wi ((wi ((pt0.length : Int) + (9:Int))) + (63:Int))).tdiv (64:Int))) * (64:Int))).toNat) (0:Int)) 0 (List.replicate ((wi ((wi ((wi ((wi ((pt0.length : Int) + (9:Int))) + (63:Int))).tdiv (64:Int))) * (64:Int))).toNat) (0:Int)).length pt0))[(pt0.length : Int).toNat]? = some (.int .u8 v0), (List.map (T.int .u8) (over (List.replicate ((wi ((wi ((wi ((wi ((pt0.length : Int) + (9:Int))) + (63:Int))).tdiv (64:Int))) * (64:Int))).toNat) (0:Int)) 0 (List.replicate ((wi ((wi ((wi ((wi ((pt0.length : Int) + (9:Int))) + (63:Int))).tdiv (64:Int))) * (64:Int))).toNat) (0:Int)).length pt0))[(pt0.length : Int).toNat]? = some (.int .u8 v0), (List.map (T.int .u8) (over (List.replicate ((wi ((wi ((wi ((wi ((pt0.length : Int) + (9:Int))) + (63:Int))).tdiv (64:Int))) * (64:Int))).toNat) (0:Int)) 0 (List.replicate ((wi ((wi ((wi ((wi ((pt0.length : Int) + (9:Int))) + (63:Int))).tdiv (64:Int))) * (64:Int))).toNat) (0:Int)).length pt0)).set ((pt0.length : Int).toNat) (.int .u8 (128:Int)) = List.map (T.int .u8) (List.set (over (List.replicate ((wi ((wi ((wi ((wi ((pt0.length : Int) + (9:Int))) + (63:Int))).tdiv (64:Int))) * (64:Int))).toNat) (0:Int)) 0 (List.replicate ((wi ((wi ((wi ((wi ((pt0.length : Int) + (9:Int))) + (63:Int))).tdiv (64:Int))) * (64:Int))).toNat) (0:Int)).length pt0) ((pt0.length : Int).toNat) (128:Int))] (by kernel_rfl) ⟨(len_of rfl), (Int.natCast_nonneg _), (by rw [List.length_map]; exact hq2), (by omega), (at_map hv0), (at_map hv0), set_map, trivial⟩ ?_
  refine Nxt_norm ?_
  refine Ab.seq ?_
  refine Ab.seq ?_
  refine Ab.regT hE hC hL [] { keep := [0, 2, 3, 4, 5, 6], ren := [(2, 2), (3, 3), (4, 4), (34, 34)] } ⟨[(0, (.t ((eS 1 (T.int .u8)) pt0))), (2, (.ref 2 [] (0))), (3, (.ref 3 [] (0))), (4, (.ref 4 [] (0))), (5, (.own 34)), (6, (.t (.int .i64 (0:Int))))], [(2, (.var false 24 (.t ((eA 1 (T.int .u8)) (Arr.rep 32 (0:Int)))))), (3, (.var false 73 (.t ((eA 1 (T.int .u32)) (⟨[(1779033703:Int), (3144134277:Int), (1013904242:Int), (2773480762:Int), (1359893119:Int), (2600822924:Int), (528734635:Int), (1541459225:Int)], rfl⟩ : (Arr 8 Int)))))), (4, (.var false 76 (.t ((eA 1 (T.int .u32)) r0)))), (34, (.row false 5 1 (List.map (T.int .u8) (List.set (over (List.replicate ((wi ((wi ((wi ((wi ((pt0.length : Int) + (9:Int))) + (63:Int))).tdiv (64:Int))) * (64:Int))).toNat) (0:Int)) 0 (List.replicate ((wi ((wi ((wi ((wi ((pt0.length : Int) + (9:Int))) + (63:Int))).tdiv (64:Int))) * (64:Int))).toNat) (0:Int)).length pt0) ((pt0.length : Int).toNat) (128:Int)))))]⟩ [] (by kernel_rfl) trivial ?_
  refine Nxt_norm ?_
  obtain ⟨x0, hx0, h⟩ := bind_some h
  refine Ab.loopX0 (fun ((a0, a1) : ((List Int) × Int)) => (⟨[(0, (.t ((eS 1 (T.int .u8)) pt0))), (2, (.ref 49000 [] (0))), (3, (.ref 49001 [] (0))), (4, (.ref 49002 [] (0))), (5, (.own 49003)), (6, (.t (.int .i64 a1)))], [(49000, (.var false 24 (.t ((eA 1 (T.int .u8)) (Arr.rep 32 (0:Int)))))), (49001, (.var false 73 (.t ((eA 1 (T.int .u32)) (⟨[(1779033703:Int), (3144134277:Int), (1013904242:Int), (2773480762:Int), (1359893119:Int), (2600822924:Int), (528734635:Int), (1541459225:Int)], rfl⟩ : (Arr 8 Int)))))), (49002, (.var false 76 (.t ((eA 1 (T.int .u32)) r0)))), (49003, (.row false 5 1 (List.map (T.int .u8) a0)))]⟩ : St)) (fun (a2 : (List Int)) => (⟨[(2, (.ref 49000 [] (0))), (3, (.ref 49001 [] (0))), (4, (.ref 49002 [] (0))), (5, (.own 49003))], [(49000, (.var false 24 (.t ((eA 1 (T.int .u8)) (Arr.rep 32 (0:Int)))))), (49001, (.var false 73 (.t ((eA 1 (T.int .u32)) (⟨[(1779033703:Int), (3144134277:Int), (1013904242:Int), (2773480762:Int), (1359893119:Int), (2600822924:Int), (528734635:Int), (1541459225:Int)], rfl⟩ : (Arr 8 Int)))))), (49002, (.var false 76 (.t ((eA 1 (T.int .u32)) r0)))), (49003, (.row false 5 1 (List.map (T.int .u8) a2)))]⟩ : St)) { fs := [], keep := [0, 2, 3, 4, 5, 6], ren := [(2, 49000), (3, 49001), (4, 49002), (34, 49003)] } ((List.set (over (List.replicate ((wi ((wi ((wi ((wi ((pt0.length : Int) + (9:Int))) + (63:Int))).tdiv (64:Int))) * (64:Int))).toNat) (0:Int)) 0 (List.replicate ((wi ((wi ((wi ((wi ((pt0.length : Int) + (9:Int))) + (63:Int))).tdiv (64:Int))) * (64:Int))).toNat) (0:Int)).length pt0) ((pt0.length : Int).toNat) (128:Int)), (0:Int)) hC hL hx0 (by kernel_rfl) ?_ ?_
  · rintro ⟨a0, a1⟩ o0 h
    replace h : f_ref02_Of_b0 n pt0 a0 a1 = some o0 := h
    unfold f_ref02_Of_b0 at h
    refine Ab.seq ?_
    refine Ab.seq ?_
    refine Ab.regT hE hC hL [] { keep := [0, 2, 3, 4, 5, 6, 43], ren := [(49000, 49000), (49001, 49001), (49002, 49002), (49003, 49003)] } ⟨[(0, (.t ((eS 1 (T.int .u8)) pt0))), (2, (.ref 49000 [] (0))), (3, (.ref 49001 [] (0))), (4, (.ref 49002 [] (0))), (5, (.own 49003)), (6, (.t (.int .i64 a1))), (43, (.t (.bool (decide (a1 < (8:Int))))))], [(49000, (.var false 24 (.t ((eA 1 (T.int .u8)) (Arr.rep 32 (0:Int)))))), (49001, (.var false 73 (.t ((eA 1 (T.int .u32)) (⟨[(1779033703:Int), (3144134277:Int), (1013904242:Int), (2773480762:Int), (1359893119:Int), (2600822924:Int), (528734635:Int), (1541459225:Int)], rfl⟩ : (Arr 8 Int)))))), (49002, (.var false 76 (.t ((eA 1 (T.int .u32)) r0)))), (49003, (.row false 5 1 (List.map (T.int .u8) a0)))]⟩ [] (by kernel_rfl) trivial ?_
    refine Nxt_norm ?_
    refine Ab.cond (b := (decide (a1 < (8:Int)))) (by kernel_rfl) (fun hb0 => ?_) (fun hb0 => ?_)
    · replace h := cond_t hb0 h
      refine Ab.skip ?_
      refine Nxt_norm ?_
      refine Ab.seq ?_
      refine Ab.block ?_
      obtain ⟨hq3, h⟩ := ask_dec h
      obtain ⟨hq4, h⟩ := ask_dec h
      obtain ⟨hq5, h⟩ := ask_dec h
      obtain ⟨v1, hv1, h⟩ := bind_some h
      refine Ab.regT hE hC hL [[], [], [.n (a0.length : Int)], [], [], [], [], [.n (pt0.length : Int)], [], [], [], [], [.c], [], [.c], [.t (.int .u8 v1), .l (List.map (T.int .u8) (List.set a0 ((wi ((wi ((a0.length : Int) - (1:Int))) - a1)).toNat) (w8 (shr .u64 (w64 (wi ((8:Int) * (pt0.length : Int)))) (wi ((8:Int) * a1))))))]] { keep := [0, 2, 3, 4, 5, 6], ren := [(49000, 49000), (49001, 49001), (49002, 49002), (49003, 49003)] } ⟨[(0, (.t ((eS 1 (T.int .u8)) pt0))), (2, (.ref 49000 [] (0))), (3, (.ref 49001 [] (0))), (4, (.ref 49002 [] (0))), (5, (.own 49003)), (6, (.t (.int .i64 a1)))], [(49000, (.var false 24 (.t ((eA 1 (T.int .u8)) (Arr.rep 32 (0:Int)))))), (49001, (.var false 73 (.t ((eA 1 (T.int .u32)) (⟨[(1779033703:Int), (3144134277:Int), (1013904242:Int), (2773480762:Int), (1359893119:Int), (2600822924:Int), (528734635:Int), (1541459225:Int)], rfl⟩ : (Arr 8 Int)))))), (49002, (.var false 76 (.t ((eA 1 (T.int .u32)) r0)))), (49003, (.row false 5 1 (List.map (T.int .u8) (List.set a0 ((wi ((wi ((a0.length : Int) - (1:Int))) - a1)).toNat) (w8 (shr .u64 (w64 (wi ((8:Int) * (pt0.length : Int)))) (wi ((8:Int) * a1))))))))]⟩ [((List.length (List.map (T.int .u8) a0) : Nat) : Int) = (a0.length : Int), ((List.length (List.map (T.int .u8) pt0) : Nat) : Int) = (pt0.length : Int), ¬ (wi ((8:Int) * a1)) < 0, 0 ≤ (wi ((wi ((a0.length : Int) - (1:Int))) - a1)), (wi ((wi ((a0.length : Int) - (1:Int))) - a1)).toNat < List.length (List.map (T.int .u8) a0), (wi ((wi ((a0.length : Int) - (1:Int))) - a1)).toNat * 1 + 0 = (wi ((wi ((a0.length : Int) - (1:Int))) - a1)).toNat * 1, (List.map (T.int .u8) a0)[(wi ((wi ((a0.length : Int) - (1:Int))) - a1)).toNat]? = some (.int .u8 v1), (List.map (T.int .u8) a0)[(wi ((wi ((a0.length : Int) - (1:Int))) - a1)).toNat]? = some (.int .u8 v1), (List.map (T.int .u8) a0).set ((wi ((wi ((a0.length : Int) - (1:Int))) - a1)).toNat) (.int .u8 (w8 (shr .u64 (w64 (wi ((8:Int) * (pt0.length : Int)))) (wi ((8:Int) * a1))))) = List.map (T.int .u8) (List.set a0 ((wi ((wi ((a0.length : Int) - (1:Int))) - a1)).toNat) (w8 (shr .u64 (w64 (wi ((8:Int) * (pt0.length : Int)))) (wi ((8:Int) * a1)))))] (by kernel_rfl) ⟨(len_of rfl), (len_of rfl), (Int.not_lt.2 hq3), hq4, (by rw [List.length_map]; exact hq5), (by omega), (at_map hv1), (at_map hv1), set_map, trivial⟩ ?_
      refine Blk_norm ?_
      refine Nxt_norm ?_
      refine Ab.regT hE hC hL [] { keep := [0, 2, 3, 4, 5, 6], ren := [(49000, 49000), (49001, 49001), (49002, 49002), (49003, 49003)] } ⟨[(0, (.t ((eS 1 (T.int .u8)) pt0))), (2, (.ref 49000 [] (0))), (3, (.ref 49001 [] (0))), (4, (.ref 49002 [] (0))), (5, (.own 49003)), (6, (.t (.int .i64 (wi (a1 + (1:Int))))))], [(49000, (.var false 24 (.t ((eA 1 (T.int .u8)) (Arr.rep 32 (0:Int)))))), (49001, (.var false 73 (.t ((eA 1 (T.int .u32)) (⟨[(1779033703:Int), (3144134277:Int), (1013904242:Int), (2773480762:Int), (1359893119:Int), (2600822924:Int), (528734635:Int), (1541459225:Int)], rfl⟩ : (Arr 8 Int)))))), (49002, (.var false 76 (.t ((eA 1 (T.int .u32)) r0)))), (49003, (.row false 5 1 (List.map (T.int .u8) (List.set a0 ((wi ((wi ((a0.length : Int) - (1:Int))) - a1)).toNat) (w8 (shr .u64 (w64 (wi ((8:Int) * (pt0.length : Int)))) (wi ((8:Int) * a1))))))))]⟩ [] (by kernel_rfl) trivial ?_
      exact LK_norm ((List.set a0 ((wi ((wi ((a0.length : Int) - (1:Int))) - a1)).toNat) (w8 (shr .u64 (w64 (wi ((8:Int) * (pt0.length : Int)))) (wi ((8:Int) * a1))))), (wi (a1 + (1:Int)))) { fs := [], keep := [0, 2, 3, 4, 5, 6], ren := [(49000, 49000), (49001, 49001), (49002, 49002), (49003, 49003)] } h (by kernel_rfl)
    · replace h := cond_f hb0 h
      refine Ab.exit ?_
      refine Nxt_exit ?_
      exact LK_exit a0 h (PX_mk { fs := [], keep := [2, 3, 4, 5], ren := [(49000, 49000), (49001, 49001), (49002, 49002), (49003, 49003)] } (by kernel_rfl))
  · refine Nxt_norm ?_
    refine Ab.seq ?_
    refine Ab.seq ?_
    refine Ab.regT hE hC hL [] { keep := [2, 3, 4, 5, 7], ren := [(49000, 49000), (49001, 49001), (49002, 49002), (49003, 49003)] } ⟨[(2, (.ref 49000 [] (0))), (3, (.ref 49001 [] (0))), (4, (.ref 49002 [] (0))), (5, (.own 49003)), (7, (.t (.int .i64 (0:Int))))], [(49000, (.var false 24 (.t ((eA 1 (T.int .u8)) (Arr.rep 32 (0:Int)))))), (49001, (.var false 73 (.t ((eA 1 (T.int .u32)) (⟨[(1779033703:Int), (3144134277:Int), (1013904242:Int), (2773480762:Int), (1359893119:Int), (2600822924:Int), (528734635:Int), (1541459225:Int)], rfl⟩ : (Arr 8 Int)))))), (49002, (.var false 76 (.t ((eA 1 (T.int .u32)) r0)))), (49003, (.row false 5 1 (List.map (T.int .u8) x0)))]⟩ [] (by kernel_rfl) trivial ?_
    refine Nxt_norm ?_
    obtain ⟨x3, hx1, h⟩ := bind_some h
    refine Ab.loopX0 (fun ((a8, a9) : ((Arr 8 Int) × Int)) => (⟨[(2, (.ref 49000 [] (0))), (3, (.ref 49001 [] (0))), (4, (.ref 49002 [] (0))), (5, (.own 49003)), (7, (.t (.int .i64 a9)))], [(49000, (.var false 24 (.t ((eA 1 (T.int .u8)) (Arr.rep 32 (0:Int)))))), (49001, (.var false 73 (.t ((eA 1 (T.int .u32)) a8)))), (49002, (.var false 76 (.t ((eA 1 (T.int .u32)) r0)))), (49003, (.row false 5 1 (List.map (T.int .u8) x0)))]⟩ : St)) (fun (a10 : (Arr 8 Int)) => (⟨[(2, (.ref 49000 [] (0))), (3, (.ref 49001 [] (0)))], [(49000, (.var false 24 (.t ((eA 1 (T.int .u8)) (Arr.rep 32 (0:Int)))))), (49001, (.var false 73 (.t ((eA 1 (T.int .u32)) a10))))]⟩ : St)) { fs := [], keep := [2, 3, 4, 5, 7], ren := [(49000, 49000), (49001, 49001), (49002, 49002), (49003, 49003)] } ((⟨[(1779033703:Int), (3144134277:Int), (1013904242:Int), (2773480762:Int), (1359893119:Int), (2600822924:Int), (528734635:Int), (1541459225:Int)], rfl⟩ : (Arr 8 Int)), (0:Int)) hC hL hx1 (by kernel_rfl) ?_ ?_
    · rintro ⟨a8, a9⟩ o1 h
      replace h : f_ref02_Of_b1 n r0 x0 a8 a9 = some o1 := h
      unfold f_ref02_Of_b1 at h
      refine Ab.seq ?_
      refine Ab.seq ?_
      refine Ab.regT hE hC hL [[], [], [.n (x0.length : Int)]] { keep := [2, 3, 4, 5, 7, 64], ren := [(49000, 49000), (49001, 49001), (49002, 49002), (49003, 49003)] } ⟨[(2, (.ref 49000 [] (0))), (3, (.ref 49001 [] (0))), (4, (.ref 49002 [] (0))), (5, (.own 49003)), (7, (.t (.int .i64 a9))), (64, (.t (.bool (decide (a9 < (x0.length : Int))))))], [(49000, (.var false 24 (.t ((eA 1 (T.int .u8)) (Arr.rep 32 (0:Int)))))), (49001, (.var false 73 (.t ((eA 1 (T.int .u32)) a8)))), (49002, (.var false 76 (.t ((eA 1 (T.int .u32)) r0)))), (49003, (.row false 5 1 (List.map (T.int .u8) x0)))]⟩ [((List.length (List.map (T.int .u8) x0) : Nat) : Int) = (x0.length : Int)] (by kernel_rfl) ⟨(len_of rfl), trivial⟩ ?_
      refine Nxt_norm ?_
      refine Ab.cond (b := (decide (a9 < (x0.length : Int)))) (by kernel_rfl) (fun hb1 => ?_) (fun hb1 => ?_)
      · replace h := cond_t hb1 h
        refine Ab.skip ?_
        refine Nxt_norm ?_
        refine Ab.seq ?_
        refine Ab.block ?_
        refine Ab.seq ?_
        refine Ab.regT hE hC hL [] { keep := [2, 3, 4, 5, 7, 8], ren := [(8, 8), (49000, 49000), (49001, 49001), (49002, 49002), (49003, 49003)] } ⟨[(2, (.ref 49000 [] (0))), (3, (.ref 49001 [] (0))), (4, (.ref 49002 [] (0))), (5, (.own 49003)), (7, (.t (.int .i64 a9))), (8, (.ref 8 [] (0)))], [(8, (.var false 76 (.t ((eA 1 (T.int .u32)) (Arr.rep 64 (0:Int)))))), (49000, (.var false 24 (.t ((eA 1 (T.int .u8)) (Arr.rep 32 (0:Int)))))), (49001, (.var false 73 (.t ((eA 1 (T.int .u32)) a8)))), (49002, (.var false 76 (.t ((eA 1 (T.int .u32)) r0)))), (49003, (.row false 5 1 (List.map (T.int .u8) x0)))]⟩ [] (by kernel_rfl) trivial ?_
        refine Nxt_norm ?_
        refine Ab.seq ?_
        refine Ab.seq ?_
        refine Ab.regT hE hC hL [] { keep := [2, 3, 4, 5, 7, 8, 9], ren := [(8, 8), (49000, 49000), (49001, 49001), (49002, 49002), (49003, 49003)] } ⟨[(2, (.ref 49000 [] (0))), (3, (.ref 49001 [] (0))), (4, (.ref 49002 [] (0))), (5, (.own 49003)), (7, (.t (.int .i64 a9))), (8, (.ref 8 [] (0))), (9, (.t (.int .i64 (0:Int))))], [(8, (.var false 76 (.t ((eA 1 (T.int .u32)) (Arr.rep 64 (0:Int)))))), (49000, (.var false 24 (.t ((eA 1 (T.int .u8)) (Arr.rep 32 (0:Int)))))), (49001, (.var false 73 (.t ((eA 1 (T.int .u32)) a8)))), (49002, (.var false 76 (.t ((eA 1 (T.int .u32)) r0)))), (49003, (.row false 5 1 (List.map (T.int .u8) x0)))]⟩ [] (by kernel_rfl) trivial ?_
        refine Nxt_norm ?_
        obtain ⟨x1, hx2, h⟩ := bind_some h
        refine Ab.loopX0 (fun ((a11, a12) : ((Arr 64 Int) × Int)) => (⟨[(2, (.ref 49000 [] (0))), (3, (.ref 49001 [] (0))), (4, (.ref 49002 [] (0))), (5, (.own 49003)), (7, (.t (.int .i64 a9))), (8, (.ref 49004 [] (0))), (9, (.t (.int .i64 a12)))], [(49000, (.var false 24 (.t ((eA 1 (T.int .u8)) (Arr.rep 32 (0:Int)))))), (49001, (.var false 73 (.t ((eA 1 (T.int .u32)) a8)))), (49002, (.var false 76 (.t ((eA 1 (T.int .u32)) r0)))), (49003, (.row false 5 1 (List.map (T.int .u8) x0))), (49004, (.var false 76 (.t ((eA 1 (T.int .u32)) a11))))]⟩ : St)) (fun (a13 : (Arr 64 Int)) => (⟨[(2, (.ref 49000 [] (0))), (3, (.ref 49001 [] (0))), (4, (.ref 49002 [] (0))), (5, (.own 49003)), (7, (.t (.int .i64 a9))), (8, (.ref 49004 [] (0)))], [(49000, (.var false 24 (.t ((eA 1 (T.int .u8)) (Arr.rep 32 (0:Int)))))), (49001, (.var false 73 (.t ((eA 1 (T.int .u32)) a8)))), (49002, (.var false 76 (.t ((eA 1 (T.int .u32)) r0)))), (49003, (.row false 5 1 (List.map (T.int .u8) x0))), (49004, (.var false 76 (.t ((eA 1 (T.int .u32)) a13))))]⟩ : St)) { fs := [], keep := [2, 3, 4, 5, 7, 8, 9], ren := [(49000, 49000), (49001, 49001), (49002, 49002), (49003, 49003), (8, 49004)] } ((Arr.rep 64 (0:Int)), (0:Int)) hC hL hx2 (by kernel_rfl) ?_ ?_
        · rintro ⟨a11, a12⟩ o2 h
          replace h : f_ref02_Of_b2 n a9 x0 a11 a12 = some o2 := h
          unfold f_ref02_Of_b2 at h
          refine Ab.seq ?_
          refine Ab.seq ?_
          refine Ab.regT hE hC hL [] { keep := [2, 3, 4, 5, 7, 8, 9, 69], ren := [(49000, 49000), (49001, 49001), (49002, 49002), (49003, 49003), (49004, 49004)] } ⟨[(2, (.ref 49000 [] (0))), (3, (.ref 49001 [] (0))), (4, (.ref 49002 [] (0))), (5, (.own 49003)), (7, (.t (.int .i64 a9))), (8, (.ref 49004 [] (0))), (9, (.t (.int .i64 a12))), (69, (.t (.bool (decide (a12 < (64:Int))))))], [(49000, (.var false 24 (.t ((eA 1 (T.int .u8)) (Arr.rep 32 (0:Int)))))), (49001, (.var false 73 (.t ((eA 1 (T.int .u32)) a8)))), (49002, (.var false 76 (.t ((eA 1 (T.int .u32)) r0)))), (49003, (.row false 5 1 (List.map (T.int .u8) x0))), (49004, (.var false 76 (.t ((eA 1 (T.int .u32)) a11))))]⟩ [] (by kernel_rfl) trivial ?_
          refine Nxt_norm ?_
          refine Ab.cond (b := (decide (a12 < (64:Int)))) (by kernel_rfl) (fun hb2 => ?_) (fun hb2 => ?_)
          · replace h := cond_t hb2 h
            refine Ab.skip ?_
            refine Nxt_norm ?_
            refine Ab.seq ?_
            refine Ab.block ?_
            refine Ab.seq ?_
            refine Ab.seq ?_
            refine Ab.regT hE hC hL [] { keep := [2, 3, 4, 5, 7, 8, 9, 73], ren := [(49000, 49000), (49001, 49001), (49002, 49002), (49003, 49003), (49004, 49004)] } ⟨[(2, (.ref 49000 [] (0))), (3, (.ref 49001 [] (0))), (4, (.ref 49002 [] (0))), (5, (.own 49003)), (7, (.t (.int .i64 a9))), (8, (.ref 49004 [] (0))), (9, (.t (.int .i64 a12))), (73, (.t (.bool (decide (a12 < (16:Int))))))], [(49000, (.var false 24 (.t ((eA 1 (T.int .u8)) (Arr.rep 32 (0:Int)))))), (49001, (.var false 73 (.t ((eA 1 (T.int .u32)) a8)))), (49002, (.var false 76 (.t ((eA 1 (T.int .u32)) r0)))), (49003, (.row false 5 1 (List.map (T.int .u8) x0))), (49004, (.var false 76 (.t ((eA 1 (T.int .u32)) a11))))]⟩ [] (by kernel_rfl) trivial ?_
            refine Nxt_norm ?_
            refine Ab.cond (b := (decide (a12 < (16:Int)))) (by kernel_rfl) (fun hb3 => ?_) (fun hb3 => ?_)
            · replace h := cond_t hb3 h
              refine Ab.seq ?_
              refine Ab.regT hE hC hL [] { keep := [2, 3, 4, 5, 7, 8, 9, 10], ren := [(49000, 49000), (49001, 49001), (49002, 49002), (49003, 49003), (49004, 49004)] } ⟨[(2, (.ref 49000 [] (0))), (3, (.ref 49001 [] (0))), (4, (.ref 49002 [] (0))), (5, (.own 49003)), (7, (.t (.int .i64 a9))), (8, (.ref 49004 [] (0))), (9, (.t (.int .i64 a12))), (10, (.t (.int .i64 (wi (a9 + (wi ((4:Int) * a12)))))))], [(49000, (.var false 24 (.t ((eA 1 (T.int .u8)) (Arr.rep 32 (0:Int)))))), (49001, (.var false 73 (.t ((eA 1 (T.int .u32)) a8)))), (49002, (.var false 76 (.t ((eA 1 (T.int .u32)) r0)))), (49003, (.row false 5 1 (List.map (T.int .u8) x0))), (49004, (.var false 76 (.t ((eA 1 (T.int .u32)) a11))))]⟩ [] (by kernel_rfl) trivial ?_
              refine Nxt_norm ?_
              refine Ab.seq ?_
              obtain ⟨hq6, h⟩ := ask_dec h
              obtain ⟨hq7, h⟩ := ask_dec h
              obtain ⟨v2, hv2, h⟩ := bind_some h
              obtain ⟨hq8, h⟩ := ask_dec h
              obtain ⟨hq9, h⟩ := ask_dec h
              obtain ⟨v3, hv3, h⟩ := bind_some h
              obtain ⟨hq10, h⟩ := ask_dec h
              obtain ⟨hq11, h⟩ := ask_dec h
              obtain ⟨v4, hv4, h⟩ := bind_some h
              obtain ⟨hq12, h⟩ := ask_dec h
              obtain ⟨hq13, h⟩ := ask_dec h
              obtain ⟨v5, hv5, h⟩ := bind_some h
              obtain ⟨hq14, h⟩ := ask_dec h
              obtain ⟨v6, hv6, h⟩ := bind_some h
              refine Ab.regA hE hC hL [[], [], [], [.c], [.t (.int .u8 v2)], [], [], [], [], [], [.c], [.t (.int .u8 v3)], [], [], [], [], [], [], [.c], [.t (.int .u8 v4)], [], [], [], [], [], [], [.c], [.t (.int .u8 v5)], [], [], [.c], [.t (.int .u32 v6), .l (List.map (T.int .u32) (Arr.set a11 (a12.toNat) (bits .or .u32 (bits .or .u32 (bits .or .u32 (shl .u32 (w32 v2) (24:Int)) (shl .u32 (w32 v3) (16:Int))) (shl .u32 (w32 v4) (8:Int))) (w32 v5))).l)]] { keep := [2, 3, 4, 5, 7, 8, 9], ren := [(49000, 49000), (49001, 49001), (49002, 49002), (49003, 49003), (49004, 49004)] } ⟨[(2, (.ref 49000 [] (0))), (3, (.ref 49001 [] (0))), (4, (.ref 49002 [] (0))), (5, (.own 49003)), (7, (.t (.int .i64 a9))), (8, (.ref 49004 [] (0))), (9, (.t (.int .i64 a12)))], [(49000, (.var false 24 (.t ((eA 1 (T.int .u8)) (Arr.rep 32 (0:Int)))))), (49001, (.var false 73 (.t ((eA 1 (T.int .u32)) a8)))), (49002, (.var false 76 (.t ((eA 1 (T.int .u32)) r0)))), (49003, (.row false 5 1 (List.map (T.int .u8) x0))), (49004, (.var false 76 (.t ((eA 1 (T.int .u32)) (Arr.set a11 (a12.toNat) (bits .or .u32 (bits .or .u32 (bits .or .u32 (shl .u32 (w32 v2) (24:Int)) (shl .u32 (w32 v3) (16:Int))) (shl .u32 (w32 v4) (8:Int))) (w32 v5)))))))]⟩ [0 ≤ (wi (a9 + (wi ((4:Int) * a12)))), (wi (a9 + (wi ((4:Int) * a12)))).toNat < List.length (List.map (T.int .u8) x0), (wi (a9 + (wi ((4:Int) * a12)))).toNat * 1 + 0 = (wi (a9 + (wi ((4:Int) * a12)))).toNat * 1, (List.map (T.int .u8) x0)[(wi (a9 + (wi ((4:Int) * a12)))).toNat]? = some (.int .u8 v2), 0 ≤ (wi ((wi (a9 + (wi ((4:Int) * a12)))) + (1:Int))), (wi ((wi (a9 + (wi ((4:Int) * a12)))) + (1:Int))).toNat < List.length (List.map (T.int .u8) x0), (wi ((wi (a9 + (wi ((4:Int) * a12)))) + (1:Int))).toNat * 1 + 0 = (wi ((wi (a9 + (wi ((4:Int) * a12)))) + (1:Int))).toNat * 1, (List.map (T.int .u8) x0)[(wi ((wi (a9 + (wi ((4:Int) * a12)))) + (1:Int))).toNat]? = some (.int .u8 v3), 0 ≤ (wi ((wi (a9 + (wi ((4:Int) * a12)))) + (2:Int))), (wi ((wi (a9 + (wi ((4:Int) * a12)))) + (2:Int))).toNat < List.length (List.map (T.int .u8) x0), (wi ((wi (a9 + (wi ((4:Int) * a12)))) + (2:Int))).toNat * 1 + 0 = (wi ((wi (a9 + (wi ((4:Int) * a12)))) + (2:Int))).toNat * 1, (List.map (T.int .u8) x0)[(wi ((wi (a9 + (wi ((4:Int) * a12)))) + (2:Int))).toNat]? = some (.int .u8 v4), 0 ≤ (wi ((wi (a9 + (wi ((4:Int) * a12)))) + (3:Int))), (wi ((wi (a9 + (wi ((4:Int) * a12)))) + (3:Int))).toNat < List.length (List.map (T.int .u8) x0), (wi ((wi (a9 + (wi ((4:Int) * a12)))) + (3:Int))).toNat * 1 + 0 = (wi ((wi (a9 + (wi ((4:Int) * a12)))) + (3:Int))).toNat * 1, (List.map (T.int .u8) x0)[(wi ((wi (a9 + (wi ((4:Int) * a12)))) + (3:Int))).toNat]? = some (.int .u8 v5), 0 ≤ a12, a12 < ((64 : Nat) : Int), a12.toNat * 1 + 0 = 0 + a12.toNat * 1, (List.map (T.int .u32) a11.l)[a12.toNat]? = some (.int .u32 v6), (List.map (T.int .u32) a11.l)[a12.toNat]? = some (.int .u32 v6), (List.map (T.int .u32) a11.l).set a12.toNat (.int .u32 (bits .or .u32 (bits .or .u32 (bits .or .u32 (shl .u32 (w32 v2) (24:Int)) (shl .u32 (w32 v3) (16:Int))) (shl .u32 (w32 v4) (8:Int))) (w32 v5))) = List.map (T.int .u32) (Arr.set a11 (a12.toNat) (bits .or .u32 (bits .or .u32 (bits .or .u32 (shl .u32 (w32 v2) (24:Int)) (shl .u32 (w32 v3) (16:Int))) (shl .u32 (w32 v4) (8:Int))) (w32 v5))).l] (by kernel_rfl) (by kernel_rfl) ⟨hq6, (by rw [List.length_map]; exact hq7), (by omega), (at_map hv2), hq8, (by rw [List.length_map]; exact hq9), (by omega), (at_map hv3), hq10, (by rw [List.length_map]; exact hq11), (by omega), (at_map hv4), hq12, (by rw [List.length_map]; exact hq13), (by omega), (at_map hv5), hq14, (of_decide_eq_true hb2), (by omega), (at_map hv6), (at_map hv6), set_map, trivial⟩ ?_
              refine Nxt_norm ?_
              refine Ab.exit ?_
              refine Nxt_exit ?_
              refine Blk_same ?_
              refine Nxt_norm ?_
              refine Ab.regT hE hC hL [] { keep := [2, 3, 4, 5, 7, 8, 9], ren := [(49000, 49000), (49001, 49001), (49002, 49002), (49003, 49003), (49004, 49004)] } ⟨[(2, (.ref 49000 [] (0))), (3, (.ref 49001 [] (0))), (4, (.ref 49002 [] (0))), (5, (.own 49003)), (7, (.t (.int .i64 a9))), (8, (.ref 49004 [] (0))), (9, (.t (.int .i64 (wi (a12 + (1:Int))))))], [(49000, (.var false 24 (.t ((eA 1 (T.int .u8)) (Arr.rep 32 (0:Int)))))), (49001, (.var false 73 (.t ((eA 1 (T.int .u32)) a8)))), (49002, (.var false 76 (.t ((eA 1 (T.int .u32)) r0)))), (49003, (.row false 5 1 (List.map (T.int .u8) x0))), (49004, (.var false 76 (.t ((eA 1 (T.int .u32)) (Arr.set a11 (a12.toNat) (bits .or .u32 (bits .or .u32 (bits .or .u32 (shl .u32 (w32 v2) (24:Int)) (shl .u32 (w32 v3) (16:Int))) (shl .u32 (w32 v4) (8:Int))) (w32 v5)))))))]⟩ [] (by kernel_rfl) trivial ?_
              exact LK_norm ((Arr.set a11 (a12.toNat) (bits .or .u32 (bits .or .u32 (bits .or .u32 (shl .u32 (w32 v2) (24:Int)) (shl .u32 (w32 v3) (16:Int))) (shl .u32 (w32 v4) (8:Int))) (w32 v5))), (wi (a12 + (1:Int)))) { fs := [], keep := [2, 3, 4, 5, 7, 8, 9], ren := [(49000, 49000), (49001, 49001), (49002, 49002), (49003, 49003), (49004, 49004)] } h (by kernel_rfl)
            · replace h := cond_f hb3 h
              refine Ab.skip ?_
              refine Nxt_norm ?_
              refine Ab.seq ?_
              obtain ⟨hq15, h⟩ := ask_dec h
              obtain ⟨hq16, h⟩ := ask_dec h
              obtain ⟨v7, hv7, h⟩ := bind_some h
              obtain ⟨hq17, h⟩ := ask_dec h
              obtain ⟨hq18, h⟩ := ask_dec h
              obtain ⟨v8, hv8, h⟩ := bind_some h
              refine Ab.regA hE hC hL [[], [], [.c], [.t (.int .u32 v7)], [], [], [.c], [.t (.int .u32 v8)]] { keep := [2, 3, 4, 5, 7, 8, 9, 11, 12], ren := [(49000, 49000), (49001, 49001), (49002, 49002), (49003, 49003), (49004, 49004)] } ⟨[(2, (.ref 49000 [] (0))), (3, (.ref 49001 [] (0))), (4, (.ref 49002 [] (0))), (5, (.own 49003)), (7, (.t (.int .i64 a9))), (8, (.ref 49004 [] (0))), (9, (.t (.int .i64 a12))), (11, (.t (.int .u32 v7))), (12, (.t (.int .u32 v8)))], [(49000, (.var false 24 (.t ((eA 1 (T.int .u8)) (Arr.rep 32 (0:Int)))))), (49001, (.var false 73 (.t ((eA 1 (T.int .u32)) a8)))), (49002, (.var false 76 (.t ((eA 1 (T.int .u32)) r0)))), (49003, (.row false 5 1 (List.map (T.int .u8) x0))), (49004, (.var false 76 (.t ((eA 1 (T.int .u32)) a11))))]⟩ [0 ≤ (wi (a12 - (15:Int))), (wi (a12 - (15:Int))) < ((64 : Nat) : Int), (wi (a12 - (15:Int))).toNat * 1 + 0 = 0 + (wi (a12 - (15:Int))).toNat * 1, (List.map (T.int .u32) a11.l)[(wi (a12 - (15:Int))).toNat]? = some (.int .u32 v7), 0 ≤ (wi (a12 - (2:Int))), (wi (a12 - (2:Int))) < ((64 : Nat) : Int), (wi (a12 - (2:Int))).toNat * 1 + 0 = 0 + (wi (a12 - (2:Int))).toNat * 1, (List.map (T.int .u32) a11.l)[(wi (a12 - (2:Int))).toNat]? = some (.int .u32 v8)] (by kernel_rfl) (by kernel_rfl) ⟨hq15, hq16, (by omega), (at_map hv7), hq17, hq18, (by omega), (at_map hv8), trivial⟩ ?_
              refine Nxt_norm ?_
              obtain ⟨hq19, h⟩ := ask_dec h
              obtain ⟨hq20, h⟩ := ask_dec h
              obtain ⟨v9, hv9, h⟩ := bind_some h
              obtain ⟨r1, hr1, h⟩ := bind_some h
              obtain ⟨r2, hr2, h⟩ := bind_some h
              obtain ⟨hq21, h⟩ := ask_dec h
              obtain ⟨hq22, h⟩ := ask_dec h
              obtain ⟨v10, hv10, h⟩ := bind_some h
              obtain ⟨r3, hr3, h⟩ := bind_some h
              obtain ⟨r4, hr4, h⟩ := bind_some h
              obtain ⟨hq23, h⟩ := ask_dec h
              obtain ⟨v11, hv11, h⟩ := bind_some h
              refine Ab.regA hE hC hL [[], [], [], [.c], [.t (.int .u32 v9)], [], [.r [.tree (.int .u32 r1)] []], [], [.r [.tree (.int .u32 r2)] []], [], [], [], [], [], [], [], [.c], [.t (.int .u32 v10)], [], [], [.r [.tree (.int .u32 r3)] []], [], [.r [.tree (.int .u32 r4)] []], [], [], [], [], [], [.c], [.t (.int .u32 v11), .l (List.map (T.int .u32) (Arr.set a11 (a12.toNat) (w32 ((w32 ((w32 (v9 + (bits .xor .u32 (bits .xor .u32 r1 r2) (shr .u32 v7 (3:Int))))) + v10)) + (bits .xor .u32 (bits .xor .u32 r3 r4) (shr .u32 v8 (10:Int)))))).l)]] { keep := [2, 3, 4, 5, 7, 8, 9], ren := [(49000, 49000), (49001, 49001), (49002, 49002), (49003, 49003), (49004, 49004)] } ⟨[(2, (.ref 49000 [] (0))), (3, (.ref 49001 [] (0))), (4, (.ref 49002 [] (0))), (5, (.own 49003)), (7, (.t (.int .i64 a9))), (8, (.ref 49004 [] (0))), (9, (.t (.int .i64 a12)))], [(49000, (.var false 24 (.t ((eA 1 (T.int .u8)) (Arr.rep 32 (0:Int)))))), (49001, (.var false 73 (.t ((eA 1 (T.int .u32)) a8)))), (49002, (.var false 76 (.t ((eA 1 (T.int .u32)) r0)))), (49003, (.row false 5 1 (List.map (T.int .u8) x0))), (49004, (.var false 76 (.t ((eA 1 (T.int .u32)) (Arr.set a11 (a12.toNat) (w32 ((w32 ((w32 (v9 + (bits .xor .u32 (bits .xor .u32 r1 r2) (shr .u32 v7 (3:Int))))) + v10)) + (bits .xor .u32 (bits .xor .u32 r3 r4) (shr .u32 v8 (10:Int))))))))))]⟩ [0 ≤ (wi (a12 - (16:Int))), (wi (a12 - (16:Int))) < ((64 : Nat) : Int), (wi (a12 - (16:Int))).toNat * 1 + 0 = 0 + (wi (a12 - (16:Int))).toNat * 1, (List.map (T.int .u32) a11.l)[(wi (a12 - (16:Int))).toNat]? = some (.int .u32 v9), (sp_ref02_right n).fn [(.int .u32 v7), (.int .i64 (7:Int))] = some ([.tree (.int .u32 r1)], []), (sp_ref02_right n).fn [(.int .u32 v7), (.int .i64 (18:Int))] = some ([.tree (.int .u32 r2)], []), 0 ≤ (wi (a12 - (7:Int))), (wi (a12 - (7:Int))) < ((64 : Nat) : Int), (wi (a12 - (7:Int))).toNat * 1 + 0 = 0 + (wi (a12 - (7:Int))).toNat * 1, (List.map (T.int .u32) a11.l)[(wi (a12 - (7:Int))).toNat]? = some (.int .u32 v10), (sp_ref02_right n).fn [(.int .u32 v8), (.int .i64 (17:Int))] = some ([.tree (.int .u32 r3)], []), (sp_ref02_right n).fn [(.int .u32 v8), (.int .i64 (19:Int))] = some ([.tree (.int .u32 r4)], []), 0 ≤ a12, a12 < ((64 : Nat) : Int), a12.toNat * 1 + 0 = 0 + a12.toNat * 1, (List.map (T.int .u32) a11.l)[a12.toNat]? = some (.int .u32 v11), (List.map (T.int .u32) a11.l)[a12.toNat]? = some (.int .u32 v11), (List.map (T.int .u32) a11.l).set a12.toNat (.int .u32 (w32 ((w32 ((w32 (v9 + (bits .xor .u32 (bits .xor .u32 r1 r2) (shr .u32 v7 (3:Int))))) + v10)) + (bits .xor .u32 (bits .xor .u32 r3 r4) (shr .u32 v8 (10:Int)))))) = List.map (T.int .u32) (Arr.set a11 (a12.toNat) (w32 ((w32 ((w32 (v9 + (bits .xor .u32 (bits .xor .u32 r1 r2) (shr .u32 v7 (3:Int))))) + v10)) + (bits .xor .u32 (bits .xor .u32 r3 r4) (shr .u32 v8 (10:Int)))))).l] (by kernel_rfl) (by kernel_rfl) ⟨hq19, hq20, (by omega), (at_map hv9), (ap_ref02_right n (by exact ⟨leT.refl _, leT.refl _, trivial⟩) hr1), (ap_ref02_right n (by exact ⟨leT.refl _, leT.refl _, trivial⟩) hr2), hq21, hq22, (by omega), (at_map hv10), (ap_ref02_right n (by exact ⟨leT.refl _, leT.refl _, trivial⟩) hr3), (ap_ref02_right n (by exact ⟨leT.refl _, leT.refl _, trivial⟩) hr4), hq23, (of_decide_eq_true hb2), (by omega), (at_map hv11), (at_map hv11), set_map, trivial⟩ ?_
              refine Blk_norm ?_
              refine Nxt_norm ?_
              refine Ab.regT hE hC hL [] { keep := [2, 3, 4, 5, 7, 8, 9], ren := [(49000, 49000), (49001, 49001), (49002, 49002), (49003, 49003), (49004, 49004)] } ⟨[(2, (.ref 49000 [] (0))), (3, (.ref 49001 [] (0))), (4, (.ref 49002 [] (0))), (5, (.own 49003)), (7, (.t (.int .i64 a9))), (8, (.ref 49004 [] (0))), (9, (.t (.int .i64 (wi (a12 + (1:Int))))))], [(49000, (.var false 24 (.t ((eA 1 (T.int .u8)) (Arr.rep 32 (0:Int)))))), (49001, (.var false 73 (.t ((eA 1 (T.int .u32)) a8)))), (49002, (.var false 76 (.t ((eA 1 (T.int .u32)) r0)))), (49003, (.row false 5 1 (List.map (T.int .u8) x0))), (49004, (.var false 76 (.t ((eA 1 (T.int .u32)) (Arr.set a11 (a12.toNat) (w32 ((w32 ((w32 (v9 + (bits .xor .u32 (bits .xor .u32 r1 r2) (shr .u32 v7 (3:Int))))) + v10)) + (bits .xor .u32 (bits .xor .u32 r3 r4) (shr .u32 v8 (10:Int))))))))))]⟩ [] (by kernel_rfl) trivial ?_
              exact LK_norm ((Arr.set a11 (a12.toNat) (w32 ((w32 ((w32 (v9 + (bits .xor .u32 (bits .xor .u32 r1 r2) (shr .u32 v7 (3:Int))))) + v10)) + (bits .xor .u32 (bits .xor .u32 r3 r4) (shr .u32 v8 (10:Int)))))), (wi (a12 + (1:Int)))) { fs := [], keep := [2, 3, 4, 5, 7, 8, 9], ren := [(49000, 49000), (49001, 49001), (49002, 49002), (49003, 49003), (49004, 49004)] } h (by kernel_rfl)
          · replace h := cond_f hb2 h
            refine Ab.exit ?_
            refine Nxt_exit ?_
            exact LK_exit a11 h (PX_mk { fs := [], keep := [2, 3, 4, 5, 7, 8], ren := [(49000, 49000), (49001, 49001), (49002, 49002), (49003, 49003), (49004, 49004)] } (by kernel_rfl))
        · refine Nxt_norm ?_
          refine Ab.seq ?_
          obtain ⟨v12, hv12, h⟩ := bind_some h
          obtain ⟨v13, hv13, h⟩ := bind_some h
          obtain ⟨v14, hv14, h⟩ := bind_some h
          obtain ⟨v15, hv15, h⟩ := bind_some h
          obtain ⟨v16, hv16, h⟩ := bind_some h
          obtain ⟨v17, hv17, h⟩ := bind_some h
          obtain ⟨v18, hv18, h⟩ := bind_some h
          obtain ⟨v19, hv19, h⟩ := bind_some h
          refine Ab.regA hE hC hL [[], [.t (.int .u32 v12)], [], [.t (.int .u32 v13)], [], [.t (.int .u32 v14)], [], [.t (.int .u32 v15)], [], [.t (.int .u32 v16)], [], [.t (.int .u32 v17)], [], [.t (.int .u32 v18)], [], [.t (.int .u32 v19)]] { keep := [2, 3, 4, 5, 7, 8, 13, 14, 15, 16, 17, 18, 19, 20], ren := [(49000, 49000), (49001, 49001), (49002, 49002), (49003, 49003), (49004, 49004)] } ⟨[(2, (.ref 49000 [] (0))), (3, (.ref 49001 [] (0))), (4, (.ref 49002 [] (0))), (5, (.own 49003)), (7, (.t (.int .i64 a9))), (8, (.ref 49004 [] (0))), (13, (.t (.int .u32 v12))), (14, (.t (.int .u32 v13))), (15, (.t (.int .u32 v14))), (16, (.t (.int .u32 v15))), (17, (.t (.int .u32 v16))), (18, (.t (.int .u32 v17))), (19, (.t (.int .u32 v18))), (20, (.t (.int .u32 v19)))], [(49000, (.var false 24 (.t ((eA 1 (T.int .u8)) (Arr.rep 32 (0:Int)))))), (49001, (.var false 73 (.t ((eA 1 (T.int .u32)) a8)))), (49002, (.var false 76 (.t ((eA 1 (T.int .u32)) r0)))), (49003, (.row false 5 1 (List.map (T.int .u8) x0))), (49004, (.var false 76 (.t ((eA 1 (T.int .u32)) x1))))]⟩ [0 = 0, (List.map (T.int .u32) a8.l)[0]? = some (.int .u32 v12), 1 = 1, (List.map (T.int .u32) a8.l)[1]? = some (.int .u32 v13), 2 = 2, (List.map (T.int .u32) a8.l)[2]? = some (.int .u32 v14), 3 = 3, (List.map (T.int .u32) a8.l)[3]? = some (.int .u32 v15), 4 = 4, (List.map (T.int .u32) a8.l)[4]? = some (.int .u32 v16), 5 = 5, (List.map (T.int .u32) a8.l)[5]? = some (.int .u32 v17), 6 = 6, (List.map (T.int .u32) a8.l)[6]? = some (.int .u32 v18), 7 = 7, (List.map (T.int .u32) a8.l)[7]? = some (.int .u32 v19)] (by kernel_rfl) (by kernel_rfl) ⟨(by omega), (at_map hv12), (by omega), (at_map hv13), (by omega), (at_map hv14), (by omega), (at_map hv15), (by omega), (at_map hv16), (by omega), (at_map hv17), (by omega), (at_map hv18), (by omega), (at_map hv19), trivial⟩ ?_
          refine Nxt_norm ?_
          refine Ab.seq ?_
          refine Ab.seq ?_
          refine Ab.regT hE hC hL [] { keep := [2, 3, 4, 5, 7, 8, 13, 14, 15, 16, 17, 18, 19, 20, 21], ren := [(49000, 49000), (49001, 49001), (49002, 49002), (49003, 49003), (49004, 49004)] } ⟨[(2, (.ref 49000 [] (0))), (3, (.ref 49001 [] (0))), (4, (.ref 49002 [] (0))), (5, (.own 49003)), (7, (.t (.int .i64 a9))), (8, (.ref 49004 [] (0))), (13, (.t (.int .u32 v12))), (14, (.t (.int .u32 v13))), (15, (.t (.int .u32 v14))), (16, (.t (.int .u32 v15))), (17, (.t (.int .u32 v16))), (18, (.t (.int .u32 v17))), (19, (.t (.int .u32 v18))), (20, (.t (.int .u32 v19))), (21, (.t (.int .i64 (0:Int))))], [(49000, (.var false 24 (.t ((eA 1 (T.int .u8)) (Arr.rep 32 (0:Int)))))), (49001, (.var false 73 (.t ((eA 1 (T.int .u32)) a8)))), (49002, (.var false 76 (.t ((eA 1 (T.int .u32)) r0)))), (49003, (.row false 5 1 (List.map (T.int .u8) x0))), (49004, (.var false 76 (.t ((eA 1 (T.int .u32)) x1))))]⟩ [] (by kernel_rfl) trivial ?_
          refine Nxt_norm ?_
          obtain ⟨x2, hx3, h⟩ := bind_some h
          refine Ab.loopX0 (fun ((a21, a22, a23, a24, a25, a26, a27, a28, a29) : (Int × Int × Int × Int × Int × Int × Int × Int × Int)) => (⟨[(2, (.ref 49000 [] (0))), (3, (.ref 49001 [] (0))), (4, (.ref 49002 [] (0))), (5, (.own 49003)), (7, (.t (.int .i64 a9))), (8, (.ref 49004 [] (0))), (13, (.t (.int .u32 a21))), (14, (.t (.int .u32 a22))), (15, (.t (.int .u32 a23))), (16, (.t (.int .u32 a24))), (17, (.t (.int .u32 a25))), (18, (.t (.int .u32 a26))), (19, (.t (.int .u32 a27))), (20, (.t (.int .u32 a28))), (21, (.t (.int .i64 a29)))], [(49000, (.var false 24 (.t ((eA 1 (T.int .u8)) (Arr.rep 32 (0:Int)))))), (49001, (.var false 73 (.t ((eA 1 (T.int .u32)) a8)))), (49002, (.var false 76 (.t ((eA 1 (T.int .u32)) r0)))), (49003, (.row false 5 1 (List.map (T.int .u8) x0))), (49004, (.var false 76 (.t ((eA 1 (T.int .u32)) x1))))]⟩ : St)) (fun ((a30, a31, a32, a33, a34, a35, a36, a37) : (Int × Int × Int × Int × Int × Int × Int × Int)) => (⟨[(2, (.ref 49000 [] (0))), (3, (.ref 49001 [] (0))), (4, (.ref 49002 [] (0))), (5, (.own 49003)), (7, (.t (.int .i64 a9))), (13, (.t (.int .u32 a30))), (14, (.t (.int .u32 a31))), (15, (.t (.int .u32 a32))), (16, (.t (.int .u32 a33))), (17, (.t (.int .u32 a34))), (18, (.t (.int .u32 a35))), (19, (.t (.int .u32 a36))), (20, (.t (.int .u32 a37)))], [(49000, (.var false 24 (.t ((eA 1 (T.int .u8)) (Arr.rep 32 (0:Int)))))), (49001, (.var false 73 (.t ((eA 1 (T.int .u32)) a8)))), (49002, (.var false 76 (.t ((eA 1 (T.int .u32)) r0)))), (49003, (.row false 5 1 (List.map (T.int .u8) x0)))]⟩ : St)) { fs := [], keep := [2, 3, 4, 5, 7, 8, 13, 14, 15, 16, 17, 18, 19, 20, 21], ren := [(49000, 49000), (49001, 49001), (49002, 49002), (49003, 49003), (49004, 49004)] } (v12, v13, v14, v15, v16, v17, v18, v19, (0:Int)) hC hL hx3 (by kernel_rfl) ?_ ?_
          · rintro ⟨a21, a22, a23, a24, a25, a26, a27, a28, a29⟩ o3 h
            replace h : f_ref02_Of_b3 n r0 x1 a21 a22 a23 a24 a25 a26 a27 a28 a29 = some o3 := h
            unfold f_ref02_Of_b3 at h
            refine Ab.seq ?_
            refine Ab.seq ?_
            refine Ab.regT hE hC hL [] { keep := [2, 3, 4, 5, 7, 8, 13, 14, 15, 16, 17, 18, 19, 20, 21, 163], ren := [(49000, 49000), (49001, 49001), (49002, 49002), (49003, 49003), (49004, 49004)] } ⟨[(2, (.ref 49000 [] (0))), (3, (.ref 49001 [] (0))), (4, (.ref 49002 [] (0))), (5, (.own 49003)), (7, (.t (.int .i64 a9))), (8, (.ref 49004 [] (0))), (13, (.t (.int .u32 a21))), (14, (.t (.int .u32 a22))), (15, (.t (.int .u32 a23))), (16, (.t (.int .u32 a24))), (17, (.t (.int .u32 a25))), (18, (.t (.int .u32 a26))), (19, (.t (.int .u32 a27))), (20, (.t (.int .u32 a28))), (21, (.t (.int .i64 a29))), (163, (.t (.bool (decide (a29 < (64:Int))))))], [(49000, (.var false 24 (.t ((eA 1 (T.int .u8)) (Arr.rep 32 (0:Int)))))), (49001, (.var false 73 (.t ((eA 1 (T.int .u32)) a8)))), (49002, (.var false 76 (.t ((eA 1 (T.int .u32)) r0)))), (49003, (.row false 5 1 (List.map (T.int .u8) x0))), (49004, (.var false 76 (.t ((eA 1 (T.int .u32)) x1))))]⟩ [] (by kernel_rfl) trivial ?_
            refine Nxt_norm ?_
            refine Ab.cond (b := (decide (a29 < (64:Int)))) (by kernel_rfl) (fun hb4 => ?_) (fun hb4 => ?_)
            · replace h := cond_t hb4 h
              refine Ab.skip ?_
              refine Nxt_norm ?_
              refine Ab.seq ?_
              refine Ab.block ?_
              refine Ab.seq ?_
              obtain ⟨r5, hr5, h⟩ := bind_some h
              obtain ⟨r6, hr6, h⟩ := bind_some h
              obtain ⟨r7, hr7, h⟩ := bind_some h
              obtain ⟨hq24, h⟩ := ask_dec h
              obtain ⟨v20, hv20, h⟩ := bind_some h
              obtain ⟨v21, hv21, h⟩ := bind_some h
              refine Ab.regA hE hC hL [[], [], [.r [.tree (.int .u32 r5)] []], [], [.r [.tree (.int .u32 r6)] []], [], [], [.r [.tree (.int .u32 r7)] []], [], [], [], [], [], [], [], [], [], [], [], [], [.c], [.t (.int .u32 v20)], [], [], [.c], [.t (.int .u32 v21)]] { keep := [2, 3, 4, 5, 7, 8, 13, 14, 15, 16, 17, 18, 19, 21, 22], ren := [(49000, 49000), (49001, 49001), (49002, 49002), (49003, 49003), (49004, 49004)] } ⟨[(2, (.ref 49000 [] (0))), (3, (.ref 49001 [] (0))), (4, (.ref 49002 [] (0))), (5, (.own 49003)), (7, (.t (.int .i64 a9))), (8, (.ref 49004 [] (0))), (13, (.t (.int .u32 a21))), (14, (.t (.int .u32 a22))), (15, (.t (.int .u32 a23))), (16, (.t (.int .u32 a24))), (17, (.t (.int .u32 a25))), (18, (.t (.int .u32 a26))), (19, (.t (.int .u32 a27))), (21, (.t (.int .i64 a29))), (22, (.t (.int .u32 (w32 ((w32 ((w32 ((w32 (a28 + (bits .xor .u32 (bits .xor .u32 r5 r6) r7))) + (bits .xor .u32 (bits .and .u32 a25 a26) (bits .and .u32 (bits .xor .u32 (4294967295) a25) a27)))) + v20)) + v21)))))], [(49000, (.var false 24 (.t ((eA 1 (T.int .u8)) (Arr.rep 32 (0:Int)))))), (49001, (.var false 73 (.t ((eA 1 (T.int .u32)) a8)))), (49002, (.var false 76 (.t ((eA 1 (T.int .u32)) r0)))), (49003, (.row false 5 1 (List.map (T.int .u8) x0))), (49004, (.var false 76 (.t ((eA 1 (T.int .u32)) x1))))]⟩ [(sp_ref02_right n).fn [(.int .u32 a25), (.int .i64 (6:Int))] = some ([.tree (.int .u32 r5)], []), (sp_ref02_right n).fn [(.int .u32 a25), (.int .i64 (11:Int))] = some ([.tree (.int .u32 r6)], []), (sp_ref02_right n).fn [(.int .u32 a25), (.int .i64 (25:Int))] = some ([.tree (.int .u32 r7)], []), 0 ≤ a29, a29 < ((64 : Nat) : Int), a29.toNat * 1 + 0 = 0 + a29.toNat * 1, (List.map (T.int .u32) r0.l)[a29.toNat]? = some (.int .u32 v20), 0 ≤ a29, a29 < ((64 : Nat) : Int), a29.toNat * 1 + 0 = 0 + a29.toNat * 1, (List.map (T.int .u32) x1.l)[a29.toNat]? = some (.int .u32 v21)] (by kernel_rfl) (by kernel_rfl) ⟨(ap_ref02_right n (by exact ⟨leT.refl _, leT.refl _, trivial⟩) hr5), (ap_ref02_right n (by exact ⟨leT.refl _, leT.refl _, trivial⟩) hr6), (ap_ref02_right n (by exact ⟨leT.refl _, leT.refl _, trivial⟩) hr7), hq24, (of_decide_eq_true hb4), (by omega), (at_map hv20), hq24, (of_decide_eq_true hb4), (by omega), (at_map hv21), trivial⟩ ?_
              refine Nxt_norm ?_
              refine Ab.seq ?_
              obtain ⟨r8, hr8, h⟩ := bind_some h
              obtain ⟨r9, hr9, h⟩ := bind_some h
              obtain ⟨r10, hr10, h⟩ := bind_some h
              refine Ab.regT hE hC hL [[], [.r [.tree (.int .u32 r8)] []], [], [.r [.tree (.int .u32 r9)] []], [], [], [.r [.tree (.int .u32 r10)] []]] { keep := [2, 3, 4, 5, 7, 8, 13, 14, 15, 16, 17, 18, 19, 21, 22, 23], ren := [(49000, 49000), (49001, 49001), (49002, 49002), (49003, 49003), (49004, 49004)] } ⟨[(2, (.ref 49000 [] (0))), (3, (.ref 49001 [] (0))), (4, (.ref 49002 [] (0))), (5, (.own 49003)), (7, (.t (.int .i64 a9))), (8, (.ref 49004 [] (0))), (13, (.t (.int .u32 a21))), (14, (.t (.int .u32 a22))), (15, (.t (.int .u32 a23))), (16, (.t (.int .u32 a24))), (17, (.t (.int .u32 a25))), (18, (.t (.int .u32 a26))), (19, (.t (.int .u32 a27))), (21, (.t (.int .i64 a29))), (22, (.t (.int .u32 (w32 ((w32 ((w32 ((w32 (a28 + (bits .xor .u32 (bits .xor .u32 r5 r6) r7))) + (bits .xor .u32 (bits .and .u32 a25 a26) (bits .and .u32 (bits .xor .u32 (4294967295) a25) a27)))) + v20)) + v21))))), (23, (.t (.int .u32 (w32 ((bits .xor .u32 (bits .xor .u32 r8 r9) r10) + (bits .xor .u32 (bits .xor .u32 (bits .and .u32 a21 a22) (bits .and .u32 a21 a23)) (bits .and .u32 a22 a23)))))))], [(49000, (.var false 24 (.t ((eA 1 (T.int .u8)) (Arr.rep 32 (0:Int)))))), (49001, (.var false 73 (.t ((eA 1 (T.int .u32)) a8)))), (49002, (.var false 76 (.t ((eA 1 (T.int .u32)) r0)))), (49003, (.row false 5 1 (List.map (T.int .u8) x0))), (49004, (.var false 76 (.t ((eA 1 (T.int .u32)) x1))))]⟩ [(sp_ref02_right n).fn [(.int .u32 a21), (.int .i64 (2:Int))] = some ([.tree (.int .u32 r8)], []), (sp_ref02_right n).fn [(.int .u32 a21), (.int .i64 (13:Int))] = some ([.tree (.int .u32 r9)], []), (sp_ref02_right n).fn [(.int .u32 a21), (.int .i64 (22:Int))] = some ([.tree (.int .u32 r10)], [])] (by kernel_rfl) ⟨(ap_ref02_right n (by exact ⟨leT.refl _, leT.refl _, trivial⟩) hr8), (ap_ref02_right n (by exact ⟨leT.refl _, leT.refl _, trivial⟩) hr9), (ap_ref02_right n (by exact ⟨leT.refl _, leT.refl _, trivial⟩) hr10), trivial⟩ ?_
              refine Nxt_norm ?_
              refine Ab.regT hE hC hL [] { keep := [2, 3, 4, 5, 7, 8, 13, 14, 15, 16, 17, 18, 19, 20, 21], ren := [(49000, 49000), (49001, 49001), (49002, 49002), (49003, 49003), (49004, 49004)] } ⟨[(2, (.ref 49000 [] (0))), (3, (.ref 49001 [] (0))), (4, (.ref 49002 [] (0))), (5, (.own 49003)), (7, (.t (.int .i64 a9))), (8, (.ref 49004 [] (0))), (13, (.t (.int .u32 (w32 ((w32 ((w32 ((w32 ((w32 (a28 + (bits .xor .u32 (bits .xor .u32 r5 r6) r7))) + (bits .xor .u32 (bits .and .u32 a25 a26) (bits .and .u32 (bits .xor .u32 (4294967295) a25) a27)))) + v20)) + v21)) + (w32 ((bits .xor .u32 (bits .xor .u32 r8 r9) r10) + (bits .xor .u32 (bits .xor .u32 (bits .and .u32 a21 a22) (bits .and .u32 a21 a23)) (bits .and .u32 a22 a23))))))))), (14, (.t (.int .u32 a21))), (15, (.t (.int .u32 a22))), (16, (.t (.int .u32 a23))), (17, (.t (.int .u32 (w32 (a24 + (w32 ((w32 ((w32 ((w32 (a28 + (bits .xor .u32 (bits .xor .u32 r5 r6) r7))) + (bits .xor .u32 (bits .and .u32 a25 a26) (bits .and .u32 (bits .xor .u32 (4294967295) a25) a27)))) + v20)) + v21))))))), (18, (.t (.int .u32 a25))), (19, (.t (.int .u32 a26))), (20, (.t (.int .u32 a27))), (21, (.t (.int .i64 a29)))], [(49000, (.var false 24 (.t ((eA 1 (T.int .u8)) (Arr.rep 32 (0:Int)))))), (49001, (.var false 73 (.t ((eA 1 (T.int .u32)) a8)))), (49002, (.var false 76 (.t ((eA 1 (T.int .u32)) r0)))), (49003, (.row false 5 1 (List.map (T.int .u8) x0))), (49004, (.var false 76 (.t ((eA 1 (T.int .u32)) x1))))]⟩ [] (by kernel_rfl) trivial ?_
              refine Blk_norm ?_
              refine Nxt_norm ?_
              refine Ab.regT hE hC hL [] { keep := [2, 3, 4, 5, 7, 8, 13, 14, 15, 16, 17, 18, 19, 20, 21], ren := [(49000, 49000), (49001, 49001), (49002, 49002), (49003, 49003), (49004, 49004)] } ⟨[(2, (.ref 49000 [] (0))), (3, (.ref 49001 [] (0))), (4, (.ref 49002 [] (0))), (5, (.own 49003)), (7, (.t (.int .i64 a9))), (8, (.ref 49004 [] (0))), (13, (.t (.int .u32 (w32 ((w32 ((w32 ((w32 ((w32 (a28 + (bits .xor .u32 (bits .xor .u32 r5 r6) r7))) + (bits .xor .u32 (bits .and .u32 a25 a26) (bits .and .u32 (bits .xor .u32 (4294967295) a25) a27)))) + v20)) + v21)) + (w32 ((bits .xor .u32 (bits .xor .u32 r8 r9) r10) + (bits .xor .u32 (bits .xor .u32 (bits .and .u32 a21 a22) (bits .and .u32 a21 a23)) (bits .and .u32 a22 a23))))))))), (14, (.t (.int .u32 a21))), (15, (.t (.int .u32 a22))), (16, (.t (.int .u32 a23))), (17, (.t (.int .u32 (w32 (a24 + (w32 ((w32 ((w32 ((w32 (a28 + (bits .xor .u32 (bits .xor .u32 r5 r6) r7))) + (bits .xor .u32 (bits .and .u32 a25 a26) (bits .and .u32 (bits .xor .u32 (4294967295) a25) a27)))) + v20)) + v21))))))), (18, (.t (.int .u32 a25))), (19, (.t (.int .u32 a26))), (20, (.t (.int .u32 a27))), (21, (.t (.int .i64 (wi (a29 + (1:Int))))))], [(49000, (.var false 24 (.t ((eA 1 (T.int .u8)) (Arr.rep 32 (0:Int)))))), (49001, (.var false 73 (.t ((eA 1 (T.int .u32)) a8)))), (49002, (.var false 76 (.t ((eA 1 (T.int .u32)) r0)))), (49003, (.row false 5 1 (List.map (T.int .u8) x0))), (49004, (.var false 76 (.t ((eA 1 (T.int .u32)) x1))))]⟩ [] (by kernel_rfl) trivial ?_
              exact LK_norm ((w32 ((w32 ((w32 ((w32 ((w32 (a28 + (bits .xor .u32 (bits .xor .u32 r5 r6) r7))) + (bits .xor .u32 (bits .and .u32 a25 a26) (bits .and .u32 (bits .xor .u32 (4294967295) a25) a27)))) + v20)) + v21)) + (w32 ((bits .xor .u32 (bits .xor .u32 r8 r9) r10) + (bits .xor .u32 (bits .xor .u32 (bits .and .u32 a21 a22) (bits .and .u32 a21 a23)) (bits .and .u32 a22 a23)))))), a21, a22, a23, (w32 (a24 + (w32 ((w32 ((w32 ((w32 (a28 + (bits .xor .u32 (bits .xor .u32 r5 r6) r7))) + (bits .xor .u32 (bits .and .u32 a25 a26) (bits .and .u32 (bits .xor .u32 (4294967295) a25) a27)))) + v20)) + v21)))), a25, a26, a27, (wi (a29 + (1:Int)))) { fs := [], keep := [2, 3, 4, 5, 7, 8, 13, 14, 15, 16, 17, 18, 19, 20, 21], ren := [(49000, 49000), (49001, 49001), (49002, 49002), (49003, 49003), (49004, 49004)] } h (by kernel_rfl)
            · replace h := cond_f hb4 h
              refine Ab.exit ?_
              refine Nxt_exit ?_
              exact LK_exit (a21, a22, a23, a24, a25, a26, a27, a28) h (PX_mk { fs := [], keep := [2, 3, 4, 5, 7, 13, 14, 15, 16, 17, 18, 19, 20], ren := [(49000, 49000), (49001, 49001), (49002, 49002), (49003, 49003)] } (by kernel_rfl))
          · refine Nxt_norm ?_
            obtain ⟨v22, hv22, h⟩ := bind_some h
            obtain ⟨v23, hv23, h⟩ := bind_some h
            obtain ⟨v24, hv24, h⟩ := bind_some h
            obtain ⟨v25, hv25, h⟩ := bind_some h
            obtain ⟨v26, hv26, h⟩ := bind_some h
            obtain ⟨v27, hv27, h⟩ := bind_some h
            obtain ⟨v28, hv28, h⟩ := bind_some h
            refine Ab.regT hE hC hL [[], [.t (.int .u32 v12)], [], [], [], [.t (.int .u32 v13)], [], [], [], [.t (.int .u32 v14)], [], [], [], [.t (.int .u32 v15)], [], [], [], [.t (.int .u32 v16)], [], [], [], [.t (.int .u32 v17)], [], [], [], [.t (.int .u32 v18)], [], [], [], [.t (.int .u32 v19)], [], [], [], [.t (.int .u32 v12), .l (List.map (T.int .u32) (Arr.set a8 0 (w32 (v12 + x2.1))).l)], [], [.t (.int .u32 v22), .l (List.map (T.int .u32) (Arr.set (Arr.set a8 0 (w32 (v12 + x2.1))) 1 (w32 (v13 + x2.2.1))).l)], [], [.t (.int .u32 v23), .l (List.map (T.int .u32) (Arr.set (Arr.set (Arr.set a8 0 (w32 (v12 + x2.1))) 1 (w32 (v13 + x2.2.1))) 2 (w32 (v14 + x2.2.2.1))).l)], [], [.t (.int .u32 v24), .l (List.map (T.int .u32) (Arr.set (Arr.set (Arr.set (Arr.set a8 0 (w32 (v12 + x2.1))) 1 (w32 (v13 + x2.2.1))) 2 (w32 (v14 + x2.2.2.1))) 3 (w32 (v15 + x2.2.2.2.1))).l)], [], [.t (.int .u32 v25), .l (List.map (T.int .u32) (Arr.set (Arr.set (Arr.set (Arr.set (Arr.set a8 0 (w32 (v12 + x2.1))) 1 (w32 (v13 + x2.2.1))) 2 (w32 (v14 + x2.2.2.1))) 3 (w32 (v15 + x2.2.2.2.1))) 4 (w32 (v16 + x2.2.2.2.2.1))).l)], [], [.t (.int .u32 v26), .l (List.map (T.int .u32) (Arr.set (Arr.set (Arr.set (Arr.set (Arr.set (Arr.set a8 0 (w32 (v12 + x2.1))) 1 (w32 (v13 + x2.2.1))) 2 (w32 (v14 + x2.2.2.1))) 3 (w32 (v15 + x2.2.2.2.1))) 4 (w32 (v16 + x2.2.2.2.2.1))) 5 (w32 (v17 + x2.2.2.2.2.2.1))).l)], [], [.t (.int .u32 v27), .l (List.map (T.int .u32) (Arr.set (Arr.set (Arr.set (Arr.set (Arr.set (Arr.set (Arr.set a8 0 (w32 (v12 + x2.1))) 1 (w32 (v13 + x2.2.1))) 2 (w32 (v14 + x2.2.2.1))) 3 (w32 (v15 + x2.2.2.2.1))) 4 (w32 (v16 + x2.2.2.2.2.1))) 5 (w32 (v17 + x2.2.2.2.2.2.1))) 6 (w32 (v18 + x2.2.2.2.2.2.2.1))).l)], [], [.t (.int .u32 v28), .l (List.map (T.int .u32) (Arr.set (Arr.set (Arr.set (Arr.set (Arr.set (Arr.set (Arr.set (Arr.set a8 0 (w32 (v12 + x2.1))) 1 (w32 (v13 + x2.2.1))) 2 (w32 (v14 + x2.2.2.1))) 3 (w32 (v15 + x2.2.2.2.1))) 4 (w32 (v16 + x2.2.2.2.2.1))) 5 (w32 (v17 + x2.2.2.2.2.2.1))) 6 (w32 (v18 + x2.2.2.2.2.2.2.1))) 7 (w32 (v19 + x2.2.2.2.2.2.2.2))).l)]] { keep := [2, 3, 4, 5, 7], ren := [(49000, 49000), (49001, 49001), (49002, 49002), (49003, 49003)] } ⟨[(2, (.ref 49000 [] (0))), (3, (.ref 49001 [] (0))), (4, (.ref 49002 [] (0))), (5, (.own 49003)), (7, (.t (.int .i64 a9)))], [(49000, (.var false 24 (.t ((eA 1 (T.int .u8)) (Arr.rep 32 (0:Int)))))), (49001, (.var false 73 (.t ((eA 1 (T.int .u32)) (Arr.set (Arr.set (Arr.set (Arr.set (Arr.set (Arr.set (Arr.set (Arr.set a8 0 (w32 (v12 + x2.1))) 1 (w32 (v13 + x2.2.1))) 2 (w32 (v14 + x2.2.2.1))) 3 (w32 (v15 + x2.2.2.2.1))) 4 (w32 (v16 + x2.2.2.2.2.1))) 5 (w32 (v17 + x2.2.2.2.2.2.1))) 6 (w32 (v18 + x2.2.2.2.2.2.2.1))) 7 (w32 (v19 + x2.2.2.2.2.2.2.2))))))), (49002, (.var false 76 (.t ((eA 1 (T.int .u32)) r0)))), (49003, (.row false 5 1 (List.map (T.int .u8) x0)))]⟩ [0 = 0, (List.map (T.int .u32) a8.l)[0]? = some (.int .u32 v12), 1 = 1, (List.map (T.int .u32) a8.l)[1]? = some (.int .u32 v13), 2 = 2, (List.map (T.int .u32) a8.l)[2]? = some (.int .u32 v14), 3 = 3, (List.map (T.int .u32) a8.l)[3]? = some (.int .u32 v15), 4 = 4, (List.map (T.int .u32) a8.l)[4]? = some (.int .u32 v16), 5 = 5, (List.map (T.int .u32) a8.l)[5]? = some (.int .u32 v17), 6 = 6, (List.map (T.int .u32) a8.l)[6]? = some (.int .u32 v18), 7 = 7, (List.map (T.int .u32) a8.l)[7]? = some (.int .u32 v19), 0 = 0, (List.map (T.int .u32) a8.l)[0]? = some (.int .u32 v12), (List.map (T.int .u32) a8.l)[0]? = some (.int .u32 v12), (List.map (T.int .u32) a8.l).set 0 (.int .u32 (w32 (v12 + x2.1))) = List.map (T.int .u32) (Arr.set a8 0 (w32 (v12 + x2.1))).l, 1 = 1, (List.map (T.int .u32) (Arr.set a8 0 (w32 (v12 + x2.1))).l)[1]? = some (.int .u32 v22), (List.map (T.int .u32) (Arr.set a8 0 (w32 (v12 + x2.1))).l)[1]? = some (.int .u32 v22), (List.map (T.int .u32) (Arr.set a8 0 (w32 (v12 + x2.1))).l).set 1 (.int .u32 (w32 (v13 + x2.2.1))) = List.map (T.int .u32) (Arr.set (Arr.set a8 0 (w32 (v12 + x2.1))) 1 (w32 (v13 + x2.2.1))).l, 2 = 2, (List.map (T.int .u32) (Arr.set (Arr.set a8 0 (w32 (v12 + x2.1))) 1 (w32 (v13 + x2.2.1))).l)[2]? = some (.int .u32 v23), (List.map (T.int .u32) (Arr.set (Arr.set a8 0 (w32 (v12 + x2.1))) 1 (w32 (v13 + x2.2.1))).l)[2]? = some (.int .u32 v23), (List.map (T.int .u32) (Arr.set (Arr.set a8 0 (w32 (v12 + x2.1))) 1 (w32 (v13 + x2.2.1))).l).set 2 (.int .u32 (w32 (v14 + x2.2.2.1))) = List.map (T.int .u32) (Arr.set (Arr.set (Arr.set a8 0 (w32 (v12 + x2.1))) 1 (w32 (v13 + x2.2.1))) 2 (w32 (v14 + x2.2.2.1))).l, 3 = 3, (List.map (T.int .u32) (Arr.set (Arr.set (Arr.set a8 0 (w32 (v12 + x2.1))) 1 (w32 (v13 + x2.2.1))) 2 (w32 (v14 + x2.2.2.1))).l)[3]? = some (.int .u32 v24), (List.map (T.int .u32) (Arr.set (Arr.set (Arr.set a8 0 (w32 (v12 + x2.1))) 1 (w32 (v13 + x2.2.1))) 2 (w32 (v14 + x2.2.2.1))).l)[3]? = some (.int .u32 v24), (List.map (T.int .u32) (Arr.set (Arr.set (Arr.set a8 0 (w32 (v12 + x2.1))) 1 (w32 (v13 + x2.2.1))) 2 (w32 (v14 + x2.2.2.1))).l).set 3 (.int .u32 (w32 (v15 + x2.2.2.2.1))) = List.map (T.int .u32) (Arr.set (Arr.set (Arr.set (Arr.set a8 0 (w32 (v12 + x2.1))) 1 (w32 (v13 + x2.2.1))) 2 (w32 (v14 + x2.2.2.1))) 3 (w32 (v15 + x2.2.2.2.1))).l, 4 = 4, (List.map (T.int .u32) (Arr.set (Arr.set (Arr.set (Arr.set a8 0 (w32 (v12 + x2.1))) 1 (w32 (v13 + x2.2.1))) 2 (w32 (v14 + x2.2.2.1))) 3 (w32 (v15 + x2.2.2.2.1))).l)[4]? = some (.int .u32 v25), (List.map (T.int .u32) (Arr.set (Arr.set (Arr.set (Arr.set a8 0 (w32 (v12 + x2.1))) 1 (w32 (v13 + x2.2.1))) 2 (w32 (v14 + x2.2.2.1))) 3 (w32 (v15 + x2.2.2.2.1))).l)[4]? = some (.int .u32 v25), (List.map (T.int .u32) (Arr.set (Arr.set (Arr.set (Arr.set a8 0 (w32 (v12 + x2.1))) 1 (w32 (v13 + x2.2.1))) 2 (w32 (v14 + x2.2.2.1))) 3 (w32 (v15 + x2.2.2.2.1))).l).set 4 (.int .u32 (w32 (v16 + x2.2.2.2.2.1))) = List.map (T.int .u32) (Arr.set (Arr.set (Arr.set (Arr.set (Arr.set a8 0 (w32 (v12 + x2.1))) 1 (w32 (v13 + x2.2.1))) 2 (w32 (v14 + x2.2.2.1))) 3 (w32 (v15 + x2.2.2.2.1))) 4 (w32 (v16 + x2.2.2.2.2.1))).l, 5 = 5, (List.map (T.int .u32) (Arr.set (Arr.set (Arr.set (Arr.set (Arr.set a8 0 (w32 (v12 + x2.1))) 1 (w32 (v13 + x2.2.1))) 2 (w32 (v14 + x2.2.2.1))) 3 (w32 (v15 + x2.2.2.2.1))) 4 (w32 (v16 + x2.2.2.2.2.1))).l)[5]? = some (.int .u32 v26), (List.map (T.int .u32) (Arr.set (Arr.set (Arr.set (Arr.set (Arr.set a8 0 (w32 (v12 + x2.1))) 1 (w32 (v13 + x2.2.1))) 2 (w32 (v14 + x2.2.2.1))) 3 (w32 (v15 + x2.2.2.2.1))) 4 (w32 (v16 + x2.2.2.2.2.1))).l)[5]? = some (.int .u32 v26), (List.map (T.int .u32) (Arr.set (Arr.set (Arr.set (Arr.set (Arr.set a8 0 (w32 (v12 + x2.1))) 1 (w32 (v13 + x2.2.1))) 2 (w32 (v14 + x2.2.2.1))) 3 (w32 (v15 + x2.2.2.2.1))) 4 (w32 (v16 + x2.2.2.2.2.1))).l).set 5 (.int .u32 (w32 (v17 + x2.2.2.2.2.2.1))) = List.map (T.int .u32) (Arr.set (Arr.set (Arr.set (Arr.set (Arr.set (Arr.set a8 0 (w32 (v12 + x2.1))) 1 (w32 (v13 + x2.2.1))) 2 (w32 (v14 + x2.2.2.1))) 3 (w32 (v15 + x2.2.2.2.1))) 4 (w32 (v16 + x2.2.2.2.2.1))) 5 (w32 (v17 + x2.2.2.2.2.2.1))).l, 6 = 6, (List.map (T.int .u32) (Arr.set (Arr.set (Arr.set (Arr.set (Arr.set (Arr.set a8 0 (w32 (v12 + x2.1))) 1 (w32 (v13 + x2.2.1))) 2 (w32 (v14 + x2.2.2.1))) 3 (w32 (v15 + x2.2.2.2.1))) 4 (w32 (v16 + x2.2.2.2.2.1))) 5 (w32 (v17 + x2.2.2.2.2.2.1))).l)[6]? = some (.int .u32 v27), (List.map (T.int .u32) (Arr.set (Arr.set (Arr.set (Arr.set (Arr.set (Arr.set a8 0 (w32 (v12 + x2.1))) 1 (w32 (v13 + x2.2.1))) 2 (w32 (v14 + x2.2.2.1))) 3 (w32 (v15 + x2.2.2.2.1))) 4 (w32 (v16 + x2.2.2.2.2.1))) 5 (w32 (v17 + x2.2.2.2.2.2.1))).l)[6]? = some (.int .u32 v27), (List.map (T.int .u32) (Arr.set (Arr.set (Arr.set (Arr.set (Arr.set (Arr.set a8 0 (w32 (v12 + x2.1))) 1 (w32 (v13 + x2.2.1))) 2 (w32 (v14 + x2.2.2.1))) 3 (w32 (v15 + x2.2.2.2.1))) 4 (w32 (v16 + x2.2.2.2.2.1))) 5 (w32 (v17 + x2.2.2.2.2.2.1))).l).set 6 (.int .u32 (w32 (v18 + x2.2.2.2.2.2.2.1))) = List.map (T.int .u32) (Arr.set (Arr.set (Arr.set (Arr.set (Arr.set (Arr.set (Arr.set a8 0 (w32 (v12 + x2.1))) 1 (w32 (v13 + x2.2.1))) 2 (w32 (v14 + x2.2.2.1))) 3 (w32 (v15 + x2.2.2.2.1))) 4 (w32 (v16 + x2.2.2.2.2.1))) 5 (w32 (v17 + x2.2.2.2.2.2.1))) 6 (w32 (v18 + x2.2.2.2.2.2.2.1))).l, 7 = 7, (List.map (T.int .u32) (Arr.set (Arr.set (Arr.set (Arr.set (Arr.set (Arr.set (Arr.set a8 0 (w32 (v12 + x2.1))) 1 (w32 (v13 + x2.2.1))) 2 (w32 (v14 + x2.2.2.1))) 3 (w32 (v15 + x2.2.2.2.1))) 4 (w32 (v16 + x2.2.2.2.2.1))) 5 (w32 (v17 + x2.2.2.2.2.2.1))) 6 (w32 (v18 + x2.2.2.2.2.2.2.1))).l)[7]? = some (.int .u32 v28), (List.map (T.int .u32) (Arr.set (Arr.set (Arr.set (Arr.set (Arr.set (Arr.set (Arr.set a8 0 (w32 (v12 + x2.1))) 1 (w32 (v13 + x2.2.1))) 2 (w32 (v14 + x2.2.2.1))) 3 (w32 (v15 + x2.2.2.2.1))) 4 (w32 (v16 + x2.2.2.2.2.1))) 5 (w32 (v17 + x2.2.2.2.2.2.1))) 6 (w32 (v18 + x2.2.2.2.2.2.2.1))).l)[7]? = some (.int .u32 v28), (List.map (T.int .u32) (Arr.set (Arr.set (Arr.set (Arr.set (Arr.set (Arr.set (Arr.set a8 0 (w32 (v12 + x2.1))) 1 (w32 (v13 + x2.2.1))) 2 (w32 (v14 + x2.2.2.1))) 3 (w32 (v15 + x2.2.2.2.1))) 4 (w32 (v16 + x2.2.2.2.2.1))) 5 (w32 (v17 + x2.2.2.2.2.2.1))) 6 (w32 (v18 + x2.2.2.2.2.2.2.1))).l).set 7 (.int .u32 (w32 (v19 + x2.2.2.2.2.2.2.2))) = List.map (T.int .u32) (Arr.set (Arr.set (Arr.set (Arr.set (Arr.set (Arr.set (Arr.set (Arr.set a8 0 (w32 (v12 + x2.1))) 1 (w32 (v13 + x2.2.1))) 2 (w32 (v14 + x2.2.2.1))) 3 (w32 (v15 + x2.2.2.2.1))) 4 (w32 (v16 + x2.2.2.2.2.1))) 5 (w32 (v17 + x2.2.2.2.2.2.1))) 6 (w32 (v18 + x2.2.2.2.2.2.2.1))) 7 (w32 (v19 + x2.2.2.2.2.2.2.2))).l] (by kernel_rfl) ⟨(by omega), (at_map hv12), (by omega), (at_map hv13), (by omega), (at_map hv14), (by omega), (at_map hv15), (by omega), (at_map hv16), (by omega), (at_map hv17), (by omega), (at_map hv18), (by omega), (at_map hv19), (by omega), (at_map hv12), (at_map hv12), set_map, (by omega), (at_map hv22), (at_map hv22), set_map, (by omega), (at_map hv23), (at_map hv23), set_map, (by omega), (at_map hv24), (at_map hv24), set_map, (by omega), (at_map hv25), (at_map hv25), set_map, (by omega), (at_map hv26), (at_map hv26), set_map, (by omega), (at_map hv27), (at_map hv27), set_map, (by omega), (at_map hv28), (at_map hv28), set_map, trivial⟩ ?_
            refine Blk_norm ?_
            refine Nxt_norm ?_
            refine Ab.regT hE hC hL [] { keep := [2, 3, 4, 5, 7], ren := [(49000, 49000), (49001, 49001), (49002, 49002), (49003, 49003)] } ⟨[(2, (.ref 49000 [] (0))), (3, (.ref 49001 [] (0))), (4, (.ref 49002 [] (0))), (5, (.own 49003)), (7, (.t (.int .i64 (wi (a9 + (64:Int))))))], [(49000, (.var false 24 (.t ((eA 1 (T.int .u8)) (Arr.rep 32 (0:Int)))))), (49001, (.var false 73 (.t ((eA 1 (T.int .u32)) (Arr.set (Arr.set (Arr.set (Arr.set (Arr.set (Arr.set (Arr.set (Arr.set a8 0 (w32 (v12 + x2.1))) 1 (w32 (v13 + x2.2.1))) 2 (w32 (v14 + x2.2.2.1))) 3 (w32 (v15 + x2.2.2.2.1))) 4 (w32 (v16 + x2.2.2.2.2.1))) 5 (w32 (v17 + x2.2.2.2.2.2.1))) 6 (w32 (v18 + x2.2.2.2.2.2.2.1))) 7 (w32 (v19 + x2.2.2.2.2.2.2.2))))))), (49002, (.var false 76 (.t ((eA 1 (T.int .u32)) r0)))), (49003, (.row false 5 1 (List.map (T.int .u8) x0)))]⟩ [] (by kernel_rfl) trivial ?_
            exact LK_norm ((Arr.set (Arr.set (Arr.set (Arr.set (Arr.set (Arr.set (Arr.set (Arr.set a8 0 (w32 (v12 + x2.1))) 1 (w32 (v13 + x2.2.1))) 2 (w32 (v14 + x2.2.2.1))) 3 (w32 (v15 + x2.2.2.2.1))) 4 (w32 (v16 + x2.2.2.2.2.1))) 5 (w32 (v17 + x2.2.2.2.2.2.1))) 6 (w32 (v18 + x2.2.2.2.2.2.2.1))) 7 (w32 (v19 + x2.2.2.2.2.2.2.2))), (wi (a9 + (64:Int)))) { fs := [], keep := [2, 3, 4, 5, 7], ren := [(49000, 49000), (49001, 49001), (49002, 49002), (49003, 49003)] } h (by kernel_rfl)
      · replace h := cond_f hb1 h
        refine Ab.exit ?_
        refine Nxt_exit ?_
        exact LK_exit a8 h (PX_mk { fs := [], keep := [2, 3], ren := [(49000, 49000), (49001, 49001)] } (by kernel_rfl))
    · refine Nxt_norm ?_
      refine Ab.seq ?_
      refine Ab.regT hE hC hL [] { keep := [2, 3, 24], ren := [(24, 24), (49000, 49000), (49001, 49001)] } ⟨[(2, (.ref 49000 [] (0))), (3, (.ref 49001 [] (0))), (24, (.ref 24 [] (0)))], [(24, (.var false 24 (.t ((eA 1 (T.int .u8)) (Arr.rep 32 (0:Int)))))), (49000, (.var false 24 (.t ((eA 1 (T.int .u8)) (Arr.rep 32 (0:Int)))))), (49001, (.var false 73 (.t ((eA 1 (T.int .u32)) x3))))]⟩ [] (by kernel_rfl) trivial ?_
      refine Nxt_norm ?_
      refine Ab.seq ?_
      refine Ab.seq ?_
      refine Ab.regT hE hC hL [] { keep := [2, 3, 24, 25], ren := [(24, 24), (49000, 49000), (49001, 49001)] } ⟨[(2, (.ref 49000 [] (0))), (3, (.ref 49001 [] (0))), (24, (.ref 24 [] (0))), (25, (.t (.int .i64 (0:Int))))], [(24, (.var false 24 (.t ((eA 1 (T.int .u8)) (Arr.rep 32 (0:Int)))))), (49000, (.var false 24 (.t ((eA 1 (T.int .u8)) (Arr.rep 32 (0:Int)))))), (49001, (.var false 73 (.t ((eA 1 (T.int .u32)) x3))))]⟩ [] (by kernel_rfl) trivial ?_
      refine Nxt_norm ?_
      obtain ⟨x4, hx4, h⟩ := bind_some h
      refine Ab.loopX0 (fun ((a69, a70) : ((Arr 32 Int) × Int)) => (⟨[(2, (.ref 49000 [] (0))), (3, (.ref 49001 [] (0))), (24, (.ref 49002 [] (0))), (25, (.t (.int .i64 a70)))], [(49000, (.var false 24 (.t ((eA 1 (T.int .u8)) (Arr.rep 32 (0:Int)))))), (49001, (.var false 73 (.t ((eA 1 (T.int .u32)) x3)))), (49002, (.var false 24 (.t ((eA 1 (T.int .u8)) a69))))]⟩ : St)) (fun (a71 : (Arr 32 Int)) => (⟨[(2, (.ref 49000 [] (0))), (24, (.ref 49001 [] (0)))], [(49000, (.var false 24 (.t ((eA 1 (T.int .u8)) (Arr.rep 32 (0:Int)))))), (49001, (.var false 24 (.t ((eA 1 (T.int .u8)) a71))))]⟩ : St)) { fs := [], keep := [2, 3, 24, 25], ren := [(49000, 49000), (49001, 49001), (24, 49002)] } ((Arr.rep 32 (0:Int)), (0:Int)) hC hL hx4 (by kernel_rfl) ?_ ?_
      · rintro ⟨a69, a70⟩ o4 h
        replace h : f_ref02_Of_b4 n x3 a69 a70 = some o4 := h
        unfold f_ref02_Of_b4 at h
        refine Ab.seq ?_
        refine Ab.seq ?_
        refine Ab.regT hE hC hL [] { keep := [2, 3, 24, 25, 267], ren := [(49000, 49000), (49001, 49001), (49002, 49002)] } ⟨[(2, (.ref 49000 [] (0))), (3, (.ref 49001 [] (0))), (24, (.ref 49002 [] (0))), (25, (.t (.int .i64 a70))), (267, (.t (.bool (decide (a70 < (32:Int))))))], [(49000, (.var false 24 (.t ((eA 1 (T.int .u8)) (Arr.rep 32 (0:Int)))))), (49001, (.var false 73 (.t ((eA 1 (T.int .u32)) x3)))), (49002, (.var false 24 (.t ((eA 1 (T.int .u8)) a69))))]⟩ [] (by kernel_rfl) trivial ?_
        refine Nxt_norm ?_
        refine Ab.cond (b := (decide (a70 < (32:Int)))) (by kernel_rfl) (fun hb5 => ?_) (fun hb5 => ?_)
        · replace h := cond_t hb5 h
          refine Ab.skip ?_
          refine Nxt_norm ?_
          refine Ab.seq ?_
          refine Ab.block ?_
          obtain ⟨hq25, h⟩ := ask_dec h
          obtain ⟨hq26, h⟩ := ask_dec h
          obtain ⟨v29, hv29, h⟩ := bind_some h
          obtain ⟨hq27, h⟩ := ask_dec h
          obtain ⟨hq28, h⟩ := ask_dec h
          obtain ⟨v30, hv30, h⟩ := bind_some h
          refine Ab.regT hE hC hL [[], [], [], [.c], [.t (.int .u32 v29)], [], [], [], [], [.c], [], [.c], [.t (.int .u8 v30), .l (List.map (T.int .u8) (Arr.set a69 (a70.toNat) (w8 (shr .u32 v29 (wi ((24:Int) - (wi ((8:Int) * (a70.tmod (4:Int))))))))).l)]] { keep := [2, 3, 24, 25], ren := [(49000, 49000), (49001, 49001), (49002, 49002)] } ⟨[(2, (.ref 49000 [] (0))), (3, (.ref 49001 [] (0))), (24, (.ref 49002 [] (0))), (25, (.t (.int .i64 a70)))], [(49000, (.var false 24 (.t ((eA 1 (T.int .u8)) (Arr.rep 32 (0:Int)))))), (49001, (.var false 73 (.t ((eA 1 (T.int .u32)) x3)))), (49002, (.var false 24 (.t ((eA 1 (T.int .u8)) (Arr.set a69 (a70.toNat) (w8 (shr .u32 v29 (wi ((24:Int) - (wi ((8:Int) * (a70.tmod (4:Int)))))))))))))]⟩ [0 ≤ (wi (a70.tdiv (4:Int))), (wi (a70.tdiv (4:Int))) < ((8 : Nat) : Int), (wi (a70.tdiv (4:Int))).toNat * 1 + 0 = 0 + (wi (a70.tdiv (4:Int))).toNat * 1, (List.map (T.int .u32) x3.l)[(wi (a70.tdiv (4:Int))).toNat]? = some (.int .u32 v29), ¬ (wi ((24:Int) - (wi ((8:Int) * (a70.tmod (4:Int)))))) < 0, 0 ≤ a70, a70 < ((32 : Nat) : Int), a70.toNat * 1 + 0 = 0 + a70.toNat * 1, (List.map (T.int .u8) a69.l)[a70.toNat]? = some (.int .u8 v30), (List.map (T.int .u8) a69.l)[a70.toNat]? = some (.int .u8 v30), (List.map (T.int .u8) a69.l).set a70.toNat (.int .u8 (w8 (shr .u32 v29 (wi ((24:Int) - (wi ((8:Int) * (a70.tmod (4:Int))))))))) = List.map (T.int .u8) (Arr.set a69 (a70.toNat) (w8 (shr .u32 v29 (wi ((24:Int) - (wi ((8:Int) * (a70.tmod (4:Int))))))))).l] (by kernel_rfl) ⟨hq25, hq26, (by omega), (at_map hv29), (Int.not_lt.2 hq27), hq28, (of_decide_eq_true hb5), (by omega), (at_map hv30), (at_map hv30), set_map, trivial⟩ ?_
          refine Blk_norm ?_
          refine Nxt_norm ?_
          refine Ab.regT hE hC hL [] { keep := [2, 3, 24, 25], ren := [(49000, 49000), (49001, 49001), (49002, 49002)] } ⟨[(2, (.ref 49000 [] (0))), (3, (.ref 49001 [] (0))), (24, (.ref 49002 [] (0))), (25, (.t (.int .i64 (wi (a70 + (1:Int))))))], [(49000, (.var false 24 (.t ((eA 1 (T.int .u8)) (Arr.rep 32 (0:Int)))))), (49001, (.var false 73 (.t ((eA 1 (T.int .u32)) x3)))), (49002, (.var false 24 (.t ((eA 1 (T.int .u8)) (Arr.set a69 (a70.toNat) (w8 (shr .u32 v29 (wi ((24:Int) - (wi ((8:Int) * (a70.tmod (4:Int)))))))))))))]⟩ [] (by kernel_rfl) trivial ?_
          exact LK_norm ((Arr.set a69 (a70.toNat) (w8 (shr .u32 v29 (wi ((24:Int) - (wi ((8:Int) * (a70.tmod (4:Int))))))))), (wi (a70 + (1:Int)))) { fs := [], keep := [2, 3, 24, 25], ren := [(49000, 49000), (49001, 49001), (49002, 49002)] } h (by kernel_rfl)
        · replace h := cond_f hb5 h
          refine Ab.exit ?_
          refine Nxt_exit ?_
          exact LK_exit a69 h (PX_mk { fs := [], keep := [2, 24], ren := [(49000, 49000), (49002, 49001)] } (by kernel_rfl))
      · refine Nxt_norm ?_
        refine Ab.seq ?_
        refine Ab.regT hE hC hL [] { keep := [2], ren := [(49000, 49000)] } ⟨[(2, (.ref 49000 [] (0)))], [(49000, (.var false 24 (.t ((eA 1 (T.int .u8)) x4))))]⟩ [] (by kernel_rfl) trivial ?_
        refine Nxt_norm ?_
        refine Ab.ret ?_
        obtain rfl := Option.some.inj h
        exact End_ret (doneO_ok (md := [false]) (by kernel_rfl))
def ea_law02_DigestEnds (a : Int × Int) : List T := [(T.int .i64) a.1, (T.int .u8) a.2]
def er_law02_DigestEnds (r : Bool) : List RR × List T := ([.tree (T.bool r)], [])
noncomputable def sp_law02_DigestEnds (n : Nat) : Spec := specP [] true ea_law02_DigestEnds (fun a => f_law02_DigestEnds n a.1 a.2) (fun _ r => er_law02_DigestEnds r)
theorem ap_law02_DigestEnds (n : Nat) {ts : List T} {a0 : Int} {a1 : Int} {r : Bool} (hle : leTs ts [(T.int .i64) a0, (T.int .u8) a1]) (h : f_law02_DigestEnds n a0 a1 = some r) : (sp_law02_DigestEnds n).fn ts = some ([.tree (T.bool r)], []) :=
  specP_fn (a := (a0, a1)) (InjA.cons (inj_int _) (InjA.one (inj_int _))) hle h
noncomputable def E_law02_DigestEnds (n : Nat) : Env := { ty := tyT, glob := glob, fns := get [(13, sp_law02_Awake n), (14, sp_digest_Of n), (15, sp_ref02_Of n)], ntmps := 29 }
theorem eok_law02_DigestEnds (n : Nat) : EnvOK Tryd.prog (E_law02_DigestEnds n) := ⟨tys_ok tys_chk, prog_mixed, (fns_cons (ok_law02_Awake n) (fns_cons (ok_digest_Of n) (fns_cons (ok_ref02_Of n) fns_nil)))⟩
def K_law02_DigestEnds (n : Nat) (pn0 : Int) (pc0 : Int) (r : Bool) : St → Prop := Done (E_law02_DigestEnds n) Tryd.f4.results.toList [] (ea_law02_DigestEnds (pn0, pc0)) (er_law02_DigestEnds r).1 (er_law02_DigestEnds r).2
set_option maxRecDepth 100000 in
set_option maxHeartbeats 4000000 in
theorem ok_law02_DigestEnds (n : Nat) : SpecB Tryd.prog glob 4 (sp_law02_DigestEnds n) := by
  refine specP_B (fn := Tryd.f4) (eok_law02_DigestEnds n) (by kernel_rfl) rfl (by decide +kernel) (by kernel_rfl) (fun _ => by show 2 ≤ 29; omega)  ?_
  rintro ⟨pn0, pc0⟩ r h C hL hC
  have hE := eok_law02_DigestEnds n
  replace hL : ∀ n g, (n, g) ∈ C.lent → n ∈ ([] : List Nat) := hL
  replace h : f_law02_DigestEnds n pn0 pc0 = some r := h
  show Ab _ _ _ _ _ (End (K_law02_DigestEnds n pn0 pc0 r))
  unfold f_law02_DigestEnds at h
  refine Ab.seq ?_
  refine Ab.regT hE hC hL [] { keep := [0, 1], ren := [] } ⟨[(0, (.t (.int .i64 pn0))), (1, (.t (.int .u8 pc0)))], []⟩ [] (by kernel_rfl) trivial ?_
  refine Nxt_norm ?_
  refine Ab.seq ?_
  refine Ab.seq ?_
  obtain ⟨r0, hr0, h⟩ := bind_some h
  refine Ab.regT hE hC hL [[.r [.tree (.bool r0)] []]] { keep := [0, 1, 8], ren := [] } ⟨[(0, (.t (.int .i64 pn0))), (1, (.t (.int .u8 pc0))), (8, (.t (.bool (!r0))))], []⟩ [(sp_law02_Awake n).fn [] = some ([.tree (.bool r0)], [])] (by kernel_rfl) ⟨(ap_law02_Awake n (by exact trivial) hr0), trivial⟩ ?_
  refine Nxt_norm ?_
  refine Ab.cond (b := (!r0)) (by kernel_rfl) (fun hb0 => ?_) (fun hb0 => ?_)
  · replace h := cond_t hb0 h
    refine Ab.seq ?_
    refine Ab.regT hE hC hL [] { keep := [4], ren := [] } ⟨[(4, (.t (.bool false)))], []⟩ [] (by kernel_rfl) trivial ?_
    refine Nxt_norm ?_
    refine Ab.ret ?_
    refine Nxt_ret ?_
    obtain rfl := Option.some.inj h
    exact End_ret (doneO_ok (md := [false]) (by kernel_rfl))
  · replace h := cond_f hb0 h
    refine Ab.skip ?_
    refine Nxt_norm ?_
    refine Ab.seq ?_
    obtain ⟨hq0, h⟩ := ask_dec h
    obtain ⟨hq1, h⟩ := ask_dec h
    refine Ab.regT hE hC hL [[], [], [], [], [.l (List.map (T.int .u8) (List.replicate ((wi ((w64 pn0).tmod (260:Int))).toNat) (0:Int)))]] { keep := [1, 5], ren := [(13, 13)] } ⟨[(1, (.t (.int .u8 pc0))), (5, (.own 13))], [(13, (.row false 5 1 (List.map (T.int .u8) (List.replicate ((wi ((w64 pn0).tmod (260:Int))).toNat) (0:Int)))))]⟩ [0 ≤ (wi ((w64 pn0).tmod (260:Int))), ((wi ((w64 pn0).tmod (260:Int))) = (wi ((w64 pn0).tmod (260:Int))) ∨ (wi ((w64 pn0).tmod (260:Int))) = 0), (wi ((w64 pn0).tmod (260:Int))) ≤ (wi ((w64 pn0).tmod (260:Int))), ((1 : Nat) : Int) * (wi ((w64 pn0).tmod (260:Int))) ≤ 140737488355328, (wi ((w64 pn0).tmod (260:Int))) ≤ 140737488355328, List.replicate ((wi ((w64 pn0).tmod (260:Int)))).toNat (.int .u8 0) = List.map (T.int .u8) (List.replicate ((wi ((w64 pn0).tmod (260:Int))).toNat) (0:Int))] (by kernel_rfl) ⟨hq0, (.inl rfl), (Int.le_refl _), hq1, (by have := hq1; omega), (rep_map rfl), trivial⟩ ?_
    refine Nxt_norm ?_
    refine Ab.seq ?_
    refine Ab.seq ?_
    refine Ab.regT hE hC hL [[], [.n ((List.replicate ((wi ((w64 pn0).tmod (260:Int))).toNat) (0:Int)).length : Int)]] { keep := [1, 5, 15, 16], ren := [(13, 13)] } ⟨[(1, (.t (.int .u8 pc0))), (5, (.own 13)), (15, (.t (.int .i64 ((List.replicate ((wi ((w64 pn0).tmod (260:Int))).toNat) (0:Int)).length : Int)))), (16, (.t (.int .i64 (0:Int))))], [(13, (.row false 5 1 (List.map (T.int .u8) (List.replicate ((wi ((w64 pn0).tmod (260:Int))).toNat) (0:Int)))))]⟩ [((List.length (List.map (T.int .u8) (List.replicate ((wi ((w64 pn0).tmod (260:Int))).toNat) (0:Int))) : Nat) : Int) = ((List.replicate ((wi ((w64 pn0).tmod (260:Int))).toNat) (0:Int)).length : Int)] (by kernel_rfl) ⟨(len_of rfl), trivial⟩ ?_
    refine Nxt_norm ?_
    obtain ⟨x0, hx0, h⟩ := bind_some h
    refine Ab.loopX0 (fun ((a0, a1) : ((List Int) × Int)) => (⟨[(1, (.t (.int .u8 pc0))), (5, (.own 49000)), (15, (.t (.int .i64 ((List.replicate ((wi ((w64 pn0).tmod (260:Int))).toNat) (0:Int)).length : Int)))), (16, (.t (.int .i64 a1)))], [(49000, (.row false 5 1 (List.map (T.int .u8) a0)))]⟩ : St)) (fun (a2 : (List Int)) => (⟨[(5, (.own 49000))], [(49000, (.row false 5 1 (List.map (T.int .u8) a2)))]⟩ : St)) { fs := [], keep := [1, 5, 15, 16], ren := [(13, 49000)] } ((List.replicate ((wi ((w64 pn0).tmod (260:Int))).toNat) (0:Int)), (0:Int)) hC hL hx0 (by kernel_rfl) ?_ ?_
    · rintro ⟨a0, a1⟩ o0 h
      replace h : f_law02_DigestEnds_b0 n pc0 pn0 a0 a1 = some o0 := h
      unfold f_law02_DigestEnds_b0 at h
      refine Ab.seq ?_
      refine Ab.regT hE hC hL [] { keep := [1, 5, 15, 16, 17], ren := [(49000, 49000)] } ⟨[(1, (.t (.int .u8 pc0))), (5, (.own 49000)), (15, (.t (.int .i64 ((List.replicate ((wi ((w64 pn0).tmod (260:Int))).toNat) (0:Int)).length : Int)))), (16, (.t (.int .i64 a1))), (17, (.t (.bool (decide (a1 < ((List.replicate ((wi ((w64 pn0).tmod (260:Int))).toNat) (0:Int)).length : Int))))))], [(49000, (.row false 5 1 (List.map (T.int .u8) a0)))]⟩ [] (by kernel_rfl) trivial ?_
      refine Nxt_norm ?_
      refine Ab.seq ?_
      refine Ab.cond (b := (decide (a1 < ((List.replicate ((wi ((w64 pn0).tmod (260:Int))).toNat) (0:Int)).length : Int)))) (by kernel_rfl) (fun hb1 => ?_) (fun hb1 => ?_)
      · replace h := cond_t hb1 h
        refine Ab.skip ?_
        refine Nxt_norm ?_
        refine Ab.seq ?_
        refine Ab.block ?_
        refine Ab.seq ?_
        refine Ab.regT hE hC hL [] { keep := [1, 5, 6, 15, 16], ren := [(49000, 49000)] } ⟨[(1, (.t (.int .u8 pc0))), (5, (.own 49000)), (6, (.t (.int .i64 a1))), (15, (.t (.int .i64 ((List.replicate ((wi ((w64 pn0).tmod (260:Int))).toNat) (0:Int)).length : Int)))), (16, (.t (.int .i64 a1)))], [(49000, (.row false 5 1 (List.map (T.int .u8) a0)))]⟩ [] (by kernel_rfl) trivial ?_
        refine Nxt_norm ?_
        obtain ⟨hq2, h⟩ := ask_dec h
        obtain ⟨hq3, h⟩ := ask_dec h
        obtain ⟨v0, hv0, h⟩ := bind_some h
        refine Ab.regT hE hC hL [[], [], [], [.c], [.t (.int .u8 v0), .l (List.map (T.int .u8) (List.set a0 a1.toNat pc0))]] { keep := [1, 5, 15, 16], ren := [(49000, 49000)] } ⟨[(1, (.t (.int .u8 pc0))), (5, (.own 49000)), (15, (.t (.int .i64 ((List.replicate ((wi ((w64 pn0).tmod (260:Int))).toNat) (0:Int)).length : Int)))), (16, (.t (.int .i64 a1)))], [(49000, (.row false 5 1 (List.map (T.int .u8) (List.set a0 a1.toNat pc0))))]⟩ [0 ≤ a1, a1.toNat < List.length (List.map (T.int .u8) a0), a1.toNat * 1 + 0 = a1.toNat * 1, (List.map (T.int .u8) a0)[a1.toNat]? = some (.int .u8 v0), (List.map (T.int .u8) a0)[a1.toNat]? = some (.int .u8 v0), (List.map (T.int .u8) a0).set a1.toNat (.int .u8 pc0) = List.map (T.int .u8) (List.set a0 a1.toNat pc0)] (by kernel_rfl) ⟨hq2, (by rw [List.length_map]; exact hq3), (by omega), (at_map hv0), (at_map hv0), set_map, trivial⟩ ?_
        refine Blk_norm ?_
        refine Nxt_norm ?_
        refine Ab.regT hE hC hL [] { keep := [1, 5, 15, 16], ren := [(49000, 49000)] } ⟨[(1, (.t (.int .u8 pc0))), (5, (.own 49000)), (15, (.t (.int .i64 ((List.replicate ((wi ((w64 pn0).tmod (260:Int))).toNat) (0:Int)).length : Int)))), (16, (.t (.int .i64 (wi (a1 + (1:Int))))))], [(49000, (.row false 5 1 (List.map (T.int .u8) (List.set a0 a1.toNat pc0))))]⟩ [] (by kernel_rfl) trivial ?_
        exact LK_norm ((List.set a0 a1.toNat pc0), (wi (a1 + (1:Int)))) { fs := [], keep := [1, 5, 15, 16], ren := [(49000, 49000)] } h (by kernel_rfl)
      · replace h := cond_f hb1 h
        refine Ab.exit ?_
        refine Nxt_exit ?_
        exact LK_exit a0 h (PX_mk { fs := [], keep := [5], ren := [(49000, 49000)] } (by kernel_rfl))
    · refine Nxt_norm ?_
      refine Ab.seq ?_
      obtain ⟨r1, hr1, h⟩ := bind_some h
      obtain ⟨r2, hr2, h⟩ := bind_some h
      refine Ab.regT hE hC hL [[], [.r [.tree ((eA 1 (T.int .u8)) r1)] []], [], [.r [.tree ((eA 1 (T.int .u8)) r2)] []], [.b (decide (r1 = r2))]] { keep := [4], ren := [] } ⟨[(4, (.t (.bool (decide (r1 = r2)))))], []⟩ [(sp_digest_Of n).fn [(.slc 1 (List.map (T.int .u8) x0))] = some ([.tree ((eA 1 (T.int .u8)) r1)], []), (sp_ref02_Of n).fn [(.slc 1 (List.map (T.int .u8) x0))] = some ([.tree ((eA 1 (T.int .u8)) r2)], []), binOp (E_law02_DigestEnds n) .eql 24 (.t ((eA 1 (T.int .u8)) r1)) (.t ((eA 1 (T.int .u8)) r2)) = some (.bool (decide (r1 = r2)))] (by kernel_rfl) ⟨(ap_digest_Of n (by exact ⟨leT.refl _, trivial⟩) hr1), (ap_ref02_Of n (by exact ⟨leT.refl _, trivial⟩) hr2), (beql_24 _ rfl _ _), trivial⟩ ?_
      refine Nxt_norm ?_
      refine Ab.ret ?_
      obtain rfl := Option.some.inj h
      exact End_ret (doneO_ok (md := [false]) (by kernel_rfl))
def ea_digest_Pair (a : (Arr 32 Int) × (Arr 32 Int)) : List T := [(eA 1 (T.int .u8)) a.1, (eA 1 (T.int .u8)) a.2]
def er_digest_Pair (r : (Arr 32 Int)) : List RR × List T := ([.tree ((eA 1 (T.int .u8)) r)], [])
noncomputable def sp_digest_Pair (n : Nat) : Spec := specP [] true ea_digest_Pair (fun a => f_digest_Pair n a.1 a.2) (fun _ r => er_digest_Pair r)
theorem ap_digest_Pair (n : Nat) {ts : List T} {a0 : (Arr 32 Int)} {a1 : (Arr 32 Int)} {r : (Arr 32 Int)} (hle : leTs ts [(eA 1 (T.int .u8)) a0, (eA 1 (T.int .u8)) a1]) (h : f_digest_Pair n a0 a1 = some r) : (sp_digest_Pair n).fn ts = some ([.tree ((eA 1 (T.int .u8)) r)], []) :=
  specP_fn (a := (a0, a1)) (InjA.cons (inj_eA (inj_int _)) (InjA.one (inj_eA (inj_int _)))) hle h
noncomputable def E_digest_Pair (n : Nat) : Env := { ty := tyT, glob := glob, fns := get [(14, sp_digest_Of n)], ntmps := 11 }
theorem eok_digest_Pair (n : Nat) : EnvOK Tryd.prog (E_digest_Pair n) := ⟨tys_ok tys_chk, prog_mixed, (fns_cons (ok_digest_Of n) fns_nil)⟩
def K_digest_Pair (n : Nat) (pa0 : (Arr 32 Int)) (pb0 : (Arr 32 Int)) (r : (Arr 32 Int)) : St → Prop := Done (E_digest_Pair n) Tryd.f16.results.toList [] (ea_digest_Pair (pa0, pb0)) (er_digest_Pair r).1 (er_digest_Pair r).2
set_option maxRecDepth 100000 in
set_option maxHeartbeats 4000000 in
theorem ok_digest_Pair (n : Nat) : SpecOK Tryd.prog glob 16 (sp_digest_Pair n) := by
  refine specP_ok (fn := Tryd.f16) (eok_digest_Pair n) (by kernel_rfl) rfl (by decide +kernel) (by kernel_rfl) (fun _ => by show 2 ≤ 11; omega) (fun _ _ r => ⟨(rrf_tree ((flat_eA (fun _ => rfl)) _) rrf_nil), flats_nil⟩) ?_
  rintro ⟨pa0, pb0⟩ r h C hL hC
  have hE := eok_digest_Pair n
  replace hL : ∀ n g, (n, g) ∈ C.lent → n ∈ ([] : List Nat) := hL
  replace h : f_digest_Pair n pa0 pb0 = some r := h
  show Ab _ _ _ _ _ (End (K_digest_Pair n pa0 pb0 r))
  unfold f_digest_Pair at h
  refine Ab.seq ?_
  refine Ab.regT hE hC hL [] { keep := [2, 3, 4], ren := [(2, 2), (3, 3), (4, 4)] } ⟨[(2, (.ref 2 [] (0))), (3, (.ref 3 [] (0))), (4, (.ref 4 [] (0)))], [(2, (.var false 25 (.t ((eA 1 (T.int .u8)) pa0)))), (3, (.var false 25 (.t ((eA 1 (T.int .u8)) pb0)))), (4, (.var false 25 (.t ((eA 1 (T.int .u8)) (Arr.rep 32 (0:Int))))))]⟩ [] (by kernel_rfl) trivial ?_
  refine Nxt_norm ?_
  refine Ab.seq ?_
  obtain ⟨hq0, h⟩ := ask_dec h
  obtain ⟨hq1, h⟩ := ask_dec h
  obtain ⟨r0, hr0, h⟩ := bind_some h
  refine Ab.regA hE hC hL [[], [], [.l (List.map (T.int .u8) (([] : List Int) ++ pa0.l))], [], [.l (List.map (T.int .u8) ((([] : List Int) ++ pa0.l) ++ pb0.l))], [.r [.tree ((eA 1 (T.int .u8)) r0)] []]] { keep := [4], ren := [(4, 4)] } ⟨[(4, (.ref 4 [] (0)))], [(4, (.var false 25 (.t ((eA 1 (T.int .u8)) r0))))]⟩ [(List.length (List.map (T.int .u8) ([] : List Int)) + List.length (List.take 32 (List.drop 0 (List.map (T.int .u8) pa0.l)))) * 1 ≤ maxBytes, List.length (List.map (T.int .u8) ([] : List Int)) + List.length (List.take 32 (List.drop 0 (List.map (T.int .u8) pa0.l))) ≤ maxBytes, (List.map (T.int .u8) ([] : List Int)) ++ (List.take 32 (List.drop 0 (List.map (T.int .u8) pa0.l))) = List.map (T.int .u8) (([] : List Int) ++ pa0.l), 0 + 32 ≤ List.length (List.map (T.int .u8) pa0.l), 0 = 0 + 0 * 1, (List.length (List.map (T.int .u8) (([] : List Int) ++ pa0.l)) + List.length (List.take 32 (List.drop 0 (List.map (T.int .u8) pb0.l)))) * 1 ≤ maxBytes, List.length (List.map (T.int .u8) (([] : List Int) ++ pa0.l)) + List.length (List.take 32 (List.drop 0 (List.map (T.int .u8) pb0.l))) ≤ maxBytes, (List.map (T.int .u8) (([] : List Int) ++ pa0.l)) ++ (List.take 32 (List.drop 0 (List.map (T.int .u8) pb0.l))) = List.map (T.int .u8) ((([] : List Int) ++ pa0.l) ++ pb0.l), 0 + 32 ≤ List.length (List.map (T.int .u8) pb0.l), 0 = 0 + 0 * 1, (sp_digest_Of n).fn [(.slc 1 (List.map (T.int .u8) ((([] : List Int) ++ pa0.l) ++ pb0.l)))] = some ([.tree ((eA 1 (T.int .u8)) r0)], [])] (by kernel_rfl) (by kernel_rfl) ⟨(app_b rfl (win_all pa0) hq0), (app_c rfl (win_all pa0) (by decide) hq0), (app_of rfl (win_all pa0)), (by simp only [List.length_map, List.length_take, List.length_drop, List.length_set, List.length_append, Arr.h]; omega), (by omega), (app_b rfl (win_all pb0) hq1), (app_c rfl (win_all pb0) (by decide) hq1), (app_of rfl (win_all pb0)), (by simp only [List.length_map, List.length_take, List.length_drop, List.length_set, List.length_append, Arr.h]; omega), (by omega), (ap_digest_Of n (by exact ⟨leT.refl _, trivial⟩) hr0), trivial⟩ ?_
  refine Nxt_norm ?_
  refine Ab.ret ?_
  obtain rfl := Option.some.inj h
  exact End_ret (doneO_ok (md := [false]) (by kernel_rfl))
def ea_ref02_Pair (a : (Arr 32 Int) × (Arr 32 Int)) : List T := [(eA 1 (T.int .u8)) a.1, (eA 1 (T.int .u8)) a.2]
def er_ref02_Pair (r : (Arr 32 Int)) : List RR × List T := ([.tree ((eA 1 (T.int .u8)) r)], [])
noncomputable def sp_ref02_Pair (n : Nat) : Spec := specP [] true ea_ref02_Pair (fun a => f_ref02_Pair n a.1 a.2) (fun _ r => er_ref02_Pair r)
theorem ap_ref02_Pair (n : Nat) {ts : List T} {a0 : (Arr 32 Int)} {a1 : (Arr 32 Int)} {r : (Arr 32 Int)} (hle : leTs ts [(eA 1 (T.int .u8)) a0, (eA 1 (T.int .u8)) a1]) (h : f_ref02_Pair n a0 a1 = some r) : (sp_ref02_Pair n).fn ts = some ([.tree ((eA 1 (T.int .u8)) r)], []) :=
  specP_fn (a := (a0, a1)) (InjA.cons (inj_eA (inj_int _)) (InjA.one (inj_eA (inj_int _)))) hle h
noncomputable def E_ref02_Pair (n : Nat) : Env := { ty := tyT, glob := glob, fns := get [(15, sp_ref02_Of n)], ntmps := 27 }
theorem eok_ref02_Pair (n : Nat) : EnvOK Tryd.prog (E_ref02_Pair n) := ⟨tys_ok tys_chk, prog_mixed, (fns_cons (ok_ref02_Of n) fns_nil)⟩
def K_ref02_Pair (n : Nat) (pa0 : (Arr 32 Int)) (pb0 : (Arr 32 Int)) (r : (Arr 32 Int)) : St → Prop := Done (E_ref02_Pair n) Tryd.f17.results.toList [] (ea_ref02_Pair (pa0, pb0)) (er_ref02_Pair r).1 (er_ref02_Pair r).2
set_option maxRecDepth 100000 in
set_option maxHeartbeats 4000000 in
theorem ok_ref02_Pair (n : Nat) : SpecOK Tryd.prog glob 17 (sp_ref02_Pair n) := by
  refine specP_ok (fn := Tryd.f17) (eok_ref02_Pair n) (by kernel_rfl) rfl (by decide +kernel) (by kernel_rfl) (fun _ => by show 2 ≤ 27; omega) (fun _ _ r => ⟨(rrf_tree ((flat_eA (fun _ => rfl)) _) rrf_nil), flats_nil⟩) ?_
  rintro ⟨pa0, pb0⟩ r h C hL hC
  have hE := eok_ref02_Pair n
  replace hL : ∀ n g, (n, g) ∈ C.lent → n ∈ ([] : List Nat) := hL
  replace h : f_ref02_Pair n pa0 pb0 = some r := h
  show Ab _ _ _ _ _ (End (K_ref02_Pair n pa0 pb0 r))
  unfold f_ref02_Pair at h
  refine Ab.seq ?_
  refine Ab.regT hE hC hL [] { keep := [2, 3, 4], ren := [(2, 2), (3, 3), (4, 4)] } ⟨[(2, (.ref 2 [] (0))), (3, (.ref 3 [] (0))), (4, (.ref 4 [] (0)))], [(2, (.var false 24 (.t ((eA 1 (T.int .u8)) pa0)))), (3, (.var false 24 (.t ((eA 1 (T.int .u8)) pb0)))), (4, (.var false 24 (.t ((eA 1 (T.int .u8)) (Arr.rep 32 (0:Int))))))]⟩ [] (by kernel_rfl) trivial ?_
  refine Nxt_norm ?_
  refine Ab.seq ?_
  refine Ab.regT hE hC hL [[.l (List.map (T.int .u8) (List.replicate 64 (0:Int)))]] { keep := [2, 3, 4, 5], ren := [(2, 2), (3, 3), (4, 4), (7, 7)] } ⟨[(2, (.ref 2 [] (0))), (3, (.ref 3 [] (0))), (4, (.ref 4 [] (0))), (5, (.own 7))], [(2, (.var false 24 (.t ((eA 1 (T.int .u8)) pa0)))), (3, (.var false 24 (.t ((eA 1 (T.int .u8)) pb0)))), (4, (.var false 24 (.t ((eA 1 (T.int .u8)) (Arr.rep 32 (0:Int)))))), (7, (.row false 5 1 (List.map (T.int .u8) (List.replicate 64 (0:Int)))))]⟩ [0 ≤ (64:Int), ((64:Int) = (64:Int) ∨ (64:Int) = 0), (64:Int) ≤ (64:Int), ((1 : Nat) : Int) * (64:Int) ≤ 140737488355328, (64:Int) ≤ 140737488355328, List.replicate ((64:Int)).toNat (.int .u8 0) = List.map (T.int .u8) (List.replicate 64 (0:Int))] (by kernel_rfl) ⟨(by decide), (by decide), (by decide), (by decide), (by decide), (rep_map rfl), trivial⟩ ?_
  refine Nxt_norm ?_
  refine Ab.seq ?_
  refine Ab.seq ?_
  refine Ab.regT hE hC hL [] { keep := [2, 3, 4, 5, 6], ren := [(2, 2), (3, 3), (4, 4), (7, 7)] } ⟨[(2, (.ref 2 [] (0))), (3, (.ref 3 [] (0))), (4, (.ref 4 [] (0))), (5, (.own 7)), (6, (.t (.int .i64 (0:Int))))], [(2, (.var false 24 (.t ((eA 1 (T.int .u8)) pa0)))), (3, (.var false 24 (.t ((eA 1 (T.int .u8)) pb0)))), (4, (.var false 24 (.t ((eA 1 (T.int .u8)) (Arr.rep 32 (0:Int)))))), (7, (.row false 5 1 (List.map (T.int .u8) (List.replicate 64 (0:Int)))))]⟩ [] (by kernel_rfl) trivial ?_
  refine Nxt_norm ?_
  obtain ⟨x0, hx0, h⟩ := bind_some h
  refine Ab.loopX0 (fun ((a0, a1) : ((List Int) × Int)) => (⟨[(2, (.ref 49000 [] (0))), (3, (.ref 49001 [] (0))), (4, (.ref 49002 [] (0))), (5, (.own 49003)), (6, (.t (.int .i64 a1)))], [(49000, (.var false 24 (.t ((eA 1 (T.int .u8)) pa0)))), (49001, (.var false 24 (.t ((eA 1 (T.int .u8)) pb0)))), (49002, (.var false 24 (.t ((eA 1 (T.int .u8)) (Arr.rep 32 (0:Int)))))), (49003, (.row false 5 1 (List.map (T.int .u8) a0)))]⟩ : St)) (fun (a2 : (List Int)) => (⟨[(4, (.ref 49000 [] (0))), (5, (.own 49001))], [(49000, (.var false 24 (.t ((eA 1 (T.int .u8)) (Arr.rep 32 (0:Int)))))), (49001, (.row false 5 1 (List.map (T.int .u8) a2)))]⟩ : St)) { fs := [], keep := [2, 3, 4, 5, 6], ren := [(2, 49000), (3, 49001), (4, 49002), (7, 49003)] } ((List.replicate 64 (0:Int)), (0:Int)) hC hL hx0 (by kernel_rfl) ?_ ?_
  · rintro ⟨a0, a1⟩ o0 h
    replace h : f_ref02_Pair_b0 n pa0 pb0 a0 a1 = some o0 := h
    unfold f_ref02_Pair_b0 at h
    refine Ab.seq ?_
    refine Ab.seq ?_
    refine Ab.regT hE hC hL [] { keep := [2, 3, 4, 5, 6, 9], ren := [(49000, 49000), (49001, 49001), (49002, 49002), (49003, 49003)] } ⟨[(2, (.ref 49000 [] (0))), (3, (.ref 49001 [] (0))), (4, (.ref 49002 [] (0))), (5, (.own 49003)), (6, (.t (.int .i64 a1))), (9, (.t (.bool (decide (a1 < (32:Int))))))], [(49000, (.var false 24 (.t ((eA 1 (T.int .u8)) pa0)))), (49001, (.var false 24 (.t ((eA 1 (T.int .u8)) pb0)))), (49002, (.var false 24 (.t ((eA 1 (T.int .u8)) (Arr.rep 32 (0:Int)))))), (49003, (.row false 5 1 (List.map (T.int .u8) a0)))]⟩ [] (by kernel_rfl) trivial ?_
    refine Nxt_norm ?_
    refine Ab.cond (b := (decide (a1 < (32:Int)))) (by kernel_rfl) (fun hb0 => ?_) (fun hb0 => ?_)
    · replace h := cond_t hb0 h
      refine Ab.skip ?_
      refine Nxt_norm ?_
      refine Ab.seq ?_
      refine Ab.block ?_
      refine Ab.seq ?_
      obtain ⟨hq0, h⟩ := ask_dec h
      obtain ⟨v0, hv0, h⟩ := bind_some h
      obtain ⟨hq1, h⟩ := ask_dec h
      obtain ⟨v1, hv1, h⟩ := bind_some h
      refine Ab.regT hE hC hL [[], [], [], [.c], [.t (.int .u8 v0)], [.c], [.t (.int .u8 v1), .l (List.map (T.int .u8) (List.set a0 a1.toNat v0))]] { keep := [2, 3, 4, 5, 6], ren := [(49000, 49000), (49001, 49001), (49002, 49002), (49003, 49003)] } ⟨[(2, (.ref 49000 [] (0))), (3, (.ref 49001 [] (0))), (4, (.ref 49002 [] (0))), (5, (.own 49003)), (6, (.t (.int .i64 a1)))], [(49000, (.var false 24 (.t ((eA 1 (T.int .u8)) pa0)))), (49001, (.var false 24 (.t ((eA 1 (T.int .u8)) pb0)))), (49002, (.var false 24 (.t ((eA 1 (T.int .u8)) (Arr.rep 32 (0:Int)))))), (49003, (.row false 5 1 (List.map (T.int .u8) (List.set a0 a1.toNat v0))))]⟩ [0 ≤ a1, a1 < ((32 : Nat) : Int), a1.toNat * 1 + 0 = 0 + a1.toNat * 1, (List.map (T.int .u8) pa0.l)[a1.toNat]? = some (.int .u8 v0), 0 ≤ a1, a1.toNat < List.length (List.map (T.int .u8) a0), a1.toNat * 1 + 0 = a1.toNat * 1, (List.map (T.int .u8) a0)[a1.toNat]? = some (.int .u8 v1), (List.map (T.int .u8) a0)[a1.toNat]? = some (.int .u8 v1), (List.map (T.int .u8) a0).set a1.toNat (.int .u8 v0) = List.map (T.int .u8) (List.set a0 a1.toNat v0)] (by kernel_rfl) ⟨hq0, (of_decide_eq_true hb0), (by omega), (at_map hv0), hq0, (by rw [List.length_map]; exact hq1), (by omega), (at_map hv1), (at_map hv1), set_map, trivial⟩ ?_
      refine Nxt_norm ?_
      obtain ⟨v2, hv2, h⟩ := bind_some h
      obtain ⟨hq2, h⟩ := ask_dec h
      obtain ⟨hq3, h⟩ := ask_dec h
      obtain ⟨v3, hv3, h⟩ := bind_some h
      refine Ab.regT hE hC hL [[], [], [], [], [.c], [.t (.int .u8 v2)], [.c], [.t (.int .u8 v3), .l (List.map (T.int .u8) (List.set (List.set a0 a1.toNat v0) ((wi ((32:Int) + a1)).toNat) v2))]] { keep := [2, 3, 4, 5, 6], ren := [(49000, 49000), (49001, 49001), (49002, 49002), (49003, 49003)] } ⟨[(2, (.ref 49000 [] (0))), (3, (.ref 49001 [] (0))), (4, (.ref 49002 [] (0))), (5, (.own 49003)), (6, (.t (.int .i64 a1)))], [(49000, (.var false 24 (.t ((eA 1 (T.int .u8)) pa0)))), (49001, (.var false 24 (.t ((eA 1 (T.int .u8)) pb0)))), (49002, (.var false 24 (.t ((eA 1 (T.int .u8)) (Arr.rep 32 (0:Int)))))), (49003, (.row false 5 1 (List.map (T.int .u8) (List.set (List.set a0 a1.toNat v0) ((wi ((32:Int) + a1)).toNat) v2))))]⟩ [0 ≤ a1, a1 < ((32 : Nat) : Int), a1.toNat * 1 + 0 = 0 + a1.toNat * 1, (List.map (T.int .u8) pb0.l)[a1.toNat]? = some (.int .u8 v2), 0 ≤ (wi ((32:Int) + a1)), (wi ((32:Int) + a1)).toNat < List.length (List.map (T.int .u8) (List.set a0 a1.toNat v0)), (wi ((32:Int) + a1)).toNat * 1 + 0 = (wi ((32:Int) + a1)).toNat * 1, (List.map (T.int .u8) (List.set a0 a1.toNat v0))[(wi ((32:Int) + a1)).toNat]? = some (.int .u8 v3), (List.map (T.int .u8) (List.set a0 a1.toNat v0))[(wi ((32:Int) + a1)).toNat]? = some (.int .u8 v3), (List.map (T.int .u8) (List.set a0 a1.toNat v0)).set ((wi ((32:Int) + a1)).toNat) (.int .u8 v2) = List.map (T.int .u8) (List.set (List.set a0 a1.toNat v0) ((wi ((32:Int) + a1)).toNat) v2)] (by kernel_rfl) ⟨hq0, (of_decide_eq_true hb0), (by omega), (at_map hv2), hq2, (by rw [List.length_map]; exact hq3), (by omega), (at_map hv3), (at_map hv3), set_map, trivial⟩ ?_
      refine Blk_norm ?_
      refine Nxt_norm ?_
      refine Ab.regT hE hC hL [] { keep := [2, 3, 4, 5, 6], ren := [(49000, 49000), (49001, 49001), (49002, 49002), (49003, 49003)] } ⟨[(2, (.ref 49000 [] (0))), (3, (.ref 49001 [] (0))), (4, (.ref 49002 [] (0))), (5, (.own 49003)), (6, (.t (.int .i64 (wi (a1 + (1:Int))))))], [(49000, (.var false 24 (.t ((eA 1 (T.int .u8)) pa0)))), (49001, (.var false 24 (.t ((eA 1 (T.int .u8)) pb0)))), (49002, (.var false 24 (.t ((eA 1 (T.int .u8)) (Arr.rep 32 (0:Int)))))), (49003, (.row false 5 1 (List.map (T.int .u8) (List.set (List.set a0 a1.toNat v0) ((wi ((32:Int) + a1)).toNat) v2))))]⟩ [] (by kernel_rfl) trivial ?_
      exact LK_norm ((List.set (List.set a0 a1.toNat v0) ((wi ((32:Int) + a1)).toNat) v2), (wi (a1 + (1:Int)))) { fs := [], keep := [2, 3, 4, 5, 6], ren := [(49000, 49000), (49001, 49001), (49002, 49002), (49003, 49003)] } h (by kernel_rfl)
    · replace h := cond_f hb0 h
      refine Ab.exit ?_
      refine Nxt_exit ?_
      exact LK_exit a0 h (PX_mk { fs := [], keep := [4, 5], ren := [(49002, 49000), (49003, 49001)] } (by kernel_rfl))
  · refine Nxt_norm ?_
    refine Ab.seq ?_
    obtain ⟨r0, hr0, h⟩ := bind_some h
    refine Ab.regT hE hC hL [[], [.r [.tree ((eA 1 (T.int .u8)) r0)] []]] { keep := [4], ren := [(49000, 49000)] } ⟨[(4, (.ref 49000 [] (0)))], [(49000, (.var false 24 (.t ((eA 1 (T.int .u8)) r0))))]⟩ [(sp_ref02_Of n).fn [(.slc 1 (List.map (T.int .u8) x0))] = some ([.tree ((eA 1 (T.int .u8)) r0)], [])] (by kernel_rfl) ⟨(ap_ref02_Of n (by exact ⟨leT.refl _, trivial⟩) hr0), trivial⟩ ?_
    refine Nxt_norm ?_
    refine Ab.ret ?_
    obtain rfl := Option.some.inj h
    exact End_ret (doneO_ok (md := [false]) (by kernel_rfl))
def ea_ref02_Hex (a : (Arr 32 Int)) : List T := [(eA 1 (T.int .u8)) a]
def er_ref02_Hex (r : ByteArray) : List RR × List T := ([.tree (T.str r)], [])
noncomputable def sp_ref02_Hex (n : Nat) : Spec := specP [] true ea_ref02_Hex (fun a => f_ref02_Hex n a) (fun _ r => er_ref02_Hex r)
theorem ap_ref02_Hex (n : Nat) {ts : List T} {a0 : (Arr 32 Int)} {r : ByteArray} (hle : leTs ts [(eA 1 (T.int .u8)) a0]) (h : f_ref02_Hex n a0 = some r) : (sp_ref02_Hex n).fn ts = some ([.tree (T.str r)], []) :=
  specP_fn (a := a0) (InjA.one (inj_eA (inj_int _))) hle h
noncomputable def E_ref02_Hex (n : Nat) : Env := { ty := tyT, glob := glob, fns := get [], ntmps := 28 }
theorem eok_ref02_Hex (n : Nat) : EnvOK Tryd.prog (E_ref02_Hex n) := ⟨tys_ok tys_chk, prog_mixed, fns_nil⟩
def K_ref02_Hex (n : Nat) (pr0 : (Arr 32 Int)) (r : ByteArray) : St → Prop := Done (E_ref02_Hex n) Tryd.f19.results.toList [] (ea_ref02_Hex pr0) (er_ref02_Hex r).1 (er_ref02_Hex r).2
set_option maxRecDepth 100000 in
set_option maxHeartbeats 4000000 in
theorem ok_ref02_Hex (n : Nat) : SpecOK Tryd.prog glob 19 (sp_ref02_Hex n) := by
  refine specP_ok (fn := Tryd.f19) (eok_ref02_Hex n) (by kernel_rfl) rfl (by decide +kernel) (by kernel_rfl) (fun _ => by show 1 ≤ 28; omega) (fun _ _ r => ⟨(rrf_tree ((fun _ => rfl) _) rrf_nil), flats_nil⟩) ?_
  rintro pr0 r h C hL hC
  have hE := eok_ref02_Hex n
  replace hL : ∀ n g, (n, g) ∈ C.lent → n ∈ ([] : List Nat) := hL
  replace h : f_ref02_Hex n pr0 = some r := h
  show Ab _ _ _ _ _ (End (K_ref02_Hex n pr0 r))
  unfold f_ref02_Hex at h
  refine Ab.seq ?_
  refine Ab.regT hE hC hL [] { keep := [1], ren := [(1, 1)] } ⟨[(1, (.ref 1 [] (0)))], [(1, (.var false 24 (.t ((eA 1 (T.int .u8)) pr0))))]⟩ [] (by kernel_rfl) trivial ?_
  refine Nxt_norm ?_
  refine Ab.seq ?_
  refine Ab.regT hE hC hL [] { keep := [1, 3], ren := [(1, 1)] } ⟨[(1, (.ref 1 [] (0))), (3, (.t (.str str_2)))], [(1, (.var false 24 (.t ((eA 1 (T.int .u8)) pr0))))]⟩ [] (by kernel_rfl) trivial ?_
  refine Nxt_norm ?_
  refine Ab.seq ?_
  refine Ab.regT hE hC hL [[.l (List.map (T.int .u8) (List.replicate 64 (0:Int)))]] { keep := [1, 3, 4], ren := [(1, 1), (6, 6)] } ⟨[(1, (.ref 1 [] (0))), (3, (.t (.str str_2))), (4, (.own 6))], [(1, (.var false 24 (.t ((eA 1 (T.int .u8)) pr0)))), (6, (.row false 5 1 (List.map (T.int .u8) (List.replicate 64 (0:Int)))))]⟩ [0 ≤ (64:Int), ((64:Int) = (64:Int) ∨ (64:Int) = 0), (64:Int) ≤ (64:Int), ((1 : Nat) : Int) * (64:Int) ≤ 140737488355328, (64:Int) ≤ 140737488355328, List.replicate ((64:Int)).toNat (.int .u8 0) = List.map (T.int .u8) (List.replicate 64 (0:Int))] (by kernel_rfl) ⟨(by decide), (by decide), (by decide), (by decide), (by decide), (rep_map rfl), trivial⟩ ?_
  refine Nxt_norm ?_
  refine Ab.seq ?_
  refine Ab.seq ?_
  refine Ab.regT hE hC hL [] { keep := [1, 3, 4, 5], ren := [(1, 1), (6, 6)] } ⟨[(1, (.ref 1 [] (0))), (3, (.t (.str str_2))), (4, (.own 6)), (5, (.t (.int .i64 (0:Int))))], [(1, (.var false 24 (.t ((eA 1 (T.int .u8)) pr0)))), (6, (.row false 5 1 (List.map (T.int .u8) (List.replicate 64 (0:Int)))))]⟩ [] (by kernel_rfl) trivial ?_
  refine Nxt_norm ?_
  obtain ⟨x0, hx0, h⟩ := bind_some h
  refine Ab.loopX0 (fun ((a0, a1) : ((List Int) × Int)) => (⟨[(1, (.ref 49000 [] (0))), (3, (.t (.str str_2))), (4, (.own 49001)), (5, (.t (.int .i64 a1)))], [(49000, (.var false 24 (.t ((eA 1 (T.int .u8)) pr0)))), (49001, (.row false 5 1 (List.map (T.int .u8) a0)))]⟩ : St)) (fun (a2 : (List Int)) => (⟨[(4, (.own 49000))], [(49000, (.row false 5 1 (List.map (T.int .u8) a2)))]⟩ : St)) { fs := [], keep := [1, 3, 4, 5], ren := [(1, 49000), (6, 49001)] } ((List.replicate 64 (0:Int)), (0:Int)) hC hL hx0 (by kernel_rfl) ?_ ?_
  · rintro ⟨a0, a1⟩ o0 h
    replace h : f_ref02_Hex_b0 n pr0 a0 a1 = some o0 := h
    unfold f_ref02_Hex_b0 at h
    refine Ab.seq ?_
    refine Ab.seq ?_
    refine Ab.regT hE hC hL [] { keep := [1, 3, 4, 5, 8], ren := [(49000, 49000), (49001, 49001)] } ⟨[(1, (.ref 49000 [] (0))), (3, (.t (.str str_2))), (4, (.own 49001)), (5, (.t (.int .i64 a1))), (8, (.t (.bool (decide (a1 < (64:Int))))))], [(49000, (.var false 24 (.t ((eA 1 (T.int .u8)) pr0)))), (49001, (.row false 5 1 (List.map (T.int .u8) a0)))]⟩ [] (by kernel_rfl) trivial ?_
    refine Nxt_norm ?_
    refine Ab.cond (b := (decide (a1 < (64:Int)))) (by kernel_rfl) (fun hb0 => ?_) (fun hb0 => ?_)
    · replace h := cond_t hb0 h
      refine Ab.skip ?_
      refine Nxt_norm ?_
      refine Ab.seq ?_
      refine Ab.block ?_
      obtain ⟨hq0, h⟩ := ask_dec h
      obtain ⟨hq1, h⟩ := ask_dec h
      obtain ⟨v0, hv0, h⟩ := bind_some h
      obtain ⟨hq2, h⟩ := ask_dec h
      obtain ⟨hq3, h⟩ := ask_dec h
      obtain ⟨v1, hv1, h⟩ := bind_some h
      obtain ⟨hq4, h⟩ := ask_dec h
      obtain ⟨hq5, h⟩ := ask_dec h
      obtain ⟨v2, hv2, h⟩ := bind_some h
      refine Ab.regT hE hC hL [[], [], [], [], [], [.c], [.t (.int .u8 v0)], [], [], [], [], [.c], [], [.n v1], [.c], [.t (.int .u8 v2), .l (List.map (T.int .u8) (List.set a0 a1.toNat v1))]] { keep := [1, 3, 4, 5], ren := [(49000, 49000), (49001, 49001)] } ⟨[(1, (.ref 49000 [] (0))), (3, (.t (.str str_2))), (4, (.own 49001)), (5, (.t (.int .i64 a1)))], [(49000, (.var false 24 (.t ((eA 1 (T.int .u8)) pr0)))), (49001, (.row false 5 1 (List.map (T.int .u8) (List.set a0 a1.toNat v1))))]⟩ [0 ≤ (wi (a1.tdiv (2:Int))), (wi (a1.tdiv (2:Int))) < ((32 : Nat) : Int), (wi (a1.tdiv (2:Int))).toNat * 1 + 0 = 0 + (wi (a1.tdiv (2:Int))).toNat * 1, (List.map (T.int .u8) pr0.l)[(wi (a1.tdiv (2:Int))).toNat]? = some (.int .u8 v0), ¬ (wi ((4:Int) * (wi ((1:Int) - (a1.tmod (2:Int)))))) < 0, 0 ≤ (bits .and .u8 (shr .u8 v0 (wi ((4:Int) * (wi ((1:Int) - (a1.tmod (2:Int))))))) (15:Int)), (str_2.data[(bits .and .u8 (shr .u8 v0 (wi ((4:Int) * (wi ((1:Int) - (a1.tmod (2:Int))))))) (15:Int)).toNat]?).map (fun b => (b.toNat : Int)) = some v1, 0 ≤ a1, a1.toNat < List.length (List.map (T.int .u8) a0), a1.toNat * 1 + 0 = a1.toNat * 1, (List.map (T.int .u8) a0)[a1.toNat]? = some (.int .u8 v2), (List.map (T.int .u8) a0)[a1.toNat]? = some (.int .u8 v2), (List.map (T.int .u8) a0).set a1.toNat (.int .u8 v1) = List.map (T.int .u8) (List.set a0 a1.toNat v1)] (by kernel_rfl) ⟨hq0, hq1, (by omega), (at_map hv0), (Int.not_lt.2 hq2), hq3, hv1, hq4, (by rw [List.length_map]; exact hq5), (by omega), (at_map hv2), (at_map hv2), set_map, trivial⟩ ?_
      refine Blk_norm ?_
      refine Nxt_norm ?_
      refine Ab.regT hE hC hL [] { keep := [1, 3, 4, 5], ren := [(49000, 49000), (49001, 49001)] } ⟨[(1, (.ref 49000 [] (0))), (3, (.t (.str str_2))), (4, (.own 49001)), (5, (.t (.int .i64 (wi (a1 + (1:Int))))))], [(49000, (.var false 24 (.t ((eA 1 (T.int .u8)) pr0)))), (49001, (.row false 5 1 (List.map (T.int .u8) (List.set a0 a1.toNat v1))))]⟩ [] (by kernel_rfl) trivial ?_
      exact LK_norm ((List.set a0 a1.toNat v1), (wi (a1 + (1:Int)))) { fs := [], keep := [1, 3, 4, 5], ren := [(49000, 49000), (49001, 49001)] } h (by kernel_rfl)
    · replace h := cond_f hb0 h
      refine Ab.exit ?_
      refine Nxt_exit ?_
      exact LK_exit a0 h (PX_mk { fs := [], keep := [4], ren := [(49001, 49000)] } (by kernel_rfl))
  · refine Nxt_norm ?_
    refine Ab.seq ?_
    refine Ab.regT hE hC hL [[], [.s (strOf x0)]] { keep := [2], ren := [] } ⟨[(2, (.t (.str (strOf x0))))], []⟩ [(bytesOf (List.map (T.int .u8) x0)).map (fun b => (⟨b.toArray⟩ : ByteArray)) = some (strOf x0)] (by kernel_rfl) ⟨(bytes_strOf rfl), trivial⟩ ?_
    refine Nxt_norm ?_
    refine Ab.ret ?_
    obtain rfl := Option.some.inj h
    exact End_ret (doneO_ok (md := [false]) (by kernel_rfl))
def ea_law02_DigestPairs (a : (Arr 32 Int) × (Arr 32 Int)) : List T := [(eA 1 (T.int .u8)) a.1, (eA 1 (T.int .u8)) a.2]
def er_law02_DigestPairs (r : Bool) : List RR × List T := ([.tree (T.bool r)], [])
noncomputable def sp_law02_DigestPairs (n : Nat) : Spec := specP [] true ea_law02_DigestPairs (fun a => f_law02_DigestPairs n a.1 a.2) (fun _ r => er_law02_DigestPairs r)
theorem ap_law02_DigestPairs (n : Nat) {ts : List T} {a0 : (Arr 32 Int)} {a1 : (Arr 32 Int)} {r : Bool} (hle : leTs ts [(eA 1 (T.int .u8)) a0, (eA 1 (T.int .u8)) a1]) (h : f_law02_DigestPairs n a0 a1 = some r) : (sp_law02_DigestPairs n).fn ts = some ([.tree (T.bool r)], []) :=
  specP_fn (a := (a0, a1)) (InjA.cons (inj_eA (inj_int _)) (InjA.one (inj_eA (inj_int _)))) hle h
noncomputable def E_law02_DigestPairs (n : Nat) : Env := { ty := tyT, glob := glob, fns := get [(13, sp_law02_Awake n), (14, sp_digest_Of n), (16, sp_digest_Pair n), (17, sp_ref02_Pair n), (18, sp_digest_Hex n), (19, sp_ref02_Hex n)], ntmps := 35 }
theorem eok_law02_DigestPairs (n : Nat) : EnvOK Tryd.prog (E_law02_DigestPairs n) := ⟨tys_ok tys_chk, prog_mixed, (fns_cons (ok_law02_Awake n) (fns_cons (ok_digest_Of n) (fns_cons (ok_digest_Pair n) (fns_cons (ok_ref02_Pair n) (fns_cons (ok_digest_Hex n) (fns_cons (ok_ref02_Hex n) fns_nil))))))⟩
def K_law02_DigestPairs (n : Nat) (pa0 : (Arr 32 Int)) (pb0 : (Arr 32 Int)) (r : Bool) : St → Prop := Done (E_law02_DigestPairs n) Tryd.f5.results.toList [] (ea_law02_DigestPairs (pa0, pb0)) (er_law02_DigestPairs r).1 (er_law02_DigestPairs r).2
set_option maxRecDepth 100000 in
set_option maxHeartbeats 4000000 in
theorem ok_law02_DigestPairs (n : Nat) : SpecB Tryd.prog glob 5 (sp_law02_DigestPairs n) := by
  refine specP_B (fn := Tryd.f5) (eok_law02_DigestPairs n) (by kernel_rfl) rfl (by decide +kernel) (by kernel_rfl) (fun _ => by show 2 ≤ 35; omega)  ?_
  rintro ⟨pa0, pb0⟩ r h C hL hC
  have hE := eok_law02_DigestPairs n
  replace hL : ∀ n g, (n, g) ∈ C.lent → n ∈ ([] : List Nat) := hL
  replace h : f_law02_DigestPairs n pa0 pb0 = some r := h
  show Ab _ _ _ _ _ (End (K_law02_DigestPairs n pa0 pb0 r))
  unfold f_law02_DigestPairs at h
  refine Ab.seq ?_
  refine Ab.regT hE hC hL [] { keep := [2, 3], ren := [(2, 2), (3, 3)] } ⟨[(2, (.ref 2 [] (0))), (3, (.ref 3 [] (0)))], [(2, (.var false 24 (.t ((eA 1 (T.int .u8)) pa0)))), (3, (.var false 24 (.t ((eA 1 (T.int .u8)) pb0))))]⟩ [] (by kernel_rfl) trivial ?_
  refine Nxt_norm ?_
  refine Ab.seq ?_
  refine Ab.seq ?_
  obtain ⟨r0, hr0, h⟩ := bind_some h
  refine Ab.regT hE hC hL [[.r [.tree (.bool r0)] []]] { keep := [2, 3, 7], ren := [(2, 2), (3, 3)] } ⟨[(2, (.ref 2 [] (0))), (3, (.ref 3 [] (0))), (7, (.t (.bool (!r0))))], [(2, (.var false 24 (.t ((eA 1 (T.int .u8)) pa0)))), (3, (.var false 24 (.t ((eA 1 (T.int .u8)) pb0))))]⟩ [(sp_law02_Awake n).fn [] = some ([.tree (.bool r0)], [])] (by kernel_rfl) ⟨(ap_law02_Awake n (by exact trivial) hr0), trivial⟩ ?_
  refine Nxt_norm ?_
  refine Ab.cond (b := (!r0)) (by kernel_rfl) (fun hb0 => ?_) (fun hb0 => ?_)
  · replace h := cond_t hb0 h
    refine Ab.seq ?_
    refine Ab.regT hE hC hL [] { keep := [4], ren := [] } ⟨[(4, (.t (.bool false)))], []⟩ [] (by kernel_rfl) trivial ?_
    refine Nxt_norm ?_
    refine Ab.ret ?_
    refine Nxt_ret ?_
    obtain rfl := Option.some.inj h
    exact End_ret (doneO_ok (md := [false]) (by kernel_rfl))
  · replace h := cond_f hb0 h
    refine Ab.skip ?_
    refine Nxt_norm ?_
    refine Ab.seq ?_
    obtain ⟨hq0, h⟩ := ask_dec h
    obtain ⟨hq1, h⟩ := ask_dec h
    refine Ab.regA hE hC hL [[], [], [.l (List.map (T.int .u8) (([] : List Int) ++ pa0.l))], [], [.l (List.map (T.int .u8) ((([] : List Int) ++ pa0.l) ++ pb0.l))]] { keep := [2, 3, 5], ren := [(2, 2), (3, 3), (12, 12)] } ⟨[(2, (.ref 2 [] (0))), (3, (.ref 3 [] (0))), (5, (.own 12))], [(2, (.var false 24 (.t ((eA 1 (T.int .u8)) pa0)))), (3, (.var false 24 (.t ((eA 1 (T.int .u8)) pb0)))), (12, (.row false 5 1 (List.map (T.int .u8) ((([] : List Int) ++ pa0.l) ++ pb0.l))))]⟩ [(List.length (List.map (T.int .u8) ([] : List Int)) + List.length (List.take 32 (List.drop 0 (List.map (T.int .u8) pa0.l)))) * 1 ≤ maxBytes, List.length (List.map (T.int .u8) ([] : List Int)) + List.length (List.take 32 (List.drop 0 (List.map (T.int .u8) pa0.l))) ≤ maxBytes, (List.map (T.int .u8) ([] : List Int)) ++ (List.take 32 (List.drop 0 (List.map (T.int .u8) pa0.l))) = List.map (T.int .u8) (([] : List Int) ++ pa0.l), 0 + 32 ≤ List.length (List.map (T.int .u8) pa0.l), 0 = 0 + 0 * 1, (List.length (List.map (T.int .u8) (([] : List Int) ++ pa0.l)) + List.length (List.take 32 (List.drop 0 (List.map (T.int .u8) pb0.l)))) * 1 ≤ maxBytes, List.length (List.map (T.int .u8) (([] : List Int) ++ pa0.l)) + List.length (List.take 32 (List.drop 0 (List.map (T.int .u8) pb0.l))) ≤ maxBytes, (List.map (T.int .u8) (([] : List Int) ++ pa0.l)) ++ (List.take 32 (List.drop 0 (List.map (T.int .u8) pb0.l))) = List.map (T.int .u8) ((([] : List Int) ++ pa0.l) ++ pb0.l), 0 + 32 ≤ List.length (List.map (T.int .u8) pb0.l), 0 = 0 + 0 * 1] (by kernel_rfl) (by kernel_rfl) ⟨(app_b rfl (win_all pa0) hq0), (app_c rfl (win_all pa0) (by decide) hq0), (app_of rfl (win_all pa0)), (by simp only [List.length_map, List.length_take, List.length_drop, List.length_set, List.length_append, Arr.h]; omega), (by omega), (app_b rfl (win_all pb0) hq1), (app_c rfl (win_all pb0) (by decide) hq1), (app_of rfl (win_all pb0)), (by simp only [List.length_map, List.length_take, List.length_drop, List.length_set, List.length_append, Arr.h]; omega), (by omega), trivial⟩ ?_
    refine Nxt_norm ?_
    refine Ab.seq ?_
    obtain ⟨r1, hr1, h⟩ := bind_some h
    obtain ⟨r2, hr2, h⟩ := bind_some h
    rcases Bool.eq_false_or_eq_true (decide (r1 = r2)) with hb1 | hb1
    · replace h := cond_t hb1 h
      obtain ⟨r3, hr3, h⟩ := bind_some h
      rcases Bool.eq_false_or_eq_true (decide (r1 = r3)) with hb2 | hb2
      · replace h := cond_t hb2 h
        obtain ⟨r4, hr4, h⟩ := bind_some h
        obtain ⟨r5, hr5, h⟩ := bind_some h
        refine Ab.regA hE hC hL [[], [], [.r [.tree ((eA 1 (T.int .u8)) r1)] []], [], [.r [.tree ((eA 1 (T.int .u8)) r2)] []], [.b (decide (r1 = r2))], [.b true], [], [], [.r [.tree ((eA 1 (T.int .u8)) r1)] []], [], [], [.r [.tree ((eA 1 (T.int .u8)) r3)] []], [.b (decide (r1 = r3))], [], [.b true], [], [.r [.tree (.str r4)] []], [], [.r [.tree (.str r5)] []]] { keep := [4], ren := [] } ⟨[(4, (.t (.bool (r4.toList == r5.toList))))], []⟩ [(sp_digest_Pair n).fn [((eA 1 (T.int .u8)) pa0), ((eA 1 (T.int .u8)) pb0)] = some ([.tree ((eA 1 (T.int .u8)) r1)], []), (sp_digest_Of n).fn [(.slc 1 (List.map (T.int .u8) ((([] : List Int) ++ pa0.l) ++ pb0.l)))] = some ([.tree ((eA 1 (T.int .u8)) r2)], []), binOp (E_law02_DigestPairs n) .eql 25 (.t ((eA 1 (T.int .u8)) r1)) (.t ((eA 1 (T.int .u8)) r2)) = some (.bool (decide (r1 = r2))), (decide (r1 = r2)) = true, (sp_digest_Pair n).fn [((eA 1 (T.int .u8)) pa0), ((eA 1 (T.int .u8)) pb0)] = some ([.tree ((eA 1 (T.int .u8)) r1)], []), (sp_ref02_Pair n).fn [((eA 1 (T.int .u8)) pa0), ((eA 1 (T.int .u8)) pb0)] = some ([.tree ((eA 1 (T.int .u8)) r3)], []), binOp (E_law02_DigestPairs n) .eql 24 (.t ((eA 1 (T.int .u8)) r1)) (.t ((eA 1 (T.int .u8)) r3)) = some (.bool (decide (r1 = r3))), (decide (r1 = r3)) = true, (sp_digest_Hex n).fn [((eA 1 (T.int .u8)) pa0)] = some ([.tree (.str r4)], []), (sp_ref02_Hex n).fn [((eA 1 (T.int .u8)) pa0)] = some ([.tree (.str r5)], [])] (by kernel_rfl) (by kernel_rfl) ⟨(ap_digest_Pair n (by exact ⟨leT.refl _, leT.refl _, trivial⟩) hr1), (ap_digest_Of n (by exact ⟨leT.refl _, trivial⟩) hr2), (beql_25 _ rfl _ _), hb1, (ap_digest_Pair n (by exact ⟨leT.refl _, leT.refl _, trivial⟩) hr1), (ap_ref02_Pair n (by exact ⟨leT.refl _, leT.refl _, trivial⟩) hr3), (beql_24 _ rfl _ _), hb2, (ap_digest_Hex n (by exact ⟨leT.refl _, trivial⟩) hr4), (ap_ref02_Hex n (by exact ⟨leT.refl _, trivial⟩) hr5), trivial⟩ ?_
        refine Nxt_norm ?_
        refine Ab.ret ?_
        obtain rfl := Option.some.inj h
        exact End_ret (doneO_ok (md := [false]) (by kernel_rfl))
      · replace h := cond_f hb2 h
        refine Ab.regA hE hC hL [[], [], [.r [.tree ((eA 1 (T.int .u8)) r1)] []], [], [.r [.tree ((eA 1 (T.int .u8)) r2)] []], [.b (decide (r1 = r2))], [.b true], [], [], [.r [.tree ((eA 1 (T.int .u8)) r1)] []], [], [], [.r [.tree ((eA 1 (T.int .u8)) r3)] []], [.b (decide (r1 = r3))], [], [.b false]] { keep := [4], ren := [] } ⟨[(4, (.t (.bool false)))], []⟩ [(sp_digest_Pair n).fn [((eA 1 (T.int .u8)) pa0), ((eA 1 (T.int .u8)) pb0)] = some ([.tree ((eA 1 (T.int .u8)) r1)], []), (sp_digest_Of n).fn [(.slc 1 (List.map (T.int .u8) ((([] : List Int) ++ pa0.l) ++ pb0.l)))] = some ([.tree ((eA 1 (T.int .u8)) r2)], []), binOp (E_law02_DigestPairs n) .eql 25 (.t ((eA 1 (T.int .u8)) r1)) (.t ((eA 1 (T.int .u8)) r2)) = some (.bool (decide (r1 = r2))), (decide (r1 = r2)) = true, (sp_digest_Pair n).fn [((eA 1 (T.int .u8)) pa0), ((eA 1 (T.int .u8)) pb0)] = some ([.tree ((eA 1 (T.int .u8)) r1)], []), (sp_ref02_Pair n).fn [((eA 1 (T.int .u8)) pa0), ((eA 1 (T.int .u8)) pb0)] = some ([.tree ((eA 1 (T.int .u8)) r3)], []), binOp (E_law02_DigestPairs n) .eql 24 (.t ((eA 1 (T.int .u8)) r1)) (.t ((eA 1 (T.int .u8)) r3)) = some (.bool (decide (r1 = r3))), (decide (r1 = r3)) = false] (by kernel_rfl) (by kernel_rfl) ⟨(ap_digest_Pair n (by exact ⟨leT.refl _, leT.refl _, trivial⟩) hr1), (ap_digest_Of n (by exact ⟨leT.refl _, trivial⟩) hr2), (beql_25 _ rfl _ _), hb1, (ap_digest_Pair n (by exact ⟨leT.refl _, leT.refl _, trivial⟩) hr1), (ap_ref02_Pair n (by exact ⟨leT.refl _, leT.refl _, trivial⟩) hr3), (beql_24 _ rfl _ _), hb2, trivial⟩ ?_
        refine Nxt_norm ?_
        refine Ab.ret ?_
        obtain rfl := Option.some.inj h
        exact End_ret (doneO_ok (md := [false]) (by kernel_rfl))
    · replace h := cond_f hb1 h
      refine Ab.regA hE hC hL [[], [], [.r [.tree ((eA 1 (T.int .u8)) r1)] []], [], [.r [.tree ((eA 1 (T.int .u8)) r2)] []], [.b (decide (r1 = r2))], [.b false]] { keep := [4], ren := [] } ⟨[(4, (.t (.bool false)))], []⟩ [(sp_digest_Pair n).fn [((eA 1 (T.int .u8)) pa0), ((eA 1 (T.int .u8)) pb0)] = some ([.tree ((eA 1 (T.int .u8)) r1)], []), (sp_digest_Of n).fn [(.slc 1 (List.map (T.int .u8) ((([] : List Int) ++ pa0.l) ++ pb0.l)))] = some ([.tree ((eA 1 (T.int .u8)) r2)], []), binOp (E_law02_DigestPairs n) .eql 25 (.t ((eA 1 (T.int .u8)) r1)) (.t ((eA 1 (T.int .u8)) r2)) = some (.bool (decide (r1 = r2))), (decide (r1 = r2)) = false] (by kernel_rfl) (by kernel_rfl) ⟨(ap_digest_Pair n (by exact ⟨leT.refl _, leT.refl _, trivial⟩) hr1), (ap_digest_Of n (by exact ⟨leT.refl _, trivial⟩) hr2), (beql_25 _ rfl _ _), hb1, trivial⟩ ?_
      refine Nxt_norm ?_
      refine Ab.ret ?_
      obtain rfl := Option.some.inj h
      exact End_ret (doneO_ok (md := [false]) (by kernel_rfl))
def ea_sign_Join (a : (List (Arr 32 Int))) : List T := [(eS 32 (eA 1 (T.int .u8))) a]
def er_sign_Join (r : (Arr 32 Int)) : List RR × List T := ([.tree ((eA 1 (T.int .u8)) r)], [])
noncomputable def sp_sign_Join (n : Nat) : Spec := specP [] true ea_sign_Join (fun a => f_sign_Join n a) (fun _ r => er_sign_Join r)
theorem ap_sign_Join (n : Nat) {ts : List T} {a0 : (List (Arr 32 Int))} {r : (Arr 32 Int)} (hle : leTs ts [(eS 32 (eA 1 (T.int .u8))) a0]) (h : f_sign_Join n a0 = some r) : (sp_sign_Join n).fn ts = some ([.tree ((eA 1 (T.int .u8)) r)], []) :=
  specP_fn (a := a0) (InjA.one (inj_eS (inj_eA (inj_int _)))) hle h
noncomputable def E_sign_Join (n : Nat) : Env := { ty := tyT, glob := glob, fns := get [], ntmps := 27 }
theorem eok_sign_Join (n : Nat) : EnvOK Tryd.prog (E_sign_Join n) := ⟨tys_ok tys_chk, prog_mixed, fns_nil⟩
def K_sign_Join (n : Nat) (ptags0 : (List (Arr 32 Int))) (r : (Arr 32 Int)) : St → Prop := Done (E_sign_Join n) Tryd.f21.results.toList [] (ea_sign_Join ptags0) (er_sign_Join r).1 (er_sign_Join r).2
set_option maxRecDepth 100000 in
set_option maxHeartbeats 4000000 in
theorem ok_sign_Join (n : Nat) : SpecOK Tryd.prog glob 21 (sp_sign_Join n) := by
  refine specP_ok (fn := Tryd.f21) (eok_sign_Join n) (by kernel_rfl) rfl (by decide +kernel) (by kernel_rfl) (fun _ => by show 1 ≤ 27; omega) (fun _ _ r => ⟨(rrf_tree ((flat_eA (fun _ => rfl)) _) rrf_nil), flats_nil⟩) ?_
  rintro ptags0 r h C hL hC
  have hE := eok_sign_Join n
  replace hL : ∀ n g, (n, g) ∈ C.lent → n ∈ ([] : List Nat) := hL
  replace h : f_sign_Join n ptags0 = some r := h
  show Ab _ _ _ _ _ (End (K_sign_Join n ptags0 r))
  unfold f_sign_Join at h
  refine Ab.seq ?_
  refine Ab.regT hE hC hL [] { keep := [0, 2], ren := [(2, 2)] } ⟨[(0, (.t ((eS 32 (eA 1 (T.int .u8))) ptags0))), (2, (.ref 2 [] (0)))], [(2, (.var false 25 (.t ((eA 1 (T.int .u8)) (Arr.rep 32 (0:Int))))))]⟩ [] (by kernel_rfl) trivial ?_
  refine Nxt_norm ?_
  refine Ab.seq ?_
  refine Ab.regT hE hC hL [] { keep := [0, 2, 3], ren := [(2, 2), (3, 3)] } ⟨[(0, (.t ((eS 32 (eA 1 (T.int .u8))) ptags0))), (2, (.ref 2 [] (0))), (3, (.ref 3 [] (0)))], [(2, (.var false 25 (.t ((eA 1 (T.int .u8)) (Arr.rep 32 (0:Int)))))), (3, (.var false 25 (.t ((eA 1 (T.int .u8)) (Arr.rep 32 (0:Int))))))]⟩ [] (by kernel_rfl) trivial ?_
  refine Nxt_norm ?_
  refine Ab.seq ?_
  refine Ab.seq ?_
  refine Ab.regT hE hC hL [[], [.n (ptags0.length : Int)]] { keep := [2, 3, 7, 8, 9], ren := [(2, 2), (3, 3)] } ⟨[(2, (.ref 2 [] (0))), (3, (.ref 3 [] (0))), (7, (.t ((eS 32 (eA 1 (T.int .u8))) ptags0))), (8, (.t (.int .i64 (ptags0.length : Int)))), (9, (.t (.int .i64 (0:Int))))], [(2, (.var false 25 (.t ((eA 1 (T.int .u8)) (Arr.rep 32 (0:Int)))))), (3, (.var false 25 (.t ((eA 1 (T.int .u8)) (Arr.rep 32 (0:Int))))))]⟩ [((List.length (List.map (eA 1 (T.int .u8)) ptags0) : Nat) : Int) = (ptags0.length : Int)] (by kernel_rfl) ⟨(len_of rfl), trivial⟩ ?_
  refine Nxt_norm ?_
  obtain ⟨x1, hx0, h⟩ := bind_some h
  refine Ab.loopX0 (fun ((a0, a1) : ((Arr 32 Int) × Int)) => (⟨[(2, (.ref 49000 [] (0))), (3, (.ref 49001 [] (0))), (7, (.t ((eS 32 (eA 1 (T.int .u8))) ptags0))), (8, (.t (.int .i64 (ptags0.length : Int)))), (9, (.t (.int .i64 a1)))], [(49000, (.var false 25 (.t ((eA 1 (T.int .u8)) (Arr.rep 32 (0:Int)))))), (49001, (.var false 25 (.t ((eA 1 (T.int .u8)) a0))))]⟩ : St)) (fun (a2 : (Arr 32 Int)) => (⟨[(2, (.ref 49000 [] (0))), (3, (.ref 49001 [] (0)))], [(49000, (.var false 25 (.t ((eA 1 (T.int .u8)) (Arr.rep 32 (0:Int)))))), (49001, (.var false 25 (.t ((eA 1 (T.int .u8)) a2))))]⟩ : St)) { fs := [], keep := [2, 3, 7, 8, 9], ren := [(2, 49000), (3, 49001)] } ((Arr.rep 32 (0:Int)), (0:Int)) hC hL hx0 (by kernel_rfl) ?_ ?_
  · rintro ⟨a0, a1⟩ o0 h
    replace h : f_sign_Join_b0 n ptags0 a0 a1 = some o0 := h
    unfold f_sign_Join_b0 at h
    refine Ab.seq ?_
    refine Ab.regT hE hC hL [] { keep := [2, 3, 7, 8, 9, 10], ren := [(49000, 49000), (49001, 49001)] } ⟨[(2, (.ref 49000 [] (0))), (3, (.ref 49001 [] (0))), (7, (.t ((eS 32 (eA 1 (T.int .u8))) ptags0))), (8, (.t (.int .i64 (ptags0.length : Int)))), (9, (.t (.int .i64 a1))), (10, (.t (.bool (decide (a1 < (ptags0.length : Int))))))], [(49000, (.var false 25 (.t ((eA 1 (T.int .u8)) (Arr.rep 32 (0:Int)))))), (49001, (.var false 25 (.t ((eA 1 (T.int .u8)) a0))))]⟩ [] (by kernel_rfl) trivial ?_
    refine Nxt_norm ?_
    refine Ab.seq ?_
    refine Ab.cond (b := (decide (a1 < (ptags0.length : Int)))) (by kernel_rfl) (fun hb0 => ?_) (fun hb0 => ?_)
    · replace h := cond_t hb0 h
      refine Ab.skip ?_
      refine Nxt_norm ?_
      refine Ab.seq ?_
      refine Ab.block ?_
      refine Ab.seq ?_
      obtain ⟨hq0, h⟩ := ask_dec h
      obtain ⟨v0, hv0, h⟩ := bind_some h
      refine Ab.regT hE hC hL [[.t ((eA 1 (T.int .u8)) v0)]] { keep := [2, 3, 5, 7, 8, 9], ren := [(5, 5), (49000, 49000), (49001, 49001)] } ⟨[(2, (.ref 49000 [] (0))), (3, (.ref 49001 [] (0))), (5, (.ref 5 [] (0))), (7, (.t ((eS 32 (eA 1 (T.int .u8))) ptags0))), (8, (.t (.int .i64 (ptags0.length : Int)))), (9, (.t (.int .i64 a1)))], [(5, (.var false 25 (.t ((eA 1 (T.int .u8)) v0)))), (49000, (.var false 25 (.t ((eA 1 (T.int .u8)) (Arr.rep 32 (0:Int)))))), (49001, (.var false 25 (.t ((eA 1 (T.int .u8)) a0))))]⟩ [0 ≤ a1, (List.map (eA 1 (T.int .u8)) ptags0)[a1.toNat]? = some ((eA 1 (T.int .u8)) v0)] (by kernel_rfl) ⟨hq0, (at_map hv0), trivial⟩ ?_
      refine Nxt_norm ?_
      refine Ab.seq ?_
      refine Ab.regT hE hC hL [] { keep := [2, 3, 5, 7, 8, 9, 13], ren := [(5, 5), (49000, 49000), (49001, 49001)] } ⟨[(2, (.ref 49000 [] (0))), (3, (.ref 49001 [] (0))), (5, (.ref 5 [] (0))), (7, (.t ((eS 32 (eA 1 (T.int .u8))) ptags0))), (8, (.t (.int .i64 (ptags0.length : Int)))), (9, (.t (.int .i64 a1))), (13, (.t (.int .i64 (0:Int))))], [(5, (.var false 25 (.t ((eA 1 (T.int .u8)) v0)))), (49000, (.var false 25 (.t ((eA 1 (T.int .u8)) (Arr.rep 32 (0:Int)))))), (49001, (.var false 25 (.t ((eA 1 (T.int .u8)) a0))))]⟩ [] (by kernel_rfl) trivial ?_
      refine Nxt_norm ?_
      obtain ⟨x0, hx1, h⟩ := bind_some h
      refine Ab.loopX0 (fun ((a3, a4) : ((Arr 32 Int) × Int)) => (⟨[(2, (.ref 49000 [] (0))), (3, (.ref 49001 [] (0))), (5, (.ref 49002 [] (0))), (7, (.t ((eS 32 (eA 1 (T.int .u8))) ptags0))), (8, (.t (.int .i64 (ptags0.length : Int)))), (9, (.t (.int .i64 a1))), (13, (.t (.int .i64 a4)))], [(49000, (.var false 25 (.t ((eA 1 (T.int .u8)) (Arr.rep 32 (0:Int)))))), (49001, (.var false 25 (.t ((eA 1 (T.int .u8)) a3)))), (49002, (.var false 25 (.t ((eA 1 (T.int .u8)) v0))))]⟩ : St)) (fun (a5 : (Arr 32 Int)) => (⟨[(2, (.ref 49000 [] (0))), (3, (.ref 49001 [] (0))), (7, (.t ((eS 32 (eA 1 (T.int .u8))) ptags0))), (8, (.t (.int .i64 (ptags0.length : Int)))), (9, (.t (.int .i64 a1)))], [(49000, (.var false 25 (.t ((eA 1 (T.int .u8)) (Arr.rep 32 (0:Int)))))), (49001, (.var false 25 (.t ((eA 1 (T.int .u8)) a5))))]⟩ : St)) { fs := [], keep := [2, 3, 5, 7, 8, 9, 13], ren := [(49000, 49000), (49001, 49001), (5, 49002)] } (a0, (0:Int)) hC hL hx1 (by kernel_rfl) ?_ ?_
      · rintro ⟨a3, a4⟩ o1 h
        replace h : f_sign_Join_b1 n v0 a3 a4 = some o1 := h
        unfold f_sign_Join_b1 at h
        refine Ab.seq ?_
        refine Ab.regT hE hC hL [] { keep := [2, 3, 5, 7, 8, 9, 13, 14], ren := [(49000, 49000), (49001, 49001), (49002, 49002)] } ⟨[(2, (.ref 49000 [] (0))), (3, (.ref 49001 [] (0))), (5, (.ref 49002 [] (0))), (7, (.t ((eS 32 (eA 1 (T.int .u8))) ptags0))), (8, (.t (.int .i64 (ptags0.length : Int)))), (9, (.t (.int .i64 a1))), (13, (.t (.int .i64 a4))), (14, (.t (.bool (decide (a4 < (32:Int))))))], [(49000, (.var false 25 (.t ((eA 1 (T.int .u8)) (Arr.rep 32 (0:Int)))))), (49001, (.var false 25 (.t ((eA 1 (T.int .u8)) a3)))), (49002, (.var false 25 (.t ((eA 1 (T.int .u8)) v0))))]⟩ [] (by kernel_rfl) trivial ?_
        refine Nxt_norm ?_
        refine Ab.seq ?_
        refine Ab.cond (b := (decide (a4 < (32:Int)))) (by kernel_rfl) (fun hb1 => ?_) (fun hb1 => ?_)
        · replace h := cond_t hb1 h
          refine Ab.skip ?_
          refine Nxt_norm ?_
          refine Ab.seq ?_
          refine Ab.block ?_
          refine Ab.seq ?_
          refine Ab.regT hE hC hL [] { keep := [2, 3, 5, 6, 7, 8, 9, 13], ren := [(49000, 49000), (49001, 49001), (49002, 49002)] } ⟨[(2, (.ref 49000 [] (0))), (3, (.ref 49001 [] (0))), (5, (.ref 49002 [] (0))), (6, (.t (.int .i64 a4))), (7, (.t ((eS 32 (eA 1 (T.int .u8))) ptags0))), (8, (.t (.int .i64 (ptags0.length : Int)))), (9, (.t (.int .i64 a1))), (13, (.t (.int .i64 a4)))], [(49000, (.var false 25 (.t ((eA 1 (T.int .u8)) (Arr.rep 32 (0:Int)))))), (49001, (.var false 25 (.t ((eA 1 (T.int .u8)) a3)))), (49002, (.var false 25 (.t ((eA 1 (T.int .u8)) v0))))]⟩ [] (by kernel_rfl) trivial ?_
          refine Nxt_norm ?_
          obtain ⟨hq1, h⟩ := ask_dec h
          obtain ⟨v1, hv1, h⟩ := bind_some h
          obtain ⟨v2, hv2, h⟩ := bind_some h
          refine Ab.regA hE hC hL [[], [.c], [.t (.int .u8 v1)], [], [.c], [.t (.int .u8 v2)], [], [.c], [.t (.int .u8 v1), .l (List.map (T.int .u8) (Arr.set a3 (a4.toNat) (bits .xor .u8 v1 v2)).l)]] { keep := [2, 3, 5, 7, 8, 9, 13], ren := [(49000, 49000), (49001, 49001), (49002, 49002)] } ⟨[(2, (.ref 49000 [] (0))), (3, (.ref 49001 [] (0))), (5, (.ref 49002 [] (0))), (7, (.t ((eS 32 (eA 1 (T.int .u8))) ptags0))), (8, (.t (.int .i64 (ptags0.length : Int)))), (9, (.t (.int .i64 a1))), (13, (.t (.int .i64 a4)))], [(49000, (.var false 25 (.t ((eA 1 (T.int .u8)) (Arr.rep 32 (0:Int)))))), (49001, (.var false 25 (.t ((eA 1 (T.int .u8)) (Arr.set a3 (a4.toNat) (bits .xor .u8 v1 v2)))))), (49002, (.var false 25 (.t ((eA 1 (T.int .u8)) v0))))]⟩ [0 ≤ a4, a4 < ((32 : Nat) : Int), a4.toNat * 1 + 0 = 0 + a4.toNat * 1, (List.map (T.int .u8) a3.l)[a4.toNat]? = some (.int .u8 v1), 0 ≤ a4, a4 < ((32 : Nat) : Int), a4.toNat * 1 + 0 = 0 + a4.toNat * 1, (List.map (T.int .u8) v0.l)[a4.toNat]? = some (.int .u8 v2), 0 ≤ a4, a4 < ((32 : Nat) : Int), a4.toNat * 1 + 0 = 0 + a4.toNat * 1, (List.map (T.int .u8) a3.l)[a4.toNat]? = some (.int .u8 v1), (List.map (T.int .u8) a3.l)[a4.toNat]? = some (.int .u8 v1), (List.map (T.int .u8) a3.l).set a4.toNat (.int .u8 (bits .xor .u8 v1 v2)) = List.map (T.int .u8) (Arr.set a3 (a4.toNat) (bits .xor .u8 v1 v2)).l] (by kernel_rfl) (by kernel_rfl) ⟨hq1, (of_decide_eq_true hb1), (by omega), (at_map hv1), hq1, (of_decide_eq_true hb1), (by omega), (at_map hv2), hq1, (of_decide_eq_true hb1), (by omega), (at_map hv1), (at_map hv1), set_map, trivial⟩ ?_
          refine Blk_norm ?_
          refine Nxt_norm ?_
          refine Ab.regT hE hC hL [] { keep := [2, 3, 5, 7, 8, 9, 13], ren := [(49000, 49000), (49001, 49001), (49002, 49002)] } ⟨[(2, (.ref 49000 [] (0))), (3, (.ref 49001 [] (0))), (5, (.ref 49002 [] (0))), (7, (.t ((eS 32 (eA 1 (T.int .u8))) ptags0))), (8, (.t (.int .i64 (ptags0.length : Int)))), (9, (.t (.int .i64 a1))), (13, (.t (.int .i64 (wi (a4 + (1:Int))))))], [(49000, (.var false 25 (.t ((eA 1 (T.int .u8)) (Arr.rep 32 (0:Int)))))), (49001, (.var false 25 (.t ((eA 1 (T.int .u8)) (Arr.set a3 (a4.toNat) (bits .xor .u8 v1 v2)))))), (49002, (.var false 25 (.t ((eA 1 (T.int .u8)) v0))))]⟩ [] (by kernel_rfl) trivial ?_
          exact LK_norm ((Arr.set a3 (a4.toNat) (bits .xor .u8 v1 v2)), (wi (a4 + (1:Int)))) { fs := [], keep := [2, 3, 5, 7, 8, 9, 13], ren := [(49000, 49000), (49001, 49001), (49002, 49002)] } h (by kernel_rfl)
        · replace h := cond_f hb1 h
          refine Ab.exit ?_
          refine Nxt_exit ?_
          exact LK_exit a3 h (PX_mk { fs := [], keep := [2, 3, 7, 8, 9], ren := [(49000, 49000), (49001, 49001)] } (by kernel_rfl))
      · refine Blk_norm ?_
        refine Nxt_norm ?_
        refine Ab.regT hE hC hL [] { keep := [2, 3, 7, 8, 9], ren := [(49000, 49000), (49001, 49001)] } ⟨[(2, (.ref 49000 [] (0))), (3, (.ref 49001 [] (0))), (7, (.t ((eS 32 (eA 1 (T.int .u8))) ptags0))), (8, (.t (.int .i64 (ptags0.length : Int)))), (9, (.t (.int .i64 (wi (a1 + (1:Int))))))], [(49000, (.var false 25 (.t ((eA 1 (T.int .u8)) (Arr.rep 32 (0:Int)))))), (49001, (.var false 25 (.t ((eA 1 (T.int .u8)) x0))))]⟩ [] (by kernel_rfl) trivial ?_
        exact LK_norm (x0, (wi (a1 + (1:Int)))) { fs := [], keep := [2, 3, 7, 8, 9], ren := [(49000, 49000), (49001, 49001)] } h (by kernel_rfl)
    · replace h := cond_f hb0 h
      refine Ab.exit ?_
      refine Nxt_exit ?_
      exact LK_exit a0 h (PX_mk { fs := [], keep := [2, 3], ren := [(49000, 49000), (49001, 49001)] } (by kernel_rfl))
  · refine Nxt_norm ?_
    refine Ab.seq ?_
    refine Ab.regT hE hC hL [] { keep := [2], ren := [(49000, 49000)] } ⟨[(2, (.ref 49000 [] (0)))], [(49000, (.var false 25 (.t ((eA 1 (T.int .u8)) x1))))]⟩ [] (by kernel_rfl) trivial ?_
    refine Nxt_norm ?_
    refine Ab.ret ?_
    obtain rfl := Option.some.inj h
    exact End_ret (doneO_ok (md := [false]) (by kernel_rfl))
def ea_sign_Tag (a : (Arr 32 Int) × (Arr 32 Int)) : List T := [(eA 1 (T.int .u8)) a.1, (eA 1 (T.int .u8)) a.2]
def er_sign_Tag (r : (Arr 32 Int)) : List RR × List T := ([.tree ((eA 1 (T.int .u8)) r)], [])
noncomputable def sp_sign_Tag (n : Nat) : Spec := specP [] true ea_sign_Tag (fun a => f_sign_Tag n a.1 a.2) (fun _ r => er_sign_Tag r)
theorem ap_sign_Tag (n : Nat) {ts : List T} {a0 : (Arr 32 Int)} {a1 : (Arr 32 Int)} {r : (Arr 32 Int)} (hle : leTs ts [(eA 1 (T.int .u8)) a0, (eA 1 (T.int .u8)) a1]) (h : f_sign_Tag n a0 a1 = some r) : (sp_sign_Tag n).fn ts = some ([.tree ((eA 1 (T.int .u8)) r)], []) :=
  specP_fn (a := (a0, a1)) (InjA.cons (inj_eA (inj_int _)) (InjA.one (inj_eA (inj_int _)))) hle h
noncomputable def E_sign_Tag (n : Nat) : Env := { ty := tyT, glob := glob, fns := get [(16, sp_digest_Pair n)], ntmps := 8 }
theorem eok_sign_Tag (n : Nat) : EnvOK Tryd.prog (E_sign_Tag n) := ⟨tys_ok tys_chk, prog_mixed, (fns_cons (ok_digest_Pair n) fns_nil)⟩
def K_sign_Tag (n : Nat) (pkey0 : (Arr 32 Int)) (pmessage0 : (Arr 32 Int)) (r : (Arr 32 Int)) : St → Prop := Done (E_sign_Tag n) Tryd.f25.results.toList [] (ea_sign_Tag (pkey0, pmessage0)) (er_sign_Tag r).1 (er_sign_Tag r).2
set_option maxRecDepth 100000 in
set_option maxHeartbeats 4000000 in
theorem ok_sign_Tag (n : Nat) : SpecOK Tryd.prog glob 25 (sp_sign_Tag n) := by
  refine specP_ok (fn := Tryd.f25) (eok_sign_Tag n) (by kernel_rfl) rfl (by decide +kernel) (by kernel_rfl) (fun _ => by show 2 ≤ 8; omega) (fun _ _ r => ⟨(rrf_tree ((flat_eA (fun _ => rfl)) _) rrf_nil), flats_nil⟩) ?_
  rintro ⟨pkey0, pmessage0⟩ r h C hL hC
  have hE := eok_sign_Tag n
  replace hL : ∀ n g, (n, g) ∈ C.lent → n ∈ ([] : List Nat) := hL
  replace h : f_sign_Tag n pkey0 pmessage0 = some r := h
  show Ab _ _ _ _ _ (End (K_sign_Tag n pkey0 pmessage0 r))
  unfold f_sign_Tag at h
  refine Ab.seq ?_
  refine Ab.regT hE hC hL [] { keep := [2, 3, 4], ren := [(2, 2), (3, 3), (4, 4)] } ⟨[(2, (.ref 2 [] (0))), (3, (.ref 3 [] (0))), (4, (.ref 4 [] (0)))], [(2, (.var false 25 (.t ((eA 1 (T.int .u8)) pkey0)))), (3, (.var false 25 (.t ((eA 1 (T.int .u8)) pmessage0)))), (4, (.var false 25 (.t ((eA 1 (T.int .u8)) (Arr.rep 32 (0:Int))))))]⟩ [] (by kernel_rfl) trivial ?_
  refine Nxt_norm ?_
  refine Ab.seq ?_
  obtain ⟨r0, hr0, h⟩ := bind_some h
  refine Ab.regT hE hC hL [[], [], [.r [.tree ((eA 1 (T.int .u8)) r0)] []]] { keep := [4], ren := [(4, 4)] } ⟨[(4, (.ref 4 [] (0)))], [(4, (.var false 25 (.t ((eA 1 (T.int .u8)) r0))))]⟩ [(sp_digest_Pair n).fn [((eA 1 (T.int .u8)) pkey0), ((eA 1 (T.int .u8)) pmessage0)] = some ([.tree ((eA 1 (T.int .u8)) r0)], [])] (by kernel_rfl) ⟨(ap_digest_Pair n (by exact ⟨leT.refl _, leT.refl _, trivial⟩) hr0), trivial⟩ ?_
  refine Nxt_norm ?_
  refine Ab.ret ?_
  obtain rfl := Option.some.inj h
  exact End_ret (doneO_ok (md := [false]) (by kernel_rfl))
def ea_sign_Valid (a : (List (Arr 32 Int)) × (Arr 32 Int) × (Arr 32 Int)) : List T := [(eS 32 (eA 1 (T.int .u8))) a.1, (eA 1 (T.int .u8)) a.2.1, (eA 1 (T.int .u8)) a.2.2]
def er_sign_Valid (r : Bool) : List RR × List T := ([.tree (T.bool r)], [])
noncomputable def sp_sign_Valid (n : Nat) : Spec := specP [] true ea_sign_Valid (fun a => f_sign_Valid n a.1 a.2.1 a.2.2) (fun _ r => er_sign_Valid r)
theorem ap_sign_Valid (n : Nat) {ts : List T} {a0 : (List (Arr 32 Int))} {a1 : (Arr 32 Int)} {a2 : (Arr 32 Int)} {r : Bool} (hle : leTs ts [(eS 32 (eA 1 (T.int .u8))) a0, (eA 1 (T.int .u8)) a1, (eA 1 (T.int .u8)) a2]) (h : f_sign_Valid n a0 a1 a2 = some r) : (sp_sign_Valid n).fn ts = some ([.tree (T.bool r)], []) :=
  specP_fn (a := (a0, a1, a2)) (InjA.cons (inj_eS (inj_eA (inj_int _))) (InjA.cons (inj_eA (inj_int _)) (InjA.one (inj_eA (inj_int _))))) hle h
noncomputable def E_sign_Valid (n : Nat) : Env := { ty := tyT, glob := glob, fns := get [(21, sp_sign_Join n), (25, sp_sign_Tag n)], ntmps := 32 }
theorem eok_sign_Valid (n : Nat) : EnvOK Tryd.prog (E_sign_Valid n) := ⟨tys_ok tys_chk, prog_mixed, (fns_cons (ok_sign_Join n) (fns_cons (ok_sign_Tag n) fns_nil))⟩
def K_sign_Valid (n : Nat) (pkeys0 : (List (Arr 32 Int))) (pmessage0 : (Arr 32 Int)) (psig0 : (Arr 32 Int)) (r : Bool) : St → Prop := Done (E_sign_Valid n) Tryd.f27.results.toList [] (ea_sign_Valid (pkeys0, pmessage0, psig0)) (er_sign_Valid r).1 (er_sign_Valid r).2
set_option maxRecDepth 100000 in
set_option maxHeartbeats 4000000 in
theorem ok_sign_Valid (n : Nat) : SpecOK Tryd.prog glob 27 (sp_sign_Valid n) := by
  refine specP_ok (fn := Tryd.f27) (eok_sign_Valid n) (by kernel_rfl) rfl (by decide +kernel) (by kernel_rfl) (fun _ => by show 3 ≤ 32; omega) (fun _ _ r => ⟨(rrf_tree ((fun _ => rfl) _) rrf_nil), flats_nil⟩) ?_
  rintro ⟨pkeys0, pmessage0, psig0⟩ r h C hL hC
  have hE := eok_sign_Valid n
  replace hL : ∀ n g, (n, g) ∈ C.lent → n ∈ ([] : List Nat) := hL
  replace h : f_sign_Valid n pkeys0 pmessage0 psig0 = some r := h
  show Ab _ _ _ _ _ (End (K_sign_Valid n pkeys0 pmessage0 psig0 r))
  unfold f_sign_Valid at h
  refine Ab.seq ?_
  refine Ab.regT hE hC hL [] { keep := [0, 4, 5], ren := [(4, 4), (5, 5)] } ⟨[(0, (.t ((eS 32 (eA 1 (T.int .u8))) pkeys0))), (4, (.ref 4 [] (0))), (5, (.ref 5 [] (0)))], [(4, (.var false 25 (.t ((eA 1 (T.int .u8)) pmessage0)))), (5, (.var false 25 (.t ((eA 1 (T.int .u8)) psig0))))]⟩ [] (by kernel_rfl) trivial ?_
  refine Nxt_norm ?_
  refine Ab.seq ?_
  refine Ab.regT hE hC hL [] { keep := [0, 4, 5, 7], ren := [(4, 4), (5, 5)] } ⟨[(0, (.t ((eS 32 (eA 1 (T.int .u8))) pkeys0))), (4, (.ref 4 [] (0))), (5, (.ref 5 [] (0))), (7, (.t .nils))], [(4, (.var false 25 (.t ((eA 1 (T.int .u8)) pmessage0)))), (5, (.var false 25 (.t ((eA 1 (T.int .u8)) psig0))))]⟩ [] (by kernel_rfl) trivial ?_
  refine Nxt_norm ?_
  refine Ab.seq ?_
  refine Ab.seq ?_
  refine Ab.regT hE hC hL [[], [.n (pkeys0.length : Int)]] { keep := [4, 5, 7, 10, 11, 12], ren := [(4, 4), (5, 5)] } ⟨[(4, (.ref 4 [] (0))), (5, (.ref 5 [] (0))), (7, (.t .nils)), (10, (.t ((eS 32 (eA 1 (T.int .u8))) pkeys0))), (11, (.t (.int .i64 (pkeys0.length : Int)))), (12, (.t (.int .i64 (0:Int))))], [(4, (.var false 25 (.t ((eA 1 (T.int .u8)) pmessage0)))), (5, (.var false 25 (.t ((eA 1 (T.int .u8)) psig0))))]⟩ [((List.length (List.map (eA 1 (T.int .u8)) pkeys0) : Nat) : Int) = (pkeys0.length : Int)] (by kernel_rfl) ⟨(len_of rfl), trivial⟩ ?_
  refine Nxt_norm ?_
  obtain ⟨x0, hx0, h⟩ := bind_some h
  refine Ab.loopX0 (fun ((a0, a1) : ((List (Arr 32 Int)) × Int)) => (⟨[(4, (.ref 49000 [] (0))), (5, (.ref 49001 [] (0))), (7, (.own 49002)), (10, (.t ((eS 32 (eA 1 (T.int .u8))) pkeys0))), (11, (.t (.int .i64 (pkeys0.length : Int)))), (12, (.t (.int .i64 a1)))], [(49000, (.var false 25 (.t ((eA 1 (T.int .u8)) pmessage0)))), (49001, (.var false 25 (.t ((eA 1 (T.int .u8)) psig0)))), (49002, (.row false 25 32 (List.map (eA 1 (T.int .u8)) a0)))]⟩ : St)) (fun (a2 : (List (Arr 32 Int))) => (⟨[(5, (.ref 49000 [] (0))), (7, (.own 49001))], [(49000, (.var false 25 (.t ((eA 1 (T.int .u8)) psig0)))), (49001, (.row false 25 32 (List.map (eA 1 (T.int .u8)) a2)))]⟩ : St)) { fs := [⟨(.t 7), [], .own 48000 25 32⟩], keep := [4, 5, 7, 10, 11, 12], ren := [(4, 49000), (5, 49001), (48000, 49002)] } (([] : List (Arr 32 Int)), (0:Int)) hC hL hx0 (by kernel_rfl) ?_ ?_
  · rintro ⟨a0, a1⟩ o0 h
    replace h : f_sign_Valid_b0 n pkeys0 pmessage0 a0 a1 = some o0 := h
    unfold f_sign_Valid_b0 at h
    refine Ab.seq ?_
    refine Ab.regT hE hC hL [] { keep := [4, 5, 7, 10, 11, 12, 13], ren := [(49000, 49000), (49001, 49001), (49002, 49002)] } ⟨[(4, (.ref 49000 [] (0))), (5, (.ref 49001 [] (0))), (7, (.own 49002)), (10, (.t ((eS 32 (eA 1 (T.int .u8))) pkeys0))), (11, (.t (.int .i64 (pkeys0.length : Int)))), (12, (.t (.int .i64 a1))), (13, (.t (.bool (decide (a1 < (pkeys0.length : Int))))))], [(49000, (.var false 25 (.t ((eA 1 (T.int .u8)) pmessage0)))), (49001, (.var false 25 (.t ((eA 1 (T.int .u8)) psig0)))), (49002, (.row false 25 32 (List.map (eA 1 (T.int .u8)) a0)))]⟩ [] (by kernel_rfl) trivial ?_
    refine Nxt_norm ?_
    refine Ab.seq ?_
    refine Ab.cond (b := (decide (a1 < (pkeys0.length : Int)))) (by kernel_rfl) (fun hb0 => ?_) (fun hb0 => ?_)
    · replace h := cond_t hb0 h
      refine Ab.skip ?_
      refine Nxt_norm ?_
      refine Ab.seq ?_
      refine Ab.block ?_
      refine Ab.seq ?_
      obtain ⟨hq0, h⟩ := ask_dec h
      obtain ⟨v0, hv0, h⟩ := bind_some h
      refine Ab.regT hE hC hL [[.t ((eA 1 (T.int .u8)) v0)]] { keep := [4, 5, 7, 9, 10, 11, 12], ren := [(9, 9), (49000, 49000), (49001, 49001), (49002, 49002)] } ⟨[(4, (.ref 49000 [] (0))), (5, (.ref 49001 [] (0))), (7, (.own 49002)), (9, (.ref 9 [] (0))), (10, (.t ((eS 32 (eA 1 (T.int .u8))) pkeys0))), (11, (.t (.int .i64 (pkeys0.length : Int)))), (12, (.t (.int .i64 a1)))], [(9, (.var false 25 (.t ((eA 1 (T.int .u8)) v0)))), (49000, (.var false 25 (.t ((eA 1 (T.int .u8)) pmessage0)))), (49001, (.var false 25 (.t ((eA 1 (T.int .u8)) psig0)))), (49002, (.row false 25 32 (List.map (eA 1 (T.int .u8)) a0)))]⟩ [0 ≤ a1, (List.map (eA 1 (T.int .u8)) pkeys0)[a1.toNat]? = some ((eA 1 (T.int .u8)) v0)] (by kernel_rfl) ⟨hq0, (at_map hv0), trivial⟩ ?_
      refine Nxt_norm ?_
      obtain ⟨r0, hr0, h⟩ := bind_some h
      obtain ⟨hq1, h⟩ := ask_dec h
      refine Ab.regT hE hC hL [[], [], [], [.r [.tree ((eA 1 (T.int .u8)) r0)] []], [], [.l (List.map (eA 1 (T.int .u8)) (a0 ++ ([r0] : List (Arr 32 Int))))]] { keep := [4, 5, 7, 10, 11, 12], ren := [(21, 21), (49000, 49000), (49001, 49001)] } ⟨[(4, (.ref 49000 [] (0))), (5, (.ref 49001 [] (0))), (7, (.own 21)), (10, (.t ((eS 32 (eA 1 (T.int .u8))) pkeys0))), (11, (.t (.int .i64 (pkeys0.length : Int)))), (12, (.t (.int .i64 a1)))], [(21, (.row false 25 32 (List.map (eA 1 (T.int .u8)) (a0 ++ ([r0] : List (Arr 32 Int)))))), (49000, (.var false 25 (.t ((eA 1 (T.int .u8)) pmessage0)))), (49001, (.var false 25 (.t ((eA 1 (T.int .u8)) psig0))))]⟩ [(sp_sign_Tag n).fn [((eA 1 (T.int .u8)) v0), ((eA 1 (T.int .u8)) pmessage0)] = some ([.tree ((eA 1 (T.int .u8)) r0)], []), (List.length (List.map (eA 1 (T.int .u8)) a0) + List.length (List.map (eA 1 (T.int .u8)) ([r0] : List (Arr 32 Int)))) * 32 ≤ maxBytes, List.length (List.map (eA 1 (T.int .u8)) a0) + List.length (List.map (eA 1 (T.int .u8)) ([r0] : List (Arr 32 Int))) ≤ maxBytes, (List.map (eA 1 (T.int .u8)) a0) ++ (List.map (eA 1 (T.int .u8)) ([r0] : List (Arr 32 Int))) = List.map (eA 1 (T.int .u8)) (a0 ++ ([r0] : List (Arr 32 Int)))] (by kernel_rfl) ⟨(ap_sign_Tag n (by exact ⟨leT.refl _, leT.refl _, trivial⟩) hr0), (app_b rfl rfl hq1), (app_c rfl rfl (by decide) hq1), (app_of rfl rfl), trivial⟩ ?_
      refine Blk_norm ?_
      refine Nxt_norm ?_
      refine Ab.regT hE hC hL [] { keep := [4, 5, 7, 10, 11, 12], ren := [(21, 21), (49000, 49000), (49001, 49001)] } ⟨[(4, (.ref 49000 [] (0))), (5, (.ref 49001 [] (0))), (7, (.own 21)), (10, (.t ((eS 32 (eA 1 (T.int .u8))) pkeys0))), (11, (.t (.int .i64 (pkeys0.length : Int)))), (12, (.t (.int .i64 (wi (a1 + (1:Int))))))], [(21, (.row false 25 32 (List.map (eA 1 (T.int .u8)) (a0 ++ ([r0] : List (Arr 32 Int)))))), (49000, (.var false 25 (.t ((eA 1 (T.int .u8)) pmessage0)))), (49001, (.var false 25 (.t ((eA 1 (T.int .u8)) psig0))))]⟩ [] (by kernel_rfl) trivial ?_
      exact LK_norm ((a0 ++ ([r0] : List (Arr 32 Int))), (wi (a1 + (1:Int)))) { fs := [], keep := [4, 5, 7, 10, 11, 12], ren := [(49000, 49000), (49001, 49001), (21, 49002)] } h (by kernel_rfl)
    · replace h := cond_f hb0 h
      refine Ab.exit ?_
      refine Nxt_exit ?_
      exact LK_exit a0 h (PX_mk { fs := [], keep := [5, 7], ren := [(49001, 49000), (49002, 49001)] } (by kernel_rfl))
  · refine Nxt_norm ?_
    refine Ab.seq ?_
    rcases Bool.eq_false_or_eq_true (decide ((x0.length : Int) > (0:Int))) with hb1 | hb1
    · replace h := cond_t hb1 h
      obtain ⟨r1, hr1, h⟩ := bind_some h
      refine Ab.regA hE hC hL [[], [.n (x0.length : Int)], [], [.b true], [], [.r [.tree ((eA 1 (T.int .u8)) r1)] []], [], [.b (decide (r1 = psig0))]] { keep := [6], ren := [] } ⟨[(6, (.t (.bool (decide (r1 = psig0)))))], []⟩ [((List.length (List.map (eA 1 (T.int .u8)) x0) : Nat) : Int) = (x0.length : Int), (decide ((x0.length : Int) > (0:Int))) = true, (sp_sign_Join n).fn [(.slc 32 (List.map (eA 1 (T.int .u8)) x0))] = some ([.tree ((eA 1 (T.int .u8)) r1)], []), binOp (E_sign_Valid n) .eql 25 (.t ((eA 1 (T.int .u8)) r1)) (.t ((eA 1 (T.int .u8)) psig0)) = some (.bool (decide (r1 = psig0)))] (by kernel_rfl) (by kernel_rfl) ⟨(len_of rfl), hb1, (ap_sign_Join n (by exact ⟨leT.refl _, trivial⟩) hr1), (beql_25 _ rfl _ _), trivial⟩ ?_
      refine Nxt_norm ?_
      refine Ab.ret ?_
      obtain rfl := Option.some.inj h
      exact End_ret (doneO_ok (md := [false]) (by kernel_rfl))
    · replace h := cond_f hb1 h
      refine Ab.regA hE hC hL [[], [.n (x0.length : Int)], [], [.b false]] { keep := [6], ren := [] } ⟨[(6, (.t (.bool false)))], []⟩ [((List.length (List.map (eA 1 (T.int .u8)) x0) : Nat) : Int) = (x0.length : Int), (decide ((x0.length : Int) > (0:Int))) = false] (by kernel_rfl) (by kernel_rfl) ⟨(len_of rfl), hb1, trivial⟩ ?_
      refine Nxt_norm ?_
      refine Ab.ret ?_
      obtain rfl := Option.some.inj h
      exact End_ret (doneO_ok (md := [false]) (by kernel_rfl))

end Go.Mg
