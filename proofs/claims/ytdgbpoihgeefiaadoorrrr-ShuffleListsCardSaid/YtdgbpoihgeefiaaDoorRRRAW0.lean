/- The model's code computes these functions. -/
import Derived.Test.YtdgbpoihgeefiaaDoorRRRAF
namespace Go.Mg
open Go Go.Proofs
def ea_bits_RotateLeft32 (a : Int × Int) : List T := [(T.int .u32) a.1, (T.int .i64) a.2]
def er_bits_RotateLeft32 (r : Int) : List RR × List T := ([.tree ((T.int .u32) r)], [])
noncomputable def sp_bits_RotateLeft32 (n : Nat) : Spec := specP [] true ea_bits_RotateLeft32 (fun a => f_bits_RotateLeft32 n a.1 a.2) (fun _ r => er_bits_RotateLeft32 r)
theorem ap_bits_RotateLeft32 (n : Nat) {ts : List T} {a0 : Int} {a1 : Int} {r : Int} (hle : leTs ts [(T.int .u32) a0, (T.int .i64) a1]) (h : f_bits_RotateLeft32 n a0 a1 = some r) : (sp_bits_RotateLeft32 n).fn ts = some ([.tree ((T.int .u32) r)], []) :=
  specP_fn (a := (a0, a1)) (InjA.cons (inj_int _) (InjA.one (inj_int _))) hle h
noncomputable def E_bits_RotateLeft32 (n : Nat) : Env := { ty := tyT, glob := glob, fns := get [], ntmps := 17 }
theorem eok_bits_RotateLeft32 (n : Nat) : EnvOK Tryd.prog (E_bits_RotateLeft32 n) := ⟨tys_ok tys_chk, prog_mixed, fns_nil⟩
def K_bits_RotateLeft32 (n : Nat) (px0 : Int) (pk0 : Int) (r : Int) : St → Prop := Done (E_bits_RotateLeft32 n) Tryd.f24.results.toList [] (ea_bits_RotateLeft32 (px0, pk0)) (er_bits_RotateLeft32 r).1 (er_bits_RotateLeft32 r).2
set_option maxRecDepth 100000 in
set_option maxHeartbeats 4000000 in
theorem ok_bits_RotateLeft32 (n : Nat) : SpecOK Tryd.prog glob 24 (sp_bits_RotateLeft32 n) := by
  refine specP_ok (fn := Tryd.f24) (eok_bits_RotateLeft32 n) (by kernel_rfl) rfl (by decide +kernel) (by kernel_rfl) (fun _ => by show 2 ≤ 17; omega) (fun _ _ r => ⟨(rrf_tree ((fun _ => rfl) _) rrf_nil), flats_nil⟩) ?_
  rintro ⟨px0, pk0⟩ r h C hL hC
  have hE := eok_bits_RotateLeft32 n
  replace hL : ∀ n g, (n, g) ∈ C.lent → n ∈ ([] : List Nat) := hL
  replace h : f_bits_RotateLeft32 n px0 pk0 = some r := h
  show Ab _ _ _ _ _ (End (K_bits_RotateLeft32 n px0 pk0 r))
  unfold f_bits_RotateLeft32 at h
  refine Ab.seq ?_
  refine Ab.regT hE hC hL [] { keep := [0, 1], ren := [] } ⟨[(0, (.t (.int .u32 px0))), (1, (.t (.int .i64 pk0)))], []⟩ [] (by kernel_rfl) trivial ?_
  refine Nxt_norm ?_
  refine Ab.seq ?_
  refine Ab.regT hE hC hL [] { keep := [0, 5], ren := [] } ⟨[(0, (.t (.int .u32 px0))), (5, (.t (.int .u64 (bits .and .u64 (w64 pk0) (31:Int)))))], []⟩ [] (by kernel_rfl) trivial ?_
  refine Nxt_norm ?_
  refine Ab.seq ?_
  obtain ⟨hq0, h⟩ := ask_dec h
  obtain ⟨hq1, h⟩ := ask_dec h
  refine Ab.regT hE hC hL [[], [], [.c], [], [], [], [.c]] { keep := [4], ren := [] } ⟨[(4, (.t (.int .u32 (bits .or .u32 (shl .u32 px0 (bits .and .u64 (w64 pk0) (31:Int))) (shr .u32 px0 (w64 ((32:Int) - (bits .and .u64 (w64 pk0) (31:Int)))))))))], []⟩ [¬ (bits .and .u64 (w64 pk0) (31:Int)) < 0, ¬ (w64 ((32:Int) - (bits .and .u64 (w64 pk0) (31:Int)))) < 0] (by kernel_rfl) ⟨(Int.not_lt.2 hq0), (Int.not_lt.2 hq1), trivial⟩ ?_
  refine Nxt_norm ?_
  refine Ab.ret ?_
  obtain rfl := Option.some.inj h
  exact End_ret (doneO_ok (md := [false]) (by kernel_rfl))
def ea_digest_block (a : (Arr 8 Int) × (List Int)) : List T := [(eA 1 (T.int .u32)) a.1, (eS 1 (T.int .u8)) a.2]
def er_digest_block (r : (Arr 8 Int)) : List RR × List T := ([], [(eA 1 (T.int .u32)) r])
noncomputable def sp_digest_block (n : Nat) : Spec := specP [true, false] true ea_digest_block (fun a => f_digest_block n a.1 a.2) (fun _ r => er_digest_block r)
theorem ap_digest_block (n : Nat) {ts : List T} {a0 : (Arr 8 Int)} {a1 : (List Int)} {r : (Arr 8 Int)} (hle : leTs ts [(eA 1 (T.int .u32)) a0, (eS 1 (T.int .u8)) a1]) (h : f_digest_block n a0 a1 = some r) : (sp_digest_block n).fn ts = some ([], [(eA 1 (T.int .u32)) r]) :=
  specP_fn (a := (a0, a1)) (InjA.cons (inj_eA (inj_int _)) (InjA.one (inj_eS (inj_int _)))) hle h
noncomputable def E_digest_block (n : Nat) : Env := { ty := tyT, glob := glob, fns := get [(24, sp_bits_RotateLeft32 n)], ntmps := 208 }
theorem eok_digest_block (n : Nat) : EnvOK Tryd.prog (E_digest_block n) := ⟨tys_ok tys_chk, prog_mixed, (fns_cons (ok_bits_RotateLeft32 n) fns_nil)⟩
def K_digest_block (n : Nat) (pt0 : (Arr 8 Int)) (po0 : (List Int)) (r : (Arr 8 Int)) : St → Prop := Done (E_digest_block n) Tryd.f21.results.toList [true, false] (ea_digest_block (pt0, po0)) (er_digest_block r).1 (er_digest_block r).2
set_option maxRecDepth 100000 in
set_option maxHeartbeats 4000000 in
theorem ok_digest_block (n : Nat) : SpecOK Tryd.prog glob 21 (sp_digest_block n) := by
  refine specP_ok (fn := Tryd.f21) (eok_digest_block n) (by kernel_rfl) rfl (by decide +kernel) (by kernel_rfl) (fun _ => by show 2 ≤ 208; omega) (fun _ _ r => ⟨rrf_nil, (flats_cons ((flat_eA (fun _ => rfl)) _) flats_nil)⟩) ?_
  rintro ⟨pt0, po0⟩ r h C hL hC
  have hE := eok_digest_block n
  replace hL : ∀ n g, (n, g) ∈ C.lent → n ∈ ([50000] : List Nat) := hL
  replace h : f_digest_block n pt0 po0 = some r := h
  show Ab _ _ _ _ _ (End (K_digest_block n pt0 po0 r))
  unfold f_digest_block at h
  refine Ab.seq ?_
  refine Ab.regT hE hC hL [] { keep := [0, 1, 4], ren := [(4, 4), (50000, 50000)] } ⟨[(0, (.ref 50000 [] (0))), (1, (.t ((eS 1 (T.int .u8)) po0))), (4, (.ref 4 [] (0)))], [(4, (.var false 69 (.t ((eA 1 (T.int .u32)) (Arr.rep 64 (0:Int)))))), (50000, (.var false 0 (.t ((eA 1 (T.int .u32)) pt0))))]⟩ [] (by kernel_rfl) trivial ?_
  refine Nxt_norm ?_
  refine Ab.seq ?_
  refine Ab.seq ?_
  refine Ab.regT hE hC hL [] { keep := [0, 1, 4, 16], ren := [(4, 4), (50000, 50000)] } ⟨[(0, (.ref 50000 [] (0))), (1, (.t ((eS 1 (T.int .u8)) po0))), (4, (.ref 4 [] (0))), (16, (.t (.int .i64 (0:Int))))], [(4, (.var false 69 (.t ((eA 1 (T.int .u32)) (Arr.rep 64 (0:Int)))))), (50000, (.var false 0 (.t ((eA 1 (T.int .u32)) pt0))))]⟩ [] (by kernel_rfl) trivial ?_
  refine Nxt_norm ?_
  obtain ⟨x0, hx0, h⟩ := bind_some h
  refine Ab.loopX0 (fun ((a0, a1) : ((Arr 64 Int) × Int)) => (⟨[(0, (.ref 50000 [] (0))), (1, (.t ((eS 1 (T.int .u8)) po0))), (4, (.ref 49001 [] (0))), (16, (.t (.int .i64 a1)))], [(50000, (.var false 0 (.t ((eA 1 (T.int .u32)) pt0)))), (49001, (.var false 69 (.t ((eA 1 (T.int .u32)) a0))))]⟩ : St)) (fun (a2 : (Arr 64 Int)) => (⟨[(0, (.ref 50000 [] (0))), (4, (.ref 49001 [] (0)))], [(50000, (.var false 0 (.t ((eA 1 (T.int .u32)) pt0)))), (49001, (.var false 69 (.t ((eA 1 (T.int .u32)) a2))))]⟩ : St)) { fs := [], keep := [0, 1, 4, 16], ren := [(50000, 50000), (4, 49001)] } ((Arr.rep 64 (0:Int)), (0:Int)) hC hL hx0 (by kernel_rfl) ?_ ?_
  · rintro ⟨a0, a1⟩ o0 h
    replace h : f_digest_block_b0 n po0 a0 a1 = some o0 := h
    unfold f_digest_block_b0 at h
    refine Ab.seq ?_
    refine Ab.regT hE hC hL [] { keep := [0, 1, 4, 16, 17], ren := [(49001, 49001), (50000, 50000)] } ⟨[(0, (.ref 50000 [] (0))), (1, (.t ((eS 1 (T.int .u8)) po0))), (4, (.ref 49001 [] (0))), (16, (.t (.int .i64 a1))), (17, (.t (.bool (decide (a1 < (16:Int))))))], [(49001, (.var false 69 (.t ((eA 1 (T.int .u32)) a0)))), (50000, (.var false 0 (.t ((eA 1 (T.int .u32)) pt0))))]⟩ [] (by kernel_rfl) trivial ?_
    refine Nxt_norm ?_
    refine Ab.seq ?_
    refine Ab.cond (b := (decide (a1 < (16:Int)))) (by kernel_rfl) (fun hb0 => ?_) (fun hb0 => ?_)
    · replace h := cond_t hb0 h
      refine Ab.skip ?_
      refine Nxt_norm ?_
      refine Ab.seq ?_
      refine Ab.block ?_
      refine Ab.seq ?_
      refine Ab.regT hE hC hL [] { keep := [0, 1, 4, 5, 16], ren := [(49001, 49001), (50000, 50000)] } ⟨[(0, (.ref 50000 [] (0))), (1, (.t ((eS 1 (T.int .u8)) po0))), (4, (.ref 49001 [] (0))), (5, (.t (.int .i64 a1))), (16, (.t (.int .i64 a1)))], [(49001, (.var false 69 (.t ((eA 1 (T.int .u32)) a0)))), (50000, (.var false 0 (.t ((eA 1 (T.int .u32)) pt0))))]⟩ [] (by kernel_rfl) trivial ?_
      refine Nxt_norm ?_
      obtain ⟨hq0, h⟩ := ask_dec h
      obtain ⟨v0, hv0, h⟩ := bind_some h
      obtain ⟨hq1, h⟩ := ask_dec h
      obtain ⟨v1, hv1, h⟩ := bind_some h
      obtain ⟨hq2, h⟩ := ask_dec h
      obtain ⟨v2, hv2, h⟩ := bind_some h
      obtain ⟨hq3, h⟩ := ask_dec h
      obtain ⟨v3, hv3, h⟩ := bind_some h
      obtain ⟨hq4, h⟩ := ask_dec h
      obtain ⟨hq5, h⟩ := ask_dec h
      obtain ⟨v4, hv4, h⟩ := bind_some h
      refine Ab.regA hE hC hL [[], [], [], [], [.t (.int .u8 v0)], [], [], [], [], [], [], [], [.t (.int .u8 v1)], [], [], [], [], [], [], [], [], [.t (.int .u8 v2)], [], [], [], [], [], [], [], [], [.t (.int .u8 v3)], [], [], [], [.c], [.t (.int .u32 v4), .l (List.map (T.int .u32) (Arr.set a0 (a1.toNat) (bits .or .u32 (bits .or .u32 (bits .or .u32 (shl .u32 (w32 v0) (24:Int)) (shl .u32 (w32 v1) (16:Int))) (shl .u32 (w32 v2) (8:Int))) (w32 v3))).l)]] { keep := [0, 1, 4, 16], ren := [(49001, 49001), (50000, 50000)] } ⟨[(0, (.ref 50000 [] (0))), (1, (.t ((eS 1 (T.int .u8)) po0))), (4, (.ref 49001 [] (0))), (16, (.t (.int .i64 a1)))], [(49001, (.var false 69 (.t ((eA 1 (T.int .u32)) (Arr.set a0 (a1.toNat) (bits .or .u32 (bits .or .u32 (bits .or .u32 (shl .u32 (w32 v0) (24:Int)) (shl .u32 (w32 v1) (16:Int))) (shl .u32 (w32 v2) (8:Int))) (w32 v3))))))), (50000, (.var false 0 (.t ((eA 1 (T.int .u32)) pt0))))]⟩ [0 ≤ (wi ((4:Int) * a1)), (List.map (T.int .u8) po0)[(wi ((4:Int) * a1)).toNat]? = some (.int .u8 v0), 0 ≤ (wi ((wi ((4:Int) * a1)) + (1:Int))), (List.map (T.int .u8) po0)[(wi ((wi ((4:Int) * a1)) + (1:Int))).toNat]? = some (.int .u8 v1), 0 ≤ (wi ((wi ((4:Int) * a1)) + (2:Int))), (List.map (T.int .u8) po0)[(wi ((wi ((4:Int) * a1)) + (2:Int))).toNat]? = some (.int .u8 v2), 0 ≤ (wi ((wi ((4:Int) * a1)) + (3:Int))), (List.map (T.int .u8) po0)[(wi ((wi ((4:Int) * a1)) + (3:Int))).toNat]? = some (.int .u8 v3), 0 ≤ a1, a1 < ((64 : Nat) : Int), a1.toNat * 1 + 0 = 0 + a1.toNat * 1, (List.map (T.int .u32) a0.l)[a1.toNat]? = some (.int .u32 v4), (List.map (T.int .u32) a0.l)[a1.toNat]? = some (.int .u32 v4), (List.map (T.int .u32) a0.l).set a1.toNat (.int .u32 (bits .or .u32 (bits .or .u32 (bits .or .u32 (shl .u32 (w32 v0) (24:Int)) (shl .u32 (w32 v1) (16:Int))) (shl .u32 (w32 v2) (8:Int))) (w32 v3))) = List.map (T.int .u32) (Arr.set a0 (a1.toNat) (bits .or .u32 (bits .or .u32 (bits .or .u32 (shl .u32 (w32 v0) (24:Int)) (shl .u32 (w32 v1) (16:Int))) (shl .u32 (w32 v2) (8:Int))) (w32 v3))).l] (by kernel_rfl) (by kernel_rfl) ⟨hq0, (at_map hv0), hq1, (at_map hv1), hq2, (at_map hv2), hq3, (at_map hv3), hq4, hq5, (by omega), (at_map hv4), (at_map hv4), set_map, trivial⟩ ?_
      refine Blk_norm ?_
      refine Nxt_norm ?_
      refine Ab.regT hE hC hL [] { keep := [0, 1, 4, 16], ren := [(49001, 49001), (50000, 50000)] } ⟨[(0, (.ref 50000 [] (0))), (1, (.t ((eS 1 (T.int .u8)) po0))), (4, (.ref 49001 [] (0))), (16, (.t (.int .i64 (wi (a1 + (1:Int))))))], [(49001, (.var false 69 (.t ((eA 1 (T.int .u32)) (Arr.set a0 (a1.toNat) (bits .or .u32 (bits .or .u32 (bits .or .u32 (shl .u32 (w32 v0) (24:Int)) (shl .u32 (w32 v1) (16:Int))) (shl .u32 (w32 v2) (8:Int))) (w32 v3))))))), (50000, (.var false 0 (.t ((eA 1 (T.int .u32)) pt0))))]⟩ [] (by kernel_rfl) trivial ?_
      exact LK_norm ((Arr.set a0 (a1.toNat) (bits .or .u32 (bits .or .u32 (bits .or .u32 (shl .u32 (w32 v0) (24:Int)) (shl .u32 (w32 v1) (16:Int))) (shl .u32 (w32 v2) (8:Int))) (w32 v3))), (wi (a1 + (1:Int)))) { fs := [], keep := [0, 1, 4, 16], ren := [(50000, 50000), (49001, 49001)] } h (by kernel_rfl)
    · replace h := cond_f hb0 h
      refine Ab.exit ?_
      refine Nxt_exit ?_
      exact LK_exit a0 h (PX_mk { fs := [], keep := [0, 4], ren := [(50000, 50000), (49001, 49001)] } (by kernel_rfl))
  · refine Nxt_norm ?_
    refine Ab.seq ?_
    refine Ab.seq ?_
    refine Ab.regT hE hC hL [] { keep := [0, 4, 6], ren := [(49001, 49001), (50000, 50000)] } ⟨[(0, (.ref 50000 [] (0))), (4, (.ref 49001 [] (0))), (6, (.t (.int .i64 (16:Int))))], [(49001, (.var false 69 (.t ((eA 1 (T.int .u32)) x0)))), (50000, (.var false 0 (.t ((eA 1 (T.int .u32)) pt0))))]⟩ [] (by kernel_rfl) trivial ?_
    refine Nxt_norm ?_
    obtain ⟨x1, hx1, h⟩ := bind_some h
    refine Ab.loopX0 (fun ((a8, a9) : ((Arr 64 Int) × Int)) => (⟨[(0, (.ref 50000 [] (0))), (4, (.ref 49001 [] (0))), (6, (.t (.int .i64 a9)))], [(50000, (.var false 0 (.t ((eA 1 (T.int .u32)) pt0)))), (49001, (.var false 69 (.t ((eA 1 (T.int .u32)) a8))))]⟩ : St)) (fun (a10 : (Arr 64 Int)) => (⟨[(0, (.ref 50000 [] (0))), (4, (.ref 49001 [] (0)))], [(50000, (.var false 0 (.t ((eA 1 (T.int .u32)) pt0)))), (49001, (.var false 69 (.t ((eA 1 (T.int .u32)) a10))))]⟩ : St)) { fs := [], keep := [0, 4, 6], ren := [(50000, 50000), (49001, 49001)] } (x0, (16:Int)) hC hL hx1 (by kernel_rfl) ?_ ?_
    · rintro ⟨a8, a9⟩ o1 h
      replace h : f_digest_block_b1 n  a8 a9 = some o1 := h
      unfold f_digest_block_b1 at h
      refine Ab.seq ?_
      refine Ab.seq ?_
      refine Ab.regT hE hC hL [] { keep := [0, 4, 6, 56], ren := [(49001, 49001), (50000, 50000)] } ⟨[(0, (.ref 50000 [] (0))), (4, (.ref 49001 [] (0))), (6, (.t (.int .i64 a9))), (56, (.t (.bool (decide (a9 < (64:Int))))))], [(49001, (.var false 69 (.t ((eA 1 (T.int .u32)) a8)))), (50000, (.var false 0 (.t ((eA 1 (T.int .u32)) pt0))))]⟩ [] (by kernel_rfl) trivial ?_
      refine Nxt_norm ?_
      refine Ab.cond (b := (decide (a9 < (64:Int)))) (by kernel_rfl) (fun hb1 => ?_) (fun hb1 => ?_)
      · replace h := cond_t hb1 h
        refine Ab.skip ?_
        refine Nxt_norm ?_
        refine Ab.seq ?_
        refine Ab.block ?_
        refine Ab.seq ?_
        obtain ⟨hq6, h⟩ := ask_dec h
        obtain ⟨hq7, h⟩ := ask_dec h
        obtain ⟨v5, hv5, h⟩ := bind_some h
        obtain ⟨r0, hr0, h⟩ := bind_some h
        obtain ⟨r1, hr1, h⟩ := bind_some h
        refine Ab.regA hE hC hL [[], [], [.c], [.t (.int .u32 v5)], [.r [.tree (.int .u32 r0)] []], [], [], [.c], [.t (.int .u32 v5)], [.r [.tree (.int .u32 r1)] []], [], [], [], [.c], [.t (.int .u32 v5)]] { keep := [0, 4, 6, 7], ren := [(49001, 49001), (50000, 50000)] } ⟨[(0, (.ref 50000 [] (0))), (4, (.ref 49001 [] (0))), (6, (.t (.int .i64 a9))), (7, (.t (.int .u32 (bits .xor .u32 (bits .xor .u32 r0 r1) (shr .u32 v5 (3:Int))))))], [(49001, (.var false 69 (.t ((eA 1 (T.int .u32)) a8)))), (50000, (.var false 0 (.t ((eA 1 (T.int .u32)) pt0))))]⟩ [0 ≤ (wi (a9 - (15:Int))), (wi (a9 - (15:Int))) < ((64 : Nat) : Int), (wi (a9 - (15:Int))).toNat * 1 + 0 = 0 + (wi (a9 - (15:Int))).toNat * 1, (List.map (T.int .u32) a8.l)[(wi (a9 - (15:Int))).toNat]? = some (.int .u32 v5), (sp_bits_RotateLeft32 n).fn [(.int .u32 v5), (.int .i64 (-7:Int))] = some ([.tree (.int .u32 r0)], []), 0 ≤ (wi (a9 - (15:Int))), (wi (a9 - (15:Int))) < ((64 : Nat) : Int), (wi (a9 - (15:Int))).toNat * 1 + 0 = 0 + (wi (a9 - (15:Int))).toNat * 1, (List.map (T.int .u32) a8.l)[(wi (a9 - (15:Int))).toNat]? = some (.int .u32 v5), (sp_bits_RotateLeft32 n).fn [(.int .u32 v5), (.int .i64 (-18:Int))] = some ([.tree (.int .u32 r1)], []), 0 ≤ (wi (a9 - (15:Int))), (wi (a9 - (15:Int))) < ((64 : Nat) : Int), (wi (a9 - (15:Int))).toNat * 1 + 0 = 0 + (wi (a9 - (15:Int))).toNat * 1, (List.map (T.int .u32) a8.l)[(wi (a9 - (15:Int))).toNat]? = some (.int .u32 v5)] (by kernel_rfl) (by kernel_rfl) ⟨hq6, hq7, (by omega), (at_map hv5), (ap_bits_RotateLeft32 n (by exact ⟨leT.refl _, leT.refl _, trivial⟩) hr0), hq6, hq7, (by omega), (at_map hv5), (ap_bits_RotateLeft32 n (by exact ⟨leT.refl _, leT.refl _, trivial⟩) hr1), hq6, hq7, (by omega), (at_map hv5), trivial⟩ ?_
        refine Nxt_norm ?_
        refine Ab.seq ?_
        obtain ⟨hq8, h⟩ := ask_dec h
        obtain ⟨hq9, h⟩ := ask_dec h
        obtain ⟨v6, hv6, h⟩ := bind_some h
        obtain ⟨r2, hr2, h⟩ := bind_some h
        obtain ⟨r3, hr3, h⟩ := bind_some h
        refine Ab.regA hE hC hL [[], [], [.c], [.t (.int .u32 v6)], [.r [.tree (.int .u32 r2)] []], [], [], [.c], [.t (.int .u32 v6)], [.r [.tree (.int .u32 r3)] []], [], [], [], [.c], [.t (.int .u32 v6)]] { keep := [0, 4, 6, 7, 8], ren := [(49001, 49001), (50000, 50000)] } ⟨[(0, (.ref 50000 [] (0))), (4, (.ref 49001 [] (0))), (6, (.t (.int .i64 a9))), (7, (.t (.int .u32 (bits .xor .u32 (bits .xor .u32 r0 r1) (shr .u32 v5 (3:Int)))))), (8, (.t (.int .u32 (bits .xor .u32 (bits .xor .u32 r2 r3) (shr .u32 v6 (10:Int))))))], [(49001, (.var false 69 (.t ((eA 1 (T.int .u32)) a8)))), (50000, (.var false 0 (.t ((eA 1 (T.int .u32)) pt0))))]⟩ [0 ≤ (wi (a9 - (2:Int))), (wi (a9 - (2:Int))) < ((64 : Nat) : Int), (wi (a9 - (2:Int))).toNat * 1 + 0 = 0 + (wi (a9 - (2:Int))).toNat * 1, (List.map (T.int .u32) a8.l)[(wi (a9 - (2:Int))).toNat]? = some (.int .u32 v6), (sp_bits_RotateLeft32 n).fn [(.int .u32 v6), (.int .i64 (-17:Int))] = some ([.tree (.int .u32 r2)], []), 0 ≤ (wi (a9 - (2:Int))), (wi (a9 - (2:Int))) < ((64 : Nat) : Int), (wi (a9 - (2:Int))).toNat * 1 + 0 = 0 + (wi (a9 - (2:Int))).toNat * 1, (List.map (T.int .u32) a8.l)[(wi (a9 - (2:Int))).toNat]? = some (.int .u32 v6), (sp_bits_RotateLeft32 n).fn [(.int .u32 v6), (.int .i64 (-19:Int))] = some ([.tree (.int .u32 r3)], []), 0 ≤ (wi (a9 - (2:Int))), (wi (a9 - (2:Int))) < ((64 : Nat) : Int), (wi (a9 - (2:Int))).toNat * 1 + 0 = 0 + (wi (a9 - (2:Int))).toNat * 1, (List.map (T.int .u32) a8.l)[(wi (a9 - (2:Int))).toNat]? = some (.int .u32 v6)] (by kernel_rfl) (by kernel_rfl) ⟨hq8, hq9, (by omega), (at_map hv6), (ap_bits_RotateLeft32 n (by exact ⟨leT.refl _, leT.refl _, trivial⟩) hr2), hq8, hq9, (by omega), (at_map hv6), (ap_bits_RotateLeft32 n (by exact ⟨leT.refl _, leT.refl _, trivial⟩) hr3), hq8, hq9, (by omega), (at_map hv6), trivial⟩ ?_
        refine Nxt_norm ?_
        obtain ⟨hq10, h⟩ := ask_dec h
        obtain ⟨hq11, h⟩ := ask_dec h
        obtain ⟨v7, hv7, h⟩ := bind_some h
        obtain ⟨hq12, h⟩ := ask_dec h
        obtain ⟨hq13, h⟩ := ask_dec h
        obtain ⟨v8, hv8, h⟩ := bind_some h
        obtain ⟨hq14, h⟩ := ask_dec h
        obtain ⟨v9, hv9, h⟩ := bind_some h
        refine Ab.regA hE hC hL [[], [], [], [.c], [.t (.int .u32 v7)], [], [], [], [], [.c], [.t (.int .u32 v8)], [], [], [], [.c], [.t (.int .u32 v9), .l (List.map (T.int .u32) (Arr.set a8 (a9.toNat) (w32 ((w32 ((w32 (v7 + (bits .xor .u32 (bits .xor .u32 r0 r1) (shr .u32 v5 (3:Int))))) + v8)) + (bits .xor .u32 (bits .xor .u32 r2 r3) (shr .u32 v6 (10:Int)))))).l)]] { keep := [0, 4, 6], ren := [(49001, 49001), (50000, 50000)] } ⟨[(0, (.ref 50000 [] (0))), (4, (.ref 49001 [] (0))), (6, (.t (.int .i64 a9)))], [(49001, (.var false 69 (.t ((eA 1 (T.int .u32)) (Arr.set a8 (a9.toNat) (w32 ((w32 ((w32 (v7 + (bits .xor .u32 (bits .xor .u32 r0 r1) (shr .u32 v5 (3:Int))))) + v8)) + (bits .xor .u32 (bits .xor .u32 r2 r3) (shr .u32 v6 (10:Int)))))))))), (50000, (.var false 0 (.t ((eA 1 (T.int .u32)) pt0))))]⟩ [0 ≤ (wi (a9 - (16:Int))), (wi (a9 - (16:Int))) < ((64 : Nat) : Int), (wi (a9 - (16:Int))).toNat * 1 + 0 = 0 + (wi (a9 - (16:Int))).toNat * 1, (List.map (T.int .u32) a8.l)[(wi (a9 - (16:Int))).toNat]? = some (.int .u32 v7), 0 ≤ (wi (a9 - (7:Int))), (wi (a9 - (7:Int))) < ((64 : Nat) : Int), (wi (a9 - (7:Int))).toNat * 1 + 0 = 0 + (wi (a9 - (7:Int))).toNat * 1, (List.map (T.int .u32) a8.l)[(wi (a9 - (7:Int))).toNat]? = some (.int .u32 v8), 0 ≤ a9, a9 < ((64 : Nat) : Int), a9.toNat * 1 + 0 = 0 + a9.toNat * 1, (List.map (T.int .u32) a8.l)[a9.toNat]? = some (.int .u32 v9), (List.map (T.int .u32) a8.l)[a9.toNat]? = some (.int .u32 v9), (List.map (T.int .u32) a8.l).set a9.toNat (.int .u32 (w32 ((w32 ((w32 (v7 + (bits .xor .u32 (bits .xor .u32 r0 r1) (shr .u32 v5 (3:Int))))) + v8)) + (bits .xor .u32 (bits .xor .u32 r2 r3) (shr .u32 v6 (10:Int)))))) = List.map (T.int .u32) (Arr.set a8 (a9.toNat) (w32 ((w32 ((w32 (v7 + (bits .xor .u32 (bits .xor .u32 r0 r1) (shr .u32 v5 (3:Int))))) + v8)) + (bits .xor .u32 (bits .xor .u32 r2 r3) (shr .u32 v6 (10:Int)))))).l] (by kernel_rfl) (by kernel_rfl) ⟨hq10, hq11, (by omega), (at_map hv7), hq12, hq13, (by omega), (at_map hv8), hq14, (of_decide_eq_true hb1), (by omega), (at_map hv9), (at_map hv9), set_map, trivial⟩ ?_
        refine Blk_norm ?_
        refine Nxt_norm ?_
        refine Ab.regT hE hC hL [] { keep := [0, 4, 6], ren := [(49001, 49001), (50000, 50000)] } ⟨[(0, (.ref 50000 [] (0))), (4, (.ref 49001 [] (0))), (6, (.t (.int .i64 (wi (a9 + (1:Int))))))], [(49001, (.var false 69 (.t ((eA 1 (T.int .u32)) (Arr.set a8 (a9.toNat) (w32 ((w32 ((w32 (v7 + (bits .xor .u32 (bits .xor .u32 r0 r1) (shr .u32 v5 (3:Int))))) + v8)) + (bits .xor .u32 (bits .xor .u32 r2 r3) (shr .u32 v6 (10:Int)))))))))), (50000, (.var false 0 (.t ((eA 1 (T.int .u32)) pt0))))]⟩ [] (by kernel_rfl) trivial ?_
        exact LK_norm ((Arr.set a8 (a9.toNat) (w32 ((w32 ((w32 (v7 + (bits .xor .u32 (bits .xor .u32 r0 r1) (shr .u32 v5 (3:Int))))) + v8)) + (bits .xor .u32 (bits .xor .u32 r2 r3) (shr .u32 v6 (10:Int)))))), (wi (a9 + (1:Int)))) { fs := [], keep := [0, 4, 6], ren := [(50000, 50000), (49001, 49001)] } h (by kernel_rfl)
      · replace h := cond_f hb1 h
        refine Ab.exit ?_
        refine Nxt_exit ?_
        exact LK_exit a8 h (PX_mk { fs := [], keep := [0, 4], ren := [(50000, 50000), (49001, 49001)] } (by kernel_rfl))
    · refine Nxt_norm ?_
      refine Ab.seq ?_
      refine Ab.regT hE hC hL [] { keep := [0, 4, 9], ren := [(9, 9), (49001, 49001), (50000, 50000)] } ⟨[(0, (.ref 50000 [] (0))), (4, (.ref 49001 [] (0))), (9, (.ref 9 [] (0)))], [(9, (.var false 65 (.t ((eA 1 (T.int .u32)) pt0)))), (49001, (.var false 69 (.t ((eA 1 (T.int .u32)) x1)))), (50000, (.var false 0 (.t ((eA 1 (T.int .u32)) pt0))))]⟩ [] (by kernel_rfl) trivial ?_
      refine Nxt_norm ?_
      refine Ab.seq ?_
      refine Ab.seq ?_
      refine Ab.regT hE hC hL [] { keep := [0, 4, 9, 111], ren := [(9, 9), (49001, 49001), (50000, 50000)] } ⟨[(0, (.ref 50000 [] (0))), (4, (.ref 49001 [] (0))), (9, (.ref 9 [] (0))), (111, (.t (.int .i64 (0:Int))))], [(9, (.var false 65 (.t ((eA 1 (T.int .u32)) pt0)))), (49001, (.var false 69 (.t ((eA 1 (T.int .u32)) x1)))), (50000, (.var false 0 (.t ((eA 1 (T.int .u32)) pt0))))]⟩ [] (by kernel_rfl) trivial ?_
      refine Nxt_norm ?_
      obtain ⟨x2, hx2, h⟩ := bind_some h
      refine Ab.loopX0 (fun ((a16, a17) : ((Arr 8 Int) × Int)) => (⟨[(0, (.ref 50000 [] (0))), (4, (.ref 49001 [] (0))), (9, (.ref 49002 [] (0))), (111, (.t (.int .i64 a17)))], [(50000, (.var false 0 (.t ((eA 1 (T.int .u32)) pt0)))), (49001, (.var false 69 (.t ((eA 1 (T.int .u32)) x1)))), (49002, (.var false 65 (.t ((eA 1 (T.int .u32)) a16))))]⟩ : St)) (fun (a18 : (Arr 8 Int)) => (⟨[(0, (.ref 50000 [] (0))), (9, (.ref 49001 [] (0)))], [(50000, (.var false 0 (.t ((eA 1 (T.int .u32)) pt0)))), (49001, (.var false 65 (.t ((eA 1 (T.int .u32)) a18))))]⟩ : St)) { fs := [], keep := [0, 4, 9, 111], ren := [(50000, 50000), (49001, 49001), (9, 49002)] } (pt0, (0:Int)) hC hL hx2 (by kernel_rfl) ?_ ?_
      · rintro ⟨a16, a17⟩ o2 h
        replace h : f_digest_block_b2 n x1 a16 a17 = some o2 := h
        unfold f_digest_block_b2 at h
        refine Ab.seq ?_
        refine Ab.regT hE hC hL [] { keep := [0, 4, 9, 111, 112], ren := [(49001, 49001), (49002, 49002), (50000, 50000)] } ⟨[(0, (.ref 50000 [] (0))), (4, (.ref 49001 [] (0))), (9, (.ref 49002 [] (0))), (111, (.t (.int .i64 a17))), (112, (.t (.bool (decide (a17 < (64:Int))))))], [(49001, (.var false 69 (.t ((eA 1 (T.int .u32)) x1)))), (49002, (.var false 65 (.t ((eA 1 (T.int .u32)) a16)))), (50000, (.var false 0 (.t ((eA 1 (T.int .u32)) pt0))))]⟩ [] (by kernel_rfl) trivial ?_
        refine Nxt_norm ?_
        refine Ab.seq ?_
        refine Ab.cond (b := (decide (a17 < (64:Int)))) (by kernel_rfl) (fun hb2 => ?_) (fun hb2 => ?_)
        · replace h := cond_t hb2 h
          refine Ab.skip ?_
          refine Nxt_norm ?_
          refine Ab.seq ?_
          refine Ab.block ?_
          refine Ab.seq ?_
          refine Ab.regT hE hC hL [] { keep := [0, 4, 9, 10, 111], ren := [(49001, 49001), (49002, 49002), (50000, 50000)] } ⟨[(0, (.ref 50000 [] (0))), (4, (.ref 49001 [] (0))), (9, (.ref 49002 [] (0))), (10, (.t (.int .i64 a17))), (111, (.t (.int .i64 a17)))], [(49001, (.var false 69 (.t ((eA 1 (T.int .u32)) x1)))), (49002, (.var false 65 (.t ((eA 1 (T.int .u32)) a16)))), (50000, (.var false 0 (.t ((eA 1 (T.int .u32)) pt0))))]⟩ [] (by kernel_rfl) trivial ?_
          refine Nxt_norm ?_
          refine Ab.seq ?_
          obtain ⟨v10, hv10, h⟩ := bind_some h
          obtain ⟨r4, hr4, h⟩ := bind_some h
          obtain ⟨r5, hr5, h⟩ := bind_some h
          obtain ⟨r6, hr6, h⟩ := bind_some h
          refine Ab.regA hE hC hL [[], [.t (.int .u32 v10)], [.r [.tree (.int .u32 r4)] []], [], [.t (.int .u32 v10)], [.r [.tree (.int .u32 r5)] []], [], [], [.t (.int .u32 v10)], [.r [.tree (.int .u32 r6)] []]] { keep := [0, 4, 9, 10, 11, 111], ren := [(49001, 49001), (49002, 49002), (50000, 50000)] } ⟨[(0, (.ref 50000 [] (0))), (4, (.ref 49001 [] (0))), (9, (.ref 49002 [] (0))), (10, (.t (.int .i64 a17))), (11, (.t (.int .u32 (bits .xor .u32 (bits .xor .u32 r4 r5) r6)))), (111, (.t (.int .i64 a17)))], [(49001, (.var false 69 (.t ((eA 1 (T.int .u32)) x1)))), (49002, (.var false 65 (.t ((eA 1 (T.int .u32)) a16)))), (50000, (.var false 0 (.t ((eA 1 (T.int .u32)) pt0))))]⟩ [4 = 4, (List.map (T.int .u32) a16.l)[4]? = some (.int .u32 v10), (sp_bits_RotateLeft32 n).fn [(.int .u32 v10), (.int .i64 (-6:Int))] = some ([.tree (.int .u32 r4)], []), 4 = 4, (List.map (T.int .u32) a16.l)[4]? = some (.int .u32 v10), (sp_bits_RotateLeft32 n).fn [(.int .u32 v10), (.int .i64 (-11:Int))] = some ([.tree (.int .u32 r5)], []), 4 = 4, (List.map (T.int .u32) a16.l)[4]? = some (.int .u32 v10), (sp_bits_RotateLeft32 n).fn [(.int .u32 v10), (.int .i64 (-25:Int))] = some ([.tree (.int .u32 r6)], [])] (by kernel_rfl) (by kernel_rfl) ⟨(by omega), (at_map hv10), (ap_bits_RotateLeft32 n (by exact ⟨leT.refl _, leT.refl _, trivial⟩) hr4), (by omega), (at_map hv10), (ap_bits_RotateLeft32 n (by exact ⟨leT.refl _, leT.refl _, trivial⟩) hr5), (by omega), (at_map hv10), (ap_bits_RotateLeft32 n (by exact ⟨leT.refl _, leT.refl _, trivial⟩) hr6), trivial⟩ ?_
          refine Nxt_norm ?_
          refine Ab.seq ?_
          obtain ⟨v11, hv11, h⟩ := bind_some h
          obtain ⟨v12, hv12, h⟩ := bind_some h
          obtain ⟨v13, hv13, h⟩ := bind_some h
          obtain ⟨hq15, h⟩ := ask_dec h
          obtain ⟨v14, hv14, h⟩ := bind_some h
          obtain ⟨v15, hv15, h⟩ := bind_some h
          refine Ab.regA hE hC hL [[], [.t (.int .u32 v11)], [], [], [], [.t (.int .u32 v10)], [], [.t (.int .u32 v12)], [], [], [.t (.int .u32 v10)], [], [], [.t (.int .u32 v13)], [], [], [], [], [.t (.int .u32 v14)], [], [], [], [.c], [.t (.int .u32 v15)]] { keep := [0, 4, 9, 12, 111], ren := [(49001, 49001), (49002, 49002), (50000, 50000)] } ⟨[(0, (.ref 50000 [] (0))), (4, (.ref 49001 [] (0))), (9, (.ref 49002 [] (0))), (12, (.t (.int .u32 (w32 ((w32 ((w32 ((w32 (v11 + (bits .xor .u32 (bits .xor .u32 r4 r5) r6))) + (bits .xor .u32 (bits .and .u32 v10 v12) (bits .and .u32 (bits .xor .u32 (4294967295) v10) v13)))) + v14)) + v15))))), (111, (.t (.int .i64 a17)))], [(49001, (.var false 69 (.t ((eA 1 (T.int .u32)) x1)))), (49002, (.var false 65 (.t ((eA 1 (T.int .u32)) a16)))), (50000, (.var false 0 (.t ((eA 1 (T.int .u32)) pt0))))]⟩ [7 = 7, (List.map (T.int .u32) a16.l)[7]? = some (.int .u32 v11), 4 = 4, (List.map (T.int .u32) a16.l)[4]? = some (.int .u32 v10), 5 = 5, (List.map (T.int .u32) a16.l)[5]? = some (.int .u32 v12), 4 = 4, (List.map (T.int .u32) a16.l)[4]? = some (.int .u32 v10), 6 = 6, (List.map (T.int .u32) a16.l)[6]? = some (.int .u32 v13), 0 ≤ a17, a17 < ((64 : Nat) : Int), (List.map (T.int .u32) g_0.l)[a17.toNat]? = some (.int .u32 v14), 0 ≤ a17, a17 < ((64 : Nat) : Int), a17.toNat * 1 + 0 = 0 + a17.toNat * 1, (List.map (T.int .u32) x1.l)[a17.toNat]? = some (.int .u32 v15)] (by kernel_rfl) (by kernel_rfl) ⟨(by omega), (at_map hv11), (by omega), (at_map hv10), (by omega), (at_map hv12), (by omega), (at_map hv10), (by omega), (at_map hv13), hq15, (of_decide_eq_true hb2), (at_map hv14), hq15, (of_decide_eq_true hb2), (by omega), (at_map hv15), trivial⟩ ?_
          refine Nxt_norm ?_
          refine Ab.seq ?_
          obtain ⟨v16, hv16, h⟩ := bind_some h
          obtain ⟨r7, hr7, h⟩ := bind_some h
          obtain ⟨r8, hr8, h⟩ := bind_some h
          obtain ⟨r9, hr9, h⟩ := bind_some h
          refine Ab.regA hE hC hL [[], [.t (.int .u32 v16)], [.r [.tree (.int .u32 r7)] []], [], [.t (.int .u32 v16)], [.r [.tree (.int .u32 r8)] []], [], [], [.t (.int .u32 v16)], [.r [.tree (.int .u32 r9)] []]] { keep := [0, 4, 9, 12, 13, 111], ren := [(49001, 49001), (49002, 49002), (50000, 50000)] } ⟨[(0, (.ref 50000 [] (0))), (4, (.ref 49001 [] (0))), (9, (.ref 49002 [] (0))), (12, (.t (.int .u32 (w32 ((w32 ((w32 ((w32 (v11 + (bits .xor .u32 (bits .xor .u32 r4 r5) r6))) + (bits .xor .u32 (bits .and .u32 v10 v12) (bits .and .u32 (bits .xor .u32 (4294967295) v10) v13)))) + v14)) + v15))))), (13, (.t (.int .u32 (bits .xor .u32 (bits .xor .u32 r7 r8) r9)))), (111, (.t (.int .i64 a17)))], [(49001, (.var false 69 (.t ((eA 1 (T.int .u32)) x1)))), (49002, (.var false 65 (.t ((eA 1 (T.int .u32)) a16)))), (50000, (.var false 0 (.t ((eA 1 (T.int .u32)) pt0))))]⟩ [0 = 0, (List.map (T.int .u32) a16.l)[0]? = some (.int .u32 v16), (sp_bits_RotateLeft32 n).fn [(.int .u32 v16), (.int .i64 (-2:Int))] = some ([.tree (.int .u32 r7)], []), 0 = 0, (List.map (T.int .u32) a16.l)[0]? = some (.int .u32 v16), (sp_bits_RotateLeft32 n).fn [(.int .u32 v16), (.int .i64 (-13:Int))] = some ([.tree (.int .u32 r8)], []), 0 = 0, (List.map (T.int .u32) a16.l)[0]? = some (.int .u32 v16), (sp_bits_RotateLeft32 n).fn [(.int .u32 v16), (.int .i64 (-22:Int))] = some ([.tree (.int .u32 r9)], [])] (by kernel_rfl) (by kernel_rfl) ⟨(by omega), (at_map hv16), (ap_bits_RotateLeft32 n (by exact ⟨leT.refl _, leT.refl _, trivial⟩) hr7), (by omega), (at_map hv16), (ap_bits_RotateLeft32 n (by exact ⟨leT.refl _, leT.refl _, trivial⟩) hr8), (by omega), (at_map hv16), (ap_bits_RotateLeft32 n (by exact ⟨leT.refl _, leT.refl _, trivial⟩) hr9), trivial⟩ ?_
          refine Nxt_norm ?_
          refine Ab.seq ?_
          obtain ⟨v17, hv17, h⟩ := bind_some h
          obtain ⟨v18, hv18, h⟩ := bind_some h
          refine Ab.regT hE hC hL [[], [.t (.int .u32 v16)], [], [.t (.int .u32 v17)], [], [], [.t (.int .u32 v16)], [], [.t (.int .u32 v18)], [], [], [], [.t (.int .u32 v17)], [], [.t (.int .u32 v18)]] { keep := [0, 4, 9, 12, 13, 14, 111], ren := [(49001, 49001), (49002, 49002), (50000, 50000)] } ⟨[(0, (.ref 50000 [] (0))), (4, (.ref 49001 [] (0))), (9, (.ref 49002 [] (0))), (12, (.t (.int .u32 (w32 ((w32 ((w32 ((w32 (v11 + (bits .xor .u32 (bits .xor .u32 r4 r5) r6))) + (bits .xor .u32 (bits .and .u32 v10 v12) (bits .and .u32 (bits .xor .u32 (4294967295) v10) v13)))) + v14)) + v15))))), (13, (.t (.int .u32 (bits .xor .u32 (bits .xor .u32 r7 r8) r9)))), (14, (.t (.int .u32 (bits .xor .u32 (bits .xor .u32 (bits .and .u32 v16 v17) (bits .and .u32 v16 v18)) (bits .and .u32 v17 v18))))), (111, (.t (.int .i64 a17)))], [(49001, (.var false 69 (.t ((eA 1 (T.int .u32)) x1)))), (49002, (.var false 65 (.t ((eA 1 (T.int .u32)) a16)))), (50000, (.var false 0 (.t ((eA 1 (T.int .u32)) pt0))))]⟩ [0 = 0, (List.map (T.int .u32) a16.l)[0]? = some (.int .u32 v16), 1 = 1, (List.map (T.int .u32) a16.l)[1]? = some (.int .u32 v17), 0 = 0, (List.map (T.int .u32) a16.l)[0]? = some (.int .u32 v16), 2 = 2, (List.map (T.int .u32) a16.l)[2]? = some (.int .u32 v18), 1 = 1, (List.map (T.int .u32) a16.l)[1]? = some (.int .u32 v17), 2 = 2, (List.map (T.int .u32) a16.l)[2]? = some (.int .u32 v18)] (by kernel_rfl) ⟨(by omega), (at_map hv16), (by omega), (at_map hv17), (by omega), (at_map hv16), (by omega), (at_map hv18), (by omega), (at_map hv17), (by omega), (at_map hv18), trivial⟩ ?_
          refine Nxt_norm ?_
          refine Ab.seq ?_
          refine Ab.regA hE hC hL [[], [], [.n ((min (List.take 7 (List.drop 0 a16.l)).length 7 : Nat) : Int), .l (List.map (T.int .u32) (Arr.put a16 (over a16.l 1 7 (List.take 7 (List.drop 0 a16.l)))).l)]] { keep := [0, 4, 9, 12, 13, 14, 111], ren := [(49001, 49001), (49002, 49002), (50000, 50000)] } ⟨[(0, (.ref 50000 [] (0))), (4, (.ref 49001 [] (0))), (9, (.ref 49002 [] (0))), (12, (.t (.int .u32 (w32 ((w32 ((w32 ((w32 (v11 + (bits .xor .u32 (bits .xor .u32 r4 r5) r6))) + (bits .xor .u32 (bits .and .u32 v10 v12) (bits .and .u32 (bits .xor .u32 (4294967295) v10) v13)))) + v14)) + v15))))), (13, (.t (.int .u32 (bits .xor .u32 (bits .xor .u32 r7 r8) r9)))), (14, (.t (.int .u32 (bits .xor .u32 (bits .xor .u32 (bits .and .u32 v16 v17) (bits .and .u32 v16 v18)) (bits .and .u32 v17 v18))))), (111, (.t (.int .i64 a17)))], [(49001, (.var false 69 (.t ((eA 1 (T.int .u32)) x1)))), (49002, (.var false 65 (.t ((eA 1 (T.int .u32)) (Arr.put a16 (over a16.l 1 7 (List.take 7 (List.drop 0 a16.l)))))))), (50000, (.var false 0 (.t ((eA 1 (T.int .u32)) pt0))))]⟩ [1 + 7 ≤ List.length (List.map (T.int .u32) a16.l), ((min (List.length (List.take 7 (List.drop 0 (List.map (T.int .u32) a16.l)))) 7 : Nat) : Int) = ((min (List.take 7 (List.drop 0 a16.l)).length 7 : Nat) : Int), List.take 1 (List.map (T.int .u32) a16.l) ++ (List.take 7 (List.take 7 (List.drop 0 (List.map (T.int .u32) a16.l))) ++ List.drop (1 + min (List.length (List.take 7 (List.drop 0 (List.map (T.int .u32) a16.l)))) 7) (List.map (T.int .u32) a16.l)) = List.map (T.int .u32) (Arr.put a16 (over a16.l 1 7 (List.take 7 (List.drop 0 a16.l)))).l, 0 + 7 ≤ List.length (List.map (T.int .u32) a16.l), 0 = 0 + 0 * 1, 1 = 0 + 1 * 1] (by kernel_rfl) (by kernel_rfl) ⟨(by simp only [List.length_map, List.length_take, List.length_drop, List.length_set, List.length_append, Arr.h]; omega), (min_len (win_map rfl _ _)), (copy_arr a16 (win_map rfl _ _) (by omega)), (by simp only [List.length_map, List.length_take, List.length_drop, List.length_set, List.length_append, Arr.h]; omega), (by omega), (by omega), trivial⟩ ?_
          refine Nxt_norm ?_
          refine Ab.seq ?_
          obtain ⟨v19, hv19, h⟩ := bind_some h
          refine Ab.regT hE hC hL [[], [.t (.int .u32 v19)], [], [], [], [.t (.int .u32 v19), .l (List.map (T.int .u32) (Arr.set (Arr.put a16 (over a16.l 1 7 (List.take 7 (List.drop 0 a16.l)))) 4 (w32 (v19 + (w32 ((w32 ((w32 ((w32 (v11 + (bits .xor .u32 (bits .xor .u32 r4 r5) r6))) + (bits .xor .u32 (bits .and .u32 v10 v12) (bits .and .u32 (bits .xor .u32 (4294967295) v10) v13)))) + v14)) + v15))))).l)]] { keep := [0, 4, 9, 12, 13, 14, 111], ren := [(49001, 49001), (49002, 49002), (50000, 50000)] } ⟨[(0, (.ref 50000 [] (0))), (4, (.ref 49001 [] (0))), (9, (.ref 49002 [] (0))), (12, (.t (.int .u32 (w32 ((w32 ((w32 ((w32 (v11 + (bits .xor .u32 (bits .xor .u32 r4 r5) r6))) + (bits .xor .u32 (bits .and .u32 v10 v12) (bits .and .u32 (bits .xor .u32 (4294967295) v10) v13)))) + v14)) + v15))))), (13, (.t (.int .u32 (bits .xor .u32 (bits .xor .u32 r7 r8) r9)))), (14, (.t (.int .u32 (bits .xor .u32 (bits .xor .u32 (bits .and .u32 v16 v17) (bits .and .u32 v16 v18)) (bits .and .u32 v17 v18))))), (111, (.t (.int .i64 a17)))], [(49001, (.var false 69 (.t ((eA 1 (T.int .u32)) x1)))), (49002, (.var false 65 (.t ((eA 1 (T.int .u32)) (Arr.set (Arr.put a16 (over a16.l 1 7 (List.take 7 (List.drop 0 a16.l)))) 4 (w32 (v19 + (w32 ((w32 ((w32 ((w32 (v11 + (bits .xor .u32 (bits .xor .u32 r4 r5) r6))) + (bits .xor .u32 (bits .and .u32 v10 v12) (bits .and .u32 (bits .xor .u32 (4294967295) v10) v13)))) + v14)) + v15))))))))), (50000, (.var false 0 (.t ((eA 1 (T.int .u32)) pt0))))]⟩ [4 = 4, (List.map (T.int .u32) (Arr.put a16 (over a16.l 1 7 (List.take 7 (List.drop 0 a16.l)))).l)[4]? = some (.int .u32 v19), 4 = 4, (List.map (T.int .u32) (Arr.put a16 (over a16.l 1 7 (List.take 7 (List.drop 0 a16.l)))).l)[4]? = some (.int .u32 v19), (List.map (T.int .u32) (Arr.put a16 (over a16.l 1 7 (List.take 7 (List.drop 0 a16.l)))).l)[4]? = some (.int .u32 v19), (List.map (T.int .u32) (Arr.put a16 (over a16.l 1 7 (List.take 7 (List.drop 0 a16.l)))).l).set 4 (.int .u32 (w32 (v19 + (w32 ((w32 ((w32 ((w32 (v11 + (bits .xor .u32 (bits .xor .u32 r4 r5) r6))) + (bits .xor .u32 (bits .and .u32 v10 v12) (bits .and .u32 (bits .xor .u32 (4294967295) v10) v13)))) + v14)) + v15))))) = List.map (T.int .u32) (Arr.set (Arr.put a16 (over a16.l 1 7 (List.take 7 (List.drop 0 a16.l)))) 4 (w32 (v19 + (w32 ((w32 ((w32 ((w32 (v11 + (bits .xor .u32 (bits .xor .u32 r4 r5) r6))) + (bits .xor .u32 (bits .and .u32 v10 v12) (bits .and .u32 (bits .xor .u32 (4294967295) v10) v13)))) + v14)) + v15))))).l] (by kernel_rfl) ⟨(by omega), (at_map hv19), (by omega), (at_map hv19), (at_map hv19), set_map, trivial⟩ ?_
          refine Nxt_norm ?_
          obtain ⟨v20, hv20, h⟩ := bind_some h
          refine Ab.regT hE hC hL [[], [], [], [], [], [], [.t (.int .u32 v20), .l (List.map (T.int .u32) (Arr.set (Arr.set (Arr.put a16 (over a16.l 1 7 (List.take 7 (List.drop 0 a16.l)))) 4 (w32 (v19 + (w32 ((w32 ((w32 ((w32 (v11 + (bits .xor .u32 (bits .xor .u32 r4 r5) r6))) + (bits .xor .u32 (bits .and .u32 v10 v12) (bits .and .u32 (bits .xor .u32 (4294967295) v10) v13)))) + v14)) + v15))))) 0 (w32 ((w32 ((w32 ((w32 ((w32 ((w32 (v11 + (bits .xor .u32 (bits .xor .u32 r4 r5) r6))) + (bits .xor .u32 (bits .and .u32 v10 v12) (bits .and .u32 (bits .xor .u32 (4294967295) v10) v13)))) + v14)) + v15)) + (bits .xor .u32 (bits .xor .u32 r7 r8) r9))) + (bits .xor .u32 (bits .xor .u32 (bits .and .u32 v16 v17) (bits .and .u32 v16 v18)) (bits .and .u32 v17 v18))))).l)]] { keep := [0, 4, 9, 111], ren := [(49001, 49001), (49002, 49002), (50000, 50000)] } ⟨[(0, (.ref 50000 [] (0))), (4, (.ref 49001 [] (0))), (9, (.ref 49002 [] (0))), (111, (.t (.int .i64 a17)))], [(49001, (.var false 69 (.t ((eA 1 (T.int .u32)) x1)))), (49002, (.var false 65 (.t ((eA 1 (T.int .u32)) (Arr.set (Arr.set (Arr.put a16 (over a16.l 1 7 (List.take 7 (List.drop 0 a16.l)))) 4 (w32 (v19 + (w32 ((w32 ((w32 ((w32 (v11 + (bits .xor .u32 (bits .xor .u32 r4 r5) r6))) + (bits .xor .u32 (bits .and .u32 v10 v12) (bits .and .u32 (bits .xor .u32 (4294967295) v10) v13)))) + v14)) + v15))))) 0 (w32 ((w32 ((w32 ((w32 ((w32 ((w32 (v11 + (bits .xor .u32 (bits .xor .u32 r4 r5) r6))) + (bits .xor .u32 (bits .and .u32 v10 v12) (bits .and .u32 (bits .xor .u32 (4294967295) v10) v13)))) + v14)) + v15)) + (bits .xor .u32 (bits .xor .u32 r7 r8) r9))) + (bits .xor .u32 (bits .xor .u32 (bits .and .u32 v16 v17) (bits .and .u32 v16 v18)) (bits .and .u32 v17 v18))))))))), (50000, (.var false 0 (.t ((eA 1 (T.int .u32)) pt0))))]⟩ [0 = 0, (List.map (T.int .u32) (Arr.set (Arr.put a16 (over a16.l 1 7 (List.take 7 (List.drop 0 a16.l)))) 4 (w32 (v19 + (w32 ((w32 ((w32 ((w32 (v11 + (bits .xor .u32 (bits .xor .u32 r4 r5) r6))) + (bits .xor .u32 (bits .and .u32 v10 v12) (bits .and .u32 (bits .xor .u32 (4294967295) v10) v13)))) + v14)) + v15))))).l)[0]? = some (.int .u32 v20), (List.map (T.int .u32) (Arr.set (Arr.put a16 (over a16.l 1 7 (List.take 7 (List.drop 0 a16.l)))) 4 (w32 (v19 + (w32 ((w32 ((w32 ((w32 (v11 + (bits .xor .u32 (bits .xor .u32 r4 r5) r6))) + (bits .xor .u32 (bits .and .u32 v10 v12) (bits .and .u32 (bits .xor .u32 (4294967295) v10) v13)))) + v14)) + v15))))).l)[0]? = some (.int .u32 v20), (List.map (T.int .u32) (Arr.set (Arr.put a16 (over a16.l 1 7 (List.take 7 (List.drop 0 a16.l)))) 4 (w32 (v19 + (w32 ((w32 ((w32 ((w32 (v11 + (bits .xor .u32 (bits .xor .u32 r4 r5) r6))) + (bits .xor .u32 (bits .and .u32 v10 v12) (bits .and .u32 (bits .xor .u32 (4294967295) v10) v13)))) + v14)) + v15))))).l).set 0 (.int .u32 (w32 ((w32 ((w32 ((w32 ((w32 ((w32 (v11 + (bits .xor .u32 (bits .xor .u32 r4 r5) r6))) + (bits .xor .u32 (bits .and .u32 v10 v12) (bits .and .u32 (bits .xor .u32 (4294967295) v10) v13)))) + v14)) + v15)) + (bits .xor .u32 (bits .xor .u32 r7 r8) r9))) + (bits .xor .u32 (bits .xor .u32 (bits .and .u32 v16 v17) (bits .and .u32 v16 v18)) (bits .and .u32 v17 v18))))) = List.map (T.int .u32) (Arr.set (Arr.set (Arr.put a16 (over a16.l 1 7 (List.take 7 (List.drop 0 a16.l)))) 4 (w32 (v19 + (w32 ((w32 ((w32 ((w32 (v11 + (bits .xor .u32 (bits .xor .u32 r4 r5) r6))) + (bits .xor .u32 (bits .and .u32 v10 v12) (bits .and .u32 (bits .xor .u32 (4294967295) v10) v13)))) + v14)) + v15))))) 0 (w32 ((w32 ((w32 ((w32 ((w32 ((w32 (v11 + (bits .xor .u32 (bits .xor .u32 r4 r5) r6))) + (bits .xor .u32 (bits .and .u32 v10 v12) (bits .and .u32 (bits .xor .u32 (4294967295) v10) v13)))) + v14)) + v15)) + (bits .xor .u32 (bits .xor .u32 r7 r8) r9))) + (bits .xor .u32 (bits .xor .u32 (bits .and .u32 v16 v17) (bits .and .u32 v16 v18)) (bits .and .u32 v17 v18))))).l] (by kernel_rfl) ⟨(by omega), (at_map hv20), (at_map hv20), set_map, trivial⟩ ?_
          refine Blk_norm ?_
          refine Nxt_norm ?_
          refine Ab.regT hE hC hL [] { keep := [0, 4, 9, 111], ren := [(49001, 49001), (49002, 49002), (50000, 50000)] } ⟨[(0, (.ref 50000 [] (0))), (4, (.ref 49001 [] (0))), (9, (.ref 49002 [] (0))), (111, (.t (.int .i64 (wi (a17 + (1:Int))))))], [(49001, (.var false 69 (.t ((eA 1 (T.int .u32)) x1)))), (49002, (.var false 65 (.t ((eA 1 (T.int .u32)) (Arr.set (Arr.set (Arr.put a16 (over a16.l 1 7 (List.take 7 (List.drop 0 a16.l)))) 4 (w32 (v19 + (w32 ((w32 ((w32 ((w32 (v11 + (bits .xor .u32 (bits .xor .u32 r4 r5) r6))) + (bits .xor .u32 (bits .and .u32 v10 v12) (bits .and .u32 (bits .xor .u32 (4294967295) v10) v13)))) + v14)) + v15))))) 0 (w32 ((w32 ((w32 ((w32 ((w32 ((w32 (v11 + (bits .xor .u32 (bits .xor .u32 r4 r5) r6))) + (bits .xor .u32 (bits .and .u32 v10 v12) (bits .and .u32 (bits .xor .u32 (4294967295) v10) v13)))) + v14)) + v15)) + (bits .xor .u32 (bits .xor .u32 r7 r8) r9))) + (bits .xor .u32 (bits .xor .u32 (bits .and .u32 v16 v17) (bits .and .u32 v16 v18)) (bits .and .u32 v17 v18))))))))), (50000, (.var false 0 (.t ((eA 1 (T.int .u32)) pt0))))]⟩ [] (by kernel_rfl) trivial ?_
          exact LK_norm ((Arr.set (Arr.set (Arr.put a16 (over a16.l 1 7 (List.take 7 (List.drop 0 a16.l)))) 4 (w32 (v19 + (w32 ((w32 ((w32 ((w32 (v11 + (bits .xor .u32 (bits .xor .u32 r4 r5) r6))) + (bits .xor .u32 (bits .and .u32 v10 v12) (bits .and .u32 (bits .xor .u32 (4294967295) v10) v13)))) + v14)) + v15))))) 0 (w32 ((w32 ((w32 ((w32 ((w32 ((w32 (v11 + (bits .xor .u32 (bits .xor .u32 r4 r5) r6))) + (bits .xor .u32 (bits .and .u32 v10 v12) (bits .and .u32 (bits .xor .u32 (4294967295) v10) v13)))) + v14)) + v15)) + (bits .xor .u32 (bits .xor .u32 r7 r8) r9))) + (bits .xor .u32 (bits .xor .u32 (bits .and .u32 v16 v17) (bits .and .u32 v16 v18)) (bits .and .u32 v17 v18))))), (wi (a17 + (1:Int)))) { fs := [], keep := [0, 4, 9, 111], ren := [(50000, 50000), (49001, 49001), (49002, 49002)] } h (by kernel_rfl)
        · replace h := cond_f hb2 h
          refine Ab.exit ?_
          refine Nxt_exit ?_
          exact LK_exit a16 h (PX_mk { fs := [], keep := [0, 9], ren := [(50000, 50000), (49002, 49001)] } (by kernel_rfl))
      · refine Nxt_norm ?_
        refine Ab.seq ?_
        refine Ab.regT hE hC hL [] { keep := [0, 9, 193], ren := [(49001, 49001), (50000, 50000)] } ⟨[(0, (.ref 50000 [] (0))), (9, (.ref 49001 [] (0))), (193, (.t (.int .i64 (0:Int))))], [(49001, (.var false 65 (.t ((eA 1 (T.int .u32)) x2)))), (50000, (.var false 0 (.t ((eA 1 (T.int .u32)) pt0))))]⟩ [] (by kernel_rfl) trivial ?_
        refine Nxt_norm ?_
        obtain ⟨x3, hx3, h⟩ := bind_some h
        refine Ab.loopX0 (fun ((a24, a25) : ((Arr 8 Int) × Int)) => (⟨[(0, (.ref 50000 [] (0))), (9, (.ref 49001 [] (0))), (193, (.t (.int .i64 a25)))], [(50000, (.var false 0 (.t ((eA 1 (T.int .u32)) a24)))), (49001, (.var false 65 (.t ((eA 1 (T.int .u32)) x2))))]⟩ : St)) (fun (a26 : (Arr 8 Int)) => (⟨[], [(50000, (.var false 0 (.t ((eA 1 (T.int .u32)) a26))))]⟩ : St)) { fs := [], keep := [0, 9, 193], ren := [(50000, 50000), (49001, 49001)] } (pt0, (0:Int)) hC hL hx3 (by kernel_rfl) ?_ ?_
        · rintro ⟨a24, a25⟩ o3 h
          replace h : f_digest_block_b3 n x2 a24 a25 = some o3 := h
          unfold f_digest_block_b3 at h
          refine Ab.seq ?_
          refine Ab.regT hE hC hL [] { keep := [0, 9, 193, 194], ren := [(49001, 49001), (50000, 50000)] } ⟨[(0, (.ref 50000 [] (0))), (9, (.ref 49001 [] (0))), (193, (.t (.int .i64 a25))), (194, (.t (.bool (decide (a25 < (8:Int))))))], [(49001, (.var false 65 (.t ((eA 1 (T.int .u32)) x2)))), (50000, (.var false 0 (.t ((eA 1 (T.int .u32)) a24))))]⟩ [] (by kernel_rfl) trivial ?_
          refine Nxt_norm ?_
          refine Ab.seq ?_
          refine Ab.cond (b := (decide (a25 < (8:Int)))) (by kernel_rfl) (fun hb3 => ?_) (fun hb3 => ?_)
          · replace h := cond_t hb3 h
            refine Ab.skip ?_
            refine Nxt_norm ?_
            refine Ab.seq ?_
            refine Ab.block ?_
            refine Ab.seq ?_
            refine Ab.regT hE hC hL [] { keep := [0, 9, 15, 193], ren := [(49001, 49001), (50000, 50000)] } ⟨[(0, (.ref 50000 [] (0))), (9, (.ref 49001 [] (0))), (15, (.t (.int .i64 a25))), (193, (.t (.int .i64 a25)))], [(49001, (.var false 65 (.t ((eA 1 (T.int .u32)) x2)))), (50000, (.var false 0 (.t ((eA 1 (T.int .u32)) a24))))]⟩ [] (by kernel_rfl) trivial ?_
            refine Nxt_norm ?_
            obtain ⟨hq16, h⟩ := ask_dec h
            obtain ⟨v21, hv21, h⟩ := bind_some h
            obtain ⟨v22, hv22, h⟩ := bind_some h
            refine Ab.regA hE hC hL [[], [], [], [.c], [.t (.int .u32 v21)], [], [.c], [.t (.int .u32 v22)], [], [], [.c], [.t (.int .u32 v21), .l (List.map (T.int .u32) (Arr.set a24 (a25.toNat) (w32 (v21 + v22))).l)]] { keep := [0, 9, 193], ren := [(49001, 49001), (50000, 50000)] } ⟨[(0, (.ref 50000 [] (0))), (9, (.ref 49001 [] (0))), (193, (.t (.int .i64 a25)))], [(49001, (.var false 65 (.t ((eA 1 (T.int .u32)) x2)))), (50000, (.var false 0 (.t ((eA 1 (T.int .u32)) (Arr.set a24 (a25.toNat) (w32 (v21 + v22)))))))]⟩ [0 ≤ a25, a25 < ((8 : Nat) : Int), a25.toNat * 1 + 0 = 0 + a25.toNat * 1, (List.map (T.int .u32) a24.l)[a25.toNat]? = some (.int .u32 v21), 0 ≤ a25, a25 < ((8 : Nat) : Int), a25.toNat * 1 + 0 = 0 + a25.toNat * 1, (List.map (T.int .u32) x2.l)[a25.toNat]? = some (.int .u32 v22), 0 ≤ a25, a25 < ((8 : Nat) : Int), a25.toNat * 1 + 0 = 0 + a25.toNat * 1, (List.map (T.int .u32) a24.l)[a25.toNat]? = some (.int .u32 v21), (List.map (T.int .u32) a24.l)[a25.toNat]? = some (.int .u32 v21), (List.map (T.int .u32) a24.l).set a25.toNat (.int .u32 (w32 (v21 + v22))) = List.map (T.int .u32) (Arr.set a24 (a25.toNat) (w32 (v21 + v22))).l] (by kernel_rfl) (by kernel_rfl) ⟨hq16, (of_decide_eq_true hb3), (by omega), (at_map hv21), hq16, (of_decide_eq_true hb3), (by omega), (at_map hv22), hq16, (of_decide_eq_true hb3), (by omega), (at_map hv21), (at_map hv21), set_map, trivial⟩ ?_
            refine Blk_norm ?_
            refine Nxt_norm ?_
            refine Ab.regT hE hC hL [] { keep := [0, 9, 193], ren := [(49001, 49001), (50000, 50000)] } ⟨[(0, (.ref 50000 [] (0))), (9, (.ref 49001 [] (0))), (193, (.t (.int .i64 (wi (a25 + (1:Int))))))], [(49001, (.var false 65 (.t ((eA 1 (T.int .u32)) x2)))), (50000, (.var false 0 (.t ((eA 1 (T.int .u32)) (Arr.set a24 (a25.toNat) (w32 (v21 + v22)))))))]⟩ [] (by kernel_rfl) trivial ?_
            exact LK_norm ((Arr.set a24 (a25.toNat) (w32 (v21 + v22))), (wi (a25 + (1:Int)))) { fs := [], keep := [0, 9, 193], ren := [(50000, 50000), (49001, 49001)] } h (by kernel_rfl)
          · replace h := cond_f hb3 h
            refine Ab.exit ?_
            refine Nxt_exit ?_
            exact LK_exit a24 h (PX_mk { fs := [], keep := [], ren := [(50000, 50000)] } (by kernel_rfl))
        · obtain rfl := Option.some.inj h
          exact End_norm (doneO_ok (md := []) (by kernel_rfl))
def ea_digest_Of (a : (List Int)) : List T := [(eS 1 (T.int .u8)) a]
def er_digest_Of (r : (Arr 32 Int)) : List RR × List T := ([.tree ((eA 1 (T.int .u8)) r)], [])
noncomputable def sp_digest_Of (n : Nat) : Spec := specP [] true ea_digest_Of (fun a => f_digest_Of n a) (fun _ r => er_digest_Of r)
theorem ap_digest_Of (n : Nat) {ts : List T} {a0 : (List Int)} {r : (Arr 32 Int)} (hle : leTs ts [(eS 1 (T.int .u8)) a0]) (h : f_digest_Of n a0 = some r) : (sp_digest_Of n).fn ts = some ([.tree ((eA 1 (T.int .u8)) r)], []) :=
  specP_fn (a := a0) (InjA.one (inj_eS (inj_int _))) hle h
noncomputable def E_digest_Of (n : Nat) : Env := { ty := tyT, glob := glob, fns := get [(21, sp_digest_block n)], ntmps := 78 }
theorem eok_digest_Of (n : Nat) : EnvOK Tryd.prog (E_digest_Of n) := ⟨tys_ok tys_chk, prog_mixed, (fns_cons (ok_digest_block n) fns_nil)⟩
def K_digest_Of (n : Nat) (pb0 : (List Int)) (r : (Arr 32 Int)) : St → Prop := Done (E_digest_Of n) Tryd.f17.results.toList [] (ea_digest_Of pb0) (er_digest_Of r).1 (er_digest_Of r).2
set_option maxRecDepth 100000 in
set_option maxHeartbeats 4000000 in
theorem ok_digest_Of (n : Nat) : SpecOK Tryd.prog glob 17 (sp_digest_Of n) := by
  refine specP_ok (fn := Tryd.f17) (eok_digest_Of n) (by kernel_rfl) rfl (by decide +kernel) (by kernel_rfl) (fun _ => by show 1 ≤ 78; omega) (fun _ _ r => ⟨(rrf_tree ((flat_eA (fun _ => rfl)) _) rrf_nil), flats_nil⟩) ?_
  rintro pb0 r h C hL hC
  have hE := eok_digest_Of n
  replace hL : ∀ n g, (n, g) ∈ C.lent → n ∈ ([] : List Nat) := hL
  replace h : f_digest_Of n pb0 = some r := h
  show Ab _ _ _ _ _ (End (K_digest_Of n pb0 r))
  unfold f_digest_Of at h
  refine Ab.seq ?_
  refine Ab.regT hE hC hL [] { keep := [0, 2], ren := [(2, 2)] } ⟨[(0, (.t ((eS 1 (T.int .u8)) pb0))), (2, (.ref 2 [] (0)))], [(2, (.var false 24 (.t ((eA 1 (T.int .u8)) (Arr.rep 32 (0:Int))))))]⟩ [] (by kernel_rfl) trivial ?_
  refine Nxt_norm ?_
  refine Ab.seq ?_
  refine Ab.regT hE hC hL [] { keep := [0, 2, 3], ren := [(2, 2), (3, 3)] } ⟨[(0, (.t ((eS 1 (T.int .u8)) pb0))), (2, (.ref 2 [] (0))), (3, (.ref 3 [] (0)))], [(2, (.var false 24 (.t ((eA 1 (T.int .u8)) (Arr.rep 32 (0:Int)))))), (3, (.var false 65 (.t ((eA 1 (T.int .u32)) (⟨[(1779033703:Int), (3144134277:Int), (1013904242:Int), (2773480762:Int), (1359893119:Int), (2600822924:Int), (528734635:Int), (1541459225:Int)], rfl⟩ : (Arr 8 Int))))))]⟩ [] (by kernel_rfl) trivial ?_
  refine Nxt_norm ?_
  refine Ab.seq ?_
  refine Ab.regT hE hC hL [[], [.n (pb0.length : Int)]] { keep := [0, 2, 3, 4], ren := [(2, 2), (3, 3)] } ⟨[(0, (.t ((eS 1 (T.int .u8)) pb0))), (2, (.ref 2 [] (0))), (3, (.ref 3 [] (0))), (4, (.t (.int .u64 (w64 ((w64 (pb0.length : Int)) * (8:Int))))))], [(2, (.var false 24 (.t ((eA 1 (T.int .u8)) (Arr.rep 32 (0:Int)))))), (3, (.var false 65 (.t ((eA 1 (T.int .u32)) (⟨[(1779033703:Int), (3144134277:Int), (1013904242:Int), (2773480762:Int), (1359893119:Int), (2600822924:Int), (528734635:Int), (1541459225:Int)], rfl⟩ : (Arr 8 Int))))))]⟩ [((List.length (List.map (T.int .u8) pb0) : Nat) : Int) = (pb0.length : Int)] (by kernel_rfl) ⟨(len_of rfl), trivial⟩ ?_
  refine Nxt_norm ?_
  refine Ab.seq ?_
  obtain ⟨hq0, h⟩ := ask_dec h
  obtain ⟨hq1, h⟩ := ask_dec h
  refine Ab.regT hE hC hL [[], [], [.l (List.map (T.int .u8) (([] : List Int) ++ pb0))], [], [.l (List.map (T.int .u8) ((([] : List Int) ++ pb0) ++ ([(128:Int)] : List Int)))]] { keep := [0, 2, 3, 4], ren := [(2, 2), (3, 3), (18, 18)] } ⟨[(0, (.own 18)), (2, (.ref 2 [] (0))), (3, (.ref 3 [] (0))), (4, (.t (.int .u64 (w64 ((w64 (pb0.length : Int)) * (8:Int))))))], [(2, (.var false 24 (.t ((eA 1 (T.int .u8)) (Arr.rep 32 (0:Int)))))), (3, (.var false 65 (.t ((eA 1 (T.int .u32)) (⟨[(1779033703:Int), (3144134277:Int), (1013904242:Int), (2773480762:Int), (1359893119:Int), (2600822924:Int), (528734635:Int), (1541459225:Int)], rfl⟩ : (Arr 8 Int)))))), (18, (.row false 5 1 (List.map (T.int .u8) ((([] : List Int) ++ pb0) ++ ([(128:Int)] : List Int)))))]⟩ [(List.length (List.map (T.int .u8) ([] : List Int)) + List.length (List.map (T.int .u8) pb0)) * 1 ≤ maxBytes, List.length (List.map (T.int .u8) ([] : List Int)) + List.length (List.map (T.int .u8) pb0) ≤ maxBytes, (List.map (T.int .u8) ([] : List Int)) ++ (List.map (T.int .u8) pb0) = List.map (T.int .u8) (([] : List Int) ++ pb0), (List.length (List.map (T.int .u8) (([] : List Int) ++ pb0)) + List.length (List.map (T.int .u8) ([(128:Int)] : List Int))) * 1 ≤ maxBytes, List.length (List.map (T.int .u8) (([] : List Int) ++ pb0)) + List.length (List.map (T.int .u8) ([(128:Int)] : List Int)) ≤ maxBytes, (List.map (T.int .u8) (([] : List Int) ++ pb0)) ++ (List.map (T.int .u8) ([(128:Int)] : List Int)) = List.map (T.int .u8) ((([] : List Int) ++ pb0) ++ ([(128:Int)] : List Int))] (by kernel_rfl) ⟨(app_b rfl rfl hq0), (app_c rfl rfl (by decide) hq0), (app_of rfl rfl), (app_b rfl rfl hq1), (app_c rfl rfl (by decide) hq1), (app_of rfl rfl), trivial⟩ ?_
  refine Nxt_norm ?_
  obtain ⟨x0, hx0, h⟩ := bind_some h
  refine Ab.loopX (fun (a0 : (List Int)) => (⟨[(0, (.own 49000)), (2, (.ref 49001 [] (0))), (3, (.ref 49002 [] (0))), (4, (.t (.int .u64 (w64 ((w64 (pb0.length : Int)) * (8:Int))))))], [(49000, (.row false 5 1 (List.map (T.int .u8) a0))), (49001, (.var false 24 (.t ((eA 1 (T.int .u8)) (Arr.rep 32 (0:Int)))))), (49002, (.var false 65 (.t ((eA 1 (T.int .u32)) (⟨[(1779033703:Int), (3144134277:Int), (1013904242:Int), (2773480762:Int), (1359893119:Int), (2600822924:Int), (528734635:Int), (1541459225:Int)], rfl⟩ : (Arr 8 Int))))))]⟩ : St)) (fun (a1 : (List Int)) => (⟨[(0, (.own 49000)), (2, (.ref 49001 [] (0))), (3, (.ref 49002 [] (0))), (4, (.t (.int .u64 (w64 ((w64 (pb0.length : Int)) * (8:Int))))))], [(49000, (.row false 5 1 (List.map (T.int .u8) a1))), (49001, (.var false 24 (.t ((eA 1 (T.int .u8)) (Arr.rep 32 (0:Int)))))), (49002, (.var false 65 (.t ((eA 1 (T.int .u32)) (⟨[(1779033703:Int), (3144134277:Int), (1013904242:Int), (2773480762:Int), (1359893119:Int), (2600822924:Int), (528734635:Int), (1541459225:Int)], rfl⟩ : (Arr 8 Int))))))]⟩ : St)) { fs := [], keep := [0, 2, 3, 4], ren := [(18, 49000), (2, 49001), (3, 49002)] } ((([] : List Int) ++ pb0) ++ ([(128:Int)] : List Int)) hC hL hx0 (by kernel_rfl) ?_ ?_
  · rintro a0 o0 h
    replace h : f_digest_Of_b0 n  a0 = some o0 := h
    unfold f_digest_Of_b0 at h
    refine Ab.seq ?_
    refine Ab.seq ?_
    refine Ab.regT hE hC hL [[], [.n (a0.length : Int)]] { keep := [0, 2, 3, 4, 22], ren := [(49000, 49000), (49001, 49001), (49002, 49002)] } ⟨[(0, (.own 49000)), (2, (.ref 49001 [] (0))), (3, (.ref 49002 [] (0))), (4, (.t (.int .u64 (w64 ((w64 (pb0.length : Int)) * (8:Int)))))), (22, (.t (.bool (((a0.length : Int).tmod (64:Int)) != (56:Int)))))], [(49000, (.row false 5 1 (List.map (T.int .u8) a0))), (49001, (.var false 24 (.t ((eA 1 (T.int .u8)) (Arr.rep 32 (0:Int)))))), (49002, (.var false 65 (.t ((eA 1 (T.int .u32)) (⟨[(1779033703:Int), (3144134277:Int), (1013904242:Int), (2773480762:Int), (1359893119:Int), (2600822924:Int), (528734635:Int), (1541459225:Int)], rfl⟩ : (Arr 8 Int))))))]⟩ [((List.length (List.map (T.int .u8) a0) : Nat) : Int) = (a0.length : Int)] (by kernel_rfl) ⟨(len_of rfl), trivial⟩ ?_
    refine Nxt_norm ?_
    refine Ab.cond (b := (((a0.length : Int).tmod (64:Int)) != (56:Int))) (by kernel_rfl) (fun hb0 => ?_) (fun hb0 => ?_)
    · replace h := cond_t hb0 h
      refine Ab.skip ?_
      refine Nxt_norm ?_
      refine Ab.block ?_
      obtain ⟨hq2, h⟩ := ask_dec h
      refine Ab.regT hE hC hL [[], [], [.l (List.map (T.int .u8) (a0 ++ ([(0:Int)] : List Int)))]] { keep := [0, 2, 3, 4], ren := [(25, 25), (49001, 49001), (49002, 49002)] } ⟨[(0, (.own 25)), (2, (.ref 49001 [] (0))), (3, (.ref 49002 [] (0))), (4, (.t (.int .u64 (w64 ((w64 (pb0.length : Int)) * (8:Int))))))], [(25, (.row false 5 1 (List.map (T.int .u8) (a0 ++ ([(0:Int)] : List Int))))), (49001, (.var false 24 (.t ((eA 1 (T.int .u8)) (Arr.rep 32 (0:Int)))))), (49002, (.var false 65 (.t ((eA 1 (T.int .u32)) (⟨[(1779033703:Int), (3144134277:Int), (1013904242:Int), (2773480762:Int), (1359893119:Int), (2600822924:Int), (528734635:Int), (1541459225:Int)], rfl⟩ : (Arr 8 Int))))))]⟩ [(List.length (List.map (T.int .u8) a0) + List.length (List.map (T.int .u8) ([(0:Int)] : List Int))) * 1 ≤ maxBytes, List.length (List.map (T.int .u8) a0) + List.length (List.map (T.int .u8) ([(0:Int)] : List Int)) ≤ maxBytes, (List.map (T.int .u8) a0) ++ (List.map (T.int .u8) ([(0:Int)] : List Int)) = List.map (T.int .u8) (a0 ++ ([(0:Int)] : List Int))] (by kernel_rfl) ⟨(app_b rfl rfl hq2), (app_c rfl rfl (by decide) hq2), (app_of rfl rfl), trivial⟩ ?_
      refine Blk_norm ?_
      exact LK_norm (a0 ++ ([(0:Int)] : List Int)) { fs := [], keep := [0, 2, 3, 4], ren := [(25, 49000), (49001, 49001), (49002, 49002)] } h (by kernel_rfl)
    · replace h := cond_f hb0 h
      refine Ab.exit ?_
      refine Nxt_exit ?_
      exact LK_exit a0 h (PX_mk { fs := [], keep := [0, 2, 3, 4], ren := [(49000, 49000), (49001, 49001), (49002, 49002)] } (by kernel_rfl))
  · refine Ab.seq ?_
    refine Ab.seq ?_
    refine Ab.regT hE hC hL [] { keep := [0, 2, 3, 4, 5], ren := [(49000, 49000), (49001, 49001), (49002, 49002)] } ⟨[(0, (.own 49000)), (2, (.ref 49001 [] (0))), (3, (.ref 49002 [] (0))), (4, (.t (.int .u64 (w64 ((w64 (pb0.length : Int)) * (8:Int)))))), (5, (.t (.int .i64 (56:Int))))], [(49000, (.row false 5 1 (List.map (T.int .u8) x0))), (49001, (.var false 24 (.t ((eA 1 (T.int .u8)) (Arr.rep 32 (0:Int)))))), (49002, (.var false 65 (.t ((eA 1 (T.int .u32)) (⟨[(1779033703:Int), (3144134277:Int), (1013904242:Int), (2773480762:Int), (1359893119:Int), (2600822924:Int), (528734635:Int), (1541459225:Int)], rfl⟩ : (Arr 8 Int))))))]⟩ [] (by kernel_rfl) trivial ?_
    refine Nxt_norm ?_
    obtain ⟨x1, hx1, h⟩ := bind_some h
    refine Ab.loopX0 (fun ((a5, a6) : ((List Int) × Int)) => (⟨[(0, (.own 49000)), (2, (.ref 49001 [] (0))), (3, (.ref 49002 [] (0))), (4, (.t (.int .u64 (w64 ((w64 (pb0.length : Int)) * (8:Int)))))), (5, (.t (.int .i64 a6)))], [(49000, (.row false 5 1 (List.map (T.int .u8) a5))), (49001, (.var false 24 (.t ((eA 1 (T.int .u8)) (Arr.rep 32 (0:Int)))))), (49002, (.var false 65 (.t ((eA 1 (T.int .u32)) (⟨[(1779033703:Int), (3144134277:Int), (1013904242:Int), (2773480762:Int), (1359893119:Int), (2600822924:Int), (528734635:Int), (1541459225:Int)], rfl⟩ : (Arr 8 Int))))))]⟩ : St)) (fun (a7 : (List Int)) => (⟨[(0, (.own 49000)), (2, (.ref 49001 [] (0))), (3, (.ref 49002 [] (0)))], [(49000, (.row false 5 1 (List.map (T.int .u8) a7))), (49001, (.var false 24 (.t ((eA 1 (T.int .u8)) (Arr.rep 32 (0:Int)))))), (49002, (.var false 65 (.t ((eA 1 (T.int .u32)) (⟨[(1779033703:Int), (3144134277:Int), (1013904242:Int), (2773480762:Int), (1359893119:Int), (2600822924:Int), (528734635:Int), (1541459225:Int)], rfl⟩ : (Arr 8 Int))))))]⟩ : St)) { fs := [], keep := [0, 2, 3, 4, 5], ren := [(49000, 49000), (49001, 49001), (49002, 49002)] } (x0, (56:Int)) hC hL hx1 (by kernel_rfl) ?_ ?_
    · rintro ⟨a5, a6⟩ o1 h
      replace h : f_digest_Of_b1 n pb0 a5 a6 = some o1 := h
      unfold f_digest_Of_b1 at h
      refine Ab.seq ?_
      refine Ab.seq ?_
      refine Ab.regT hE hC hL [] { keep := [0, 2, 3, 4, 5, 27], ren := [(49000, 49000), (49001, 49001), (49002, 49002)] } ⟨[(0, (.own 49000)), (2, (.ref 49001 [] (0))), (3, (.ref 49002 [] (0))), (4, (.t (.int .u64 (w64 ((w64 (pb0.length : Int)) * (8:Int)))))), (5, (.t (.int .i64 a6))), (27, (.t (.bool (decide (a6 ≥ (0:Int))))))], [(49000, (.row false 5 1 (List.map (T.int .u8) a5))), (49001, (.var false 24 (.t ((eA 1 (T.int .u8)) (Arr.rep 32 (0:Int)))))), (49002, (.var false 65 (.t ((eA 1 (T.int .u32)) (⟨[(1779033703:Int), (3144134277:Int), (1013904242:Int), (2773480762:Int), (1359893119:Int), (2600822924:Int), (528734635:Int), (1541459225:Int)], rfl⟩ : (Arr 8 Int))))))]⟩ [] (by kernel_rfl) trivial ?_
      refine Nxt_norm ?_
      refine Ab.cond (b := (decide (a6 ≥ (0:Int)))) (by kernel_rfl) (fun hb1 => ?_) (fun hb1 => ?_)
      · replace h := cond_t hb1 h
        refine Ab.skip ?_
        refine Nxt_norm ?_
        refine Ab.seq ?_
        refine Ab.block ?_
        obtain ⟨hq3, h⟩ := ask_dec h
        obtain ⟨hq4, h⟩ := ask_dec h
        refine Ab.regT hE hC hL [[], [], [], [.c], [], [], [.l (List.map (T.int .u8) (a5 ++ ([(w8 (shr .u64 (w64 ((w64 (pb0.length : Int)) * (8:Int))) a6))] : List Int)))]] { keep := [0, 2, 3, 4, 5], ren := [(36, 36), (49001, 49001), (49002, 49002)] } ⟨[(0, (.own 36)), (2, (.ref 49001 [] (0))), (3, (.ref 49002 [] (0))), (4, (.t (.int .u64 (w64 ((w64 (pb0.length : Int)) * (8:Int)))))), (5, (.t (.int .i64 a6)))], [(36, (.row false 5 1 (List.map (T.int .u8) (a5 ++ ([(w8 (shr .u64 (w64 ((w64 (pb0.length : Int)) * (8:Int))) a6))] : List Int))))), (49001, (.var false 24 (.t ((eA 1 (T.int .u8)) (Arr.rep 32 (0:Int)))))), (49002, (.var false 65 (.t ((eA 1 (T.int .u32)) (⟨[(1779033703:Int), (3144134277:Int), (1013904242:Int), (2773480762:Int), (1359893119:Int), (2600822924:Int), (528734635:Int), (1541459225:Int)], rfl⟩ : (Arr 8 Int))))))]⟩ [¬ a6 < 0, (List.length (List.map (T.int .u8) a5) + List.length (List.map (T.int .u8) ([(w8 (shr .u64 (w64 ((w64 (pb0.length : Int)) * (8:Int))) a6))] : List Int))) * 1 ≤ maxBytes, List.length (List.map (T.int .u8) a5) + List.length (List.map (T.int .u8) ([(w8 (shr .u64 (w64 ((w64 (pb0.length : Int)) * (8:Int))) a6))] : List Int)) ≤ maxBytes, (List.map (T.int .u8) a5) ++ (List.map (T.int .u8) ([(w8 (shr .u64 (w64 ((w64 (pb0.length : Int)) * (8:Int))) a6))] : List Int)) = List.map (T.int .u8) (a5 ++ ([(w8 (shr .u64 (w64 ((w64 (pb0.length : Int)) * (8:Int))) a6))] : List Int))] (by kernel_rfl) ⟨(Int.not_lt.2 hq3), (app_b rfl rfl hq4), (app_c rfl rfl (by decide) hq4), (app_of rfl rfl), trivial⟩ ?_
        refine Blk_norm ?_
        refine Nxt_norm ?_
        refine Ab.regT hE hC hL [] { keep := [0, 2, 3, 4, 5], ren := [(36, 36), (49001, 49001), (49002, 49002)] } ⟨[(0, (.own 36)), (2, (.ref 49001 [] (0))), (3, (.ref 49002 [] (0))), (4, (.t (.int .u64 (w64 ((w64 (pb0.length : Int)) * (8:Int)))))), (5, (.t (.int .i64 (wi (a6 - (8:Int))))))], [(36, (.row false 5 1 (List.map (T.int .u8) (a5 ++ ([(w8 (shr .u64 (w64 ((w64 (pb0.length : Int)) * (8:Int))) a6))] : List Int))))), (49001, (.var false 24 (.t ((eA 1 (T.int .u8)) (Arr.rep 32 (0:Int)))))), (49002, (.var false 65 (.t ((eA 1 (T.int .u32)) (⟨[(1779033703:Int), (3144134277:Int), (1013904242:Int), (2773480762:Int), (1359893119:Int), (2600822924:Int), (528734635:Int), (1541459225:Int)], rfl⟩ : (Arr 8 Int))))))]⟩ [] (by kernel_rfl) trivial ?_
        exact LK_norm ((a5 ++ ([(w8 (shr .u64 (w64 ((w64 (pb0.length : Int)) * (8:Int))) a6))] : List Int)), (wi (a6 - (8:Int)))) { fs := [], keep := [0, 2, 3, 4, 5], ren := [(36, 49000), (49001, 49001), (49002, 49002)] } h (by kernel_rfl)
      · replace h := cond_f hb1 h
        refine Ab.exit ?_
        refine Nxt_exit ?_
        exact LK_exit a5 h (PX_mk { fs := [], keep := [0, 2, 3], ren := [(49000, 49000), (49001, 49001), (49002, 49002)] } (by kernel_rfl))
    · refine Nxt_norm ?_
      obtain ⟨x2, hx2, h⟩ := bind_some h
      refine Ab.loopX (fun ((a13, a14) : ((List Int) × (Arr 8 Int))) => (⟨[(0, (.t ((eS 1 (T.int .u8)) a13))), (2, (.ref 49000 [] (0))), (3, (.ref 49001 [] (0)))], [(49000, (.var false 24 (.t ((eA 1 (T.int .u8)) (Arr.rep 32 (0:Int)))))), (49001, (.var false 65 (.t ((eA 1 (T.int .u32)) a14))))]⟩ : St)) (fun (a15 : (Arr 8 Int)) => (⟨[(2, (.ref 49000 [] (0))), (3, (.ref 49001 [] (0)))], [(49000, (.var false 24 (.t ((eA 1 (T.int .u8)) (Arr.rep 32 (0:Int)))))), (49001, (.var false 65 (.t ((eA 1 (T.int .u32)) a15))))]⟩ : St)) { fs := [⟨(.t 0), [], .tree⟩], keep := [0, 2, 3], ren := [(49001, 49000), (49002, 49001)] } (x1, (⟨[(1779033703:Int), (3144134277:Int), (1013904242:Int), (2773480762:Int), (1359893119:Int), (2600822924:Int), (528734635:Int), (1541459225:Int)], rfl⟩ : (Arr 8 Int))) hC hL hx2 (by kernel_rfl) ?_ ?_
      · rintro ⟨a13, a14⟩ o2 h
        replace h : f_digest_Of_b2 n  a13 a14 = some o2 := h
        unfold f_digest_Of_b2 at h
        refine Ab.seq ?_
        refine Ab.seq ?_
        refine Ab.regT hE hC hL [[], [.n (a13.length : Int)]] { keep := [0, 2, 3, 39], ren := [(49000, 49000), (49001, 49001)] } ⟨[(0, (.t ((eS 1 (T.int .u8)) a13))), (2, (.ref 49000 [] (0))), (3, (.ref 49001 [] (0))), (39, (.t (.bool (decide ((a13.length : Int) > (0:Int))))))], [(49000, (.var false 24 (.t ((eA 1 (T.int .u8)) (Arr.rep 32 (0:Int)))))), (49001, (.var false 65 (.t ((eA 1 (T.int .u32)) a14))))]⟩ [((List.length (List.map (T.int .u8) a13) : Nat) : Int) = (a13.length : Int)] (by kernel_rfl) ⟨(len_of rfl), trivial⟩ ?_
        refine Nxt_norm ?_
        refine Ab.cond (b := (decide ((a13.length : Int) > (0:Int)))) (by kernel_rfl) (fun hb2 => ?_) (fun hb2 => ?_)
        · replace h := cond_t hb2 h
          refine Ab.skip ?_
          refine Nxt_norm ?_
          refine Ab.seq ?_
          refine Ab.block ?_
          obtain ⟨hq5, h⟩ := ask_dec h
          obtain ⟨r0, hr0, h⟩ := bind_some h
          refine Ab.regT hE hC hL [[], [.l (List.map (T.int .u8) (List.take 64 a13))], [.r [] [((eA 1 (T.int .u32)) r0)]]] { keep := [0, 2, 3], ren := [(49000, 49000), (49001, 49001)] } ⟨[(0, (.t ((eS 1 (T.int .u8)) a13))), (2, (.ref 49000 [] (0))), (3, (.ref 49001 [] (0)))], [(49000, (.var false 24 (.t ((eA 1 (T.int .u8)) (Arr.rep 32 (0:Int)))))), (49001, (.var false 65 (.t ((eA 1 (T.int .u32)) r0))))]⟩ [List.take 64 (List.drop 0 (List.map (T.int .u8) a13)) = List.map (T.int .u8) (List.take 64 a13), 0 ≤ (64:Int), (64:Int) ≤ ((List.length (List.map (T.int .u8) a13) : Nat) : Int), (sp_digest_block n).fn [((eA 1 (T.int .u32)) a14), ((eS 1 (T.int .u8)) (List.take 64 a13))] = some ([], [((eA 1 (T.int .u32)) r0)])] (by kernel_rfl) ⟨(win_pre rfl _), (by decide), (le_len rfl hq5), (ap_digest_block n (by exact ⟨leT.refl _, leT.refl _, trivial⟩) hr0), trivial⟩ ?_
          refine Blk_norm ?_
          refine Nxt_norm ?_
          refine Ab.regT hE hC hL [[], [.l (List.map (T.int .u8) (List.drop 64 a13))]] { keep := [0, 2, 3], ren := [(49000, 49000), (49001, 49001)] } ⟨[(0, (.t ((eS 1 (T.int .u8)) (List.drop 64 a13)))), (2, (.ref 49000 [] (0))), (3, (.ref 49001 [] (0)))], [(49000, (.var false 24 (.t ((eA 1 (T.int .u8)) (Arr.rep 32 (0:Int)))))), (49001, (.var false 65 (.t ((eA 1 (T.int .u32)) r0))))]⟩ [List.take (List.length (List.map (T.int .u8) a13) - 64) (List.drop 64 (List.map (T.int .u8) a13)) = List.map (T.int .u8) (List.drop 64 a13), 0 ≤ (64:Int), (64:Int) ≤ ((List.length (List.map (T.int .u8) a13) : Nat) : Int)] (by kernel_rfl) ⟨(win_suf rfl _), (by decide), (le_len rfl hq5), trivial⟩ ?_
          exact LK_norm ((List.drop 64 a13), r0) { fs := [], keep := [0, 2, 3], ren := [(49000, 49000), (49001, 49001)] } h (by kernel_rfl)
        · replace h := cond_f hb2 h
          refine Ab.exit ?_
          refine Nxt_exit ?_
          exact LK_exit a14 h (PX_mk { fs := [], keep := [2, 3], ren := [(49000, 49000), (49001, 49001)] } (by kernel_rfl))
      · refine Ab.seq ?_
        refine Ab.regT hE hC hL [] { keep := [2, 3, 6], ren := [(6, 6), (49000, 49000), (49001, 49001)] } ⟨[(2, (.ref 49000 [] (0))), (3, (.ref 49001 [] (0))), (6, (.ref 6 [] (0)))], [(6, (.var false 24 (.t ((eA 1 (T.int .u8)) (Arr.rep 32 (0:Int)))))), (49000, (.var false 24 (.t ((eA 1 (T.int .u8)) (Arr.rep 32 (0:Int)))))), (49001, (.var false 65 (.t ((eA 1 (T.int .u32)) x2))))]⟩ [] (by kernel_rfl) trivial ?_
        refine Nxt_norm ?_
        refine Ab.seq ?_
        refine Ab.seq ?_
        refine Ab.regT hE hC hL [] { keep := [2, 6, 45, 46], ren := [(6, 6), (49000, 49000)] } ⟨[(2, (.ref 49000 [] (0))), (6, (.ref 6 [] (0))), (45, (.t ((eA 1 (T.int .u32)) x2))), (46, (.t (.int .i64 (0:Int))))], [(6, (.var false 24 (.t ((eA 1 (T.int .u8)) (Arr.rep 32 (0:Int)))))), (49000, (.var false 24 (.t ((eA 1 (T.int .u8)) (Arr.rep 32 (0:Int))))))]⟩ [] (by kernel_rfl) trivial ?_
        refine Nxt_norm ?_
        obtain ⟨x3, hx3, h⟩ := bind_some h
        refine Ab.loopX0 (fun ((a21, a22) : ((Arr 32 Int) × Int)) => (⟨[(2, (.ref 49000 [] (0))), (6, (.ref 49001 [] (0))), (45, (.t ((eA 1 (T.int .u32)) x2))), (46, (.t (.int .i64 a22)))], [(49000, (.var false 24 (.t ((eA 1 (T.int .u8)) (Arr.rep 32 (0:Int)))))), (49001, (.var false 24 (.t ((eA 1 (T.int .u8)) a21))))]⟩ : St)) (fun (a23 : (Arr 32 Int)) => (⟨[(2, (.ref 49000 [] (0))), (6, (.ref 49001 [] (0)))], [(49000, (.var false 24 (.t ((eA 1 (T.int .u8)) (Arr.rep 32 (0:Int)))))), (49001, (.var false 24 (.t ((eA 1 (T.int .u8)) a23))))]⟩ : St)) { fs := [], keep := [2, 6, 45, 46], ren := [(49000, 49000), (6, 49001)] } ((Arr.rep 32 (0:Int)), (0:Int)) hC hL hx3 (by kernel_rfl) ?_ ?_
        · rintro ⟨a21, a22⟩ o3 h
          replace h : f_digest_Of_b3 n x2 a21 a22 = some o3 := h
          unfold f_digest_Of_b3 at h
          refine Ab.seq ?_
          refine Ab.regT hE hC hL [] { keep := [2, 6, 45, 46, 47], ren := [(49000, 49000), (49001, 49001)] } ⟨[(2, (.ref 49000 [] (0))), (6, (.ref 49001 [] (0))), (45, (.t ((eA 1 (T.int .u32)) x2))), (46, (.t (.int .i64 a22))), (47, (.t (.bool (decide (a22 < (8:Int))))))], [(49000, (.var false 24 (.t ((eA 1 (T.int .u8)) (Arr.rep 32 (0:Int)))))), (49001, (.var false 24 (.t ((eA 1 (T.int .u8)) a21))))]⟩ [] (by kernel_rfl) trivial ?_
          refine Nxt_norm ?_
          refine Ab.seq ?_
          refine Ab.cond (b := (decide (a22 < (8:Int)))) (by kernel_rfl) (fun hb3 => ?_) (fun hb3 => ?_)
          · replace h := cond_t hb3 h
            refine Ab.skip ?_
            refine Nxt_norm ?_
            refine Ab.seq ?_
            refine Ab.block ?_
            refine Ab.seq ?_
            obtain ⟨hq6, h⟩ := ask_dec h
            obtain ⟨v0, hv0, h⟩ := bind_some h
            refine Ab.regT hE hC hL [[], [.t (.int .u32 v0)]] { keep := [2, 6, 7, 8, 45, 46], ren := [(49000, 49000), (49001, 49001)] } ⟨[(2, (.ref 49000 [] (0))), (6, (.ref 49001 [] (0))), (7, (.t (.int .i64 a22))), (8, (.t (.int .u32 v0))), (45, (.t ((eA 1 (T.int .u32)) x2))), (46, (.t (.int .i64 a22)))], [(49000, (.var false 24 (.t ((eA 1 (T.int .u8)) (Arr.rep 32 (0:Int)))))), (49001, (.var false 24 (.t ((eA 1 (T.int .u8)) a21))))]⟩ [0 ≤ a22, a22 < ((8 : Nat) : Int), (List.map (T.int .u32) x2.l)[a22.toNat]? = some (.int .u32 v0)] (by kernel_rfl) ⟨hq6, (of_decide_eq_true hb3), (at_map hv0), trivial⟩ ?_
            refine Nxt_norm ?_
            obtain ⟨hq7, h⟩ := ask_dec h
            obtain ⟨hq8, h⟩ := ask_dec h
            obtain ⟨v1, hv1, h⟩ := bind_some h
            obtain ⟨hq9, h⟩ := ask_dec h
            obtain ⟨hq10, h⟩ := ask_dec h
            obtain ⟨v2, hv2, h⟩ := bind_some h
            obtain ⟨hq11, h⟩ := ask_dec h
            obtain ⟨hq12, h⟩ := ask_dec h
            obtain ⟨v3, hv3, h⟩ := bind_some h
            obtain ⟨hq13, h⟩ := ask_dec h
            obtain ⟨hq14, h⟩ := ask_dec h
            obtain ⟨v4, hv4, h⟩ := bind_some h
            refine Ab.regT hE hC hL [[], [], [], [], [], [], [], [], [], [], [], [], [], [], [], [], [], [], [], [], [], [], [.c], [.t (.int .u8 v1), .l (List.map (T.int .u8) (Arr.set a21 ((wi ((4:Int) * a22)).toNat) (w8 (shr .u32 v0 (24:Int)))).l)], [.c], [.t (.int .u8 v2), .l (List.map (T.int .u8) (Arr.set (Arr.set a21 ((wi ((4:Int) * a22)).toNat) (w8 (shr .u32 v0 (24:Int)))) ((wi ((wi ((4:Int) * a22)) + (1:Int))).toNat) (w8 (shr .u32 v0 (16:Int)))).l)], [.c], [.t (.int .u8 v3), .l (List.map (T.int .u8) (Arr.set (Arr.set (Arr.set a21 ((wi ((4:Int) * a22)).toNat) (w8 (shr .u32 v0 (24:Int)))) ((wi ((wi ((4:Int) * a22)) + (1:Int))).toNat) (w8 (shr .u32 v0 (16:Int)))) ((wi ((wi ((4:Int) * a22)) + (2:Int))).toNat) (w8 (shr .u32 v0 (8:Int)))).l)], [.c], [.t (.int .u8 v4), .l (List.map (T.int .u8) (Arr.set (Arr.set (Arr.set (Arr.set a21 ((wi ((4:Int) * a22)).toNat) (w8 (shr .u32 v0 (24:Int)))) ((wi ((wi ((4:Int) * a22)) + (1:Int))).toNat) (w8 (shr .u32 v0 (16:Int)))) ((wi ((wi ((4:Int) * a22)) + (2:Int))).toNat) (w8 (shr .u32 v0 (8:Int)))) ((wi ((wi ((4:Int) * a22)) + (3:Int))).toNat) (w8 v0)).l)]] { keep := [2, 6, 45, 46], ren := [(49000, 49000), (49001, 49001)] } ⟨[(2, (.ref 49000 [] (0))), (6, (.ref 49001 [] (0))), (45, (.t ((eA 1 (T.int .u32)) x2))), (46, (.t (.int .i64 a22)))], [(49000, (.var false 24 (.t ((eA 1 (T.int .u8)) (Arr.rep 32 (0:Int)))))), (49001, (.var false 24 (.t ((eA 1 (T.int .u8)) (Arr.set (Arr.set (Arr.set (Arr.set a21 ((wi ((4:Int) * a22)).toNat) (w8 (shr .u32 v0 (24:Int)))) ((wi ((wi ((4:Int) * a22)) + (1:Int))).toNat) (w8 (shr .u32 v0 (16:Int)))) ((wi ((wi ((4:Int) * a22)) + (2:Int))).toNat) (w8 (shr .u32 v0 (8:Int)))) ((wi ((wi ((4:Int) * a22)) + (3:Int))).toNat) (w8 v0))))))]⟩ [0 ≤ (wi ((4:Int) * a22)), (wi ((4:Int) * a22)) < ((32 : Nat) : Int), (wi ((4:Int) * a22)).toNat * 1 + 0 = 0 + (wi ((4:Int) * a22)).toNat * 1, (List.map (T.int .u8) a21.l)[(wi ((4:Int) * a22)).toNat]? = some (.int .u8 v1), (List.map (T.int .u8) a21.l)[(wi ((4:Int) * a22)).toNat]? = some (.int .u8 v1), (List.map (T.int .u8) a21.l).set ((wi ((4:Int) * a22)).toNat) (.int .u8 (w8 (shr .u32 v0 (24:Int)))) = List.map (T.int .u8) (Arr.set a21 ((wi ((4:Int) * a22)).toNat) (w8 (shr .u32 v0 (24:Int)))).l, 0 ≤ (wi ((wi ((4:Int) * a22)) + (1:Int))), (wi ((wi ((4:Int) * a22)) + (1:Int))) < ((32 : Nat) : Int), (wi ((wi ((4:Int) * a22)) + (1:Int))).toNat * 1 + 0 = 0 + ((wi ((wi ((4:Int) * a22)) + (1:Int))).toNat * 1), (List.map (T.int .u8) (Arr.set a21 ((wi ((4:Int) * a22)).toNat) (w8 (shr .u32 v0 (24:Int)))).l)[(wi ((wi ((4:Int) * a22)) + (1:Int))).toNat]? = some (.int .u8 v2), (List.map (T.int .u8) (Arr.set a21 ((wi ((4:Int) * a22)).toNat) (w8 (shr .u32 v0 (24:Int)))).l)[(wi ((wi ((4:Int) * a22)) + (1:Int))).toNat]? = some (.int .u8 v2), (List.map (T.int .u8) (Arr.set a21 ((wi ((4:Int) * a22)).toNat) (w8 (shr .u32 v0 (24:Int)))).l).set ((wi ((wi ((4:Int) * a22)) + (1:Int))).toNat) (.int .u8 (w8 (shr .u32 v0 (16:Int)))) = List.map (T.int .u8) (Arr.set (Arr.set a21 ((wi ((4:Int) * a22)).toNat) (w8 (shr .u32 v0 (24:Int)))) ((wi ((wi ((4:Int) * a22)) + (1:Int))).toNat) (w8 (shr .u32 v0 (16:Int)))).l, 0 ≤ (wi ((wi ((4:Int) * a22)) + (2:Int))), (wi ((wi ((4:Int) * a22)) + (2:Int))) < ((32 : Nat) : Int), (wi ((wi ((4:Int) * a22)) + (2:Int))).toNat * 1 + 0 = 0 + ((wi ((wi ((4:Int) * a22)) + (2:Int))).toNat * 1), (List.map (T.int .u8) (Arr.set (Arr.set a21 ((wi ((4:Int) * a22)).toNat) (w8 (shr .u32 v0 (24:Int)))) ((wi ((wi ((4:Int) * a22)) + (1:Int))).toNat) (w8 (shr .u32 v0 (16:Int)))).l)[(wi ((wi ((4:Int) * a22)) + (2:Int))).toNat]? = some (.int .u8 v3), (List.map (T.int .u8) (Arr.set (Arr.set a21 ((wi ((4:Int) * a22)).toNat) (w8 (shr .u32 v0 (24:Int)))) ((wi ((wi ((4:Int) * a22)) + (1:Int))).toNat) (w8 (shr .u32 v0 (16:Int)))).l)[(wi ((wi ((4:Int) * a22)) + (2:Int))).toNat]? = some (.int .u8 v3), (List.map (T.int .u8) (Arr.set (Arr.set a21 ((wi ((4:Int) * a22)).toNat) (w8 (shr .u32 v0 (24:Int)))) ((wi ((wi ((4:Int) * a22)) + (1:Int))).toNat) (w8 (shr .u32 v0 (16:Int)))).l).set ((wi ((wi ((4:Int) * a22)) + (2:Int))).toNat) (.int .u8 (w8 (shr .u32 v0 (8:Int)))) = List.map (T.int .u8) (Arr.set (Arr.set (Arr.set a21 ((wi ((4:Int) * a22)).toNat) (w8 (shr .u32 v0 (24:Int)))) ((wi ((wi ((4:Int) * a22)) + (1:Int))).toNat) (w8 (shr .u32 v0 (16:Int)))) ((wi ((wi ((4:Int) * a22)) + (2:Int))).toNat) (w8 (shr .u32 v0 (8:Int)))).l, 0 ≤ (wi ((wi ((4:Int) * a22)) + (3:Int))), (wi ((wi ((4:Int) * a22)) + (3:Int))) < ((32 : Nat) : Int), (wi ((wi ((4:Int) * a22)) + (3:Int))).toNat * 1 + 0 = 0 + ((wi ((wi ((4:Int) * a22)) + (3:Int))).toNat * 1), (List.map (T.int .u8) (Arr.set (Arr.set (Arr.set a21 ((wi ((4:Int) * a22)).toNat) (w8 (shr .u32 v0 (24:Int)))) ((wi ((wi ((4:Int) * a22)) + (1:Int))).toNat) (w8 (shr .u32 v0 (16:Int)))) ((wi ((wi ((4:Int) * a22)) + (2:Int))).toNat) (w8 (shr .u32 v0 (8:Int)))).l)[(wi ((wi ((4:Int) * a22)) + (3:Int))).toNat]? = some (.int .u8 v4), (List.map (T.int .u8) (Arr.set (Arr.set (Arr.set a21 ((wi ((4:Int) * a22)).toNat) (w8 (shr .u32 v0 (24:Int)))) ((wi ((wi ((4:Int) * a22)) + (1:Int))).toNat) (w8 (shr .u32 v0 (16:Int)))) ((wi ((wi ((4:Int) * a22)) + (2:Int))).toNat) (w8 (shr .u32 v0 (8:Int)))).l)[(wi ((wi ((4:Int) * a22)) + (3:Int))).toNat]? = some (.int .u8 v4), (List.map (T.int .u8) (Arr.set (Arr.set (Arr.set a21 ((wi ((4:Int) * a22)).toNat) (w8 (shr .u32 v0 (24:Int)))) ((wi ((wi ((4:Int) * a22)) + (1:Int))).toNat) (w8 (shr .u32 v0 (16:Int)))) ((wi ((wi ((4:Int) * a22)) + (2:Int))).toNat) (w8 (shr .u32 v0 (8:Int)))).l).set ((wi ((wi ((4:Int) * a22)) + (3:Int))).toNat) (.int .u8 (w8 v0)) = List.map (T.int .u8) (Arr.set (Arr.set (Arr.set (Arr.set a21 ((wi ((4:Int) * a22)).toNat) (w8 (shr .u32 v0 (24:Int)))) ((wi ((wi ((4:Int) * a22)) + (1:Int))).toNat) (w8 (shr .u32 v0 (16:Int)))) ((wi ((wi ((4:Int) * a22)) + (2:Int))).toNat) (w8 (shr .u32 v0 (8:Int)))) ((wi ((wi ((4:Int) * a22)) + (3:Int))).toNat) (w8 v0)).l] (by kernel_rfl) ⟨hq7, hq8, (by omega), (at_map hv1), (at_map hv1), set_map, hq9, hq10, (by omega), (at_map hv2), (at_map hv2), set_map, hq11, hq12, (by omega), (at_map hv3), (at_map hv3), set_map, hq13, hq14, (by omega), (at_map hv4), (at_map hv4), set_map, trivial⟩ ?_
            refine Blk_norm ?_
            refine Nxt_norm ?_
            refine Ab.regT hE hC hL [] { keep := [2, 6, 45, 46], ren := [(49000, 49000), (49001, 49001)] } ⟨[(2, (.ref 49000 [] (0))), (6, (.ref 49001 [] (0))), (45, (.t ((eA 1 (T.int .u32)) x2))), (46, (.t (.int .i64 (wi (a22 + (1:Int))))))], [(49000, (.var false 24 (.t ((eA 1 (T.int .u8)) (Arr.rep 32 (0:Int)))))), (49001, (.var false 24 (.t ((eA 1 (T.int .u8)) (Arr.set (Arr.set (Arr.set (Arr.set a21 ((wi ((4:Int) * a22)).toNat) (w8 (shr .u32 v0 (24:Int)))) ((wi ((wi ((4:Int) * a22)) + (1:Int))).toNat) (w8 (shr .u32 v0 (16:Int)))) ((wi ((wi ((4:Int) * a22)) + (2:Int))).toNat) (w8 (shr .u32 v0 (8:Int)))) ((wi ((wi ((4:Int) * a22)) + (3:Int))).toNat) (w8 v0))))))]⟩ [] (by kernel_rfl) trivial ?_
            exact LK_norm ((Arr.set (Arr.set (Arr.set (Arr.set a21 ((wi ((4:Int) * a22)).toNat) (w8 (shr .u32 v0 (24:Int)))) ((wi ((wi ((4:Int) * a22)) + (1:Int))).toNat) (w8 (shr .u32 v0 (16:Int)))) ((wi ((wi ((4:Int) * a22)) + (2:Int))).toNat) (w8 (shr .u32 v0 (8:Int)))) ((wi ((wi ((4:Int) * a22)) + (3:Int))).toNat) (w8 v0)), (wi (a22 + (1:Int)))) { fs := [], keep := [2, 6, 45, 46], ren := [(49000, 49000), (49001, 49001)] } h (by kernel_rfl)
          · replace h := cond_f hb3 h
            refine Ab.exit ?_
            refine Nxt_exit ?_
            exact LK_exit a21 h (PX_mk { fs := [], keep := [2, 6], ren := [(49000, 49000), (49001, 49001)] } (by kernel_rfl))
        · refine Nxt_norm ?_
          refine Ab.seq ?_
          refine Ab.regT hE hC hL [] { keep := [2], ren := [(49000, 49000)] } ⟨[(2, (.ref 49000 [] (0)))], [(49000, (.var false 24 (.t ((eA 1 (T.int .u8)) x3))))]⟩ [] (by kernel_rfl) trivial ?_
          refine Nxt_norm ?_
          refine Ab.ret ?_
          obtain rfl := Option.some.inj h
          exact End_ret (doneO_ok (md := [false]) (by kernel_rfl))
def ea_num_Take (a : (List Int)) : List T := [(eS 1 (T.int .u8)) a]
def er_num_Take (r : Int) : List RR × List T := ([.tree ((T.int .u64) r)], [])
noncomputable def sp_num_Take (n : Nat) : Spec := specP [] true ea_num_Take (fun a => f_num_Take n a) (fun _ r => er_num_Take r)
theorem ap_num_Take (n : Nat) {ts : List T} {a0 : (List Int)} {r : Int} (hle : leTs ts [(eS 1 (T.int .u8)) a0]) (h : f_num_Take n a0 = some r) : (sp_num_Take n).fn ts = some ([.tree ((T.int .u64) r)], []) :=
  specP_fn (a := a0) (InjA.one (inj_eS (inj_int _))) hle h
noncomputable def E_num_Take (n : Nat) : Env := { ty := tyT, glob := glob, fns := get [], ntmps := 26 }
theorem eok_num_Take (n : Nat) : EnvOK Tryd.prog (E_num_Take n) := ⟨tys_ok tys_chk, prog_mixed, fns_nil⟩
def K_num_Take (n : Nat) (pb0 : (List Int)) (r : Int) : St → Prop := Done (E_num_Take n) Tryd.f19.results.toList [] (ea_num_Take pb0) (er_num_Take r).1 (er_num_Take r).2
set_option maxRecDepth 100000 in
set_option maxHeartbeats 4000000 in
theorem ok_num_Take (n : Nat) : SpecOK Tryd.prog glob 19 (sp_num_Take n) := by
  refine specP_ok (fn := Tryd.f19) (eok_num_Take n) (by kernel_rfl) rfl (by decide +kernel) (by kernel_rfl) (fun _ => by show 1 ≤ 26; omega) (fun _ _ r => ⟨(rrf_tree ((fun _ => rfl) _) rrf_nil), flats_nil⟩) ?_
  rintro pb0 r h C hL hC
  have hE := eok_num_Take n
  replace hL : ∀ n g, (n, g) ∈ C.lent → n ∈ ([] : List Nat) := hL
  replace h : f_num_Take n pb0 = some r := h
  show Ab _ _ _ _ _ (End (K_num_Take n pb0 r))
  unfold f_num_Take at h
  refine Ab.seq ?_
  refine Ab.regT hE hC hL [] { keep := [0], ren := [] } ⟨[(0, (.t ((eS 1 (T.int .u8)) pb0)))], []⟩ [] (by kernel_rfl) trivial ?_
  refine Nxt_norm ?_
  refine Ab.seq ?_
  refine Ab.regT hE hC hL [] { keep := [0, 3], ren := [] } ⟨[(0, (.t ((eS 1 (T.int .u8)) pb0))), (3, (.t (.int .u64 (0:Int))))], []⟩ [] (by kernel_rfl) trivial ?_
  refine Nxt_norm ?_
  refine Ab.seq ?_
  refine Ab.seq ?_
  obtain ⟨hq0, h⟩ := ask_dec h
  obtain ⟨hq1, h⟩ := ask_dec h
  refine Ab.regT hE hC hL [[], [], [.n (pb0.length : Int)], [], [.l (List.map (T.int .u8) (List.take ((gmin (pb0.length : Int) (8:Int)).toNat) pb0))], [.n ((List.take ((gmin (pb0.length : Int) (8:Int)).toNat) pb0).length : Int)]] { keep := [3, 10, 11, 12], ren := [] } ⟨[(3, (.t (.int .u64 (0:Int)))), (10, (.t ((eS 1 (T.int .u8)) (List.take ((gmin (pb0.length : Int) (8:Int)).toNat) pb0)))), (11, (.t (.int .i64 ((List.take ((gmin (pb0.length : Int) (8:Int)).toNat) pb0).length : Int)))), (12, (.t (.int .i64 (0:Int))))], []⟩ [((List.length (List.map (T.int .u8) pb0) : Nat) : Int) = (pb0.length : Int), List.take ((gmin (pb0.length : Int) (8:Int)).toNat - 0) (List.drop 0 (List.map (T.int .u8) pb0)) = List.map (T.int .u8) (List.take ((gmin (pb0.length : Int) (8:Int)).toNat) pb0), 0 ≤ (gmin (pb0.length : Int) (8:Int)), (gmin (pb0.length : Int) (8:Int)) ≤ ((List.length (List.map (T.int .u8) pb0) : Nat) : Int), ((List.length (List.map (T.int .u8) (List.take ((gmin (pb0.length : Int) (8:Int)).toNat) pb0)) : Nat) : Int) = ((List.take ((gmin (pb0.length : Int) (8:Int)).toNat) pb0).length : Int)] (by kernel_rfl) ⟨(len_of rfl), (win_pre rfl _), hq0, (le_len rfl hq1), (len_of rfl), trivial⟩ ?_
  refine Nxt_norm ?_
  obtain ⟨x0, hx0, h⟩ := bind_some h
  refine Ab.loopX0 (fun ((a0, a1) : (Int × Int)) => (⟨[(3, (.t (.int .u64 a0))), (10, (.t ((eS 1 (T.int .u8)) (List.take ((gmin (pb0.length : Int) (8:Int)).toNat) pb0)))), (11, (.t (.int .i64 ((List.take ((gmin (pb0.length : Int) (8:Int)).toNat) pb0).length : Int)))), (12, (.t (.int .i64 a1)))], []⟩ : St)) (fun (a2 : Int) => (⟨[(3, (.t (.int .u64 a2)))], []⟩ : St)) { fs := [], keep := [3, 10, 11, 12], ren := [] } ((0:Int), (0:Int)) hC hL hx0 (by kernel_rfl) ?_ ?_
  · rintro ⟨a0, a1⟩ o0 h
    replace h : f_num_Take_b0 n pb0 a0 a1 = some o0 := h
    unfold f_num_Take_b0 at h
    refine Ab.seq ?_
    refine Ab.regT hE hC hL [] { keep := [3, 10, 11, 12, 13], ren := [] } ⟨[(3, (.t (.int .u64 a0))), (10, (.t ((eS 1 (T.int .u8)) (List.take ((gmin (pb0.length : Int) (8:Int)).toNat) pb0)))), (11, (.t (.int .i64 ((List.take ((gmin (pb0.length : Int) (8:Int)).toNat) pb0).length : Int)))), (12, (.t (.int .i64 a1))), (13, (.t (.bool (decide (a1 < ((List.take ((gmin (pb0.length : Int) (8:Int)).toNat) pb0).length : Int))))))], []⟩ [] (by kernel_rfl) trivial ?_
    refine Nxt_norm ?_
    refine Ab.seq ?_
    refine Ab.cond (b := (decide (a1 < ((List.take ((gmin (pb0.length : Int) (8:Int)).toNat) pb0).length : Int)))) (by kernel_rfl) (fun hb0 => ?_) (fun hb0 => ?_)
    · replace h := cond_t hb0 h
      refine Ab.skip ?_
      refine Nxt_norm ?_
      refine Ab.seq ?_
      refine Ab.block ?_
      refine Ab.seq ?_
      obtain ⟨hq2, h⟩ := ask_dec h
      obtain ⟨v0, hv0, h⟩ := bind_some h
      refine Ab.regT hE hC hL [[], [.t (.int .u8 v0)]] { keep := [3, 4, 5, 10, 11, 12], ren := [] } ⟨[(3, (.t (.int .u64 a0))), (4, (.t (.int .i64 a1))), (5, (.t (.int .u8 v0))), (10, (.t ((eS 1 (T.int .u8)) (List.take ((gmin (pb0.length : Int) (8:Int)).toNat) pb0)))), (11, (.t (.int .i64 ((List.take ((gmin (pb0.length : Int) (8:Int)).toNat) pb0).length : Int)))), (12, (.t (.int .i64 a1)))], []⟩ [0 ≤ a1, (List.map (T.int .u8) (List.take ((gmin (pb0.length : Int) (8:Int)).toNat) pb0))[a1.toNat]? = some (.int .u8 v0)] (by kernel_rfl) ⟨hq2, (at_map hv0), trivial⟩ ?_
      refine Nxt_norm ?_
      obtain ⟨hq3, h⟩ := ask_dec h
      refine Ab.regT hE hC hL [[], [], [], [], [], [.c]] { keep := [3, 10, 11, 12], ren := [] } ⟨[(3, (.t (.int .u64 (bits .or .u64 a0 (shl .u64 (w64 v0) (wi ((8:Int) * a1))))))), (10, (.t ((eS 1 (T.int .u8)) (List.take ((gmin (pb0.length : Int) (8:Int)).toNat) pb0)))), (11, (.t (.int .i64 ((List.take ((gmin (pb0.length : Int) (8:Int)).toNat) pb0).length : Int)))), (12, (.t (.int .i64 a1)))], []⟩ [¬ (wi ((8:Int) * a1)) < 0] (by kernel_rfl) ⟨(Int.not_lt.2 hq3), trivial⟩ ?_
      refine Blk_norm ?_
      refine Nxt_norm ?_
      refine Ab.regT hE hC hL [] { keep := [3, 10, 11, 12], ren := [] } ⟨[(3, (.t (.int .u64 (bits .or .u64 a0 (shl .u64 (w64 v0) (wi ((8:Int) * a1))))))), (10, (.t ((eS 1 (T.int .u8)) (List.take ((gmin (pb0.length : Int) (8:Int)).toNat) pb0)))), (11, (.t (.int .i64 ((List.take ((gmin (pb0.length : Int) (8:Int)).toNat) pb0).length : Int)))), (12, (.t (.int .i64 (wi (a1 + (1:Int))))))], []⟩ [] (by kernel_rfl) trivial ?_
      exact LK_norm ((bits .or .u64 a0 (shl .u64 (w64 v0) (wi ((8:Int) * a1)))), (wi (a1 + (1:Int)))) { fs := [], keep := [3, 10, 11, 12], ren := [] } h (by kernel_rfl)
    · replace h := cond_f hb0 h
      refine Ab.exit ?_
      refine Nxt_exit ?_
      exact LK_exit a0 h (PX_mk { fs := [], keep := [3], ren := [] } (by kernel_rfl))
  · refine Nxt_norm ?_
    refine Ab.seq ?_
    refine Ab.regT hE hC hL [] { keep := [2], ren := [] } ⟨[(2, (.t (.int .u64 x0)))], []⟩ [] (by kernel_rfl) trivial ?_
    refine Nxt_norm ?_
    refine Ab.ret ?_
    obtain rfl := Option.some.inj h
    exact End_ret (doneO_ok (md := [false]) (by kernel_rfl))
def ea_shuffle_pivot (a : (Arr 32 Int) × Int × Int) : List T := [(eA 1 (T.int .u8)) a.1, (T.int .u64) a.2.1, (T.int .u64) a.2.2]
def er_shuffle_pivot (r : Int) : List RR × List T := ([.tree ((T.int .u64) r)], [])
noncomputable def sp_shuffle_pivot (n : Nat) : Spec := specP [] true ea_shuffle_pivot (fun a => f_shuffle_pivot n a.1 a.2.1 a.2.2) (fun _ r => er_shuffle_pivot r)
theorem ap_shuffle_pivot (n : Nat) {ts : List T} {a0 : (Arr 32 Int)} {a1 : Int} {a2 : Int} {r : Int} (hle : leTs ts [(eA 1 (T.int .u8)) a0, (T.int .u64) a1, (T.int .u64) a2]) (h : f_shuffle_pivot n a0 a1 a2 = some r) : (sp_shuffle_pivot n).fn ts = some ([.tree ((T.int .u64) r)], []) :=
  specP_fn (a := (a0, a1, a2)) (InjA.cons (inj_eA (inj_int _)) (InjA.cons (inj_int _) (InjA.one (inj_int _)))) hle h
noncomputable def E_shuffle_pivot (n : Nat) : Env := { ty := tyT, glob := glob, fns := get [(17, sp_digest_Of n), (19, sp_num_Take n)], ntmps := 20 }
theorem eok_shuffle_pivot (n : Nat) : EnvOK Tryd.prog (E_shuffle_pivot n) := ⟨tys_ok tys_chk, prog_mixed, (fns_cons (ok_digest_Of n) (fns_cons (ok_num_Take n) fns_nil))⟩
def K_shuffle_pivot (n : Nat) (pseed0 : (Arr 32 Int)) (pround0 : Int) (pn0 : Int) (r : Int) : St → Prop := Done (E_shuffle_pivot n) Tryd.f11.results.toList [] (ea_shuffle_pivot (pseed0, pround0, pn0)) (er_shuffle_pivot r).1 (er_shuffle_pivot r).2
set_option maxRecDepth 100000 in
set_option maxHeartbeats 4000000 in
theorem ok_shuffle_pivot (n : Nat) : SpecOK Tryd.prog glob 11 (sp_shuffle_pivot n) := by
  refine specP_ok (fn := Tryd.f11) (eok_shuffle_pivot n) (by kernel_rfl) rfl (by decide +kernel) (by kernel_rfl) (fun _ => by show 3 ≤ 20; omega) (fun _ _ r => ⟨(rrf_tree ((fun _ => rfl) _) rrf_nil), flats_nil⟩) ?_
  rintro ⟨pseed0, pround0, pn0⟩ r h C hL hC
  have hE := eok_shuffle_pivot n
  replace hL : ∀ n g, (n, g) ∈ C.lent → n ∈ ([] : List Nat) := hL
  replace h : f_shuffle_pivot n pseed0 pround0 pn0 = some r := h
  show Ab _ _ _ _ _ (End (K_shuffle_pivot n pseed0 pround0 pn0 r))
  unfold f_shuffle_pivot at h
  refine Ab.seq ?_
  refine Ab.regT hE hC hL [] { keep := [1, 2, 3], ren := [(3, 3)] } ⟨[(1, (.t (.int .u64 pround0))), (2, (.t (.int .u64 pn0))), (3, (.ref 3 [] (0)))], [(3, (.var false 24 (.t ((eA 1 (T.int .u8)) pseed0))))]⟩ [] (by kernel_rfl) trivial ?_
  refine Nxt_norm ?_
  refine Ab.seq ?_
  obtain ⟨hq0, h⟩ := ask_dec h
  obtain ⟨hq1, h⟩ := ask_dec h
  obtain ⟨r0, hr0, h⟩ := bind_some h
  refine Ab.regT hE hC hL [[], [], [.l (List.map (T.int .u8) (([] : List Int) ++ pseed0.l))], [], [], [], [.l (List.map (T.int .u8) ((([] : List Int) ++ pseed0.l) ++ ([(w8 pround0)] : List Int)))], [.r [.tree ((eA 1 (T.int .u8)) r0)] []]] { keep := [2, 7], ren := [(7, 7)] } ⟨[(2, (.t (.int .u64 pn0))), (7, (.ref 7 [] (0)))], [(7, (.var false 24 (.t ((eA 1 (T.int .u8)) r0))))]⟩ [(List.length (List.map (T.int .u8) ([] : List Int)) + List.length (List.take 32 (List.drop 0 (List.map (T.int .u8) pseed0.l)))) * 1 ≤ maxBytes, List.length (List.map (T.int .u8) ([] : List Int)) + List.length (List.take 32 (List.drop 0 (List.map (T.int .u8) pseed0.l))) ≤ maxBytes, (List.map (T.int .u8) ([] : List Int)) ++ (List.take 32 (List.drop 0 (List.map (T.int .u8) pseed0.l))) = List.map (T.int .u8) (([] : List Int) ++ pseed0.l), 0 + 32 ≤ List.length (List.map (T.int .u8) pseed0.l), 0 = 0 + 0 * 1, (List.length (List.map (T.int .u8) (([] : List Int) ++ pseed0.l)) + List.length (List.map (T.int .u8) ([(w8 pround0)] : List Int))) * 1 ≤ maxBytes, List.length (List.map (T.int .u8) (([] : List Int) ++ pseed0.l)) + List.length (List.map (T.int .u8) ([(w8 pround0)] : List Int)) ≤ maxBytes, (List.map (T.int .u8) (([] : List Int) ++ pseed0.l)) ++ (List.map (T.int .u8) ([(w8 pround0)] : List Int)) = List.map (T.int .u8) ((([] : List Int) ++ pseed0.l) ++ ([(w8 pround0)] : List Int)), (sp_digest_Of n).fn [(.slc 1 (List.map (T.int .u8) ((([] : List Int) ++ pseed0.l) ++ ([(w8 pround0)] : List Int))))] = some ([.tree ((eA 1 (T.int .u8)) r0)], [])] (by kernel_rfl) ⟨(app_b rfl (win_all pseed0) hq0), (app_c rfl (win_all pseed0) (by decide) hq0), (app_of rfl (win_all pseed0)), (by simp only [List.length_map, List.length_take, List.length_drop, List.length_set, List.length_append, Arr.h]; omega), (by omega), (app_b rfl rfl hq1), (app_c rfl rfl (by decide) hq1), (app_of rfl rfl), (ap_digest_Of n (by exact ⟨leT.refl _, trivial⟩) hr0), trivial⟩ ?_
  refine Nxt_norm ?_
  refine Ab.seq ?_
  obtain ⟨r1, hr1, h⟩ := bind_some h
  obtain ⟨hq2, h⟩ := ask_dec h
  refine Ab.regT hE hC hL [[], [.r [.tree (.int .u64 r1)] []], [], [.c]] { keep := [6], ren := [] } ⟨[(6, (.t (.int .u64 (r1.tmod pn0))))], []⟩ [(sp_num_Take n).fn [(.slc 1 (List.take 8 (List.drop 0 (List.map (T.int .u8) r0.l))))] = some ([.tree (.int .u64 r1)], []), 0 + 8 ≤ List.length (List.map (T.int .u8) r0.l), 0 = 0 + 0 * 1, pn0 ≠ 0] (by kernel_rfl) ⟨(ap_num_Take n (by exact ⟨leT_of_eq (congrArg (T.slc _) (win_map rfl _ _)), trivial⟩) hr1), (by simp only [List.length_map, List.length_take, List.length_drop, List.length_set, List.length_append, Arr.h]; omega), (by omega), hq2, trivial⟩ ?_
  refine Nxt_norm ?_
  refine Ab.ret ?_
  obtain rfl := Option.some.inj h
  exact End_ret (doneO_ok (md := [false]) (by kernel_rfl))
def ea_num_Put (a : Int × Int) : List T := [(T.int .u64) a.1, (T.int .i64) a.2]
def er_num_Put (r : (List Int)) : List RR × List T := ([.row 5 1 (List.map (T.int .u8) r)], [])
noncomputable def sp_num_Put (n : Nat) : Spec := specP [] false ea_num_Put (fun a => f_num_Put n a.1 a.2) (fun _ r => er_num_Put r)
theorem ap_num_Put (n : Nat) {ts : List T} {a0 : Int} {a1 : Int} {r : (List Int)} (hle : leTs ts [(T.int .u64) a0, (T.int .i64) a1]) (h : f_num_Put n a0 a1 = some r) : (sp_num_Put n).fn ts = some ([.row 5 1 (List.map (T.int .u8) r)], []) :=
  specP_fn (a := (a0, a1)) (InjA.cons (inj_int _) (InjA.one (inj_int _))) hle h
noncomputable def E_num_Put (n : Nat) : Env := { ty := tyT, glob := glob, fns := get [], ntmps := 27 }
theorem eok_num_Put (n : Nat) : EnvOK Tryd.prog (E_num_Put n) := ⟨tys_ok tys_chk, prog_mixed, fns_nil⟩
def K_num_Put (n : Nat) (pn0 : Int) (psize0 : Int) (r : (List Int)) : St → Prop := Done (E_num_Put n) Tryd.f18.results.toList [] (ea_num_Put (pn0, psize0)) (er_num_Put r).1 (er_num_Put r).2
set_option maxRecDepth 100000 in
set_option maxHeartbeats 4000000 in
theorem ok_num_Put (n : Nat) : SpecOK Tryd.prog glob 18 (sp_num_Put n) := by
  refine specP_ok (fn := Tryd.f18) (eok_num_Put n) (by kernel_rfl) rfl (by decide +kernel) (by kernel_rfl) (fun _ => by show 2 ≤ 27; omega) (fun h => Bool.noConfusion h) ?_
  rintro ⟨pn0, psize0⟩ r h C hL hC
  have hE := eok_num_Put n
  replace hL : ∀ n g, (n, g) ∈ C.lent → n ∈ ([] : List Nat) := hL
  replace h : f_num_Put n pn0 psize0 = some r := h
  show Ab _ _ _ _ _ (End (K_num_Put n pn0 psize0 r))
  unfold f_num_Put at h
  refine Ab.seq ?_
  refine Ab.regT hE hC hL [] { keep := [0, 1], ren := [] } ⟨[(0, (.t (.int .u64 pn0))), (1, (.t (.int .i64 psize0)))], []⟩ [] (by kernel_rfl) trivial ?_
  refine Nxt_norm ?_
  refine Ab.seq ?_
  refine Ab.regT hE hC hL [] { keep := [0, 1, 5], ren := [] } ⟨[(0, (.t (.int .u64 pn0))), (1, (.t (.int .i64 psize0))), (5, (.t .nils))], []⟩ [] (by kernel_rfl) trivial ?_
  refine Nxt_norm ?_
  refine Ab.seq ?_
  refine Ab.seq ?_
  refine Ab.regT hE hC hL [] { keep := [0, 5, 8, 9], ren := [] } ⟨[(0, (.t (.int .u64 pn0))), (5, (.t .nils)), (8, (.t (.int .i64 (gmax psize0 (0:Int))))), (9, (.t (.int .i64 (0:Int))))], []⟩ [] (by kernel_rfl) trivial ?_
  refine Nxt_norm ?_
  obtain ⟨x0, hx0, h⟩ := bind_some h
  refine Ab.loopX0 (fun ((a0, a1) : ((List Int) × Int)) => (⟨[(0, (.t (.int .u64 pn0))), (5, (.own 49000)), (8, (.t (.int .i64 (gmax psize0 (0:Int))))), (9, (.t (.int .i64 a1)))], [(49000, (.row false 5 1 (List.map (T.int .u8) a0)))]⟩ : St)) (fun (a2 : (List Int)) => (⟨[(5, (.own 49000))], [(49000, (.row false 5 1 (List.map (T.int .u8) a2)))]⟩ : St)) { fs := [⟨(.t 5), [], .own 48000 5 1⟩], keep := [0, 5, 8, 9], ren := [(48000, 49000)] } (([] : List Int), (0:Int)) hC hL hx0 (by kernel_rfl) ?_ ?_
  · rintro ⟨a0, a1⟩ o0 h
    replace h : f_num_Put_b0 n pn0 psize0 a0 a1 = some o0 := h
    unfold f_num_Put_b0 at h
    refine Ab.seq ?_
    refine Ab.regT hE hC hL [] { keep := [0, 5, 8, 9, 10], ren := [(49000, 49000)] } ⟨[(0, (.t (.int .u64 pn0))), (5, (.own 49000)), (8, (.t (.int .i64 (gmax psize0 (0:Int))))), (9, (.t (.int .i64 a1))), (10, (.t (.bool (decide (a1 < (gmax psize0 (0:Int)))))))], [(49000, (.row false 5 1 (List.map (T.int .u8) a0)))]⟩ [] (by kernel_rfl) trivial ?_
    refine Nxt_norm ?_
    refine Ab.seq ?_
    refine Ab.cond (b := (decide (a1 < (gmax psize0 (0:Int))))) (by kernel_rfl) (fun hb0 => ?_) (fun hb0 => ?_)
    · replace h := cond_t hb0 h
      refine Ab.skip ?_
      refine Nxt_norm ?_
      refine Ab.seq ?_
      refine Ab.block ?_
      refine Ab.seq ?_
      refine Ab.regT hE hC hL [] { keep := [0, 5, 6, 8, 9], ren := [(49000, 49000)] } ⟨[(0, (.t (.int .u64 pn0))), (5, (.own 49000)), (6, (.t (.int .i64 a1))), (8, (.t (.int .i64 (gmax psize0 (0:Int))))), (9, (.t (.int .i64 a1)))], [(49000, (.row false 5 1 (List.map (T.int .u8) a0)))]⟩ [] (by kernel_rfl) trivial ?_
      refine Nxt_norm ?_
      refine Ab.seq ?_
      refine Ab.regT hE hC hL [] { keep := [0, 5, 6, 8, 9, 13], ren := [(49000, 49000)] } ⟨[(0, (.t (.int .u64 pn0))), (5, (.own 49000)), (6, (.t (.int .i64 a1))), (8, (.t (.int .i64 (gmax psize0 (0:Int))))), (9, (.t (.int .i64 a1))), (13, (.t (.bool (decide (a1 < (8:Int))))))], [(49000, (.row false 5 1 (List.map (T.int .u8) a0)))]⟩ [] (by kernel_rfl) trivial ?_
      refine Nxt_norm ?_
      refine Ab.cond (b := (decide (a1 < (8:Int)))) (by kernel_rfl) (fun hb1 => ?_) (fun hb1 => ?_)
      · replace h := cond_t hb1 h
        obtain ⟨hq0, h⟩ := ask_dec h
        obtain ⟨hq1, h⟩ := ask_dec h
        refine Ab.regT hE hC hL [[], [], [], [], [.c], [], [], [.l (List.map (T.int .u8) (a0 ++ ([(w8 (shr .u64 pn0 (wi ((8:Int) * a1))))] : List Int)))]] { keep := [0, 5, 8, 9], ren := [(21, 21)] } ⟨[(0, (.t (.int .u64 pn0))), (5, (.own 21)), (8, (.t (.int .i64 (gmax psize0 (0:Int))))), (9, (.t (.int .i64 a1)))], [(21, (.row false 5 1 (List.map (T.int .u8) (a0 ++ ([(w8 (shr .u64 pn0 (wi ((8:Int) * a1))))] : List Int)))))]⟩ [¬ (wi ((8:Int) * a1)) < 0, (List.length (List.map (T.int .u8) a0) + List.length (List.map (T.int .u8) ([(w8 (shr .u64 pn0 (wi ((8:Int) * a1))))] : List Int))) * 1 ≤ maxBytes, List.length (List.map (T.int .u8) a0) + List.length (List.map (T.int .u8) ([(w8 (shr .u64 pn0 (wi ((8:Int) * a1))))] : List Int)) ≤ maxBytes, (List.map (T.int .u8) a0) ++ (List.map (T.int .u8) ([(w8 (shr .u64 pn0 (wi ((8:Int) * a1))))] : List Int)) = List.map (T.int .u8) (a0 ++ ([(w8 (shr .u64 pn0 (wi ((8:Int) * a1))))] : List Int))] (by kernel_rfl) ⟨(Int.not_lt.2 hq0), (app_b rfl rfl hq1), (app_c rfl rfl (by decide) hq1), (app_of rfl rfl), trivial⟩ ?_
        refine Blk_norm ?_
        refine Nxt_norm ?_
        refine Ab.regT hE hC hL [] { keep := [0, 5, 8, 9], ren := [(21, 21)] } ⟨[(0, (.t (.int .u64 pn0))), (5, (.own 21)), (8, (.t (.int .i64 (gmax psize0 (0:Int))))), (9, (.t (.int .i64 (wi (a1 + (1:Int))))))], [(21, (.row false 5 1 (List.map (T.int .u8) (a0 ++ ([(w8 (shr .u64 pn0 (wi ((8:Int) * a1))))] : List Int)))))]⟩ [] (by kernel_rfl) trivial ?_
        exact LK_norm ((a0 ++ ([(w8 (shr .u64 pn0 (wi ((8:Int) * a1))))] : List Int)), (wi (a1 + (1:Int)))) { fs := [], keep := [0, 5, 8, 9], ren := [(21, 49000)] } h (by kernel_rfl)
      · replace h := cond_f hb1 h
        obtain ⟨hq2, h⟩ := ask_dec h
        refine Ab.regT hE hC hL [[], [], [.l (List.map (T.int .u8) (a0 ++ ([(0:Int)] : List Int)))]] { keep := [0, 5, 8, 9], ren := [(24, 24)] } ⟨[(0, (.t (.int .u64 pn0))), (5, (.own 24)), (8, (.t (.int .i64 (gmax psize0 (0:Int))))), (9, (.t (.int .i64 a1)))], [(24, (.row false 5 1 (List.map (T.int .u8) (a0 ++ ([(0:Int)] : List Int)))))]⟩ [(List.length (List.map (T.int .u8) a0) + List.length (List.map (T.int .u8) ([(0:Int)] : List Int))) * 1 ≤ maxBytes, List.length (List.map (T.int .u8) a0) + List.length (List.map (T.int .u8) ([(0:Int)] : List Int)) ≤ maxBytes, (List.map (T.int .u8) a0) ++ (List.map (T.int .u8) ([(0:Int)] : List Int)) = List.map (T.int .u8) (a0 ++ ([(0:Int)] : List Int))] (by kernel_rfl) ⟨(app_b rfl rfl hq2), (app_c rfl rfl (by decide) hq2), (app_of rfl rfl), trivial⟩ ?_
        refine Blk_norm ?_
        refine Nxt_norm ?_
        refine Ab.regT hE hC hL [] { keep := [0, 5, 8, 9], ren := [(24, 24)] } ⟨[(0, (.t (.int .u64 pn0))), (5, (.own 24)), (8, (.t (.int .i64 (gmax psize0 (0:Int))))), (9, (.t (.int .i64 (wi (a1 + (1:Int))))))], [(24, (.row false 5 1 (List.map (T.int .u8) (a0 ++ ([(0:Int)] : List Int)))))]⟩ [] (by kernel_rfl) trivial ?_
        exact LK_norm ((a0 ++ ([(0:Int)] : List Int)), (wi (a1 + (1:Int)))) { fs := [], keep := [0, 5, 8, 9], ren := [(24, 49000)] } h (by kernel_rfl)
    · replace h := cond_f hb0 h
      refine Ab.exit ?_
      refine Nxt_exit ?_
      exact LK_exit a0 h (PX_mk { fs := [], keep := [5], ren := [(49000, 49000)] } (by kernel_rfl))
  · refine Nxt_norm ?_
    refine Ab.seq ?_
    refine Ab.regT hE hC hL [] { keep := [4], ren := [(49000, 49000)] } ⟨[(4, (.own 49000))], [(49000, (.row false 5 1 (List.map (T.int .u8) x0)))]⟩ [] (by kernel_rfl) trivial ?_
    refine Nxt_norm ?_
    refine Ab.ret ?_
    obtain rfl := Option.some.inj h
    exact End_ret (doneO_ok (md := [true]) (by kernel_rfl))
def ea_shuffle_bit (a : (Arr 32 Int) × Int × Int) : List T := [(eA 1 (T.int .u8)) a.1, (T.int .u64) a.2.1, (T.int .u64) a.2.2]
def er_shuffle_bit (r : Bool) : List RR × List T := ([.tree (T.bool r)], [])
noncomputable def sp_shuffle_bit (n : Nat) : Spec := specP [] true ea_shuffle_bit (fun a => f_shuffle_bit n a.1 a.2.1 a.2.2) (fun _ r => er_shuffle_bit r)
theorem ap_shuffle_bit (n : Nat) {ts : List T} {a0 : (Arr 32 Int)} {a1 : Int} {a2 : Int} {r : Bool} (hle : leTs ts [(eA 1 (T.int .u8)) a0, (T.int .u64) a1, (T.int .u64) a2]) (h : f_shuffle_bit n a0 a1 a2 = some r) : (sp_shuffle_bit n).fn ts = some ([.tree (T.bool r)], []) :=
  specP_fn (a := (a0, a1, a2)) (InjA.cons (inj_eA (inj_int _)) (InjA.cons (inj_int _) (InjA.one (inj_int _)))) hle h
noncomputable def E_shuffle_bit (n : Nat) : Env := { ty := tyT, glob := glob, fns := get [(17, sp_digest_Of n), (18, sp_num_Put n)], ntmps := 30 }
theorem eok_shuffle_bit (n : Nat) : EnvOK Tryd.prog (E_shuffle_bit n) := ⟨tys_ok tys_chk, prog_mixed, (fns_cons (ok_digest_Of n) (fns_cons (ok_num_Put n) fns_nil))⟩
def K_shuffle_bit (n : Nat) (pseed0 : (Arr 32 Int)) (pround0 : Int) (pplace0 : Int) (r : Bool) : St → Prop := Done (E_shuffle_bit n) Tryd.f12.results.toList [] (ea_shuffle_bit (pseed0, pround0, pplace0)) (er_shuffle_bit r).1 (er_shuffle_bit r).2
set_option maxRecDepth 100000 in
set_option maxHeartbeats 4000000 in
theorem ok_shuffle_bit (n : Nat) : SpecOK Tryd.prog glob 12 (sp_shuffle_bit n) := by
  refine specP_ok (fn := Tryd.f12) (eok_shuffle_bit n) (by kernel_rfl) rfl (by decide +kernel) (by kernel_rfl) (fun _ => by show 3 ≤ 30; omega) (fun _ _ r => ⟨(rrf_tree ((fun _ => rfl) _) rrf_nil), flats_nil⟩) ?_
  rintro ⟨pseed0, pround0, pplace0⟩ r h C hL hC
  have hE := eok_shuffle_bit n
  replace hL : ∀ n g, (n, g) ∈ C.lent → n ∈ ([] : List Nat) := hL
  replace h : f_shuffle_bit n pseed0 pround0 pplace0 = some r := h
  show Ab _ _ _ _ _ (End (K_shuffle_bit n pseed0 pround0 pplace0 r))
  unfold f_shuffle_bit at h
  refine Ab.seq ?_
  refine Ab.regT hE hC hL [] { keep := [1, 2, 3], ren := [(3, 3)] } ⟨[(1, (.t (.int .u64 pround0))), (2, (.t (.int .u64 pplace0))), (3, (.ref 3 [] (0)))], [(3, (.var false 24 (.t ((eA 1 (T.int .u8)) pseed0))))]⟩ [] (by kernel_rfl) trivial ?_
  refine Nxt_norm ?_
  refine Ab.seq ?_
  obtain ⟨hq0, h⟩ := ask_dec h
  obtain ⟨hq1, h⟩ := ask_dec h
  obtain ⟨r0, hr0, h⟩ := bind_some h
  obtain ⟨hq2, h⟩ := ask_dec h
  obtain ⟨r1, hr1, h⟩ := bind_some h
  refine Ab.regT hE hC hL [[], [], [.l (List.map (T.int .u8) (([] : List Int) ++ pseed0.l))], [], [], [], [.l (List.map (T.int .u8) ((([] : List Int) ++ pseed0.l) ++ ([(w8 pround0)] : List Int)))], [], [], [.r [.row 5 1 (List.map (T.int .u8) r0)] []], [.l (List.map (T.int .u8) (((([] : List Int) ++ pseed0.l) ++ ([(w8 pround0)] : List Int)) ++ r0))], [.r [.tree ((eA 1 (T.int .u8)) r1)] []]] { keep := [2, 7], ren := [(7, 7)] } ⟨[(2, (.t (.int .u64 pplace0))), (7, (.ref 7 [] (0)))], [(7, (.var false 24 (.t ((eA 1 (T.int .u8)) r1))))]⟩ [(List.length (List.map (T.int .u8) ([] : List Int)) + List.length (List.take 32 (List.drop 0 (List.map (T.int .u8) pseed0.l)))) * 1 ≤ maxBytes, List.length (List.map (T.int .u8) ([] : List Int)) + List.length (List.take 32 (List.drop 0 (List.map (T.int .u8) pseed0.l))) ≤ maxBytes, (List.map (T.int .u8) ([] : List Int)) ++ (List.take 32 (List.drop 0 (List.map (T.int .u8) pseed0.l))) = List.map (T.int .u8) (([] : List Int) ++ pseed0.l), 0 + 32 ≤ List.length (List.map (T.int .u8) pseed0.l), 0 = 0 + 0 * 1, (List.length (List.map (T.int .u8) (([] : List Int) ++ pseed0.l)) + List.length (List.map (T.int .u8) ([(w8 pround0)] : List Int))) * 1 ≤ maxBytes, List.length (List.map (T.int .u8) (([] : List Int) ++ pseed0.l)) + List.length (List.map (T.int .u8) ([(w8 pround0)] : List Int)) ≤ maxBytes, (List.map (T.int .u8) (([] : List Int) ++ pseed0.l)) ++ (List.map (T.int .u8) ([(w8 pround0)] : List Int)) = List.map (T.int .u8) ((([] : List Int) ++ pseed0.l) ++ ([(w8 pround0)] : List Int)), (sp_num_Put n).fn [(.int .u64 (w64 (pplace0.tdiv (256:Int)))), (.int .i64 (4:Int))] = some ([.row 5 1 (List.map (T.int .u8) r0)], []), (List.length (List.map (T.int .u8) ((([] : List Int) ++ pseed0.l) ++ ([(w8 pround0)] : List Int))) + List.length (List.map (T.int .u8) r0)) * 1 ≤ maxBytes, List.length (List.map (T.int .u8) ((([] : List Int) ++ pseed0.l) ++ ([(w8 pround0)] : List Int))) + List.length (List.map (T.int .u8) r0) ≤ maxBytes, (List.map (T.int .u8) ((([] : List Int) ++ pseed0.l) ++ ([(w8 pround0)] : List Int))) ++ (List.map (T.int .u8) r0) = List.map (T.int .u8) (((([] : List Int) ++ pseed0.l) ++ ([(w8 pround0)] : List Int)) ++ r0), (sp_digest_Of n).fn [(.slc 1 (List.map (T.int .u8) (((([] : List Int) ++ pseed0.l) ++ ([(w8 pround0)] : List Int)) ++ r0)))] = some ([.tree ((eA 1 (T.int .u8)) r1)], [])] (by kernel_rfl) ⟨(app_b rfl (win_all pseed0) hq0), (app_c rfl (win_all pseed0) (by decide) hq0), (app_of rfl (win_all pseed0)), (by simp only [List.length_map, List.length_take, List.length_drop, List.length_set, List.length_append, Arr.h]; omega), (by omega), (app_b rfl rfl hq1), (app_c rfl rfl (by decide) hq1), (app_of rfl rfl), (ap_num_Put n (by exact ⟨leT.refl _, leT.refl _, trivial⟩) hr0), (app_b rfl rfl hq2), (app_c rfl rfl (by decide) hq2), (app_of rfl rfl), (ap_digest_Of n (by exact ⟨leT.refl _, trivial⟩) hr1), trivial⟩ ?_
  refine Nxt_norm ?_
  refine Ab.seq ?_
  obtain ⟨hq3, h⟩ := ask_dec h
  obtain ⟨hq4, h⟩ := ask_dec h
  obtain ⟨v0, hv0, h⟩ := bind_some h
  obtain ⟨hq5, h⟩ := ask_dec h
  refine Ab.regT hE hC hL [[], [], [], [.c], [.t (.int .u8 v0)], [], [], [.c]] { keep := [6], ren := [] } ⟨[(6, (.t (.bool ((bits .and .u8 (shr .u8 v0 (pplace0.tmod (8:Int))) (1:Int)) != (0:Int)))))], []⟩ [0 ≤ (w64 ((pplace0.tmod (256:Int)).tdiv (8:Int))), (w64 ((pplace0.tmod (256:Int)).tdiv (8:Int))) < ((32 : Nat) : Int), (w64 ((pplace0.tmod (256:Int)).tdiv (8:Int))).toNat * 1 + 0 = 0 + (w64 ((pplace0.tmod (256:Int)).tdiv (8:Int))).toNat * 1, (List.map (T.int .u8) r1.l)[(w64 ((pplace0.tmod (256:Int)).tdiv (8:Int))).toNat]? = some (.int .u8 v0), ¬ (pplace0.tmod (8:Int)) < 0] (by kernel_rfl) ⟨hq3, hq4, (by omega), (at_map hv0), (Int.not_lt.2 hq5), trivial⟩ ?_
  refine Nxt_norm ?_
  refine Ab.ret ?_
  obtain rfl := Option.some.inj h
  exact End_ret (doneO_ok (md := [false]) (by kernel_rfl))
def ea_shuffle_Index (a : Int × Int × (Arr 32 Int)) : List T := [(T.int .u64) a.1, (T.int .u64) a.2.1, (eA 1 (T.int .u8)) a.2.2]
def er_shuffle_Index (r : (Int × Int)) : List RR × List T := ([.tree ((T.int .u64) r.1), .tree ((T.int .i64) r.2)], [])
noncomputable def sp_shuffle_Index (n : Nat) : Spec := specP [] true ea_shuffle_Index (fun a => f_shuffle_Index n a.1 a.2.1 a.2.2) (fun _ r => er_shuffle_Index r)
theorem ap_shuffle_Index (n : Nat) {ts : List T} {a0 : Int} {a1 : Int} {a2 : (Arr 32 Int)} {r : (Int × Int)} (hle : leTs ts [(T.int .u64) a0, (T.int .u64) a1, (eA 1 (T.int .u8)) a2]) (h : f_shuffle_Index n a0 a1 a2 = some r) : (sp_shuffle_Index n).fn ts = some ([.tree ((T.int .u64) r.1), .tree ((T.int .i64) r.2)], []) :=
  specP_fn (a := (a0, a1, a2)) (InjA.cons (inj_int _) (InjA.cons (inj_int _) (InjA.one (inj_eA (inj_int _))))) hle h
noncomputable def E_shuffle_Index (n : Nat) : Env := { ty := tyT, glob := glob, fns := get [(11, sp_shuffle_pivot n), (12, sp_shuffle_bit n)], ntmps := 43 }
theorem eok_shuffle_Index (n : Nat) : EnvOK Tryd.prog (E_shuffle_Index n) := ⟨tys_ok tys_chk, prog_mixed, (fns_cons (ok_shuffle_pivot n) (fns_cons (ok_shuffle_bit n) fns_nil))⟩
def K_shuffle_Index (n : Nat) (pi0 : Int) (pn0 : Int) (pseed0 : (Arr 32 Int)) (r : (Int × Int)) : St → Prop := Done (E_shuffle_Index n) Tryd.f7.results.toList [] (ea_shuffle_Index (pi0, pn0, pseed0)) (er_shuffle_Index r).1 (er_shuffle_Index r).2
set_option maxRecDepth 100000 in
set_option maxHeartbeats 4000000 in
theorem ok_shuffle_Index (n : Nat) : SpecOK Tryd.prog glob 7 (sp_shuffle_Index n) := by
  refine specP_ok (fn := Tryd.f7) (eok_shuffle_Index n) (by kernel_rfl) rfl (by decide +kernel) (by kernel_rfl) (fun _ => by show 3 ≤ 43; omega) (fun _ _ r => ⟨(rrf_tree ((fun _ => rfl) _) (rrf_tree ((fun _ => rfl) _) rrf_nil)), flats_nil⟩) ?_
  rintro ⟨pi0, pn0, pseed0⟩ r h C hL hC
  have hE := eok_shuffle_Index n
  replace hL : ∀ n g, (n, g) ∈ C.lent → n ∈ ([] : List Nat) := hL
  replace h : f_shuffle_Index n pi0 pn0 pseed0 = some r := h
  show Ab _ _ _ _ _ (End (K_shuffle_Index n pi0 pn0 pseed0 r))
  unfold f_shuffle_Index at h
  refine Ab.seq ?_
  refine Ab.regT hE hC hL [] { keep := [0, 1, 5], ren := [(5, 5)] } ⟨[(0, (.t (.int .u64 pi0))), (1, (.t (.int .u64 pn0))), (5, (.ref 5 [] (0)))], [(5, (.var false 24 (.t ((eA 1 (T.int .u8)) pseed0))))]⟩ [] (by kernel_rfl) trivial ?_
  refine Nxt_norm ?_
  refine Ab.seq ?_
  refine Ab.seq ?_
  rcases Bool.eq_false_or_eq_true (pn0 == (0:Int)) with hb0 | hb0
  · replace h := cond_t hb0 h
    refine Ab.regT hE hC hL [[], [], [.b true]] { keep := [0, 1, 5, 20], ren := [(5, 5)] } ⟨[(0, (.t (.int .u64 pi0))), (1, (.t (.int .u64 pn0))), (5, (.ref 5 [] (0))), (20, (.t (.bool true)))], [(5, (.var false 24 (.t ((eA 1 (T.int .u8)) pseed0))))]⟩ [(pn0 == (0:Int)) = true] (by kernel_rfl) ⟨hb0, trivial⟩ ?_
    refine Nxt_norm ?_
    refine Ab.cond (b := true) (by kernel_rfl) (fun _ => ?_) (fun hb => Bool.noConfusion hb)
    refine Ab.seq ?_
    refine Ab.regT hE hC hL [] { keep := [6, 7], ren := [] } ⟨[(6, (.t (.int .u64 (0:Int)))), (7, (.t (.int .i64 (2:Int))))], []⟩ [] (by kernel_rfl) trivial ?_
    refine Nxt_norm ?_
    refine Ab.ret ?_
    refine Nxt_ret ?_
    obtain rfl := Option.some.inj h
    exact End_ret (doneO_ok (md := [false, false]) (by kernel_rfl))
  · replace h := cond_f hb0 h
    rcases Bool.eq_false_or_eq_true (decide (pi0 ≥ pn0)) with hb1 | hb1
    · replace h := cond_t hb1 h
      refine Ab.regT hE hC hL [[], [], [.b false], [], [], [], [], [.b true]] { keep := [0, 1, 5, 20], ren := [(5, 5)] } ⟨[(0, (.t (.int .u64 pi0))), (1, (.t (.int .u64 pn0))), (5, (.ref 5 [] (0))), (20, (.t (.bool true)))], [(5, (.var false 24 (.t ((eA 1 (T.int .u8)) pseed0))))]⟩ [(pn0 == (0:Int)) = false, (decide (pi0 ≥ pn0)) = true] (by kernel_rfl) ⟨hb0, hb1, trivial⟩ ?_
      refine Nxt_norm ?_
      refine Ab.cond (b := true) (by kernel_rfl) (fun _ => ?_) (fun hb => Bool.noConfusion hb)
      refine Ab.seq ?_
      refine Ab.regT hE hC hL [] { keep := [6, 7], ren := [] } ⟨[(6, (.t (.int .u64 (0:Int)))), (7, (.t (.int .i64 (2:Int))))], []⟩ [] (by kernel_rfl) trivial ?_
      refine Nxt_norm ?_
      refine Ab.ret ?_
      refine Nxt_ret ?_
      obtain rfl := Option.some.inj h
      exact End_ret (doneO_ok (md := [false, false]) (by kernel_rfl))
    · replace h := cond_f hb1 h
      refine Ab.regT hE hC hL [[], [], [.b false], [], [], [], [], [.b false]] { keep := [0, 1, 5, 20], ren := [(5, 5)] } ⟨[(0, (.t (.int .u64 pi0))), (1, (.t (.int .u64 pn0))), (5, (.ref 5 [] (0))), (20, (.t (.bool (decide (pn0 > (1099511627776:Int))))))], [(5, (.var false 24 (.t ((eA 1 (T.int .u8)) pseed0))))]⟩ [(pn0 == (0:Int)) = false, (decide (pi0 ≥ pn0)) = false] (by kernel_rfl) ⟨hb0, hb1, trivial⟩ ?_
      refine Nxt_norm ?_
      refine Ab.cond (b := (decide (pn0 > (1099511627776:Int)))) (by kernel_rfl) (fun hb2 => ?_) (fun hb2 => ?_)
      · replace h := cond_t hb2 h
        refine Ab.seq ?_
        refine Ab.regT hE hC hL [] { keep := [6, 7], ren := [] } ⟨[(6, (.t (.int .u64 (0:Int)))), (7, (.t (.int .i64 (2:Int))))], []⟩ [] (by kernel_rfl) trivial ?_
        refine Nxt_norm ?_
        refine Ab.ret ?_
        refine Nxt_ret ?_
        obtain rfl := Option.some.inj h
        exact End_ret (doneO_ok (md := [false, false]) (by kernel_rfl))
      · replace h := cond_f hb2 h
        refine Ab.skip ?_
        refine Nxt_norm ?_
        refine Ab.seq ?_
        refine Ab.seq ?_
        refine Ab.regT hE hC hL [] { keep := [0, 1, 5, 21], ren := [(5, 5)] } ⟨[(0, (.t (.int .u64 pi0))), (1, (.t (.int .u64 pn0))), (5, (.ref 5 [] (0))), (21, (.t (.int .u64 (0:Int))))], [(5, (.var false 24 (.t ((eA 1 (T.int .u8)) pseed0))))]⟩ [] (by kernel_rfl) trivial ?_
        refine Nxt_norm ?_
        obtain ⟨x0, hx0, h⟩ := bind_some h
        refine Ab.loopX0 (fun ((a0, a1) : (Int × Int)) => (⟨[(0, (.t (.int .u64 a0))), (1, (.t (.int .u64 pn0))), (5, (.ref 49000 [] (0))), (21, (.t (.int .u64 a1)))], [(49000, (.var false 24 (.t ((eA 1 (T.int .u8)) pseed0))))]⟩ : St)) (fun (a2 : Int) => (⟨[(0, (.t (.int .u64 a2)))], []⟩ : St)) { fs := [], keep := [0, 1, 5, 21], ren := [(5, 49000)] } (pi0, (0:Int)) hC hL hx0 (by kernel_rfl) ?_ ?_
        · rintro ⟨a0, a1⟩ o0 h
          replace h : f_shuffle_Index_b0 n pn0 pseed0 a0 a1 = some o0 := h
          unfold f_shuffle_Index_b0 at h
          refine Ab.seq ?_
          refine Ab.regT hE hC hL [] { keep := [0, 1, 5, 21, 22], ren := [(49000, 49000)] } ⟨[(0, (.t (.int .u64 a0))), (1, (.t (.int .u64 pn0))), (5, (.ref 49000 [] (0))), (21, (.t (.int .u64 a1))), (22, (.t (.bool (decide (a1 < (5:Int))))))], [(49000, (.var false 24 (.t ((eA 1 (T.int .u8)) pseed0))))]⟩ [] (by kernel_rfl) trivial ?_
          refine Nxt_norm ?_
          refine Ab.seq ?_
          refine Ab.cond (b := (decide (a1 < (5:Int)))) (by kernel_rfl) (fun hb3 => ?_) (fun hb3 => ?_)
          · replace h := cond_t hb3 h
            refine Ab.skip ?_
            refine Nxt_norm ?_
            refine Ab.seq ?_
            refine Ab.block ?_
            refine Ab.seq ?_
            refine Ab.regT hE hC hL [] { keep := [0, 1, 5, 8, 21], ren := [(49000, 49000)] } ⟨[(0, (.t (.int .u64 a0))), (1, (.t (.int .u64 pn0))), (5, (.ref 49000 [] (0))), (8, (.t (.int .u64 a1))), (21, (.t (.int .u64 a1)))], [(49000, (.var false 24 (.t ((eA 1 (T.int .u8)) pseed0))))]⟩ [] (by kernel_rfl) trivial ?_
            refine Nxt_norm ?_
            refine Ab.seq ?_
            obtain ⟨r0, hr0, h⟩ := bind_some h
            obtain ⟨hq0, h⟩ := ask_dec h
            refine Ab.regT hE hC hL [[], [], [], [.r [.tree (.int .u64 r0)] []], [], [], [], [], [], [.c]] { keep := [0, 1, 5, 8, 9, 21], ren := [(49000, 49000)] } ⟨[(0, (.t (.int .u64 a0))), (1, (.t (.int .u64 pn0))), (5, (.ref 49000 [] (0))), (8, (.t (.int .u64 a1))), (9, (.t (.int .u64 ((w64 ((w64 (r0 + pn0)) - a0)).tmod pn0)))), (21, (.t (.int .u64 a1)))], [(49000, (.var false 24 (.t ((eA 1 (T.int .u8)) pseed0))))]⟩ [(sp_shuffle_pivot n).fn [((eA 1 (T.int .u8)) pseed0), (.int .u64 a1), (.int .u64 pn0)] = some ([.tree (.int .u64 r0)], []), pn0 ≠ 0] (by kernel_rfl) ⟨(ap_shuffle_pivot n (by exact ⟨leT.refl _, leT.refl _, leT.refl _, trivial⟩) hr0), hq0, trivial⟩ ?_
            refine Nxt_norm ?_
            refine Ab.seq ?_
            obtain ⟨r1, hr1, h⟩ := bind_some h
            refine Ab.regT hE hC hL [[], [], [], [], [], [.r [.tree (.bool r1)] []]] { keep := [0, 1, 5, 9, 21, 39], ren := [(49000, 49000)] } ⟨[(0, (.t (.int .u64 a0))), (1, (.t (.int .u64 pn0))), (5, (.ref 49000 [] (0))), (9, (.t (.int .u64 ((w64 ((w64 (r0 + pn0)) - a0)).tmod pn0)))), (21, (.t (.int .u64 a1))), (39, (.t (.bool r1)))], [(49000, (.var false 24 (.t ((eA 1 (T.int .u8)) pseed0))))]⟩ [(sp_shuffle_bit n).fn [((eA 1 (T.int .u8)) pseed0), (.int .u64 a1), (.int .u64 (gmax a0 ((w64 ((w64 (r0 + pn0)) - a0)).tmod pn0)))] = some ([.tree (.bool r1)], [])] (by kernel_rfl) ⟨(ap_shuffle_bit n (by exact ⟨leT.refl _, leT.refl _, leT.refl _, trivial⟩) hr1), trivial⟩ ?_
            refine Nxt_norm ?_
            refine Ab.cond (b := r1) (by kernel_rfl) (fun hb4 => ?_) (fun hb4 => ?_)
            · replace h := cond_t hb4 h
              refine Ab.regT hE hC hL [] { keep := [0, 1, 5, 21], ren := [(49000, 49000)] } ⟨[(0, (.t (.int .u64 ((w64 ((w64 (r0 + pn0)) - a0)).tmod pn0)))), (1, (.t (.int .u64 pn0))), (5, (.ref 49000 [] (0))), (21, (.t (.int .u64 a1)))], [(49000, (.var false 24 (.t ((eA 1 (T.int .u8)) pseed0))))]⟩ [] (by kernel_rfl) trivial ?_
              refine Blk_norm ?_
              refine Nxt_norm ?_
              refine Ab.regT hE hC hL [] { keep := [0, 1, 5, 21], ren := [(49000, 49000)] } ⟨[(0, (.t (.int .u64 ((w64 ((w64 (r0 + pn0)) - a0)).tmod pn0)))), (1, (.t (.int .u64 pn0))), (5, (.ref 49000 [] (0))), (21, (.t (.int .u64 (w64 (a1 + (1:Int))))))], [(49000, (.var false 24 (.t ((eA 1 (T.int .u8)) pseed0))))]⟩ [] (by kernel_rfl) trivial ?_
              exact LK_norm (((w64 ((w64 (r0 + pn0)) - a0)).tmod pn0), (w64 (a1 + (1:Int)))) { fs := [], keep := [0, 1, 5, 21], ren := [(49000, 49000)] } h (by kernel_rfl)
            · replace h := cond_f hb4 h
              refine Ab.skip ?_
              refine Blk_norm ?_
              refine Nxt_norm ?_
              refine Ab.regT hE hC hL [] { keep := [0, 1, 5, 21], ren := [(49000, 49000)] } ⟨[(0, (.t (.int .u64 a0))), (1, (.t (.int .u64 pn0))), (5, (.ref 49000 [] (0))), (21, (.t (.int .u64 (w64 (a1 + (1:Int))))))], [(49000, (.var false 24 (.t ((eA 1 (T.int .u8)) pseed0))))]⟩ [] (by kernel_rfl) trivial ?_
              exact LK_norm (a0, (w64 (a1 + (1:Int)))) { fs := [], keep := [0, 1, 5, 21], ren := [(49000, 49000)] } h (by kernel_rfl)
          · replace h := cond_f hb3 h
            refine Ab.exit ?_
            refine Nxt_exit ?_
            exact LK_exit a0 h (PX_mk { fs := [], keep := [0], ren := [] } (by kernel_rfl))
        · refine Nxt_norm ?_
          refine Ab.seq ?_
          refine Ab.regT hE hC hL [] { keep := [6, 7], ren := [] } ⟨[(6, (.t (.int .u64 x0))), (7, (.t (.int .i64 (0:Int))))], []⟩ [] (by kernel_rfl) trivial ?_
          refine Nxt_norm ?_
          refine Ab.ret ?_
          obtain rfl := Option.some.inj h
          exact End_ret (doneO_ok (md := [false, false]) (by kernel_rfl))
def ea_shuffle_List (a : Int × (Arr 32 Int)) : List T := [(T.int .u64) a.1, (eA 1 (T.int .u8)) a.2]
def er_shuffle_List (r : ((List Int) × Int)) : List RR × List T := ([.row 22 1 (List.map (T.int .u64) r.1), .tree ((T.int .i64) r.2)], [])
noncomputable def sp_shuffle_List (n : Nat) : Spec := specP [] false ea_shuffle_List (fun a => f_shuffle_List n a.1 a.2) (fun _ r => er_shuffle_List r)
theorem ap_shuffle_List (n : Nat) {ts : List T} {a0 : Int} {a1 : (Arr 32 Int)} {r : ((List Int) × Int)} (hle : leTs ts [(T.int .u64) a0, (eA 1 (T.int .u8)) a1]) (h : f_shuffle_List n a0 a1 = some r) : (sp_shuffle_List n).fn ts = some ([.row 22 1 (List.map (T.int .u64) r.1), .tree ((T.int .i64) r.2)], []) :=
  specP_fn (a := (a0, a1)) (InjA.cons (inj_int _) (InjA.one (inj_eA (inj_int _)))) hle h
noncomputable def E_shuffle_List (n : Nat) : Env := { ty := tyT, glob := glob, fns := get [(11, sp_shuffle_pivot n), (17, sp_digest_Of n), (18, sp_num_Put n)], ntmps := 95 }
theorem eok_shuffle_List (n : Nat) : EnvOK Tryd.prog (E_shuffle_List n) := ⟨tys_ok tys_chk, prog_mixed, (fns_cons (ok_shuffle_pivot n) (fns_cons (ok_digest_Of n) (fns_cons (ok_num_Put n) fns_nil)))⟩
def K_shuffle_List (n : Nat) (pn0 : Int) (pseed0 : (Arr 32 Int)) (r : ((List Int) × Int)) : St → Prop := Done (E_shuffle_List n) Tryd.f9.results.toList [] (ea_shuffle_List (pn0, pseed0)) (er_shuffle_List r).1 (er_shuffle_List r).2
set_option maxRecDepth 100000 in
set_option maxHeartbeats 4000000 in
theorem ok_shuffle_List (n : Nat) : SpecOK Tryd.prog glob 9 (sp_shuffle_List n) := by
  refine specP_ok (fn := Tryd.f9) (eok_shuffle_List n) (by kernel_rfl) rfl (by decide +kernel) (by kernel_rfl) (fun _ => by show 2 ≤ 95; omega) (fun h => Bool.noConfusion h) ?_
  rintro ⟨pn0, pseed0⟩ r h C hL hC
  have hE := eok_shuffle_List n
  replace hL : ∀ n g, (n, g) ∈ C.lent → n ∈ ([] : List Nat) := hL
  replace h : f_shuffle_List n pn0 pseed0 = some r := h
  show Ab _ _ _ _ _ (End (K_shuffle_List n pn0 pseed0 r))
  unfold f_shuffle_List at h
  refine Ab.seq ?_
  refine Ab.regT hE hC hL [] { keep := [0, 3], ren := [(3, 3)] } ⟨[(0, (.t (.int .u64 pn0))), (3, (.ref 3 [] (0)))], [(3, (.var false 24 (.t ((eA 1 (T.int .u8)) pseed0))))]⟩ [] (by kernel_rfl) trivial ?_
  refine Nxt_norm ?_
  refine Ab.seq ?_
  refine Ab.seq ?_
  refine Ab.regT hE hC hL [] { keep := [0, 3, 18], ren := [(3, 3)] } ⟨[(0, (.t (.int .u64 pn0))), (3, (.ref 3 [] (0))), (18, (.t (.bool (decide (pn0 > (1048576:Int))))))], [(3, (.var false 24 (.t ((eA 1 (T.int .u8)) pseed0))))]⟩ [] (by kernel_rfl) trivial ?_
  refine Nxt_norm ?_
  refine Ab.cond (b := (decide (pn0 > (1048576:Int)))) (by kernel_rfl) (fun hb0 => ?_) (fun hb0 => ?_)
  · replace h := cond_t hb0 h
    refine Ab.seq ?_
    refine Ab.regT hE hC hL [] { keep := [4, 5], ren := [] } ⟨[(4, (.t .nils)), (5, (.t (.int .i64 (2:Int))))], []⟩ [] (by kernel_rfl) trivial ?_
    refine Nxt_norm ?_
    refine Ab.tidyK (s' := ⟨[(4, (.own 48000)), (5, (.t (.int .i64 (2:Int))))], [(48000, (.row false 22 1 (List.map (T.int .u64) ([] : List Int))))]⟩) (q := { fs := [⟨(.t 4), [], .own 48000 22 1⟩], keep := [4, 5], ren := [(48000, 48000)] }) hC hL (by kernel_rfl) ?_
    refine Ab.ret ?_
    refine Nxt_ret ?_
    obtain rfl := Option.some.inj h
    exact End_ret (doneO_ok (md := [true, false]) (by kernel_rfl))
  · replace h := cond_f hb0 h
    refine Ab.skip ?_
    refine Nxt_norm ?_
    refine Ab.seq ?_
    obtain ⟨hq0, h⟩ := ask_dec h
    obtain ⟨hq1, h⟩ := ask_dec h
    refine Ab.regT hE hC hL [[], [.l (List.map (T.int .u64) (List.replicate pn0.toNat (0:Int)))]] { keep := [0, 3, 6], ren := [(3, 3), (20, 20)] } ⟨[(0, (.t (.int .u64 pn0))), (3, (.ref 3 [] (0))), (6, (.own 20))], [(3, (.var false 24 (.t ((eA 1 (T.int .u8)) pseed0)))), (20, (.row false 22 1 (List.map (T.int .u64) (List.replicate pn0.toNat (0:Int)))))]⟩ [0 ≤ pn0, (pn0 = pn0 ∨ pn0 = 0), pn0 ≤ pn0, ((8 : Nat) : Int) * pn0 ≤ 140737488355328, pn0 ≤ 140737488355328, List.replicate (pn0).toNat (.int .u64 0) = List.map (T.int .u64) (List.replicate pn0.toNat (0:Int))] (by kernel_rfl) ⟨hq0, (.inl rfl), (Int.le_refl _), hq1, (by have := hq1; omega), (rep_map rfl), trivial⟩ ?_
    refine Nxt_norm ?_
    refine Ab.seq ?_
    refine Ab.seq ?_
    refine Ab.regT hE hC hL [[], [.n ((List.replicate pn0.toNat (0:Int)).length : Int)]] { keep := [0, 3, 6, 22, 23], ren := [(3, 3), (20, 20)] } ⟨[(0, (.t (.int .u64 pn0))), (3, (.ref 3 [] (0))), (6, (.own 20)), (22, (.t (.int .i64 ((List.replicate pn0.toNat (0:Int)).length : Int)))), (23, (.t (.int .i64 (0:Int))))], [(3, (.var false 24 (.t ((eA 1 (T.int .u8)) pseed0)))), (20, (.row false 22 1 (List.map (T.int .u64) (List.replicate pn0.toNat (0:Int)))))]⟩ [((List.length (List.map (T.int .u64) (List.replicate pn0.toNat (0:Int))) : Nat) : Int) = ((List.replicate pn0.toNat (0:Int)).length : Int)] (by kernel_rfl) ⟨(len_of rfl), trivial⟩ ?_
    refine Nxt_norm ?_
    obtain ⟨x0, hx0, h⟩ := bind_some h
    refine Ab.loopX0 (fun ((a0, a1) : ((List Int) × Int)) => (⟨[(0, (.t (.int .u64 pn0))), (3, (.ref 49000 [] (0))), (6, (.own 49001)), (22, (.t (.int .i64 ((List.replicate pn0.toNat (0:Int)).length : Int)))), (23, (.t (.int .i64 a1)))], [(49000, (.var false 24 (.t ((eA 1 (T.int .u8)) pseed0)))), (49001, (.row false 22 1 (List.map (T.int .u64) a0)))]⟩ : St)) (fun (a2 : (List Int)) => (⟨[(0, (.t (.int .u64 pn0))), (3, (.ref 49000 [] (0))), (6, (.own 49001))], [(49000, (.var false 24 (.t ((eA 1 (T.int .u8)) pseed0)))), (49001, (.row false 22 1 (List.map (T.int .u64) a2)))]⟩ : St)) { fs := [], keep := [0, 3, 6, 22, 23], ren := [(3, 49000), (20, 49001)] } ((List.replicate pn0.toNat (0:Int)), (0:Int)) hC hL hx0 (by kernel_rfl) ?_ ?_
    · rintro ⟨a0, a1⟩ o0 h
      replace h : f_shuffle_List_b0 n pn0 a0 a1 = some o0 := h
      unfold f_shuffle_List_b0 at h
      refine Ab.seq ?_
      refine Ab.regT hE hC hL [] { keep := [0, 3, 6, 22, 23, 24], ren := [(49000, 49000), (49001, 49001)] } ⟨[(0, (.t (.int .u64 pn0))), (3, (.ref 49000 [] (0))), (6, (.own 49001)), (22, (.t (.int .i64 ((List.replicate pn0.toNat (0:Int)).length : Int)))), (23, (.t (.int .i64 a1))), (24, (.t (.bool (decide (a1 < ((List.replicate pn0.toNat (0:Int)).length : Int))))))], [(49000, (.var false 24 (.t ((eA 1 (T.int .u8)) pseed0)))), (49001, (.row false 22 1 (List.map (T.int .u64) a0)))]⟩ [] (by kernel_rfl) trivial ?_
      refine Nxt_norm ?_
      refine Ab.seq ?_
      refine Ab.cond (b := (decide (a1 < ((List.replicate pn0.toNat (0:Int)).length : Int)))) (by kernel_rfl) (fun hb1 => ?_) (fun hb1 => ?_)
      · replace h := cond_t hb1 h
        refine Ab.skip ?_
        refine Nxt_norm ?_
        refine Ab.seq ?_
        refine Ab.block ?_
        refine Ab.seq ?_
        refine Ab.regT hE hC hL [] { keep := [0, 3, 6, 7, 22, 23], ren := [(49000, 49000), (49001, 49001)] } ⟨[(0, (.t (.int .u64 pn0))), (3, (.ref 49000 [] (0))), (6, (.own 49001)), (7, (.t (.int .i64 a1))), (22, (.t (.int .i64 ((List.replicate pn0.toNat (0:Int)).length : Int)))), (23, (.t (.int .i64 a1)))], [(49000, (.var false 24 (.t ((eA 1 (T.int .u8)) pseed0)))), (49001, (.row false 22 1 (List.map (T.int .u64) a0)))]⟩ [] (by kernel_rfl) trivial ?_
        refine Nxt_norm ?_
        obtain ⟨hq2, h⟩ := ask_dec h
        obtain ⟨hq3, h⟩ := ask_dec h
        obtain ⟨v0, hv0, h⟩ := bind_some h
        refine Ab.regT hE hC hL [[], [], [], [], [.c], [.t (.int .u64 v0), .l (List.map (T.int .u64) (List.set a0 a1.toNat (w64 a1)))]] { keep := [0, 3, 6, 22, 23], ren := [(49000, 49000), (49001, 49001)] } ⟨[(0, (.t (.int .u64 pn0))), (3, (.ref 49000 [] (0))), (6, (.own 49001)), (22, (.t (.int .i64 ((List.replicate pn0.toNat (0:Int)).length : Int)))), (23, (.t (.int .i64 a1)))], [(49000, (.var false 24 (.t ((eA 1 (T.int .u8)) pseed0)))), (49001, (.row false 22 1 (List.map (T.int .u64) (List.set a0 a1.toNat (w64 a1)))))]⟩ [0 ≤ a1, a1.toNat < List.length (List.map (T.int .u64) a0), a1.toNat * 1 + 0 = a1.toNat * 1, (List.map (T.int .u64) a0)[a1.toNat]? = some (.int .u64 v0), (List.map (T.int .u64) a0)[a1.toNat]? = some (.int .u64 v0), (List.map (T.int .u64) a0).set a1.toNat (.int .u64 (w64 a1)) = List.map (T.int .u64) (List.set a0 a1.toNat (w64 a1))] (by kernel_rfl) ⟨hq2, (by rw [List.length_map]; exact hq3), (by omega), (at_map hv0), (at_map hv0), set_map, trivial⟩ ?_
        refine Blk_norm ?_
        refine Nxt_norm ?_
        refine Ab.regT hE hC hL [] { keep := [0, 3, 6, 22, 23], ren := [(49000, 49000), (49001, 49001)] } ⟨[(0, (.t (.int .u64 pn0))), (3, (.ref 49000 [] (0))), (6, (.own 49001)), (22, (.t (.int .i64 ((List.replicate pn0.toNat (0:Int)).length : Int)))), (23, (.t (.int .i64 (wi (a1 + (1:Int))))))], [(49000, (.var false 24 (.t ((eA 1 (T.int .u8)) pseed0)))), (49001, (.row false 22 1 (List.map (T.int .u64) (List.set a0 a1.toNat (w64 a1)))))]⟩ [] (by kernel_rfl) trivial ?_
        exact LK_norm ((List.set a0 a1.toNat (w64 a1)), (wi (a1 + (1:Int)))) { fs := [], keep := [0, 3, 6, 22, 23], ren := [(49000, 49000), (49001, 49001)] } h (by kernel_rfl)
      · replace h := cond_f hb1 h
        refine Ab.exit ?_
        refine Nxt_exit ?_
        exact LK_exit a0 h (PX_mk { fs := [], keep := [0, 3, 6], ren := [(49000, 49000), (49001, 49001)] } (by kernel_rfl))
    · refine Nxt_norm ?_
      refine Ab.seq ?_
      refine Ab.seq ?_
      refine Ab.regT hE hC hL [] { keep := [0, 3, 6, 32], ren := [(49000, 49000), (49001, 49001)] } ⟨[(0, (.t (.int .u64 pn0))), (3, (.ref 49000 [] (0))), (6, (.own 49001)), (32, (.t (.int .u64 (0:Int))))], [(49000, (.var false 24 (.t ((eA 1 (T.int .u8)) pseed0)))), (49001, (.row false 22 1 (List.map (T.int .u64) x0)))]⟩ [] (by kernel_rfl) trivial ?_
      refine Nxt_norm ?_
      obtain ⟨x3, hx1, h⟩ := bind_some h
      refine Ab.loopX0 (fun ((a8, a9) : ((List Int) × Int)) => (⟨[(0, (.t (.int .u64 pn0))), (3, (.ref 49000 [] (0))), (6, (.own 49001)), (32, (.t (.int .u64 a9)))], [(49000, (.var false 24 (.t ((eA 1 (T.int .u8)) pseed0)))), (49001, (.row false 22 1 (List.map (T.int .u64) a8)))]⟩ : St)) (fun (a10 : (List Int)) => (⟨[(6, (.own 49000))], [(49000, (.row false 22 1 (List.map (T.int .u64) a10)))]⟩ : St)) { fs := [], keep := [0, 3, 6, 32], ren := [(49000, 49000), (49001, 49001)] } (x0, (0:Int)) hC hL hx1 (by kernel_rfl) ?_ ?_
      · rintro ⟨a8, a9⟩ o1 h
        replace h : f_shuffle_List_b1 n pn0 pseed0 a8 a9 = some o1 := h
        unfold f_shuffle_List_b1 at h
        refine Ab.seq ?_
        refine Ab.regT hE hC hL [] { keep := [0, 3, 6, 32, 33], ren := [(49000, 49000), (49001, 49001)] } ⟨[(0, (.t (.int .u64 pn0))), (3, (.ref 49000 [] (0))), (6, (.own 49001)), (32, (.t (.int .u64 a9))), (33, (.t (.bool (decide (a9 < (5:Int))))))], [(49000, (.var false 24 (.t ((eA 1 (T.int .u8)) pseed0)))), (49001, (.row false 22 1 (List.map (T.int .u64) a8)))]⟩ [] (by kernel_rfl) trivial ?_
        refine Nxt_norm ?_
        refine Ab.seq ?_
        refine Ab.cond (b := (decide (a9 < (5:Int)))) (by kernel_rfl) (fun hb2 => ?_) (fun hb2 => ?_)
        · replace h := cond_t hb2 h
          refine Ab.skip ?_
          refine Nxt_norm ?_
          refine Ab.seq ?_
          refine Ab.block ?_
          refine Ab.seq ?_
          refine Ab.regT hE hC hL [] { keep := [0, 3, 6, 8, 32], ren := [(49000, 49000), (49001, 49001)] } ⟨[(0, (.t (.int .u64 pn0))), (3, (.ref 49000 [] (0))), (6, (.own 49001)), (8, (.t (.int .u64 a9))), (32, (.t (.int .u64 a9)))], [(49000, (.var false 24 (.t ((eA 1 (T.int .u8)) pseed0)))), (49001, (.row false 22 1 (List.map (T.int .u64) a8)))]⟩ [] (by kernel_rfl) trivial ?_
          refine Nxt_norm ?_
          refine Ab.seq ?_
          refine Ab.seq ?_
          refine Ab.regT hE hC hL [] { keep := [0, 3, 6, 8, 32, 36], ren := [(49000, 49000), (49001, 49001)] } ⟨[(0, (.t (.int .u64 pn0))), (3, (.ref 49000 [] (0))), (6, (.own 49001)), (8, (.t (.int .u64 a9))), (32, (.t (.int .u64 a9))), (36, (.t (.bool (pn0 == (0:Int)))))], [(49000, (.var false 24 (.t ((eA 1 (T.int .u8)) pseed0)))), (49001, (.row false 22 1 (List.map (T.int .u64) a8)))]⟩ [] (by kernel_rfl) trivial ?_
          refine Nxt_norm ?_
          refine Ab.cond (b := (pn0 == (0:Int))) (by kernel_rfl) (fun hb3 => ?_) (fun hb3 => ?_)
          · replace h := cond_t hb3 h
            refine Ab.exit ?_
            refine Nxt_exit ?_
            refine Blk_other rfl ?_
            refine Nxt_exit ?_
            exact LK_exit a8 h (PX_mk { fs := [], keep := [6], ren := [(49001, 49000)] } (by kernel_rfl))
          · replace h := cond_f hb3 h
            refine Ab.skip ?_
            refine Nxt_norm ?_
            refine Ab.seq ?_
            obtain ⟨r0, hr0, h⟩ := bind_some h
            refine Ab.regT hE hC hL [[], [], [], [.r [.tree (.int .u64 r0)] []]] { keep := [0, 3, 6, 8, 9, 32], ren := [(49000, 49000), (49001, 49001)] } ⟨[(0, (.t (.int .u64 pn0))), (3, (.ref 49000 [] (0))), (6, (.own 49001)), (8, (.t (.int .u64 a9))), (9, (.t (.int .u64 r0))), (32, (.t (.int .u64 a9)))], [(49000, (.var false 24 (.t ((eA 1 (T.int .u8)) pseed0)))), (49001, (.row false 22 1 (List.map (T.int .u64) a8)))]⟩ [(sp_shuffle_pivot n).fn [((eA 1 (T.int .u8)) pseed0), (.int .u64 a9), (.int .u64 pn0)] = some ([.tree (.int .u64 r0)], [])] (by kernel_rfl) ⟨(ap_shuffle_pivot n (by exact ⟨leT.refl _, leT.refl _, leT.refl _, trivial⟩) hr0), trivial⟩ ?_
            refine Nxt_norm ?_
            refine Ab.seq ?_
            refine Ab.regT hE hC hL [] { keep := [0, 3, 6, 8, 9, 10, 32], ren := [(49000, 49000), (49001, 49001)] } ⟨[(0, (.t (.int .u64 pn0))), (3, (.ref 49000 [] (0))), (6, (.own 49001)), (8, (.t (.int .u64 a9))), (9, (.t (.int .u64 r0))), (10, (.t .nils)), (32, (.t (.int .u64 a9)))], [(49000, (.var false 24 (.t ((eA 1 (T.int .u8)) pseed0)))), (49001, (.row false 22 1 (List.map (T.int .u64) a8)))]⟩ [] (by kernel_rfl) trivial ?_
            refine Nxt_norm ?_
            refine Ab.seq ?_
            refine Ab.seq ?_
            refine Ab.regT hE hC hL [] { keep := [0, 3, 6, 8, 9, 10, 11, 32], ren := [(49000, 49000), (49001, 49001)] } ⟨[(0, (.t (.int .u64 pn0))), (3, (.ref 49000 [] (0))), (6, (.own 49001)), (8, (.t (.int .u64 a9))), (9, (.t (.int .u64 r0))), (10, (.t .nils)), (11, (.t (.int .u64 (0:Int)))), (32, (.t (.int .u64 a9)))], [(49000, (.var false 24 (.t ((eA 1 (T.int .u8)) pseed0)))), (49001, (.row false 22 1 (List.map (T.int .u64) a8)))]⟩ [] (by kernel_rfl) trivial ?_
            refine Nxt_norm ?_
            obtain ⟨x1, hx2, h⟩ := bind_some h
            refine Ab.loopX0 (fun ((a12, a13) : ((List Int) × Int)) => (⟨[(0, (.t (.int .u64 pn0))), (3, (.ref 49000 [] (0))), (6, (.own 49001)), (8, (.t (.int .u64 a9))), (9, (.t (.int .u64 r0))), (10, (.own 49002)), (11, (.t (.int .u64 a13))), (32, (.t (.int .u64 a9)))], [(49000, (.var false 24 (.t ((eA 1 (T.int .u8)) pseed0)))), (49001, (.row false 22 1 (List.map (T.int .u64) a8))), (49002, (.row false 5 1 (List.map (T.int .u8) a12)))]⟩ : St)) (fun (a14 : (List Int)) => (⟨[(0, (.t (.int .u64 pn0))), (3, (.ref 49000 [] (0))), (6, (.own 49001)), (9, (.t (.int .u64 r0))), (10, (.own 49002)), (32, (.t (.int .u64 a9)))], [(49000, (.var false 24 (.t ((eA 1 (T.int .u8)) pseed0)))), (49001, (.row false 22 1 (List.map (T.int .u64) a8))), (49002, (.row false 5 1 (List.map (T.int .u8) a14)))]⟩ : St)) { fs := [⟨(.t 10), [], .own 48000 5 1⟩], keep := [0, 3, 6, 8, 9, 10, 11, 32], ren := [(49000, 49000), (49001, 49001), (48000, 49002)] } (([] : List Int), (0:Int)) hC hL hx2 (by kernel_rfl) ?_ ?_
            · rintro ⟨a12, a13⟩ o2 h
              replace h : f_shuffle_List_b2 n a9 pn0 pseed0 a12 a13 = some o2 := h
              unfold f_shuffle_List_b2 at h
              refine Ab.seq ?_
              refine Ab.seq ?_
              refine Ab.regT hE hC hL [] { keep := [0, 3, 6, 8, 9, 10, 11, 32, 44], ren := [(49000, 49000), (49001, 49001), (49002, 49002)] } ⟨[(0, (.t (.int .u64 pn0))), (3, (.ref 49000 [] (0))), (6, (.own 49001)), (8, (.t (.int .u64 a9))), (9, (.t (.int .u64 r0))), (10, (.own 49002)), (11, (.t (.int .u64 a13))), (32, (.t (.int .u64 a9))), (44, (.t (.bool (decide ((w64 (a13 * (256:Int))) < pn0)))))], [(49000, (.var false 24 (.t ((eA 1 (T.int .u8)) pseed0)))), (49001, (.row false 22 1 (List.map (T.int .u64) a8))), (49002, (.row false 5 1 (List.map (T.int .u8) a12)))]⟩ [] (by kernel_rfl) trivial ?_
              refine Nxt_norm ?_
              refine Ab.cond (b := (decide ((w64 (a13 * (256:Int))) < pn0))) (by kernel_rfl) (fun hb4 => ?_) (fun hb4 => ?_)
              · replace h := cond_t hb4 h
                refine Ab.skip ?_
                refine Nxt_norm ?_
                refine Ab.seq ?_
                refine Ab.block ?_
                refine Ab.seq ?_
                obtain ⟨hq4, h⟩ := ask_dec h
                obtain ⟨hq5, h⟩ := ask_dec h
                obtain ⟨r1, hr1, h⟩ := bind_some h
                obtain ⟨hq6, h⟩ := ask_dec h
                obtain ⟨r2, hr2, h⟩ := bind_some h
                refine Ab.regT hE hC hL [[], [], [.l (List.map (T.int .u8) (([] : List Int) ++ pseed0.l))], [], [], [], [.l (List.map (T.int .u8) ((([] : List Int) ++ pseed0.l) ++ ([(w8 a9)] : List Int)))], [], [.r [.row 5 1 (List.map (T.int .u8) r1)] []], [.l (List.map (T.int .u8) (((([] : List Int) ++ pseed0.l) ++ ([(w8 a9)] : List Int)) ++ r1))], [.r [.tree ((eA 1 (T.int .u8)) r2)] []]] { keep := [0, 3, 6, 8, 9, 10, 11, 12, 32], ren := [(12, 12), (49000, 49000), (49001, 49001), (49002, 49002)] } ⟨[(0, (.t (.int .u64 pn0))), (3, (.ref 49000 [] (0))), (6, (.own 49001)), (8, (.t (.int .u64 a9))), (9, (.t (.int .u64 r0))), (10, (.own 49002)), (11, (.t (.int .u64 a13))), (12, (.ref 12 [] (0))), (32, (.t (.int .u64 a9)))], [(12, (.var false 24 (.t ((eA 1 (T.int .u8)) r2)))), (49000, (.var false 24 (.t ((eA 1 (T.int .u8)) pseed0)))), (49001, (.row false 22 1 (List.map (T.int .u64) a8))), (49002, (.row false 5 1 (List.map (T.int .u8) a12)))]⟩ [(List.length (List.map (T.int .u8) ([] : List Int)) + List.length (List.take 32 (List.drop 0 (List.map (T.int .u8) pseed0.l)))) * 1 ≤ maxBytes, List.length (List.map (T.int .u8) ([] : List Int)) + List.length (List.take 32 (List.drop 0 (List.map (T.int .u8) pseed0.l))) ≤ maxBytes, (List.map (T.int .u8) ([] : List Int)) ++ (List.take 32 (List.drop 0 (List.map (T.int .u8) pseed0.l))) = List.map (T.int .u8) (([] : List Int) ++ pseed0.l), 0 + 32 ≤ List.length (List.map (T.int .u8) pseed0.l), 0 = 0 + 0 * 1, (List.length (List.map (T.int .u8) (([] : List Int) ++ pseed0.l)) + List.length (List.map (T.int .u8) ([(w8 a9)] : List Int))) * 1 ≤ maxBytes, List.length (List.map (T.int .u8) (([] : List Int) ++ pseed0.l)) + List.length (List.map (T.int .u8) ([(w8 a9)] : List Int)) ≤ maxBytes, (List.map (T.int .u8) (([] : List Int) ++ pseed0.l)) ++ (List.map (T.int .u8) ([(w8 a9)] : List Int)) = List.map (T.int .u8) ((([] : List Int) ++ pseed0.l) ++ ([(w8 a9)] : List Int)), (sp_num_Put n).fn [(.int .u64 a13), (.int .i64 (4:Int))] = some ([.row 5 1 (List.map (T.int .u8) r1)], []), (List.length (List.map (T.int .u8) ((([] : List Int) ++ pseed0.l) ++ ([(w8 a9)] : List Int))) + List.length (List.map (T.int .u8) r1)) * 1 ≤ maxBytes, List.length (List.map (T.int .u8) ((([] : List Int) ++ pseed0.l) ++ ([(w8 a9)] : List Int))) + List.length (List.map (T.int .u8) r1) ≤ maxBytes, (List.map (T.int .u8) ((([] : List Int) ++ pseed0.l) ++ ([(w8 a9)] : List Int))) ++ (List.map (T.int .u8) r1) = List.map (T.int .u8) (((([] : List Int) ++ pseed0.l) ++ ([(w8 a9)] : List Int)) ++ r1), (sp_digest_Of n).fn [(.slc 1 (List.map (T.int .u8) (((([] : List Int) ++ pseed0.l) ++ ([(w8 a9)] : List Int)) ++ r1)))] = some ([.tree ((eA 1 (T.int .u8)) r2)], [])] (by kernel_rfl) ⟨(app_b rfl (win_all pseed0) hq4), (app_c rfl (win_all pseed0) (by decide) hq4), (app_of rfl (win_all pseed0)), (by simp only [List.length_map, List.length_take, List.length_drop, List.length_set, List.length_append, Arr.h]; omega), (by omega), (app_b rfl rfl hq5), (app_c rfl rfl (by decide) hq5), (app_of rfl rfl), (ap_num_Put n (by exact ⟨leT.refl _, leT.refl _, trivial⟩) hr1), (app_b rfl rfl hq6), (app_c rfl rfl (by decide) hq6), (app_of rfl rfl), (ap_digest_Of n (by exact ⟨leT.refl _, trivial⟩) hr2), trivial⟩ ?_
                refine Nxt_norm ?_
                obtain ⟨hq7, h⟩ := ask_dec h
                refine Ab.regT hE hC hL [[], [], [.l (List.map (T.int .u8) (a12 ++ r2.l))]] { keep := [0, 3, 6, 8, 9, 10, 11, 32], ren := [(60, 60), (49000, 49000), (49001, 49001)] } ⟨[(0, (.t (.int .u64 pn0))), (3, (.ref 49000 [] (0))), (6, (.own 49001)), (8, (.t (.int .u64 a9))), (9, (.t (.int .u64 r0))), (10, (.own 60)), (11, (.t (.int .u64 a13))), (32, (.t (.int .u64 a9)))], [(60, (.row false 5 1 (List.map (T.int .u8) (a12 ++ r2.l)))), (49000, (.var false 24 (.t ((eA 1 (T.int .u8)) pseed0)))), (49001, (.row false 22 1 (List.map (T.int .u64) a8)))]⟩ [(List.length (List.map (T.int .u8) a12) + List.length (List.take 32 (List.drop 0 (List.map (T.int .u8) r2.l)))) * 1 ≤ maxBytes, List.length (List.map (T.int .u8) a12) + List.length (List.take 32 (List.drop 0 (List.map (T.int .u8) r2.l))) ≤ maxBytes, (List.map (T.int .u8) a12) ++ (List.take 32 (List.drop 0 (List.map (T.int .u8) r2.l))) = List.map (T.int .u8) (a12 ++ r2.l), 0 + 32 ≤ List.length (List.map (T.int .u8) r2.l), 0 = 0 + 0 * 1] (by kernel_rfl) ⟨(app_b rfl (win_all r2) hq7), (app_c rfl (win_all r2) (by decide) hq7), (app_of rfl (win_all r2)), (by simp only [List.length_map, List.length_take, List.length_drop, List.length_set, List.length_append, Arr.h]; omega), (by omega), trivial⟩ ?_
                refine Blk_norm ?_
                refine Nxt_norm ?_
                refine Ab.regT hE hC hL [] { keep := [0, 3, 6, 8, 9, 10, 11, 32], ren := [(60, 60), (49000, 49000), (49001, 49001)] } ⟨[(0, (.t (.int .u64 pn0))), (3, (.ref 49000 [] (0))), (6, (.own 49001)), (8, (.t (.int .u64 a9))), (9, (.t (.int .u64 r0))), (10, (.own 60)), (11, (.t (.int .u64 (w64 (a13 + (1:Int)))))), (32, (.t (.int .u64 a9)))], [(60, (.row false 5 1 (List.map (T.int .u8) (a12 ++ r2.l)))), (49000, (.var false 24 (.t ((eA 1 (T.int .u8)) pseed0)))), (49001, (.row false 22 1 (List.map (T.int .u64) a8)))]⟩ [] (by kernel_rfl) trivial ?_
                exact LK_norm ((a12 ++ r2.l), (w64 (a13 + (1:Int)))) { fs := [], keep := [0, 3, 6, 8, 9, 10, 11, 32], ren := [(49000, 49000), (49001, 49001), (60, 49002)] } h (by kernel_rfl)
              · replace h := cond_f hb4 h
                refine Ab.exit ?_
                refine Nxt_exit ?_
                exact LK_exit a12 h (PX_mk { fs := [], keep := [0, 3, 6, 9, 10, 32], ren := [(49000, 49000), (49001, 49001), (49002, 49002)] } (by kernel_rfl))
            · refine Nxt_norm ?_
              refine Ab.seq ?_
              refine Ab.regT hE hC hL [[], [.n (a8.length : Int)]] { keep := [0, 3, 6, 9, 10, 32, 61, 62, 63], ren := [(49000, 49000), (49001, 49001), (49002, 49002)] } ⟨[(0, (.t (.int .u64 pn0))), (3, (.ref 49000 [] (0))), (6, (.own 49001)), (9, (.t (.int .u64 r0))), (10, (.own 49002)), (32, (.t (.int .u64 a9))), (61, (.own 49001)), (62, (.t (.int .i64 (a8.length : Int)))), (63, (.t (.int .i64 (0:Int))))], [(49000, (.var false 24 (.t ((eA 1 (T.int .u8)) pseed0)))), (49001, (.row false 22 1 (List.map (T.int .u64) a8))), (49002, (.row false 5 1 (List.map (T.int .u8) x1)))]⟩ [((List.length (List.map (T.int .u64) a8) : Nat) : Int) = (a8.length : Int)] (by kernel_rfl) ⟨(len_of rfl), trivial⟩ ?_
              refine Nxt_norm ?_
              obtain ⟨x2, hx3, h⟩ := bind_some h
              refine Ab.loopX0 (fun ((a20, a21) : ((List Int) × Int)) => (⟨[(0, (.t (.int .u64 pn0))), (3, (.ref 49000 [] (0))), (6, (.own 49001)), (9, (.t (.int .u64 r0))), (10, (.own 49002)), (32, (.t (.int .u64 a9))), (61, (.own 49001)), (62, (.t (.int .i64 (a8.length : Int)))), (63, (.t (.int .i64 a21)))], [(49000, (.var false 24 (.t ((eA 1 (T.int .u8)) pseed0)))), (49001, (.row false 22 1 (List.map (T.int .u64) a20))), (49002, (.row false 5 1 (List.map (T.int .u8) x1)))]⟩ : St)) (fun (a22 : (List Int)) => (⟨[(0, (.t (.int .u64 pn0))), (3, (.ref 49000 [] (0))), (6, (.own 49001)), (32, (.t (.int .u64 a9)))], [(49000, (.var false 24 (.t ((eA 1 (T.int .u8)) pseed0)))), (49001, (.row false 22 1 (List.map (T.int .u64) a22)))]⟩ : St)) { fs := [], keep := [0, 3, 6, 9, 10, 32, 61, 62, 63], ren := [(49000, 49000), (49001, 49001), (49002, 49002)] } (a8, (0:Int)) hC hL hx3 (by kernel_rfl) ?_ ?_
              · rintro ⟨a20, a21⟩ o3 h
                replace h : f_shuffle_List_b3 n a8 pn0 r0 x1 a20 a21 = some o3 := h
                unfold f_shuffle_List_b3 at h
                refine Ab.seq ?_
                refine Ab.regT hE hC hL [] { keep := [0, 3, 6, 9, 10, 32, 61, 62, 63, 64], ren := [(49000, 49000), (49001, 49001), (49002, 49002)] } ⟨[(0, (.t (.int .u64 pn0))), (3, (.ref 49000 [] (0))), (6, (.own 49001)), (9, (.t (.int .u64 r0))), (10, (.own 49002)), (32, (.t (.int .u64 a9))), (61, (.own 49001)), (62, (.t (.int .i64 (a8.length : Int)))), (63, (.t (.int .i64 a21))), (64, (.t (.bool (decide (a21 < (a8.length : Int))))))], [(49000, (.var false 24 (.t ((eA 1 (T.int .u8)) pseed0)))), (49001, (.row false 22 1 (List.map (T.int .u64) a20))), (49002, (.row false 5 1 (List.map (T.int .u8) x1)))]⟩ [] (by kernel_rfl) trivial ?_
                refine Nxt_norm ?_
                refine Ab.seq ?_
                refine Ab.cond (b := (decide (a21 < (a8.length : Int)))) (by kernel_rfl) (fun hb5 => ?_) (fun hb5 => ?_)
                · replace h := cond_t hb5 h
                  refine Ab.skip ?_
                  refine Nxt_norm ?_
                  refine Ab.seq ?_
                  refine Ab.block ?_
                  refine Ab.seq ?_
                  obtain ⟨hq8, h⟩ := ask_dec h
                  obtain ⟨hq9, h⟩ := ask_dec h
                  obtain ⟨v1, hv1, h⟩ := bind_some h
                  refine Ab.regT hE hC hL [[], [.c], [.t (.int .u64 v1)]] { keep := [0, 3, 6, 9, 10, 13, 14, 32, 61, 62, 63], ren := [(49000, 49000), (49001, 49001), (49002, 49002)] } ⟨[(0, (.t (.int .u64 pn0))), (3, (.ref 49000 [] (0))), (6, (.own 49001)), (9, (.t (.int .u64 r0))), (10, (.own 49002)), (13, (.t (.int .i64 a21))), (14, (.t (.int .u64 v1))), (32, (.t (.int .u64 a9))), (61, (.own 49001)), (62, (.t (.int .i64 (a8.length : Int)))), (63, (.t (.int .i64 a21)))], [(49000, (.var false 24 (.t ((eA 1 (T.int .u8)) pseed0)))), (49001, (.row false 22 1 (List.map (T.int .u64) a20))), (49002, (.row false 5 1 (List.map (T.int .u8) x1)))]⟩ [0 ≤ a21, a21.toNat < List.length (List.map (T.int .u64) a20), a21.toNat * 1 + 0 = a21.toNat * 1, (List.map (T.int .u64) a20)[a21.toNat]? = some (.int .u64 v1)] (by kernel_rfl) ⟨hq8, (by rw [List.length_map]; exact hq9), (by omega), (at_map hv1), trivial⟩ ?_
                  refine Nxt_norm ?_
                  refine Ab.seq ?_
                  refine Ab.regT hE hC hL [[], [], [], [], [], [], [.c]] { keep := [0, 3, 6, 9, 10, 13, 14, 15, 32, 61, 62, 63], ren := [(49000, 49000), (49001, 49001), (49002, 49002)] } ⟨[(0, (.t (.int .u64 pn0))), (3, (.ref 49000 [] (0))), (6, (.own 49001)), (9, (.t (.int .u64 r0))), (10, (.own 49002)), (13, (.t (.int .i64 a21))), (14, (.t (.int .u64 v1))), (15, (.t (.int .u64 ((w64 ((w64 (r0 + pn0)) - v1)).tmod pn0)))), (32, (.t (.int .u64 a9))), (61, (.own 49001)), (62, (.t (.int .i64 (a8.length : Int)))), (63, (.t (.int .i64 a21)))], [(49000, (.var false 24 (.t ((eA 1 (T.int .u8)) pseed0)))), (49001, (.row false 22 1 (List.map (T.int .u64) a20))), (49002, (.row false 5 1 (List.map (T.int .u8) x1)))]⟩ [pn0 ≠ 0] (by kernel_rfl) ⟨(by simpa using hb3), trivial⟩ ?_
                  refine Nxt_norm ?_
                  refine Ab.seq ?_
                  refine Ab.regT hE hC hL [] { keep := [0, 3, 6, 9, 10, 13, 15, 16, 32, 61, 62, 63], ren := [(49000, 49000), (49001, 49001), (49002, 49002)] } ⟨[(0, (.t (.int .u64 pn0))), (3, (.ref 49000 [] (0))), (6, (.own 49001)), (9, (.t (.int .u64 r0))), (10, (.own 49002)), (13, (.t (.int .i64 a21))), (15, (.t (.int .u64 ((w64 ((w64 (r0 + pn0)) - v1)).tmod pn0)))), (16, (.t (.int .u64 (gmax v1 ((w64 ((w64 (r0 + pn0)) - v1)).tmod pn0))))), (32, (.t (.int .u64 a9))), (61, (.own 49001)), (62, (.t (.int .i64 (a8.length : Int)))), (63, (.t (.int .i64 a21)))], [(49000, (.var false 24 (.t ((eA 1 (T.int .u8)) pseed0)))), (49001, (.row false 22 1 (List.map (T.int .u64) a20))), (49002, (.row false 5 1 (List.map (T.int .u8) x1)))]⟩ [] (by kernel_rfl) trivial ?_
                  refine Nxt_norm ?_
                  refine Ab.seq ?_
                  obtain ⟨hq10, h⟩ := ask_dec h
                  obtain ⟨hq11, h⟩ := ask_dec h
                  obtain ⟨v2, hv2, h⟩ := bind_some h
                  obtain ⟨hq12, h⟩ := ask_dec h
                  refine Ab.regT hE hC hL [[], [], [], [.c], [.t (.int .u8 v2)], [], [], [.c]] { keep := [0, 3, 6, 9, 10, 13, 15, 32, 61, 62, 63, 87], ren := [(49000, 49000), (49001, 49001), (49002, 49002)] } ⟨[(0, (.t (.int .u64 pn0))), (3, (.ref 49000 [] (0))), (6, (.own 49001)), (9, (.t (.int .u64 r0))), (10, (.own 49002)), (13, (.t (.int .i64 a21))), (15, (.t (.int .u64 ((w64 ((w64 (r0 + pn0)) - v1)).tmod pn0)))), (32, (.t (.int .u64 a9))), (61, (.own 49001)), (62, (.t (.int .i64 (a8.length : Int)))), (63, (.t (.int .i64 a21))), (87, (.t (.bool ((bits .and .u8 (shr .u8 v2 ((gmax v1 ((w64 ((w64 (r0 + pn0)) - v1)).tmod pn0)).tmod (8:Int))) (1:Int)) != (0:Int)))))], [(49000, (.var false 24 (.t ((eA 1 (T.int .u8)) pseed0)))), (49001, (.row false 22 1 (List.map (T.int .u64) a20))), (49002, (.row false 5 1 (List.map (T.int .u8) x1)))]⟩ [0 ≤ (w64 ((gmax v1 ((w64 ((w64 (r0 + pn0)) - v1)).tmod pn0)).tdiv (8:Int))), (w64 ((gmax v1 ((w64 ((w64 (r0 + pn0)) - v1)).tmod pn0)).tdiv (8:Int))).toNat < List.length (List.map (T.int .u8) x1), (w64 ((gmax v1 ((w64 ((w64 (r0 + pn0)) - v1)).tmod pn0)).tdiv (8:Int))).toNat * 1 + 0 = (w64 ((gmax v1 ((w64 ((w64 (r0 + pn0)) - v1)).tmod pn0)).tdiv (8:Int))).toNat * 1, (List.map (T.int .u8) x1)[(w64 ((gmax v1 ((w64 ((w64 (r0 + pn0)) - v1)).tmod pn0)).tdiv (8:Int))).toNat]? = some (.int .u8 v2), ¬ ((gmax v1 ((w64 ((w64 (r0 + pn0)) - v1)).tmod pn0)).tmod (8:Int)) < 0] (by kernel_rfl) ⟨hq10, (by rw [List.length_map]; exact hq11), (by omega), (at_map hv2), (Int.not_lt.2 hq12), trivial⟩ ?_
                  refine Nxt_norm ?_
                  refine Ab.cond (b := ((bits .and .u8 (shr .u8 v2 ((gmax v1 ((w64 ((w64 (r0 + pn0)) - v1)).tmod pn0)).tmod (8:Int))) (1:Int)) != (0:Int))) (by kernel_rfl) (fun hb6 => ?_) (fun hb6 => ?_)
                  · replace h := cond_t hb6 h
                    refine Ab.regT hE hC hL [[], [], [], [.c], [.t (.int .u64 v1), .l (List.map (T.int .u64) (List.set a20 a21.toNat ((w64 ((w64 (r0 + pn0)) - v1)).tmod pn0)))]] { keep := [0, 3, 6, 9, 10, 32, 61, 62, 63], ren := [(49000, 49000), (49001, 49001), (49002, 49002)] } ⟨[(0, (.t (.int .u64 pn0))), (3, (.ref 49000 [] (0))), (6, (.own 49001)), (9, (.t (.int .u64 r0))), (10, (.own 49002)), (32, (.t (.int .u64 a9))), (61, (.own 49001)), (62, (.t (.int .i64 (a8.length : Int)))), (63, (.t (.int .i64 a21)))], [(49000, (.var false 24 (.t ((eA 1 (T.int .u8)) pseed0)))), (49001, (.row false 22 1 (List.map (T.int .u64) (List.set a20 a21.toNat ((w64 ((w64 (r0 + pn0)) - v1)).tmod pn0))))), (49002, (.row false 5 1 (List.map (T.int .u8) x1)))]⟩ [0 ≤ a21, a21.toNat < List.length (List.map (T.int .u64) a20), a21.toNat * 1 + 0 = a21.toNat * 1, (List.map (T.int .u64) a20)[a21.toNat]? = some (.int .u64 v1), (List.map (T.int .u64) a20)[a21.toNat]? = some (.int .u64 v1), (List.map (T.int .u64) a20).set a21.toNat (.int .u64 ((w64 ((w64 (r0 + pn0)) - v1)).tmod pn0)) = List.map (T.int .u64) (List.set a20 a21.toNat ((w64 ((w64 (r0 + pn0)) - v1)).tmod pn0))] (by kernel_rfl) ⟨hq8, (by rw [List.length_map]; exact hq9), (by omega), (at_map hv1), (at_map hv1), set_map, trivial⟩ ?_
                    refine Blk_norm ?_
                    refine Nxt_norm ?_
                    refine Ab.regT hE hC hL [] { keep := [0, 3, 6, 9, 10, 32, 61, 62, 63], ren := [(49000, 49000), (49001, 49001), (49002, 49002)] } ⟨[(0, (.t (.int .u64 pn0))), (3, (.ref 49000 [] (0))), (6, (.own 49001)), (9, (.t (.int .u64 r0))), (10, (.own 49002)), (32, (.t (.int .u64 a9))), (61, (.own 49001)), (62, (.t (.int .i64 (a8.length : Int)))), (63, (.t (.int .i64 (wi (a21 + (1:Int))))))], [(49000, (.var false 24 (.t ((eA 1 (T.int .u8)) pseed0)))), (49001, (.row false 22 1 (List.map (T.int .u64) (List.set a20 a21.toNat ((w64 ((w64 (r0 + pn0)) - v1)).tmod pn0))))), (49002, (.row false 5 1 (List.map (T.int .u8) x1)))]⟩ [] (by kernel_rfl) trivial ?_
                    exact LK_norm ((List.set a20 a21.toNat ((w64 ((w64 (r0 + pn0)) - v1)).tmod pn0)), (wi (a21 + (1:Int)))) { fs := [], keep := [0, 3, 6, 9, 10, 32, 61, 62, 63], ren := [(49000, 49000), (49001, 49001), (49002, 49002)] } h (by kernel_rfl)
                  · replace h := cond_f hb6 h
                    refine Ab.skip ?_
                    refine Blk_norm ?_
                    refine Nxt_norm ?_
                    refine Ab.regT hE hC hL [] { keep := [0, 3, 6, 9, 10, 32, 61, 62, 63], ren := [(49000, 49000), (49001, 49001), (49002, 49002)] } ⟨[(0, (.t (.int .u64 pn0))), (3, (.ref 49000 [] (0))), (6, (.own 49001)), (9, (.t (.int .u64 r0))), (10, (.own 49002)), (32, (.t (.int .u64 a9))), (61, (.own 49001)), (62, (.t (.int .i64 (a8.length : Int)))), (63, (.t (.int .i64 (wi (a21 + (1:Int))))))], [(49000, (.var false 24 (.t ((eA 1 (T.int .u8)) pseed0)))), (49001, (.row false 22 1 (List.map (T.int .u64) a20))), (49002, (.row false 5 1 (List.map (T.int .u8) x1)))]⟩ [] (by kernel_rfl) trivial ?_
                    exact LK_norm (a20, (wi (a21 + (1:Int)))) { fs := [], keep := [0, 3, 6, 9, 10, 32, 61, 62, 63], ren := [(49000, 49000), (49001, 49001), (49002, 49002)] } h (by kernel_rfl)
                · replace h := cond_f hb5 h
                  refine Ab.exit ?_
                  refine Nxt_exit ?_
                  exact LK_exit a20 h (PX_mk { fs := [], keep := [0, 3, 6, 32], ren := [(49000, 49000), (49001, 49001)] } (by kernel_rfl))
              · refine Blk_norm ?_
                refine Nxt_norm ?_
                refine Ab.regT hE hC hL [] { keep := [0, 3, 6, 32], ren := [(49000, 49000), (49001, 49001)] } ⟨[(0, (.t (.int .u64 pn0))), (3, (.ref 49000 [] (0))), (6, (.own 49001)), (32, (.t (.int .u64 (w64 (a9 + (1:Int))))))], [(49000, (.var false 24 (.t ((eA 1 (T.int .u8)) pseed0)))), (49001, (.row false 22 1 (List.map (T.int .u64) x2)))]⟩ [] (by kernel_rfl) trivial ?_
                exact LK_norm (x2, (w64 (a9 + (1:Int)))) { fs := [], keep := [0, 3, 6, 32], ren := [(49000, 49000), (49001, 49001)] } h (by kernel_rfl)
        · replace h := cond_f hb2 h
          refine Ab.exit ?_
          refine Nxt_exit ?_
          exact LK_exit a8 h (PX_mk { fs := [], keep := [6], ren := [(49001, 49000)] } (by kernel_rfl))
      · refine Nxt_norm ?_
        refine Ab.seq ?_
        refine Ab.regT hE hC hL [] { keep := [4, 5], ren := [(49000, 49000)] } ⟨[(4, (.own 49000)), (5, (.t (.int .i64 (0:Int))))], [(49000, (.row false 22 1 (List.map (T.int .u64) x3)))]⟩ [] (by kernel_rfl) trivial ?_
        refine Nxt_norm ?_
        refine Ab.ret ?_
        obtain rfl := Option.some.inj h
        exact End_ret (doneO_ok (md := [true, false]) (by kernel_rfl))
def ea_shuffle_Proposer (a : GState × (List Int) × (Arr 32 Int)) : List T := [e_GState a.1, (eS 1 (T.int .u64)) a.2.1, (eA 1 (T.int .u8)) a.2.2]
def er_shuffle_Proposer (r : (Int × Int)) : List RR × List T := ([.tree ((T.int .u64) r.1), .tree ((T.int .i64) r.2)], [])
noncomputable def sp_shuffle_Proposer (n : Nat) : Spec := specP [] true ea_shuffle_Proposer (fun a => f_shuffle_Proposer n a.1 a.2.1 a.2.2) (fun _ r => er_shuffle_Proposer r)
theorem ap_shuffle_Proposer (n : Nat) {ts : List T} {a0 : GState} {a1 : (List Int)} {a2 : (Arr 32 Int)} {r : (Int × Int)} (hle : leTs ts [e_GState a0, (eS 1 (T.int .u64)) a1, (eA 1 (T.int .u8)) a2]) (h : f_shuffle_Proposer n a0 a1 a2 = some r) : (sp_shuffle_Proposer n).fn ts = some ([.tree ((T.int .u64) r.1), .tree ((T.int .i64) r.2)], []) :=
  specP_fn (a := (a0, a1, a2)) (InjA.cons i_GState (InjA.cons (inj_eS (inj_int _)) (InjA.one (inj_eA (inj_int _))))) hle h
noncomputable def E_shuffle_Proposer (n : Nat) : Env := { ty := tyT, glob := glob, fns := get [(7, sp_shuffle_Index n), (17, sp_digest_Of n), (18, sp_num_Put n)], ntmps := 73 }
theorem eok_shuffle_Proposer (n : Nat) : EnvOK Tryd.prog (E_shuffle_Proposer n) := ⟨tys_ok tys_chk, prog_mixed, (fns_cons (ok_shuffle_Index n) (fns_cons (ok_digest_Of n) (fns_cons (ok_num_Put n) fns_nil)))⟩
def K_shuffle_Proposer (n : Nat) (ps0 : GState) (psome0 : (List Int)) (pseed0 : (Arr 32 Int)) (r : (Int × Int)) : St → Prop := Done (E_shuffle_Proposer n) Tryd.f10.results.toList [] (ea_shuffle_Proposer (ps0, psome0, pseed0)) (er_shuffle_Proposer r).1 (er_shuffle_Proposer r).2
set_option maxRecDepth 100000 in
set_option maxHeartbeats 4000000 in
theorem ok_shuffle_Proposer (n : Nat) : SpecOK Tryd.prog glob 10 (sp_shuffle_Proposer n) := by
  refine specP_ok (fn := Tryd.f10) (eok_shuffle_Proposer n) (by kernel_rfl) rfl (by decide +kernel) (by kernel_rfl) (fun _ => by show 3 ≤ 73; omega) (fun _ _ r => ⟨(rrf_tree ((fun _ => rfl) _) (rrf_tree ((fun _ => rfl) _) rrf_nil)), flats_nil⟩) ?_
  rintro ⟨ps0, psome0, pseed0⟩ r h C hL hC
  have hE := eok_shuffle_Proposer n
  replace hL : ∀ n g, (n, g) ∈ C.lent → n ∈ ([] : List Nat) := hL
  replace h : f_shuffle_Proposer n ps0 psome0 pseed0 = some r := h
  show Ab _ _ _ _ _ (End (K_shuffle_Proposer n ps0 psome0 pseed0 r))
  unfold f_shuffle_Proposer at h
  refine Ab.seq ?_
  refine Ab.regT hE hC hL [] { keep := [1, 3, 5], ren := [(3, 3), (5, 5)] } ⟨[(1, (.t ((eS 1 (T.int .u64)) psome0))), (3, (.ref 3 [] (0))), (5, (.ref 5 [] (0)))], [(3, (.var false 52 (.t (e_GState ps0)))), (5, (.var false 24 (.t ((eA 1 (T.int .u8)) pseed0))))]⟩ [] (by kernel_rfl) trivial ?_
  refine Nxt_norm ?_
  refine Ab.seq ?_
  refine Ab.regT hE hC hL [[], [.n (psome0.length : Int)]] { keep := [1, 3, 5, 8], ren := [(3, 3), (5, 5)] } ⟨[(1, (.t ((eS 1 (T.int .u64)) psome0))), (3, (.ref 3 [] (0))), (5, (.ref 5 [] (0))), (8, (.t (.int .u64 (w64 (psome0.length : Int)))))], [(3, (.var false 52 (.t (e_GState ps0)))), (5, (.var false 24 (.t ((eA 1 (T.int .u8)) pseed0))))]⟩ [((List.length (List.map (T.int .u64) psome0) : Nat) : Int) = (psome0.length : Int)] (by kernel_rfl) ⟨(len_of rfl), trivial⟩ ?_
  refine Nxt_norm ?_
  refine Ab.seq ?_
  refine Ab.seq ?_
  refine Ab.regT hE hC hL [] { keep := [1, 3, 5, 8, 16], ren := [(3, 3), (5, 5)] } ⟨[(1, (.t ((eS 1 (T.int .u64)) psome0))), (3, (.ref 3 [] (0))), (5, (.ref 5 [] (0))), (8, (.t (.int .u64 (w64 (psome0.length : Int))))), (16, (.t (.int .u64 (0:Int))))], [(3, (.var false 52 (.t (e_GState ps0)))), (5, (.var false 24 (.t ((eA 1 (T.int .u8)) pseed0))))]⟩ [] (by kernel_rfl) trivial ?_
  refine Nxt_norm ?_
  obtain ⟨x0, hx0, h⟩ := bind_some h
  refine Ab.loopR0 (fun (a0 : Int) => (⟨[(1, (.t ((eS 1 (T.int .u64)) psome0))), (3, (.ref 49000 [] (0))), (5, (.ref 49001 [] (0))), (8, (.t (.int .u64 (w64 (psome0.length : Int))))), (16, (.t (.int .u64 a0)))], [(49000, (.var false 52 (.t (e_GState ps0)))), (49001, (.var false 24 (.t ((eA 1 (T.int .u8)) pseed0))))]⟩ : St)) (fun (_ : Unit) => (⟨[], []⟩ : St)) (fun r9 => K_shuffle_Proposer n ps0 psome0 pseed0 r9) { fs := [], keep := [1, 3, 5, 8, 16], ren := [(3, 49000), (5, 49001)] } (0:Int) hC hL hx0 (by kernel_rfl) ?_ (fun r9 s9 e hs => ?_) (fun x1 e => ?_)
  · rintro a0 o0 h
    replace h : f_shuffle_Proposer_b0 n ps0 pseed0 psome0 a0 = some o0 := h
    unfold f_shuffle_Proposer_b0 at h
    refine Ab.seq ?_
    refine Ab.regT hE hC hL [] { keep := [1, 3, 5, 8, 16, 17], ren := [(49000, 49000), (49001, 49001)] } ⟨[(1, (.t ((eS 1 (T.int .u64)) psome0))), (3, (.ref 49000 [] (0))), (5, (.ref 49001 [] (0))), (8, (.t (.int .u64 (w64 (psome0.length : Int))))), (16, (.t (.int .u64 a0))), (17, (.t (.bool (decide (a0 < (4096:Int))))))], [(49000, (.var false 52 (.t (e_GState ps0)))), (49001, (.var false 24 (.t ((eA 1 (T.int .u8)) pseed0))))]⟩ [] (by kernel_rfl) trivial ?_
    refine Nxt_norm ?_
    refine Ab.seq ?_
    refine Ab.cond (b := (decide (a0 < (4096:Int)))) (by kernel_rfl) (fun hb0 => ?_) (fun hb0 => ?_)
    · replace h := cond_t hb0 h
      refine Ab.skip ?_
      refine Nxt_norm ?_
      refine Ab.seq ?_
      refine Ab.block ?_
      refine Ab.seq ?_
      refine Ab.regT hE hC hL [] { keep := [1, 3, 5, 8, 9, 16], ren := [(49000, 49000), (49001, 49001)] } ⟨[(1, (.t ((eS 1 (T.int .u64)) psome0))), (3, (.ref 49000 [] (0))), (5, (.ref 49001 [] (0))), (8, (.t (.int .u64 (w64 (psome0.length : Int))))), (9, (.t (.int .u64 a0))), (16, (.t (.int .u64 a0)))], [(49000, (.var false 52 (.t (e_GState ps0)))), (49001, (.var false 24 (.t ((eA 1 (T.int .u8)) pseed0))))]⟩ [] (by kernel_rfl) trivial ?_
      refine Nxt_norm ?_
      refine Ab.seq ?_
      refine Ab.seq ?_
      refine Ab.regT hE hC hL [] { keep := [1, 3, 5, 8, 9, 16, 20], ren := [(49000, 49000), (49001, 49001)] } ⟨[(1, (.t ((eS 1 (T.int .u64)) psome0))), (3, (.ref 49000 [] (0))), (5, (.ref 49001 [] (0))), (8, (.t (.int .u64 (w64 (psome0.length : Int))))), (9, (.t (.int .u64 a0))), (16, (.t (.int .u64 a0))), (20, (.t (.bool ((w64 (psome0.length : Int)) == (0:Int)))))], [(49000, (.var false 52 (.t (e_GState ps0)))), (49001, (.var false 24 (.t ((eA 1 (T.int .u8)) pseed0))))]⟩ [] (by kernel_rfl) trivial ?_
      refine Nxt_norm ?_
      refine Ab.cond (b := ((w64 (psome0.length : Int)) == (0:Int))) (by kernel_rfl) (fun hb1 => ?_) (fun hb1 => ?_)
      · replace h := cond_t hb1 h
        refine Ab.exit ?_
        refine Nxt_exit ?_
        refine Blk_other rfl ?_
        refine Nxt_exit ?_
        exact LK_exit (.inr ()) h (PR_mk { fs := [], keep := [], ren := [] } (by kernel_rfl))
      · replace h := cond_f hb1 h
        refine Ab.skip ?_
        refine Nxt_norm ?_
        refine Ab.seq ?_
        obtain ⟨r0, hr0, h⟩ := bind_some h
        refine Ab.regA hE hC hL [[], [], [.c], [], [], [.r [.tree (.int .u64 r0.1), .tree (.int .i64 r0.2)] []]] { keep := [1, 3, 5, 8, 9, 10, 11, 16], ren := [(49000, 49000), (49001, 49001)] } ⟨[(1, (.t ((eS 1 (T.int .u64)) psome0))), (3, (.ref 49000 [] (0))), (5, (.ref 49001 [] (0))), (8, (.t (.int .u64 (w64 (psome0.length : Int))))), (9, (.t (.int .u64 a0))), (10, (.t (.int .u64 r0.1))), (11, (.t (.int .i64 r0.2))), (16, (.t (.int .u64 a0)))], [(49000, (.var false 52 (.t (e_GState ps0)))), (49001, (.var false 24 (.t ((eA 1 (T.int .u8)) pseed0))))]⟩ [(w64 (psome0.length : Int)) ≠ 0, (sp_shuffle_Index n).fn [(.int .u64 (a0.tmod (w64 (psome0.length : Int)))), (.int .u64 (w64 (psome0.length : Int))), ((eA 1 (T.int .u8)) pseed0)] = some ([.tree (.int .u64 r0.1), .tree (.int .i64 r0.2)], [])] (by kernel_rfl) (by kernel_rfl) ⟨(by simpa using hb1), (ap_shuffle_Index n (by exact ⟨leT.refl _, leT.refl _, leT.refl _, trivial⟩) hr0), trivial⟩ ?_
        refine Nxt_norm ?_
        refine Ab.seq ?_
        refine Ab.seq ?_
        rcases Bool.eq_false_or_eq_true (r0.2 != (0:Int)) with hb2 | hb2
        · replace h := cond_t hb2 h
          refine Ab.regA hE hC hL [[], [], [.b true]] { keep := [1, 3, 5, 8, 9, 10, 16, 42], ren := [(49000, 49000), (49001, 49001)] } ⟨[(1, (.t ((eS 1 (T.int .u64)) psome0))), (3, (.ref 49000 [] (0))), (5, (.ref 49001 [] (0))), (8, (.t (.int .u64 (w64 (psome0.length : Int))))), (9, (.t (.int .u64 a0))), (10, (.t (.int .u64 r0.1))), (16, (.t (.int .u64 a0))), (42, (.t (.bool true)))], [(49000, (.var false 52 (.t (e_GState ps0)))), (49001, (.var false 24 (.t ((eA 1 (T.int .u8)) pseed0))))]⟩ [(r0.2 != (0:Int)) = true] (by kernel_rfl) (by kernel_rfl) ⟨hb2, trivial⟩ ?_
          refine Nxt_norm ?_
          refine Ab.cond (b := true) (by kernel_rfl) (fun _ => ?_) (fun hb => Bool.noConfusion hb)
          refine Ab.seq ?_
          refine Ab.regT hE hC hL [] { keep := [6, 7], ren := [] } ⟨[(6, (.t (.int .u64 (0:Int)))), (7, (.t (.int .i64 (2:Int))))], []⟩ [] (by kernel_rfl) trivial ?_
          refine Nxt_norm ?_
          refine Ab.ret ?_
          refine Nxt_ret ?_
          refine Blk_ret ?_
          refine Nxt_ret ?_
          exact LK_ret (.inl ((0:Int), (2:Int))) h (PR_ret (doneO_ok (md := [false, false]) (by kernel_rfl)))
        · replace h := cond_f hb2 h
          obtain ⟨hq0, h⟩ := ask_dec h
          obtain ⟨v0, hv0, h⟩ := bind_some h
          refine Ab.regA hE hC hL [[], [], [.b false], [], [], [.t (.int .u64 v0)], [], [], [], [.n (ps0.Validators.length : Int)]] { keep := [1, 3, 5, 8, 9, 10, 16, 42], ren := [(49000, 49000), (49001, 49001)] } ⟨[(1, (.t ((eS 1 (T.int .u64)) psome0))), (3, (.ref 49000 [] (0))), (5, (.ref 49001 [] (0))), (8, (.t (.int .u64 (w64 (psome0.length : Int))))), (9, (.t (.int .u64 a0))), (10, (.t (.int .u64 r0.1))), (16, (.t (.int .u64 a0))), (42, (.t (.bool (decide (v0 ≥ (w64 (ps0.Validators.length : Int)))))))], [(49000, (.var false 52 (.t (e_GState ps0)))), (49001, (.var false 24 (.t ((eA 1 (T.int .u8)) pseed0))))]⟩ [(r0.2 != (0:Int)) = false, 0 ≤ r0.1, (List.map (T.int .u64) psome0)[r0.1.toNat]? = some (.int .u64 v0), ((List.length (List.map e_GValidator ps0.Validators) : Nat) : Int) = (ps0.Validators.length : Int)] (by kernel_rfl) (by kernel_rfl) ⟨hb2, hq0, (at_map hv0), (len_of rfl), trivial⟩ ?_
          refine Nxt_norm ?_
          refine Ab.cond (b := (decide (v0 ≥ (w64 (ps0.Validators.length : Int))))) (by kernel_rfl) (fun hb3 => ?_) (fun hb3 => ?_)
          · replace h := cond_t hb3 h
            refine Ab.seq ?_
            refine Ab.regT hE hC hL [] { keep := [6, 7], ren := [] } ⟨[(6, (.t (.int .u64 (0:Int)))), (7, (.t (.int .i64 (2:Int))))], []⟩ [] (by kernel_rfl) trivial ?_
            refine Nxt_norm ?_
            refine Ab.ret ?_
            refine Nxt_ret ?_
            refine Blk_ret ?_
            refine Nxt_ret ?_
            exact LK_ret (.inl ((0:Int), (2:Int))) h (PR_ret (doneO_ok (md := [false, false]) (by kernel_rfl)))
          · replace h := cond_f hb3 h
            refine Ab.skip ?_
            refine Nxt_norm ?_
            refine Ab.seq ?_
            obtain ⟨hq1, h⟩ := ask_dec h
            obtain ⟨r1, hr1, h⟩ := bind_some h
            obtain ⟨hq2, h⟩ := ask_dec h
            obtain ⟨r2, hr2, h⟩ := bind_some h
            refine Ab.regT hE hC hL [[], [], [.l (List.map (T.int .u8) (([] : List Int) ++ pseed0.l))], [], [], [.r [.row 5 1 (List.map (T.int .u8) r1)] []], [.l (List.map (T.int .u8) ((([] : List Int) ++ pseed0.l) ++ r1))], [.r [.tree ((eA 1 (T.int .u8)) r2)] []]] { keep := [1, 3, 5, 8, 9, 10, 12, 16], ren := [(12, 12), (49000, 49000), (49001, 49001)] } ⟨[(1, (.t ((eS 1 (T.int .u64)) psome0))), (3, (.ref 49000 [] (0))), (5, (.ref 49001 [] (0))), (8, (.t (.int .u64 (w64 (psome0.length : Int))))), (9, (.t (.int .u64 a0))), (10, (.t (.int .u64 r0.1))), (12, (.ref 12 [] (0))), (16, (.t (.int .u64 a0)))], [(12, (.var false 24 (.t ((eA 1 (T.int .u8)) r2)))), (49000, (.var false 52 (.t (e_GState ps0)))), (49001, (.var false 24 (.t ((eA 1 (T.int .u8)) pseed0))))]⟩ [(List.length (List.map (T.int .u8) ([] : List Int)) + List.length (List.take 32 (List.drop 0 (List.map (T.int .u8) pseed0.l)))) * 1 ≤ maxBytes, List.length (List.map (T.int .u8) ([] : List Int)) + List.length (List.take 32 (List.drop 0 (List.map (T.int .u8) pseed0.l))) ≤ maxBytes, (List.map (T.int .u8) ([] : List Int)) ++ (List.take 32 (List.drop 0 (List.map (T.int .u8) pseed0.l))) = List.map (T.int .u8) (([] : List Int) ++ pseed0.l), 0 + 32 ≤ List.length (List.map (T.int .u8) pseed0.l), 0 = 0 + 0 * 1, (sp_num_Put n).fn [(.int .u64 (w64 (a0.tdiv (32:Int)))), (.int .i64 (8:Int))] = some ([.row 5 1 (List.map (T.int .u8) r1)], []), (List.length (List.map (T.int .u8) (([] : List Int) ++ pseed0.l)) + List.length (List.map (T.int .u8) r1)) * 1 ≤ maxBytes, List.length (List.map (T.int .u8) (([] : List Int) ++ pseed0.l)) + List.length (List.map (T.int .u8) r1) ≤ maxBytes, (List.map (T.int .u8) (([] : List Int) ++ pseed0.l)) ++ (List.map (T.int .u8) r1) = List.map (T.int .u8) ((([] : List Int) ++ pseed0.l) ++ r1), (sp_digest_Of n).fn [(.slc 1 (List.map (T.int .u8) ((([] : List Int) ++ pseed0.l) ++ r1)))] = some ([.tree ((eA 1 (T.int .u8)) r2)], [])] (by kernel_rfl) ⟨(app_b rfl (win_all pseed0) hq1), (app_c rfl (win_all pseed0) (by decide) hq1), (app_of rfl (win_all pseed0)), (by simp only [List.length_map, List.length_take, List.length_drop, List.length_set, List.length_append, Arr.h]; omega), (by omega), (ap_num_Put n (by exact ⟨leT.refl _, leT.refl _, trivial⟩) hr1), (app_b rfl rfl hq2), (app_c rfl rfl (by decide) hq2), (app_of rfl rfl), (ap_digest_Of n (by exact ⟨leT.refl _, trivial⟩) hr2), trivial⟩ ?_
            refine Nxt_norm ?_
            refine Ab.seq ?_
            obtain ⟨hq3, h⟩ := ask_dec h
            obtain ⟨v1, hv1, h⟩ := bind_some h
            obtain ⟨hq4, h⟩ := ask_dec h
            obtain ⟨hq5, h⟩ := ask_dec h
            obtain ⟨v2, hv2, h⟩ := bind_some h
            refine Ab.regA hE hC hL [[], [], [], [], [.t (.int .u64 v0)], [], [.t (e_GValidator v1)], [], [], [], [], [], [.c], [.t (.int .u8 v2)]] { keep := [1, 3, 5, 8, 10, 16, 67], ren := [(49000, 49000), (49001, 49001)] } ⟨[(1, (.t ((eS 1 (T.int .u64)) psome0))), (3, (.ref 49000 [] (0))), (5, (.ref 49001 [] (0))), (8, (.t (.int .u64 (w64 (psome0.length : Int))))), (10, (.t (.int .u64 r0.1))), (16, (.t (.int .u64 a0))), (67, (.t (.bool (decide ((w64 (v1.Effective * (255:Int))) ≥ (w64 ((32000:Int) * (w64 v2))))))))], [(49000, (.var false 52 (.t (e_GState ps0)))), (49001, (.var false 24 (.t ((eA 1 (T.int .u8)) pseed0))))]⟩ [0 ≤ r0.1, (List.map (T.int .u64) psome0)[r0.1.toNat]? = some (.int .u64 v0), 0 ≤ v0, (List.map e_GValidator ps0.Validators)[v0.toNat]? = some (e_GValidator v1), 0 ≤ (a0.tmod (32:Int)), (a0.tmod (32:Int)) < ((32 : Nat) : Int), (a0.tmod (32:Int)).toNat * 1 + 0 = 0 + (a0.tmod (32:Int)).toNat * 1, (List.map (T.int .u8) r2.l)[(a0.tmod (32:Int)).toNat]? = some (.int .u8 v2)] (by kernel_rfl) (by kernel_rfl) ⟨hq0, (at_map hv0), hq3, (at_map hv1), hq4, hq5, (by omega), (at_map hv2), trivial⟩ ?_
            refine Nxt_norm ?_
            refine Ab.cond (b := (decide ((w64 (v1.Effective * (255:Int))) ≥ (w64 ((32000:Int) * (w64 v2)))))) (by kernel_rfl) (fun hb4 => ?_) (fun hb4 => ?_)
            · replace h := cond_t hb4 h
              refine Ab.seq ?_
              refine Ab.regT hE hC hL [[], [], [.t (.int .u64 v0)]] { keep := [6, 7], ren := [] } ⟨[(6, (.t (.int .u64 v0))), (7, (.t (.int .i64 (0:Int))))], []⟩ [0 ≤ r0.1, (List.map (T.int .u64) psome0)[r0.1.toNat]? = some (.int .u64 v0)] (by kernel_rfl) ⟨hq0, (at_map hv0), trivial⟩ ?_
              refine Nxt_norm ?_
              refine Ab.ret ?_
              refine Blk_ret ?_
              refine Nxt_ret ?_
              exact LK_ret (.inl (v0, (0:Int))) h (PR_ret (doneO_ok (md := [false, false]) (by kernel_rfl)))
            · replace h := cond_f hb4 h
              refine Ab.skip ?_
              refine Blk_norm ?_
              refine Nxt_norm ?_
              refine Ab.regT hE hC hL [] { keep := [1, 3, 5, 8, 16], ren := [(49000, 49000), (49001, 49001)] } ⟨[(1, (.t ((eS 1 (T.int .u64)) psome0))), (3, (.ref 49000 [] (0))), (5, (.ref 49001 [] (0))), (8, (.t (.int .u64 (w64 (psome0.length : Int))))), (16, (.t (.int .u64 (w64 (a0 + (1:Int))))))], [(49000, (.var false 52 (.t (e_GState ps0)))), (49001, (.var false 24 (.t ((eA 1 (T.int .u8)) pseed0))))]⟩ [] (by kernel_rfl) trivial ?_
              exact LK_norm (w64 (a0 + (1:Int))) { fs := [], keep := [1, 3, 5, 8, 16], ren := [(49000, 49000), (49001, 49001)] } h (by kernel_rfl)
    · replace h := cond_f hb0 h
      refine Ab.exit ?_
      refine Nxt_exit ?_
      exact LK_exit (.inr ()) h (PR_mk { fs := [], keep := [], ren := [] } (by kernel_rfl))
  · subst e
    replace h := elim_l h
    refine Nxt_ret ?_
    obtain rfl := Option.some.inj h
    exact End_ret hs
  · subst e
    replace h := elim_r h
    refine Nxt_norm ?_
    refine Ab.seq ?_
    refine Ab.regT hE hC hL [] { keep := [6, 7], ren := [] } ⟨[(6, (.t (.int .u64 (0:Int)))), (7, (.t (.int .i64 (6:Int))))], []⟩ [] (by kernel_rfl) trivial ?_
    refine Nxt_norm ?_
    refine Ab.ret ?_
    obtain rfl := Option.some.inj h
    exact End_ret (doneO_ok (md := [false, false]) (by kernel_rfl))
def ea_law08_Awake (a : Unit) : List T := []
def er_law08_Awake (r : Bool) : List RR × List T := ([.tree (T.bool r)], [])
noncomputable def sp_law08_Awake (n : Nat) : Spec := specP [] true ea_law08_Awake (fun a => f_law08_Awake n) (fun _ r => er_law08_Awake r)
theorem ap_law08_Awake (n : Nat) {ts : List T} {r : Bool} (hle : leTs ts []) (h : f_law08_Awake n = some r) : (sp_law08_Awake n).fn ts = some ([.tree (T.bool r)], []) :=
  specP_fn (a := ()) injA0 hle h
noncomputable def E_law08_Awake (n : Nat) : Env := { ty := tyT, glob := glob, fns := get [(7, sp_shuffle_Index n), (9, sp_shuffle_List n), (10, sp_shuffle_Proposer n)], ntmps := 53 }
theorem eok_law08_Awake (n : Nat) : EnvOK Tryd.prog (E_law08_Awake n) := ⟨tys_ok tys_chk, prog_mixed, (fns_cons (ok_shuffle_Index n) (fns_cons (ok_shuffle_List n) (fns_cons (ok_shuffle_Proposer n) fns_nil)))⟩
def K_law08_Awake (n : Nat) (r : Bool) : St → Prop := Done (E_law08_Awake n) Tryd.f6.results.toList [] (ea_law08_Awake ()) (er_law08_Awake r).1 (er_law08_Awake r).2
set_option maxRecDepth 100000 in
set_option maxHeartbeats 4000000 in
theorem ok_law08_Awake (n : Nat) : SpecOK Tryd.prog glob 6 (sp_law08_Awake n) := by
  refine specP_ok (fn := Tryd.f6) (eok_law08_Awake n) (by kernel_rfl) rfl (by decide +kernel) (by kernel_rfl) (fun _ => by show 0 ≤ 53; omega) (fun _ _ r => ⟨(rrf_tree ((fun _ => rfl) _) rrf_nil), flats_nil⟩) ?_
  rintro ⟨⟩ r h C hL hC
  have hE := eok_law08_Awake n
  replace hL : ∀ n g, (n, g) ∈ C.lent → n ∈ ([] : List Nat) := hL
  replace h : f_law08_Awake n = some r := h
  show Ab _ _ _ _ _ (End (K_law08_Awake n r))
  unfold f_law08_Awake at h
  refine Ab.seq ?_
  refine Ab.regT hE hC hL [] { keep := [], ren := [] } ⟨[], []⟩ [] (by kernel_rfl) trivial ?_
  refine Nxt_norm ?_
  refine Ab.seq ?_
  obtain ⟨r0, hr0, h⟩ := bind_some h
  refine Ab.regT hE hC hL [[], [.r [.tree (.int .u64 r0.1), .tree (.int .i64 r0.2)] []]] { keep := [1, 2], ren := [] } ⟨[(1, (.t (.int .u64 r0.1))), (2, (.t (.int .i64 r0.2)))], []⟩ [(sp_shuffle_Index n).fn [(.int .u64 (0:Int)), (.int .u64 (1:Int)), ((eA 1 (T.int .u8)) (⟨[(7:Int), (0:Int), (0:Int), (0:Int), (0:Int), (0:Int), (0:Int), (0:Int), (0:Int), (0:Int), (0:Int), (0:Int), (0:Int), (0:Int), (0:Int), (0:Int), (0:Int), (0:Int), (0:Int), (0:Int), (0:Int), (0:Int), (0:Int), (0:Int), (0:Int), (0:Int), (0:Int), (0:Int), (0:Int), (0:Int), (0:Int), (0:Int)], rfl⟩ : (Arr 32 Int)))] = some ([.tree (.int .u64 r0.1), .tree (.int .i64 r0.2)], [])] (by kernel_rfl) ⟨(ap_shuffle_Index n (by exact ⟨leT.refl _, leT.refl _, leT.refl _, trivial⟩) hr0), trivial⟩ ?_
  refine Nxt_norm ?_
  refine Ab.seq ?_
  obtain ⟨r1, hr1, h⟩ := bind_some h
  refine Ab.regT hE hC hL [[], [.r [.tree (.int .u64 r1.1), .tree (.int .i64 r1.2)] []]] { keep := [1, 2, 4], ren := [] } ⟨[(1, (.t (.int .u64 r0.1))), (2, (.t (.int .i64 r0.2))), (4, (.t (.int .i64 r1.2)))], []⟩ [(sp_shuffle_Index n).fn [(.int .u64 (3:Int)), (.int .u64 (3:Int)), ((eA 1 (T.int .u8)) (Arr.rep 32 (0:Int)))] = some ([.tree (.int .u64 r1.1), .tree (.int .i64 r1.2)], [])] (by kernel_rfl) ⟨(ap_shuffle_Index n (by exact ⟨leT.refl _, leT.refl _, leT.refl _, trivial⟩) hr1), trivial⟩ ?_
  refine Nxt_norm ?_
  refine Ab.seq ?_
  obtain ⟨r2, hr2, h⟩ := bind_some h
  refine Ab.regT hE hC hL [[], [], [.r [.tree (.int .u64 r2.1), .tree (.int .i64 r2.2)] []]] { keep := [1, 2, 4, 6], ren := [] } ⟨[(1, (.t (.int .u64 r0.1))), (2, (.t (.int .i64 r0.2))), (4, (.t (.int .i64 r1.2))), (6, (.t (.int .i64 r2.2)))], []⟩ [(sp_shuffle_Proposer n).fn [(.tup [(.int .u64 (0:Int)), (e_GHeader (GHeader.mk (0:Int) (0:Int) (Arr.rep 32 (0:Int)) (Arr.rep 32 (0:Int)) (Arr.rep 32 (0:Int)))), ((eA 32 (eA 1 (T.int .u8))) (Arr.rep 16 (Arr.rep 32 (0:Int)))), ((eA 32 (eA 1 (T.int .u8))) (Arr.rep 16 (Arr.rep 32 (0:Int)))), (e_GEth (GEth.mk (Arr.rep 32 (0:Int)) (0:Int))), .nils, (.int .u64 (0:Int)), .nils, .nils, ((eA 32 (eA 1 (T.int .u8))) (Arr.rep 8 (Arr.rep 32 (0:Int)))), ((eA 1 (T.int .u64)) (Arr.rep 8 (0:Int))), .nils, .nils, ((eA 1 T.bool) (Arr.rep 4 false)), (e_GCheckpoint (GCheckpoint.mk (0:Int) (Arr.rep 32 (0:Int)))), (e_GCheckpoint (GCheckpoint.mk (0:Int) (Arr.rep 32 (0:Int)))), (e_GCheckpoint (GCheckpoint.mk (0:Int) (Arr.rep 32 (0:Int))))]), .nils, ((eA 1 (T.int .u8)) (Arr.rep 32 (0:Int)))] = some ([.tree (.int .u64 r2.1), .tree (.int .i64 r2.2)], [])] (by kernel_rfl) ⟨(ap_shuffle_Proposer n (by exact ⟨⟨leT.refl _, leT.refl _, leT.refl _, leT.refl _, leT.refl _, le_nil, leT.refl _, le_nil, le_nil, leT.refl _, leT.refl _, le_nil, le_nil, leT.refl _, leT.refl _, leT.refl _, leT.refl _, trivial⟩, le_nil, leT.refl _, trivial⟩) hr2), trivial⟩ ?_
  refine Nxt_norm ?_
  refine Ab.seq ?_
  obtain ⟨r3, hr3, h⟩ := bind_some h
  refine Ab.regT hE hC hL [[], [.r [.row 22 1 (List.map (T.int .u64) r3.1), .tree (.int .i64 r3.2)] []]] { keep := [1, 2, 4, 6, 7, 8], ren := [(27, 27)] } ⟨[(1, (.t (.int .u64 r0.1))), (2, (.t (.int .i64 r0.2))), (4, (.t (.int .i64 r1.2))), (6, (.t (.int .i64 r2.2))), (7, (.own 27)), (8, (.t (.int .i64 r3.2)))], [(27, (.row false 22 1 (List.map (T.int .u64) r3.1)))]⟩ [(sp_shuffle_List n).fn [(.int .u64 (3:Int)), ((eA 1 (T.int .u8)) (⟨[(9:Int), (0:Int), (0:Int), (0:Int), (0:Int), (0:Int), (0:Int), (0:Int), (0:Int), (0:Int), (0:Int), (0:Int), (0:Int), (0:Int), (0:Int), (0:Int), (0:Int), (0:Int), (0:Int), (0:Int), (0:Int), (0:Int), (0:Int), (0:Int), (0:Int), (0:Int), (0:Int), (0:Int), (0:Int), (0:Int), (0:Int), (0:Int)], rfl⟩ : (Arr 32 Int)))] = some ([.row 22 1 (List.map (T.int .u64) r3.1), .tree (.int .i64 r3.2)], [])] (by kernel_rfl) ⟨(ap_shuffle_List n (by exact ⟨leT.refl _, leT.refl _, trivial⟩) hr3), trivial⟩ ?_
  refine Nxt_norm ?_
  refine Ab.seq ?_
  rcases Bool.eq_false_or_eq_true (r0.1 == (0:Int)) with hb0 | hb0
  · replace h := cond_t hb0 h
    rcases Bool.eq_false_or_eq_true (r0.2 == (0:Int)) with hb1 | hb1
    · replace h := cond_t hb1 h
      rcases Bool.eq_false_or_eq_true (r1.2 == (2:Int)) with hb2 | hb2
      · replace h := cond_t hb2 h
        rcases Bool.eq_false_or_eq_true (r2.2 == (6:Int)) with hb3 | hb3
        · replace h := cond_t hb3 h
          rcases Bool.eq_false_or_eq_true ((r3.1.length : Int) == (3:Int)) with hb4 | hb4
          · replace h := cond_t hb4 h
            refine Ab.regT hE hC hL [[], [], [.b true], [], [], [], [.b true], [], [], [], [.b true], [], [], [], [.b true], [], [.n (r3.1.length : Int)], [], [], [.b true]] { keep := [0], ren := [] } ⟨[(0, (.t (.bool (r3.2 == (0:Int)))))], []⟩ [(r0.1 == (0:Int)) = true, (r0.2 == (0:Int)) = true, (r1.2 == (2:Int)) = true, (r2.2 == (6:Int)) = true, ((List.length (List.map (T.int .u64) r3.1) : Nat) : Int) = (r3.1.length : Int), ((r3.1.length : Int) == (3:Int)) = true] (by kernel_rfl) ⟨hb0, hb1, hb2, hb3, (len_of rfl), hb4, trivial⟩ ?_
            refine Nxt_norm ?_
            refine Ab.ret ?_
            obtain rfl := Option.some.inj h
            exact End_ret (doneO_ok (md := [false]) (by kernel_rfl))
          · replace h := cond_f hb4 h
            refine Ab.regT hE hC hL [[], [], [.b true], [], [], [], [.b true], [], [], [], [.b true], [], [], [], [.b true], [], [.n (r3.1.length : Int)], [], [], [.b false]] { keep := [0], ren := [] } ⟨[(0, (.t (.bool false)))], []⟩ [(r0.1 == (0:Int)) = true, (r0.2 == (0:Int)) = true, (r1.2 == (2:Int)) = true, (r2.2 == (6:Int)) = true, ((List.length (List.map (T.int .u64) r3.1) : Nat) : Int) = (r3.1.length : Int), ((r3.1.length : Int) == (3:Int)) = false] (by kernel_rfl) ⟨hb0, hb1, hb2, hb3, (len_of rfl), hb4, trivial⟩ ?_
            refine Nxt_norm ?_
            refine Ab.ret ?_
            obtain rfl := Option.some.inj h
            exact End_ret (doneO_ok (md := [false]) (by kernel_rfl))
        · replace h := cond_f hb3 h
          refine Ab.regT hE hC hL [[], [], [.b true], [], [], [], [.b true], [], [], [], [.b true], [], [], [], [.b false]] { keep := [0], ren := [] } ⟨[(0, (.t (.bool false)))], []⟩ [(r0.1 == (0:Int)) = true, (r0.2 == (0:Int)) = true, (r1.2 == (2:Int)) = true, (r2.2 == (6:Int)) = false] (by kernel_rfl) ⟨hb0, hb1, hb2, hb3, trivial⟩ ?_
          refine Nxt_norm ?_
          refine Ab.ret ?_
          obtain rfl := Option.some.inj h
          exact End_ret (doneO_ok (md := [false]) (by kernel_rfl))
      · replace h := cond_f hb2 h
        refine Ab.regT hE hC hL [[], [], [.b true], [], [], [], [.b true], [], [], [], [.b false]] { keep := [0], ren := [] } ⟨[(0, (.t (.bool false)))], []⟩ [(r0.1 == (0:Int)) = true, (r0.2 == (0:Int)) = true, (r1.2 == (2:Int)) = false] (by kernel_rfl) ⟨hb0, hb1, hb2, trivial⟩ ?_
        refine Nxt_norm ?_
        refine Ab.ret ?_
        obtain rfl := Option.some.inj h
        exact End_ret (doneO_ok (md := [false]) (by kernel_rfl))
    · replace h := cond_f hb1 h
      refine Ab.regT hE hC hL [[], [], [.b true], [], [], [], [.b false]] { keep := [0], ren := [] } ⟨[(0, (.t (.bool false)))], []⟩ [(r0.1 == (0:Int)) = true, (r0.2 == (0:Int)) = false] (by kernel_rfl) ⟨hb0, hb1, trivial⟩ ?_
      refine Nxt_norm ?_
      refine Ab.ret ?_
      obtain rfl := Option.some.inj h
      exact End_ret (doneO_ok (md := [false]) (by kernel_rfl))
  · replace h := cond_f hb0 h
    refine Ab.regT hE hC hL [[], [], [.b false]] { keep := [0], ren := [] } ⟨[(0, (.t (.bool false)))], []⟩ [(r0.1 == (0:Int)) = false] (by kernel_rfl) ⟨hb0, trivial⟩ ?_
    refine Nxt_norm ?_
    refine Ab.ret ?_
    obtain rfl := Option.some.inj h
    exact End_ret (doneO_ok (md := [false]) (by kernel_rfl))

end Go.Mg
