/- The model's code computes these functions. -/
import Derived.Test.YtighjjielkdafaaDoorAW3
namespace Go.Mg
open Go Go.Proofs
def ea_merkle_Tree (a : (List (Arr 32 Int)) × Int) : List T := [(eS 32 (eA 1 (T.int .u8))) a.1, (T.int .i64) a.2]
def er_merkle_Tree (r : ((Arr 32 Int) × Int)) : List RR × List T := ([.tree ((eA 1 (T.int .u8)) r.1), .tree ((T.int .i64) r.2)], [])
noncomputable def sp_merkle_Tree (n : Nat) : Spec := specP [] true ea_merkle_Tree (fun a => f_merkle_Tree n a.1 a.2) (fun _ r => er_merkle_Tree r)
theorem ap_merkle_Tree (n : Nat) {ts : List T} {a0 : (List (Arr 32 Int))} {a1 : Int} {r : ((Arr 32 Int) × Int)} (hle : leTs ts [(eS 32 (eA 1 (T.int .u8))) a0, (T.int .i64) a1]) (h : f_merkle_Tree n a0 a1 = some r) : (sp_merkle_Tree n).fn ts = some ([.tree ((eA 1 (T.int .u8)) r.1), .tree ((T.int .i64) r.2)], []) :=
  specP_fn (a := (a0, a1)) (InjA.cons (inj_eS (inj_eA (inj_int _))) (InjA.one (inj_int _))) hle h
noncomputable def E_merkle_Tree (n : Nat) : Env := { ty := tyT, glob := glob, fns := get [(16, sp_digest_Pair n), (36, sp_merkle_Depth n)], ntmps := 65 }
theorem eok_merkle_Tree (n : Nat) : EnvOK Tryd.prog (E_merkle_Tree n) := ⟨tys_ok tys_chk, prog_mixed, (fns_cons (ok_digest_Pair n) (fns_cons (ok_merkle_Depth n) fns_nil))⟩
def K_merkle_Tree (n : Nat) (pleaves0 : (List (Arr 32 Int))) (plimit0 : Int) (r : ((Arr 32 Int) × Int)) : St → Prop := Done (E_merkle_Tree n) Tryd.f29.results.toList [] (ea_merkle_Tree (pleaves0, plimit0)) (er_merkle_Tree r).1 (er_merkle_Tree r).2
set_option maxRecDepth 100000 in
set_option maxHeartbeats 4000000 in
theorem ok_merkle_Tree (n : Nat) : SpecOK Tryd.prog glob 29 (sp_merkle_Tree n) := by
  refine specP_ok (fn := Tryd.f29) (eok_merkle_Tree n) (by kernel_rfl) rfl (by decide +kernel) (by kernel_rfl) (fun _ => by show 2 ≤ 65; omega) (fun _ _ r => ⟨(rrf_tree ((flat_eA (fun _ => rfl)) _) (rrf_tree ((fun _ => rfl) _) rrf_nil)), flats_nil⟩) ?_
  rintro ⟨pleaves0, plimit0⟩ r h C hL hC
  have hE := eok_merkle_Tree n
  replace hL : ∀ n g, (n, g) ∈ C.lent → n ∈ ([] : List Nat) := hL
  replace h : f_merkle_Tree n pleaves0 plimit0 = some r := h
  show Ab _ _ _ _ _ (End (K_merkle_Tree n pleaves0 plimit0 r))
  unfold f_merkle_Tree at h
  refine Ab.seq ?_
  refine Ab.regT hE hC hL [] { keep := [0, 1, 4], ren := [(4, 4)] } ⟨[(0, (.t ((eS 32 (eA 1 (T.int .u8))) pleaves0))), (1, (.t (.int .i64 plimit0))), (4, (.ref 4 [] (0)))], [(4, (.var false 25 (.t ((eA 1 (T.int .u8)) (Arr.rep 32 (0:Int))))))]⟩ [] (by kernel_rfl) trivial ?_
  refine Nxt_norm ?_
  refine Ab.seq ?_
  refine Ab.seq ?_
  rcases Bool.eq_false_or_eq_true (decide (plimit0 < (0:Int))) with hb0 | hb0
  · replace h := cond_t hb0 h
    refine Ab.regT hE hC hL [[], [], [.b true]] { keep := [0, 1, 4, 17], ren := [(4, 4)] } ⟨[(0, (.t ((eS 32 (eA 1 (T.int .u8))) pleaves0))), (1, (.t (.int .i64 plimit0))), (4, (.ref 4 [] (0))), (17, (.t (.bool true)))], [(4, (.var false 25 (.t ((eA 1 (T.int .u8)) (Arr.rep 32 (0:Int))))))]⟩ [(decide (plimit0 < (0:Int))) = true] (by kernel_rfl) ⟨hb0, trivial⟩ ?_
    refine Nxt_norm ?_
    refine Ab.cond (b := true) (by kernel_rfl) (fun _ => ?_) (fun hb => Bool.noConfusion hb)
    refine Ab.seq ?_
    refine Ab.regT hE hC hL [] { keep := [4, 5], ren := [(4, 4)] } ⟨[(4, (.ref 4 [] (0))), (5, (.t (.int .i64 (4:Int))))], [(4, (.var false 25 (.t ((eA 1 (T.int .u8)) (Arr.rep 32 (0:Int))))))]⟩ [] (by kernel_rfl) trivial ?_
    refine Nxt_norm ?_
    refine Ab.ret ?_
    refine Nxt_ret ?_
    obtain rfl := Option.some.inj h
    exact End_ret (doneO_ok (md := [false, false]) (by kernel_rfl))
  · replace h := cond_f hb0 h
    refine Ab.regT hE hC hL [[], [], [.b false], [], [.n (pleaves0.length : Int)]] { keep := [0, 1, 4, 17], ren := [(4, 4)] } ⟨[(0, (.t ((eS 32 (eA 1 (T.int .u8))) pleaves0))), (1, (.t (.int .i64 plimit0))), (4, (.ref 4 [] (0))), (17, (.t (.bool (decide ((pleaves0.length : Int) > plimit0)))))], [(4, (.var false 25 (.t ((eA 1 (T.int .u8)) (Arr.rep 32 (0:Int))))))]⟩ [(decide (plimit0 < (0:Int))) = false, ((List.length (List.map (eA 1 (T.int .u8)) pleaves0) : Nat) : Int) = (pleaves0.length : Int)] (by kernel_rfl) ⟨hb0, (len_of rfl), trivial⟩ ?_
    refine Nxt_norm ?_
    refine Ab.cond (b := (decide ((pleaves0.length : Int) > plimit0))) (by kernel_rfl) (fun hb1 => ?_) (fun hb1 => ?_)
    · replace h := cond_t hb1 h
      refine Ab.seq ?_
      refine Ab.regT hE hC hL [] { keep := [4, 5], ren := [(4, 4)] } ⟨[(4, (.ref 4 [] (0))), (5, (.t (.int .i64 (4:Int))))], [(4, (.var false 25 (.t ((eA 1 (T.int .u8)) (Arr.rep 32 (0:Int))))))]⟩ [] (by kernel_rfl) trivial ?_
      refine Nxt_norm ?_
      refine Ab.ret ?_
      refine Nxt_ret ?_
      obtain rfl := Option.some.inj h
      exact End_ret (doneO_ok (md := [false, false]) (by kernel_rfl))
    · replace h := cond_f hb1 h
      refine Ab.skip ?_
      refine Nxt_norm ?_
      refine Ab.seq ?_
      obtain ⟨hq0, h⟩ := ask_dec h
      refine Ab.regT hE hC hL [[], [], [.l (List.map (eA 1 (T.int .u8)) (([] : List (Arr 32 Int)) ++ pleaves0))]] { keep := [1, 4, 6], ren := [(4, 4), (21, 21)] } ⟨[(1, (.t (.int .i64 plimit0))), (4, (.ref 4 [] (0))), (6, (.own 21))], [(4, (.var false 25 (.t ((eA 1 (T.int .u8)) (Arr.rep 32 (0:Int)))))), (21, (.row false 25 32 (List.map (eA 1 (T.int .u8)) (([] : List (Arr 32 Int)) ++ pleaves0))))]⟩ [(List.length (List.map (eA 1 (T.int .u8)) ([] : List (Arr 32 Int))) + List.length (List.map (eA 1 (T.int .u8)) pleaves0)) * 32 ≤ maxBytes, List.length (List.map (eA 1 (T.int .u8)) ([] : List (Arr 32 Int))) + List.length (List.map (eA 1 (T.int .u8)) pleaves0) ≤ maxBytes, (List.map (eA 1 (T.int .u8)) ([] : List (Arr 32 Int))) ++ (List.map (eA 1 (T.int .u8)) pleaves0) = List.map (eA 1 (T.int .u8)) (([] : List (Arr 32 Int)) ++ pleaves0)] (by kernel_rfl) ⟨(app_b rfl rfl hq0), (app_c rfl rfl (by decide) hq0), (app_of rfl rfl), trivial⟩ ?_
      refine Nxt_norm ?_
      refine Ab.seq ?_
      refine Ab.regT hE hC hL [] { keep := [1, 4, 6, 7], ren := [(4, 4), (7, 7), (21, 21)] } ⟨[(1, (.t (.int .i64 plimit0))), (4, (.ref 4 [] (0))), (6, (.own 21)), (7, (.ref 7 [] (0)))], [(4, (.var false 25 (.t ((eA 1 (T.int .u8)) (Arr.rep 32 (0:Int)))))), (7, (.var false 25 (.t ((eA 1 (T.int .u8)) (Arr.rep 32 (0:Int)))))), (21, (.row false 25 32 (List.map (eA 1 (T.int .u8)) (([] : List (Arr 32 Int)) ++ pleaves0))))]⟩ [] (by kernel_rfl) trivial ?_
      refine Nxt_norm ?_
      refine Ab.seq ?_
      refine Ab.seq ?_
      obtain ⟨r0, hr0, h⟩ := bind_some h
      refine Ab.regT hE hC hL [[], [.r [.tree (.int .i64 r0)] []]] { keep := [4, 6, 7, 23, 24], ren := [(4, 4), (7, 7), (21, 21)] } ⟨[(4, (.ref 4 [] (0))), (6, (.own 21)), (7, (.ref 7 [] (0))), (23, (.t (.int .i64 r0))), (24, (.t (.int .i64 (0:Int))))], [(4, (.var false 25 (.t ((eA 1 (T.int .u8)) (Arr.rep 32 (0:Int)))))), (7, (.var false 25 (.t ((eA 1 (T.int .u8)) (Arr.rep 32 (0:Int)))))), (21, (.row false 25 32 (List.map (eA 1 (T.int .u8)) (([] : List (Arr 32 Int)) ++ pleaves0))))]⟩ [(sp_merkle_Depth n).fn [(.int .i64 plimit0)] = some ([.tree (.int .i64 r0)], [])] (by kernel_rfl) ⟨(ap_merkle_Depth n (by exact ⟨leT.refl _, trivial⟩) hr0), trivial⟩ ?_
      refine Nxt_norm ?_
      obtain ⟨x1, hx0, h⟩ := bind_some h
      refine Ab.loopX0 (fun ((a0, a1, a2) : ((List (Arr 32 Int)) × (Arr 32 Int) × Int)) => (⟨[(4, (.ref 49000 [] (0))), (6, (.own 49001)), (7, (.ref 49002 [] (0))), (23, (.t (.int .i64 r0))), (24, (.t (.int .i64 a2)))], [(49000, (.var false 25 (.t ((eA 1 (T.int .u8)) (Arr.rep 32 (0:Int)))))), (49001, (.row false 25 32 (List.map (eA 1 (T.int .u8)) a0))), (49002, (.var false 25 (.t ((eA 1 (T.int .u8)) a1))))]⟩ : St)) (fun ((a3, a4) : ((List (Arr 32 Int)) × (Arr 32 Int))) => (⟨[(4, (.ref 49000 [] (0))), (6, (.own 49001)), (7, (.ref 49002 [] (0)))], [(49000, (.var false 25 (.t ((eA 1 (T.int .u8)) (Arr.rep 32 (0:Int)))))), (49001, (.row false 25 32 (List.map (eA 1 (T.int .u8)) a3))), (49002, (.var false 25 (.t ((eA 1 (T.int .u8)) a4))))]⟩ : St)) { fs := [], keep := [4, 6, 7, 23, 24], ren := [(4, 49000), (21, 49001), (7, 49002)] } ((([] : List (Arr 32 Int)) ++ pleaves0), (Arr.rep 32 (0:Int)), (0:Int)) hC hL hx0 (by kernel_rfl) ?_ ?_
      · rintro ⟨a0, a1, a2⟩ o0 h
        replace h : f_merkle_Tree_b0 n r0 a0 a1 a2 = some o0 := h
        unfold f_merkle_Tree_b0 at h
        refine Ab.seq ?_
        refine Ab.regT hE hC hL [] { keep := [4, 6, 7, 23, 24, 25], ren := [(49000, 49000), (49001, 49001), (49002, 49002)] } ⟨[(4, (.ref 49000 [] (0))), (6, (.own 49001)), (7, (.ref 49002 [] (0))), (23, (.t (.int .i64 r0))), (24, (.t (.int .i64 a2))), (25, (.t (.bool (decide (a2 < r0)))))], [(49000, (.var false 25 (.t ((eA 1 (T.int .u8)) (Arr.rep 32 (0:Int)))))), (49001, (.row false 25 32 (List.map (eA 1 (T.int .u8)) a0))), (49002, (.var false 25 (.t ((eA 1 (T.int .u8)) a1))))]⟩ [] (by kernel_rfl) trivial ?_
        refine Nxt_norm ?_
        refine Ab.seq ?_
        refine Ab.cond (b := (decide (a2 < r0))) (by kernel_rfl) (fun hb2 => ?_) (fun hb2 => ?_)
        · replace h := cond_t hb2 h
          refine Ab.skip ?_
          refine Nxt_norm ?_
          refine Ab.seq ?_
          refine Ab.block ?_
          refine Ab.seqJ (fun (a5 : (List (Arr 32 Int))) => (⟨[(4, (.ref 49000 [] (0))), (6, (.own 49001)), (7, (.ref 49002 [] (0))), (23, (.t (.int .i64 r0))), (24, (.t (.int .i64 a2)))], [(49000, (.var false 25 (.t ((eA 1 (T.int .u8)) (Arr.rep 32 (0:Int)))))), (49001, (.row false 25 32 (List.map (eA 1 (T.int .u8)) a5))), (49002, (.var false 25 (.t ((eA 1 (T.int .u8)) a1))))]⟩ : St)) (fun (a5 : (List (Arr 32 Int))) => f_merkle_Tree_j0 n a1 a2 a5 = some o0) hC hL ?_ ?_
          · refine Ab.seq ?_
            refine Ab.regT hE hC hL [[], [.n (a0.length : Int)]] { keep := [4, 6, 7, 23, 24, 29], ren := [(49000, 49000), (49001, 49001), (49002, 49002)] } ⟨[(4, (.ref 49000 [] (0))), (6, (.own 49001)), (7, (.ref 49002 [] (0))), (23, (.t (.int .i64 r0))), (24, (.t (.int .i64 a2))), (29, (.t (.bool (((a0.length : Int).tmod (2:Int)) != (0:Int)))))], [(49000, (.var false 25 (.t ((eA 1 (T.int .u8)) (Arr.rep 32 (0:Int)))))), (49001, (.row false 25 32 (List.map (eA 1 (T.int .u8)) a0))), (49002, (.var false 25 (.t ((eA 1 (T.int .u8)) a1))))]⟩ [((List.length (List.map (eA 1 (T.int .u8)) a0) : Nat) : Int) = (a0.length : Int)] (by kernel_rfl) ⟨(len_of rfl), trivial⟩ ?_
            refine Nxt_norm ?_
            refine Ab.cond (b := (((a0.length : Int).tmod (2:Int)) != (0:Int))) (by kernel_rfl) (fun hb3 => ?_) (fun hb3 => ?_)
            · replace h := cond_t hb3 h
              obtain ⟨hq1, h⟩ := ask_dec h
              refine Ab.regT hE hC hL [[], [], [], [.l (List.map (eA 1 (T.int .u8)) (a0 ++ ([a1] : List (Arr 32 Int))))]] { keep := [4, 6, 7, 23, 24], ren := [(33, 33), (49000, 49000), (49002, 49002)] } ⟨[(4, (.ref 49000 [] (0))), (6, (.own 33)), (7, (.ref 49002 [] (0))), (23, (.t (.int .i64 r0))), (24, (.t (.int .i64 a2)))], [(33, (.row false 25 32 (List.map (eA 1 (T.int .u8)) (a0 ++ ([a1] : List (Arr 32 Int)))))), (49000, (.var false 25 (.t ((eA 1 (T.int .u8)) (Arr.rep 32 (0:Int)))))), (49002, (.var false 25 (.t ((eA 1 (T.int .u8)) a1))))]⟩ [(List.length (List.map (eA 1 (T.int .u8)) a0) + List.length (List.map (eA 1 (T.int .u8)) ([a1] : List (Arr 32 Int)))) * 32 ≤ maxBytes, List.length (List.map (eA 1 (T.int .u8)) a0) + List.length (List.map (eA 1 (T.int .u8)) ([a1] : List (Arr 32 Int))) ≤ maxBytes, (List.map (eA 1 (T.int .u8)) a0) ++ (List.map (eA 1 (T.int .u8)) ([a1] : List (Arr 32 Int))) = List.map (eA 1 (T.int .u8)) (a0 ++ ([a1] : List (Arr 32 Int)))] (by kernel_rfl) ⟨(app_b rfl rfl hq1), (app_c rfl rfl (by decide) hq1), (app_of rfl rfl), trivial⟩ ?_
              exact Nxt_norm ⟨(a0 ++ ([a1] : List (Arr 32 Int))), { fs := [], keep := [4, 6, 7, 23, 24], ren := [(49000, 49000), (33, 49001), (49002, 49002)] }, h, by kernel_rfl⟩
            · replace h := cond_f hb3 h
              refine Ab.skip ?_
              exact Nxt_norm ⟨a0, { fs := [], keep := [4, 6, 7, 23, 24], ren := [(49000, 49000), (49001, 49001), (49002, 49002)] }, h, by kernel_rfl⟩
          · rintro a5 h
            replace h : f_merkle_Tree_j0 n a1 a2 a5 = some o0 := h
            unfold f_merkle_Tree_j0 at h
            refine Ab.seq ?_
            refine Ab.regT hE hC hL [] { keep := [4, 6, 7, 8, 23, 24], ren := [(49000, 49000), (49001, 49001), (49002, 49002)] } ⟨[(4, (.ref 49000 [] (0))), (6, (.own 49001)), (7, (.ref 49002 [] (0))), (8, (.t .nils)), (23, (.t (.int .i64 r0))), (24, (.t (.int .i64 a2)))], [(49000, (.var false 25 (.t ((eA 1 (T.int .u8)) (Arr.rep 32 (0:Int)))))), (49001, (.row false 25 32 (List.map (eA 1 (T.int .u8)) a5))), (49002, (.var false 25 (.t ((eA 1 (T.int .u8)) a1))))]⟩ [] (by kernel_rfl) trivial ?_
            refine Nxt_norm ?_
            refine Ab.seq ?_
            refine Ab.seq ?_
            refine Ab.regT hE hC hL [] { keep := [4, 6, 7, 8, 9, 23, 24], ren := [(49000, 49000), (49001, 49001), (49002, 49002)] } ⟨[(4, (.ref 49000 [] (0))), (6, (.own 49001)), (7, (.ref 49002 [] (0))), (8, (.t .nils)), (9, (.t (.int .i64 (0:Int)))), (23, (.t (.int .i64 r0))), (24, (.t (.int .i64 a2)))], [(49000, (.var false 25 (.t ((eA 1 (T.int .u8)) (Arr.rep 32 (0:Int)))))), (49001, (.row false 25 32 (List.map (eA 1 (T.int .u8)) a5))), (49002, (.var false 25 (.t ((eA 1 (T.int .u8)) a1))))]⟩ [] (by kernel_rfl) trivial ?_
            refine Nxt_norm ?_
            obtain ⟨x0, hx1, h⟩ := bind_some h
            refine Ab.loopX0 (fun ((a8, a9) : ((List (Arr 32 Int)) × Int)) => (⟨[(4, (.ref 49000 [] (0))), (6, (.own 49001)), (7, (.ref 49002 [] (0))), (8, (.own 49003)), (9, (.t (.int .i64 a9))), (23, (.t (.int .i64 r0))), (24, (.t (.int .i64 a2)))], [(49000, (.var false 25 (.t ((eA 1 (T.int .u8)) (Arr.rep 32 (0:Int)))))), (49001, (.row false 25 32 (List.map (eA 1 (T.int .u8)) a5))), (49002, (.var false 25 (.t ((eA 1 (T.int .u8)) a1)))), (49003, (.row false 25 32 (List.map (eA 1 (T.int .u8)) a8)))]⟩ : St)) (fun (a10 : (List (Arr 32 Int))) => (⟨[(4, (.ref 49000 [] (0))), (7, (.ref 49001 [] (0))), (8, (.own 49002)), (23, (.t (.int .i64 r0))), (24, (.t (.int .i64 a2)))], [(49000, (.var false 25 (.t ((eA 1 (T.int .u8)) (Arr.rep 32 (0:Int)))))), (49001, (.var false 25 (.t ((eA 1 (T.int .u8)) a1)))), (49002, (.row false 25 32 (List.map (eA 1 (T.int .u8)) a10)))]⟩ : St)) { fs := [⟨(.t 8), [], .own 48000 25 32⟩], keep := [4, 6, 7, 8, 9, 23, 24], ren := [(49000, 49000), (49001, 49001), (49002, 49002), (48000, 49003)] } (([] : List (Arr 32 Int)), (0:Int)) hC hL hx1 (by kernel_rfl) ?_ ?_
            · rintro ⟨a8, a9⟩ o1 h
              replace h : f_merkle_Tree_b1 n a5 a8 a9 = some o1 := h
              unfold f_merkle_Tree_b1 at h
              refine Ab.seq ?_
              refine Ab.seq ?_
              refine Ab.regT hE hC hL [[], [], [.n (a5.length : Int)]] { keep := [4, 6, 7, 8, 9, 23, 24, 37], ren := [(49000, 49000), (49001, 49001), (49002, 49002), (49003, 49003)] } ⟨[(4, (.ref 49000 [] (0))), (6, (.own 49001)), (7, (.ref 49002 [] (0))), (8, (.own 49003)), (9, (.t (.int .i64 a9))), (23, (.t (.int .i64 r0))), (24, (.t (.int .i64 a2))), (37, (.t (.bool (decide (a9 < (a5.length : Int))))))], [(49000, (.var false 25 (.t ((eA 1 (T.int .u8)) (Arr.rep 32 (0:Int)))))), (49001, (.row false 25 32 (List.map (eA 1 (T.int .u8)) a5))), (49002, (.var false 25 (.t ((eA 1 (T.int .u8)) a1)))), (49003, (.row false 25 32 (List.map (eA 1 (T.int .u8)) a8)))]⟩ [((List.length (List.map (eA 1 (T.int .u8)) a5) : Nat) : Int) = (a5.length : Int)] (by kernel_rfl) ⟨(len_of rfl), trivial⟩ ?_
              refine Nxt_norm ?_
              refine Ab.cond (b := (decide (a9 < (a5.length : Int)))) (by kernel_rfl) (fun hb4 => ?_) (fun hb4 => ?_)
              · replace h := cond_t hb4 h
                refine Ab.skip ?_
                refine Nxt_norm ?_
                refine Ab.seq ?_
                refine Ab.block ?_
                obtain ⟨hq2, h⟩ := ask_dec h
                obtain ⟨hq3, h⟩ := ask_dec h
                obtain ⟨v0, hv0, h⟩ := bind_some h
                obtain ⟨hq4, h⟩ := ask_dec h
                obtain ⟨hq5, h⟩ := ask_dec h
                obtain ⟨v1, hv1, h⟩ := bind_some h
                obtain ⟨r1, hr1, h⟩ := bind_some h
                obtain ⟨hq6, h⟩ := ask_dec h
                refine Ab.regA hE hC hL [[], [], [], [.c], [.t ((eA 1 (T.int .u8)) v0)], [], [], [], [.c], [.t ((eA 1 (T.int .u8)) v1)], [.r [.tree ((eA 1 (T.int .u8)) r1)] []], [], [.l (List.map (eA 1 (T.int .u8)) (a8 ++ ([r1] : List (Arr 32 Int))))]] { keep := [4, 6, 7, 8, 9, 23, 24], ren := [(52, 52), (49000, 49000), (49001, 49001), (49002, 49002)] } ⟨[(4, (.ref 49000 [] (0))), (6, (.own 49001)), (7, (.ref 49002 [] (0))), (8, (.own 52)), (9, (.t (.int .i64 a9))), (23, (.t (.int .i64 r0))), (24, (.t (.int .i64 a2)))], [(52, (.row false 25 32 (List.map (eA 1 (T.int .u8)) (a8 ++ ([r1] : List (Arr 32 Int)))))), (49000, (.var false 25 (.t ((eA 1 (T.int .u8)) (Arr.rep 32 (0:Int)))))), (49001, (.row false 25 32 (List.map (eA 1 (T.int .u8)) a5))), (49002, (.var false 25 (.t ((eA 1 (T.int .u8)) a1))))]⟩ [0 ≤ a9, a9.toNat < List.length (List.map (eA 1 (T.int .u8)) a5), a9.toNat * 32 + 0 = a9.toNat * 32, (List.map (eA 1 (T.int .u8)) a5)[a9.toNat]? = some ((eA 1 (T.int .u8)) v0), 0 ≤ (wi (a9 + (1:Int))), (wi (a9 + (1:Int))).toNat < List.length (List.map (eA 1 (T.int .u8)) a5), (wi (a9 + (1:Int))).toNat * 32 + 0 = (wi (a9 + (1:Int))).toNat * 32, (List.map (eA 1 (T.int .u8)) a5)[(wi (a9 + (1:Int))).toNat]? = some ((eA 1 (T.int .u8)) v1), (sp_digest_Pair n).fn [((eA 1 (T.int .u8)) v0), ((eA 1 (T.int .u8)) v1)] = some ([.tree ((eA 1 (T.int .u8)) r1)], []), (List.length (List.map (eA 1 (T.int .u8)) a8) + List.length (List.map (eA 1 (T.int .u8)) ([r1] : List (Arr 32 Int)))) * 32 ≤ maxBytes, List.length (List.map (eA 1 (T.int .u8)) a8) + List.length (List.map (eA 1 (T.int .u8)) ([r1] : List (Arr 32 Int))) ≤ maxBytes, (List.map (eA 1 (T.int .u8)) a8) ++ (List.map (eA 1 (T.int .u8)) ([r1] : List (Arr 32 Int))) = List.map (eA 1 (T.int .u8)) (a8 ++ ([r1] : List (Arr 32 Int)))] (by kernel_rfl) (by kernel_rfl) ⟨hq2, (by rw [List.length_map]; exact hq3), (by omega), (at_map hv0), hq4, (by rw [List.length_map]; exact hq5), (by omega), (at_map hv1), (ap_digest_Pair n (by exact ⟨leT.refl _, leT.refl _, trivial⟩) hr1), (app_b rfl rfl hq6), (app_c rfl rfl (by decide) hq6), (app_of rfl rfl), trivial⟩ ?_
                refine Blk_norm ?_
                refine Nxt_norm ?_
                refine Ab.regT hE hC hL [] { keep := [4, 6, 7, 8, 9, 23, 24], ren := [(52, 52), (49000, 49000), (49001, 49001), (49002, 49002)] } ⟨[(4, (.ref 49000 [] (0))), (6, (.own 49001)), (7, (.ref 49002 [] (0))), (8, (.own 52)), (9, (.t (.int .i64 (wi (a9 + (2:Int)))))), (23, (.t (.int .i64 r0))), (24, (.t (.int .i64 a2)))], [(52, (.row false 25 32 (List.map (eA 1 (T.int .u8)) (a8 ++ ([r1] : List (Arr 32 Int)))))), (49000, (.var false 25 (.t ((eA 1 (T.int .u8)) (Arr.rep 32 (0:Int)))))), (49001, (.row false 25 32 (List.map (eA 1 (T.int .u8)) a5))), (49002, (.var false 25 (.t ((eA 1 (T.int .u8)) a1))))]⟩ [] (by kernel_rfl) trivial ?_
                exact LK_norm ((a8 ++ ([r1] : List (Arr 32 Int))), (wi (a9 + (2:Int)))) { fs := [], keep := [4, 6, 7, 8, 9, 23, 24], ren := [(49000, 49000), (49001, 49001), (49002, 49002), (52, 49003)] } h (by kernel_rfl)
              · replace h := cond_f hb4 h
                refine Ab.exit ?_
                refine Nxt_exit ?_
                exact LK_exit a8 h (PX_mk { fs := [], keep := [4, 7, 8, 23, 24], ren := [(49000, 49000), (49002, 49001), (49003, 49002)] } (by kernel_rfl))
            · refine Nxt_norm ?_
              obtain ⟨r2, hr2, h⟩ := bind_some h
              refine Ab.regT hE hC hL [[], [], [], [.r [.tree ((eA 1 (T.int .u8)) r2)] []]] { keep := [4, 6, 7, 23, 24], ren := [(49000, 49000), (49001, 49001), (49002, 49002)] } ⟨[(4, (.ref 49000 [] (0))), (6, (.own 49002)), (7, (.ref 49001 [] (0))), (23, (.t (.int .i64 r0))), (24, (.t (.int .i64 a2)))], [(49000, (.var false 25 (.t ((eA 1 (T.int .u8)) (Arr.rep 32 (0:Int)))))), (49001, (.var false 25 (.t ((eA 1 (T.int .u8)) r2)))), (49002, (.row false 25 32 (List.map (eA 1 (T.int .u8)) x0)))]⟩ [(sp_digest_Pair n).fn [((eA 1 (T.int .u8)) a1), ((eA 1 (T.int .u8)) a1)] = some ([.tree ((eA 1 (T.int .u8)) r2)], [])] (by kernel_rfl) ⟨(ap_digest_Pair n (by exact ⟨leT.refl _, leT.refl _, trivial⟩) hr2), trivial⟩ ?_
              refine Blk_norm ?_
              refine Nxt_norm ?_
              refine Ab.regT hE hC hL [] { keep := [4, 6, 7, 23, 24], ren := [(49000, 49000), (49001, 49001), (49002, 49002)] } ⟨[(4, (.ref 49000 [] (0))), (6, (.own 49002)), (7, (.ref 49001 [] (0))), (23, (.t (.int .i64 r0))), (24, (.t (.int .i64 (wi (a2 + (1:Int))))))], [(49000, (.var false 25 (.t ((eA 1 (T.int .u8)) (Arr.rep 32 (0:Int)))))), (49001, (.var false 25 (.t ((eA 1 (T.int .u8)) r2)))), (49002, (.row false 25 32 (List.map (eA 1 (T.int .u8)) x0)))]⟩ [] (by kernel_rfl) trivial ?_
              exact LK_norm (x0, r2, (wi (a2 + (1:Int)))) { fs := [], keep := [4, 6, 7, 23, 24], ren := [(49000, 49000), (49002, 49001), (49001, 49002)] } h (by kernel_rfl)
        · replace h := cond_f hb2 h
          refine Ab.exit ?_
          refine Nxt_exit ?_
          exact LK_exit (a0, a1) h (PX_mk { fs := [], keep := [4, 6, 7], ren := [(49000, 49000), (49001, 49001), (49002, 49002)] } (by kernel_rfl))
      · refine Nxt_norm ?_
        refine Ab.seq ?_
        refine Ab.seq ?_
        refine Ab.regT hE hC hL [[], [.n (x1.1.length : Int)]] { keep := [4, 6, 7, 60], ren := [(49000, 49000), (49001, 49001), (49002, 49002)] } ⟨[(4, (.ref 49000 [] (0))), (6, (.own 49001)), (7, (.ref 49002 [] (0))), (60, (.t (.bool ((x1.1.length : Int) == (0:Int)))))], [(49000, (.var false 25 (.t ((eA 1 (T.int .u8)) (Arr.rep 32 (0:Int)))))), (49001, (.row false 25 32 (List.map (eA 1 (T.int .u8)) x1.1))), (49002, (.var false 25 (.t ((eA 1 (T.int .u8)) x1.2))))]⟩ [((List.length (List.map (eA 1 (T.int .u8)) x1.1) : Nat) : Int) = (x1.1.length : Int)] (by kernel_rfl) ⟨(len_of rfl), trivial⟩ ?_
        refine Nxt_norm ?_
        refine Ab.cond (b := ((x1.1.length : Int) == (0:Int))) (by kernel_rfl) (fun hb5 => ?_) (fun hb5 => ?_)
        · replace h := cond_t hb5 h
          refine Ab.seq ?_
          refine Ab.regT hE hC hL [] { keep := [4, 5], ren := [(49000, 49000)] } ⟨[(4, (.ref 49000 [] (0))), (5, (.t (.int .i64 (0:Int))))], [(49000, (.var false 25 (.t ((eA 1 (T.int .u8)) x1.2))))]⟩ [] (by kernel_rfl) trivial ?_
          refine Nxt_norm ?_
          refine Ab.ret ?_
          refine Nxt_ret ?_
          obtain rfl := Option.some.inj h
          exact End_ret (doneO_ok (md := [false, false]) (by kernel_rfl))
        · replace h := cond_f hb5 h
          refine Ab.skip ?_
          refine Nxt_norm ?_
          refine Ab.seq ?_
          obtain ⟨hq7, h⟩ := ask_dec h
          obtain ⟨v2, hv2, h⟩ := bind_some h
          refine Ab.regT hE hC hL [[], [.c], [.t ((eA 1 (T.int .u8)) v2)]] { keep := [4, 5], ren := [(49000, 49000)] } ⟨[(4, (.ref 49000 [] (0))), (5, (.t (.int .i64 (0:Int))))], [(49000, (.var false 25 (.t ((eA 1 (T.int .u8)) v2))))]⟩ [0 ≤ (0:Int), 0 < List.length (List.map (eA 1 (T.int .u8)) x1.1), 0 = 0, (List.map (eA 1 (T.int .u8)) x1.1)[0]? = some ((eA 1 (T.int .u8)) v2)] (by kernel_rfl) ⟨(by decide), (by rw [List.length_map]; exact hq7), (by omega), (at_map hv2), trivial⟩ ?_
          refine Nxt_norm ?_
          refine Ab.ret ?_
          obtain rfl := Option.some.inj h
          exact End_ret (doneO_ok (md := [false, false]) (by kernel_rfl))
def ea_merkle_Zero (a : Int) : List T := [(T.int .i64) a]
def er_merkle_Zero (r : (Arr 32 Int)) : List RR × List T := ([.tree ((eA 1 (T.int .u8)) r)], [])
noncomputable def sp_merkle_Zero (n : Nat) : Spec := specP [] true ea_merkle_Zero (fun a => f_merkle_Zero n a) (fun _ r => er_merkle_Zero r)
theorem ap_merkle_Zero (n : Nat) {ts : List T} {a0 : Int} {r : (Arr 32 Int)} (hle : leTs ts [(T.int .i64) a0]) (h : f_merkle_Zero n a0 = some r) : (sp_merkle_Zero n).fn ts = some ([.tree ((eA 1 (T.int .u8)) r)], []) :=
  specP_fn (a := a0) (InjA.one (inj_int _)) hle h
noncomputable def E_merkle_Zero (n : Nat) : Env := { ty := tyT, glob := glob, fns := get [(16, sp_digest_Pair n)], ntmps := 13 }
theorem eok_merkle_Zero (n : Nat) : EnvOK Tryd.prog (E_merkle_Zero n) := ⟨tys_ok tys_chk, prog_mixed, (fns_cons (ok_digest_Pair n) fns_nil)⟩
def K_merkle_Zero (n : Nat) (pdepth0 : Int) (r : (Arr 32 Int)) : St → Prop := Done (E_merkle_Zero n) Tryd.f31.results.toList [] (ea_merkle_Zero pdepth0) (er_merkle_Zero r).1 (er_merkle_Zero r).2
set_option maxRecDepth 100000 in
set_option maxHeartbeats 4000000 in
theorem ok_merkle_Zero (n : Nat) : SpecOK Tryd.prog glob 31 (sp_merkle_Zero n) := by
  refine specP_ok (fn := Tryd.f31) (eok_merkle_Zero n) (by kernel_rfl) rfl (by decide +kernel) (by kernel_rfl) (fun _ => by show 1 ≤ 13; omega) (fun _ _ r => ⟨(rrf_tree ((flat_eA (fun _ => rfl)) _) rrf_nil), flats_nil⟩) ?_
  rintro pdepth0 r h C hL hC
  have hE := eok_merkle_Zero n
  replace hL : ∀ n g, (n, g) ∈ C.lent → n ∈ ([] : List Nat) := hL
  replace h : f_merkle_Zero n pdepth0 = some r := h
  show Ab _ _ _ _ _ (End (K_merkle_Zero n pdepth0 r))
  unfold f_merkle_Zero at h
  refine Ab.seq ?_
  refine Ab.regT hE hC hL [] { keep := [0, 2], ren := [(2, 2)] } ⟨[(0, (.t (.int .i64 pdepth0))), (2, (.ref 2 [] (0)))], [(2, (.var false 25 (.t ((eA 1 (T.int .u8)) (Arr.rep 32 (0:Int))))))]⟩ [] (by kernel_rfl) trivial ?_
  refine Nxt_norm ?_
  refine Ab.seq ?_
  refine Ab.regT hE hC hL [] { keep := [0, 2, 3], ren := [(2, 2), (3, 3)] } ⟨[(0, (.t (.int .i64 pdepth0))), (2, (.ref 2 [] (0))), (3, (.ref 3 [] (0)))], [(2, (.var false 25 (.t ((eA 1 (T.int .u8)) (Arr.rep 32 (0:Int)))))), (3, (.var false 25 (.t ((eA 1 (T.int .u8)) (Arr.rep 32 (0:Int))))))]⟩ [] (by kernel_rfl) trivial ?_
  refine Nxt_norm ?_
  refine Ab.seq ?_
  refine Ab.seq ?_
  refine Ab.regT hE hC hL [] { keep := [2, 3, 5, 6], ren := [(2, 2), (3, 3)] } ⟨[(2, (.ref 2 [] (0))), (3, (.ref 3 [] (0))), (5, (.t (.int .i64 (gmax pdepth0 (0:Int))))), (6, (.t (.int .i64 (0:Int))))], [(2, (.var false 25 (.t ((eA 1 (T.int .u8)) (Arr.rep 32 (0:Int)))))), (3, (.var false 25 (.t ((eA 1 (T.int .u8)) (Arr.rep 32 (0:Int))))))]⟩ [] (by kernel_rfl) trivial ?_
  refine Nxt_norm ?_
  obtain ⟨x0, hx0, h⟩ := bind_some h
  refine Ab.loopX0 (fun ((a0, a1) : ((Arr 32 Int) × Int)) => (⟨[(2, (.ref 49000 [] (0))), (3, (.ref 49001 [] (0))), (5, (.t (.int .i64 (gmax pdepth0 (0:Int))))), (6, (.t (.int .i64 a1)))], [(49000, (.var false 25 (.t ((eA 1 (T.int .u8)) (Arr.rep 32 (0:Int)))))), (49001, (.var false 25 (.t ((eA 1 (T.int .u8)) a0))))]⟩ : St)) (fun (a2 : (Arr 32 Int)) => (⟨[(2, (.ref 49000 [] (0))), (3, (.ref 49001 [] (0)))], [(49000, (.var false 25 (.t ((eA 1 (T.int .u8)) (Arr.rep 32 (0:Int)))))), (49001, (.var false 25 (.t ((eA 1 (T.int .u8)) a2))))]⟩ : St)) { fs := [], keep := [2, 3, 5, 6], ren := [(2, 49000), (3, 49001)] } ((Arr.rep 32 (0:Int)), (0:Int)) hC hL hx0 (by kernel_rfl) ?_ ?_
  · rintro ⟨a0, a1⟩ o0 h
    replace h : f_merkle_Zero_b0 n pdepth0 a0 a1 = some o0 := h
    unfold f_merkle_Zero_b0 at h
    refine Ab.seq ?_
    refine Ab.regT hE hC hL [] { keep := [2, 3, 5, 6, 7], ren := [(49000, 49000), (49001, 49001)] } ⟨[(2, (.ref 49000 [] (0))), (3, (.ref 49001 [] (0))), (5, (.t (.int .i64 (gmax pdepth0 (0:Int))))), (6, (.t (.int .i64 a1))), (7, (.t (.bool (decide (a1 < (gmax pdepth0 (0:Int)))))))], [(49000, (.var false 25 (.t ((eA 1 (T.int .u8)) (Arr.rep 32 (0:Int)))))), (49001, (.var false 25 (.t ((eA 1 (T.int .u8)) a0))))]⟩ [] (by kernel_rfl) trivial ?_
    refine Nxt_norm ?_
    refine Ab.seq ?_
    refine Ab.cond (b := (decide (a1 < (gmax pdepth0 (0:Int))))) (by kernel_rfl) (fun hb0 => ?_) (fun hb0 => ?_)
    · replace h := cond_t hb0 h
      refine Ab.skip ?_
      refine Nxt_norm ?_
      refine Ab.seq ?_
      refine Ab.block ?_
      obtain ⟨r0, hr0, h⟩ := bind_some h
      refine Ab.regT hE hC hL [[], [], [.r [.tree ((eA 1 (T.int .u8)) r0)] []]] { keep := [2, 3, 5, 6], ren := [(49000, 49000), (49001, 49001)] } ⟨[(2, (.ref 49000 [] (0))), (3, (.ref 49001 [] (0))), (5, (.t (.int .i64 (gmax pdepth0 (0:Int))))), (6, (.t (.int .i64 a1)))], [(49000, (.var false 25 (.t ((eA 1 (T.int .u8)) (Arr.rep 32 (0:Int)))))), (49001, (.var false 25 (.t ((eA 1 (T.int .u8)) r0))))]⟩ [(sp_digest_Pair n).fn [((eA 1 (T.int .u8)) a0), ((eA 1 (T.int .u8)) a0)] = some ([.tree ((eA 1 (T.int .u8)) r0)], [])] (by kernel_rfl) ⟨(ap_digest_Pair n (by exact ⟨leT.refl _, leT.refl _, trivial⟩) hr0), trivial⟩ ?_
      refine Blk_norm ?_
      refine Nxt_norm ?_
      refine Ab.regT hE hC hL [] { keep := [2, 3, 5, 6], ren := [(49000, 49000), (49001, 49001)] } ⟨[(2, (.ref 49000 [] (0))), (3, (.ref 49001 [] (0))), (5, (.t (.int .i64 (gmax pdepth0 (0:Int))))), (6, (.t (.int .i64 (wi (a1 + (1:Int))))))], [(49000, (.var false 25 (.t ((eA 1 (T.int .u8)) (Arr.rep 32 (0:Int)))))), (49001, (.var false 25 (.t ((eA 1 (T.int .u8)) r0))))]⟩ [] (by kernel_rfl) trivial ?_
      exact LK_norm (r0, (wi (a1 + (1:Int)))) { fs := [], keep := [2, 3, 5, 6], ren := [(49000, 49000), (49001, 49001)] } h (by kernel_rfl)
    · replace h := cond_f hb0 h
      refine Ab.exit ?_
      refine Nxt_exit ?_
      exact LK_exit a0 h (PX_mk { fs := [], keep := [2, 3], ren := [(49000, 49000), (49001, 49001)] } (by kernel_rfl))
  · refine Nxt_norm ?_
    refine Ab.seq ?_
    refine Ab.regT hE hC hL [] { keep := [2], ren := [(49000, 49000)] } ⟨[(2, (.ref 49000 [] (0)))], [(49000, (.var false 25 (.t ((eA 1 (T.int .u8)) x0))))]⟩ [] (by kernel_rfl) trivial ?_
    refine Nxt_norm ?_
    refine Ab.ret ?_
    obtain rfl := Option.some.inj h
    exact End_ret (doneO_ok (md := [false]) (by kernel_rfl))
def ea_law03_Awake (a : Unit) : List T := []
def er_law03_Awake (r : Bool) : List RR × List T := ([.tree (T.bool r)], [])
noncomputable def sp_law03_Awake (n : Nat) : Spec := specP [] true ea_law03_Awake (fun a => f_law03_Awake n) (fun _ r => er_law03_Awake r)
theorem ap_law03_Awake (n : Nat) {ts : List T} {r : Bool} (hle : leTs ts []) (h : f_law03_Awake n = some r) : (sp_law03_Awake n).fn ts = some ([.tree (T.bool r)], []) :=
  specP_fn (a := ()) injA0 hle h
noncomputable def E_law03_Awake (n : Nat) : Env := { ty := tyT, glob := glob, fns := get [(18, sp_digest_Hex n), (29, sp_merkle_Tree n), (31, sp_merkle_Zero n), (36, sp_merkle_Depth n)], ntmps := 23 }
theorem eok_law03_Awake (n : Nat) : EnvOK Tryd.prog (E_law03_Awake n) := ⟨tys_ok tys_chk, prog_mixed, (fns_cons (ok_digest_Hex n) (fns_cons (ok_merkle_Tree n) (fns_cons (ok_merkle_Zero n) (fns_cons (ok_merkle_Depth n) fns_nil))))⟩
def K_law03_Awake (n : Nat) (r : Bool) : St → Prop := Done (E_law03_Awake n) Tryd.f28.results.toList [] (ea_law03_Awake ()) (er_law03_Awake r).1 (er_law03_Awake r).2
set_option maxRecDepth 100000 in
set_option maxHeartbeats 4000000 in
theorem ok_law03_Awake (n : Nat) : SpecOK Tryd.prog glob 28 (sp_law03_Awake n) := by
  refine specP_ok (fn := Tryd.f28) (eok_law03_Awake n) (by kernel_rfl) rfl (by decide +kernel) (by kernel_rfl) (fun _ => by show 0 ≤ 23; omega) (fun _ _ r => ⟨(rrf_tree ((fun _ => rfl) _) rrf_nil), flats_nil⟩) ?_
  rintro ⟨⟩ r h C hL hC
  have hE := eok_law03_Awake n
  replace hL : ∀ n g, (n, g) ∈ C.lent → n ∈ ([] : List Nat) := hL
  replace h : f_law03_Awake n = some r := h
  show Ab _ _ _ _ _ (End (K_law03_Awake n r))
  unfold f_law03_Awake at h
  refine Ab.seq ?_
  refine Ab.regT hE hC hL [] { keep := [], ren := [] } ⟨[], []⟩ [] (by kernel_rfl) trivial ?_
  refine Nxt_norm ?_
  refine Ab.seq ?_
  obtain ⟨r0, hr0, h⟩ := bind_some h
  refine Ab.regT hE hC hL [[.l (List.map (eA 1 (T.int .u8)) (List.replicate 2 (Arr.rep 32 (0:Int))))], [.r [.tree ((eA 1 (T.int .u8)) r0.1), .tree (.int .i64 r0.2)] []]] { keep := [2], ren := [] } ⟨[(2, (.t (.int .i64 r0.2)))], []⟩ [0 ≤ (2:Int), ((2:Int) = (2:Int) ∨ (2:Int) = 0), (2:Int) ≤ (2:Int), ((32 : Nat) : Int) * (2:Int) ≤ 140737488355328, (2:Int) ≤ 140737488355328, List.replicate ((2:Int)).toNat (.arr 1 32 (List.replicate 32 (.int .u8 0))) = List.map (eA 1 (T.int .u8)) (List.replicate 2 (Arr.rep 32 (0:Int))), (sp_merkle_Tree n).fn [(.slc 32 (List.map (eA 1 (T.int .u8)) (List.replicate 2 (Arr.rep 32 (0:Int))))), (.int .i64 (1:Int))] = some ([.tree ((eA 1 (T.int .u8)) r0.1), .tree (.int .i64 r0.2)], [])] (by kernel_rfl) ⟨(by decide), (by decide), (by decide), (by decide), (by decide), (rep_map rfl), (ap_merkle_Tree n (by exact ⟨leT.refl _, leT.refl _, trivial⟩) hr0), trivial⟩ ?_
  refine Nxt_norm ?_
  refine Ab.seq ?_
  obtain ⟨r1, hr1, h⟩ := bind_some h
  obtain ⟨r2, hr2, h⟩ := bind_some h
  rcases Bool.eq_false_or_eq_true (r2.toList == str_3.toList) with hb0 | hb0
  · replace h := cond_t hb0 h
    obtain ⟨r3, hr3, h⟩ := bind_some h
    rcases Bool.eq_false_or_eq_true (r3 == (0:Int)) with hb1 | hb1
    · replace h := cond_t hb1 h
      obtain ⟨r4, hr4, h⟩ := bind_some h
      rcases Bool.eq_false_or_eq_true (r4 == (3:Int)) with hb2 | hb2
      · replace h := cond_t hb2 h
        refine Ab.regT hE hC hL [[.r [.tree ((eA 1 (T.int .u8)) r1)] []], [.r [.tree (.str r2)] []], [], [.b true], [.r [.tree (.int .i64 r3)] []], [], [], [.b true], [.r [.tree (.int .i64 r4)] []], [], [], [.b true]] { keep := [0], ren := [] } ⟨[(0, (.t (.bool (r0.2 == (4:Int)))))], []⟩ [(sp_merkle_Zero n).fn [(.int .i64 (1:Int))] = some ([.tree ((eA 1 (T.int .u8)) r1)], []), (sp_digest_Hex n).fn [((eA 1 (T.int .u8)) r1)] = some ([.tree (.str r2)], []), (r2.toList == str_3.toList) = true, (sp_merkle_Depth n).fn [(.int .i64 (1:Int))] = some ([.tree (.int .i64 r3)], []), (r3 == (0:Int)) = true, (sp_merkle_Depth n).fn [(.int .i64 (5:Int))] = some ([.tree (.int .i64 r4)], []), (r4 == (3:Int)) = true] (by kernel_rfl) ⟨(ap_merkle_Zero n (by exact ⟨leT.refl _, trivial⟩) hr1), (ap_digest_Hex n (by exact ⟨leT.refl _, trivial⟩) hr2), hb0, (ap_merkle_Depth n (by exact ⟨leT.refl _, trivial⟩) hr3), hb1, (ap_merkle_Depth n (by exact ⟨leT.refl _, trivial⟩) hr4), hb2, trivial⟩ ?_
        refine Nxt_norm ?_
        refine Ab.ret ?_
        obtain rfl := Option.some.inj h
        exact End_ret (doneO_ok (md := [false]) (by kernel_rfl))
      · replace h := cond_f hb2 h
        refine Ab.regT hE hC hL [[.r [.tree ((eA 1 (T.int .u8)) r1)] []], [.r [.tree (.str r2)] []], [], [.b true], [.r [.tree (.int .i64 r3)] []], [], [], [.b true], [.r [.tree (.int .i64 r4)] []], [], [], [.b false]] { keep := [0], ren := [] } ⟨[(0, (.t (.bool false)))], []⟩ [(sp_merkle_Zero n).fn [(.int .i64 (1:Int))] = some ([.tree ((eA 1 (T.int .u8)) r1)], []), (sp_digest_Hex n).fn [((eA 1 (T.int .u8)) r1)] = some ([.tree (.str r2)], []), (r2.toList == str_3.toList) = true, (sp_merkle_Depth n).fn [(.int .i64 (1:Int))] = some ([.tree (.int .i64 r3)], []), (r3 == (0:Int)) = true, (sp_merkle_Depth n).fn [(.int .i64 (5:Int))] = some ([.tree (.int .i64 r4)], []), (r4 == (3:Int)) = false] (by kernel_rfl) ⟨(ap_merkle_Zero n (by exact ⟨leT.refl _, trivial⟩) hr1), (ap_digest_Hex n (by exact ⟨leT.refl _, trivial⟩) hr2), hb0, (ap_merkle_Depth n (by exact ⟨leT.refl _, trivial⟩) hr3), hb1, (ap_merkle_Depth n (by exact ⟨leT.refl _, trivial⟩) hr4), hb2, trivial⟩ ?_
        refine Nxt_norm ?_
        refine Ab.ret ?_
        obtain rfl := Option.some.inj h
        exact End_ret (doneO_ok (md := [false]) (by kernel_rfl))
    · replace h := cond_f hb1 h
      refine Ab.regT hE hC hL [[.r [.tree ((eA 1 (T.int .u8)) r1)] []], [.r [.tree (.str r2)] []], [], [.b true], [.r [.tree (.int .i64 r3)] []], [], [], [.b false]] { keep := [0], ren := [] } ⟨[(0, (.t (.bool false)))], []⟩ [(sp_merkle_Zero n).fn [(.int .i64 (1:Int))] = some ([.tree ((eA 1 (T.int .u8)) r1)], []), (sp_digest_Hex n).fn [((eA 1 (T.int .u8)) r1)] = some ([.tree (.str r2)], []), (r2.toList == str_3.toList) = true, (sp_merkle_Depth n).fn [(.int .i64 (1:Int))] = some ([.tree (.int .i64 r3)], []), (r3 == (0:Int)) = false] (by kernel_rfl) ⟨(ap_merkle_Zero n (by exact ⟨leT.refl _, trivial⟩) hr1), (ap_digest_Hex n (by exact ⟨leT.refl _, trivial⟩) hr2), hb0, (ap_merkle_Depth n (by exact ⟨leT.refl _, trivial⟩) hr3), hb1, trivial⟩ ?_
      refine Nxt_norm ?_
      refine Ab.ret ?_
      obtain rfl := Option.some.inj h
      exact End_ret (doneO_ok (md := [false]) (by kernel_rfl))
  · replace h := cond_f hb0 h
    refine Ab.regT hE hC hL [[.r [.tree ((eA 1 (T.int .u8)) r1)] []], [.r [.tree (.str r2)] []], [], [.b false]] { keep := [0], ren := [] } ⟨[(0, (.t (.bool false)))], []⟩ [(sp_merkle_Zero n).fn [(.int .i64 (1:Int))] = some ([.tree ((eA 1 (T.int .u8)) r1)], []), (sp_digest_Hex n).fn [((eA 1 (T.int .u8)) r1)] = some ([.tree (.str r2)], []), (r2.toList == str_3.toList) = false] (by kernel_rfl) ⟨(ap_merkle_Zero n (by exact ⟨leT.refl _, trivial⟩) hr1), (ap_digest_Hex n (by exact ⟨leT.refl _, trivial⟩) hr2), hb0, trivial⟩ ?_
    refine Nxt_norm ?_
    refine Ab.ret ?_
    obtain rfl := Option.some.inj h
    exact End_ret (doneO_ok (md := [false]) (by kernel_rfl))
def ea_law03_own (a : (List (Arr 32 Int))) : List T := [(eS 32 (eA 1 (T.int .u8))) a]
def er_law03_own (r : (List (Arr 32 Int))) : List RR × List T := ([.row 25 32 (List.map (eA 1 (T.int .u8)) r)], [])
noncomputable def sp_law03_own (n : Nat) : Spec := specP [] false ea_law03_own (fun a => f_law03_own n a) (fun _ r => er_law03_own r)
theorem ap_law03_own (n : Nat) {ts : List T} {a0 : (List (Arr 32 Int))} {r : (List (Arr 32 Int))} (hle : leTs ts [(eS 32 (eA 1 (T.int .u8))) a0]) (h : f_law03_own n a0 = some r) : (sp_law03_own n).fn ts = some ([.row 25 32 (List.map (eA 1 (T.int .u8)) r)], []) :=
  specP_fn (a := a0) (InjA.one (inj_eS (inj_eA (inj_int _)))) hle h
noncomputable def E_law03_own (n : Nat) : Env := { ty := tyT, glob := glob, fns := get [], ntmps := 6 }
theorem eok_law03_own (n : Nat) : EnvOK Tryd.prog (E_law03_own n) := ⟨tys_ok tys_chk, prog_mixed, fns_nil⟩
def K_law03_own (n : Nat) (pl0 : (List (Arr 32 Int))) (r : (List (Arr 32 Int))) : St → Prop := Done (E_law03_own n) Tryd.f30.results.toList [] (ea_law03_own pl0) (er_law03_own r).1 (er_law03_own r).2
set_option maxRecDepth 100000 in
set_option maxHeartbeats 4000000 in
theorem ok_law03_own (n : Nat) : SpecOK Tryd.prog glob 30 (sp_law03_own n) := by
  refine specP_ok (fn := Tryd.f30) (eok_law03_own n) (by kernel_rfl) rfl (by decide +kernel) (by kernel_rfl) (fun _ => by show 1 ≤ 6; omega) (fun h => Bool.noConfusion h) ?_
  rintro pl0 r h C hL hC
  have hE := eok_law03_own n
  replace hL : ∀ n g, (n, g) ∈ C.lent → n ∈ ([] : List Nat) := hL
  replace h : f_law03_own n pl0 = some r := h
  show Ab _ _ _ _ _ (End (K_law03_own n pl0 r))
  unfold f_law03_own at h
  refine Ab.seq ?_
  refine Ab.regT hE hC hL [] { keep := [0], ren := [] } ⟨[(0, (.t ((eS 32 (eA 1 (T.int .u8))) pl0)))], []⟩ [] (by kernel_rfl) trivial ?_
  refine Nxt_norm ?_
  refine Ab.seq ?_
  obtain ⟨hq0, h⟩ := ask_dec h
  refine Ab.regT hE hC hL [[], [], [.l (List.map (eA 1 (T.int .u8)) (([] : List (Arr 32 Int)) ++ pl0))]] { keep := [2], ren := [(5, 5)] } ⟨[(2, (.own 5))], [(5, (.row false 25 32 (List.map (eA 1 (T.int .u8)) (([] : List (Arr 32 Int)) ++ pl0))))]⟩ [(List.length (List.map (eA 1 (T.int .u8)) ([] : List (Arr 32 Int))) + List.length (List.map (eA 1 (T.int .u8)) pl0)) * 32 ≤ maxBytes, List.length (List.map (eA 1 (T.int .u8)) ([] : List (Arr 32 Int))) + List.length (List.map (eA 1 (T.int .u8)) pl0) ≤ maxBytes, (List.map (eA 1 (T.int .u8)) ([] : List (Arr 32 Int))) ++ (List.map (eA 1 (T.int .u8)) pl0) = List.map (eA 1 (T.int .u8)) (([] : List (Arr 32 Int)) ++ pl0)] (by kernel_rfl) ⟨(app_b rfl rfl hq0), (app_c rfl rfl (by decide) hq0), (app_of rfl rfl), trivial⟩ ?_
  refine Nxt_norm ?_
  refine Ab.ret ?_
  obtain rfl := Option.some.inj h
  exact End_ret (doneO_ok (md := [true]) (by kernel_rfl))
def ea_law03_MerkleWider (a : (List (Arr 32 Int)) × Int) : List T := [(eS 32 (eA 1 (T.int .u8))) a.1, (T.int .i64) a.2]
def er_law03_MerkleWider (r : Bool) : List RR × List T := ([.tree (T.bool r)], [])
noncomputable def sp_law03_MerkleWider (n : Nat) : Spec := specP [] true ea_law03_MerkleWider (fun a => f_law03_MerkleWider n a.1 a.2) (fun _ r => er_law03_MerkleWider r)
theorem ap_law03_MerkleWider (n : Nat) {ts : List T} {a0 : (List (Arr 32 Int))} {a1 : Int} {r : Bool} (hle : leTs ts [(eS 32 (eA 1 (T.int .u8))) a0, (T.int .i64) a1]) (h : f_law03_MerkleWider n a0 a1 = some r) : (sp_law03_MerkleWider n).fn ts = some ([.tree (T.bool r)], []) :=
  specP_fn (a := (a0, a1)) (InjA.cons (inj_eS (inj_eA (inj_int _))) (InjA.one (inj_int _))) hle h
noncomputable def E_law03_MerkleWider (n : Nat) : Env := { ty := tyT, glob := glob, fns := get [(16, sp_digest_Pair n), (28, sp_law03_Awake n), (29, sp_merkle_Tree n), (30, sp_law03_own n), (31, sp_merkle_Zero n)], ntmps := 50 }
theorem eok_law03_MerkleWider (n : Nat) : EnvOK Tryd.prog (E_law03_MerkleWider n) := ⟨tys_ok tys_chk, prog_mixed, (fns_cons (ok_digest_Pair n) (fns_cons (ok_law03_Awake n) (fns_cons (ok_merkle_Tree n) (fns_cons (ok_law03_own n) (fns_cons (ok_merkle_Zero n) fns_nil)))))⟩
def K_law03_MerkleWider (n : Nat) (pl0 : (List (Arr 32 Int))) (pdepth0 : Int) (r : Bool) : St → Prop := Done (E_law03_MerkleWider n) Tryd.f8.results.toList [] (ea_law03_MerkleWider (pl0, pdepth0)) (er_law03_MerkleWider r).1 (er_law03_MerkleWider r).2
set_option maxRecDepth 100000 in
set_option maxHeartbeats 4000000 in
theorem ok_law03_MerkleWider (n : Nat) : SpecB Tryd.prog glob 8 (sp_law03_MerkleWider n) := by
  refine specP_B (fn := Tryd.f8) (eok_law03_MerkleWider n) (by kernel_rfl) rfl (by decide +kernel) (by kernel_rfl) (fun _ => by show 2 ≤ 50; omega)  ?_
  rintro ⟨pl0, pdepth0⟩ r h C hL hC
  have hE := eok_law03_MerkleWider n
  replace hL : ∀ n g, (n, g) ∈ C.lent → n ∈ ([] : List Nat) := hL
  replace h : f_law03_MerkleWider n pl0 pdepth0 = some r := h
  show Ab _ _ _ _ _ (End (K_law03_MerkleWider n pl0 pdepth0 r))
  unfold f_law03_MerkleWider at h
  refine Ab.seq ?_
  refine Ab.regT hE hC hL [] { keep := [0, 1], ren := [] } ⟨[(0, (.t ((eS 32 (eA 1 (T.int .u8))) pl0))), (1, (.t (.int .i64 pdepth0)))], []⟩ [] (by kernel_rfl) trivial ?_
  refine Nxt_norm ?_
  refine Ab.seq ?_
  refine Ab.seq ?_
  obtain ⟨r0, hr0, h⟩ := bind_some h
  refine Ab.regT hE hC hL [[.r [.tree (.bool r0)] []]] { keep := [0, 1, 10], ren := [] } ⟨[(0, (.t ((eS 32 (eA 1 (T.int .u8))) pl0))), (1, (.t (.int .i64 pdepth0))), (10, (.t (.bool (!r0))))], []⟩ [(sp_law03_Awake n).fn [] = some ([.tree (.bool r0)], [])] (by kernel_rfl) ⟨(ap_law03_Awake n (by exact trivial) hr0), trivial⟩ ?_
  refine Nxt_norm ?_
  refine Ab.cond (b := (!r0)) (by kernel_rfl) (fun hb0 => ?_) (fun hb0 => ?_)
  · replace h := cond_t hb0 h
    refine Ab.seq ?_
    refine Ab.regT hE hC hL [] { keep := [4], ren := [] } ⟨[(4, (.t (.bool false)))], []⟩ [] (by kernel_rfl) trivial ?_
    refine Nxt_norm ?_
    refine Ab.ret ?_
    refine Nxt_ret ?_
    obtain rfl := Option.some.inj h
    exact End_ret (doneO_ok (md := [false]) (by kernel_rfl))
  · replace h := cond_f hb0 h
    refine Ab.skip ?_
    refine Nxt_norm ?_
    refine Ab.seq ?_
    refine Ab.regT hE hC hL [] { keep := [0, 1], ren := [] } ⟨[(0, (.t ((eS 32 (eA 1 (T.int .u8))) pl0))), (1, (.t (.int .i64 (wi ((w64 pdepth0).tmod (7:Int))))))], []⟩ [] (by kernel_rfl) trivial ?_
    refine Nxt_norm ?_
    refine Ab.seq ?_
    refine Ab.seq ?_
    obtain ⟨hq0, h⟩ := ask_dec h
    refine Ab.regT hE hC hL [[], [.n (pl0.length : Int)], [], [.c]] { keep := [0, 1, 19], ren := [] } ⟨[(0, (.t ((eS 32 (eA 1 (T.int .u8))) pl0))), (1, (.t (.int .i64 (wi ((w64 pdepth0).tmod (7:Int)))))), (19, (.t (.bool (decide ((pl0.length : Int) > (shl .i64 (1:Int) (wi ((w64 pdepth0).tmod (7:Int)))))))))], []⟩ [((List.length (List.map (eA 1 (T.int .u8)) pl0) : Nat) : Int) = (pl0.length : Int), ¬ (wi ((w64 pdepth0).tmod (7:Int))) < 0] (by kernel_rfl) ⟨(len_of rfl), (Int.not_lt.2 hq0), trivial⟩ ?_
    refine Nxt_norm ?_
    refine Ab.cond (b := (decide ((pl0.length : Int) > (shl .i64 (1:Int) (wi ((w64 pdepth0).tmod (7:Int))))))) (by kernel_rfl) (fun hb1 => ?_) (fun hb1 => ?_)
    · replace h := cond_t hb1 h
      refine Ab.seq ?_
      refine Ab.regT hE hC hL [] { keep := [4], ren := [] } ⟨[(4, (.t (.bool true)))], []⟩ [] (by kernel_rfl) trivial ?_
      refine Nxt_norm ?_
      refine Ab.ret ?_
      refine Nxt_ret ?_
      obtain rfl := Option.some.inj h
      exact End_ret (doneO_ok (md := [false]) (by kernel_rfl))
    · replace h := cond_f hb1 h
      refine Ab.skip ?_
      refine Nxt_norm ?_
      refine Ab.seq ?_
      obtain ⟨r1, hr1, h⟩ := bind_some h
      obtain ⟨r2, hr2, h⟩ := bind_some h
      refine Ab.regA hE hC hL [[], [.r [.row 25 32 (List.map (eA 1 (T.int .u8)) r1)] []], [], [.c], [.r [.tree ((eA 1 (T.int .u8)) r2.1), .tree (.int .i64 r2.2)] []]] { keep := [0, 1, 5, 6], ren := [(5, 5)] } ⟨[(0, (.t ((eS 32 (eA 1 (T.int .u8))) pl0))), (1, (.t (.int .i64 (wi ((w64 pdepth0).tmod (7:Int)))))), (5, (.ref 5 [] (0))), (6, (.t (.int .i64 r2.2)))], [(5, (.var false 25 (.t ((eA 1 (T.int .u8)) r2.1))))]⟩ [(sp_law03_own n).fn [((eS 32 (eA 1 (T.int .u8))) pl0)] = some ([.row 25 32 (List.map (eA 1 (T.int .u8)) r1)], []), ¬ (wi ((w64 pdepth0).tmod (7:Int))) < 0, (sp_merkle_Tree n).fn [(.slc 32 (List.map (eA 1 (T.int .u8)) r1)), (.int .i64 (shl .i64 (1:Int) (wi ((w64 pdepth0).tmod (7:Int)))))] = some ([.tree ((eA 1 (T.int .u8)) r2.1), .tree (.int .i64 r2.2)], [])] (by kernel_rfl) (by kernel_rfl) ⟨(ap_law03_own n (by exact ⟨leT.refl _, trivial⟩) hr1), (Int.not_lt.2 hq0), (ap_merkle_Tree n (by exact ⟨leT.refl _, leT.refl _, trivial⟩) hr2), trivial⟩ ?_
      refine Nxt_norm ?_
      refine Ab.seq ?_
      obtain ⟨r3, hr3, h⟩ := bind_some h
      obtain ⟨r4, hr4, h⟩ := bind_some h
      refine Ab.regA hE hC hL [[], [.r [.row 25 32 (List.map (eA 1 (T.int .u8)) r3)] []], [], [.c], [.r [.tree ((eA 1 (T.int .u8)) r4.1), .tree (.int .i64 r4.2)] []]] { keep := [1, 5, 6, 7, 8], ren := [(5, 5), (7, 7)] } ⟨[(1, (.t (.int .i64 (wi ((w64 pdepth0).tmod (7:Int)))))), (5, (.ref 5 [] (0))), (6, (.t (.int .i64 r2.2))), (7, (.ref 7 [] (0))), (8, (.t (.int .i64 r4.2)))], [(5, (.var false 25 (.t ((eA 1 (T.int .u8)) r2.1)))), (7, (.var false 25 (.t ((eA 1 (T.int .u8)) r4.1))))]⟩ [(sp_law03_own n).fn [((eS 32 (eA 1 (T.int .u8))) pl0)] = some ([.row 25 32 (List.map (eA 1 (T.int .u8)) r3)], []), ¬ (wi ((w64 pdepth0).tmod (7:Int))) < 0, (sp_merkle_Tree n).fn [(.slc 32 (List.map (eA 1 (T.int .u8)) r3)), (.int .i64 (shl .i64 (2:Int) (wi ((w64 pdepth0).tmod (7:Int)))))] = some ([.tree ((eA 1 (T.int .u8)) r4.1), .tree (.int .i64 r4.2)], [])] (by kernel_rfl) (by kernel_rfl) ⟨(ap_law03_own n (by exact ⟨leT.refl _, trivial⟩) hr3), (Int.not_lt.2 hq0), (ap_merkle_Tree n (by exact ⟨leT.refl _, leT.refl _, trivial⟩) hr4), trivial⟩ ?_
      refine Nxt_norm ?_
      refine Ab.seq ?_
      rcases Bool.eq_false_or_eq_true (r2.2 == (0:Int)) with hb2 | hb2
      · replace h := cond_t hb2 h
        rcases Bool.eq_false_or_eq_true (r4.2 == (0:Int)) with hb3 | hb3
        · replace h := cond_t hb3 h
          obtain ⟨r5, hr5, h⟩ := bind_some h
          obtain ⟨r6, hr6, h⟩ := bind_some h
          refine Ab.regA hE hC hL [[], [], [.b true], [], [], [], [.b true], [], [], [], [.r [.tree ((eA 1 (T.int .u8)) r5)] []], [.r [.tree ((eA 1 (T.int .u8)) r6)] []], [.b (decide (r4.1 = r6))]] { keep := [4], ren := [] } ⟨[(4, (.t (.bool (decide (r4.1 = r6)))))], []⟩ [(r2.2 == (0:Int)) = true, (r4.2 == (0:Int)) = true, (sp_merkle_Zero n).fn [(.int .i64 (wi ((w64 pdepth0).tmod (7:Int))))] = some ([.tree ((eA 1 (T.int .u8)) r5)], []), (sp_digest_Pair n).fn [((eA 1 (T.int .u8)) r2.1), ((eA 1 (T.int .u8)) r5)] = some ([.tree ((eA 1 (T.int .u8)) r6)], []), binOp (E_law03_MerkleWider n) .eql 25 (.t ((eA 1 (T.int .u8)) r4.1)) (.t ((eA 1 (T.int .u8)) r6)) = some (.bool (decide (r4.1 = r6)))] (by kernel_rfl) (by kernel_rfl) ⟨hb2, hb3, (ap_merkle_Zero n (by exact ⟨leT.refl _, trivial⟩) hr5), (ap_digest_Pair n (by exact ⟨leT.refl _, leT.refl _, trivial⟩) hr6), (beql_25 _ rfl _ _), trivial⟩ ?_
          refine Nxt_norm ?_
          refine Ab.ret ?_
          obtain rfl := Option.some.inj h
          exact End_ret (doneO_ok (md := [false]) (by kernel_rfl))
        · replace h := cond_f hb3 h
          refine Ab.regA hE hC hL [[], [], [.b true], [], [], [], [.b false]] { keep := [4], ren := [] } ⟨[(4, (.t (.bool false)))], []⟩ [(r2.2 == (0:Int)) = true, (r4.2 == (0:Int)) = false] (by kernel_rfl) (by kernel_rfl) ⟨hb2, hb3, trivial⟩ ?_
          refine Nxt_norm ?_
          refine Ab.ret ?_
          obtain rfl := Option.some.inj h
          exact End_ret (doneO_ok (md := [false]) (by kernel_rfl))
      · replace h := cond_f hb2 h
        refine Ab.regA hE hC hL [[], [], [.b false]] { keep := [4], ren := [] } ⟨[(4, (.t (.bool false)))], []⟩ [(r2.2 == (0:Int)) = false] (by kernel_rfl) (by kernel_rfl) ⟨hb2, trivial⟩ ?_
        refine Nxt_norm ?_
        refine Ab.ret ?_
        obtain rfl := Option.some.inj h
        exact End_ret (doneO_ok (md := [false]) (by kernel_rfl))
def ea_ref02_Depth (a : Int) : List T := [(T.int .i64) a]
def er_ref02_Depth (r : Int) : List RR × List T := ([.tree ((T.int .i64) r)], [])
noncomputable def sp_ref02_Depth (n : Nat) : Spec := specP [] true ea_ref02_Depth (fun a => f_ref02_Depth n a) (fun _ r => er_ref02_Depth r)
theorem ap_ref02_Depth (n : Nat) {ts : List T} {a0 : Int} {r : Int} (hle : leTs ts [(T.int .i64) a0]) (h : f_ref02_Depth n a0 = some r) : (sp_ref02_Depth n).fn ts = some ([.tree ((T.int .i64) r)], []) :=
  specP_fn (a := a0) (InjA.one (inj_int _)) hle h
noncomputable def E_ref02_Depth (n : Nat) : Env := { ty := tyT, glob := glob, fns := get [], ntmps := 15 }
theorem eok_ref02_Depth (n : Nat) : EnvOK Tryd.prog (E_ref02_Depth n) := ⟨tys_ok tys_chk, prog_mixed, fns_nil⟩
def K_ref02_Depth (n : Nat) (plimit0 : Int) (r : Int) : St → Prop := Done (E_ref02_Depth n) Tryd.f37.results.toList [] (ea_ref02_Depth plimit0) (er_ref02_Depth r).1 (er_ref02_Depth r).2
set_option maxRecDepth 100000 in
set_option maxHeartbeats 4000000 in
theorem ok_ref02_Depth (n : Nat) : SpecOK Tryd.prog glob 37 (sp_ref02_Depth n) := by
  refine specP_ok (fn := Tryd.f37) (eok_ref02_Depth n) (by kernel_rfl) rfl (by decide +kernel) (by kernel_rfl) (fun _ => by show 1 ≤ 15; omega) (fun _ _ r => ⟨(rrf_tree ((fun _ => rfl) _) rrf_nil), flats_nil⟩) ?_
  rintro plimit0 r h C hL hC
  have hE := eok_ref02_Depth n
  replace hL : ∀ n g, (n, g) ∈ C.lent → n ∈ ([] : List Nat) := hL
  replace h : f_ref02_Depth n plimit0 = some r := h
  show Ab _ _ _ _ _ (End (K_ref02_Depth n plimit0 r))
  unfold f_ref02_Depth at h
  refine Ab.seq ?_
  refine Ab.regT hE hC hL [] { keep := [0], ren := [] } ⟨[(0, (.t (.int .i64 plimit0)))], []⟩ [] (by kernel_rfl) trivial ?_
  refine Nxt_norm ?_
  refine Ab.seq ?_
  refine Ab.regT hE hC hL [] { keep := [0, 3], ren := [] } ⟨[(0, (.t (.int .i64 plimit0))), (3, (.t (.int .i64 (0:Int))))], []⟩ [] (by kernel_rfl) trivial ?_
  refine Nxt_norm ?_
  obtain ⟨x0, hx0, h⟩ := bind_some h
  refine Ab.loopX (fun (a0 : Int) => (⟨[(0, (.t (.int .i64 plimit0))), (3, (.t (.int .i64 a0)))], []⟩ : St)) (fun (a1 : Int) => (⟨[(3, (.t (.int .i64 a1)))], []⟩ : St)) { fs := [], keep := [0, 3], ren := [] } (0:Int) hC hL hx0 (by kernel_rfl) ?_ ?_
  · rintro a0 o0 h
    replace h : f_ref02_Depth_b0 n plimit0 a0 = some o0 := h
    unfold f_ref02_Depth_b0 at h
    refine Ab.seq ?_
    refine Ab.seq ?_
    rcases Bool.eq_false_or_eq_true (decide (a0 < (62:Int))) with hb0 | hb0
    · replace h := cond_t hb0 h
      obtain ⟨hq0, h⟩ := ask_dec h
      refine Ab.regT hE hC hL [[], [], [.b true], [], [.c]] { keep := [0, 3, 11], ren := [] } ⟨[(0, (.t (.int .i64 plimit0))), (3, (.t (.int .i64 a0))), (11, (.t (.bool (decide ((shl .i64 (1:Int) a0) < plimit0)))))], []⟩ [(decide (a0 < (62:Int))) = true, ¬ a0 < 0] (by kernel_rfl) ⟨hb0, (Int.not_lt.2 hq0), trivial⟩ ?_
      refine Nxt_norm ?_
      refine Ab.cond (b := (decide ((shl .i64 (1:Int) a0) < plimit0))) (by kernel_rfl) (fun hb1 => ?_) (fun hb1 => ?_)
      · replace h := cond_t hb1 h
        refine Ab.skip ?_
        refine Nxt_norm ?_
        refine Ab.block ?_
        refine Ab.regT hE hC hL [] { keep := [0, 3], ren := [] } ⟨[(0, (.t (.int .i64 plimit0))), (3, (.t (.int .i64 (wi (a0 + (1:Int))))))], []⟩ [] (by kernel_rfl) trivial ?_
        refine Blk_norm ?_
        exact LK_norm (wi (a0 + (1:Int))) { fs := [], keep := [0, 3], ren := [] } h (by kernel_rfl)
      · replace h := cond_f hb1 h
        refine Ab.exit ?_
        refine Nxt_exit ?_
        exact LK_exit a0 h (PX_mk { fs := [], keep := [3], ren := [] } (by kernel_rfl))
    · replace h := cond_f hb0 h
      refine Ab.regT hE hC hL [[], [], [.b false]] { keep := [0, 3, 11], ren := [] } ⟨[(0, (.t (.int .i64 plimit0))), (3, (.t (.int .i64 a0))), (11, (.t (.bool false)))], []⟩ [(decide (a0 < (62:Int))) = false] (by kernel_rfl) ⟨hb0, trivial⟩ ?_
      refine Nxt_norm ?_
      refine Ab.cond (b := false) (by kernel_rfl) (fun hb => Bool.noConfusion hb) (fun _ => ?_)
      refine Ab.exit ?_
      refine Nxt_exit ?_
      exact LK_exit a0 h (PX_mk { fs := [], keep := [3], ren := [] } (by kernel_rfl))
  · refine Ab.seq ?_
    refine Ab.regT hE hC hL [] { keep := [2], ren := [] } ⟨[(2, (.t (.int .i64 x0)))], []⟩ [] (by kernel_rfl) trivial ?_
    refine Nxt_norm ?_
    refine Ab.ret ?_
    obtain rfl := Option.some.inj h
    exact End_ret (doneO_ok (md := [false]) (by kernel_rfl))
def ea_ref02_Zero (a : Int) : List T := [(T.int .i64) a]
def er_ref02_Zero (r : (Arr 32 Int)) : List RR × List T := ([.tree ((eA 1 (T.int .u8)) r)], [])
noncomputable def sp_ref02_Zero (n : Nat) : Spec := specP [] true ea_ref02_Zero (fun a => f_ref02_Zero n a) (fun _ r => er_ref02_Zero r)
theorem ap_ref02_Zero (n : Nat) {ts : List T} {a0 : Int} {r : (Arr 32 Int)} (hle : leTs ts [(T.int .i64) a0]) (h : f_ref02_Zero n a0 = some r) : (sp_ref02_Zero n).fn ts = some ([.tree ((eA 1 (T.int .u8)) r)], []) :=
  specP_fn (a := a0) (InjA.one (inj_int _)) hle h
noncomputable def E_ref02_Zero (n : Nat) : Env := { ty := tyT, glob := glob, fns := get [(17, sp_ref02_Pair n)], ntmps := 15 }
theorem eok_ref02_Zero (n : Nat) : EnvOK Tryd.prog (E_ref02_Zero n) := ⟨tys_ok tys_chk, prog_mixed, (fns_cons (ok_ref02_Pair n) fns_nil)⟩
def K_ref02_Zero (n : Nat) (pdepth0 : Int) (r : (Arr 32 Int)) : St → Prop := Done (E_ref02_Zero n) Tryd.f38.results.toList [] (ea_ref02_Zero pdepth0) (er_ref02_Zero r).1 (er_ref02_Zero r).2
set_option maxRecDepth 100000 in
set_option maxHeartbeats 4000000 in
theorem ok_ref02_Zero (n : Nat) : SpecOK Tryd.prog glob 38 (sp_ref02_Zero n) := by
  refine specP_ok (fn := Tryd.f38) (eok_ref02_Zero n) (by kernel_rfl) rfl (by decide +kernel) (by kernel_rfl) (fun _ => by show 1 ≤ 15; omega) (fun _ _ r => ⟨(rrf_tree ((flat_eA (fun _ => rfl)) _) rrf_nil), flats_nil⟩) ?_
  rintro pdepth0 r h C hL hC
  have hE := eok_ref02_Zero n
  replace hL : ∀ n g, (n, g) ∈ C.lent → n ∈ ([] : List Nat) := hL
  replace h : f_ref02_Zero n pdepth0 = some r := h
  show Ab _ _ _ _ _ (End (K_ref02_Zero n pdepth0 r))
  unfold f_ref02_Zero at h
  refine Ab.seq ?_
  refine Ab.regT hE hC hL [] { keep := [0, 2], ren := [(2, 2)] } ⟨[(0, (.t (.int .i64 pdepth0))), (2, (.ref 2 [] (0)))], [(2, (.var false 24 (.t ((eA 1 (T.int .u8)) (Arr.rep 32 (0:Int))))))]⟩ [] (by kernel_rfl) trivial ?_
  refine Nxt_norm ?_
  refine Ab.seq ?_
  refine Ab.regT hE hC hL [] { keep := [0, 2, 3], ren := [(2, 2), (3, 3)] } ⟨[(0, (.t (.int .i64 pdepth0))), (2, (.ref 2 [] (0))), (3, (.ref 3 [] (0)))], [(2, (.var false 24 (.t ((eA 1 (T.int .u8)) (Arr.rep 32 (0:Int)))))), (3, (.var false 24 (.t ((eA 1 (T.int .u8)) (Arr.rep 32 (0:Int))))))]⟩ [] (by kernel_rfl) trivial ?_
  refine Nxt_norm ?_
  refine Ab.seq ?_
  refine Ab.seq ?_
  refine Ab.regT hE hC hL [] { keep := [0, 2, 3, 4], ren := [(2, 2), (3, 3)] } ⟨[(0, (.t (.int .i64 pdepth0))), (2, (.ref 2 [] (0))), (3, (.ref 3 [] (0))), (4, (.t (.int .i64 (0:Int))))], [(2, (.var false 24 (.t ((eA 1 (T.int .u8)) (Arr.rep 32 (0:Int)))))), (3, (.var false 24 (.t ((eA 1 (T.int .u8)) (Arr.rep 32 (0:Int))))))]⟩ [] (by kernel_rfl) trivial ?_
  refine Nxt_norm ?_
  obtain ⟨x0, hx0, h⟩ := bind_some h
  refine Ab.loopX0 (fun ((a0, a1) : ((Arr 32 Int) × Int)) => (⟨[(0, (.t (.int .i64 pdepth0))), (2, (.ref 49000 [] (0))), (3, (.ref 49001 [] (0))), (4, (.t (.int .i64 a1)))], [(49000, (.var false 24 (.t ((eA 1 (T.int .u8)) (Arr.rep 32 (0:Int)))))), (49001, (.var false 24 (.t ((eA 1 (T.int .u8)) a0))))]⟩ : St)) (fun (a2 : (Arr 32 Int)) => (⟨[(2, (.ref 49000 [] (0))), (3, (.ref 49001 [] (0)))], [(49000, (.var false 24 (.t ((eA 1 (T.int .u8)) (Arr.rep 32 (0:Int)))))), (49001, (.var false 24 (.t ((eA 1 (T.int .u8)) a2))))]⟩ : St)) { fs := [], keep := [0, 2, 3, 4], ren := [(2, 49000), (3, 49001)] } ((Arr.rep 32 (0:Int)), (0:Int)) hC hL hx0 (by kernel_rfl) ?_ ?_
  · rintro ⟨a0, a1⟩ o0 h
    replace h : f_ref02_Zero_b0 n pdepth0 a0 a1 = some o0 := h
    unfold f_ref02_Zero_b0 at h
    refine Ab.seq ?_
    refine Ab.seq ?_
    refine Ab.regT hE hC hL [] { keep := [0, 2, 3, 4, 8], ren := [(49000, 49000), (49001, 49001)] } ⟨[(0, (.t (.int .i64 pdepth0))), (2, (.ref 49000 [] (0))), (3, (.ref 49001 [] (0))), (4, (.t (.int .i64 a1))), (8, (.t (.bool (decide (a1 < pdepth0)))))], [(49000, (.var false 24 (.t ((eA 1 (T.int .u8)) (Arr.rep 32 (0:Int)))))), (49001, (.var false 24 (.t ((eA 1 (T.int .u8)) a0))))]⟩ [] (by kernel_rfl) trivial ?_
    refine Nxt_norm ?_
    refine Ab.cond (b := (decide (a1 < pdepth0))) (by kernel_rfl) (fun hb0 => ?_) (fun hb0 => ?_)
    · replace h := cond_t hb0 h
      refine Ab.skip ?_
      refine Nxt_norm ?_
      refine Ab.seq ?_
      refine Ab.block ?_
      obtain ⟨r0, hr0, h⟩ := bind_some h
      refine Ab.regT hE hC hL [[], [], [.r [.tree ((eA 1 (T.int .u8)) r0)] []]] { keep := [0, 2, 3, 4], ren := [(49000, 49000), (49001, 49001)] } ⟨[(0, (.t (.int .i64 pdepth0))), (2, (.ref 49000 [] (0))), (3, (.ref 49001 [] (0))), (4, (.t (.int .i64 a1)))], [(49000, (.var false 24 (.t ((eA 1 (T.int .u8)) (Arr.rep 32 (0:Int)))))), (49001, (.var false 24 (.t ((eA 1 (T.int .u8)) r0))))]⟩ [(sp_ref02_Pair n).fn [((eA 1 (T.int .u8)) a0), ((eA 1 (T.int .u8)) a0)] = some ([.tree ((eA 1 (T.int .u8)) r0)], [])] (by kernel_rfl) ⟨(ap_ref02_Pair n (by exact ⟨leT.refl _, leT.refl _, trivial⟩) hr0), trivial⟩ ?_
      refine Blk_norm ?_
      refine Nxt_norm ?_
      refine Ab.regT hE hC hL [] { keep := [0, 2, 3, 4], ren := [(49000, 49000), (49001, 49001)] } ⟨[(0, (.t (.int .i64 pdepth0))), (2, (.ref 49000 [] (0))), (3, (.ref 49001 [] (0))), (4, (.t (.int .i64 (wi (a1 + (1:Int))))))], [(49000, (.var false 24 (.t ((eA 1 (T.int .u8)) (Arr.rep 32 (0:Int)))))), (49001, (.var false 24 (.t ((eA 1 (T.int .u8)) r0))))]⟩ [] (by kernel_rfl) trivial ?_
      exact LK_norm (r0, (wi (a1 + (1:Int)))) { fs := [], keep := [0, 2, 3, 4], ren := [(49000, 49000), (49001, 49001)] } h (by kernel_rfl)
    · replace h := cond_f hb0 h
      refine Ab.exit ?_
      refine Nxt_exit ?_
      exact LK_exit a0 h (PX_mk { fs := [], keep := [2, 3], ren := [(49000, 49000), (49001, 49001)] } (by kernel_rfl))
  · refine Nxt_norm ?_
    refine Ab.seq ?_
    refine Ab.regT hE hC hL [] { keep := [2], ren := [(49000, 49000)] } ⟨[(2, (.ref 49000 [] (0)))], [(49000, (.var false 24 (.t ((eA 1 (T.int .u8)) x0))))]⟩ [] (by kernel_rfl) trivial ?_
    refine Nxt_norm ?_
    refine Ab.ret ?_
    obtain rfl := Option.some.inj h
    exact End_ret (doneO_ok (md := [false]) (by kernel_rfl))

end Go.Mg
