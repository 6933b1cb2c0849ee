/- The model's code computes these functions. -/
import Derived.Test.YthfhkoncbpfppaaAF
namespace Go.Mg
open Go Go.Proofs
noncomputable def sp_bits_Add64 (n : Nat) : Spec := spAdd
theorem ok_bits_Add64 (n : Nat) : SpecOK Try.prog glob 37 (sp_bits_Add64 n) := spAdd_ok (fn := Try.f37) (by kernel_rfl) (by decide +kernel) (by kernel_rfl) (by kernel_rfl) (by kernel_rfl)
theorem ap_bits_Add64 (n : Nat) {ts : List T} {a b c : Int} {r : Int × Int} (hle : leTs ts [T.int .u64 a, T.int .u64 b, T.int .u64 c]) (h : f_bits_Add64 n a b c = some r) : (sp_bits_Add64 n).fn ts = some ([.tree (T.int .u64 r.1), .tree (T.int .u64 r.2)], []) := spAdd_fn hle h
def ea_duty_Slashable (a : GVote × GVote) : List T := [e_GVote a.1, e_GVote a.2]
def er_duty_Slashable (r : Bool) : List RR × List T := ([.tree (T.bool r)], [])
noncomputable def sp_duty_Slashable (n : Nat) : Spec := specP [] true ea_duty_Slashable (fun a => f_duty_Slashable n a.1 a.2) (fun _ r => er_duty_Slashable r)
theorem ap_duty_Slashable (n : Nat) {ts : List T} {a0 : GVote} {a1 : GVote} {r : Bool} (hle : leTs ts [e_GVote a0, e_GVote a1]) (h : f_duty_Slashable n a0 a1 = some r) : (sp_duty_Slashable n).fn ts = some ([.tree (T.bool r)], []) :=
  specP_fn (a := (a0, a1)) (InjA.cons i_GVote (InjA.one i_GVote)) hle h
noncomputable def E_duty_Slashable (n : Nat) : Env := { ty := tyT, glob := glob, fns := get [], ntmps := 35 }
theorem eok_duty_Slashable (n : Nat) : EnvOK Try.prog (E_duty_Slashable n) := ⟨tys_ok tys_chk, prog_mixed, fns_nil⟩
def K_duty_Slashable (n : Nat) (pa0 : GVote) (pb0 : GVote) (r : Bool) : St → Prop := Done (E_duty_Slashable n) Try.f10.results.toList [] (ea_duty_Slashable (pa0, pb0)) (er_duty_Slashable r).1 (er_duty_Slashable r).2
set_option maxRecDepth 100000 in
set_option maxHeartbeats 4000000 in
theorem ok_duty_Slashable (n : Nat) : SpecOK Try.prog glob 10 (sp_duty_Slashable n) := by
  refine specP_ok (fn := Try.f10) (eok_duty_Slashable n) (by kernel_rfl) rfl (by decide +kernel) (by kernel_rfl) (fun _ => by show 2 ≤ 35; omega) (fun _ _ r => ⟨(rrf_tree ((fun _ => rfl) _) rrf_nil), flats_nil⟩) ?_
  rintro ⟨pa0, pb0⟩ r h C hL hC
  have hE := eok_duty_Slashable n
  replace hL : ∀ n g, (n, g) ∈ C.lent → n ∈ ([] : List Nat) := hL
  replace h : f_duty_Slashable n pa0 pb0 = some r := h
  show Ab _ _ _ _ _ (End (K_duty_Slashable n pa0 pb0 r))
  unfold f_duty_Slashable at h
  refine Ab.seq ?_
  refine Ab.regT hE hC hL [] { keep := [2, 3], ren := [(2, 2), (3, 3)] } ⟨[(2, (.ref 2 [] (0))), (3, (.ref 3 [] (0)))], [(2, (.var false 28 (.t (e_GVote pa0)))), (3, (.var false 28 (.t (e_GVote pb0))))]⟩ [] (by kernel_rfl) trivial ?_
  refine Nxt_norm ?_
  refine Ab.seq ?_
  rcases Bool.eq_false_or_eq_true (!(decide (pa0 = pb0))) with hb0 | hb0
  · replace h := cond_t hb0 h
    rcases Bool.eq_false_or_eq_true (pa0.Target.Epoch == pb0.Target.Epoch) with hb1 | hb1
    · replace h := cond_t hb1 h
      refine Ab.regT hE hC hL [[], [], [.b (!(decide (pa0 = pb0)))], [.b true], [], [], [], [], [], [], [], [], [.b true]] { keep := [4], ren := [] } ⟨[(4, (.t (.bool true)))], []⟩ [binOp (E_duty_Slashable n) .neq 28 (.t (e_GVote pa0)) (.t (e_GVote pb0)) = some (.bool (!(decide (pa0 = pb0)))), (!(decide (pa0 = pb0))) = true, (pa0.Target.Epoch == pb0.Target.Epoch) = true] (by kernel_rfl) ⟨(bneq_28 _ rfl _ _), hb0, hb1, trivial⟩ ?_
      refine Nxt_norm ?_
      refine Ab.ret ?_
      obtain rfl := Option.some.inj h
      exact End_ret (doneO_ok (md := [false]) (by kernel_rfl))
    · replace h := cond_f hb1 h
      rcases Bool.eq_false_or_eq_true (decide (pa0.Source.Epoch < pb0.Source.Epoch)) with hb2 | hb2
      · replace h := cond_t hb2 h
        refine Ab.regT hE hC hL [[], [], [.b (!(decide (pa0 = pb0)))], [.b true], [], [], [], [], [], [], [], [], [.b false], [], [], [], [], [], [], [], [.b true]] { keep := [4], ren := [] } ⟨[(4, (.t (.bool (decide (pb0.Target.Epoch < pa0.Target.Epoch)))))], []⟩ [binOp (E_duty_Slashable n) .neq 28 (.t (e_GVote pa0)) (.t (e_GVote pb0)) = some (.bool (!(decide (pa0 = pb0)))), (!(decide (pa0 = pb0))) = true, (pa0.Target.Epoch == pb0.Target.Epoch) = false, (decide (pa0.Source.Epoch < pb0.Source.Epoch)) = true] (by kernel_rfl) ⟨(bneq_28 _ rfl _ _), hb0, hb1, hb2, trivial⟩ ?_
        refine Nxt_norm ?_
        refine Ab.ret ?_
        obtain rfl := Option.some.inj h
        exact End_ret (doneO_ok (md := [false]) (by kernel_rfl))
      · replace h := cond_f hb2 h
        refine Ab.regT hE hC hL [[], [], [.b (!(decide (pa0 = pb0)))], [.b true], [], [], [], [], [], [], [], [], [.b false], [], [], [], [], [], [], [], [.b false]] { keep := [4], ren := [] } ⟨[(4, (.t (.bool false)))], []⟩ [binOp (E_duty_Slashable n) .neq 28 (.t (e_GVote pa0)) (.t (e_GVote pb0)) = some (.bool (!(decide (pa0 = pb0)))), (!(decide (pa0 = pb0))) = true, (pa0.Target.Epoch == pb0.Target.Epoch) = false, (decide (pa0.Source.Epoch < pb0.Source.Epoch)) = false] (by kernel_rfl) ⟨(bneq_28 _ rfl _ _), hb0, hb1, hb2, trivial⟩ ?_
        refine Nxt_norm ?_
        refine Ab.ret ?_
        obtain rfl := Option.some.inj h
        exact End_ret (doneO_ok (md := [false]) (by kernel_rfl))
  · replace h := cond_f hb0 h
    rcases Bool.eq_false_or_eq_true (decide (pa0.Source.Epoch < pb0.Source.Epoch)) with hb3 | hb3
    · replace h := cond_t hb3 h
      refine Ab.regT hE hC hL [[], [], [.b (!(decide (pa0 = pb0)))], [.b false], [], [], [], [], [], [], [], [], [], [], [], [], [], [], [], [], [.b true]] { keep := [4], ren := [] } ⟨[(4, (.t (.bool (decide (pb0.Target.Epoch < pa0.Target.Epoch)))))], []⟩ [binOp (E_duty_Slashable n) .neq 28 (.t (e_GVote pa0)) (.t (e_GVote pb0)) = some (.bool (!(decide (pa0 = pb0)))), (!(decide (pa0 = pb0))) = false, (decide (pa0.Source.Epoch < pb0.Source.Epoch)) = true] (by kernel_rfl) ⟨(bneq_28 _ rfl _ _), hb0, hb3, trivial⟩ ?_
      refine Nxt_norm ?_
      refine Ab.ret ?_
      obtain rfl := Option.some.inj h
      exact End_ret (doneO_ok (md := [false]) (by kernel_rfl))
    · replace h := cond_f hb3 h
      refine Ab.regT hE hC hL [[], [], [.b (!(decide (pa0 = pb0)))], [.b false], [], [], [], [], [], [], [], [], [], [], [], [], [], [], [], [], [.b false]] { keep := [4], ren := [] } ⟨[(4, (.t (.bool false)))], []⟩ [binOp (E_duty_Slashable n) .neq 28 (.t (e_GVote pa0)) (.t (e_GVote pb0)) = some (.bool (!(decide (pa0 = pb0)))), (!(decide (pa0 = pb0))) = false, (decide (pa0.Source.Epoch < pb0.Source.Epoch)) = false] (by kernel_rfl) ⟨(bneq_28 _ rfl _ _), hb0, hb3, trivial⟩ ?_
      refine Nxt_norm ?_
      refine Ab.ret ?_
      obtain rfl := Option.some.inj h
      exact End_ret (doneO_ok (md := [false]) (by kernel_rfl))
def ea_duty_Epoch (a : Int) : List T := [(T.int .u64) a]
def er_duty_Epoch (r : Int) : List RR × List T := ([.tree ((T.int .u64) r)], [])
noncomputable def sp_duty_Epoch (n : Nat) : Spec := specP [] true ea_duty_Epoch (fun a => f_duty_Epoch n a) (fun _ r => er_duty_Epoch r)
theorem ap_duty_Epoch (n : Nat) {ts : List T} {a0 : Int} {r : Int} (hle : leTs ts [(T.int .u64) a0]) (h : f_duty_Epoch n a0 = some r) : (sp_duty_Epoch n).fn ts = some ([.tree ((T.int .u64) r)], []) :=
  specP_fn (a := a0) (InjA.one (inj_int _)) hle h
noncomputable def E_duty_Epoch (n : Nat) : Env := { ty := tyT, glob := glob, fns := get [], ntmps := 5 }
theorem eok_duty_Epoch (n : Nat) : EnvOK Try.prog (E_duty_Epoch n) := ⟨tys_ok tys_chk, prog_mixed, fns_nil⟩
def K_duty_Epoch (n : Nat) (pslot0 : Int) (r : Int) : St → Prop := Done (E_duty_Epoch n) Try.f12.results.toList [] (ea_duty_Epoch pslot0) (er_duty_Epoch r).1 (er_duty_Epoch r).2
set_option maxRecDepth 100000 in
set_option maxHeartbeats 4000000 in
theorem ok_duty_Epoch (n : Nat) : SpecOK Try.prog glob 12 (sp_duty_Epoch n) := by
  refine specP_ok (fn := Try.f12) (eok_duty_Epoch n) (by kernel_rfl) rfl (by decide +kernel) (by kernel_rfl) (fun _ => by show 1 ≤ 5; omega) (fun _ _ r => ⟨(rrf_tree ((fun _ => rfl) _) rrf_nil), flats_nil⟩) ?_
  rintro pslot0 r h C hL hC
  have hE := eok_duty_Epoch n
  replace hL : ∀ n g, (n, g) ∈ C.lent → n ∈ ([] : List Nat) := hL
  replace h : f_duty_Epoch n pslot0 = some r := h
  show Ab _ _ _ _ _ (End (K_duty_Epoch n pslot0 r))
  unfold f_duty_Epoch at h
  refine Ab.seq ?_
  refine Ab.regT hE hC hL [] { keep := [0], ren := [] } ⟨[(0, (.t (.int .u64 pslot0)))], []⟩ [] (by kernel_rfl) trivial ?_
  refine Nxt_norm ?_
  refine Ab.seq ?_
  refine Ab.regT hE hC hL [] { keep := [2], ren := [] } ⟨[(2, (.t (.int .u64 (w64 (pslot0.tdiv (4:Int))))))], []⟩ [] (by kernel_rfl) trivial ?_
  refine Nxt_norm ?_
  refine Ab.ret ?_
  obtain rfl := Option.some.inj h
  exact End_ret (doneO_ok (md := [false]) (by kernel_rfl))
def ea_duty_Total (a : GState × (List Int)) : List T := [e_GState a.1, (eS 1 (T.int .u64)) a.2]
def er_duty_Total (r : Int) : List RR × List T := ([.tree ((T.int .u64) r)], [])
noncomputable def sp_duty_Total (n : Nat) : Spec := specP [] true ea_duty_Total (fun a => f_duty_Total n a.1 a.2) (fun _ r => er_duty_Total r)
theorem ap_duty_Total (n : Nat) {ts : List T} {a0 : GState} {a1 : (List Int)} {r : Int} (hle : leTs ts [e_GState a0, (eS 1 (T.int .u64)) a1]) (h : f_duty_Total n a0 a1 = some r) : (sp_duty_Total n).fn ts = some ([.tree ((T.int .u64) r)], []) :=
  specP_fn (a := (a0, a1)) (InjA.cons i_GState (InjA.one (inj_eS (inj_int _)))) hle h
noncomputable def E_duty_Total (n : Nat) : Env := { ty := tyT, glob := glob, fns := get [], ntmps := 31 }
theorem eok_duty_Total (n : Nat) : EnvOK Try.prog (E_duty_Total n) := ⟨tys_ok tys_chk, prog_mixed, fns_nil⟩
def K_duty_Total (n : Nat) (ps0 : GState) (psome0 : (List Int)) (r : Int) : St → Prop := Done (E_duty_Total n) Try.f35.results.toList [] (ea_duty_Total (ps0, psome0)) (er_duty_Total r).1 (er_duty_Total r).2
set_option maxRecDepth 100000 in
set_option maxHeartbeats 4000000 in
theorem ok_duty_Total (n : Nat) : SpecOK Try.prog glob 35 (sp_duty_Total n) := by
  refine specP_ok (fn := Try.f35) (eok_duty_Total n) (by kernel_rfl) rfl (by decide +kernel) (by kernel_rfl) (fun _ => by show 2 ≤ 31; omega) (fun _ _ r => ⟨(rrf_tree ((fun _ => rfl) _) rrf_nil), flats_nil⟩) ?_
  rintro ⟨ps0, psome0⟩ r h C hL hC
  have hE := eok_duty_Total n
  replace hL : ∀ n g, (n, g) ∈ C.lent → n ∈ ([] : List Nat) := hL
  replace h : f_duty_Total n ps0 psome0 = some r := h
  show Ab _ _ _ _ _ (End (K_duty_Total n ps0 psome0 r))
  unfold f_duty_Total at h
  refine Ab.seq ?_
  refine Ab.regT hE hC hL [] { keep := [1, 2], ren := [(2, 2)] } ⟨[(1, (.t ((eS 1 (T.int .u64)) psome0))), (2, (.ref 2 [] (0)))], [(2, (.var false 46 (.t (e_GState ps0))))]⟩ [] (by kernel_rfl) trivial ?_
  refine Nxt_norm ?_
  refine Ab.seq ?_
  refine Ab.regT hE hC hL [] { keep := [1, 2, 5], ren := [(2, 2)] } ⟨[(1, (.t ((eS 1 (T.int .u64)) psome0))), (2, (.ref 2 [] (0))), (5, (.t (.int .u64 (0:Int))))], [(2, (.var false 46 (.t (e_GState ps0))))]⟩ [] (by kernel_rfl) trivial ?_
  refine Nxt_norm ?_
  refine Ab.seq ?_
  refine Ab.seq ?_
  refine Ab.regT hE hC hL [[], [.n (psome0.length : Int)]] { keep := [2, 5, 8, 9, 10], ren := [(2, 2)] } ⟨[(2, (.ref 2 [] (0))), (5, (.t (.int .u64 (0:Int)))), (8, (.t ((eS 1 (T.int .u64)) psome0))), (9, (.t (.int .i64 (psome0.length : Int)))), (10, (.t (.int .i64 (0:Int))))], [(2, (.var false 46 (.t (e_GState ps0))))]⟩ [((List.length (List.map (T.int .u64) psome0) : Nat) : Int) = (psome0.length : Int)] (by kernel_rfl) ⟨(len_of rfl), trivial⟩ ?_
  refine Nxt_norm ?_
  obtain ⟨x0, hx0, h⟩ := bind_some h
  refine Ab.loopX0 (fun ((a0, a1) : (Int × Int)) => (⟨[(2, (.ref 49000 [] (0))), (5, (.t (.int .u64 a0))), (8, (.t ((eS 1 (T.int .u64)) psome0))), (9, (.t (.int .i64 (psome0.length : Int)))), (10, (.t (.int .i64 a1)))], [(49000, (.var false 46 (.t (e_GState ps0))))]⟩ : St)) (fun (a2 : Int) => (⟨[(5, (.t (.int .u64 a2)))], []⟩ : St)) { fs := [], keep := [2, 5, 8, 9, 10], ren := [(2, 49000)] } ((0:Int), (0:Int)) hC hL hx0 (by kernel_rfl) ?_ ?_
  · rintro ⟨a0, a1⟩ o0 h
    replace h : f_duty_Total_b0 n ps0 psome0 a0 a1 = some o0 := h
    unfold f_duty_Total_b0 at h
    refine Ab.seq ?_
    refine Ab.regT hE hC hL [] { keep := [2, 5, 8, 9, 10, 11], ren := [(49000, 49000)] } ⟨[(2, (.ref 49000 [] (0))), (5, (.t (.int .u64 a0))), (8, (.t ((eS 1 (T.int .u64)) psome0))), (9, (.t (.int .i64 (psome0.length : Int)))), (10, (.t (.int .i64 a1))), (11, (.t (.bool (decide (a1 < (psome0.length : Int))))))], [(49000, (.var false 46 (.t (e_GState ps0))))]⟩ [] (by kernel_rfl) trivial ?_
    refine Nxt_norm ?_
    refine Ab.seq ?_
    refine Ab.cond (b := (decide (a1 < (psome0.length : Int)))) (by kernel_rfl) (fun hb0 => ?_) (fun hb0 => ?_)
    · replace h := cond_t hb0 h
      refine Ab.skip ?_
      refine Nxt_norm ?_
      refine Ab.seq ?_
      refine Ab.block ?_
      refine Ab.seq ?_
      obtain ⟨hq0, h⟩ := ask_dec h
      obtain ⟨v0, hv0, h⟩ := bind_some h
      refine Ab.regT hE hC hL [[.t (.int .u64 v0)]] { keep := [2, 5, 7, 8, 9, 10], ren := [(49000, 49000)] } ⟨[(2, (.ref 49000 [] (0))), (5, (.t (.int .u64 a0))), (7, (.t (.int .u64 v0))), (8, (.t ((eS 1 (T.int .u64)) psome0))), (9, (.t (.int .i64 (psome0.length : Int)))), (10, (.t (.int .i64 a1)))], [(49000, (.var false 46 (.t (e_GState ps0))))]⟩ [0 ≤ a1, (List.map (T.int .u64) psome0)[a1.toNat]? = some (.int .u64 v0)] (by kernel_rfl) ⟨hq0, (at_map hv0), trivial⟩ ?_
      refine Nxt_norm ?_
      refine Ab.seq ?_
      refine Ab.regT hE hC hL [[], [], [], [.n (ps0.Validators.length : Int)]] { keep := [2, 5, 7, 8, 9, 10, 19], ren := [(49000, 49000)] } ⟨[(2, (.ref 49000 [] (0))), (5, (.t (.int .u64 a0))), (7, (.t (.int .u64 v0))), (8, (.t ((eS 1 (T.int .u64)) psome0))), (9, (.t (.int .i64 (psome0.length : Int)))), (10, (.t (.int .i64 a1))), (19, (.t (.bool (decide (v0 < (w64 (ps0.Validators.length : Int)))))))], [(49000, (.var false 46 (.t (e_GState ps0))))]⟩ [((List.length (List.map e_GValidator ps0.Validators) : Nat) : Int) = (ps0.Validators.length : Int)] (by kernel_rfl) ⟨(len_of rfl), trivial⟩ ?_
      refine Nxt_norm ?_
      refine Ab.cond (b := (decide (v0 < (w64 (ps0.Validators.length : Int))))) (by kernel_rfl) (fun hb1 => ?_) (fun hb1 => ?_)
      · replace h := cond_t hb1 h
        obtain ⟨hq1, h⟩ := ask_dec h
        obtain ⟨v1, hv1, h⟩ := bind_some h
        refine Ab.regT hE hC hL [[], [], [], [], [.t (e_GValidator v1)]] { keep := [2, 5, 8, 9, 10], ren := [(49000, 49000)] } ⟨[(2, (.ref 49000 [] (0))), (5, (.t (.int .u64 (w64 (a0 + v1.Effective))))), (8, (.t ((eS 1 (T.int .u64)) psome0))), (9, (.t (.int .i64 (psome0.length : Int)))), (10, (.t (.int .i64 a1)))], [(49000, (.var false 46 (.t (e_GState ps0))))]⟩ [0 ≤ v0, (List.map e_GValidator ps0.Validators)[v0.toNat]? = some (e_GValidator v1)] (by kernel_rfl) ⟨hq1, (at_map hv1), trivial⟩ ?_
        refine Blk_norm ?_
        refine Nxt_norm ?_
        refine Ab.regT hE hC hL [] { keep := [2, 5, 8, 9, 10], ren := [(49000, 49000)] } ⟨[(2, (.ref 49000 [] (0))), (5, (.t (.int .u64 (w64 (a0 + v1.Effective))))), (8, (.t ((eS 1 (T.int .u64)) psome0))), (9, (.t (.int .i64 (psome0.length : Int)))), (10, (.t (.int .i64 (wi (a1 + (1:Int))))))], [(49000, (.var false 46 (.t (e_GState ps0))))]⟩ [] (by kernel_rfl) trivial ?_
        exact LK_norm ((w64 (a0 + v1.Effective)), (wi (a1 + (1:Int)))) { fs := [], keep := [2, 5, 8, 9, 10], ren := [(49000, 49000)] } h (by kernel_rfl)
      · replace h := cond_f hb1 h
        refine Ab.skip ?_
        refine Blk_norm ?_
        refine Nxt_norm ?_
        refine Ab.regT hE hC hL [] { keep := [2, 5, 8, 9, 10], ren := [(49000, 49000)] } ⟨[(2, (.ref 49000 [] (0))), (5, (.t (.int .u64 a0))), (8, (.t ((eS 1 (T.int .u64)) psome0))), (9, (.t (.int .i64 (psome0.length : Int)))), (10, (.t (.int .i64 (wi (a1 + (1:Int))))))], [(49000, (.var false 46 (.t (e_GState ps0))))]⟩ [] (by kernel_rfl) trivial ?_
        exact LK_norm (a0, (wi (a1 + (1:Int)))) { fs := [], keep := [2, 5, 8, 9, 10], ren := [(49000, 49000)] } h (by kernel_rfl)
    · replace h := cond_f hb0 h
      refine Ab.exit ?_
      refine Nxt_exit ?_
      exact LK_exit a0 h (PX_mk { fs := [], keep := [5], ren := [] } (by kernel_rfl))
  · refine Nxt_norm ?_
    refine Ab.seq ?_
    refine Ab.regT hE hC hL [] { keep := [4], ren := [] } ⟨[(4, (.t (.int .u64 (gmax x0 (1000:Int)))))], []⟩ [] (by kernel_rfl) trivial ?_
    refine Nxt_norm ?_
    refine Ab.ret ?_
    obtain rfl := Option.some.inj h
    exact End_ret (doneO_ok (md := [false]) (by kernel_rfl))
def ea_law09_Awake (a : Unit) : List T := []
def er_law09_Awake (r : Bool) : List RR × List T := ([.tree (T.bool r)], [])
noncomputable def sp_law09_Awake (n : Nat) : Spec := specP [] true ea_law09_Awake (fun a => f_law09_Awake n) (fun _ r => er_law09_Awake r)
theorem ap_law09_Awake (n : Nat) {ts : List T} {r : Bool} (hle : leTs ts []) (h : f_law09_Awake n = some r) : (sp_law09_Awake n).fn ts = some ([.tree (T.bool r)], []) :=
  specP_fn (a := ()) injA0 hle h
noncomputable def E_law09_Awake (n : Nat) : Env := { ty := tyT, glob := glob, fns := get [(10, sp_duty_Slashable n), (12, sp_duty_Epoch n), (35, sp_duty_Total n)], ntmps := 27 }
theorem eok_law09_Awake (n : Nat) : EnvOK Try.prog (E_law09_Awake n) := ⟨tys_ok tys_chk, prog_mixed, (fns_cons (ok_duty_Slashable n) (fns_cons (ok_duty_Epoch n) (fns_cons (ok_duty_Total n) fns_nil)))⟩
def K_law09_Awake (n : Nat) (r : Bool) : St → Prop := Done (E_law09_Awake n) Try.f9.results.toList [] (ea_law09_Awake ()) (er_law09_Awake r).1 (er_law09_Awake r).2
set_option maxRecDepth 100000 in
set_option maxHeartbeats 4000000 in
theorem ok_law09_Awake (n : Nat) : SpecOK Try.prog glob 9 (sp_law09_Awake n) := by
  refine specP_ok (fn := Try.f9) (eok_law09_Awake n) (by kernel_rfl) rfl (by decide +kernel) (by kernel_rfl) (fun _ => by show 0 ≤ 27; omega) (fun _ _ r => ⟨(rrf_tree ((fun _ => rfl) _) rrf_nil), flats_nil⟩) ?_
  rintro ⟨⟩ r h C hL hC
  have hE := eok_law09_Awake n
  replace hL : ∀ n g, (n, g) ∈ C.lent → n ∈ ([] : List Nat) := hL
  replace h : f_law09_Awake n = some r := h
  show Ab _ _ _ _ _ (End (K_law09_Awake n r))
  unfold f_law09_Awake at h
  refine Ab.seq ?_
  refine Ab.regT hE hC hL [] { keep := [], ren := [] } ⟨[], []⟩ [] (by kernel_rfl) trivial ?_
  refine Nxt_norm ?_
  refine Ab.seq ?_
  refine Ab.regT hE hC hL [] { keep := [1], ren := [(1, 1)] } ⟨[(1, (.ref 1 [] (0)))], [(1, (.var false 28 (.t (e_GVote (GVote.mk (0:Int) (0:Int) (Arr.rep 32 (0:Int)) (GCheckpoint.mk (1:Int) (Arr.rep 32 (0:Int))) (GCheckpoint.mk (4:Int) (Arr.rep 32 (0:Int))))))))]⟩ [] (by kernel_rfl) trivial ?_
  refine Nxt_norm ?_
  refine Ab.seq ?_
  refine Ab.regT hE hC hL [] { keep := [1, 2], ren := [(1, 1), (2, 2)] } ⟨[(1, (.ref 1 [] (0))), (2, (.ref 2 [] (0)))], [(1, (.var false 28 (.t (e_GVote (GVote.mk (0:Int) (0:Int) (Arr.rep 32 (0:Int)) (GCheckpoint.mk (1:Int) (Arr.rep 32 (0:Int))) (GCheckpoint.mk (4:Int) (Arr.rep 32 (0:Int)))))))), (2, (.var false 28 (.t (e_GVote (GVote.mk (0:Int) (0:Int) (Arr.rep 32 (0:Int)) (GCheckpoint.mk (2:Int) (Arr.rep 32 (0:Int))) (GCheckpoint.mk (3:Int) (Arr.rep 32 (0:Int))))))))]⟩ [] (by kernel_rfl) trivial ?_
  refine Nxt_norm ?_
  refine Ab.seq ?_
  obtain ⟨r0, hr0, h⟩ := bind_some h
  rcases Bool.eq_false_or_eq_true r0 with hb0 | hb0
  · replace h := cond_t hb0 h
    obtain ⟨r1, hr1, h⟩ := bind_some h
    rcases Bool.eq_false_or_eq_true (!r1) with hb1 | hb1
    · replace h := cond_t hb1 h
      obtain ⟨r2, hr2, h⟩ := bind_some h
      rcases Bool.eq_false_or_eq_true (r2 == (1000:Int)) with hb2 | hb2
      · replace h := cond_t hb2 h
        obtain ⟨r3, hr3, h⟩ := bind_some h
        refine Ab.regT hE hC hL [[], [], [.r [.tree (.bool r0)] []], [.b true], [], [], [.r [.tree (.bool r1)] []], [], [], [.b true], [], [.r [.tree (.int .u64 r2)] []], [], [], [.b true], [.r [.tree (.int .u64 r3)] []]] { keep := [0], ren := [] } ⟨[(0, (.t (.bool (r3 == (1:Int)))))], []⟩ [(sp_duty_Slashable n).fn [(e_GVote (GVote.mk (0:Int) (0:Int) (Arr.rep 32 (0:Int)) (GCheckpoint.mk (1:Int) (Arr.rep 32 (0:Int))) (GCheckpoint.mk (4:Int) (Arr.rep 32 (0:Int))))), (e_GVote (GVote.mk (0:Int) (0:Int) (Arr.rep 32 (0:Int)) (GCheckpoint.mk (2:Int) (Arr.rep 32 (0:Int))) (GCheckpoint.mk (3:Int) (Arr.rep 32 (0:Int)))))] = some ([.tree (.bool r0)], []), r0 = true, (sp_duty_Slashable n).fn [(e_GVote (GVote.mk (0:Int) (0:Int) (Arr.rep 32 (0:Int)) (GCheckpoint.mk (2:Int) (Arr.rep 32 (0:Int))) (GCheckpoint.mk (3:Int) (Arr.rep 32 (0:Int))))), (e_GVote (GVote.mk (0:Int) (0:Int) (Arr.rep 32 (0:Int)) (GCheckpoint.mk (1:Int) (Arr.rep 32 (0:Int))) (GCheckpoint.mk (4:Int) (Arr.rep 32 (0:Int)))))] = some ([.tree (.bool r1)], []), (!r1) = true, (sp_duty_Total n).fn [(.tup [(.int .u64 (0:Int)), (e_GHeader (GHeader.mk (0:Int) (0:Int) (Arr.rep 32 (0:Int)) (Arr.rep 32 (0:Int)) (Arr.rep 32 (0:Int)))), ((eA 32 (eA 1 (T.int .u8))) (Arr.rep 16 (Arr.rep 32 (0:Int)))), ((eA 32 (eA 1 (T.int .u8))) (Arr.rep 16 (Arr.rep 32 (0:Int)))), (e_GEth (GEth.mk (Arr.rep 32 (0:Int)) (0:Int))), .nils, (.int .u64 (0:Int)), .nils, .nils, ((eA 32 (eA 1 (T.int .u8))) (Arr.rep 8 (Arr.rep 32 (0:Int)))), ((eA 1 (T.int .u64)) (Arr.rep 8 (0:Int))), .nils, .nils, ((eA 1 T.bool) (Arr.rep 4 false)), (e_GCheckpoint (GCheckpoint.mk (0:Int) (Arr.rep 32 (0:Int)))), (e_GCheckpoint (GCheckpoint.mk (0:Int) (Arr.rep 32 (0:Int)))), (e_GCheckpoint (GCheckpoint.mk (0:Int) (Arr.rep 32 (0:Int))))]), .nils] = some ([.tree (.int .u64 r2)], []), (r2 == (1000:Int)) = true, (sp_duty_Epoch n).fn [(.int .u64 (7:Int))] = some ([.tree (.int .u64 r3)], [])] (by kernel_rfl) ⟨(ap_duty_Slashable n (by exact ⟨leT.refl _, leT.refl _, trivial⟩) hr0), hb0, (ap_duty_Slashable n (by exact ⟨leT.refl _, leT.refl _, trivial⟩) hr1), hb1, (ap_duty_Total n (by exact ⟨⟨leT.refl _, leT.refl _, leT.refl _, leT.refl _, leT.refl _, le_nil, leT.refl _, le_nil, le_nil, leT.refl _, leT.refl _, le_nil, le_nil, leT.refl _, leT.refl _, leT.refl _, leT.refl _, trivial⟩, le_nil, trivial⟩) hr2), hb2, (ap_duty_Epoch n (by exact ⟨leT.refl _, trivial⟩) hr3), trivial⟩ ?_
        refine Nxt_norm ?_
        refine Ab.ret ?_
        obtain rfl := Option.some.inj h
        exact End_ret (doneO_ok (md := [false]) (by kernel_rfl))
      · replace h := cond_f hb2 h
        refine Ab.regT hE hC hL [[], [], [.r [.tree (.bool r0)] []], [.b true], [], [], [.r [.tree (.bool r1)] []], [], [], [.b true], [], [.r [.tree (.int .u64 r2)] []], [], [], [.b false]] { keep := [0], ren := [] } ⟨[(0, (.t (.bool false)))], []⟩ [(sp_duty_Slashable n).fn [(e_GVote (GVote.mk (0:Int) (0:Int) (Arr.rep 32 (0:Int)) (GCheckpoint.mk (1:Int) (Arr.rep 32 (0:Int))) (GCheckpoint.mk (4:Int) (Arr.rep 32 (0:Int))))), (e_GVote (GVote.mk (0:Int) (0:Int) (Arr.rep 32 (0:Int)) (GCheckpoint.mk (2:Int) (Arr.rep 32 (0:Int))) (GCheckpoint.mk (3:Int) (Arr.rep 32 (0:Int)))))] = some ([.tree (.bool r0)], []), r0 = true, (sp_duty_Slashable n).fn [(e_GVote (GVote.mk (0:Int) (0:Int) (Arr.rep 32 (0:Int)) (GCheckpoint.mk (2:Int) (Arr.rep 32 (0:Int))) (GCheckpoint.mk (3:Int) (Arr.rep 32 (0:Int))))), (e_GVote (GVote.mk (0:Int) (0:Int) (Arr.rep 32 (0:Int)) (GCheckpoint.mk (1:Int) (Arr.rep 32 (0:Int))) (GCheckpoint.mk (4:Int) (Arr.rep 32 (0:Int)))))] = some ([.tree (.bool r1)], []), (!r1) = true, (sp_duty_Total n).fn [(.tup [(.int .u64 (0:Int)), (e_GHeader (GHeader.mk (0:Int) (0:Int) (Arr.rep 32 (0:Int)) (Arr.rep 32 (0:Int)) (Arr.rep 32 (0:Int)))), ((eA 32 (eA 1 (T.int .u8))) (Arr.rep 16 (Arr.rep 32 (0:Int)))), ((eA 32 (eA 1 (T.int .u8))) (Arr.rep 16 (Arr.rep 32 (0:Int)))), (e_GEth (GEth.mk (Arr.rep 32 (0:Int)) (0:Int))), .nils, (.int .u64 (0:Int)), .nils, .nils, ((eA 32 (eA 1 (T.int .u8))) (Arr.rep 8 (Arr.rep 32 (0:Int)))), ((eA 1 (T.int .u64)) (Arr.rep 8 (0:Int))), .nils, .nils, ((eA 1 T.bool) (Arr.rep 4 false)), (e_GCheckpoint (GCheckpoint.mk (0:Int) (Arr.rep 32 (0:Int)))), (e_GCheckpoint (GCheckpoint.mk (0:Int) (Arr.rep 32 (0:Int)))), (e_GCheckpoint (GCheckpoint.mk (0:Int) (Arr.rep 32 (0:Int))))]), .nils] = some ([.tree (.int .u64 r2)], []), (r2 == (1000:Int)) = false] (by kernel_rfl) ⟨(ap_duty_Slashable n (by exact ⟨leT.refl _, leT.refl _, trivial⟩) hr0), hb0, (ap_duty_Slashable n (by exact ⟨leT.refl _, leT.refl _, trivial⟩) hr1), hb1, (ap_duty_Total n (by exact ⟨⟨leT.refl _, leT.refl _, leT.refl _, leT.refl _, leT.refl _, le_nil, leT.refl _, le_nil, le_nil, leT.refl _, leT.refl _, le_nil, le_nil, leT.refl _, leT.refl _, leT.refl _, leT.refl _, trivial⟩, le_nil, trivial⟩) hr2), hb2, trivial⟩ ?_
        refine Nxt_norm ?_
        refine Ab.ret ?_
        obtain rfl := Option.some.inj h
        exact End_ret (doneO_ok (md := [false]) (by kernel_rfl))
    · replace h := cond_f hb1 h
      refine Ab.regT hE hC hL [[], [], [.r [.tree (.bool r0)] []], [.b true], [], [], [.r [.tree (.bool r1)] []], [], [], [.b false]] { keep := [0], ren := [] } ⟨[(0, (.t (.bool false)))], []⟩ [(sp_duty_Slashable n).fn [(e_GVote (GVote.mk (0:Int) (0:Int) (Arr.rep 32 (0:Int)) (GCheckpoint.mk (1:Int) (Arr.rep 32 (0:Int))) (GCheckpoint.mk (4:Int) (Arr.rep 32 (0:Int))))), (e_GVote (GVote.mk (0:Int) (0:Int) (Arr.rep 32 (0:Int)) (GCheckpoint.mk (2:Int) (Arr.rep 32 (0:Int))) (GCheckpoint.mk (3:Int) (Arr.rep 32 (0:Int)))))] = some ([.tree (.bool r0)], []), r0 = true, (sp_duty_Slashable n).fn [(e_GVote (GVote.mk (0:Int) (0:Int) (Arr.rep 32 (0:Int)) (GCheckpoint.mk (2:Int) (Arr.rep 32 (0:Int))) (GCheckpoint.mk (3:Int) (Arr.rep 32 (0:Int))))), (e_GVote (GVote.mk (0:Int) (0:Int) (Arr.rep 32 (0:Int)) (GCheckpoint.mk (1:Int) (Arr.rep 32 (0:Int))) (GCheckpoint.mk (4:Int) (Arr.rep 32 (0:Int)))))] = some ([.tree (.bool r1)], []), (!r1) = false] (by kernel_rfl) ⟨(ap_duty_Slashable n (by exact ⟨leT.refl _, leT.refl _, trivial⟩) hr0), hb0, (ap_duty_Slashable n (by exact ⟨leT.refl _, leT.refl _, trivial⟩) hr1), hb1, trivial⟩ ?_
      refine Nxt_norm ?_
      refine Ab.ret ?_
      obtain rfl := Option.some.inj h
      exact End_ret (doneO_ok (md := [false]) (by kernel_rfl))
  · replace h := cond_f hb0 h
    refine Ab.regT hE hC hL [[], [], [.r [.tree (.bool r0)] []], [.b false]] { keep := [0], ren := [] } ⟨[(0, (.t (.bool false)))], []⟩ [(sp_duty_Slashable n).fn [(e_GVote (GVote.mk (0:Int) (0:Int) (Arr.rep 32 (0:Int)) (GCheckpoint.mk (1:Int) (Arr.rep 32 (0:Int))) (GCheckpoint.mk (4:Int) (Arr.rep 32 (0:Int))))), (e_GVote (GVote.mk (0:Int) (0:Int) (Arr.rep 32 (0:Int)) (GCheckpoint.mk (2:Int) (Arr.rep 32 (0:Int))) (GCheckpoint.mk (3:Int) (Arr.rep 32 (0:Int)))))] = some ([.tree (.bool r0)], []), r0 = false] (by kernel_rfl) ⟨(ap_duty_Slashable n (by exact ⟨leT.refl _, leT.refl _, trivial⟩) hr0), hb0, trivial⟩ ?_
    refine Nxt_norm ?_
    refine Ab.ret ?_
    obtain rfl := Option.some.inj h
    exact End_ret (doneO_ok (md := [false]) (by kernel_rfl))
def ea_ref07_Slashable (a : GVote × GVote) : List T := [e_GVote a.1, e_GVote a.2]
def er_ref07_Slashable (r : Bool) : List RR × List T := ([.tree (T.bool r)], [])
noncomputable def sp_ref07_Slashable (n : Nat) : Spec := specP [] true ea_ref07_Slashable (fun a => f_ref07_Slashable n a.1 a.2) (fun _ r => er_ref07_Slashable r)
theorem ap_ref07_Slashable (n : Nat) {ts : List T} {a0 : GVote} {a1 : GVote} {r : Bool} (hle : leTs ts [e_GVote a0, e_GVote a1]) (h : f_ref07_Slashable n a0 a1 = some r) : (sp_ref07_Slashable n).fn ts = some ([.tree (T.bool r)], []) :=
  specP_fn (a := (a0, a1)) (InjA.cons i_GVote (InjA.one i_GVote)) hle h
noncomputable def E_ref07_Slashable (n : Nat) : Env := { ty := tyT, glob := glob, fns := get [], ntmps := 33 }
theorem eok_ref07_Slashable (n : Nat) : EnvOK Try.prog (E_ref07_Slashable n) := ⟨tys_ok tys_chk, prog_mixed, fns_nil⟩
def K_ref07_Slashable (n : Nat) (pa0 : GVote) (pb0 : GVote) (r : Bool) : St → Prop := Done (E_ref07_Slashable n) Try.f11.results.toList [] (ea_ref07_Slashable (pa0, pb0)) (er_ref07_Slashable r).1 (er_ref07_Slashable r).2
set_option maxRecDepth 100000 in
set_option maxHeartbeats 4000000 in
theorem ok_ref07_Slashable (n : Nat) : SpecOK Try.prog glob 11 (sp_ref07_Slashable n) := by
  refine specP_ok (fn := Try.f11) (eok_ref07_Slashable n) (by kernel_rfl) rfl (by decide +kernel) (by kernel_rfl) (fun _ => by show 2 ≤ 33; omega) (fun _ _ r => ⟨(rrf_tree ((fun _ => rfl) _) rrf_nil), flats_nil⟩) ?_
  rintro ⟨pa0, pb0⟩ r h C hL hC
  have hE := eok_ref07_Slashable n
  replace hL : ∀ n g, (n, g) ∈ C.lent → n ∈ ([] : List Nat) := hL
  replace h : f_ref07_Slashable n pa0 pb0 = some r := h
  show Ab _ _ _ _ _ (End (K_ref07_Slashable n pa0 pb0 r))
  unfold f_ref07_Slashable at h
  refine Ab.seq ?_
  refine Ab.regT hE hC hL [] { keep := [2, 3], ren := [(2, 2), (3, 3)] } ⟨[(2, (.ref 2 [] (0))), (3, (.ref 3 [] (0)))], [(2, (.var false 28 (.t (e_GVote pa0)))), (3, (.var false 28 (.t (e_GVote pb0))))]⟩ [] (by kernel_rfl) trivial ?_
  refine Nxt_norm ?_
  refine Ab.seq ?_
  refine Ab.seq ?_
  rcases Bool.eq_false_or_eq_true (!(decide (pa0 = pb0))) with hb0 | hb0
  · replace h := cond_t hb0 h
    refine Ab.regT hE hC hL [[], [], [.b (!(decide (pa0 = pb0)))], [.b true]] { keep := [2, 3, 16], ren := [(2, 2), (3, 3)] } ⟨[(2, (.ref 2 [] (0))), (3, (.ref 3 [] (0))), (16, (.t (.bool (pa0.Target.Epoch == pb0.Target.Epoch))))], [(2, (.var false 28 (.t (e_GVote pa0)))), (3, (.var false 28 (.t (e_GVote pb0))))]⟩ [binOp (E_ref07_Slashable n) .neq 28 (.t (e_GVote pa0)) (.t (e_GVote pb0)) = some (.bool (!(decide (pa0 = pb0)))), (!(decide (pa0 = pb0))) = true] (by kernel_rfl) ⟨(bneq_28 _ rfl _ _), hb0, trivial⟩ ?_
    refine Nxt_norm ?_
    refine Ab.cond (b := (pa0.Target.Epoch == pb0.Target.Epoch)) (by kernel_rfl) (fun hb1 => ?_) (fun hb1 => ?_)
    · replace h := cond_t hb1 h
      refine Ab.seq ?_
      refine Ab.regT hE hC hL [] { keep := [4], ren := [] } ⟨[(4, (.t (.bool true)))], []⟩ [] (by kernel_rfl) trivial ?_
      refine Nxt_norm ?_
      refine Ab.ret ?_
      refine Nxt_ret ?_
      obtain rfl := Option.some.inj h
      exact End_ret (doneO_ok (md := [false]) (by kernel_rfl))
    · replace h := cond_f hb1 h
      refine Ab.skip ?_
      refine Nxt_norm ?_
      refine Ab.seq ?_
      rcases Bool.eq_false_or_eq_true (decide (pa0.Source.Epoch < pb0.Source.Epoch)) with hb2 | hb2
      · replace h := cond_t hb2 h
        refine Ab.regT hE hC hL [[], [], [], [], [], [], [], [.b true]] { keep := [4], ren := [] } ⟨[(4, (.t (.bool (decide (pa0.Target.Epoch > pb0.Target.Epoch)))))], []⟩ [(decide (pa0.Source.Epoch < pb0.Source.Epoch)) = true] (by kernel_rfl) ⟨hb2, trivial⟩ ?_
        refine Nxt_norm ?_
        refine Ab.ret ?_
        obtain rfl := Option.some.inj h
        exact End_ret (doneO_ok (md := [false]) (by kernel_rfl))
      · replace h := cond_f hb2 h
        refine Ab.regT hE hC hL [[], [], [], [], [], [], [], [.b false]] { keep := [4], ren := [] } ⟨[(4, (.t (.bool false)))], []⟩ [(decide (pa0.Source.Epoch < pb0.Source.Epoch)) = false] (by kernel_rfl) ⟨hb2, trivial⟩ ?_
        refine Nxt_norm ?_
        refine Ab.ret ?_
        obtain rfl := Option.some.inj h
        exact End_ret (doneO_ok (md := [false]) (by kernel_rfl))
  · replace h := cond_f hb0 h
    refine Ab.regT hE hC hL [[], [], [.b (!(decide (pa0 = pb0)))], [.b false]] { keep := [2, 3, 16], ren := [(2, 2), (3, 3)] } ⟨[(2, (.ref 2 [] (0))), (3, (.ref 3 [] (0))), (16, (.t (.bool false)))], [(2, (.var false 28 (.t (e_GVote pa0)))), (3, (.var false 28 (.t (e_GVote pb0))))]⟩ [binOp (E_ref07_Slashable n) .neq 28 (.t (e_GVote pa0)) (.t (e_GVote pb0)) = some (.bool (!(decide (pa0 = pb0)))), (!(decide (pa0 = pb0))) = false] (by kernel_rfl) ⟨(bneq_28 _ rfl _ _), hb0, trivial⟩ ?_
    refine Nxt_norm ?_
    refine Ab.cond (b := false) (by kernel_rfl) (fun hb => Bool.noConfusion hb) (fun _ => ?_)
    refine Ab.skip ?_
    refine Nxt_norm ?_
    refine Ab.seq ?_
    rcases Bool.eq_false_or_eq_true (decide (pa0.Source.Epoch < pb0.Source.Epoch)) with hb3 | hb3
    · replace h := cond_t hb3 h
      refine Ab.regT hE hC hL [[], [], [], [], [], [], [], [.b true]] { keep := [4], ren := [] } ⟨[(4, (.t (.bool (decide (pa0.Target.Epoch > pb0.Target.Epoch)))))], []⟩ [(decide (pa0.Source.Epoch < pb0.Source.Epoch)) = true] (by kernel_rfl) ⟨hb3, trivial⟩ ?_
      refine Nxt_norm ?_
      refine Ab.ret ?_
      obtain rfl := Option.some.inj h
      exact End_ret (doneO_ok (md := [false]) (by kernel_rfl))
    · replace h := cond_f hb3 h
      refine Ab.regT hE hC hL [[], [], [], [], [], [], [], [.b false]] { keep := [4], ren := [] } ⟨[(4, (.t (.bool false)))], []⟩ [(decide (pa0.Source.Epoch < pb0.Source.Epoch)) = false] (by kernel_rfl) ⟨hb3, trivial⟩ ?_
      refine Nxt_norm ?_
      refine Ab.ret ?_
      obtain rfl := Option.some.inj h
      exact End_ret (doneO_ok (md := [false]) (by kernel_rfl))
def ea_law09_DutySlashable (a : GVote × GVote) : List T := [e_GVote a.1, e_GVote a.2]
def er_law09_DutySlashable (r : Bool) : List RR × List T := ([.tree (T.bool r)], [])
noncomputable def sp_law09_DutySlashable (n : Nat) : Spec := specP [] true ea_law09_DutySlashable (fun a => f_law09_DutySlashable n a.1 a.2) (fun _ r => er_law09_DutySlashable r)
theorem ap_law09_DutySlashable (n : Nat) {ts : List T} {a0 : GVote} {a1 : GVote} {r : Bool} (hle : leTs ts [e_GVote a0, e_GVote a1]) (h : f_law09_DutySlashable n a0 a1 = some r) : (sp_law09_DutySlashable n).fn ts = some ([.tree (T.bool r)], []) :=
  specP_fn (a := (a0, a1)) (InjA.cons i_GVote (InjA.one i_GVote)) hle h
noncomputable def E_law09_DutySlashable (n : Nat) : Env := { ty := tyT, glob := glob, fns := get [(9, sp_law09_Awake n), (10, sp_duty_Slashable n), (11, sp_ref07_Slashable n)], ntmps := 53 }
theorem eok_law09_DutySlashable (n : Nat) : EnvOK Try.prog (E_law09_DutySlashable n) := ⟨tys_ok tys_chk, prog_mixed, (fns_cons (ok_law09_Awake n) (fns_cons (ok_duty_Slashable n) (fns_cons (ok_ref07_Slashable n) fns_nil)))⟩
def K_law09_DutySlashable (n : Nat) (pa0 : GVote) (pb0 : GVote) (r : Bool) : St → Prop := Done (E_law09_DutySlashable n) Try.f3.results.toList [] (ea_law09_DutySlashable (pa0, pb0)) (er_law09_DutySlashable r).1 (er_law09_DutySlashable r).2
set_option maxRecDepth 100000 in
set_option maxHeartbeats 4000000 in
theorem ok_law09_DutySlashable (n : Nat) : SpecB Try.prog glob 3 (sp_law09_DutySlashable n) := by
  refine specP_B (fn := Try.f3) (eok_law09_DutySlashable n) (by kernel_rfl) rfl (by decide +kernel) (by kernel_rfl) (fun _ => by show 2 ≤ 53; omega)  ?_
  rintro ⟨pa0, pb0⟩ r h C hL hC
  have hE := eok_law09_DutySlashable n
  replace hL : ∀ n g, (n, g) ∈ C.lent → n ∈ ([] : List Nat) := hL
  replace h : f_law09_DutySlashable n pa0 pb0 = some r := h
  show Ab _ _ _ _ _ (End (K_law09_DutySlashable n pa0 pb0 r))
  unfold f_law09_DutySlashable at h
  refine Ab.seq ?_
  refine Ab.regT hE hC hL [] { keep := [2, 3], ren := [(2, 2), (3, 3)] } ⟨[(2, (.ref 2 [] (0))), (3, (.ref 3 [] (0)))], [(2, (.var false 28 (.t (e_GVote pa0)))), (3, (.var false 28 (.t (e_GVote pb0))))]⟩ [] (by kernel_rfl) trivial ?_
  refine Nxt_norm ?_
  refine Ab.seq ?_
  refine Ab.seq ?_
  obtain ⟨r0, hr0, h⟩ := bind_some h
  refine Ab.regT hE hC hL [[.r [.tree (.bool r0)] []]] { keep := [2, 3, 6], ren := [(2, 2), (3, 3)] } ⟨[(2, (.ref 2 [] (0))), (3, (.ref 3 [] (0))), (6, (.t (.bool (!r0))))], [(2, (.var false 28 (.t (e_GVote pa0)))), (3, (.var false 28 (.t (e_GVote pb0))))]⟩ [(sp_law09_Awake n).fn [] = some ([.tree (.bool r0)], [])] (by kernel_rfl) ⟨(ap_law09_Awake n (by exact trivial) hr0), trivial⟩ ?_
  refine Nxt_norm ?_
  refine Ab.cond (b := (!r0)) (by kernel_rfl) (fun hb0 => ?_) (fun hb0 => ?_)
  · replace h := cond_t hb0 h
    refine Ab.seq ?_
    refine Ab.regT hE hC hL [] { keep := [4], ren := [] } ⟨[(4, (.t (.bool false)))], []⟩ [] (by kernel_rfl) trivial ?_
    refine Nxt_norm ?_
    refine Ab.ret ?_
    refine Nxt_ret ?_
    obtain rfl := Option.some.inj h
    exact End_ret (doneO_ok (md := [false]) (by kernel_rfl))
  · replace h := cond_f hb0 h
    refine Ab.skip ?_
    refine Nxt_norm ?_
    refine Ab.seq ?_
    refine Ab.seq ?_
    obtain ⟨r1, hr1, h⟩ := bind_some h
    obtain ⟨r2, hr2, h⟩ := bind_some h
    rcases Bool.eq_false_or_eq_true (!(r1 == r2)) with hb1 | hb1
    · replace h := cond_t hb1 h
      refine Ab.regA hE hC hL [[], [], [.r [.tree (.bool r1)] []], [], [], [.r [.tree (.bool r2)] []], [], [.b true]] { keep := [2, 3, 27], ren := [(2, 2), (3, 3)] } ⟨[(2, (.ref 2 [] (0))), (3, (.ref 3 [] (0))), (27, (.t (.bool true)))], [(2, (.var false 28 (.t (e_GVote pa0)))), (3, (.var false 28 (.t (e_GVote pb0))))]⟩ [(sp_duty_Slashable n).fn [(e_GVote pa0), (e_GVote pb0)] = some ([.tree (.bool r1)], []), (sp_ref07_Slashable n).fn [(e_GVote pa0), (e_GVote pb0)] = some ([.tree (.bool r2)], []), (!(r1 == r2)) = true] (by kernel_rfl) (by kernel_rfl) ⟨(ap_duty_Slashable n (by exact ⟨leT.refl _, leT.refl _, trivial⟩) hr1), (ap_ref07_Slashable n (by exact ⟨leT.refl _, leT.refl _, trivial⟩) hr2), hb1, trivial⟩ ?_
      refine Nxt_norm ?_
      refine Ab.cond (b := true) (by kernel_rfl) (fun _ => ?_) (fun hb => Bool.noConfusion hb)
      refine Ab.seq ?_
      refine Ab.regT hE hC hL [] { keep := [4], ren := [] } ⟨[(4, (.t (.bool false)))], []⟩ [] (by kernel_rfl) trivial ?_
      refine Nxt_norm ?_
      refine Ab.ret ?_
      refine Nxt_ret ?_
      obtain rfl := Option.some.inj h
      exact End_ret (doneO_ok (md := [false]) (by kernel_rfl))
    · replace h := cond_f hb1 h
      obtain ⟨r3, hr3, h⟩ := bind_some h
      obtain ⟨r4, hr4, h⟩ := bind_some h
      rcases Bool.eq_false_or_eq_true (!(r3 == r4)) with hb2 | hb2
      · replace h := cond_t hb2 h
        refine Ab.regA hE hC hL [[], [], [.r [.tree (.bool r1)] []], [], [], [.r [.tree (.bool r2)] []], [], [.b false], [], [], [.r [.tree (.bool r3)] []], [], [], [.r [.tree (.bool r4)] []], [], [], [.b true]] { keep := [2, 3, 27], ren := [(2, 2), (3, 3)] } ⟨[(2, (.ref 2 [] (0))), (3, (.ref 3 [] (0))), (27, (.t (.bool true)))], [(2, (.var false 28 (.t (e_GVote pa0)))), (3, (.var false 28 (.t (e_GVote pb0))))]⟩ [(sp_duty_Slashable n).fn [(e_GVote pa0), (e_GVote pb0)] = some ([.tree (.bool r1)], []), (sp_ref07_Slashable n).fn [(e_GVote pa0), (e_GVote pb0)] = some ([.tree (.bool r2)], []), (!(r1 == r2)) = false, (sp_duty_Slashable n).fn [(e_GVote pb0), (e_GVote pa0)] = some ([.tree (.bool r3)], []), (sp_ref07_Slashable n).fn [(e_GVote pb0), (e_GVote pa0)] = some ([.tree (.bool r4)], []), (!(r3 == r4)) = true] (by kernel_rfl) (by kernel_rfl) ⟨(ap_duty_Slashable n (by exact ⟨leT.refl _, leT.refl _, trivial⟩) hr1), (ap_ref07_Slashable n (by exact ⟨leT.refl _, leT.refl _, trivial⟩) hr2), hb1, (ap_duty_Slashable n (by exact ⟨leT.refl _, leT.refl _, trivial⟩) hr3), (ap_ref07_Slashable n (by exact ⟨leT.refl _, leT.refl _, trivial⟩) hr4), hb2, trivial⟩ ?_
        refine Nxt_norm ?_
        refine Ab.cond (b := true) (by kernel_rfl) (fun _ => ?_) (fun hb => Bool.noConfusion hb)
        refine Ab.seq ?_
        refine Ab.regT hE hC hL [] { keep := [4], ren := [] } ⟨[(4, (.t (.bool false)))], []⟩ [] (by kernel_rfl) trivial ?_
        refine Nxt_norm ?_
        refine Ab.ret ?_
        refine Nxt_ret ?_
        obtain rfl := Option.some.inj h
        exact End_ret (doneO_ok (md := [false]) (by kernel_rfl))
      · replace h := cond_f hb2 h
        obtain ⟨r5, hr5, h⟩ := bind_some h
        refine Ab.regA hE hC hL [[], [], [.r [.tree (.bool r1)] []], [], [], [.r [.tree (.bool r2)] []], [], [.b false], [], [], [.r [.tree (.bool r3)] []], [], [], [.r [.tree (.bool r4)] []], [], [], [.b false], [], [], [.r [.tree (.bool r5)] []]] { keep := [2, 3, 27], ren := [(2, 2), (3, 3)] } ⟨[(2, (.ref 2 [] (0))), (3, (.ref 3 [] (0))), (27, (.t (.bool r5)))], [(2, (.var false 28 (.t (e_GVote pa0)))), (3, (.var false 28 (.t (e_GVote pb0))))]⟩ [(sp_duty_Slashable n).fn [(e_GVote pa0), (e_GVote pb0)] = some ([.tree (.bool r1)], []), (sp_ref07_Slashable n).fn [(e_GVote pa0), (e_GVote pb0)] = some ([.tree (.bool r2)], []), (!(r1 == r2)) = false, (sp_duty_Slashable n).fn [(e_GVote pb0), (e_GVote pa0)] = some ([.tree (.bool r3)], []), (sp_ref07_Slashable n).fn [(e_GVote pb0), (e_GVote pa0)] = some ([.tree (.bool r4)], []), (!(r3 == r4)) = false, (sp_duty_Slashable n).fn [(e_GVote pa0), (e_GVote pa0)] = some ([.tree (.bool r5)], [])] (by kernel_rfl) (by kernel_rfl) ⟨(ap_duty_Slashable n (by exact ⟨leT.refl _, leT.refl _, trivial⟩) hr1), (ap_ref07_Slashable n (by exact ⟨leT.refl _, leT.refl _, trivial⟩) hr2), hb1, (ap_duty_Slashable n (by exact ⟨leT.refl _, leT.refl _, trivial⟩) hr3), (ap_ref07_Slashable n (by exact ⟨leT.refl _, leT.refl _, trivial⟩) hr4), hb2, (ap_duty_Slashable n (by exact ⟨leT.refl _, leT.refl _, trivial⟩) hr5), trivial⟩ ?_
        refine Nxt_norm ?_
        refine Ab.cond (b := r5) (by kernel_rfl) (fun hb3 => ?_) (fun hb3 => ?_)
        · replace h := cond_t hb3 h
          refine Ab.seq ?_
          refine Ab.regT hE hC hL [] { keep := [4], ren := [] } ⟨[(4, (.t (.bool false)))], []⟩ [] (by kernel_rfl) trivial ?_
          refine Nxt_norm ?_
          refine Ab.ret ?_
          refine Nxt_ret ?_
          obtain rfl := Option.some.inj h
          exact End_ret (doneO_ok (md := [false]) (by kernel_rfl))
        · replace h := cond_f hb3 h
          refine Ab.skip ?_
          refine Nxt_norm ?_
          refine Ab.seq ?_
          rcases Bool.eq_false_or_eq_true (pa0.Target.Epoch != pb0.Target.Epoch) with hb4 | hb4
          · replace h := cond_t hb4 h
            refine Ab.regA hE hC hL [[], [], [], [], [], [], [], [.b true]] { keep := [4], ren := [] } ⟨[(4, (.t (.bool true)))], []⟩ [(pa0.Target.Epoch != pb0.Target.Epoch) = true] (by kernel_rfl) (by kernel_rfl) ⟨hb4, trivial⟩ ?_
            refine Nxt_norm ?_
            refine Ab.ret ?_
            obtain rfl := Option.some.inj h
            exact End_ret (doneO_ok (md := [false]) (by kernel_rfl))
          · replace h := cond_f hb4 h
            rcases Bool.eq_false_or_eq_true (r1 == (!(decide (pa0 = pb0)))) with hb5 | hb5
            · replace h := cond_t hb5 h
              refine Ab.regA hE hC hL [[], [], [], [], [], [], [], [.b false], [], [], [.r [.tree (.bool r1)] []], [], [], [.b (!(decide (pa0 = pb0)))], [], [.b true], [], [], [.r [.tree (.bool r3)] []], [], [], [.b (!(decide (pa0 = pb0)))]] { keep := [4], ren := [] } ⟨[(4, (.t (.bool (r3 == (!(decide (pa0 = pb0)))))))], []⟩ [(pa0.Target.Epoch != pb0.Target.Epoch) = false, (sp_duty_Slashable n).fn [(e_GVote pa0), (e_GVote pb0)] = some ([.tree (.bool r1)], []), binOp (E_law09_DutySlashable n) .neq 28 (.t (e_GVote pa0)) (.t (e_GVote pb0)) = some (.bool (!(decide (pa0 = pb0)))), (r1 == (!(decide (pa0 = pb0)))) = true, (sp_duty_Slashable n).fn [(e_GVote pb0), (e_GVote pa0)] = some ([.tree (.bool r3)], []), binOp (E_law09_DutySlashable n) .neq 28 (.t (e_GVote pa0)) (.t (e_GVote pb0)) = some (.bool (!(decide (pa0 = pb0))))] (by kernel_rfl) (by kernel_rfl) ⟨hb4, (ap_duty_Slashable n (by exact ⟨leT.refl _, leT.refl _, trivial⟩) hr1), (bneq_28 _ rfl _ _), hb5, (ap_duty_Slashable n (by exact ⟨leT.refl _, leT.refl _, trivial⟩) hr3), (bneq_28 _ rfl _ _), trivial⟩ ?_
              refine Nxt_norm ?_
              refine Ab.ret ?_
              obtain rfl := Option.some.inj h
              exact End_ret (doneO_ok (md := [false]) (by kernel_rfl))
            · replace h := cond_f hb5 h
              refine Ab.regA hE hC hL [[], [], [], [], [], [], [], [.b false], [], [], [.r [.tree (.bool r1)] []], [], [], [.b (!(decide (pa0 = pb0)))], [], [.b false]] { keep := [4], ren := [] } ⟨[(4, (.t (.bool false)))], []⟩ [(pa0.Target.Epoch != pb0.Target.Epoch) = false, (sp_duty_Slashable n).fn [(e_GVote pa0), (e_GVote pb0)] = some ([.tree (.bool r1)], []), binOp (E_law09_DutySlashable n) .neq 28 (.t (e_GVote pa0)) (.t (e_GVote pb0)) = some (.bool (!(decide (pa0 = pb0)))), (r1 == (!(decide (pa0 = pb0)))) = false] (by kernel_rfl) (by kernel_rfl) ⟨hb4, (ap_duty_Slashable n (by exact ⟨leT.refl _, leT.refl _, trivial⟩) hr1), (bneq_28 _ rfl _ _), hb5, trivial⟩ ?_
              refine Nxt_norm ?_
              refine Ab.ret ?_
              obtain rfl := Option.some.inj h
              exact End_ret (doneO_ok (md := [false]) (by kernel_rfl))
def ea_duty_Start (a : Int) : List T := [(T.int .u64) a]
def er_duty_Start (r : Int) : List RR × List T := ([.tree ((T.int .u64) r)], [])
noncomputable def sp_duty_Start (n : Nat) : Spec := specP [] true ea_duty_Start (fun a => f_duty_Start n a) (fun _ r => er_duty_Start r)
theorem ap_duty_Start (n : Nat) {ts : List T} {a0 : Int} {r : Int} (hle : leTs ts [(T.int .u64) a0]) (h : f_duty_Start n a0 = some r) : (sp_duty_Start n).fn ts = some ([.tree ((T.int .u64) r)], []) :=
  specP_fn (a := a0) (InjA.one (inj_int _)) hle h
noncomputable def E_duty_Start (n : Nat) : Env := { ty := tyT, glob := glob, fns := get [], ntmps := 5 }
theorem eok_duty_Start (n : Nat) : EnvOK Try.prog (E_duty_Start n) := ⟨tys_ok tys_chk, prog_mixed, fns_nil⟩
def K_duty_Start (n : Nat) (pepoch0 : Int) (r : Int) : St → Prop := Done (E_duty_Start n) Try.f13.results.toList [] (ea_duty_Start pepoch0) (er_duty_Start r).1 (er_duty_Start r).2
set_option maxRecDepth 100000 in
set_option maxHeartbeats 4000000 in
theorem ok_duty_Start (n : Nat) : SpecOK Try.prog glob 13 (sp_duty_Start n) := by
  refine specP_ok (fn := Try.f13) (eok_duty_Start n) (by kernel_rfl) rfl (by decide +kernel) (by kernel_rfl) (fun _ => by show 1 ≤ 5; omega) (fun _ _ r => ⟨(rrf_tree ((fun _ => rfl) _) rrf_nil), flats_nil⟩) ?_
  rintro pepoch0 r h C hL hC
  have hE := eok_duty_Start n
  replace hL : ∀ n g, (n, g) ∈ C.lent → n ∈ ([] : List Nat) := hL
  replace h : f_duty_Start n pepoch0 = some r := h
  show Ab _ _ _ _ _ (End (K_duty_Start n pepoch0 r))
  unfold f_duty_Start at h
  refine Ab.seq ?_
  refine Ab.regT hE hC hL [] { keep := [0], ren := [] } ⟨[(0, (.t (.int .u64 pepoch0)))], []⟩ [] (by kernel_rfl) trivial ?_
  refine Nxt_norm ?_
  refine Ab.seq ?_
  refine Ab.regT hE hC hL [] { keep := [2], ren := [] } ⟨[(2, (.t (.int .u64 (w64 (pepoch0 * (4:Int))))))], []⟩ [] (by kernel_rfl) trivial ?_
  refine Nxt_norm ?_
  refine Ab.ret ?_
  obtain rfl := Option.some.inj h
  exact End_ret (doneO_ok (md := [false]) (by kernel_rfl))
def ea_duty_Now (a : GState) : List T := [e_GState a]
def er_duty_Now (r : Int) : List RR × List T := ([.tree ((T.int .u64) r)], [])
noncomputable def sp_duty_Now (n : Nat) : Spec := specP [] true ea_duty_Now (fun a => f_duty_Now n a) (fun _ r => er_duty_Now r)
theorem ap_duty_Now (n : Nat) {ts : List T} {a0 : GState} {r : Int} (hle : leTs ts [e_GState a0]) (h : f_duty_Now n a0 = some r) : (sp_duty_Now n).fn ts = some ([.tree ((T.int .u64) r)], []) :=
  specP_fn (a := a0) (InjA.one i_GState) hle h
noncomputable def E_duty_Now (n : Nat) : Env := { ty := tyT, glob := glob, fns := get [(12, sp_duty_Epoch n)], ntmps := 6 }
theorem eok_duty_Now (n : Nat) : EnvOK Try.prog (E_duty_Now n) := ⟨tys_ok tys_chk, prog_mixed, (fns_cons (ok_duty_Epoch n) fns_nil)⟩
def K_duty_Now (n : Nat) (ps0 : GState) (r : Int) : St → Prop := Done (E_duty_Now n) Try.f14.results.toList [] (ea_duty_Now ps0) (er_duty_Now r).1 (er_duty_Now r).2
set_option maxRecDepth 100000 in
set_option maxHeartbeats 4000000 in
theorem ok_duty_Now (n : Nat) : SpecOK Try.prog glob 14 (sp_duty_Now n) := by
  refine specP_ok (fn := Try.f14) (eok_duty_Now n) (by kernel_rfl) rfl (by decide +kernel) (by kernel_rfl) (fun _ => by show 1 ≤ 6; omega) (fun _ _ r => ⟨(rrf_tree ((fun _ => rfl) _) rrf_nil), flats_nil⟩) ?_
  rintro ps0 r h C hL hC
  have hE := eok_duty_Now n
  replace hL : ∀ n g, (n, g) ∈ C.lent → n ∈ ([] : List Nat) := hL
  replace h : f_duty_Now n ps0 = some r := h
  show Ab _ _ _ _ _ (End (K_duty_Now n ps0 r))
  unfold f_duty_Now at h
  refine Ab.seq ?_
  refine Ab.regT hE hC hL [] { keep := [1], ren := [(1, 1)] } ⟨[(1, (.ref 1 [] (0)))], [(1, (.var false 46 (.t (e_GState ps0))))]⟩ [] (by kernel_rfl) trivial ?_
  refine Nxt_norm ?_
  refine Ab.seq ?_
  obtain ⟨r0, hr0, h⟩ := bind_some h
  refine Ab.regT hE hC hL [[], [], [.r [.tree (.int .u64 r0)] []]] { keep := [2], ren := [] } ⟨[(2, (.t (.int .u64 r0)))], []⟩ [(sp_duty_Epoch n).fn [(.int .u64 ps0.Slot)] = some ([.tree (.int .u64 r0)], [])] (by kernel_rfl) ⟨(ap_duty_Epoch n (by exact ⟨leT.refl _, trivial⟩) hr0), trivial⟩ ?_
  refine Nxt_norm ?_
  refine Ab.ret ?_
  obtain rfl := Option.some.inj h
  exact End_ret (doneO_ok (md := [false]) (by kernel_rfl))
def ea_num_Less (a : Int × Int) : List T := [(T.int .u64) a.1, (T.int .u64) a.2]
def er_num_Less (r : Int) : List RR × List T := ([.tree ((T.int .u64) r)], [])
noncomputable def sp_num_Less (n : Nat) : Spec := specP [] true ea_num_Less (fun a => f_num_Less n a.1 a.2) (fun _ r => er_num_Less r)
theorem ap_num_Less (n : Nat) {ts : List T} {a0 : Int} {a1 : Int} {r : Int} (hle : leTs ts [(T.int .u64) a0, (T.int .u64) a1]) (h : f_num_Less n a0 a1 = some r) : (sp_num_Less n).fn ts = some ([.tree ((T.int .u64) r)], []) :=
  specP_fn (a := (a0, a1)) (InjA.cons (inj_int _) (InjA.one (inj_int _))) hle h
noncomputable def E_num_Less (n : Nat) : Env := { ty := tyT, glob := glob, fns := get [], ntmps := 11 }
theorem eok_num_Less (n : Nat) : EnvOK Try.prog (E_num_Less n) := ⟨tys_ok tys_chk, prog_mixed, fns_nil⟩
def K_num_Less (n : Nat) (pa0 : Int) (pb0 : Int) (r : Int) : St → Prop := Done (E_num_Less n) Try.f33.results.toList [] (ea_num_Less (pa0, pb0)) (er_num_Less r).1 (er_num_Less r).2
set_option maxRecDepth 100000 in
set_option maxHeartbeats 4000000 in
theorem ok_num_Less (n : Nat) : SpecOK Try.prog glob 33 (sp_num_Less n) := by
  refine specP_ok (fn := Try.f33) (eok_num_Less n) (by kernel_rfl) rfl (by decide +kernel) (by kernel_rfl) (fun _ => by show 2 ≤ 11; omega) (fun _ _ r => ⟨(rrf_tree ((fun _ => rfl) _) rrf_nil), flats_nil⟩) ?_
  rintro ⟨pa0, pb0⟩ r h C hL hC
  have hE := eok_num_Less n
  replace hL : ∀ n g, (n, g) ∈ C.lent → n ∈ ([] : List Nat) := hL
  replace h : f_num_Less n pa0 pb0 = some r := h
  show Ab _ _ _ _ _ (End (K_num_Less n pa0 pb0 r))
  unfold f_num_Less at h
  refine Ab.seq ?_
  refine Ab.regT hE hC hL [] { keep := [0, 1], ren := [] } ⟨[(0, (.t (.int .u64 pa0))), (1, (.t (.int .u64 pb0)))], []⟩ [] (by kernel_rfl) trivial ?_
  refine Nxt_norm ?_
  refine Ab.seq ?_
  refine Ab.seq ?_
  refine Ab.regT hE hC hL [] { keep := [0, 1, 7], ren := [] } ⟨[(0, (.t (.int .u64 pa0))), (1, (.t (.int .u64 pb0))), (7, (.t (.bool (decide (pb0 > pa0)))))], []⟩ [] (by kernel_rfl) trivial ?_
  refine Nxt_norm ?_
  refine Ab.cond (b := (decide (pb0 > pa0))) (by kernel_rfl) (fun hb0 => ?_) (fun hb0 => ?_)
  · replace h := cond_t hb0 h
    refine Ab.seq ?_
    refine Ab.regT hE hC hL [] { keep := [4], ren := [] } ⟨[(4, (.t (.int .u64 (0:Int))))], []⟩ [] (by kernel_rfl) trivial ?_
    refine Nxt_norm ?_
    refine Ab.ret ?_
    refine Nxt_ret ?_
    obtain rfl := Option.some.inj h
    exact End_ret (doneO_ok (md := [false]) (by kernel_rfl))
  · replace h := cond_f hb0 h
    refine Ab.skip ?_
    refine Nxt_norm ?_
    refine Ab.seq ?_
    refine Ab.regT hE hC hL [] { keep := [4], ren := [] } ⟨[(4, (.t (.int .u64 (w64 (pa0 - pb0)))))], []⟩ [] (by kernel_rfl) trivial ?_
    refine Nxt_norm ?_
    refine Ab.ret ?_
    obtain rfl := Option.some.inj h
    exact End_ret (doneO_ok (md := [false]) (by kernel_rfl))
def ea_duty_Before (a : GState) : List T := [e_GState a]
def er_duty_Before (r : Int) : List RR × List T := ([.tree ((T.int .u64) r)], [])
noncomputable def sp_duty_Before (n : Nat) : Spec := specP [] true ea_duty_Before (fun a => f_duty_Before n a) (fun _ r => er_duty_Before r)
theorem ap_duty_Before (n : Nat) {ts : List T} {a0 : GState} {r : Int} (hle : leTs ts [e_GState a0]) (h : f_duty_Before n a0 = some r) : (sp_duty_Before n).fn ts = some ([.tree ((T.int .u64) r)], []) :=
  specP_fn (a := a0) (InjA.one i_GState) hle h
noncomputable def E_duty_Before (n : Nat) : Env := { ty := tyT, glob := glob, fns := get [(14, sp_duty_Now n), (33, sp_num_Less n)], ntmps := 6 }
theorem eok_duty_Before (n : Nat) : EnvOK Try.prog (E_duty_Before n) := ⟨tys_ok tys_chk, prog_mixed, (fns_cons (ok_duty_Now n) (fns_cons (ok_num_Less n) fns_nil))⟩
def K_duty_Before (n : Nat) (ps0 : GState) (r : Int) : St → Prop := Done (E_duty_Before n) Try.f15.results.toList [] (ea_duty_Before ps0) (er_duty_Before r).1 (er_duty_Before r).2
set_option maxRecDepth 100000 in
set_option maxHeartbeats 4000000 in
theorem ok_duty_Before (n : Nat) : SpecOK Try.prog glob 15 (sp_duty_Before n) := by
  refine specP_ok (fn := Try.f15) (eok_duty_Before n) (by kernel_rfl) rfl (by decide +kernel) (by kernel_rfl) (fun _ => by show 1 ≤ 6; omega) (fun _ _ r => ⟨(rrf_tree ((fun _ => rfl) _) rrf_nil), flats_nil⟩) ?_
  rintro ps0 r h C hL hC
  have hE := eok_duty_Before n
  replace hL : ∀ n g, (n, g) ∈ C.lent → n ∈ ([] : List Nat) := hL
  replace h : f_duty_Before n ps0 = some r := h
  show Ab _ _ _ _ _ (End (K_duty_Before n ps0 r))
  unfold f_duty_Before at h
  refine Ab.seq ?_
  refine Ab.regT hE hC hL [] { keep := [1], ren := [(1, 1)] } ⟨[(1, (.ref 1 [] (0)))], [(1, (.var false 46 (.t (e_GState ps0))))]⟩ [] (by kernel_rfl) trivial ?_
  refine Nxt_norm ?_
  refine Ab.seq ?_
  obtain ⟨r0, hr0, h⟩ := bind_some h
  obtain ⟨r1, hr1, h⟩ := bind_some h
  refine Ab.regT hE hC hL [[], [.r [.tree (.int .u64 r0)] []], [.r [.tree (.int .u64 r1)] []]] { keep := [2], ren := [] } ⟨[(2, (.t (.int .u64 r1)))], []⟩ [(sp_duty_Now n).fn [(e_GState ps0)] = some ([.tree (.int .u64 r0)], []), (sp_num_Less n).fn [(.int .u64 r0), (.int .u64 (1:Int))] = some ([.tree (.int .u64 r1)], [])] (by kernel_rfl) ⟨(ap_duty_Now n (by exact ⟨leT.refl _, trivial⟩) hr0), (ap_num_Less n (by exact ⟨leT.refl _, leT.refl _, trivial⟩) hr1), trivial⟩ ?_
  refine Nxt_norm ?_
  refine Ab.ret ?_
  obtain rfl := Option.some.inj h
  exact End_ret (doneO_ok (md := [false]) (by kernel_rfl))
def ea_ref01_Less (a : Int × Int) : List T := [(T.int .u64) a.1, (T.int .u64) a.2]
def er_ref01_Less (r : Int) : List RR × List T := ([.tree ((T.int .u64) r)], [])
noncomputable def sp_ref01_Less (n : Nat) : Spec := specP [] true ea_ref01_Less (fun a => f_ref01_Less n a.1 a.2) (fun _ r => er_ref01_Less r)
theorem ap_ref01_Less (n : Nat) {ts : List T} {a0 : Int} {a1 : Int} {r : Int} (hle : leTs ts [(T.int .u64) a0, (T.int .u64) a1]) (h : f_ref01_Less n a0 a1 = some r) : (sp_ref01_Less n).fn ts = some ([.tree ((T.int .u64) r)], []) :=
  specP_fn (a := (a0, a1)) (InjA.cons (inj_int _) (InjA.one (inj_int _))) hle h
noncomputable def E_ref01_Less (n : Nat) : Env := { ty := tyT, glob := glob, fns := get [], ntmps := 11 }
theorem eok_ref01_Less (n : Nat) : EnvOK Try.prog (E_ref01_Less n) := ⟨tys_ok tys_chk, prog_mixed, fns_nil⟩
def K_ref01_Less (n : Nat) (pa0 : Int) (pb0 : Int) (r : Int) : St → Prop := Done (E_ref01_Less n) Try.f16.results.toList [] (ea_ref01_Less (pa0, pb0)) (er_ref01_Less r).1 (er_ref01_Less r).2
set_option maxRecDepth 100000 in
set_option maxHeartbeats 4000000 in
theorem ok_ref01_Less (n : Nat) : SpecOK Try.prog glob 16 (sp_ref01_Less n) := by
  refine specP_ok (fn := Try.f16) (eok_ref01_Less n) (by kernel_rfl) rfl (by decide +kernel) (by kernel_rfl) (fun _ => by show 2 ≤ 11; omega) (fun _ _ r => ⟨(rrf_tree ((fun _ => rfl) _) rrf_nil), flats_nil⟩) ?_
  rintro ⟨pa0, pb0⟩ r h C hL hC
  have hE := eok_ref01_Less n
  replace hL : ∀ n g, (n, g) ∈ C.lent → n ∈ ([] : List Nat) := hL
  replace h : f_ref01_Less n pa0 pb0 = some r := h
  show Ab _ _ _ _ _ (End (K_ref01_Less n pa0 pb0 r))
  unfold f_ref01_Less at h
  refine Ab.seq ?_
  refine Ab.regT hE hC hL [] { keep := [0, 1], ren := [] } ⟨[(0, (.t (.int .u64 pa0))), (1, (.t (.int .u64 pb0)))], []⟩ [] (by kernel_rfl) trivial ?_
  refine Nxt_norm ?_
  refine Ab.seq ?_
  refine Ab.seq ?_
  refine Ab.regT hE hC hL [] { keep := [0, 1, 7], ren := [] } ⟨[(0, (.t (.int .u64 pa0))), (1, (.t (.int .u64 pb0))), (7, (.t (.bool (decide (pa0 < pb0)))))], []⟩ [] (by kernel_rfl) trivial ?_
  refine Nxt_norm ?_
  refine Ab.cond (b := (decide (pa0 < pb0))) (by kernel_rfl) (fun hb0 => ?_) (fun hb0 => ?_)
  · replace h := cond_t hb0 h
    refine Ab.seq ?_
    refine Ab.regT hE hC hL [] { keep := [4], ren := [] } ⟨[(4, (.t (.int .u64 (0:Int))))], []⟩ [] (by kernel_rfl) trivial ?_
    refine Nxt_norm ?_
    refine Ab.ret ?_
    refine Nxt_ret ?_
    obtain rfl := Option.some.inj h
    exact End_ret (doneO_ok (md := [false]) (by kernel_rfl))
  · replace h := cond_f hb0 h
    refine Ab.skip ?_
    refine Nxt_norm ?_
    refine Ab.seq ?_
    refine Ab.regT hE hC hL [] { keep := [4], ren := [] } ⟨[(4, (.t (.int .u64 (w64 (pa0 - pb0)))))], []⟩ [] (by kernel_rfl) trivial ?_
    refine Nxt_norm ?_
    refine Ab.ret ?_
    obtain rfl := Option.some.inj h
    exact End_ret (doneO_ok (md := [false]) (by kernel_rfl))
def ea_duty_IsActive (a : GValidator × Int) : List T := [e_GValidator a.1, (T.int .u64) a.2]
def er_duty_IsActive (r : Bool) : List RR × List T := ([.tree (T.bool r)], [])
noncomputable def sp_duty_IsActive (n : Nat) : Spec := specP [] true ea_duty_IsActive (fun a => f_duty_IsActive n a.1 a.2) (fun _ r => er_duty_IsActive r)
theorem ap_duty_IsActive (n : Nat) {ts : List T} {a0 : GValidator} {a1 : Int} {r : Bool} (hle : leTs ts [e_GValidator a0, (T.int .u64) a1]) (h : f_duty_IsActive n a0 a1 = some r) : (sp_duty_IsActive n).fn ts = some ([.tree (T.bool r)], []) :=
  specP_fn (a := (a0, a1)) (InjA.cons i_GValidator (InjA.one (inj_int _))) hle h
noncomputable def E_duty_IsActive (n : Nat) : Env := { ty := tyT, glob := glob, fns := get [], ntmps := 15 }
theorem eok_duty_IsActive (n : Nat) : EnvOK Try.prog (E_duty_IsActive n) := ⟨tys_ok tys_chk, prog_mixed, fns_nil⟩
def K_duty_IsActive (n : Nat) (pv0 : GValidator) (pepoch0 : Int) (r : Bool) : St → Prop := Done (E_duty_IsActive n) Try.f17.results.toList [] (ea_duty_IsActive (pv0, pepoch0)) (er_duty_IsActive r).1 (er_duty_IsActive r).2
set_option maxRecDepth 100000 in
set_option maxHeartbeats 4000000 in
theorem ok_duty_IsActive (n : Nat) : SpecOK Try.prog glob 17 (sp_duty_IsActive n) := by
  refine specP_ok (fn := Try.f17) (eok_duty_IsActive n) (by kernel_rfl) rfl (by decide +kernel) (by kernel_rfl) (fun _ => by show 2 ≤ 15; omega) (fun _ _ r => ⟨(rrf_tree ((fun _ => rfl) _) rrf_nil), flats_nil⟩) ?_
  rintro ⟨pv0, pepoch0⟩ r h C hL hC
  have hE := eok_duty_IsActive n
  replace hL : ∀ n g, (n, g) ∈ C.lent → n ∈ ([] : List Nat) := hL
  replace h : f_duty_IsActive n pv0 pepoch0 = some r := h
  show Ab _ _ _ _ _ (End (K_duty_IsActive n pv0 pepoch0 r))
  unfold f_duty_IsActive at h
  refine Ab.seq ?_
  refine Ab.regT hE hC hL [] { keep := [1, 2], ren := [(2, 2)] } ⟨[(1, (.t (.int .u64 pepoch0))), (2, (.ref 2 [] (0)))], [(2, (.var false 32 (.t (e_GValidator pv0))))]⟩ [] (by kernel_rfl) trivial ?_
  refine Nxt_norm ?_
  refine Ab.seq ?_
  rcases Bool.eq_false_or_eq_true (decide (pv0.Active ≤ pepoch0)) with hb0 | hb0
  · replace h := cond_t hb0 h
    refine Ab.regT hE hC hL [[], [], [], [], [.b true]] { keep := [4], ren := [] } ⟨[(4, (.t (.bool (decide (pepoch0 < pv0.Exit)))))], []⟩ [(decide (pv0.Active ≤ pepoch0)) = true] (by kernel_rfl) ⟨hb0, trivial⟩ ?_
    refine Nxt_norm ?_
    refine Ab.ret ?_
    obtain rfl := Option.some.inj h
    exact End_ret (doneO_ok (md := [false]) (by kernel_rfl))
  · replace h := cond_f hb0 h
    refine Ab.regT hE hC hL [[], [], [], [], [.b false]] { keep := [4], ren := [] } ⟨[(4, (.t (.bool false)))], []⟩ [(decide (pv0.Active ≤ pepoch0)) = false] (by kernel_rfl) ⟨hb0, trivial⟩ ?_
    refine Nxt_norm ?_
    refine Ab.ret ?_
    obtain rfl := Option.some.inj h
    exact End_ret (doneO_ok (md := [false]) (by kernel_rfl))
def ea_ref07_IsActive (a : GValidator × Int) : List T := [e_GValidator a.1, (T.int .u64) a.2]
def er_ref07_IsActive (r : Bool) : List RR × List T := ([.tree (T.bool r)], [])
noncomputable def sp_ref07_IsActive (n : Nat) : Spec := specP [] true ea_ref07_IsActive (fun a => f_ref07_IsActive n a.1 a.2) (fun _ r => er_ref07_IsActive r)
theorem ap_ref07_IsActive (n : Nat) {ts : List T} {a0 : GValidator} {a1 : Int} {r : Bool} (hle : leTs ts [e_GValidator a0, (T.int .u64) a1]) (h : f_ref07_IsActive n a0 a1 = some r) : (sp_ref07_IsActive n).fn ts = some ([.tree (T.bool r)], []) :=
  specP_fn (a := (a0, a1)) (InjA.cons i_GValidator (InjA.one (inj_int _))) hle h
noncomputable def E_ref07_IsActive (n : Nat) : Env := { ty := tyT, glob := glob, fns := get [], ntmps := 15 }
theorem eok_ref07_IsActive (n : Nat) : EnvOK Try.prog (E_ref07_IsActive n) := ⟨tys_ok tys_chk, prog_mixed, fns_nil⟩
def K_ref07_IsActive (n : Nat) (pv0 : GValidator) (pepoch0 : Int) (r : Bool) : St → Prop := Done (E_ref07_IsActive n) Try.f18.results.toList [] (ea_ref07_IsActive (pv0, pepoch0)) (er_ref07_IsActive r).1 (er_ref07_IsActive r).2
set_option maxRecDepth 100000 in
set_option maxHeartbeats 4000000 in
theorem ok_ref07_IsActive (n : Nat) : SpecOK Try.prog glob 18 (sp_ref07_IsActive n) := by
  refine specP_ok (fn := Try.f18) (eok_ref07_IsActive n) (by kernel_rfl) rfl (by decide +kernel) (by kernel_rfl) (fun _ => by show 2 ≤ 15; omega) (fun _ _ r => ⟨(rrf_tree ((fun _ => rfl) _) rrf_nil), flats_nil⟩) ?_
  rintro ⟨pv0, pepoch0⟩ r h C hL hC
  have hE := eok_ref07_IsActive n
  replace hL : ∀ n g, (n, g) ∈ C.lent → n ∈ ([] : List Nat) := hL
  replace h : f_ref07_IsActive n pv0 pepoch0 = some r := h
  show Ab _ _ _ _ _ (End (K_ref07_IsActive n pv0 pepoch0 r))
  unfold f_ref07_IsActive at h
  refine Ab.seq ?_
  refine Ab.regT hE hC hL [] { keep := [1, 2], ren := [(2, 2)] } ⟨[(1, (.t (.int .u64 pepoch0))), (2, (.ref 2 [] (0)))], [(2, (.var false 32 (.t (e_GValidator pv0))))]⟩ [] (by kernel_rfl) trivial ?_
  refine Nxt_norm ?_
  refine Ab.seq ?_
  rcases Bool.eq_false_or_eq_true (decide (pv0.Active ≤ pepoch0)) with hb0 | hb0
  · replace h := cond_t hb0 h
    refine Ab.regT hE hC hL [[], [], [], [], [.b true]] { keep := [4], ren := [] } ⟨[(4, (.t (.bool (decide (pv0.Exit > pepoch0)))))], []⟩ [(decide (pv0.Active ≤ pepoch0)) = true] (by kernel_rfl) ⟨hb0, trivial⟩ ?_
    refine Nxt_norm ?_
    refine Ab.ret ?_
    obtain rfl := Option.some.inj h
    exact End_ret (doneO_ok (md := [false]) (by kernel_rfl))
  · replace h := cond_f hb0 h
    refine Ab.regT hE hC hL [[], [], [], [], [.b false]] { keep := [4], ren := [] } ⟨[(4, (.t (.bool false)))], []⟩ [(decide (pv0.Active ≤ pepoch0)) = false] (by kernel_rfl) ⟨hb0, trivial⟩ ?_
    refine Nxt_norm ?_
    refine Ab.ret ?_
    obtain rfl := Option.some.inj h
    exact End_ret (doneO_ok (md := [false]) (by kernel_rfl))

end Go.Mg
