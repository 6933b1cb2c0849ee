/- The model's code computes these functions. -/
import Derived.Test.YtighjjielkdafaaDoorAW0
namespace Go.Mg
open Go Go.Proofs
def ea_law07_Awake (a : Unit) : List T := []
def er_law07_Awake (r : Bool) : List RR × List T := ([.tree (T.bool r)], [])
noncomputable def sp_law07_Awake (n : Nat) : Spec := specP [] true ea_law07_Awake (fun a => f_law07_Awake n) (fun _ r => er_law07_Awake r)
theorem ap_law07_Awake (n : Nat) {ts : List T} {r : Bool} (hle : leTs ts []) (h : f_law07_Awake n = some r) : (sp_law07_Awake n).fn ts = some ([.tree (T.bool r)], []) :=
  specP_fn (a := ()) injA0 hle h
noncomputable def E_law07_Awake (n : Nat) : Env := { ty := tyT, glob := glob, fns := get [(21, sp_sign_Join n), (25, sp_sign_Tag n), (27, sp_sign_Valid n)], ntmps := 29 }
theorem eok_law07_Awake (n : Nat) : EnvOK Tryd.prog (E_law07_Awake n) := ⟨tys_ok tys_chk, prog_mixed, (fns_cons (ok_sign_Join n) (fns_cons (ok_sign_Tag n) (fns_cons (ok_sign_Valid n) fns_nil)))⟩
def K_law07_Awake (n : Nat) (r : Bool) : St → Prop := Done (E_law07_Awake n) Tryd.f20.results.toList [] (ea_law07_Awake ()) (er_law07_Awake r).1 (er_law07_Awake r).2
set_option maxRecDepth 100000 in
set_option maxHeartbeats 4000000 in
theorem ok_law07_Awake (n : Nat) : SpecOK Tryd.prog glob 20 (sp_law07_Awake n) := by
  refine specP_ok (fn := Tryd.f20) (eok_law07_Awake n) (by kernel_rfl) rfl (by decide +kernel) (by kernel_rfl) (fun _ => by show 0 ≤ 29; omega) (fun _ _ r => ⟨(rrf_tree ((fun _ => rfl) _) rrf_nil), flats_nil⟩) ?_
  rintro ⟨⟩ r h C hL hC
  have hE := eok_law07_Awake n
  replace hL : ∀ n g, (n, g) ∈ C.lent → n ∈ ([] : List Nat) := hL
  replace h : f_law07_Awake n = some r := h
  show Ab _ _ _ _ _ (End (K_law07_Awake n r))
  unfold f_law07_Awake at h
  refine Ab.seq ?_
  refine Ab.regT hE hC hL [] { keep := [], ren := [] } ⟨[], []⟩ [] (by kernel_rfl) trivial ?_
  refine Nxt_norm ?_
  refine Ab.seq ?_
  obtain ⟨r0, hr0, h⟩ := bind_some h
  refine Ab.regT hE hC hL [[], [], [.r [.tree ((eA 1 (T.int .u8)) r0)] []]] { keep := [1], ren := [(1, 1)] } ⟨[(1, (.ref 1 [] (0)))], [(1, (.var false 25 (.t ((eA 1 (T.int .u8)) r0))))]⟩ [(sp_sign_Tag n).fn [((eA 1 (T.int .u8)) (⟨[(1:Int), (0:Int), (0:Int), (0:Int), (0:Int), (0:Int), (0:Int), (0:Int), (0:Int), (0:Int), (0:Int), (0:Int), (0:Int), (0:Int), (0:Int), (0:Int), (0:Int), (0:Int), (0:Int), (0:Int), (0:Int), (0:Int), (0:Int), (0:Int), (0:Int), (0:Int), (0:Int), (0:Int), (0:Int), (0:Int), (0:Int), (0:Int)], rfl⟩ : (Arr 32 Int))), ((eA 1 (T.int .u8)) (⟨[(2:Int), (0:Int), (0:Int), (0:Int), (0:Int), (0:Int), (0:Int), (0:Int), (0:Int), (0:Int), (0:Int), (0:Int), (0:Int), (0:Int), (0:Int), (0:Int), (0:Int), (0:Int), (0:Int), (0:Int), (0:Int), (0:Int), (0:Int), (0:Int), (0:Int), (0:Int), (0:Int), (0:Int), (0:Int), (0:Int), (0:Int), (0:Int)], rfl⟩ : (Arr 32 Int)))] = some ([.tree ((eA 1 (T.int .u8)) r0)], [])] (by kernel_rfl) ⟨(ap_sign_Tag n (by exact ⟨leT.refl _, leT.refl _, trivial⟩) hr0), trivial⟩ ?_
  refine Nxt_norm ?_
  refine Ab.seq ?_
  obtain ⟨r1, hr1, h⟩ := bind_some h
  rcases Bool.eq_false_or_eq_true (!r1) with hb0 | hb0
  · replace h := cond_t hb0 h
    rcases Bool.eq_false_or_eq_true (!(decide (r0 = (Arr.rep 32 (0:Int))))) with hb1 | hb1
    · replace h := cond_t hb1 h
      obtain ⟨r2, hr2, h⟩ := bind_some h
      rcases Bool.eq_false_or_eq_true (decide (r2 = (Arr.rep 32 (0:Int)))) with hb2 | hb2
      · replace h := cond_t hb2 h
        obtain ⟨r3, hr3, h⟩ := bind_some h
        refine Ab.regT hE hC hL [[], [], [.r [.tree (.bool r1)] []], [], [.b true], [], [], [.b (!(decide (r0 = (Arr.rep 32 (0:Int)))))], [], [.b true], [], [], [], [.r [.tree ((eA 1 (T.int .u8)) r2)] []], [], [.b (decide (r2 = (Arr.rep 32 (0:Int))))], [], [.b true], [], [], [], [], [.r [.tree (.bool r3)] []]] { keep := [0], ren := [] } ⟨[(0, (.t (.bool r3)))], []⟩ [(sp_sign_Valid n).fn [.nils, ((eA 1 (T.int .u8)) (Arr.rep 32 (0:Int))), ((eA 1 (T.int .u8)) (Arr.rep 32 (0:Int)))] = some ([.tree (.bool r1)], []), (!r1) = true, binOp (E_law07_Awake n) .neq 25 (.t ((eA 1 (T.int .u8)) r0)) (.t ((eA 1 (T.int .u8)) (Arr.rep 32 (0:Int)))) = some (.bool (!(decide (r0 = (Arr.rep 32 (0:Int)))))), (!(decide (r0 = (Arr.rep 32 (0:Int))))) = true, (sp_sign_Join n).fn [(.slc 32 (List.map (eA 1 (T.int .u8)) ([r0, r0] : List (Arr 32 Int))))] = some ([.tree ((eA 1 (T.int .u8)) r2)], []), binOp (E_law07_Awake n) .eql 25 (.t ((eA 1 (T.int .u8)) r2)) (.t ((eA 1 (T.int .u8)) (Arr.rep 32 (0:Int)))) = some (.bool (decide (r2 = (Arr.rep 32 (0:Int))))), (decide (r2 = (Arr.rep 32 (0:Int)))) = true, (sp_sign_Valid n).fn [(.slc 32 (List.map (eA 1 (T.int .u8)) ([(⟨[(1:Int), (0:Int), (0:Int), (0:Int), (0:Int), (0:Int), (0:Int), (0:Int), (0:Int), (0:Int), (0:Int), (0:Int), (0:Int), (0:Int), (0:Int), (0:Int), (0:Int), (0:Int), (0:Int), (0:Int), (0:Int), (0:Int), (0:Int), (0:Int), (0:Int), (0:Int), (0:Int), (0:Int), (0:Int), (0:Int), (0:Int), (0:Int)], rfl⟩ : (Arr 32 Int))] : List (Arr 32 Int)))), ((eA 1 (T.int .u8)) (⟨[(2:Int), (0:Int), (0:Int), (0:Int), (0:Int), (0:Int), (0:Int), (0:Int), (0:Int), (0:Int), (0:Int), (0:Int), (0:Int), (0:Int), (0:Int), (0:Int), (0:Int), (0:Int), (0:Int), (0:Int), (0:Int), (0:Int), (0:Int), (0:Int), (0:Int), (0:Int), (0:Int), (0:Int), (0:Int), (0:Int), (0:Int), (0:Int)], rfl⟩ : (Arr 32 Int))), ((eA 1 (T.int .u8)) r0)] = some ([.tree (.bool r3)], [])] (by kernel_rfl) ⟨(ap_sign_Valid n (by exact ⟨le_nil, leT.refl _, leT.refl _, trivial⟩) hr1), hb0, (bneq_25 _ rfl _ _), hb1, (ap_sign_Join n (by exact ⟨leT.refl _, trivial⟩) hr2), (beql_25 _ rfl _ _), hb2, (ap_sign_Valid n (by exact ⟨leT.refl _, leT.refl _, leT.refl _, trivial⟩) hr3), trivial⟩ ?_
        refine Nxt_norm ?_
        refine Ab.ret ?_
        obtain rfl := Option.some.inj h
        exact End_ret (doneO_ok (md := [false]) (by kernel_rfl))
      · replace h := cond_f hb2 h
        refine Ab.regT hE hC hL [[], [], [.r [.tree (.bool r1)] []], [], [.b true], [], [], [.b (!(decide (r0 = (Arr.rep 32 (0:Int)))))], [], [.b true], [], [], [], [.r [.tree ((eA 1 (T.int .u8)) r2)] []], [], [.b (decide (r2 = (Arr.rep 32 (0:Int))))], [], [.b false]] { keep := [0], ren := [] } ⟨[(0, (.t (.bool false)))], []⟩ [(sp_sign_Valid n).fn [.nils, ((eA 1 (T.int .u8)) (Arr.rep 32 (0:Int))), ((eA 1 (T.int .u8)) (Arr.rep 32 (0:Int)))] = some ([.tree (.bool r1)], []), (!r1) = true, binOp (E_law07_Awake n) .neq 25 (.t ((eA 1 (T.int .u8)) r0)) (.t ((eA 1 (T.int .u8)) (Arr.rep 32 (0:Int)))) = some (.bool (!(decide (r0 = (Arr.rep 32 (0:Int)))))), (!(decide (r0 = (Arr.rep 32 (0:Int))))) = true, (sp_sign_Join n).fn [(.slc 32 (List.map (eA 1 (T.int .u8)) ([r0, r0] : List (Arr 32 Int))))] = some ([.tree ((eA 1 (T.int .u8)) r2)], []), binOp (E_law07_Awake n) .eql 25 (.t ((eA 1 (T.int .u8)) r2)) (.t ((eA 1 (T.int .u8)) (Arr.rep 32 (0:Int)))) = some (.bool (decide (r2 = (Arr.rep 32 (0:Int))))), (decide (r2 = (Arr.rep 32 (0:Int)))) = false] (by kernel_rfl) ⟨(ap_sign_Valid n (by exact ⟨le_nil, leT.refl _, leT.refl _, trivial⟩) hr1), hb0, (bneq_25 _ rfl _ _), hb1, (ap_sign_Join n (by exact ⟨leT.refl _, trivial⟩) hr2), (beql_25 _ rfl _ _), hb2, trivial⟩ ?_
        refine Nxt_norm ?_
        refine Ab.ret ?_
        obtain rfl := Option.some.inj h
        exact End_ret (doneO_ok (md := [false]) (by kernel_rfl))
    · replace h := cond_f hb1 h
      refine Ab.regT hE hC hL [[], [], [.r [.tree (.bool r1)] []], [], [.b true], [], [], [.b (!(decide (r0 = (Arr.rep 32 (0:Int)))))], [], [.b false]] { keep := [0], ren := [] } ⟨[(0, (.t (.bool false)))], []⟩ [(sp_sign_Valid n).fn [.nils, ((eA 1 (T.int .u8)) (Arr.rep 32 (0:Int))), ((eA 1 (T.int .u8)) (Arr.rep 32 (0:Int)))] = some ([.tree (.bool r1)], []), (!r1) = true, binOp (E_law07_Awake n) .neq 25 (.t ((eA 1 (T.int .u8)) r0)) (.t ((eA 1 (T.int .u8)) (Arr.rep 32 (0:Int)))) = some (.bool (!(decide (r0 = (Arr.rep 32 (0:Int)))))), (!(decide (r0 = (Arr.rep 32 (0:Int))))) = false] (by kernel_rfl) ⟨(ap_sign_Valid n (by exact ⟨le_nil, leT.refl _, leT.refl _, trivial⟩) hr1), hb0, (bneq_25 _ rfl _ _), hb1, trivial⟩ ?_
      refine Nxt_norm ?_
      refine Ab.ret ?_
      obtain rfl := Option.some.inj h
      exact End_ret (doneO_ok (md := [false]) (by kernel_rfl))
  · replace h := cond_f hb0 h
    refine Ab.regT hE hC hL [[], [], [.r [.tree (.bool r1)] []], [], [.b false]] { keep := [0], ren := [] } ⟨[(0, (.t (.bool false)))], []⟩ [(sp_sign_Valid n).fn [.nils, ((eA 1 (T.int .u8)) (Arr.rep 32 (0:Int))), ((eA 1 (T.int .u8)) (Arr.rep 32 (0:Int)))] = some ([.tree (.bool r1)], []), (!r1) = false] (by kernel_rfl) ⟨(ap_sign_Valid n (by exact ⟨le_nil, leT.refl _, leT.refl _, trivial⟩) hr1), hb0, trivial⟩ ?_
    refine Nxt_norm ?_
    refine Ab.ret ?_
    obtain rfl := Option.some.inj h
    exact End_ret (doneO_ok (md := [false]) (by kernel_rfl))
def ea_law07_SignJoins (a : (List (Arr 32 Int)) × Int) : List T := [(eS 32 (eA 1 (T.int .u8))) a.1, (T.int .i64) a.2]
def er_law07_SignJoins (r : Bool) : List RR × List T := ([.tree (T.bool r)], [])
noncomputable def sp_law07_SignJoins (n : Nat) : Spec := specP [] true ea_law07_SignJoins (fun a => f_law07_SignJoins n a.1 a.2) (fun _ r => er_law07_SignJoins r)
theorem ap_law07_SignJoins (n : Nat) {ts : List T} {a0 : (List (Arr 32 Int))} {a1 : Int} {r : Bool} (hle : leTs ts [(eS 32 (eA 1 (T.int .u8))) a0, (T.int .i64) a1]) (h : f_law07_SignJoins n a0 a1 = some r) : (sp_law07_SignJoins n).fn ts = some ([.tree (T.bool r)], []) :=
  specP_fn (a := (a0, a1)) (InjA.cons (inj_eS (inj_eA (inj_int _))) (InjA.one (inj_int _))) hle h
noncomputable def E_law07_SignJoins (n : Nat) : Env := { ty := tyT, glob := glob, fns := get [(20, sp_law07_Awake n), (21, sp_sign_Join n)], ntmps := 59 }
theorem eok_law07_SignJoins (n : Nat) : EnvOK Tryd.prog (E_law07_SignJoins n) := ⟨tys_ok tys_chk, prog_mixed, (fns_cons (ok_law07_Awake n) (fns_cons (ok_sign_Join n) fns_nil))⟩
def K_law07_SignJoins (n : Nat) (pl0 : (List (Arr 32 Int))) (pcut0 : Int) (r : Bool) : St → Prop := Done (E_law07_SignJoins n) Tryd.f6.results.toList [] (ea_law07_SignJoins (pl0, pcut0)) (er_law07_SignJoins r).1 (er_law07_SignJoins r).2
set_option maxRecDepth 100000 in
set_option maxHeartbeats 4000000 in
theorem ok_law07_SignJoins (n : Nat) : SpecB Tryd.prog glob 6 (sp_law07_SignJoins n) := by
  refine specP_B (fn := Tryd.f6) (eok_law07_SignJoins n) (by kernel_rfl) rfl (by decide +kernel) (by kernel_rfl) (fun _ => by show 2 ≤ 59; omega)  ?_
  rintro ⟨pl0, pcut0⟩ r h C hL hC
  have hE := eok_law07_SignJoins n
  replace hL : ∀ n g, (n, g) ∈ C.lent → n ∈ ([] : List Nat) := hL
  replace h : f_law07_SignJoins n pl0 pcut0 = some r := h
  show Ab _ _ _ _ _ (End (K_law07_SignJoins n pl0 pcut0 r))
  unfold f_law07_SignJoins at h
  refine Ab.seq ?_
  refine Ab.regT hE hC hL [] { keep := [0, 1], ren := [] } ⟨[(0, (.t ((eS 32 (eA 1 (T.int .u8))) pl0))), (1, (.t (.int .i64 pcut0)))], []⟩ [] (by kernel_rfl) trivial ?_
  refine Nxt_norm ?_
  refine Ab.seq ?_
  refine Ab.seq ?_
  obtain ⟨r0, hr0, h⟩ := bind_some h
  refine Ab.regT hE hC hL [[.r [.tree (.bool r0)] []]] { keep := [0, 1, 8], ren := [] } ⟨[(0, (.t ((eS 32 (eA 1 (T.int .u8))) pl0))), (1, (.t (.int .i64 pcut0))), (8, (.t (.bool (!r0))))], []⟩ [(sp_law07_Awake n).fn [] = some ([.tree (.bool r0)], [])] (by kernel_rfl) ⟨(ap_law07_Awake n (by exact trivial) hr0), trivial⟩ ?_
  refine Nxt_norm ?_
  refine Ab.cond (b := (!r0)) (by kernel_rfl) (fun hb0 => ?_) (fun hb0 => ?_)
  · replace h := cond_t hb0 h
    refine Ab.seq ?_
    refine Ab.regT hE hC hL [] { keep := [4], ren := [] } ⟨[(4, (.t (.bool false)))], []⟩ [] (by kernel_rfl) trivial ?_
    refine Nxt_norm ?_
    refine Ab.ret ?_
    refine Nxt_ret ?_
    obtain rfl := Option.some.inj h
    exact End_ret (doneO_ok (md := [false]) (by kernel_rfl))
  · replace h := cond_f hb0 h
    refine Ab.skip ?_
    refine Nxt_norm ?_
    refine Ab.seq ?_
    refine Ab.seq ?_
    refine Ab.regT hE hC hL [[], [.n (pl0.length : Int)]] { keep := [0, 1, 11], ren := [] } ⟨[(0, (.t ((eS 32 (eA 1 (T.int .u8))) pl0))), (1, (.t (.int .i64 pcut0))), (11, (.t (.bool (decide ((pl0.length : Int) > (60:Int))))))], []⟩ [((List.length (List.map (eA 1 (T.int .u8)) pl0) : Nat) : Int) = (pl0.length : Int)] (by kernel_rfl) ⟨(len_of rfl), trivial⟩ ?_
    refine Nxt_norm ?_
    refine Ab.cond (b := (decide ((pl0.length : Int) > (60:Int)))) (by kernel_rfl) (fun hb1 => ?_) (fun hb1 => ?_)
    · replace h := cond_t hb1 h
      refine Ab.seq ?_
      refine Ab.regT hE hC hL [] { keep := [4], ren := [] } ⟨[(4, (.t (.bool true)))], []⟩ [] (by kernel_rfl) trivial ?_
      refine Nxt_norm ?_
      refine Ab.ret ?_
      refine Nxt_ret ?_
      obtain rfl := Option.some.inj h
      exact End_ret (doneO_ok (md := [false]) (by kernel_rfl))
    · replace h := cond_f hb1 h
      refine Ab.skip ?_
      refine Nxt_norm ?_
      refine Ab.seq ?_
      obtain ⟨hq0, h⟩ := ask_dec h
      refine Ab.regT hE hC hL [[], [], [], [.n (pl0.length : Int)], [], [], [.c]] { keep := [0, 1], ren := [] } ⟨[(0, (.t ((eS 32 (eA 1 (T.int .u8))) pl0))), (1, (.t (.int .i64 (wi ((w64 pcut0).tmod (w64 (wi ((pl0.length : Int) + (1:Int)))))))))], []⟩ [((List.length (List.map (eA 1 (T.int .u8)) pl0) : Nat) : Int) = (pl0.length : Int), (w64 (wi ((pl0.length : Int) + (1:Int)))) ≠ 0] (by kernel_rfl) ⟨(len_of rfl), hq0, trivial⟩ ?_
      refine Nxt_norm ?_
      refine Ab.seq ?_
      obtain ⟨hq1, h⟩ := ask_dec h
      obtain ⟨hq2, h⟩ := ask_dec h
      obtain ⟨hq3, h⟩ := ask_dec h
      obtain ⟨hq4, h⟩ := ask_dec h
      refine Ab.regA hE hC hL [[], [], [], [.l (List.map (eA 1 (T.int .u8)) (List.drop ((wi ((w64 pcut0).tmod (w64 (wi ((pl0.length : Int) + (1:Int)))))).toNat) pl0))], [.l (List.map (eA 1 (T.int .u8)) (([] : List (Arr 32 Int)) ++ (List.drop ((wi ((w64 pcut0).tmod (w64 (wi ((pl0.length : Int) + (1:Int)))))).toNat) pl0)))], [], [], [.l (List.map (eA 1 (T.int .u8)) (List.take ((wi ((w64 pcut0).tmod (w64 (wi ((pl0.length : Int) + (1:Int)))))).toNat) pl0))], [.l (List.map (eA 1 (T.int .u8)) ((([] : List (Arr 32 Int)) ++ (List.drop ((wi ((w64 pcut0).tmod (w64 (wi ((pl0.length : Int) + (1:Int)))))).toNat) pl0)) ++ (List.take ((wi ((w64 pcut0).tmod (w64 (wi ((pl0.length : Int) + (1:Int)))))).toNat) pl0)))]] { keep := [0, 1, 5], ren := [(28, 28)] } ⟨[(0, (.t ((eS 32 (eA 1 (T.int .u8))) pl0))), (1, (.t (.int .i64 (wi ((w64 pcut0).tmod (w64 (wi ((pl0.length : Int) + (1:Int))))))))), (5, (.own 28))], [(28, (.row false 25 32 (List.map (eA 1 (T.int .u8)) ((([] : List (Arr 32 Int)) ++ (List.drop ((wi ((w64 pcut0).tmod (w64 (wi ((pl0.length : Int) + (1:Int)))))).toNat) pl0)) ++ (List.take ((wi ((w64 pcut0).tmod (w64 (wi ((pl0.length : Int) + (1:Int)))))).toNat) pl0)))))]⟩ [List.take (List.length (List.map (eA 1 (T.int .u8)) pl0) - (wi ((w64 pcut0).tmod (w64 (wi ((pl0.length : Int) + (1:Int)))))).toNat) (List.drop ((wi ((w64 pcut0).tmod (w64 (wi ((pl0.length : Int) + (1:Int)))))).toNat) (List.map (eA 1 (T.int .u8)) pl0)) = List.map (eA 1 (T.int .u8)) (List.drop ((wi ((w64 pcut0).tmod (w64 (wi ((pl0.length : Int) + (1:Int)))))).toNat) pl0), 0 ≤ (wi ((w64 pcut0).tmod (w64 (wi ((pl0.length : Int) + (1:Int)))))), (wi ((w64 pcut0).tmod (w64 (wi ((pl0.length : Int) + (1:Int)))))) ≤ ((List.length (List.map (eA 1 (T.int .u8)) pl0) : Nat) : Int), (List.length (List.map (eA 1 (T.int .u8)) ([] : List (Arr 32 Int))) + List.length (List.map (eA 1 (T.int .u8)) (List.drop ((wi ((w64 pcut0).tmod (w64 (wi ((pl0.length : Int) + (1:Int)))))).toNat) pl0))) * 32 ≤ maxBytes, List.length (List.map (eA 1 (T.int .u8)) ([] : List (Arr 32 Int))) + List.length (List.map (eA 1 (T.int .u8)) (List.drop ((wi ((w64 pcut0).tmod (w64 (wi ((pl0.length : Int) + (1:Int)))))).toNat) pl0)) ≤ maxBytes, (List.map (eA 1 (T.int .u8)) ([] : List (Arr 32 Int))) ++ (List.map (eA 1 (T.int .u8)) (List.drop ((wi ((w64 pcut0).tmod (w64 (wi ((pl0.length : Int) + (1:Int)))))).toNat) pl0)) = List.map (eA 1 (T.int .u8)) (([] : List (Arr 32 Int)) ++ (List.drop ((wi ((w64 pcut0).tmod (w64 (wi ((pl0.length : Int) + (1:Int)))))).toNat) pl0)), List.take ((wi ((w64 pcut0).tmod (w64 (wi ((pl0.length : Int) + (1:Int)))))).toNat - 0) (List.drop 0 (List.map (eA 1 (T.int .u8)) pl0)) = List.map (eA 1 (T.int .u8)) (List.take ((wi ((w64 pcut0).tmod (w64 (wi ((pl0.length : Int) + (1:Int)))))).toNat) pl0), 0 ≤ (wi ((w64 pcut0).tmod (w64 (wi ((pl0.length : Int) + (1:Int)))))), (wi ((w64 pcut0).tmod (w64 (wi ((pl0.length : Int) + (1:Int)))))) ≤ ((List.length (List.map (eA 1 (T.int .u8)) pl0) : Nat) : Int), (List.length (List.map (eA 1 (T.int .u8)) (([] : List (Arr 32 Int)) ++ (List.drop ((wi ((w64 pcut0).tmod (w64 (wi ((pl0.length : Int) + (1:Int)))))).toNat) pl0))) + List.length (List.map (eA 1 (T.int .u8)) (List.take ((wi ((w64 pcut0).tmod (w64 (wi ((pl0.length : Int) + (1:Int)))))).toNat) pl0))) * 32 ≤ maxBytes, List.length (List.map (eA 1 (T.int .u8)) (([] : List (Arr 32 Int)) ++ (List.drop ((wi ((w64 pcut0).tmod (w64 (wi ((pl0.length : Int) + (1:Int)))))).toNat) pl0))) + List.length (List.map (eA 1 (T.int .u8)) (List.take ((wi ((w64 pcut0).tmod (w64 (wi ((pl0.length : Int) + (1:Int)))))).toNat) pl0)) ≤ maxBytes, (List.map (eA 1 (T.int .u8)) (([] : List (Arr 32 Int)) ++ (List.drop ((wi ((w64 pcut0).tmod (w64 (wi ((pl0.length : Int) + (1:Int)))))).toNat) pl0))) ++ (List.map (eA 1 (T.int .u8)) (List.take ((wi ((w64 pcut0).tmod (w64 (wi ((pl0.length : Int) + (1:Int)))))).toNat) pl0)) = List.map (eA 1 (T.int .u8)) ((([] : List (Arr 32 Int)) ++ (List.drop ((wi ((w64 pcut0).tmod (w64 (wi ((pl0.length : Int) + (1:Int)))))).toNat) pl0)) ++ (List.take ((wi ((w64 pcut0).tmod (w64 (wi ((pl0.length : Int) + (1:Int)))))).toNat) pl0))] (by kernel_rfl) (by kernel_rfl) ⟨(win_suf rfl _), hq1, (le_len rfl hq2), (app_b rfl rfl hq3), (app_c rfl rfl (by decide) hq3), (app_of rfl rfl), (win_pre rfl _), hq1, (le_len rfl hq2), (app_b rfl rfl hq4), (app_c rfl rfl (by decide) hq4), (app_of rfl rfl), trivial⟩ ?_
      refine Nxt_norm ?_
      refine Ab.seq ?_
      obtain ⟨hq5, h⟩ := ask_dec h
      obtain ⟨r1, hr1, h⟩ := bind_some h
      refine Ab.regT hE hC hL [[], [], [.l (List.map (eA 1 (T.int .u8)) (([] : List (Arr 32 Int)) ++ pl0))], [.r [.tree ((eA 1 (T.int .u8)) r1)] []]] { keep := [0, 1, 5, 6], ren := [(6, 6), (28, 28)] } ⟨[(0, (.t ((eS 32 (eA 1 (T.int .u8))) pl0))), (1, (.t (.int .i64 (wi ((w64 pcut0).tmod (w64 (wi ((pl0.length : Int) + (1:Int))))))))), (5, (.own 28)), (6, (.ref 6 [] (0)))], [(6, (.var false 25 (.t ((eA 1 (T.int .u8)) r1)))), (28, (.row false 25 32 (List.map (eA 1 (T.int .u8)) ((([] : List (Arr 32 Int)) ++ (List.drop ((wi ((w64 pcut0).tmod (w64 (wi ((pl0.length : Int) + (1:Int)))))).toNat) pl0)) ++ (List.take ((wi ((w64 pcut0).tmod (w64 (wi ((pl0.length : Int) + (1:Int)))))).toNat) pl0)))))]⟩ [(List.length (List.map (eA 1 (T.int .u8)) ([] : List (Arr 32 Int))) + List.length (List.map (eA 1 (T.int .u8)) pl0)) * 32 ≤ maxBytes, List.length (List.map (eA 1 (T.int .u8)) ([] : List (Arr 32 Int))) + List.length (List.map (eA 1 (T.int .u8)) pl0) ≤ maxBytes, (List.map (eA 1 (T.int .u8)) ([] : List (Arr 32 Int))) ++ (List.map (eA 1 (T.int .u8)) pl0) = List.map (eA 1 (T.int .u8)) (([] : List (Arr 32 Int)) ++ pl0), (sp_sign_Join n).fn [(.slc 32 (List.map (eA 1 (T.int .u8)) (([] : List (Arr 32 Int)) ++ pl0)))] = some ([.tree ((eA 1 (T.int .u8)) r1)], [])] (by kernel_rfl) ⟨(app_b rfl rfl hq5), (app_c rfl rfl (by decide) hq5), (app_of rfl rfl), (ap_sign_Join n (by exact ⟨leT.refl _, trivial⟩) hr1), trivial⟩ ?_
      refine Nxt_norm ?_
      refine Ab.seq ?_
      obtain ⟨r2, hr2, h⟩ := bind_some h
      rcases Bool.eq_false_or_eq_true (decide (r1 = r2)) with hb2 | hb2
      · replace h := cond_t hb2 h
        obtain ⟨r3, hr3, h⟩ := bind_some h
        obtain ⟨r4, hr4, h⟩ := bind_some h
        obtain ⟨r5, hr5, h⟩ := bind_some h
        rcases Bool.eq_false_or_eq_true (decide (r1 = r5)) with hb3 | hb3
        · replace h := cond_t hb3 h
          obtain ⟨r6, hr6, h⟩ := bind_some h
          refine Ab.regA hE hC hL [[], [], [.r [.tree ((eA 1 (T.int .u8)) r2)] []], [.b (decide (r1 = r2))], [.b true], [], [], [], [.l (List.map (eA 1 (T.int .u8)) (List.take ((wi ((w64 pcut0).tmod (w64 (wi ((pl0.length : Int) + (1:Int)))))).toNat) pl0))], [.r [.tree ((eA 1 (T.int .u8)) r3)] []], [], [], [.l (List.map (eA 1 (T.int .u8)) (List.drop ((wi ((w64 pcut0).tmod (w64 (wi ((pl0.length : Int) + (1:Int)))))).toNat) pl0))], [.r [.tree ((eA 1 (T.int .u8)) r4)] []], [], [.r [.tree ((eA 1 (T.int .u8)) r5)] []], [.b (decide (r1 = r5))], [], [.b true], [], [], [], [.r [.tree ((eA 1 (T.int .u8)) r6)] []], [], [.b (decide (r6 = (Arr.rep 32 (0:Int))))]] { keep := [4], ren := [] } ⟨[(4, (.t (.bool (decide (r6 = (Arr.rep 32 (0:Int)))))))], []⟩ [(sp_sign_Join n).fn [(.slc 32 (List.map (eA 1 (T.int .u8)) ((([] : List (Arr 32 Int)) ++ (List.drop ((wi ((w64 pcut0).tmod (w64 (wi ((pl0.length : Int) + (1:Int)))))).toNat) pl0)) ++ (List.take ((wi ((w64 pcut0).tmod (w64 (wi ((pl0.length : Int) + (1:Int)))))).toNat) pl0))))] = some ([.tree ((eA 1 (T.int .u8)) r2)], []), binOp (E_law07_SignJoins n) .eql 25 (.t ((eA 1 (T.int .u8)) r1)) (.t ((eA 1 (T.int .u8)) r2)) = some (.bool (decide (r1 = r2))), (decide (r1 = r2)) = true, List.take ((wi ((w64 pcut0).tmod (w64 (wi ((pl0.length : Int) + (1:Int)))))).toNat - 0) (List.drop 0 (List.map (eA 1 (T.int .u8)) pl0)) = List.map (eA 1 (T.int .u8)) (List.take ((wi ((w64 pcut0).tmod (w64 (wi ((pl0.length : Int) + (1:Int)))))).toNat) pl0), 0 ≤ (wi ((w64 pcut0).tmod (w64 (wi ((pl0.length : Int) + (1:Int)))))), (wi ((w64 pcut0).tmod (w64 (wi ((pl0.length : Int) + (1:Int)))))) ≤ ((List.length (List.map (eA 1 (T.int .u8)) pl0) : Nat) : Int), (sp_sign_Join n).fn [((eS 32 (eA 1 (T.int .u8))) (List.take ((wi ((w64 pcut0).tmod (w64 (wi ((pl0.length : Int) + (1:Int)))))).toNat) pl0))] = some ([.tree ((eA 1 (T.int .u8)) r3)], []), List.take (List.length (List.map (eA 1 (T.int .u8)) pl0) - (wi ((w64 pcut0).tmod (w64 (wi ((pl0.length : Int) + (1:Int)))))).toNat) (List.drop ((wi ((w64 pcut0).tmod (w64 (wi ((pl0.length : Int) + (1:Int)))))).toNat) (List.map (eA 1 (T.int .u8)) pl0)) = List.map (eA 1 (T.int .u8)) (List.drop ((wi ((w64 pcut0).tmod (w64 (wi ((pl0.length : Int) + (1:Int)))))).toNat) pl0), 0 ≤ (wi ((w64 pcut0).tmod (w64 (wi ((pl0.length : Int) + (1:Int)))))), (wi ((w64 pcut0).tmod (w64 (wi ((pl0.length : Int) + (1:Int)))))) ≤ ((List.length (List.map (eA 1 (T.int .u8)) pl0) : Nat) : Int), (sp_sign_Join n).fn [((eS 32 (eA 1 (T.int .u8))) (List.drop ((wi ((w64 pcut0).tmod (w64 (wi ((pl0.length : Int) + (1:Int)))))).toNat) pl0))] = some ([.tree ((eA 1 (T.int .u8)) r4)], []), (sp_sign_Join n).fn [(.slc 32 (List.map (eA 1 (T.int .u8)) ([r3, r4] : List (Arr 32 Int))))] = some ([.tree ((eA 1 (T.int .u8)) r5)], []), binOp (E_law07_SignJoins n) .eql 25 (.t ((eA 1 (T.int .u8)) r1)) (.t ((eA 1 (T.int .u8)) r5)) = some (.bool (decide (r1 = r5))), (decide (r1 = r5)) = true, (sp_sign_Join n).fn [(.slc 32 (List.map (eA 1 (T.int .u8)) ([r1, r1] : List (Arr 32 Int))))] = some ([.tree ((eA 1 (T.int .u8)) r6)], []), binOp (E_law07_SignJoins n) .eql 25 (.t ((eA 1 (T.int .u8)) r6)) (.t ((eA 1 (T.int .u8)) (Arr.rep 32 (0:Int)))) = some (.bool (decide (r6 = (Arr.rep 32 (0:Int)))))] (by kernel_rfl) (by kernel_rfl) ⟨(ap_sign_Join n (by exact ⟨leT.refl _, trivial⟩) hr2), (beql_25 _ rfl _ _), hb2, (win_pre rfl _), hq1, (le_len rfl hq2), (ap_sign_Join n (by exact ⟨leT.refl _, trivial⟩) hr3), (win_suf rfl _), hq1, (le_len rfl hq2), (ap_sign_Join n (by exact ⟨leT.refl _, trivial⟩) hr4), (ap_sign_Join n (by exact ⟨leT.refl _, trivial⟩) hr5), (beql_25 _ rfl _ _), hb3, (ap_sign_Join n (by exact ⟨leT.refl _, trivial⟩) hr6), (beql_25 _ rfl _ _), trivial⟩ ?_
          refine Nxt_norm ?_
          refine Ab.ret ?_
          obtain rfl := Option.some.inj h
          exact End_ret (doneO_ok (md := [false]) (by kernel_rfl))
        · replace h := cond_f hb3 h
          refine Ab.regA hE hC hL [[], [], [.r [.tree ((eA 1 (T.int .u8)) r2)] []], [.b (decide (r1 = r2))], [.b true], [], [], [], [.l (List.map (eA 1 (T.int .u8)) (List.take ((wi ((w64 pcut0).tmod (w64 (wi ((pl0.length : Int) + (1:Int)))))).toNat) pl0))], [.r [.tree ((eA 1 (T.int .u8)) r3)] []], [], [], [.l (List.map (eA 1 (T.int .u8)) (List.drop ((wi ((w64 pcut0).tmod (w64 (wi ((pl0.length : Int) + (1:Int)))))).toNat) pl0))], [.r [.tree ((eA 1 (T.int .u8)) r4)] []], [], [.r [.tree ((eA 1 (T.int .u8)) r5)] []], [.b (decide (r1 = r5))], [], [.b false]] { keep := [4], ren := [] } ⟨[(4, (.t (.bool false)))], []⟩ [(sp_sign_Join n).fn [(.slc 32 (List.map (eA 1 (T.int .u8)) ((([] : List (Arr 32 Int)) ++ (List.drop ((wi ((w64 pcut0).tmod (w64 (wi ((pl0.length : Int) + (1:Int)))))).toNat) pl0)) ++ (List.take ((wi ((w64 pcut0).tmod (w64 (wi ((pl0.length : Int) + (1:Int)))))).toNat) pl0))))] = some ([.tree ((eA 1 (T.int .u8)) r2)], []), binOp (E_law07_SignJoins n) .eql 25 (.t ((eA 1 (T.int .u8)) r1)) (.t ((eA 1 (T.int .u8)) r2)) = some (.bool (decide (r1 = r2))), (decide (r1 = r2)) = true, List.take ((wi ((w64 pcut0).tmod (w64 (wi ((pl0.length : Int) + (1:Int)))))).toNat - 0) (List.drop 0 (List.map (eA 1 (T.int .u8)) pl0)) = List.map (eA 1 (T.int .u8)) (List.take ((wi ((w64 pcut0).tmod (w64 (wi ((pl0.length : Int) + (1:Int)))))).toNat) pl0), 0 ≤ (wi ((w64 pcut0).tmod (w64 (wi ((pl0.length : Int) + (1:Int)))))), (wi ((w64 pcut0).tmod (w64 (wi ((pl0.length : Int) + (1:Int)))))) ≤ ((List.length (List.map (eA 1 (T.int .u8)) pl0) : Nat) : Int), (sp_sign_Join n).fn [((eS 32 (eA 1 (T.int .u8))) (List.take ((wi ((w64 pcut0).tmod (w64 (wi ((pl0.length : Int) + (1:Int)))))).toNat) pl0))] = some ([.tree ((eA 1 (T.int .u8)) r3)], []), List.take (List.length (List.map (eA 1 (T.int .u8)) pl0) - (wi ((w64 pcut0).tmod (w64 (wi ((pl0.length : Int) + (1:Int)))))).toNat) (List.drop ((wi ((w64 pcut0).tmod (w64 (wi ((pl0.length : Int) + (1:Int)))))).toNat) (List.map (eA 1 (T.int .u8)) pl0)) = List.map (eA 1 (T.int .u8)) (List.drop ((wi ((w64 pcut0).tmod (w64 (wi ((pl0.length : Int) + (1:Int)))))).toNat) pl0), 0 ≤ (wi ((w64 pcut0).tmod (w64 (wi ((pl0.length : Int) + (1:Int)))))), (wi ((w64 pcut0).tmod (w64 (wi ((pl0.length : Int) + (1:Int)))))) ≤ ((List.length (List.map (eA 1 (T.int .u8)) pl0) : Nat) : Int), (sp_sign_Join n).fn [((eS 32 (eA 1 (T.int .u8))) (List.drop ((wi ((w64 pcut0).tmod (w64 (wi ((pl0.length : Int) + (1:Int)))))).toNat) pl0))] = some ([.tree ((eA 1 (T.int .u8)) r4)], []), (sp_sign_Join n).fn [(.slc 32 (List.map (eA 1 (T.int .u8)) ([r3, r4] : List (Arr 32 Int))))] = some ([.tree ((eA 1 (T.int .u8)) r5)], []), binOp (E_law07_SignJoins n) .eql 25 (.t ((eA 1 (T.int .u8)) r1)) (.t ((eA 1 (T.int .u8)) r5)) = some (.bool (decide (r1 = r5))), (decide (r1 = r5)) = false] (by kernel_rfl) (by kernel_rfl) ⟨(ap_sign_Join n (by exact ⟨leT.refl _, trivial⟩) hr2), (beql_25 _ rfl _ _), hb2, (win_pre rfl _), hq1, (le_len rfl hq2), (ap_sign_Join n (by exact ⟨leT.refl _, trivial⟩) hr3), (win_suf rfl _), hq1, (le_len rfl hq2), (ap_sign_Join n (by exact ⟨leT.refl _, trivial⟩) hr4), (ap_sign_Join n (by exact ⟨leT.refl _, trivial⟩) hr5), (beql_25 _ rfl _ _), hb3, trivial⟩ ?_
          refine Nxt_norm ?_
          refine Ab.ret ?_
          obtain rfl := Option.some.inj h
          exact End_ret (doneO_ok (md := [false]) (by kernel_rfl))
      · replace h := cond_f hb2 h
        refine Ab.regA hE hC hL [[], [], [.r [.tree ((eA 1 (T.int .u8)) r2)] []], [.b (decide (r1 = r2))], [.b false]] { keep := [4], ren := [] } ⟨[(4, (.t (.bool false)))], []⟩ [(sp_sign_Join n).fn [(.slc 32 (List.map (eA 1 (T.int .u8)) ((([] : List (Arr 32 Int)) ++ (List.drop ((wi ((w64 pcut0).tmod (w64 (wi ((pl0.length : Int) + (1:Int)))))).toNat) pl0)) ++ (List.take ((wi ((w64 pcut0).tmod (w64 (wi ((pl0.length : Int) + (1:Int)))))).toNat) pl0))))] = some ([.tree ((eA 1 (T.int .u8)) r2)], []), binOp (E_law07_SignJoins n) .eql 25 (.t ((eA 1 (T.int .u8)) r1)) (.t ((eA 1 (T.int .u8)) r2)) = some (.bool (decide (r1 = r2))), (decide (r1 = r2)) = false] (by kernel_rfl) (by kernel_rfl) ⟨(ap_sign_Join n (by exact ⟨leT.refl _, trivial⟩) hr2), (beql_25 _ rfl _ _), hb2, trivial⟩ ?_
        refine Nxt_norm ?_
        refine Ab.ret ?_
        obtain rfl := Option.some.inj h
        exact End_ret (doneO_ok (md := [false]) (by kernel_rfl))
def ea_num_Put (a : Int × Int) : List T := [(T.int .u64) a.1, (T.int .i64) a.2]
def er_num_Put (r : (List Int)) : List RR × List T := ([.row 5 1 (List.map (T.int .u8) r)], [])
noncomputable def sp_num_Put (n : Nat) : Spec := specP [] false ea_num_Put (fun a => f_num_Put n a.1 a.2) (fun _ r => er_num_Put r)
theorem ap_num_Put (n : Nat) {ts : List T} {a0 : Int} {a1 : Int} {r : (List Int)} (hle : leTs ts [(T.int .u64) a0, (T.int .i64) a1]) (h : f_num_Put n a0 a1 = some r) : (sp_num_Put n).fn ts = some ([.row 5 1 (List.map (T.int .u8) r)], []) :=
  specP_fn (a := (a0, a1)) (InjA.cons (inj_int _) (InjA.one (inj_int _))) hle h
noncomputable def E_num_Put (n : Nat) : Env := { ty := tyT, glob := glob, fns := get [], ntmps := 27 }
theorem eok_num_Put (n : Nat) : EnvOK Tryd.prog (E_num_Put n) := ⟨tys_ok tys_chk, prog_mixed, fns_nil⟩
def K_num_Put (n : Nat) (pn0 : Int) (psize0 : Int) (r : (List Int)) : St → Prop := Done (E_num_Put n) Tryd.f48.results.toList [] (ea_num_Put (pn0, psize0)) (er_num_Put r).1 (er_num_Put r).2
set_option maxRecDepth 100000 in
set_option maxHeartbeats 4000000 in
theorem ok_num_Put (n : Nat) : SpecOK Tryd.prog glob 48 (sp_num_Put n) := by
  refine specP_ok (fn := Tryd.f48) (eok_num_Put n) (by kernel_rfl) rfl (by decide +kernel) (by kernel_rfl) (fun _ => by show 2 ≤ 27; omega) (fun h => Bool.noConfusion h) ?_
  rintro ⟨pn0, psize0⟩ r h C hL hC
  have hE := eok_num_Put n
  replace hL : ∀ n g, (n, g) ∈ C.lent → n ∈ ([] : List Nat) := hL
  replace h : f_num_Put n pn0 psize0 = some r := h
  show Ab _ _ _ _ _ (End (K_num_Put n pn0 psize0 r))
  unfold f_num_Put at h
  refine Ab.seq ?_
  refine Ab.regT hE hC hL [] { keep := [0, 1], ren := [] } ⟨[(0, (.t (.int .u64 pn0))), (1, (.t (.int .i64 psize0)))], []⟩ [] (by kernel_rfl) trivial ?_
  refine Nxt_norm ?_
  refine Ab.seq ?_
  refine Ab.regT hE hC hL [] { keep := [0, 1, 5], ren := [] } ⟨[(0, (.t (.int .u64 pn0))), (1, (.t (.int .i64 psize0))), (5, (.t .nils))], []⟩ [] (by kernel_rfl) trivial ?_
  refine Nxt_norm ?_
  refine Ab.seq ?_
  refine Ab.seq ?_
  refine Ab.regT hE hC hL [] { keep := [0, 5, 8, 9], ren := [] } ⟨[(0, (.t (.int .u64 pn0))), (5, (.t .nils)), (8, (.t (.int .i64 (gmax psize0 (0:Int))))), (9, (.t (.int .i64 (0:Int))))], []⟩ [] (by kernel_rfl) trivial ?_
  refine Nxt_norm ?_
  obtain ⟨x0, hx0, h⟩ := bind_some h
  refine Ab.loopX0 (fun ((a0, a1) : ((List Int) × Int)) => (⟨[(0, (.t (.int .u64 pn0))), (5, (.own 49000)), (8, (.t (.int .i64 (gmax psize0 (0:Int))))), (9, (.t (.int .i64 a1)))], [(49000, (.row false 5 1 (List.map (T.int .u8) a0)))]⟩ : St)) (fun (a2 : (List Int)) => (⟨[(5, (.own 49000))], [(49000, (.row false 5 1 (List.map (T.int .u8) a2)))]⟩ : St)) { fs := [⟨(.t 5), [], .own 48000 5 1⟩], keep := [0, 5, 8, 9], ren := [(48000, 49000)] } (([] : List Int), (0:Int)) hC hL hx0 (by kernel_rfl) ?_ ?_
  · rintro ⟨a0, a1⟩ o0 h
    replace h : f_num_Put_b0 n pn0 psize0 a0 a1 = some o0 := h
    unfold f_num_Put_b0 at h
    refine Ab.seq ?_
    refine Ab.regT hE hC hL [] { keep := [0, 5, 8, 9, 10], ren := [(49000, 49000)] } ⟨[(0, (.t (.int .u64 pn0))), (5, (.own 49000)), (8, (.t (.int .i64 (gmax psize0 (0:Int))))), (9, (.t (.int .i64 a1))), (10, (.t (.bool (decide (a1 < (gmax psize0 (0:Int)))))))], [(49000, (.row false 5 1 (List.map (T.int .u8) a0)))]⟩ [] (by kernel_rfl) trivial ?_
    refine Nxt_norm ?_
    refine Ab.seq ?_
    refine Ab.cond (b := (decide (a1 < (gmax psize0 (0:Int))))) (by kernel_rfl) (fun hb0 => ?_) (fun hb0 => ?_)
    · replace h := cond_t hb0 h
      refine Ab.skip ?_
      refine Nxt_norm ?_
      refine Ab.seq ?_
      refine Ab.block ?_
      refine Ab.seq ?_
      refine Ab.regT hE hC hL [] { keep := [0, 5, 6, 8, 9], ren := [(49000, 49000)] } ⟨[(0, (.t (.int .u64 pn0))), (5, (.own 49000)), (6, (.t (.int .i64 a1))), (8, (.t (.int .i64 (gmax psize0 (0:Int))))), (9, (.t (.int .i64 a1)))], [(49000, (.row false 5 1 (List.map (T.int .u8) a0)))]⟩ [] (by kernel_rfl) trivial ?_
      refine Nxt_norm ?_
      refine Ab.seq ?_
      refine Ab.regT hE hC hL [] { keep := [0, 5, 6, 8, 9, 13], ren := [(49000, 49000)] } ⟨[(0, (.t (.int .u64 pn0))), (5, (.own 49000)), (6, (.t (.int .i64 a1))), (8, (.t (.int .i64 (gmax psize0 (0:Int))))), (9, (.t (.int .i64 a1))), (13, (.t (.bool (decide (a1 < (8:Int))))))], [(49000, (.row false 5 1 (List.map (T.int .u8) a0)))]⟩ [] (by kernel_rfl) trivial ?_
      refine Nxt_norm ?_
      refine Ab.cond (b := (decide (a1 < (8:Int)))) (by kernel_rfl) (fun hb1 => ?_) (fun hb1 => ?_)
      · replace h := cond_t hb1 h
        obtain ⟨hq0, h⟩ := ask_dec h
        obtain ⟨hq1, h⟩ := ask_dec h
        refine Ab.regT hE hC hL [[], [], [], [], [.c], [], [], [.l (List.map (T.int .u8) (a0 ++ ([(w8 (shr .u64 pn0 (wi ((8:Int) * a1))))] : List Int)))]] { keep := [0, 5, 8, 9], ren := [(21, 21)] } ⟨[(0, (.t (.int .u64 pn0))), (5, (.own 21)), (8, (.t (.int .i64 (gmax psize0 (0:Int))))), (9, (.t (.int .i64 a1)))], [(21, (.row false 5 1 (List.map (T.int .u8) (a0 ++ ([(w8 (shr .u64 pn0 (wi ((8:Int) * a1))))] : List Int)))))]⟩ [¬ (wi ((8:Int) * a1)) < 0, (List.length (List.map (T.int .u8) a0) + List.length (List.map (T.int .u8) ([(w8 (shr .u64 pn0 (wi ((8:Int) * a1))))] : List Int))) * 1 ≤ maxBytes, List.length (List.map (T.int .u8) a0) + List.length (List.map (T.int .u8) ([(w8 (shr .u64 pn0 (wi ((8:Int) * a1))))] : List Int)) ≤ maxBytes, (List.map (T.int .u8) a0) ++ (List.map (T.int .u8) ([(w8 (shr .u64 pn0 (wi ((8:Int) * a1))))] : List Int)) = List.map (T.int .u8) (a0 ++ ([(w8 (shr .u64 pn0 (wi ((8:Int) * a1))))] : List Int))] (by kernel_rfl) ⟨(Int.not_lt.2 hq0), (app_b rfl rfl hq1), (app_c rfl rfl (by decide) hq1), (app_of rfl rfl), trivial⟩ ?_
        refine Blk_norm ?_
        refine Nxt_norm ?_
        refine Ab.regT hE hC hL [] { keep := [0, 5, 8, 9], ren := [(21, 21)] } ⟨[(0, (.t (.int .u64 pn0))), (5, (.own 21)), (8, (.t (.int .i64 (gmax psize0 (0:Int))))), (9, (.t (.int .i64 (wi (a1 + (1:Int))))))], [(21, (.row false 5 1 (List.map (T.int .u8) (a0 ++ ([(w8 (shr .u64 pn0 (wi ((8:Int) * a1))))] : List Int)))))]⟩ [] (by kernel_rfl) trivial ?_
        exact LK_norm ((a0 ++ ([(w8 (shr .u64 pn0 (wi ((8:Int) * a1))))] : List Int)), (wi (a1 + (1:Int)))) { fs := [], keep := [0, 5, 8, 9], ren := [(21, 49000)] } h (by kernel_rfl)
      · replace h := cond_f hb1 h
        obtain ⟨hq2, h⟩ := ask_dec h
        refine Ab.regT hE hC hL [[], [], [.l (List.map (T.int .u8) (a0 ++ ([(0:Int)] : List Int)))]] { keep := [0, 5, 8, 9], ren := [(24, 24)] } ⟨[(0, (.t (.int .u64 pn0))), (5, (.own 24)), (8, (.t (.int .i64 (gmax psize0 (0:Int))))), (9, (.t (.int .i64 a1)))], [(24, (.row false 5 1 (List.map (T.int .u8) (a0 ++ ([(0:Int)] : List Int)))))]⟩ [(List.length (List.map (T.int .u8) a0) + List.length (List.map (T.int .u8) ([(0:Int)] : List Int))) * 1 ≤ maxBytes, List.length (List.map (T.int .u8) a0) + List.length (List.map (T.int .u8) ([(0:Int)] : List Int)) ≤ maxBytes, (List.map (T.int .u8) a0) ++ (List.map (T.int .u8) ([(0:Int)] : List Int)) = List.map (T.int .u8) (a0 ++ ([(0:Int)] : List Int))] (by kernel_rfl) ⟨(app_b rfl rfl hq2), (app_c rfl rfl (by decide) hq2), (app_of rfl rfl), trivial⟩ ?_
        refine Blk_norm ?_
        refine Nxt_norm ?_
        refine Ab.regT hE hC hL [] { keep := [0, 5, 8, 9], ren := [(24, 24)] } ⟨[(0, (.t (.int .u64 pn0))), (5, (.own 24)), (8, (.t (.int .i64 (gmax psize0 (0:Int))))), (9, (.t (.int .i64 (wi (a1 + (1:Int))))))], [(24, (.row false 5 1 (List.map (T.int .u8) (a0 ++ ([(0:Int)] : List Int)))))]⟩ [] (by kernel_rfl) trivial ?_
        exact LK_norm ((a0 ++ ([(0:Int)] : List Int)), (wi (a1 + (1:Int)))) { fs := [], keep := [0, 5, 8, 9], ren := [(24, 49000)] } h (by kernel_rfl)
    · replace h := cond_f hb0 h
      refine Ab.exit ?_
      refine Nxt_exit ?_
      exact LK_exit a0 h (PX_mk { fs := [], keep := [5], ren := [(49000, 49000)] } (by kernel_rfl))
  · refine Nxt_norm ?_
    refine Ab.seq ?_
    refine Ab.regT hE hC hL [] { keep := [4], ren := [(49000, 49000)] } ⟨[(4, (.own 49000))], [(49000, (.row false 5 1 (List.map (T.int .u8) x0)))]⟩ [] (by kernel_rfl) trivial ?_
    refine Nxt_norm ?_
    refine Ab.ret ?_
    obtain rfl := Option.some.inj h
    exact End_ret (doneO_ok (md := [true]) (by kernel_rfl))
def ea_sign_Message (a : (Arr 32 Int) × Int) : List T := [(eA 1 (T.int .u8)) a.1, (T.int .u64) a.2]
def er_sign_Message (r : (Arr 32 Int)) : List RR × List T := ([.tree ((eA 1 (T.int .u8)) r)], [])
noncomputable def sp_sign_Message (n : Nat) : Spec := specP [] true ea_sign_Message (fun a => f_sign_Message n a.1 a.2) (fun _ r => er_sign_Message r)
theorem ap_sign_Message (n : Nat) {ts : List T} {a0 : (Arr 32 Int)} {a1 : Int} {r : (Arr 32 Int)} (hle : leTs ts [(eA 1 (T.int .u8)) a0, (T.int .u64) a1]) (h : f_sign_Message n a0 a1 = some r) : (sp_sign_Message n).fn ts = some ([.tree ((eA 1 (T.int .u8)) r)], []) :=
  specP_fn (a := (a0, a1)) (InjA.cons (inj_eA (inj_int _)) (InjA.one (inj_int _))) hle h
noncomputable def E_sign_Message (n : Nat) : Env := { ty := tyT, glob := glob, fns := get [(16, sp_digest_Pair n), (48, sp_num_Put n)], ntmps := 13 }
theorem eok_sign_Message (n : Nat) : EnvOK Tryd.prog (E_sign_Message n) := ⟨tys_ok tys_chk, prog_mixed, (fns_cons (ok_digest_Pair n) (fns_cons (ok_num_Put n) fns_nil))⟩
def K_sign_Message (n : Nat) (pr0 : (Arr 32 Int)) (pk0 : Int) (r : (Arr 32 Int)) : St → Prop := Done (E_sign_Message n) Tryd.f22.results.toList [] (ea_sign_Message (pr0, pk0)) (er_sign_Message r).1 (er_sign_Message r).2
set_option maxRecDepth 100000 in
set_option maxHeartbeats 4000000 in
theorem ok_sign_Message (n : Nat) : SpecOK Tryd.prog glob 22 (sp_sign_Message n) := by
  refine specP_ok (fn := Tryd.f22) (eok_sign_Message n) (by kernel_rfl) rfl (by decide +kernel) (by kernel_rfl) (fun _ => by show 2 ≤ 13; omega) (fun _ _ r => ⟨(rrf_tree ((flat_eA (fun _ => rfl)) _) rrf_nil), flats_nil⟩) ?_
  rintro ⟨pr0, pk0⟩ r h C hL hC
  have hE := eok_sign_Message n
  replace hL : ∀ n g, (n, g) ∈ C.lent → n ∈ ([] : List Nat) := hL
  replace h : f_sign_Message n pr0 pk0 = some r := h
  show Ab _ _ _ _ _ (End (K_sign_Message n pr0 pk0 r))
  unfold f_sign_Message at h
  refine Ab.seq ?_
  refine Ab.regT hE hC hL [] { keep := [1, 2, 4], ren := [(2, 2), (4, 4)] } ⟨[(1, (.t (.int .u64 pk0))), (2, (.ref 2 [] (0))), (4, (.ref 4 [] (0)))], [(2, (.var false 25 (.t ((eA 1 (T.int .u8)) pr0)))), (4, (.var false 25 (.t ((eA 1 (T.int .u8)) (Arr.rep 32 (0:Int))))))]⟩ [] (by kernel_rfl) trivial ?_
  refine Nxt_norm ?_
  refine Ab.seq ?_
  refine Ab.regT hE hC hL [] { keep := [1, 2, 4, 5], ren := [(2, 2), (4, 4), (5, 5)] } ⟨[(1, (.t (.int .u64 pk0))), (2, (.ref 2 [] (0))), (4, (.ref 4 [] (0))), (5, (.ref 5 [] (0)))], [(2, (.var false 25 (.t ((eA 1 (T.int .u8)) pr0)))), (4, (.var false 25 (.t ((eA 1 (T.int .u8)) (Arr.rep 32 (0:Int)))))), (5, (.var false 25 (.t ((eA 1 (T.int .u8)) (Arr.rep 32 (0:Int))))))]⟩ [] (by kernel_rfl) trivial ?_
  refine Nxt_norm ?_
  refine Ab.seq ?_
  obtain ⟨r0, hr0, h⟩ := bind_some h
  refine Ab.regA hE hC hL [[], [], [.r [.row 5 1 (List.map (T.int .u8) r0)] []], [.n ((min r0.length 32 : Nat) : Int), .l (List.map (T.int .u8) (Arr.put (Arr.rep 32 (0:Int)) (over (Arr.rep 32 (0:Int)).l 0 32 r0)).l)]] { keep := [2, 4, 5], ren := [(2, 2), (4, 4), (5, 5)] } ⟨[(2, (.ref 2 [] (0))), (4, (.ref 4 [] (0))), (5, (.ref 5 [] (0)))], [(2, (.var false 25 (.t ((eA 1 (T.int .u8)) pr0)))), (4, (.var false 25 (.t ((eA 1 (T.int .u8)) (Arr.rep 32 (0:Int)))))), (5, (.var false 25 (.t ((eA 1 (T.int .u8)) (Arr.put (Arr.rep 32 (0:Int)) (over (Arr.rep 32 (0:Int)).l 0 32 r0))))))]⟩ [(sp_num_Put n).fn [(.int .u64 pk0), (.int .i64 (8:Int))] = some ([.row 5 1 (List.map (T.int .u8) r0)], []), 0 + 32 ≤ List.length (List.map (T.int .u8) ((Arr.rep 32 (0:Int)).l)), ((min (List.length (List.map (T.int .u8) r0)) 32 : Nat) : Int) = ((min r0.length 32 : Nat) : Int), List.take 0 (List.map (T.int .u8) ((Arr.rep 32 (0:Int)).l)) ++ (List.take 32 (List.map (T.int .u8) r0) ++ List.drop (0 + min (List.length (List.map (T.int .u8) r0)) 32) (List.map (T.int .u8) ((Arr.rep 32 (0:Int)).l))) = List.map (T.int .u8) (Arr.put (Arr.rep 32 (0:Int)) (over (Arr.rep 32 (0:Int)).l 0 32 r0)).l, 0 = 0 + 0 * 1] (by kernel_rfl) (by kernel_rfl) ⟨(ap_num_Put n (by exact ⟨leT.refl _, leT.refl _, trivial⟩) hr0), (by simp only [List.length_map, List.length_take, List.length_drop, List.length_set, List.length_append, Arr.h]; omega), (min_len rfl), (copy_arr (Arr.rep 32 (0:Int)) rfl (by omega)), (by omega), trivial⟩ ?_
  refine Nxt_norm ?_
  refine Ab.seq ?_
  obtain ⟨r1, hr1, h⟩ := bind_some h
  refine Ab.regT hE hC hL [[], [], [.r [.tree ((eA 1 (T.int .u8)) r1)] []]] { keep := [4], ren := [(4, 4)] } ⟨[(4, (.ref 4 [] (0)))], [(4, (.var false 25 (.t ((eA 1 (T.int .u8)) r1))))]⟩ [(sp_digest_Pair n).fn [((eA 1 (T.int .u8)) pr0), ((eA 1 (T.int .u8)) (Arr.put (Arr.rep 32 (0:Int)) (over (Arr.rep 32 (0:Int)).l 0 32 r0)))] = some ([.tree ((eA 1 (T.int .u8)) r1)], [])] (by kernel_rfl) ⟨(ap_digest_Pair n (by exact ⟨leT.refl _, leT.refl _, trivial⟩) hr1), trivial⟩ ?_
  refine Nxt_norm ?_
  refine Ab.ret ?_
  obtain rfl := Option.some.inj h
  exact End_ret (doneO_ok (md := [false]) (by kernel_rfl))
def ea_ref01_Put (a : Int × Int) : List T := [(T.int .u64) a.1, (T.int .i64) a.2]
def er_ref01_Put (r : (List Int)) : List RR × List T := ([.row 5 1 (List.map (T.int .u8) r)], [])
noncomputable def sp_ref01_Put (n : Nat) : Spec := specP [] false ea_ref01_Put (fun a => f_ref01_Put n a.1 a.2) (fun _ r => er_ref01_Put r)
theorem ap_ref01_Put (n : Nat) {ts : List T} {a0 : Int} {a1 : Int} {r : (List Int)} (hle : leTs ts [(T.int .u64) a0, (T.int .i64) a1]) (h : f_ref01_Put n a0 a1 = some r) : (sp_ref01_Put n).fn ts = some ([.row 5 1 (List.map (T.int .u8) r)], []) :=
  specP_fn (a := (a0, a1)) (InjA.cons (inj_int _) (InjA.one (inj_int _))) hle h
noncomputable def E_ref01_Put (n : Nat) : Env := { ty := tyT, glob := glob, fns := get [], ntmps := 21 }
theorem eok_ref01_Put (n : Nat) : EnvOK Tryd.prog (E_ref01_Put n) := ⟨tys_ok tys_chk, prog_mixed, fns_nil⟩
def K_ref01_Put (n : Nat) (pn0 : Int) (psize0 : Int) (r : (List Int)) : St → Prop := Done (E_ref01_Put n) Tryd.f53.results.toList [] (ea_ref01_Put (pn0, psize0)) (er_ref01_Put r).1 (er_ref01_Put r).2
set_option maxRecDepth 100000 in
set_option maxHeartbeats 4000000 in
theorem ok_ref01_Put (n : Nat) : SpecOK Tryd.prog glob 53 (sp_ref01_Put n) := by
  refine specP_ok (fn := Tryd.f53) (eok_ref01_Put n) (by kernel_rfl) rfl (by decide +kernel) (by kernel_rfl) (fun _ => by show 2 ≤ 21; omega) (fun h => Bool.noConfusion h) ?_
  rintro ⟨pn0, psize0⟩ r h C hL hC
  have hE := eok_ref01_Put n
  replace hL : ∀ n g, (n, g) ∈ C.lent → n ∈ ([] : List Nat) := hL
  replace h : f_ref01_Put n pn0 psize0 = some r := h
  show Ab _ _ _ _ _ (End (K_ref01_Put n pn0 psize0 r))
  unfold f_ref01_Put at h
  refine Ab.seq ?_
  refine Ab.regT hE hC hL [] { keep := [0, 1], ren := [] } ⟨[(0, (.t (.int .u64 pn0))), (1, (.t (.int .i64 psize0)))], []⟩ [] (by kernel_rfl) trivial ?_
  refine Nxt_norm ?_
  refine Ab.seq ?_
  refine Ab.regT hE hC hL [] { keep := [0, 1, 5], ren := [] } ⟨[(0, (.t (.int .u64 pn0))), (1, (.t (.int .i64 psize0))), (5, (.t .nils))], []⟩ [] (by kernel_rfl) trivial ?_
  refine Nxt_norm ?_
  refine Ab.seq ?_
  refine Ab.seq ?_
  refine Ab.regT hE hC hL [] { keep := [0, 1, 5, 6], ren := [] } ⟨[(0, (.t (.int .u64 pn0))), (1, (.t (.int .i64 psize0))), (5, (.t .nils)), (6, (.t (.int .i64 (0:Int))))], []⟩ [] (by kernel_rfl) trivial ?_
  refine Nxt_norm ?_
  obtain ⟨x0, hx0, h⟩ := bind_some h
  refine Ab.loopX0 (fun ((a0, a1, a2) : (Int × (List Int) × Int)) => (⟨[(0, (.t (.int .u64 a0))), (1, (.t (.int .i64 psize0))), (5, (.own 49000)), (6, (.t (.int .i64 a2)))], [(49000, (.row false 5 1 (List.map (T.int .u8) a1)))]⟩ : St)) (fun (a3 : (List Int)) => (⟨[(5, (.own 49000))], [(49000, (.row false 5 1 (List.map (T.int .u8) a3)))]⟩ : St)) { fs := [⟨(.t 5), [], .own 48000 5 1⟩], keep := [0, 1, 5, 6], ren := [(48000, 49000)] } (pn0, ([] : List Int), (0:Int)) hC hL hx0 (by kernel_rfl) ?_ ?_
  · rintro ⟨a0, a1, a2⟩ o0 h
    replace h : f_ref01_Put_b0 n psize0 a0 a1 a2 = some o0 := h
    unfold f_ref01_Put_b0 at h
    refine Ab.seq ?_
    refine Ab.seq ?_
    refine Ab.regT hE hC hL [] { keep := [0, 1, 5, 6, 9], ren := [(49000, 49000)] } ⟨[(0, (.t (.int .u64 a0))), (1, (.t (.int .i64 psize0))), (5, (.own 49000)), (6, (.t (.int .i64 a2))), (9, (.t (.bool (decide (a2 < psize0)))))], [(49000, (.row false 5 1 (List.map (T.int .u8) a1)))]⟩ [] (by kernel_rfl) trivial ?_
    refine Nxt_norm ?_
    refine Ab.cond (b := (decide (a2 < psize0))) (by kernel_rfl) (fun hb0 => ?_) (fun hb0 => ?_)
    · replace h := cond_t hb0 h
      refine Ab.skip ?_
      refine Nxt_norm ?_
      refine Ab.seq ?_
      refine Ab.block ?_
      refine Ab.seq ?_
      obtain ⟨hq0, h⟩ := ask_dec h
      refine Ab.regT hE hC hL [[], [], [], [], [], [.l (List.map (T.int .u8) (a1 ++ ([(w8 (a0.tmod (256:Int)))] : List Int)))]] { keep := [0, 1, 5, 6], ren := [(17, 17)] } ⟨[(0, (.t (.int .u64 a0))), (1, (.t (.int .i64 psize0))), (5, (.own 17)), (6, (.t (.int .i64 a2)))], [(17, (.row false 5 1 (List.map (T.int .u8) (a1 ++ ([(w8 (a0.tmod (256:Int)))] : List Int)))))]⟩ [(List.length (List.map (T.int .u8) a1) + List.length (List.map (T.int .u8) ([(w8 (a0.tmod (256:Int)))] : List Int))) * 1 ≤ maxBytes, List.length (List.map (T.int .u8) a1) + List.length (List.map (T.int .u8) ([(w8 (a0.tmod (256:Int)))] : List Int)) ≤ maxBytes, (List.map (T.int .u8) a1) ++ (List.map (T.int .u8) ([(w8 (a0.tmod (256:Int)))] : List Int)) = List.map (T.int .u8) (a1 ++ ([(w8 (a0.tmod (256:Int)))] : List Int))] (by kernel_rfl) ⟨(app_b rfl rfl hq0), (app_c rfl rfl (by decide) hq0), (app_of rfl rfl), trivial⟩ ?_
      refine Nxt_norm ?_
      refine Ab.regT hE hC hL [] { keep := [0, 1, 5, 6], ren := [(17, 17)] } ⟨[(0, (.t (.int .u64 (w64 (a0.tdiv (256:Int)))))), (1, (.t (.int .i64 psize0))), (5, (.own 17)), (6, (.t (.int .i64 a2)))], [(17, (.row false 5 1 (List.map (T.int .u8) (a1 ++ ([(w8 (a0.tmod (256:Int)))] : List Int)))))]⟩ [] (by kernel_rfl) trivial ?_
      refine Blk_norm ?_
      refine Nxt_norm ?_
      refine Ab.regT hE hC hL [] { keep := [0, 1, 5, 6], ren := [(17, 17)] } ⟨[(0, (.t (.int .u64 (w64 (a0.tdiv (256:Int)))))), (1, (.t (.int .i64 psize0))), (5, (.own 17)), (6, (.t (.int .i64 (wi (a2 + (1:Int))))))], [(17, (.row false 5 1 (List.map (T.int .u8) (a1 ++ ([(w8 (a0.tmod (256:Int)))] : List Int)))))]⟩ [] (by kernel_rfl) trivial ?_
      exact LK_norm ((w64 (a0.tdiv (256:Int))), (a1 ++ ([(w8 (a0.tmod (256:Int)))] : List Int)), (wi (a2 + (1:Int)))) { fs := [], keep := [0, 1, 5, 6], ren := [(17, 49000)] } h (by kernel_rfl)
    · replace h := cond_f hb0 h
      refine Ab.exit ?_
      refine Nxt_exit ?_
      exact LK_exit a1 h (PX_mk { fs := [], keep := [5], ren := [(49000, 49000)] } (by kernel_rfl))
  · refine Nxt_norm ?_
    refine Ab.seq ?_
    refine Ab.regT hE hC hL [] { keep := [4], ren := [(49000, 49000)] } ⟨[(4, (.own 49000))], [(49000, (.row false 5 1 (List.map (T.int .u8) x0)))]⟩ [] (by kernel_rfl) trivial ?_
    refine Nxt_norm ?_
    refine Ab.ret ?_
    obtain rfl := Option.some.inj h
    exact End_ret (doneO_ok (md := [true]) (by kernel_rfl))
def ea_ref02_Word (a : Int) : List T := [(T.int .u64) a]
def er_ref02_Word (r : (Arr 32 Int)) : List RR × List T := ([.tree ((eA 1 (T.int .u8)) r)], [])
noncomputable def sp_ref02_Word (n : Nat) : Spec := specP [] true ea_ref02_Word (fun a => f_ref02_Word n a) (fun _ r => er_ref02_Word r)
theorem ap_ref02_Word (n : Nat) {ts : List T} {a0 : Int} {r : (Arr 32 Int)} (hle : leTs ts [(T.int .u64) a0]) (h : f_ref02_Word n a0 = some r) : (sp_ref02_Word n).fn ts = some ([.tree ((eA 1 (T.int .u8)) r)], []) :=
  specP_fn (a := a0) (InjA.one (inj_int _)) hle h
noncomputable def E_ref02_Word (n : Nat) : Env := { ty := tyT, glob := glob, fns := get [(53, sp_ref01_Put n)], ntmps := 20 }
theorem eok_ref02_Word (n : Nat) : EnvOK Tryd.prog (E_ref02_Word n) := ⟨tys_ok tys_chk, prog_mixed, (fns_cons (ok_ref01_Put n) fns_nil)⟩
def K_ref02_Word (n : Nat) (pn0 : Int) (r : (Arr 32 Int)) : St → Prop := Done (E_ref02_Word n) Tryd.f49.results.toList [] (ea_ref02_Word pn0) (er_ref02_Word r).1 (er_ref02_Word r).2
set_option maxRecDepth 100000 in
set_option maxHeartbeats 4000000 in
theorem ok_ref02_Word (n : Nat) : SpecOK Tryd.prog glob 49 (sp_ref02_Word n) := by
  refine specP_ok (fn := Tryd.f49) (eok_ref02_Word n) (by kernel_rfl) rfl (by decide +kernel) (by kernel_rfl) (fun _ => by show 1 ≤ 20; omega) (fun _ _ r => ⟨(rrf_tree ((flat_eA (fun _ => rfl)) _) rrf_nil), flats_nil⟩) ?_
  rintro pn0 r h C hL hC
  have hE := eok_ref02_Word n
  replace hL : ∀ n g, (n, g) ∈ C.lent → n ∈ ([] : List Nat) := hL
  replace h : f_ref02_Word n pn0 = some r := h
  show Ab _ _ _ _ _ (End (K_ref02_Word n pn0 r))
  unfold f_ref02_Word at h
  refine Ab.seq ?_
  refine Ab.regT hE hC hL [] { keep := [0, 2], ren := [(2, 2)] } ⟨[(0, (.t (.int .u64 pn0))), (2, (.ref 2 [] (0)))], [(2, (.var false 24 (.t ((eA 1 (T.int .u8)) (Arr.rep 32 (0:Int))))))]⟩ [] (by kernel_rfl) trivial ?_
  refine Nxt_norm ?_
  refine Ab.seq ?_
  refine Ab.regT hE hC hL [] { keep := [0, 2, 3], ren := [(2, 2), (3, 3)] } ⟨[(0, (.t (.int .u64 pn0))), (2, (.ref 2 [] (0))), (3, (.ref 3 [] (0)))], [(2, (.var false 24 (.t ((eA 1 (T.int .u8)) (Arr.rep 32 (0:Int)))))), (3, (.var false 24 (.t ((eA 1 (T.int .u8)) (Arr.rep 32 (0:Int))))))]⟩ [] (by kernel_rfl) trivial ?_
  refine Nxt_norm ?_
  refine Ab.seq ?_
  obtain ⟨r0, hr0, h⟩ := bind_some h
  refine Ab.regT hE hC hL [[], [.r [.row 5 1 (List.map (T.int .u8) r0)] []]] { keep := [2, 3, 4], ren := [(2, 2), (3, 3), (8, 8)] } ⟨[(2, (.ref 2 [] (0))), (3, (.ref 3 [] (0))), (4, (.own 8))], [(2, (.var false 24 (.t ((eA 1 (T.int .u8)) (Arr.rep 32 (0:Int)))))), (3, (.var false 24 (.t ((eA 1 (T.int .u8)) (Arr.rep 32 (0:Int)))))), (8, (.row false 5 1 (List.map (T.int .u8) r0)))]⟩ [(sp_ref01_Put n).fn [(.int .u64 pn0), (.int .i64 (8:Int))] = some ([.row 5 1 (List.map (T.int .u8) r0)], [])] (by kernel_rfl) ⟨(ap_ref01_Put n (by exact ⟨leT.refl _, leT.refl _, trivial⟩) hr0), trivial⟩ ?_
  refine Nxt_norm ?_
  refine Ab.seq ?_
  refine Ab.seq ?_
  refine Ab.regT hE hC hL [] { keep := [2, 3, 4, 5], ren := [(2, 2), (3, 3), (8, 8)] } ⟨[(2, (.ref 2 [] (0))), (3, (.ref 3 [] (0))), (4, (.own 8)), (5, (.t (.int .i64 (0:Int))))], [(2, (.var false 24 (.t ((eA 1 (T.int .u8)) (Arr.rep 32 (0:Int)))))), (3, (.var false 24 (.t ((eA 1 (T.int .u8)) (Arr.rep 32 (0:Int)))))), (8, (.row false 5 1 (List.map (T.int .u8) r0)))]⟩ [] (by kernel_rfl) trivial ?_
  refine Nxt_norm ?_
  obtain ⟨x0, hx0, h⟩ := bind_some h
  refine Ab.loopX0 (fun ((a0, a1) : ((Arr 32 Int) × Int)) => (⟨[(2, (.ref 49000 [] (0))), (3, (.ref 49001 [] (0))), (4, (.own 49002)), (5, (.t (.int .i64 a1)))], [(49000, (.var false 24 (.t ((eA 1 (T.int .u8)) (Arr.rep 32 (0:Int)))))), (49001, (.var false 24 (.t ((eA 1 (T.int .u8)) a0)))), (49002, (.row false 5 1 (List.map (T.int .u8) r0)))]⟩ : St)) (fun (a2 : (Arr 32 Int)) => (⟨[(2, (.ref 49000 [] (0))), (3, (.ref 49001 [] (0)))], [(49000, (.var false 24 (.t ((eA 1 (T.int .u8)) (Arr.rep 32 (0:Int)))))), (49001, (.var false 24 (.t ((eA 1 (T.int .u8)) a2))))]⟩ : St)) { fs := [], keep := [2, 3, 4, 5], ren := [(2, 49000), (3, 49001), (8, 49002)] } ((Arr.rep 32 (0:Int)), (0:Int)) hC hL hx0 (by kernel_rfl) ?_ ?_
  · rintro ⟨a0, a1⟩ o0 h
    replace h : f_ref02_Word_b0 n r0 a0 a1 = some o0 := h
    unfold f_ref02_Word_b0 at h
    refine Ab.seq ?_
    refine Ab.seq ?_
    refine Ab.regT hE hC hL [] { keep := [2, 3, 4, 5, 10], ren := [(49000, 49000), (49001, 49001), (49002, 49002)] } ⟨[(2, (.ref 49000 [] (0))), (3, (.ref 49001 [] (0))), (4, (.own 49002)), (5, (.t (.int .i64 a1))), (10, (.t (.bool (decide (a1 < (8:Int))))))], [(49000, (.var false 24 (.t ((eA 1 (T.int .u8)) (Arr.rep 32 (0:Int)))))), (49001, (.var false 24 (.t ((eA 1 (T.int .u8)) a0)))), (49002, (.row false 5 1 (List.map (T.int .u8) r0)))]⟩ [] (by kernel_rfl) trivial ?_
    refine Nxt_norm ?_
    refine Ab.cond (b := (decide (a1 < (8:Int)))) (by kernel_rfl) (fun hb0 => ?_) (fun hb0 => ?_)
    · replace h := cond_t hb0 h
      refine Ab.skip ?_
      refine Nxt_norm ?_
      refine Ab.seq ?_
      refine Ab.block ?_
      obtain ⟨hq0, h⟩ := ask_dec h
      obtain ⟨hq1, h⟩ := ask_dec h
      obtain ⟨v0, hv0, h⟩ := bind_some h
      obtain ⟨hq2, h⟩ := ask_dec h
      obtain ⟨v1, hv1, h⟩ := bind_some h
      refine Ab.regT hE hC hL [[], [], [], [.c], [.t (.int .u8 v0)], [.c], [.t (.int .u8 v1), .l (List.map (T.int .u8) (Arr.set a0 (a1.toNat) v0).l)]] { keep := [2, 3, 4, 5], ren := [(49000, 49000), (49001, 49001), (49002, 49002)] } ⟨[(2, (.ref 49000 [] (0))), (3, (.ref 49001 [] (0))), (4, (.own 49002)), (5, (.t (.int .i64 a1)))], [(49000, (.var false 24 (.t ((eA 1 (T.int .u8)) (Arr.rep 32 (0:Int)))))), (49001, (.var false 24 (.t ((eA 1 (T.int .u8)) (Arr.set a0 (a1.toNat) v0))))), (49002, (.row false 5 1 (List.map (T.int .u8) r0)))]⟩ [0 ≤ a1, a1.toNat < List.length (List.map (T.int .u8) r0), a1.toNat * 1 + 0 = a1.toNat * 1, (List.map (T.int .u8) r0)[a1.toNat]? = some (.int .u8 v0), 0 ≤ a1, a1 < ((32 : Nat) : Int), a1.toNat * 1 + 0 = 0 + a1.toNat * 1, (List.map (T.int .u8) a0.l)[a1.toNat]? = some (.int .u8 v1), (List.map (T.int .u8) a0.l)[a1.toNat]? = some (.int .u8 v1), (List.map (T.int .u8) a0.l).set a1.toNat (.int .u8 v0) = List.map (T.int .u8) (Arr.set a0 (a1.toNat) v0).l] (by kernel_rfl) ⟨hq0, (by rw [List.length_map]; exact hq1), (by omega), (at_map hv0), hq0, hq2, (by omega), (at_map hv1), (at_map hv1), set_map, trivial⟩ ?_
      refine Blk_norm ?_
      refine Nxt_norm ?_
      refine Ab.regT hE hC hL [] { keep := [2, 3, 4, 5], ren := [(49000, 49000), (49001, 49001), (49002, 49002)] } ⟨[(2, (.ref 49000 [] (0))), (3, (.ref 49001 [] (0))), (4, (.own 49002)), (5, (.t (.int .i64 (wi (a1 + (1:Int))))))], [(49000, (.var false 24 (.t ((eA 1 (T.int .u8)) (Arr.rep 32 (0:Int)))))), (49001, (.var false 24 (.t ((eA 1 (T.int .u8)) (Arr.set a0 (a1.toNat) v0))))), (49002, (.row false 5 1 (List.map (T.int .u8) r0)))]⟩ [] (by kernel_rfl) trivial ?_
      exact LK_norm ((Arr.set a0 (a1.toNat) v0), (wi (a1 + (1:Int)))) { fs := [], keep := [2, 3, 4, 5], ren := [(49000, 49000), (49001, 49001), (49002, 49002)] } h (by kernel_rfl)
    · replace h := cond_f hb0 h
      refine Ab.exit ?_
      refine Nxt_exit ?_
      exact LK_exit a0 h (PX_mk { fs := [], keep := [2, 3], ren := [(49000, 49000), (49001, 49001)] } (by kernel_rfl))
  · refine Nxt_norm ?_
    refine Ab.seq ?_
    refine Ab.regT hE hC hL [] { keep := [2], ren := [(49000, 49000)] } ⟨[(2, (.ref 49000 [] (0)))], [(49000, (.var false 24 (.t ((eA 1 (T.int .u8)) x0))))]⟩ [] (by kernel_rfl) trivial ?_
    refine Nxt_norm ?_
    refine Ab.ret ?_
    obtain rfl := Option.some.inj h
    exact End_ret (doneO_ok (md := [false]) (by kernel_rfl))
def ea_ref07_Message (a : (Arr 32 Int) × Int) : List T := [(eA 1 (T.int .u8)) a.1, (T.int .u64) a.2]
def er_ref07_Message (r : (Arr 32 Int)) : List RR × List T := ([.tree ((eA 1 (T.int .u8)) r)], [])
noncomputable def sp_ref07_Message (n : Nat) : Spec := specP [] true ea_ref07_Message (fun a => f_ref07_Message n a.1 a.2) (fun _ r => er_ref07_Message r)
theorem ap_ref07_Message (n : Nat) {ts : List T} {a0 : (Arr 32 Int)} {a1 : Int} {r : (Arr 32 Int)} (hle : leTs ts [(eA 1 (T.int .u8)) a0, (T.int .u64) a1]) (h : f_ref07_Message n a0 a1 = some r) : (sp_ref07_Message n).fn ts = some ([.tree ((eA 1 (T.int .u8)) r)], []) :=
  specP_fn (a := (a0, a1)) (InjA.cons (inj_eA (inj_int _)) (InjA.one (inj_int _))) hle h
noncomputable def E_ref07_Message (n : Nat) : Env := { ty := tyT, glob := glob, fns := get [(17, sp_ref02_Pair n), (49, sp_ref02_Word n)], ntmps := 9 }
theorem eok_ref07_Message (n : Nat) : EnvOK Tryd.prog (E_ref07_Message n) := ⟨tys_ok tys_chk, prog_mixed, (fns_cons (ok_ref02_Pair n) (fns_cons (ok_ref02_Word n) fns_nil))⟩
def K_ref07_Message (n : Nat) (pr0 : (Arr 32 Int)) (pkind0 : Int) (r : (Arr 32 Int)) : St → Prop := Done (E_ref07_Message n) Tryd.f23.results.toList [] (ea_ref07_Message (pr0, pkind0)) (er_ref07_Message r).1 (er_ref07_Message r).2
set_option maxRecDepth 100000 in
set_option maxHeartbeats 4000000 in
theorem ok_ref07_Message (n : Nat) : SpecOK Tryd.prog glob 23 (sp_ref07_Message n) := by
  refine specP_ok (fn := Tryd.f23) (eok_ref07_Message n) (by kernel_rfl) rfl (by decide +kernel) (by kernel_rfl) (fun _ => by show 2 ≤ 9; omega) (fun _ _ r => ⟨(rrf_tree ((flat_eA (fun _ => rfl)) _) rrf_nil), flats_nil⟩) ?_
  rintro ⟨pr0, pkind0⟩ r h C hL hC
  have hE := eok_ref07_Message n
  replace hL : ∀ n g, (n, g) ∈ C.lent → n ∈ ([] : List Nat) := hL
  replace h : f_ref07_Message n pr0 pkind0 = some r := h
  show Ab _ _ _ _ _ (End (K_ref07_Message n pr0 pkind0 r))
  unfold f_ref07_Message at h
  refine Ab.seq ?_
  refine Ab.regT hE hC hL [] { keep := [1, 2, 4], ren := [(2, 2), (4, 4)] } ⟨[(1, (.t (.int .u64 pkind0))), (2, (.ref 2 [] (0))), (4, (.ref 4 [] (0)))], [(2, (.var false 25 (.t ((eA 1 (T.int .u8)) pr0)))), (4, (.var false 25 (.t ((eA 1 (T.int .u8)) (Arr.rep 32 (0:Int))))))]⟩ [] (by kernel_rfl) trivial ?_
  refine Nxt_norm ?_
  refine Ab.seq ?_
  obtain ⟨r0, hr0, h⟩ := bind_some h
  obtain ⟨r1, hr1, h⟩ := bind_some h
  refine Ab.regA hE hC hL [[], [], [.r [.tree ((eA 1 (T.int .u8)) r0)] []], [.r [.tree ((eA 1 (T.int .u8)) r1)] []]] { keep := [4], ren := [(4, 4)] } ⟨[(4, (.ref 4 [] (0)))], [(4, (.var false 25 (.t ((eA 1 (T.int .u8)) r1))))]⟩ [(sp_ref02_Word n).fn [(.int .u64 pkind0)] = some ([.tree ((eA 1 (T.int .u8)) r0)], []), (sp_ref02_Pair n).fn [((eA 1 (T.int .u8)) pr0), ((eA 1 (T.int .u8)) r0)] = some ([.tree ((eA 1 (T.int .u8)) r1)], [])] (by kernel_rfl) (by kernel_rfl) ⟨(ap_ref02_Word n (by exact ⟨leT.refl _, trivial⟩) hr0), (ap_ref02_Pair n (by exact ⟨leT.refl _, leT.refl _, trivial⟩) hr1), trivial⟩ ?_
  refine Nxt_norm ?_
  refine Ab.ret ?_
  obtain rfl := Option.some.inj h
  exact End_ret (doneO_ok (md := [false]) (by kernel_rfl))
def ea_ref07_Join (a : (List (Arr 32 Int))) : List T := [(eS 32 (eA 1 (T.int .u8))) a]
def er_ref07_Join (r : (Arr 32 Int)) : List RR × List T := ([.tree ((eA 1 (T.int .u8)) r)], [])
noncomputable def sp_ref07_Join (n : Nat) : Spec := specP [] true ea_ref07_Join (fun a => f_ref07_Join n a) (fun _ r => er_ref07_Join r)
theorem ap_ref07_Join (n : Nat) {ts : List T} {a0 : (List (Arr 32 Int))} {r : (Arr 32 Int)} (hle : leTs ts [(eS 32 (eA 1 (T.int .u8))) a0]) (h : f_ref07_Join n a0 = some r) : (sp_ref07_Join n).fn ts = some ([.tree ((eA 1 (T.int .u8)) r)], []) :=
  specP_fn (a := a0) (InjA.one (inj_eS (inj_eA (inj_int _)))) hle h
noncomputable def E_ref07_Join (n : Nat) : Env := { ty := tyT, glob := glob, fns := get [], ntmps := 30 }
theorem eok_ref07_Join (n : Nat) : EnvOK Tryd.prog (E_ref07_Join n) := ⟨tys_ok tys_chk, prog_mixed, fns_nil⟩
def K_ref07_Join (n : Nat) (pl0 : (List (Arr 32 Int))) (r : (Arr 32 Int)) : St → Prop := Done (E_ref07_Join n) Tryd.f24.results.toList [] (ea_ref07_Join pl0) (er_ref07_Join r).1 (er_ref07_Join r).2
set_option maxRecDepth 100000 in
set_option maxHeartbeats 4000000 in
theorem ok_ref07_Join (n : Nat) : SpecOK Tryd.prog glob 24 (sp_ref07_Join n) := by
  refine specP_ok (fn := Tryd.f24) (eok_ref07_Join n) (by kernel_rfl) rfl (by decide +kernel) (by kernel_rfl) (fun _ => by show 1 ≤ 30; omega) (fun _ _ r => ⟨(rrf_tree ((flat_eA (fun _ => rfl)) _) rrf_nil), flats_nil⟩) ?_
  rintro pl0 r h C hL hC
  have hE := eok_ref07_Join n
  replace hL : ∀ n g, (n, g) ∈ C.lent → n ∈ ([] : List Nat) := hL
  replace h : f_ref07_Join n pl0 = some r := h
  show Ab _ _ _ _ _ (End (K_ref07_Join n pl0 r))
  unfold f_ref07_Join at h
  refine Ab.seq ?_
  refine Ab.regT hE hC hL [] { keep := [0, 2], ren := [(2, 2)] } ⟨[(0, (.t ((eS 32 (eA 1 (T.int .u8))) pl0))), (2, (.ref 2 [] (0)))], [(2, (.var false 25 (.t ((eA 1 (T.int .u8)) (Arr.rep 32 (0:Int))))))]⟩ [] (by kernel_rfl) trivial ?_
  refine Nxt_norm ?_
  refine Ab.seq ?_
  refine Ab.regT hE hC hL [] { keep := [0, 2, 3], ren := [(2, 2), (3, 3)] } ⟨[(0, (.t ((eS 32 (eA 1 (T.int .u8))) pl0))), (2, (.ref 2 [] (0))), (3, (.ref 3 [] (0)))], [(2, (.var false 25 (.t ((eA 1 (T.int .u8)) (Arr.rep 32 (0:Int)))))), (3, (.var false 25 (.t ((eA 1 (T.int .u8)) (Arr.rep 32 (0:Int))))))]⟩ [] (by kernel_rfl) trivial ?_
  refine Nxt_norm ?_
  refine Ab.seq ?_
  refine Ab.seq ?_
  refine Ab.regT hE hC hL [] { keep := [0, 2, 3, 4], ren := [(2, 2), (3, 3)] } ⟨[(0, (.t ((eS 32 (eA 1 (T.int .u8))) pl0))), (2, (.ref 2 [] (0))), (3, (.ref 3 [] (0))), (4, (.t (.int .i64 (0:Int))))], [(2, (.var false 25 (.t ((eA 1 (T.int .u8)) (Arr.rep 32 (0:Int)))))), (3, (.var false 25 (.t ((eA 1 (T.int .u8)) (Arr.rep 32 (0:Int))))))]⟩ [] (by kernel_rfl) trivial ?_
  refine Nxt_norm ?_
  obtain ⟨x1, hx0, h⟩ := bind_some h
  refine Ab.loopX0 (fun ((a0, a1) : ((Arr 32 Int) × Int)) => (⟨[(0, (.t ((eS 32 (eA 1 (T.int .u8))) pl0))), (2, (.ref 49000 [] (0))), (3, (.ref 49001 [] (0))), (4, (.t (.int .i64 a1)))], [(49000, (.var false 25 (.t ((eA 1 (T.int .u8)) (Arr.rep 32 (0:Int)))))), (49001, (.var false 25 (.t ((eA 1 (T.int .u8)) a0))))]⟩ : St)) (fun (a2 : (Arr 32 Int)) => (⟨[(2, (.ref 49000 [] (0))), (3, (.ref 49001 [] (0)))], [(49000, (.var false 25 (.t ((eA 1 (T.int .u8)) (Arr.rep 32 (0:Int)))))), (49001, (.var false 25 (.t ((eA 1 (T.int .u8)) a2))))]⟩ : St)) { fs := [], keep := [0, 2, 3, 4], ren := [(2, 49000), (3, 49001)] } ((Arr.rep 32 (0:Int)), (0:Int)) hC hL hx0 (by kernel_rfl) ?_ ?_
  · rintro ⟨a0, a1⟩ o0 h
    replace h : f_ref07_Join_b0 n pl0 a0 a1 = some o0 := h
    unfold f_ref07_Join_b0 at h
    refine Ab.seq ?_
    refine Ab.seq ?_
    refine Ab.regT hE hC hL [[], [], [.n (pl0.length : Int)]] { keep := [0, 2, 3, 4, 10], ren := [(49000, 49000), (49001, 49001)] } ⟨[(0, (.t ((eS 32 (eA 1 (T.int .u8))) pl0))), (2, (.ref 49000 [] (0))), (3, (.ref 49001 [] (0))), (4, (.t (.int .i64 a1))), (10, (.t (.bool (decide (a1 < (pl0.length : Int))))))], [(49000, (.var false 25 (.t ((eA 1 (T.int .u8)) (Arr.rep 32 (0:Int)))))), (49001, (.var false 25 (.t ((eA 1 (T.int .u8)) a0))))]⟩ [((List.length (List.map (eA 1 (T.int .u8)) pl0) : Nat) : Int) = (pl0.length : Int)] (by kernel_rfl) ⟨(len_of rfl), trivial⟩ ?_
    refine Nxt_norm ?_
    refine Ab.cond (b := (decide (a1 < (pl0.length : Int)))) (by kernel_rfl) (fun hb0 => ?_) (fun hb0 => ?_)
    · replace h := cond_t hb0 h
      refine Ab.skip ?_
      refine Nxt_norm ?_
      refine Ab.seq ?_
      refine Ab.block ?_
      refine Ab.seq ?_
      refine Ab.regT hE hC hL [] { keep := [0, 2, 3, 4, 5], ren := [(49000, 49000), (49001, 49001)] } ⟨[(0, (.t ((eS 32 (eA 1 (T.int .u8))) pl0))), (2, (.ref 49000 [] (0))), (3, (.ref 49001 [] (0))), (4, (.t (.int .i64 a1))), (5, (.t (.int .i64 (0:Int))))], [(49000, (.var false 25 (.t ((eA 1 (T.int .u8)) (Arr.rep 32 (0:Int)))))), (49001, (.var false 25 (.t ((eA 1 (T.int .u8)) a0))))]⟩ [] (by kernel_rfl) trivial ?_
      refine Nxt_norm ?_
      obtain ⟨x0, hx1, h⟩ := bind_some h
      refine Ab.loopX0 (fun ((a3, a4) : ((Arr 32 Int) × Int)) => (⟨[(0, (.t ((eS 32 (eA 1 (T.int .u8))) pl0))), (2, (.ref 49000 [] (0))), (3, (.ref 49001 [] (0))), (4, (.t (.int .i64 a1))), (5, (.t (.int .i64 a4)))], [(49000, (.var false 25 (.t ((eA 1 (T.int .u8)) (Arr.rep 32 (0:Int)))))), (49001, (.var false 25 (.t ((eA 1 (T.int .u8)) a3))))]⟩ : St)) (fun (a5 : (Arr 32 Int)) => (⟨[(0, (.t ((eS 32 (eA 1 (T.int .u8))) pl0))), (2, (.ref 49000 [] (0))), (3, (.ref 49001 [] (0))), (4, (.t (.int .i64 a1)))], [(49000, (.var false 25 (.t ((eA 1 (T.int .u8)) (Arr.rep 32 (0:Int)))))), (49001, (.var false 25 (.t ((eA 1 (T.int .u8)) a5))))]⟩ : St)) { fs := [], keep := [0, 2, 3, 4, 5], ren := [(49000, 49000), (49001, 49001)] } (a0, (0:Int)) hC hL hx1 (by kernel_rfl) ?_ ?_
      · rintro ⟨a3, a4⟩ o1 h
        replace h : f_ref07_Join_b1 n a1 pl0 a3 a4 = some o1 := h
        unfold f_ref07_Join_b1 at h
        refine Ab.seq ?_
        refine Ab.seq ?_
        refine Ab.regT hE hC hL [] { keep := [0, 2, 3, 4, 5, 14], ren := [(49000, 49000), (49001, 49001)] } ⟨[(0, (.t ((eS 32 (eA 1 (T.int .u8))) pl0))), (2, (.ref 49000 [] (0))), (3, (.ref 49001 [] (0))), (4, (.t (.int .i64 a1))), (5, (.t (.int .i64 a4))), (14, (.t (.bool (decide (a4 < (32:Int))))))], [(49000, (.var false 25 (.t ((eA 1 (T.int .u8)) (Arr.rep 32 (0:Int)))))), (49001, (.var false 25 (.t ((eA 1 (T.int .u8)) a3))))]⟩ [] (by kernel_rfl) trivial ?_
        refine Nxt_norm ?_
        refine Ab.cond (b := (decide (a4 < (32:Int)))) (by kernel_rfl) (fun hb1 => ?_) (fun hb1 => ?_)
        · replace h := cond_t hb1 h
          refine Ab.skip ?_
          refine Nxt_norm ?_
          refine Ab.seq ?_
          refine Ab.block ?_
          obtain ⟨hq0, h⟩ := ask_dec h
          obtain ⟨v0, hv0, h⟩ := bind_some h
          obtain ⟨hq1, h⟩ := ask_dec h
          obtain ⟨v1, hv1, h⟩ := bind_some h
          obtain ⟨v2, hv2, h⟩ := bind_some h
          refine Ab.regA hE hC hL [[], [], [.c], [.t (.int .u8 v0)], [], [], [], [.t ((eA 1 (T.int .u8)) v1)], [.t (.int .u8 v2)], [], [], [.c], [.t (.int .u8 v0), .l (List.map (T.int .u8) (Arr.set a3 (a4.toNat) (bits .xor .u8 v0 v2)).l)]] { keep := [0, 2, 3, 4, 5], ren := [(49000, 49000), (49001, 49001)] } ⟨[(0, (.t ((eS 32 (eA 1 (T.int .u8))) pl0))), (2, (.ref 49000 [] (0))), (3, (.ref 49001 [] (0))), (4, (.t (.int .i64 a1))), (5, (.t (.int .i64 a4)))], [(49000, (.var false 25 (.t ((eA 1 (T.int .u8)) (Arr.rep 32 (0:Int)))))), (49001, (.var false 25 (.t ((eA 1 (T.int .u8)) (Arr.set a3 (a4.toNat) (bits .xor .u8 v0 v2))))))]⟩ [0 ≤ a4, a4 < ((32 : Nat) : Int), a4.toNat * 1 + 0 = 0 + a4.toNat * 1, (List.map (T.int .u8) a3.l)[a4.toNat]? = some (.int .u8 v0), 0 ≤ a1, (List.map (eA 1 (T.int .u8)) pl0)[a1.toNat]? = some ((eA 1 (T.int .u8)) v1), 0 ≤ a4, a4 < ((32 : Nat) : Int), (List.map (T.int .u8) v1.l)[a4.toNat]? = some (.int .u8 v2), 0 ≤ a4, a4 < ((32 : Nat) : Int), a4.toNat * 1 + 0 = 0 + a4.toNat * 1, (List.map (T.int .u8) a3.l)[a4.toNat]? = some (.int .u8 v0), (List.map (T.int .u8) a3.l)[a4.toNat]? = some (.int .u8 v0), (List.map (T.int .u8) a3.l).set a4.toNat (.int .u8 (bits .xor .u8 v0 v2)) = List.map (T.int .u8) (Arr.set a3 (a4.toNat) (bits .xor .u8 v0 v2)).l] (by kernel_rfl) (by kernel_rfl) ⟨hq0, (of_decide_eq_true hb1), (by omega), (at_map hv0), hq1, (at_map hv1), hq0, (of_decide_eq_true hb1), (at_map hv2), hq0, (of_decide_eq_true hb1), (by omega), (at_map hv0), (at_map hv0), set_map, trivial⟩ ?_
          refine Blk_norm ?_
          refine Nxt_norm ?_
          refine Ab.regT hE hC hL [] { keep := [0, 2, 3, 4, 5], ren := [(49000, 49000), (49001, 49001)] } ⟨[(0, (.t ((eS 32 (eA 1 (T.int .u8))) pl0))), (2, (.ref 49000 [] (0))), (3, (.ref 49001 [] (0))), (4, (.t (.int .i64 a1))), (5, (.t (.int .i64 (wi (a4 + (1:Int))))))], [(49000, (.var false 25 (.t ((eA 1 (T.int .u8)) (Arr.rep 32 (0:Int)))))), (49001, (.var false 25 (.t ((eA 1 (T.int .u8)) (Arr.set a3 (a4.toNat) (bits .xor .u8 v0 v2))))))]⟩ [] (by kernel_rfl) trivial ?_
          exact LK_norm ((Arr.set a3 (a4.toNat) (bits .xor .u8 v0 v2)), (wi (a4 + (1:Int)))) { fs := [], keep := [0, 2, 3, 4, 5], ren := [(49000, 49000), (49001, 49001)] } h (by kernel_rfl)
        · replace h := cond_f hb1 h
          refine Ab.exit ?_
          refine Nxt_exit ?_
          exact LK_exit a3 h (PX_mk { fs := [], keep := [0, 2, 3, 4], ren := [(49000, 49000), (49001, 49001)] } (by kernel_rfl))
      · refine Blk_norm ?_
        refine Nxt_norm ?_
        refine Ab.regT hE hC hL [] { keep := [0, 2, 3, 4], ren := [(49000, 49000), (49001, 49001)] } ⟨[(0, (.t ((eS 32 (eA 1 (T.int .u8))) pl0))), (2, (.ref 49000 [] (0))), (3, (.ref 49001 [] (0))), (4, (.t (.int .i64 (wi (a1 + (1:Int))))))], [(49000, (.var false 25 (.t ((eA 1 (T.int .u8)) (Arr.rep 32 (0:Int)))))), (49001, (.var false 25 (.t ((eA 1 (T.int .u8)) x0))))]⟩ [] (by kernel_rfl) trivial ?_
        exact LK_norm (x0, (wi (a1 + (1:Int)))) { fs := [], keep := [0, 2, 3, 4], ren := [(49000, 49000), (49001, 49001)] } h (by kernel_rfl)
    · replace h := cond_f hb0 h
      refine Ab.exit ?_
      refine Nxt_exit ?_
      exact LK_exit a0 h (PX_mk { fs := [], keep := [2, 3], ren := [(49000, 49000), (49001, 49001)] } (by kernel_rfl))
  · refine Nxt_norm ?_
    refine Ab.seq ?_
    refine Ab.regT hE hC hL [] { keep := [2], ren := [(49000, 49000)] } ⟨[(2, (.ref 49000 [] (0)))], [(49000, (.var false 25 (.t ((eA 1 (T.int .u8)) x1))))]⟩ [] (by kernel_rfl) trivial ?_
    refine Nxt_norm ?_
    refine Ab.ret ?_
    obtain rfl := Option.some.inj h
    exact End_ret (doneO_ok (md := [false]) (by kernel_rfl))
def ea_ref07_Tag (a : (Arr 32 Int) × (Arr 32 Int)) : List T := [(eA 1 (T.int .u8)) a.1, (eA 1 (T.int .u8)) a.2]
def er_ref07_Tag (r : (Arr 32 Int)) : List RR × List T := ([.tree ((eA 1 (T.int .u8)) r)], [])
noncomputable def sp_ref07_Tag (n : Nat) : Spec := specP [] true ea_ref07_Tag (fun a => f_ref07_Tag n a.1 a.2) (fun _ r => er_ref07_Tag r)
theorem ap_ref07_Tag (n : Nat) {ts : List T} {a0 : (Arr 32 Int)} {a1 : (Arr 32 Int)} {r : (Arr 32 Int)} (hle : leTs ts [(eA 1 (T.int .u8)) a0, (eA 1 (T.int .u8)) a1]) (h : f_ref07_Tag n a0 a1 = some r) : (sp_ref07_Tag n).fn ts = some ([.tree ((eA 1 (T.int .u8)) r)], []) :=
  specP_fn (a := (a0, a1)) (InjA.cons (inj_eA (inj_int _)) (InjA.one (inj_eA (inj_int _)))) hle h
noncomputable def E_ref07_Tag (n : Nat) : Env := { ty := tyT, glob := glob, fns := get [(17, sp_ref02_Pair n)], ntmps := 8 }
theorem eok_ref07_Tag (n : Nat) : EnvOK Tryd.prog (E_ref07_Tag n) := ⟨tys_ok tys_chk, prog_mixed, (fns_cons (ok_ref02_Pair n) fns_nil)⟩
def K_ref07_Tag (n : Nat) (pkey0 : (Arr 32 Int)) (pmessage0 : (Arr 32 Int)) (r : (Arr 32 Int)) : St → Prop := Done (E_ref07_Tag n) Tryd.f26.results.toList [] (ea_ref07_Tag (pkey0, pmessage0)) (er_ref07_Tag r).1 (er_ref07_Tag r).2
set_option maxRecDepth 100000 in
set_option maxHeartbeats 4000000 in
theorem ok_ref07_Tag (n : Nat) : SpecOK Tryd.prog glob 26 (sp_ref07_Tag n) := by
  refine specP_ok (fn := Tryd.f26) (eok_ref07_Tag n) (by kernel_rfl) rfl (by decide +kernel) (by kernel_rfl) (fun _ => by show 2 ≤ 8; omega) (fun _ _ r => ⟨(rrf_tree ((flat_eA (fun _ => rfl)) _) rrf_nil), flats_nil⟩) ?_
  rintro ⟨pkey0, pmessage0⟩ r h C hL hC
  have hE := eok_ref07_Tag n
  replace hL : ∀ n g, (n, g) ∈ C.lent → n ∈ ([] : List Nat) := hL
  replace h : f_ref07_Tag n pkey0 pmessage0 = some r := h
  show Ab _ _ _ _ _ (End (K_ref07_Tag n pkey0 pmessage0 r))
  unfold f_ref07_Tag at h
  refine Ab.seq ?_
  refine Ab.regT hE hC hL [] { keep := [2, 3, 4], ren := [(2, 2), (3, 3), (4, 4)] } ⟨[(2, (.ref 2 [] (0))), (3, (.ref 3 [] (0))), (4, (.ref 4 [] (0)))], [(2, (.var false 25 (.t ((eA 1 (T.int .u8)) pkey0)))), (3, (.var false 25 (.t ((eA 1 (T.int .u8)) pmessage0)))), (4, (.var false 25 (.t ((eA 1 (T.int .u8)) (Arr.rep 32 (0:Int))))))]⟩ [] (by kernel_rfl) trivial ?_
  refine Nxt_norm ?_
  refine Ab.seq ?_
  obtain ⟨r0, hr0, h⟩ := bind_some h
  refine Ab.regT hE hC hL [[], [], [.r [.tree ((eA 1 (T.int .u8)) r0)] []]] { keep := [4], ren := [(4, 4)] } ⟨[(4, (.ref 4 [] (0)))], [(4, (.var false 25 (.t ((eA 1 (T.int .u8)) r0))))]⟩ [(sp_ref02_Pair n).fn [((eA 1 (T.int .u8)) pkey0), ((eA 1 (T.int .u8)) pmessage0)] = some ([.tree ((eA 1 (T.int .u8)) r0)], [])] (by kernel_rfl) ⟨(ap_ref02_Pair n (by exact ⟨leT.refl _, leT.refl _, trivial⟩) hr0), trivial⟩ ?_
  refine Nxt_norm ?_
  refine Ab.ret ?_
  obtain rfl := Option.some.inj h
  exact End_ret (doneO_ok (md := [false]) (by kernel_rfl))
def ea_law07_SignTags (a : (List (Arr 32 Int)) × (Arr 32 Int) × Int × (Arr 32 Int)) : List T := [(eS 32 (eA 1 (T.int .u8))) a.1, (eA 1 (T.int .u8)) a.2.1, (T.int .u64) a.2.2.1, (eA 1 (T.int .u8)) a.2.2.2]
def er_law07_SignTags (r : Bool) : List RR × List T := ([.tree (T.bool r)], [])
noncomputable def sp_law07_SignTags (n : Nat) : Spec := specP [] true ea_law07_SignTags (fun a => f_law07_SignTags n a.1 a.2.1 a.2.2.1 a.2.2.2) (fun _ r => er_law07_SignTags r)
theorem ap_law07_SignTags (n : Nat) {ts : List T} {a0 : (List (Arr 32 Int))} {a1 : (Arr 32 Int)} {a2 : Int} {a3 : (Arr 32 Int)} {r : Bool} (hle : leTs ts [(eS 32 (eA 1 (T.int .u8))) a0, (eA 1 (T.int .u8)) a1, (T.int .u64) a2, (eA 1 (T.int .u8)) a3]) (h : f_law07_SignTags n a0 a1 a2 a3 = some r) : (sp_law07_SignTags n).fn ts = some ([.tree (T.bool r)], []) :=
  specP_fn (a := (a0, a1, a2, a3)) (InjA.cons (inj_eS (inj_eA (inj_int _))) (InjA.cons (inj_eA (inj_int _)) (InjA.cons (inj_int _) (InjA.one (inj_eA (inj_int _)))))) hle h
noncomputable def E_law07_SignTags (n : Nat) : Env := { ty := tyT, glob := glob, fns := get [(20, sp_law07_Awake n), (21, sp_sign_Join n), (22, sp_sign_Message n), (23, sp_ref07_Message n), (24, sp_ref07_Join n), (25, sp_sign_Tag n), (26, sp_ref07_Tag n), (27, sp_sign_Valid n)], ntmps := 87 }
theorem eok_law07_SignTags (n : Nat) : EnvOK Tryd.prog (E_law07_SignTags n) := ⟨tys_ok tys_chk, prog_mixed, (fns_cons (ok_law07_Awake n) (fns_cons (ok_sign_Join n) (fns_cons (ok_sign_Message n) (fns_cons (ok_ref07_Message n) (fns_cons (ok_ref07_Join n) (fns_cons (ok_sign_Tag n) (fns_cons (ok_ref07_Tag n) (fns_cons (ok_sign_Valid n) fns_nil))))))))⟩
def K_law07_SignTags (n : Nat) (pkeys0 : (List (Arr 32 Int))) (pr0 : (Arr 32 Int)) (pk0 : Int) (psig0 : (Arr 32 Int)) (r : Bool) : St → Prop := Done (E_law07_SignTags n) Tryd.f7.results.toList [] (ea_law07_SignTags (pkeys0, pr0, pk0, psig0)) (er_law07_SignTags r).1 (er_law07_SignTags r).2
set_option maxRecDepth 100000 in
set_option maxHeartbeats 4000000 in
theorem ok_law07_SignTags (n : Nat) : SpecB Tryd.prog glob 7 (sp_law07_SignTags n) := by
  refine specP_B (fn := Tryd.f7) (eok_law07_SignTags n) (by kernel_rfl) rfl (by decide +kernel) (by kernel_rfl) (fun _ => by show 4 ≤ 87; omega)  ?_
  rintro ⟨pkeys0, pr0, pk0, psig0⟩ r h C hL hC
  have hE := eok_law07_SignTags n
  replace hL : ∀ n g, (n, g) ∈ C.lent → n ∈ ([] : List Nat) := hL
  replace h : f_law07_SignTags n pkeys0 pr0 pk0 psig0 = some r := h
  show Ab _ _ _ _ _ (End (K_law07_SignTags n pkeys0 pr0 pk0 psig0 r))
  unfold f_law07_SignTags at h
  refine Ab.seq ?_
  refine Ab.regT hE hC hL [] { keep := [0, 2, 5, 7], ren := [(5, 5), (7, 7)] } ⟨[(0, (.t ((eS 32 (eA 1 (T.int .u8))) pkeys0))), (2, (.t (.int .u64 pk0))), (5, (.ref 5 [] (0))), (7, (.ref 7 [] (0)))], [(5, (.var false 25 (.t ((eA 1 (T.int .u8)) pr0)))), (7, (.var false 25 (.t ((eA 1 (T.int .u8)) psig0))))]⟩ [] (by kernel_rfl) trivial ?_
  refine Nxt_norm ?_
  refine Ab.seq ?_
  refine Ab.seq ?_
  obtain ⟨r0, hr0, h⟩ := bind_some h
  refine Ab.regT hE hC hL [[.r [.tree (.bool r0)] []]] { keep := [0, 2, 5, 7, 17], ren := [(5, 5), (7, 7)] } ⟨[(0, (.t ((eS 32 (eA 1 (T.int .u8))) pkeys0))), (2, (.t (.int .u64 pk0))), (5, (.ref 5 [] (0))), (7, (.ref 7 [] (0))), (17, (.t (.bool (!r0))))], [(5, (.var false 25 (.t ((eA 1 (T.int .u8)) pr0)))), (7, (.var false 25 (.t ((eA 1 (T.int .u8)) psig0))))]⟩ [(sp_law07_Awake n).fn [] = some ([.tree (.bool r0)], [])] (by kernel_rfl) ⟨(ap_law07_Awake n (by exact trivial) hr0), trivial⟩ ?_
  refine Nxt_norm ?_
  refine Ab.cond (b := (!r0)) (by kernel_rfl) (fun hb0 => ?_) (fun hb0 => ?_)
  · replace h := cond_t hb0 h
    refine Ab.seq ?_
    refine Ab.regT hE hC hL [] { keep := [8], ren := [] } ⟨[(8, (.t (.bool false)))], []⟩ [] (by kernel_rfl) trivial ?_
    refine Nxt_norm ?_
    refine Ab.ret ?_
    refine Nxt_ret ?_
    obtain rfl := Option.some.inj h
    exact End_ret (doneO_ok (md := [false]) (by kernel_rfl))
  · replace h := cond_f hb0 h
    refine Ab.skip ?_
    refine Nxt_norm ?_
    refine Ab.seq ?_
    refine Ab.seq ?_
    refine Ab.regT hE hC hL [[], [.n (pkeys0.length : Int)]] { keep := [0, 2, 5, 7, 20], ren := [(5, 5), (7, 7)] } ⟨[(0, (.t ((eS 32 (eA 1 (T.int .u8))) pkeys0))), (2, (.t (.int .u64 pk0))), (5, (.ref 5 [] (0))), (7, (.ref 7 [] (0))), (20, (.t (.bool (decide ((pkeys0.length : Int) > (40:Int))))))], [(5, (.var false 25 (.t ((eA 1 (T.int .u8)) pr0)))), (7, (.var false 25 (.t ((eA 1 (T.int .u8)) psig0))))]⟩ [((List.length (List.map (eA 1 (T.int .u8)) pkeys0) : Nat) : Int) = (pkeys0.length : Int)] (by kernel_rfl) ⟨(len_of rfl), trivial⟩ ?_
    refine Nxt_norm ?_
    refine Ab.cond (b := (decide ((pkeys0.length : Int) > (40:Int)))) (by kernel_rfl) (fun hb1 => ?_) (fun hb1 => ?_)
    · replace h := cond_t hb1 h
      refine Ab.seq ?_
      refine Ab.regT hE hC hL [] { keep := [8], ren := [] } ⟨[(8, (.t (.bool true)))], []⟩ [] (by kernel_rfl) trivial ?_
      refine Nxt_norm ?_
      refine Ab.ret ?_
      refine Nxt_ret ?_
      obtain rfl := Option.some.inj h
      exact End_ret (doneO_ok (md := [false]) (by kernel_rfl))
    · replace h := cond_f hb1 h
      refine Ab.skip ?_
      refine Nxt_norm ?_
      refine Ab.seq ?_
      obtain ⟨hq0, h⟩ := ask_dec h
      refine Ab.regT hE hC hL [[], [], [.l (List.map (eA 1 (T.int .u8)) (([] : List (Arr 32 Int)) ++ pkeys0))]] { keep := [0, 2, 5, 7, 9], ren := [(5, 5), (7, 7), (23, 23)] } ⟨[(0, (.t ((eS 32 (eA 1 (T.int .u8))) pkeys0))), (2, (.t (.int .u64 pk0))), (5, (.ref 5 [] (0))), (7, (.ref 7 [] (0))), (9, (.own 23))], [(5, (.var false 25 (.t ((eA 1 (T.int .u8)) pr0)))), (7, (.var false 25 (.t ((eA 1 (T.int .u8)) psig0)))), (23, (.row false 25 32 (List.map (eA 1 (T.int .u8)) (([] : List (Arr 32 Int)) ++ pkeys0))))]⟩ [(List.length (List.map (eA 1 (T.int .u8)) ([] : List (Arr 32 Int))) + List.length (List.map (eA 1 (T.int .u8)) pkeys0)) * 32 ≤ maxBytes, List.length (List.map (eA 1 (T.int .u8)) ([] : List (Arr 32 Int))) + List.length (List.map (eA 1 (T.int .u8)) pkeys0) ≤ maxBytes, (List.map (eA 1 (T.int .u8)) ([] : List (Arr 32 Int))) ++ (List.map (eA 1 (T.int .u8)) pkeys0) = List.map (eA 1 (T.int .u8)) (([] : List (Arr 32 Int)) ++ pkeys0)] (by kernel_rfl) ⟨(app_b rfl rfl hq0), (app_c rfl rfl (by decide) hq0), (app_of rfl rfl), trivial⟩ ?_
      refine Nxt_norm ?_
      refine Ab.seq ?_
      obtain ⟨r1, hr1, h⟩ := bind_some h
      refine Ab.regT hE hC hL [[], [], [.r [.tree ((eA 1 (T.int .u8)) r1)] []]] { keep := [0, 2, 5, 7, 9, 10], ren := [(5, 5), (7, 7), (10, 10), (23, 23)] } ⟨[(0, (.t ((eS 32 (eA 1 (T.int .u8))) pkeys0))), (2, (.t (.int .u64 pk0))), (5, (.ref 5 [] (0))), (7, (.ref 7 [] (0))), (9, (.own 23)), (10, (.ref 10 [] (0)))], [(5, (.var false 25 (.t ((eA 1 (T.int .u8)) pr0)))), (7, (.var false 25 (.t ((eA 1 (T.int .u8)) psig0)))), (10, (.var false 25 (.t ((eA 1 (T.int .u8)) r1)))), (23, (.row false 25 32 (List.map (eA 1 (T.int .u8)) (([] : List (Arr 32 Int)) ++ pkeys0))))]⟩ [(sp_sign_Message n).fn [((eA 1 (T.int .u8)) pr0), (.int .u64 pk0)] = some ([.tree ((eA 1 (T.int .u8)) r1)], [])] (by kernel_rfl) ⟨(ap_sign_Message n (by exact ⟨leT.refl _, leT.refl _, trivial⟩) hr1), trivial⟩ ?_
      refine Nxt_norm ?_
      refine Ab.seq ?_
      refine Ab.seq ?_
      obtain ⟨r2, hr2, h⟩ := bind_some h
      rcases Bool.eq_false_or_eq_true (!(decide (r1 = r2))) with hb2 | hb2
      · replace h := cond_t hb2 h
        refine Ab.regA hE hC hL [[], [], [], [.r [.tree ((eA 1 (T.int .u8)) r2)] []], [.b (!(decide (r1 = r2)))], [.b true]] { keep := [0, 7, 9, 10, 38], ren := [(7, 7), (10, 10), (23, 23)] } ⟨[(0, (.t ((eS 32 (eA 1 (T.int .u8))) pkeys0))), (7, (.ref 7 [] (0))), (9, (.own 23)), (10, (.ref 10 [] (0))), (38, (.t (.bool true)))], [(7, (.var false 25 (.t ((eA 1 (T.int .u8)) psig0)))), (10, (.var false 25 (.t ((eA 1 (T.int .u8)) r1)))), (23, (.row false 25 32 (List.map (eA 1 (T.int .u8)) (([] : List (Arr 32 Int)) ++ pkeys0))))]⟩ [(sp_ref07_Message n).fn [((eA 1 (T.int .u8)) pr0), (.int .u64 pk0)] = some ([.tree ((eA 1 (T.int .u8)) r2)], []), binOp (E_law07_SignTags n) .neq 25 (.t ((eA 1 (T.int .u8)) r1)) (.t ((eA 1 (T.int .u8)) r2)) = some (.bool (!(decide (r1 = r2)))), (!(decide (r1 = r2))) = true] (by kernel_rfl) (by kernel_rfl) ⟨(ap_ref07_Message n (by exact ⟨leT.refl _, leT.refl _, trivial⟩) hr2), (bneq_25 _ rfl _ _), hb2, trivial⟩ ?_
        refine Nxt_norm ?_
        refine Ab.cond (b := true) (by kernel_rfl) (fun _ => ?_) (fun hb => Bool.noConfusion hb)
        refine Ab.seq ?_
        refine Ab.regT hE hC hL [] { keep := [8], ren := [] } ⟨[(8, (.t (.bool false)))], []⟩ [] (by kernel_rfl) trivial ?_
        refine Nxt_norm ?_
        refine Ab.ret ?_
        refine Nxt_ret ?_
        obtain rfl := Option.some.inj h
        exact End_ret (doneO_ok (md := [false]) (by kernel_rfl))
      · replace h := cond_f hb2 h
        obtain ⟨r3, hr3, h⟩ := bind_some h
        obtain ⟨r4, hr4, h⟩ := bind_some h
        refine Ab.regA hE hC hL [[], [], [], [.r [.tree ((eA 1 (T.int .u8)) r2)] []], [.b (!(decide (r1 = r2)))], [.b false], [], [.r [.tree ((eA 1 (T.int .u8)) r3)] []], [], [.r [.tree ((eA 1 (T.int .u8)) r4)] []], [.b (!(decide (r3 = r4)))]] { keep := [0, 7, 9, 10, 38], ren := [(7, 7), (10, 10), (23, 23)] } ⟨[(0, (.t ((eS 32 (eA 1 (T.int .u8))) pkeys0))), (7, (.ref 7 [] (0))), (9, (.own 23)), (10, (.ref 10 [] (0))), (38, (.t (.bool (!(decide (r3 = r4))))))], [(7, (.var false 25 (.t ((eA 1 (T.int .u8)) psig0)))), (10, (.var false 25 (.t ((eA 1 (T.int .u8)) r1)))), (23, (.row false 25 32 (List.map (eA 1 (T.int .u8)) (([] : List (Arr 32 Int)) ++ pkeys0))))]⟩ [(sp_ref07_Message n).fn [((eA 1 (T.int .u8)) pr0), (.int .u64 pk0)] = some ([.tree ((eA 1 (T.int .u8)) r2)], []), binOp (E_law07_SignTags n) .neq 25 (.t ((eA 1 (T.int .u8)) r1)) (.t ((eA 1 (T.int .u8)) r2)) = some (.bool (!(decide (r1 = r2)))), (!(decide (r1 = r2))) = false, (sp_sign_Join n).fn [(.slc 32 (List.map (eA 1 (T.int .u8)) (([] : List (Arr 32 Int)) ++ pkeys0)))] = some ([.tree ((eA 1 (T.int .u8)) r3)], []), (sp_ref07_Join n).fn [((eS 32 (eA 1 (T.int .u8))) pkeys0)] = some ([.tree ((eA 1 (T.int .u8)) r4)], []), binOp (E_law07_SignTags n) .neq 25 (.t ((eA 1 (T.int .u8)) r3)) (.t ((eA 1 (T.int .u8)) r4)) = some (.bool (!(decide (r3 = r4))))] (by kernel_rfl) (by kernel_rfl) ⟨(ap_ref07_Message n (by exact ⟨leT.refl _, leT.refl _, trivial⟩) hr2), (bneq_25 _ rfl _ _), hb2, (ap_sign_Join n (by exact ⟨leT.refl _, trivial⟩) hr3), (ap_ref07_Join n (by exact ⟨leT.refl _, trivial⟩) hr4), (bneq_25 _ rfl _ _), trivial⟩ ?_
        refine Nxt_norm ?_
        refine Ab.cond (b := (!(decide (r3 = r4)))) (by kernel_rfl) (fun hb3 => ?_) (fun hb3 => ?_)
        · replace h := cond_t hb3 h
          refine Ab.seq ?_
          refine Ab.regT hE hC hL [] { keep := [8], ren := [] } ⟨[(8, (.t (.bool false)))], []⟩ [] (by kernel_rfl) trivial ?_
          refine Nxt_norm ?_
          refine Ab.ret ?_
          refine Nxt_ret ?_
          obtain rfl := Option.some.inj h
          exact End_ret (doneO_ok (md := [false]) (by kernel_rfl))
        · replace h := cond_f hb3 h
          refine Ab.skip ?_
          refine Nxt_norm ?_
          refine Ab.seq ?_
          refine Ab.regT hE hC hL [] { keep := [0, 7, 9, 10, 11], ren := [(7, 7), (10, 10), (23, 23)] } ⟨[(0, (.t ((eS 32 (eA 1 (T.int .u8))) pkeys0))), (7, (.ref 7 [] (0))), (9, (.own 23)), (10, (.ref 10 [] (0))), (11, (.t .nils))], [(7, (.var false 25 (.t ((eA 1 (T.int .u8)) psig0)))), (10, (.var false 25 (.t ((eA 1 (T.int .u8)) r1)))), (23, (.row false 25 32 (List.map (eA 1 (T.int .u8)) (([] : List (Arr 32 Int)) ++ pkeys0))))]⟩ [] (by kernel_rfl) trivial ?_
          refine Nxt_norm ?_
          refine Ab.seq ?_
          refine Ab.seq ?_
          refine Ab.regT hE hC hL [[], [.n ((([] : List (Arr 32 Int)) ++ pkeys0).length : Int)]] { keep := [0, 7, 9, 10, 11, 39, 40, 41], ren := [(7, 7), (10, 10), (23, 23)] } ⟨[(0, (.t ((eS 32 (eA 1 (T.int .u8))) pkeys0))), (7, (.ref 7 [] (0))), (9, (.own 23)), (10, (.ref 10 [] (0))), (11, (.t .nils)), (39, (.own 23)), (40, (.t (.int .i64 ((([] : List (Arr 32 Int)) ++ pkeys0).length : Int)))), (41, (.t (.int .i64 (0:Int))))], [(7, (.var false 25 (.t ((eA 1 (T.int .u8)) psig0)))), (10, (.var false 25 (.t ((eA 1 (T.int .u8)) r1)))), (23, (.row false 25 32 (List.map (eA 1 (T.int .u8)) (([] : List (Arr 32 Int)) ++ pkeys0))))]⟩ [((List.length (List.map (eA 1 (T.int .u8)) (([] : List (Arr 32 Int)) ++ pkeys0)) : Nat) : Int) = ((([] : List (Arr 32 Int)) ++ pkeys0).length : Int)] (by kernel_rfl) ⟨(len_of rfl), trivial⟩ ?_
          refine Nxt_norm ?_
          obtain ⟨x0, hx0, h⟩ := bind_some h
          refine Ab.loopR0 (fun ((a0, a1) : ((List (Arr 32 Int)) × Int)) => (⟨[(0, (.t ((eS 32 (eA 1 (T.int .u8))) pkeys0))), (7, (.ref 49000 [] (0))), (9, (.own 49001)), (10, (.ref 49002 [] (0))), (11, (.own 49003)), (39, (.own 49001)), (40, (.t (.int .i64 ((([] : List (Arr 32 Int)) ++ pkeys0).length : Int)))), (41, (.t (.int .i64 a1)))], [(49000, (.var false 25 (.t ((eA 1 (T.int .u8)) psig0)))), (49001, (.row false 25 32 (List.map (eA 1 (T.int .u8)) (([] : List (Arr 32 Int)) ++ pkeys0)))), (49002, (.var false 25 (.t ((eA 1 (T.int .u8)) r1)))), (49003, (.row false 25 32 (List.map (eA 1 (T.int .u8)) a0)))]⟩ : St)) (fun (a2 : (List (Arr 32 Int))) => (⟨[(0, (.t ((eS 32 (eA 1 (T.int .u8))) pkeys0))), (7, (.ref 49000 [] (0))), (9, (.own 49001)), (10, (.ref 49002 [] (0))), (11, (.own 49003))], [(49000, (.var false 25 (.t ((eA 1 (T.int .u8)) psig0)))), (49001, (.row false 25 32 (List.map (eA 1 (T.int .u8)) (([] : List (Arr 32 Int)) ++ pkeys0)))), (49002, (.var false 25 (.t ((eA 1 (T.int .u8)) r1)))), (49003, (.row false 25 32 (List.map (eA 1 (T.int .u8)) a2)))]⟩ : St)) (fun r9 => K_law07_SignTags n pkeys0 pr0 pk0 psig0 r9) { fs := [⟨(.t 11), [], .own 48000 25 32⟩], keep := [0, 7, 9, 10, 11, 39, 40, 41], ren := [(7, 49000), (23, 49001), (10, 49002), (48000, 49003)] } (([] : List (Arr 32 Int)), (0:Int)) hC hL hx0 (by kernel_rfl) ?_ (fun r9 s9 e hs => ?_) (fun x1 e => ?_)
          · rintro ⟨a0, a1⟩ o0 h
            replace h : f_law07_SignTags_b0 n pkeys0 r1 a0 a1 = some o0 := h
            unfold f_law07_SignTags_b0 at h
            refine Ab.seq ?_
            refine Ab.regT hE hC hL [] { keep := [0, 7, 9, 10, 11, 39, 40, 41, 42], ren := [(49000, 49000), (49001, 49001), (49002, 49002), (49003, 49003)] } ⟨[(0, (.t ((eS 32 (eA 1 (T.int .u8))) pkeys0))), (7, (.ref 49000 [] (0))), (9, (.own 49001)), (10, (.ref 49002 [] (0))), (11, (.own 49003)), (39, (.own 49001)), (40, (.t (.int .i64 ((([] : List (Arr 32 Int)) ++ pkeys0).length : Int)))), (41, (.t (.int .i64 a1))), (42, (.t (.bool (decide (a1 < ((([] : List (Arr 32 Int)) ++ pkeys0).length : Int))))))], [(49000, (.var false 25 (.t ((eA 1 (T.int .u8)) psig0)))), (49001, (.row false 25 32 (List.map (eA 1 (T.int .u8)) (([] : List (Arr 32 Int)) ++ pkeys0)))), (49002, (.var false 25 (.t ((eA 1 (T.int .u8)) r1)))), (49003, (.row false 25 32 (List.map (eA 1 (T.int .u8)) a0)))]⟩ [] (by kernel_rfl) trivial ?_
            refine Nxt_norm ?_
            refine Ab.seq ?_
            refine Ab.cond (b := (decide (a1 < ((([] : List (Arr 32 Int)) ++ pkeys0).length : Int)))) (by kernel_rfl) (fun hb4 => ?_) (fun hb4 => ?_)
            · replace h := cond_t hb4 h
              refine Ab.skip ?_
              refine Nxt_norm ?_
              refine Ab.seq ?_
              refine Ab.block ?_
              refine Ab.seq ?_
              obtain ⟨hq1, h⟩ := ask_dec h
              obtain ⟨hq2, h⟩ := ask_dec h
              obtain ⟨v0, hv0, h⟩ := bind_some h
              refine Ab.regT hE hC hL [[], [.c], [.t ((eA 1 (T.int .u8)) v0)]] { keep := [0, 7, 9, 10, 11, 12, 13, 39, 40, 41], ren := [(13, 13), (49000, 49000), (49001, 49001), (49002, 49002), (49003, 49003)] } ⟨[(0, (.t ((eS 32 (eA 1 (T.int .u8))) pkeys0))), (7, (.ref 49000 [] (0))), (9, (.own 49001)), (10, (.ref 49002 [] (0))), (11, (.own 49003)), (12, (.t (.int .i64 a1))), (13, (.ref 13 [] (0))), (39, (.own 49001)), (40, (.t (.int .i64 ((([] : List (Arr 32 Int)) ++ pkeys0).length : Int)))), (41, (.t (.int .i64 a1)))], [(13, (.var false 25 (.t ((eA 1 (T.int .u8)) v0)))), (49000, (.var false 25 (.t ((eA 1 (T.int .u8)) psig0)))), (49001, (.row false 25 32 (List.map (eA 1 (T.int .u8)) (([] : List (Arr 32 Int)) ++ pkeys0)))), (49002, (.var false 25 (.t ((eA 1 (T.int .u8)) r1)))), (49003, (.row false 25 32 (List.map (eA 1 (T.int .u8)) a0)))]⟩ [0 ≤ a1, a1.toNat < List.length (List.map (eA 1 (T.int .u8)) (([] : List (Arr 32 Int)) ++ pkeys0)), a1.toNat * 32 + 0 = a1.toNat * 32, (List.map (eA 1 (T.int .u8)) (([] : List (Arr 32 Int)) ++ pkeys0))[a1.toNat]? = some ((eA 1 (T.int .u8)) v0)] (by kernel_rfl) ⟨hq1, (by rw [List.length_map]; exact hq2), (by omega), (at_map hv0), trivial⟩ ?_
              refine Nxt_norm ?_
              refine Ab.seq ?_
              obtain ⟨r5, hr5, h⟩ := bind_some h
              refine Ab.regT hE hC hL [[], [], [.r [.tree ((eA 1 (T.int .u8)) r5)] []]] { keep := [0, 7, 9, 10, 11, 12, 14, 39, 40, 41], ren := [(14, 14), (49000, 49000), (49001, 49001), (49002, 49002), (49003, 49003)] } ⟨[(0, (.t ((eS 32 (eA 1 (T.int .u8))) pkeys0))), (7, (.ref 49000 [] (0))), (9, (.own 49001)), (10, (.ref 49002 [] (0))), (11, (.own 49003)), (12, (.t (.int .i64 a1))), (14, (.ref 14 [] (0))), (39, (.own 49001)), (40, (.t (.int .i64 ((([] : List (Arr 32 Int)) ++ pkeys0).length : Int)))), (41, (.t (.int .i64 a1)))], [(14, (.var false 25 (.t ((eA 1 (T.int .u8)) r5)))), (49000, (.var false 25 (.t ((eA 1 (T.int .u8)) psig0)))), (49001, (.row false 25 32 (List.map (eA 1 (T.int .u8)) (([] : List (Arr 32 Int)) ++ pkeys0)))), (49002, (.var false 25 (.t ((eA 1 (T.int .u8)) r1)))), (49003, (.row false 25 32 (List.map (eA 1 (T.int .u8)) a0)))]⟩ [(sp_sign_Tag n).fn [((eA 1 (T.int .u8)) v0), ((eA 1 (T.int .u8)) r1)] = some ([.tree ((eA 1 (T.int .u8)) r5)], [])] (by kernel_rfl) ⟨(ap_sign_Tag n (by exact ⟨leT.refl _, leT.refl _, trivial⟩) hr5), trivial⟩ ?_
              refine Nxt_norm ?_
              refine Ab.seq ?_
              refine Ab.seq ?_
              obtain ⟨v1, hv1, h⟩ := bind_some h
              obtain ⟨r6, hr6, h⟩ := bind_some h
              refine Ab.regA hE hC hL [[], [], [], [.t ((eA 1 (T.int .u8)) v1)], [], [], [.r [.tree ((eA 1 (T.int .u8)) r6)] []], [.b (!(decide (r5 = r6)))]] { keep := [0, 7, 9, 10, 11, 14, 39, 40, 41, 56], ren := [(14, 14), (49000, 49000), (49001, 49001), (49002, 49002), (49003, 49003)] } ⟨[(0, (.t ((eS 32 (eA 1 (T.int .u8))) pkeys0))), (7, (.ref 49000 [] (0))), (9, (.own 49001)), (10, (.ref 49002 [] (0))), (11, (.own 49003)), (14, (.ref 14 [] (0))), (39, (.own 49001)), (40, (.t (.int .i64 ((([] : List (Arr 32 Int)) ++ pkeys0).length : Int)))), (41, (.t (.int .i64 a1))), (56, (.t (.bool (!(decide (r5 = r6))))))], [(14, (.var false 25 (.t ((eA 1 (T.int .u8)) r5)))), (49000, (.var false 25 (.t ((eA 1 (T.int .u8)) psig0)))), (49001, (.row false 25 32 (List.map (eA 1 (T.int .u8)) (([] : List (Arr 32 Int)) ++ pkeys0)))), (49002, (.var false 25 (.t ((eA 1 (T.int .u8)) r1)))), (49003, (.row false 25 32 (List.map (eA 1 (T.int .u8)) a0)))]⟩ [0 ≤ a1, (List.map (eA 1 (T.int .u8)) pkeys0)[a1.toNat]? = some ((eA 1 (T.int .u8)) v1), (sp_ref07_Tag n).fn [((eA 1 (T.int .u8)) v1), ((eA 1 (T.int .u8)) r1)] = some ([.tree ((eA 1 (T.int .u8)) r6)], []), binOp (E_law07_SignTags n) .neq 25 (.t ((eA 1 (T.int .u8)) r5)) (.t ((eA 1 (T.int .u8)) r6)) = some (.bool (!(decide (r5 = r6))))] (by kernel_rfl) (by kernel_rfl) ⟨hq1, (at_map hv1), (ap_ref07_Tag n (by exact ⟨leT.refl _, leT.refl _, trivial⟩) hr6), (bneq_25 _ rfl _ _), trivial⟩ ?_
              refine Nxt_norm ?_
              refine Ab.cond (b := (!(decide (r5 = r6)))) (by kernel_rfl) (fun hb5 => ?_) (fun hb5 => ?_)
              · replace h := cond_t hb5 h
                refine Ab.seq ?_
                refine Ab.regT hE hC hL [] { keep := [8], ren := [] } ⟨[(8, (.t (.bool false)))], []⟩ [] (by kernel_rfl) trivial ?_
                refine Nxt_norm ?_
                refine Ab.ret ?_
                refine Nxt_ret ?_
                refine Blk_ret ?_
                refine Nxt_ret ?_
                exact LK_ret (.inl false) h (PR_ret (doneO_ok (md := [false]) (by kernel_rfl)))
              · replace h := cond_f hb5 h
                refine Ab.skip ?_
                refine Nxt_norm ?_
                obtain ⟨hq3, h⟩ := ask_dec h
                refine Ab.regT hE hC hL [[], [], [], [.l (List.map (eA 1 (T.int .u8)) (a0 ++ ([r5] : List (Arr 32 Int))))]] { keep := [0, 7, 9, 10, 11, 39, 40, 41], ren := [(60, 60), (49000, 49000), (49001, 49001), (49002, 49002)] } ⟨[(0, (.t ((eS 32 (eA 1 (T.int .u8))) pkeys0))), (7, (.ref 49000 [] (0))), (9, (.own 49001)), (10, (.ref 49002 [] (0))), (11, (.own 60)), (39, (.own 49001)), (40, (.t (.int .i64 ((([] : List (Arr 32 Int)) ++ pkeys0).length : Int)))), (41, (.t (.int .i64 a1)))], [(60, (.row false 25 32 (List.map (eA 1 (T.int .u8)) (a0 ++ ([r5] : List (Arr 32 Int)))))), (49000, (.var false 25 (.t ((eA 1 (T.int .u8)) psig0)))), (49001, (.row false 25 32 (List.map (eA 1 (T.int .u8)) (([] : List (Arr 32 Int)) ++ pkeys0)))), (49002, (.var false 25 (.t ((eA 1 (T.int .u8)) r1))))]⟩ [(List.length (List.map (eA 1 (T.int .u8)) a0) + List.length (List.map (eA 1 (T.int .u8)) ([r5] : List (Arr 32 Int)))) * 32 ≤ maxBytes, List.length (List.map (eA 1 (T.int .u8)) a0) + List.length (List.map (eA 1 (T.int .u8)) ([r5] : List (Arr 32 Int))) ≤ maxBytes, (List.map (eA 1 (T.int .u8)) a0) ++ (List.map (eA 1 (T.int .u8)) ([r5] : List (Arr 32 Int))) = List.map (eA 1 (T.int .u8)) (a0 ++ ([r5] : List (Arr 32 Int)))] (by kernel_rfl) ⟨(app_b rfl rfl hq3), (app_c rfl rfl (by decide) hq3), (app_of rfl rfl), trivial⟩ ?_
                refine Blk_norm ?_
                refine Nxt_norm ?_
                refine Ab.regT hE hC hL [] { keep := [0, 7, 9, 10, 11, 39, 40, 41], ren := [(60, 60), (49000, 49000), (49001, 49001), (49002, 49002)] } ⟨[(0, (.t ((eS 32 (eA 1 (T.int .u8))) pkeys0))), (7, (.ref 49000 [] (0))), (9, (.own 49001)), (10, (.ref 49002 [] (0))), (11, (.own 60)), (39, (.own 49001)), (40, (.t (.int .i64 ((([] : List (Arr 32 Int)) ++ pkeys0).length : Int)))), (41, (.t (.int .i64 (wi (a1 + (1:Int))))))], [(60, (.row false 25 32 (List.map (eA 1 (T.int .u8)) (a0 ++ ([r5] : List (Arr 32 Int)))))), (49000, (.var false 25 (.t ((eA 1 (T.int .u8)) psig0)))), (49001, (.row false 25 32 (List.map (eA 1 (T.int .u8)) (([] : List (Arr 32 Int)) ++ pkeys0)))), (49002, (.var false 25 (.t ((eA 1 (T.int .u8)) r1))))]⟩ [] (by kernel_rfl) trivial ?_
                exact LK_norm ((a0 ++ ([r5] : List (Arr 32 Int))), (wi (a1 + (1:Int)))) { fs := [], keep := [0, 7, 9, 10, 11, 39, 40, 41], ren := [(49000, 49000), (49001, 49001), (49002, 49002), (60, 49003)] } h (by kernel_rfl)
            · replace h := cond_f hb4 h
              refine Ab.exit ?_
              refine Nxt_exit ?_
              exact LK_exit (.inr a0) h (PR_mk { fs := [], keep := [0, 7, 9, 10, 11], ren := [(49000, 49000), (49001, 49001), (49002, 49002), (49003, 49003)] } (by kernel_rfl))
          · subst e
            replace h := elim_l h
            refine Nxt_ret ?_
            obtain rfl := Option.some.inj h
            exact End_ret hs
          · subst e
            replace h := elim_r h
            refine Nxt_norm ?_
            refine Ab.seq ?_
            obtain ⟨r7, hr7, h⟩ := bind_some h
            refine Ab.regT hE hC hL [[], [.r [.tree ((eA 1 (T.int .u8)) r7)] []]] { keep := [0, 7, 9, 10, 15], ren := [(15, 15), (49000, 49000), (49001, 49001), (49002, 49002)] } ⟨[(0, (.t ((eS 32 (eA 1 (T.int .u8))) pkeys0))), (7, (.ref 49000 [] (0))), (9, (.own 49001)), (10, (.ref 49002 [] (0))), (15, (.ref 15 [] (0)))], [(15, (.var false 25 (.t ((eA 1 (T.int .u8)) r7)))), (49000, (.var false 25 (.t ((eA 1 (T.int .u8)) psig0)))), (49001, (.row false 25 32 (List.map (eA 1 (T.int .u8)) (([] : List (Arr 32 Int)) ++ pkeys0)))), (49002, (.var false 25 (.t ((eA 1 (T.int .u8)) r1))))]⟩ [(sp_sign_Join n).fn [(.slc 32 (List.map (eA 1 (T.int .u8)) x1))] = some ([.tree ((eA 1 (T.int .u8)) r7)], [])] (by kernel_rfl) ⟨(ap_sign_Join n (by exact ⟨leT.refl _, trivial⟩) hr7), trivial⟩ ?_
            refine Nxt_norm ?_
            refine Ab.seq ?_
            obtain ⟨r8, hr8, h⟩ := bind_some h
            rcases Bool.eq_false_or_eq_true (r8 == (decide ((pkeys0.length : Int) > (0:Int)))) with hb6 | hb6
            · replace h := cond_t hb6 h
              obtain ⟨r9, hr9, h⟩ := bind_some h
              rcases Bool.eq_false_or_eq_true (decide ((pkeys0.length : Int) > (0:Int))) with hb7 | hb7
              · replace h := cond_t hb7 h
                refine Ab.regT hE hC hL [[], [], [], [.r [.tree (.bool r8)] []], [], [.n (pkeys0.length : Int)], [], [], [.b true], [], [], [], [.r [.tree (.bool r9)] []], [], [.n (pkeys0.length : Int)], [], [.b true], [], [], [.b (decide (psig0 = r7))]] { keep := [8], ren := [] } ⟨[(8, (.t (.bool (r9 == (decide (psig0 = r7))))))], []⟩ [(sp_sign_Valid n).fn [(.slc 32 (List.map (eA 1 (T.int .u8)) (([] : List (Arr 32 Int)) ++ pkeys0))), ((eA 1 (T.int .u8)) r1), ((eA 1 (T.int .u8)) r7)] = some ([.tree (.bool r8)], []), ((List.length (List.map (eA 1 (T.int .u8)) pkeys0) : Nat) : Int) = (pkeys0.length : Int), (r8 == (decide ((pkeys0.length : Int) > (0:Int)))) = true, (sp_sign_Valid n).fn [(.slc 32 (List.map (eA 1 (T.int .u8)) (([] : List (Arr 32 Int)) ++ pkeys0))), ((eA 1 (T.int .u8)) r1), ((eA 1 (T.int .u8)) psig0)] = some ([.tree (.bool r9)], []), ((List.length (List.map (eA 1 (T.int .u8)) pkeys0) : Nat) : Int) = (pkeys0.length : Int), (decide ((pkeys0.length : Int) > (0:Int))) = true, binOp (E_law07_SignTags n) .eql 25 (.t ((eA 1 (T.int .u8)) psig0)) (.t ((eA 1 (T.int .u8)) r7)) = some (.bool (decide (psig0 = r7)))] (by kernel_rfl) ⟨(ap_sign_Valid n (by exact ⟨leT.refl _, leT.refl _, leT.refl _, trivial⟩) hr8), (len_of rfl), hb6, (ap_sign_Valid n (by exact ⟨leT.refl _, leT.refl _, leT.refl _, trivial⟩) hr9), (len_of rfl), hb7, (beql_25 _ rfl _ _), trivial⟩ ?_
                refine Nxt_norm ?_
                refine Ab.ret ?_
                obtain rfl := Option.some.inj h
                exact End_ret (doneO_ok (md := [false]) (by kernel_rfl))
              · replace h := cond_f hb7 h
                refine Ab.regT hE hC hL [[], [], [], [.r [.tree (.bool r8)] []], [], [.n (pkeys0.length : Int)], [], [], [.b true], [], [], [], [.r [.tree (.bool r9)] []], [], [.n (pkeys0.length : Int)], [], [.b false]] { keep := [8], ren := [] } ⟨[(8, (.t (.bool (r9 == false))))], []⟩ [(sp_sign_Valid n).fn [(.slc 32 (List.map (eA 1 (T.int .u8)) (([] : List (Arr 32 Int)) ++ pkeys0))), ((eA 1 (T.int .u8)) r1), ((eA 1 (T.int .u8)) r7)] = some ([.tree (.bool r8)], []), ((List.length (List.map (eA 1 (T.int .u8)) pkeys0) : Nat) : Int) = (pkeys0.length : Int), (r8 == (decide ((pkeys0.length : Int) > (0:Int)))) = true, (sp_sign_Valid n).fn [(.slc 32 (List.map (eA 1 (T.int .u8)) (([] : List (Arr 32 Int)) ++ pkeys0))), ((eA 1 (T.int .u8)) r1), ((eA 1 (T.int .u8)) psig0)] = some ([.tree (.bool r9)], []), ((List.length (List.map (eA 1 (T.int .u8)) pkeys0) : Nat) : Int) = (pkeys0.length : Int), (decide ((pkeys0.length : Int) > (0:Int))) = false] (by kernel_rfl) ⟨(ap_sign_Valid n (by exact ⟨leT.refl _, leT.refl _, leT.refl _, trivial⟩) hr8), (len_of rfl), hb6, (ap_sign_Valid n (by exact ⟨leT.refl _, leT.refl _, leT.refl _, trivial⟩) hr9), (len_of rfl), hb7, trivial⟩ ?_
                refine Nxt_norm ?_
                refine Ab.ret ?_
                obtain rfl := Option.some.inj h
                exact End_ret (doneO_ok (md := [false]) (by kernel_rfl))
            · replace h := cond_f hb6 h
              refine Ab.regT hE hC hL [[], [], [], [.r [.tree (.bool r8)] []], [], [.n (pkeys0.length : Int)], [], [], [.b false]] { keep := [8], ren := [] } ⟨[(8, (.t (.bool false)))], []⟩ [(sp_sign_Valid n).fn [(.slc 32 (List.map (eA 1 (T.int .u8)) (([] : List (Arr 32 Int)) ++ pkeys0))), ((eA 1 (T.int .u8)) r1), ((eA 1 (T.int .u8)) r7)] = some ([.tree (.bool r8)], []), ((List.length (List.map (eA 1 (T.int .u8)) pkeys0) : Nat) : Int) = (pkeys0.length : Int), (r8 == (decide ((pkeys0.length : Int) > (0:Int)))) = false] (by kernel_rfl) ⟨(ap_sign_Valid n (by exact ⟨leT.refl _, leT.refl _, leT.refl _, trivial⟩) hr8), (len_of rfl), hb6, trivial⟩ ?_
              refine Nxt_norm ?_
              refine Ab.ret ?_
              obtain rfl := Option.some.inj h
              exact End_ret (doneO_ok (md := [false]) (by kernel_rfl))
def ea_merkle_Depth (a : Int) : List T := [(T.int .i64) a]
def er_merkle_Depth (r : Int) : List RR × List T := ([.tree ((T.int .i64) r)], [])
noncomputable def sp_merkle_Depth (n : Nat) : Spec := specP [] true ea_merkle_Depth (fun a => f_merkle_Depth n a) (fun _ r => er_merkle_Depth r)
theorem ap_merkle_Depth (n : Nat) {ts : List T} {a0 : Int} {r : Int} (hle : leTs ts [(T.int .i64) a0]) (h : f_merkle_Depth n a0 = some r) : (sp_merkle_Depth n).fn ts = some ([.tree ((T.int .i64) r)], []) :=
  specP_fn (a := a0) (InjA.one (inj_int _)) hle h
noncomputable def E_merkle_Depth (n : Nat) : Env := { ty := tyT, glob := glob, fns := get [], ntmps := 15 }
theorem eok_merkle_Depth (n : Nat) : EnvOK Tryd.prog (E_merkle_Depth n) := ⟨tys_ok tys_chk, prog_mixed, fns_nil⟩
def K_merkle_Depth (n : Nat) (plimit0 : Int) (r : Int) : St → Prop := Done (E_merkle_Depth n) Tryd.f36.results.toList [] (ea_merkle_Depth plimit0) (er_merkle_Depth r).1 (er_merkle_Depth r).2
set_option maxRecDepth 100000 in
set_option maxHeartbeats 4000000 in
theorem ok_merkle_Depth (n : Nat) : SpecOK Tryd.prog glob 36 (sp_merkle_Depth n) := by
  refine specP_ok (fn := Tryd.f36) (eok_merkle_Depth n) (by kernel_rfl) rfl (by decide +kernel) (by kernel_rfl) (fun _ => by show 1 ≤ 15; omega) (fun _ _ r => ⟨(rrf_tree ((fun _ => rfl) _) rrf_nil), flats_nil⟩) ?_
  rintro plimit0 r h C hL hC
  have hE := eok_merkle_Depth n
  replace hL : ∀ n g, (n, g) ∈ C.lent → n ∈ ([] : List Nat) := hL
  replace h : f_merkle_Depth n plimit0 = some r := h
  show Ab _ _ _ _ _ (End (K_merkle_Depth n plimit0 r))
  unfold f_merkle_Depth at h
  refine Ab.seq ?_
  refine Ab.regT hE hC hL [] { keep := [0], ren := [] } ⟨[(0, (.t (.int .i64 plimit0)))], []⟩ [] (by kernel_rfl) trivial ?_
  refine Nxt_norm ?_
  refine Ab.seq ?_
  refine Ab.regT hE hC hL [] { keep := [0, 3], ren := [] } ⟨[(0, (.t (.int .i64 plimit0))), (3, (.t (.int .i64 (0:Int))))], []⟩ [] (by kernel_rfl) trivial ?_
  refine Nxt_norm ?_
  obtain ⟨x0, hx0, h⟩ := bind_some h
  refine Ab.loopX (fun (a0 : Int) => (⟨[(0, (.t (.int .i64 plimit0))), (3, (.t (.int .i64 a0)))], []⟩ : St)) (fun (a1 : Int) => (⟨[(3, (.t (.int .i64 a1)))], []⟩ : St)) { fs := [], keep := [0, 3], ren := [] } (0:Int) hC hL hx0 (by kernel_rfl) ?_ ?_
  · rintro a0 o0 h
    replace h : f_merkle_Depth_b0 n plimit0 a0 = some o0 := h
    unfold f_merkle_Depth_b0 at h
    refine Ab.seq ?_
    refine Ab.seq ?_
    rcases Bool.eq_false_or_eq_true (decide (a0 < (62:Int))) with hb0 | hb0
    · replace h := cond_t hb0 h
      obtain ⟨hq0, h⟩ := ask_dec h
      refine Ab.regT hE hC hL [[], [], [.b true], [], [.c]] { keep := [0, 3, 11], ren := [] } ⟨[(0, (.t (.int .i64 plimit0))), (3, (.t (.int .i64 a0))), (11, (.t (.bool (decide ((shl .i64 (1:Int) a0) < plimit0)))))], []⟩ [(decide (a0 < (62:Int))) = true, ¬ a0 < 0] (by kernel_rfl) ⟨hb0, (Int.not_lt.2 hq0), trivial⟩ ?_
      refine Nxt_norm ?_
      refine Ab.cond (b := (decide ((shl .i64 (1:Int) a0) < plimit0))) (by kernel_rfl) (fun hb1 => ?_) (fun hb1 => ?_)
      · replace h := cond_t hb1 h
        refine Ab.skip ?_
        refine Nxt_norm ?_
        refine Ab.block ?_
        refine Ab.regT hE hC hL [] { keep := [0, 3], ren := [] } ⟨[(0, (.t (.int .i64 plimit0))), (3, (.t (.int .i64 (wi (a0 + (1:Int))))))], []⟩ [] (by kernel_rfl) trivial ?_
        refine Blk_norm ?_
        exact LK_norm (wi (a0 + (1:Int))) { fs := [], keep := [0, 3], ren := [] } h (by kernel_rfl)
      · replace h := cond_f hb1 h
        refine Ab.exit ?_
        refine Nxt_exit ?_
        exact LK_exit a0 h (PX_mk { fs := [], keep := [3], ren := [] } (by kernel_rfl))
    · replace h := cond_f hb0 h
      refine Ab.regT hE hC hL [[], [], [.b false]] { keep := [0, 3, 11], ren := [] } ⟨[(0, (.t (.int .i64 plimit0))), (3, (.t (.int .i64 a0))), (11, (.t (.bool false)))], []⟩ [(decide (a0 < (62:Int))) = false] (by kernel_rfl) ⟨hb0, trivial⟩ ?_
      refine Nxt_norm ?_
      refine Ab.cond (b := false) (by kernel_rfl) (fun hb => Bool.noConfusion hb) (fun _ => ?_)
      refine Ab.exit ?_
      refine Nxt_exit ?_
      exact LK_exit a0 h (PX_mk { fs := [], keep := [3], ren := [] } (by kernel_rfl))
  · refine Ab.seq ?_
    refine Ab.regT hE hC hL [] { keep := [2], ren := [] } ⟨[(2, (.t (.int .i64 x0)))], []⟩ [] (by kernel_rfl) trivial ?_
    refine Nxt_norm ?_
    refine Ab.ret ?_
    obtain rfl := Option.some.inj h
    exact End_ret (doneO_ok (md := [false]) (by kernel_rfl))
def ea_merkle_Tree (a : (List (Arr 32 Int)) × Int) : List T := [(eS 32 (eA 1 (T.int .u8))) a.1, (T.int .i64) a.2]
def er_merkle_Tree (r : ((Arr 32 Int) × Int)) : List RR × List T := ([.tree ((eA 1 (T.int .u8)) r.1), .tree ((T.int .i64) r.2)], [])
noncomputable def sp_merkle_Tree (n : Nat) : Spec := specP [] true ea_merkle_Tree (fun a => f_merkle_Tree n a.1 a.2) (fun _ r => er_merkle_Tree r)
theorem ap_merkle_Tree (n : Nat) {ts : List T} {a0 : (List (Arr 32 Int))} {a1 : Int} {r : ((Arr 32 Int) × Int)} (hle : leTs ts [(eS 32 (eA 1 (T.int .u8))) a0, (T.int .i64) a1]) (h : f_merkle_Tree n a0 a1 = some r) : (sp_merkle_Tree n).fn ts = some ([.tree ((eA 1 (T.int .u8)) r.1), .tree ((T.int .i64) r.2)], []) :=
  specP_fn (a := (a0, a1)) (InjA.cons (inj_eS (inj_eA (inj_int _))) (InjA.one (inj_int _))) hle h
noncomputable def E_merkle_Tree (n : Nat) : Env := { ty := tyT, glob := glob, fns := get [(16, sp_digest_Pair n), (36, sp_merkle_Depth n)], ntmps := 65 }
theorem eok_merkle_Tree (n : Nat) : EnvOK Tryd.prog (E_merkle_Tree n) := ⟨tys_ok tys_chk, prog_mixed, (fns_cons (ok_digest_Pair n) (fns_cons (ok_merkle_Depth n) fns_nil))⟩
def K_merkle_Tree (n : Nat) (pleaves0 : (List (Arr 32 Int))) (plimit0 : Int) (r : ((Arr 32 Int) × Int)) : St → Prop := Done (E_merkle_Tree n) Tryd.f29.results.toList [] (ea_merkle_Tree (pleaves0, plimit0)) (er_merkle_Tree r).1 (er_merkle_Tree r).2
set_option maxRecDepth 100000 in
set_option maxHeartbeats 4000000 in
theorem ok_merkle_Tree (n : Nat) : SpecOK Tryd.prog glob 29 (sp_merkle_Tree n) := by
  refine specP_ok (fn := Tryd.f29) (eok_merkle_Tree n) (by kernel_rfl) rfl (by decide +kernel) (by kernel_rfl) (fun _ => by show 2 ≤ 65; omega) (fun _ _ r => ⟨(rrf_tree ((flat_eA (fun _ => rfl)) _) (rrf_tree ((fun _ => rfl) _) rrf_nil)), flats_nil⟩) ?_
  rintro ⟨pleaves0, plimit0⟩ r h C hL hC
  have hE := eok_merkle_Tree n
  replace hL : ∀ n g, (n, g) ∈ C.lent → n ∈ ([] : List Nat) := hL
  replace h : f_merkle_Tree n pleaves0 plimit0 = some r := h
  show Ab _ _ _ _ _ (End (K_merkle_Tree n pleaves0 plimit0 r))
  unfold f_merkle_Tree at h
  refine Ab.seq ?_
  refine Ab.regT hE hC hL [] { keep := [0, 1, 4], ren := [(4, 4)] } ⟨[(0, (.t ((eS 32 (eA 1 (T.int .u8))) pleaves0))), (1, (.t (.int .i64 plimit0))), (4, (.ref 4 [] (0)))], [(4, (.var false 25 (.t ((eA 1 (T.int .u8)) (Arr.rep 32 (0:Int))))))]⟩ [] (by kernel_rfl) trivial ?_
  refine Nxt_norm ?_
  refine Ab.seq ?_
  refine Ab.seq ?_
  rcases Bool.eq_false_or_eq_true (decide (plimit0 < (0:Int))) with hb0 | hb0
  · replace h := cond_t hb0 h
    refine Ab.regT hE hC hL [[], [], [.b true]] { keep := [0, 1, 4, 17], ren := [(4, 4)] } ⟨[(0, (.t ((eS 32 (eA 1 (T.int .u8))) pleaves0))), (1, (.t (.int .i64 plimit0))), (4, (.ref 4 [] (0))), (17, (.t (.bool true)))], [(4, (.var false 25 (.t ((eA 1 (T.int .u8)) (Arr.rep 32 (0:Int))))))]⟩ [(decide (plimit0 < (0:Int))) = true] (by kernel_rfl) ⟨hb0, trivial⟩ ?_
    refine Nxt_norm ?_
    refine Ab.cond (b := true) (by kernel_rfl) (fun _ => ?_) (fun hb => Bool.noConfusion hb)
    refine Ab.seq ?_
    refine Ab.regT hE hC hL [] { keep := [4, 5], ren := [(4, 4)] } ⟨[(4, (.ref 4 [] (0))), (5, (.t (.int .i64 (4:Int))))], [(4, (.var false 25 (.t ((eA 1 (T.int .u8)) (Arr.rep 32 (0:Int))))))]⟩ [] (by kernel_rfl) trivial ?_
    refine Nxt_norm ?_
    refine Ab.ret ?_
    refine Nxt_ret ?_
    obtain rfl := Option.some.inj h
    exact End_ret (doneO_ok (md := [false, false]) (by kernel_rfl))
  · replace h := cond_f hb0 h
    refine Ab.regT hE hC hL [[], [], [.b false], [], [.n (pleaves0.length : Int)]] { keep := [0, 1, 4, 17], ren := [(4, 4)] } ⟨[(0, (.t ((eS 32 (eA 1 (T.int .u8))) pleaves0))), (1, (.t (.int .i64 plimit0))), (4, (.ref 4 [] (0))), (17, (.t (.bool (decide ((pleaves0.length : Int) > plimit0)))))], [(4, (.var false 25 (.t ((eA 1 (T.int .u8)) (Arr.rep 32 (0:Int))))))]⟩ [(decide (plimit0 < (0:Int))) = false, ((List.length (List.map (eA 1 (T.int .u8)) pleaves0) : Nat) : Int) = (pleaves0.length : Int)] (by kernel_rfl) ⟨hb0, (len_of rfl), trivial⟩ ?_
    refine Nxt_norm ?_
    refine Ab.cond (b := (decide ((pleaves0.length : Int) > plimit0))) (by kernel_rfl) (fun hb1 => ?_) (fun hb1 => ?_)
    · replace h := cond_t hb1 h
      refine Ab.seq ?_
      refine Ab.regT hE hC hL [] { keep := [4, 5], ren := [(4, 4)] } ⟨[(4, (.ref 4 [] (0))), (5, (.t (.int .i64 (4:Int))))], [(4, (.var false 25 (.t ((eA 1 (T.int .u8)) (Arr.rep 32 (0:Int))))))]⟩ [] (by kernel_rfl) trivial ?_
      refine Nxt_norm ?_
      refine Ab.ret ?_
      refine Nxt_ret ?_
      obtain rfl := Option.some.inj h
      exact End_ret (doneO_ok (md := [false, false]) (by kernel_rfl))
    · replace h := cond_f hb1 h
      refine Ab.skip ?_
      refine Nxt_norm ?_
      refine Ab.seq ?_
      obtain ⟨hq0, h⟩ := ask_dec h
      refine Ab.regT hE hC hL [[], [], [.l (List.map (eA 1 (T.int .u8)) (([] : List (Arr 32 Int)) ++ pleaves0))]] { keep := [1, 4, 6], ren := [(4, 4), (21, 21)] } ⟨[(1, (.t (.int .i64 plimit0))), (4, (.ref 4 [] (0))), (6, (.own 21))], [(4, (.var false 25 (.t ((eA 1 (T.int .u8)) (Arr.rep 32 (0:Int)))))), (21, (.row false 25 32 (List.map (eA 1 (T.int .u8)) (([] : List (Arr 32 Int)) ++ pleaves0))))]⟩ [(List.length (List.map (eA 1 (T.int .u8)) ([] : List (Arr 32 Int))) + List.length (List.map (eA 1 (T.int .u8)) pleaves0)) * 32 ≤ maxBytes, List.length (List.map (eA 1 (T.int .u8)) ([] : List (Arr 32 Int))) + List.length (List.map (eA 1 (T.int .u8)) pleaves0) ≤ maxBytes, (List.map (eA 1 (T.int .u8)) ([] : List (Arr 32 Int))) ++ (List.map (eA 1 (T.int .u8)) pleaves0) = List.map (eA 1 (T.int .u8)) (([] : List (Arr 32 Int)) ++ pleaves0)] (by kernel_rfl) ⟨(app_b rfl rfl hq0), (app_c rfl rfl (by decide) hq0), (app_of rfl rfl), trivial⟩ ?_
      refine Nxt_norm ?_
      refine Ab.seq ?_
      refine Ab.regT hE hC hL [] { keep := [1, 4, 6, 7], ren := [(4, 4), (7, 7), (21, 21)] } ⟨[(1, (.t (.int .i64 plimit0))), (4, (.ref 4 [] (0))), (6, (.own 21)), (7, (.ref 7 [] (0)))], [(4, (.var false 25 (.t ((eA 1 (T.int .u8)) (Arr.rep 32 (0:Int)))))), (7, (.var false 25 (.t ((eA 1 (T.int .u8)) (Arr.rep 32 (0:Int)))))), (21, (.row false 25 32 (List.map (eA 1 (T.int .u8)) (([] : List (Arr 32 Int)) ++ pleaves0))))]⟩ [] (by kernel_rfl) trivial ?_
      refine Nxt_norm ?_
      refine Ab.seq ?_
      refine Ab.seq ?_
      obtain ⟨r0, hr0, h⟩ := bind_some h
      refine Ab.regT hE hC hL [[], [.r [.tree (.int .i64 r0)] []]] { keep := [4, 6, 7, 23, 24], ren := [(4, 4), (7, 7), (21, 21)] } ⟨[(4, (.ref 4 [] (0))), (6, (.own 21)), (7, (.ref 7 [] (0))), (23, (.t (.int .i64 r0))), (24, (.t (.int .i64 (0:Int))))], [(4, (.var false 25 (.t ((eA 1 (T.int .u8)) (Arr.rep 32 (0:Int)))))), (7, (.var false 25 (.t ((eA 1 (T.int .u8)) (Arr.rep 32 (0:Int)))))), (21, (.row false 25 32 (List.map (eA 1 (T.int .u8)) (([] : List (Arr 32 Int)) ++ pleaves0))))]⟩ [(sp_merkle_Depth n).fn [(.int .i64 plimit0)] = some ([.tree (.int .i64 r0)], [])] (by kernel_rfl) ⟨(ap_merkle_Depth n (by exact ⟨leT.refl _, trivial⟩) hr0), trivial⟩ ?_
      refine Nxt_norm ?_
      obtain ⟨x1, hx0, h⟩ := bind_some h
      refine Ab.loopX0 (fun ((a0, a1, a2) : ((List (Arr 32 Int)) × (Arr 32 Int) × Int)) => (⟨[(4, (.ref 49000 [] (0))), (6, (.own 49001)), (7, (.ref 49002 [] (0))), (23, (.t (.int .i64 r0))), (24, (.t (.int .i64 a2)))], [(49000, (.var false 25 (.t ((eA 1 (T.int .u8)) (Arr.rep 32 (0:Int)))))), (49001, (.row false 25 32 (List.map (eA 1 (T.int .u8)) a0))), (49002, (.var false 25 (.t ((eA 1 (T.int .u8)) a1))))]⟩ : St)) (fun ((a3, a4) : ((List (Arr 32 Int)) × (Arr 32 Int))) => (⟨[(4, (.ref 49000 [] (0))), (6, (.own 49001)), (7, (.ref 49002 [] (0)))], [(49000, (.var false 25 (.t ((eA 1 (T.int .u8)) (Arr.rep 32 (0:Int)))))), (49001, (.row false 25 32 (List.map (eA 1 (T.int .u8)) a3))), (49002, (.var false 25 (.t ((eA 1 (T.int .u8)) a4))))]⟩ : St)) { fs := [], keep := [4, 6, 7, 23, 24], ren := [(4, 49000), (21, 49001), (7, 49002)] } ((([] : List (Arr 32 Int)) ++ pleaves0), (Arr.rep 32 (0:Int)), (0:Int)) hC hL hx0 (by kernel_rfl) ?_ ?_
      · rintro ⟨a0, a1, a2⟩ o0 h
        replace h : f_merkle_Tree_b0 n r0 a0 a1 a2 = some o0 := h
        unfold f_merkle_Tree_b0 at h
        refine Ab.seq ?_
        refine Ab.regT hE hC hL [] { keep := [4, 6, 7, 23, 24, 25], ren := [(49000, 49000), (49001, 49001), (49002, 49002)] } ⟨[(4, (.ref 49000 [] (0))), (6, (.own 49001)), (7, (.ref 49002 [] (0))), (23, (.t (.int .i64 r0))), (24, (.t (.int .i64 a2))), (25, (.t (.bool (decide (a2 < r0)))))], [(49000, (.var false 25 (.t ((eA 1 (T.int .u8)) (Arr.rep 32 (0:Int)))))), (49001, (.row false 25 32 (List.map (eA 1 (T.int .u8)) a0))), (49002, (.var false 25 (.t ((eA 1 (T.int .u8)) a1))))]⟩ [] (by kernel_rfl) trivial ?_
        refine Nxt_norm ?_
        refine Ab.seq ?_
        refine Ab.cond (b := (decide (a2 < r0))) (by kernel_rfl) (fun hb2 => ?_) (fun hb2 => ?_)
        · replace h := cond_t hb2 h
          refine Ab.skip ?_
          refine Nxt_norm ?_
          refine Ab.seq ?_
          refine Ab.block ?_
          refine Ab.seqJ (fun (a5 : (List (Arr 32 Int))) => (⟨[(4, (.ref 49000 [] (0))), (6, (.own 49001)), (7, (.ref 49002 [] (0))), (23, (.t (.int .i64 r0))), (24, (.t (.int .i64 a2)))], [(49000, (.var false 25 (.t ((eA 1 (T.int .u8)) (Arr.rep 32 (0:Int)))))), (49001, (.row false 25 32 (List.map (eA 1 (T.int .u8)) a5))), (49002, (.var false 25 (.t ((eA 1 (T.int .u8)) a1))))]⟩ : St)) (fun (a5 : (List (Arr 32 Int))) => f_merkle_Tree_j0 n a1 a2 a5 = some o0) hC hL ?_ ?_
          · refine Ab.seq ?_
            refine Ab.regT hE hC hL [[], [.n (a0.length : Int)]] { keep := [4, 6, 7, 23, 24, 29], ren := [(49000, 49000), (49001, 49001), (49002, 49002)] } ⟨[(4, (.ref 49000 [] (0))), (6, (.own 49001)), (7, (.ref 49002 [] (0))), (23, (.t (.int .i64 r0))), (24, (.t (.int .i64 a2))), (29, (.t (.bool (((a0.length : Int).tmod (2:Int)) != (0:Int)))))], [(49000, (.var false 25 (.t ((eA 1 (T.int .u8)) (Arr.rep 32 (0:Int)))))), (49001, (.row false 25 32 (List.map (eA 1 (T.int .u8)) a0))), (49002, (.var false 25 (.t ((eA 1 (T.int .u8)) a1))))]⟩ [((List.length (List.map (eA 1 (T.int .u8)) a0) : Nat) : Int) = (a0.length : Int)] (by kernel_rfl) ⟨(len_of rfl), trivial⟩ ?_
            refine Nxt_norm ?_
            refine Ab.cond (b := (((a0.length : Int).tmod (2:Int)) != (0:Int))) (by kernel_rfl) (fun hb3 => ?_) (fun hb3 => ?_)
            · replace h := cond_t hb3 h
              obtain ⟨hq1, h⟩ := ask_dec h
              refine Ab.regT hE hC hL [[], [], [], [.l (List.map (eA 1 (T.int .u8)) (a0 ++ ([a1] : List (Arr 32 Int))))]] { keep := [4, 6, 7, 23, 24], ren := [(33, 33), (49000, 49000), (49002, 49002)] } ⟨[(4, (.ref 49000 [] (0))), (6, (.own 33)), (7, (.ref 49002 [] (0))), (23, (.t (.int .i64 r0))), (24, (.t (.int .i64 a2)))], [(33, (.row false 25 32 (List.map (eA 1 (T.int .u8)) (a0 ++ ([a1] : List (Arr 32 Int)))))), (49000, (.var false 25 (.t ((eA 1 (T.int .u8)) (Arr.rep 32 (0:Int)))))), (49002, (.var false 25 (.t ((eA 1 (T.int .u8)) a1))))]⟩ [(List.length (List.map (eA 1 (T.int .u8)) a0) + List.length (List.map (eA 1 (T.int .u8)) ([a1] : List (Arr 32 Int)))) * 32 ≤ maxBytes, List.length (List.map (eA 1 (T.int .u8)) a0) + List.length (List.map (eA 1 (T.int .u8)) ([a1] : List (Arr 32 Int))) ≤ maxBytes, (List.map (eA 1 (T.int .u8)) a0) ++ (List.map (eA 1 (T.int .u8)) ([a1] : List (Arr 32 Int))) = List.map (eA 1 (T.int .u8)) (a0 ++ ([a1] : List (Arr 32 Int)))] (by kernel_rfl) ⟨(app_b rfl rfl hq1), (app_c rfl rfl (by decide) hq1), (app_of rfl rfl), trivial⟩ ?_
              exact Nxt_norm ⟨(a0 ++ ([a1] : List (Arr 32 Int))), { fs := [], keep := [4, 6, 7, 23, 24], ren := [(49000, 49000), (33, 49001), (49002, 49002)] }, h, by kernel_rfl⟩
            · replace h := cond_f hb3 h
              refine Ab.skip ?_
              exact Nxt_norm ⟨a0, { fs := [], keep := [4, 6, 7, 23, 24], ren := [(49000, 49000), (49001, 49001), (49002, 49002)] }, h, by kernel_rfl⟩
          · rintro a5 h
            replace h : f_merkle_Tree_j0 n a1 a2 a5 = some o0 := h
            unfold f_merkle_Tree_j0 at h
            refine Ab.seq ?_
            refine Ab.regT hE hC hL [] { keep := [4, 6, 7, 8, 23, 24], ren := [(49000, 49000), (49001, 49001), (49002, 49002)] } ⟨[(4, (.ref 49000 [] (0))), (6, (.own 49001)), (7, (.ref 49002 [] (0))), (8, (.t .nils)), (23, (.t (.int .i64 r0))), (24, (.t (.int .i64 a2)))], [(49000, (.var false 25 (.t ((eA 1 (T.int .u8)) (Arr.rep 32 (0:Int)))))), (49001, (.row false 25 32 (List.map (eA 1 (T.int .u8)) a5))), (49002, (.var false 25 (.t ((eA 1 (T.int .u8)) a1))))]⟩ [] (by kernel_rfl) trivial ?_
            refine Nxt_norm ?_
            refine Ab.seq ?_
            refine Ab.seq ?_
            refine Ab.regT hE hC hL [] { keep := [4, 6, 7, 8, 9, 23, 24], ren := [(49000, 49000), (49001, 49001), (49002, 49002)] } ⟨[(4, (.ref 49000 [] (0))), (6, (.own 49001)), (7, (.ref 49002 [] (0))), (8, (.t .nils)), (9, (.t (.int .i64 (0:Int)))), (23, (.t (.int .i64 r0))), (24, (.t (.int .i64 a2)))], [(49000, (.var false 25 (.t ((eA 1 (T.int .u8)) (Arr.rep 32 (0:Int)))))), (49001, (.row false 25 32 (List.map (eA 1 (T.int .u8)) a5))), (49002, (.var false 25 (.t ((eA 1 (T.int .u8)) a1))))]⟩ [] (by kernel_rfl) trivial ?_
            refine Nxt_norm ?_
            obtain ⟨x0, hx1, h⟩ := bind_some h
            refine Ab.loopX0 (fun ((a8, a9) : ((List (Arr 32 Int)) × Int)) => (⟨[(4, (.ref 49000 [] (0))), (6, (.own 49001)), (7, (.ref 49002 [] (0))), (8, (.own 49003)), (9, (.t (.int .i64 a9))), (23, (.t (.int .i64 r0))), (24, (.t (.int .i64 a2)))], [(49000, (.var false 25 (.t ((eA 1 (T.int .u8)) (Arr.rep 32 (0:Int)))))), (49001, (.row false 25 32 (List.map (eA 1 (T.int .u8)) a5))), (49002, (.var false 25 (.t ((eA 1 (T.int .u8)) a1)))), (49003, (.row false 25 32 (List.map (eA 1 (T.int .u8)) a8)))]⟩ : St)) (fun (a10 : (List (Arr 32 Int))) => (⟨[(4, (.ref 49000 [] (0))), (7, (.ref 49001 [] (0))), (8, (.own 49002)), (23, (.t (.int .i64 r0))), (24, (.t (.int .i64 a2)))], [(49000, (.var false 25 (.t ((eA 1 (T.int .u8)) (Arr.rep 32 (0:Int)))))), (49001, (.var false 25 (.t ((eA 1 (T.int .u8)) a1)))), (49002, (.row false 25 32 (List.map (eA 1 (T.int .u8)) a10)))]⟩ : St)) { fs := [⟨(.t 8), [], .own 48000 25 32⟩], keep := [4, 6, 7, 8, 9, 23, 24], ren := [(49000, 49000), (49001, 49001), (49002, 49002), (48000, 49003)] } (([] : List (Arr 32 Int)), (0:Int)) hC hL hx1 (by kernel_rfl) ?_ ?_
            · rintro ⟨a8, a9⟩ o1 h
              replace h : f_merkle_Tree_b1 n a5 a8 a9 = some o1 := h
              unfold f_merkle_Tree_b1 at h
              refine Ab.seq ?_
              refine Ab.seq ?_
              refine Ab.regT hE hC hL [[], [], [.n (a5.length : Int)]] { keep := [4, 6, 7, 8, 9, 23, 24, 37], ren := [(49000, 49000), (49001, 49001), (49002, 49002), (49003, 49003)] } ⟨[(4, (.ref 49000 [] (0))), (6, (.own 49001)), (7, (.ref 49002 [] (0))), (8, (.own 49003)), (9, (.t (.int .i64 a9))), (23, (.t (.int .i64 r0))), (24, (.t (.int .i64 a2))), (37, (.t (.bool (decide (a9 < (a5.length : Int))))))], [(49000, (.var false 25 (.t ((eA 1 (T.int .u8)) (Arr.rep 32 (0:Int)))))), (49001, (.row false 25 32 (List.map (eA 1 (T.int .u8)) a5))), (49002, (.var false 25 (.t ((eA 1 (T.int .u8)) a1)))), (49003, (.row false 25 32 (List.map (eA 1 (T.int .u8)) a8)))]⟩ [((List.length (List.map (eA 1 (T.int .u8)) a5) : Nat) : Int) = (a5.length : Int)] (by kernel_rfl) ⟨(len_of rfl), trivial⟩ ?_
              refine Nxt_norm ?_
              refine Ab.cond (b := (decide (a9 < (a5.length : Int)))) (by kernel_rfl) (fun hb4 => ?_) (fun hb4 => ?_)
              · replace h := cond_t hb4 h
                refine Ab.skip ?_
                refine Nxt_norm ?_
                refine Ab.seq ?_
                refine Ab.block ?_
                obtain ⟨hq2, h⟩ := ask_dec h
                obtain ⟨hq3, h⟩ := ask_dec h
                obtain ⟨v0, hv0, h⟩ := bind_some h
                obtain ⟨hq4, h⟩ := ask_dec h
                obtain ⟨hq5, h⟩ := ask_dec h
                obtain ⟨v1, hv1, h⟩ := bind_some h
                obtain ⟨r1, hr1, h⟩ := bind_some h
                obtain ⟨hq6, h⟩ := ask_dec h
                refine Ab.regA hE hC hL [[], [], [], [.c], [.t ((eA 1 (T.int .u8)) v0)], [], [], [], [.c], [.t ((eA 1 (T.int .u8)) v1)], [.r [.tree ((eA 1 (T.int .u8)) r1)] []], [], [.l (List.map (eA 1 (T.int .u8)) (a8 ++ ([r1] : List (Arr 32 Int))))]] { keep := [4, 6, 7, 8, 9, 23, 24], ren := [(52, 52), (49000, 49000), (49001, 49001), (49002, 49002)] } ⟨[(4, (.ref 49000 [] (0))), (6, (.own 49001)), (7, (.ref 49002 [] (0))), (8, (.own 52)), (9, (.t (.int .i64 a9))), (23, (.t (.int .i64 r0))), (24, (.t (.int .i64 a2)))], [(52, (.row false 25 32 (List.map (eA 1 (T.int .u8)) (a8 ++ ([r1] : List (Arr 32 Int)))))), (49000, (.var false 25 (.t ((eA 1 (T.int .u8)) (Arr.rep 32 (0:Int)))))), (49001, (.row false 25 32 (List.map (eA 1 (T.int .u8)) a5))), (49002, (.var false 25 (.t ((eA 1 (T.int .u8)) a1))))]⟩ [0 ≤ a9, a9.toNat < List.length (List.map (eA 1 (T.int .u8)) a5), a9.toNat * 32 + 0 = a9.toNat * 32, (List.map (eA 1 (T.int .u8)) a5)[a9.toNat]? = some ((eA 1 (T.int .u8)) v0), 0 ≤ (wi (a9 + (1:Int))), (wi (a9 + (1:Int))).toNat < List.length (List.map (eA 1 (T.int .u8)) a5), (wi (a9 + (1:Int))).toNat * 32 + 0 = (wi (a9 + (1:Int))).toNat * 32, (List.map (eA 1 (T.int .u8)) a5)[(wi (a9 + (1:Int))).toNat]? = some ((eA 1 (T.int .u8)) v1), (sp_digest_Pair n).fn [((eA 1 (T.int .u8)) v0), ((eA 1 (T.int .u8)) v1)] = some ([.tree ((eA 1 (T.int .u8)) r1)], []), (List.length (List.map (eA 1 (T.int .u8)) a8) + List.length (List.map (eA 1 (T.int .u8)) ([r1] : List (Arr 32 Int)))) * 32 ≤ maxBytes, List.length (List.map (eA 1 (T.int .u8)) a8) + List.length (List.map (eA 1 (T.int .u8)) ([r1] : List (Arr 32 Int))) ≤ maxBytes, (List.map (eA 1 (T.int .u8)) a8) ++ (List.map (eA 1 (T.int .u8)) ([r1] : List (Arr 32 Int))) = List.map (eA 1 (T.int .u8)) (a8 ++ ([r1] : List (Arr 32 Int)))] (by kernel_rfl) (by kernel_rfl) ⟨hq2, (by rw [List.length_map]; exact hq3), (by omega), (at_map hv0), hq4, (by rw [List.length_map]; exact hq5), (by omega), (at_map hv1), (ap_digest_Pair n (by exact ⟨leT.refl _, leT.refl _, trivial⟩) hr1), (app_b rfl rfl hq6), (app_c rfl rfl (by decide) hq6), (app_of rfl rfl), trivial⟩ ?_
                refine Blk_norm ?_
                refine Nxt_norm ?_
                refine Ab.regT hE hC hL [] { keep := [4, 6, 7, 8, 9, 23, 24], ren := [(52, 52), (49000, 49000), (49001, 49001), (49002, 49002)] } ⟨[(4, (.ref 49000 [] (0))), (6, (.own 49001)), (7, (.ref 49002 [] (0))), (8, (.own 52)), (9, (.t (.int .i64 (wi (a9 + (2:Int)))))), (23, (.t (.int .i64 r0))), (24, (.t (.int .i64 a2)))], [(52, (.row false 25 32 (List.map (eA 1 (T.int .u8)) (a8 ++ ([r1] : List (Arr 32 Int)))))), (49000, (.var false 25 (.t ((eA 1 (T.int .u8)) (Arr.rep 32 (0:Int)))))), (49001, (.row false 25 32 (List.map (eA 1 (T.int .u8)) a5))), (49002, (.var false 25 (.t ((eA 1 (T.int .u8)) a1))))]⟩ [] (by kernel_rfl) trivial ?_
                exact LK_norm ((a8 ++ ([r1] : List (Arr 32 Int))), (wi (a9 + (2:Int)))) { fs := [], keep := [4, 6, 7, 8, 9, 23, 24], ren := [(49000, 49000), (49001, 49001), (49002, 49002), (52, 49003)] } h (by kernel_rfl)
              · replace h := cond_f hb4 h
                refine Ab.exit ?_
                refine Nxt_exit ?_
                exact LK_exit a8 h (PX_mk { fs := [], keep := [4, 7, 8, 23, 24], ren := [(49000, 49000), (49002, 49001), (49003, 49002)] } (by kernel_rfl))
            · refine Nxt_norm ?_
              obtain ⟨r2, hr2, h⟩ := bind_some h
              refine Ab.regT hE hC hL [[], [], [], [.r [.tree ((eA 1 (T.int .u8)) r2)] []]] { keep := [4, 6, 7, 23, 24], ren := [(49000, 49000), (49001, 49001), (49002, 49002)] } ⟨[(4, (.ref 49000 [] (0))), (6, (.own 49002)), (7, (.ref 49001 [] (0))), (23, (.t (.int .i64 r0))), (24, (.t (.int .i64 a2)))], [(49000, (.var false 25 (.t ((eA 1 (T.int .u8)) (Arr.rep 32 (0:Int)))))), (49001, (.var false 25 (.t ((eA 1 (T.int .u8)) r2)))), (49002, (.row false 25 32 (List.map (eA 1 (T.int .u8)) x0)))]⟩ [(sp_digest_Pair n).fn [((eA 1 (T.int .u8)) a1), ((eA 1 (T.int .u8)) a1)] = some ([.tree ((eA 1 (T.int .u8)) r2)], [])] (by kernel_rfl) ⟨(ap_digest_Pair n (by exact ⟨leT.refl _, leT.refl _, trivial⟩) hr2), trivial⟩ ?_
              refine Blk_norm ?_
              refine Nxt_norm ?_
              refine Ab.regT hE hC hL [] { keep := [4, 6, 7, 23, 24], ren := [(49000, 49000), (49001, 49001), (49002, 49002)] } ⟨[(4, (.ref 49000 [] (0))), (6, (.own 49002)), (7, (.ref 49001 [] (0))), (23, (.t (.int .i64 r0))), (24, (.t (.int .i64 (wi (a2 + (1:Int))))))], [(49000, (.var false 25 (.t ((eA 1 (T.int .u8)) (Arr.rep 32 (0:Int)))))), (49001, (.var false 25 (.t ((eA 1 (T.int .u8)) r2)))), (49002, (.row false 25 32 (List.map (eA 1 (T.int .u8)) x0)))]⟩ [] (by kernel_rfl) trivial ?_
              exact LK_norm (x0, r2, (wi (a2 + (1:Int)))) { fs := [], keep := [4, 6, 7, 23, 24], ren := [(49000, 49000), (49002, 49001), (49001, 49002)] } h (by kernel_rfl)
        · replace h := cond_f hb2 h
          refine Ab.exit ?_
          refine Nxt_exit ?_
          exact LK_exit (a0, a1) h (PX_mk { fs := [], keep := [4, 6, 7], ren := [(49000, 49000), (49001, 49001), (49002, 49002)] } (by kernel_rfl))
      · refine Nxt_norm ?_
        refine Ab.seq ?_
        refine Ab.seq ?_
        refine Ab.regT hE hC hL [[], [.n (x1.1.length : Int)]] { keep := [4, 6, 7, 60], ren := [(49000, 49000), (49001, 49001), (49002, 49002)] } ⟨[(4, (.ref 49000 [] (0))), (6, (.own 49001)), (7, (.ref 49002 [] (0))), (60, (.t (.bool ((x1.1.length : Int) == (0:Int)))))], [(49000, (.var false 25 (.t ((eA 1 (T.int .u8)) (Arr.rep 32 (0:Int)))))), (49001, (.row false 25 32 (List.map (eA 1 (T.int .u8)) x1.1))), (49002, (.var false 25 (.t ((eA 1 (T.int .u8)) x1.2))))]⟩ [((List.length (List.map (eA 1 (T.int .u8)) x1.1) : Nat) : Int) = (x1.1.length : Int)] (by kernel_rfl) ⟨(len_of rfl), trivial⟩ ?_
        refine Nxt_norm ?_
        refine Ab.cond (b := ((x1.1.length : Int) == (0:Int))) (by kernel_rfl) (fun hb5 => ?_) (fun hb5 => ?_)
        · replace h := cond_t hb5 h
          refine Ab.seq ?_
          refine Ab.regT hE hC hL [] { keep := [4, 5], ren := [(49000, 49000)] } ⟨[(4, (.ref 49000 [] (0))), (5, (.t (.int .i64 (0:Int))))], [(49000, (.var false 25 (.t ((eA 1 (T.int .u8)) x1.2))))]⟩ [] (by kernel_rfl) trivial ?_
          refine Nxt_norm ?_
          refine Ab.ret ?_
          refine Nxt_ret ?_
          obtain rfl := Option.some.inj h
          exact End_ret (doneO_ok (md := [false, false]) (by kernel_rfl))
        · replace h := cond_f hb5 h
          refine Ab.skip ?_
          refine Nxt_norm ?_
          refine Ab.seq ?_
          obtain ⟨hq7, h⟩ := ask_dec h
          obtain ⟨v2, hv2, h⟩ := bind_some h
          refine Ab.regT hE hC hL [[], [.c], [.t ((eA 1 (T.int .u8)) v2)]] { keep := [4, 5], ren := [(49000, 49000)] } ⟨[(4, (.ref 49000 [] (0))), (5, (.t (.int .i64 (0:Int))))], [(49000, (.var false 25 (.t ((eA 1 (T.int .u8)) v2))))]⟩ [0 ≤ (0:Int), 0 < List.length (List.map (eA 1 (T.int .u8)) x1.1), 0 = 0, (List.map (eA 1 (T.int .u8)) x1.1)[0]? = some ((eA 1 (T.int .u8)) v2)] (by kernel_rfl) ⟨(by decide), (by rw [List.length_map]; exact hq7), (by omega), (at_map hv2), trivial⟩ ?_
          refine Nxt_norm ?_
          refine Ab.ret ?_
          obtain rfl := Option.some.inj h
          exact End_ret (doneO_ok (md := [false, false]) (by kernel_rfl))
def ea_merkle_Zero (a : Int) : List T := [(T.int .i64) a]
def er_merkle_Zero (r : (Arr 32 Int)) : List RR × List T := ([.tree ((eA 1 (T.int .u8)) r)], [])
noncomputable def sp_merkle_Zero (n : Nat) : Spec := specP [] true ea_merkle_Zero (fun a => f_merkle_Zero n a) (fun _ r => er_merkle_Zero r)
theorem ap_merkle_Zero (n : Nat) {ts : List T} {a0 : Int} {r : (Arr 32 Int)} (hle : leTs ts [(T.int .i64) a0]) (h : f_merkle_Zero n a0 = some r) : (sp_merkle_Zero n).fn ts = some ([.tree ((eA 1 (T.int .u8)) r)], []) :=
  specP_fn (a := a0) (InjA.one (inj_int _)) hle h
noncomputable def E_merkle_Zero (n : Nat) : Env := { ty := tyT, glob := glob, fns := get [(16, sp_digest_Pair n)], ntmps := 13 }
theorem eok_merkle_Zero (n : Nat) : EnvOK Tryd.prog (E_merkle_Zero n) := ⟨tys_ok tys_chk, prog_mixed, (fns_cons (ok_digest_Pair n) fns_nil)⟩
def K_merkle_Zero (n : Nat) (pdepth0 : Int) (r : (Arr 32 Int)) : St → Prop := Done (E_merkle_Zero n) Tryd.f31.results.toList [] (ea_merkle_Zero pdepth0) (er_merkle_Zero r).1 (er_merkle_Zero r).2
set_option maxRecDepth 100000 in
set_option maxHeartbeats 4000000 in
theorem ok_merkle_Zero (n : Nat) : SpecOK Tryd.prog glob 31 (sp_merkle_Zero n) := by
  refine specP_ok (fn := Tryd.f31) (eok_merkle_Zero n) (by kernel_rfl) rfl (by decide +kernel) (by kernel_rfl) (fun _ => by show 1 ≤ 13; omega) (fun _ _ r => ⟨(rrf_tree ((flat_eA (fun _ => rfl)) _) rrf_nil), flats_nil⟩) ?_
  rintro pdepth0 r h C hL hC
  have hE := eok_merkle_Zero n
  replace hL : ∀ n g, (n, g) ∈ C.lent → n ∈ ([] : List Nat) := hL
  replace h : f_merkle_Zero n pdepth0 = some r := h
  show Ab _ _ _ _ _ (End (K_merkle_Zero n pdepth0 r))
  unfold f_merkle_Zero at h
  refine Ab.seq ?_
  refine Ab.regT hE hC hL [] { keep := [0, 2], ren := [(2, 2)] } ⟨[(0, (.t (.int .i64 pdepth0))), (2, (.ref 2 [] (0)))], [(2, (.var false 25 (.t ((eA 1 (T.int .u8)) (Arr.rep 32 (0:Int))))))]⟩ [] (by kernel_rfl) trivial ?_
  refine Nxt_norm ?_
  refine Ab.seq ?_
  refine Ab.regT hE hC hL [] { keep := [0, 2, 3], ren := [(2, 2), (3, 3)] } ⟨[(0, (.t (.int .i64 pdepth0))), (2, (.ref 2 [] (0))), (3, (.ref 3 [] (0)))], [(2, (.var false 25 (.t ((eA 1 (T.int .u8)) (Arr.rep 32 (0:Int)))))), (3, (.var false 25 (.t ((eA 1 (T.int .u8)) (Arr.rep 32 (0:Int))))))]⟩ [] (by kernel_rfl) trivial ?_
  refine Nxt_norm ?_
  refine Ab.seq ?_
  refine Ab.seq ?_
  refine Ab.regT hE hC hL [] { keep := [2, 3, 5, 6], ren := [(2, 2), (3, 3)] } ⟨[(2, (.ref 2 [] (0))), (3, (.ref 3 [] (0))), (5, (.t (.int .i64 (gmax pdepth0 (0:Int))))), (6, (.t (.int .i64 (0:Int))))], [(2, (.var false 25 (.t ((eA 1 (T.int .u8)) (Arr.rep 32 (0:Int)))))), (3, (.var false 25 (.t ((eA 1 (T.int .u8)) (Arr.rep 32 (0:Int))))))]⟩ [] (by kernel_rfl) trivial ?_
  refine Nxt_norm ?_
  obtain ⟨x0, hx0, h⟩ := bind_some h
  refine Ab.loopX0 (fun ((a0, a1) : ((Arr 32 Int) × Int)) => (⟨[(2, (.ref 49000 [] (0))), (3, (.ref 49001 [] (0))), (5, (.t (.int .i64 (gmax pdepth0 (0:Int))))), (6, (.t (.int .i64 a1)))], [(49000, (.var false 25 (.t ((eA 1 (T.int .u8)) (Arr.rep 32 (0:Int)))))), (49001, (.var false 25 (.t ((eA 1 (T.int .u8)) a0))))]⟩ : St)) (fun (a2 : (Arr 32 Int)) => (⟨[(2, (.ref 49000 [] (0))), (3, (.ref 49001 [] (0)))], [(49000, (.var false 25 (.t ((eA 1 (T.int .u8)) (Arr.rep 32 (0:Int)))))), (49001, (.var false 25 (.t ((eA 1 (T.int .u8)) a2))))]⟩ : St)) { fs := [], keep := [2, 3, 5, 6], ren := [(2, 49000), (3, 49001)] } ((Arr.rep 32 (0:Int)), (0:Int)) hC hL hx0 (by kernel_rfl) ?_ ?_
  · rintro ⟨a0, a1⟩ o0 h
    replace h : f_merkle_Zero_b0 n pdepth0 a0 a1 = some o0 := h
    unfold f_merkle_Zero_b0 at h
    refine Ab.seq ?_
    refine Ab.regT hE hC hL [] { keep := [2, 3, 5, 6, 7], ren := [(49000, 49000), (49001, 49001)] } ⟨[(2, (.ref 49000 [] (0))), (3, (.ref 49001 [] (0))), (5, (.t (.int .i64 (gmax pdepth0 (0:Int))))), (6, (.t (.int .i64 a1))), (7, (.t (.bool (decide (a1 < (gmax pdepth0 (0:Int)))))))], [(49000, (.var false 25 (.t ((eA 1 (T.int .u8)) (Arr.rep 32 (0:Int)))))), (49001, (.var false 25 (.t ((eA 1 (T.int .u8)) a0))))]⟩ [] (by kernel_rfl) trivial ?_
    refine Nxt_norm ?_
    refine Ab.seq ?_
    refine Ab.cond (b := (decide (a1 < (gmax pdepth0 (0:Int))))) (by kernel_rfl) (fun hb0 => ?_) (fun hb0 => ?_)
    · replace h := cond_t hb0 h
      refine Ab.skip ?_
      refine Nxt_norm ?_
      refine Ab.seq ?_
      refine Ab.block ?_
      obtain ⟨r0, hr0, h⟩ := bind_some h
      refine Ab.regT hE hC hL [[], [], [.r [.tree ((eA 1 (T.int .u8)) r0)] []]] { keep := [2, 3, 5, 6], ren := [(49000, 49000), (49001, 49001)] } ⟨[(2, (.ref 49000 [] (0))), (3, (.ref 49001 [] (0))), (5, (.t (.int .i64 (gmax pdepth0 (0:Int))))), (6, (.t (.int .i64 a1)))], [(49000, (.var false 25 (.t ((eA 1 (T.int .u8)) (Arr.rep 32 (0:Int)))))), (49001, (.var false 25 (.t ((eA 1 (T.int .u8)) r0))))]⟩ [(sp_digest_Pair n).fn [((eA 1 (T.int .u8)) a0), ((eA 1 (T.int .u8)) a0)] = some ([.tree ((eA 1 (T.int .u8)) r0)], [])] (by kernel_rfl) ⟨(ap_digest_Pair n (by exact ⟨leT.refl _, leT.refl _, trivial⟩) hr0), trivial⟩ ?_
      refine Blk_norm ?_
      refine Nxt_norm ?_
      refine Ab.regT hE hC hL [] { keep := [2, 3, 5, 6], ren := [(49000, 49000), (49001, 49001)] } ⟨[(2, (.ref 49000 [] (0))), (3, (.ref 49001 [] (0))), (5, (.t (.int .i64 (gmax pdepth0 (0:Int))))), (6, (.t (.int .i64 (wi (a1 + (1:Int))))))], [(49000, (.var false 25 (.t ((eA 1 (T.int .u8)) (Arr.rep 32 (0:Int)))))), (49001, (.var false 25 (.t ((eA 1 (T.int .u8)) r0))))]⟩ [] (by kernel_rfl) trivial ?_
      exact LK_norm (r0, (wi (a1 + (1:Int)))) { fs := [], keep := [2, 3, 5, 6], ren := [(49000, 49000), (49001, 49001)] } h (by kernel_rfl)
    · replace h := cond_f hb0 h
      refine Ab.exit ?_
      refine Nxt_exit ?_
      exact LK_exit a0 h (PX_mk { fs := [], keep := [2, 3], ren := [(49000, 49000), (49001, 49001)] } (by kernel_rfl))
  · refine Nxt_norm ?_
    refine Ab.seq ?_
    refine Ab.regT hE hC hL [] { keep := [2], ren := [(49000, 49000)] } ⟨[(2, (.ref 49000 [] (0)))], [(49000, (.var false 25 (.t ((eA 1 (T.int .u8)) x0))))]⟩ [] (by kernel_rfl) trivial ?_
    refine Nxt_norm ?_
    refine Ab.ret ?_
    obtain rfl := Option.some.inj h
    exact End_ret (doneO_ok (md := [false]) (by kernel_rfl))
def ea_law03_Awake (a : Unit) : List T := []
def er_law03_Awake (r : Bool) : List RR × List T := ([.tree (T.bool r)], [])
noncomputable def sp_law03_Awake (n : Nat) : Spec := specP [] true ea_law03_Awake (fun a => f_law03_Awake n) (fun _ r => er_law03_Awake r)
theorem ap_law03_Awake (n : Nat) {ts : List T} {r : Bool} (hle : leTs ts []) (h : f_law03_Awake n = some r) : (sp_law03_Awake n).fn ts = some ([.tree (T.bool r)], []) :=
  specP_fn (a := ()) injA0 hle h
noncomputable def E_law03_Awake (n : Nat) : Env := { ty := tyT, glob := glob, fns := get [(18, sp_digest_Hex n), (29, sp_merkle_Tree n), (31, sp_merkle_Zero n), (36, sp_merkle_Depth n)], ntmps := 23 }
theorem eok_law03_Awake (n : Nat) : EnvOK Tryd.prog (E_law03_Awake n) := ⟨tys_ok tys_chk, prog_mixed, (fns_cons (ok_digest_Hex n) (fns_cons (ok_merkle_Tree n) (fns_cons (ok_merkle_Zero n) (fns_cons (ok_merkle_Depth n) fns_nil))))⟩
def K_law03_Awake (n : Nat) (r : Bool) : St → Prop := Done (E_law03_Awake n) Tryd.f28.results.toList [] (ea_law03_Awake ()) (er_law03_Awake r).1 (er_law03_Awake r).2
set_option maxRecDepth 100000 in
set_option maxHeartbeats 4000000 in
theorem ok_law03_Awake (n : Nat) : SpecOK Tryd.prog glob 28 (sp_law03_Awake n) := by
  refine specP_ok (fn := Tryd.f28) (eok_law03_Awake n) (by kernel_rfl) rfl (by decide +kernel) (by kernel_rfl) (fun _ => by show 0 ≤ 23; omega) (fun _ _ r => ⟨(rrf_tree ((fun _ => rfl) _) rrf_nil), flats_nil⟩) ?_
  rintro ⟨⟩ r h C hL hC
  have hE := eok_law03_Awake n
  replace hL : ∀ n g, (n, g) ∈ C.lent → n ∈ ([] : List Nat) := hL
  replace h : f_law03_Awake n = some r := h
  show Ab _ _ _ _ _ (End (K_law03_Awake n r))
  unfold f_law03_Awake at h
  refine Ab.seq ?_
  refine Ab.regT hE hC hL [] { keep := [], ren := [] } ⟨[], []⟩ [] (by kernel_rfl) trivial ?_
  refine Nxt_norm ?_
  refine Ab.seq ?_
  obtain ⟨r0, hr0, h⟩ := bind_some h
  refine Ab.regT hE hC hL [[.l (List.map (eA 1 (T.int .u8)) (List.replicate 2 (Arr.rep 32 (0:Int))))], [.r [.tree ((eA 1 (T.int .u8)) r0.1), .tree (.int .i64 r0.2)] []]] { keep := [2], ren := [] } ⟨[(2, (.t (.int .i64 r0.2)))], []⟩ [0 ≤ (2:Int), ((2:Int) = (2:Int) ∨ (2:Int) = 0), (2:Int) ≤ (2:Int), ((32 : Nat) : Int) * (2:Int) ≤ 140737488355328, (2:Int) ≤ 140737488355328, List.replicate ((2:Int)).toNat (.arr 1 32 (List.replicate 32 (.int .u8 0))) = List.map (eA 1 (T.int .u8)) (List.replicate 2 (Arr.rep 32 (0:Int))), (sp_merkle_Tree n).fn [(.slc 32 (List.map (eA 1 (T.int .u8)) (List.replicate 2 (Arr.rep 32 (0:Int))))), (.int .i64 (1:Int))] = some ([.tree ((eA 1 (T.int .u8)) r0.1), .tree (.int .i64 r0.2)], [])] (by kernel_rfl) ⟨(by decide), (by decide), (by decide), (by decide), (by decide), (rep_map rfl), (ap_merkle_Tree n (by exact ⟨leT.refl _, leT.refl _, trivial⟩) hr0), trivial⟩ ?_
  refine Nxt_norm ?_
  refine Ab.seq ?_
  obtain ⟨r1, hr1, h⟩ := bind_some h
  obtain ⟨r2, hr2, h⟩ := bind_some h
  rcases Bool.eq_false_or_eq_true (r2.toList == str_3.toList) with hb0 | hb0
  · replace h := cond_t hb0 h
    obtain ⟨r3, hr3, h⟩ := bind_some h
    rcases Bool.eq_false_or_eq_true (r3 == (0:Int)) with hb1 | hb1
    · replace h := cond_t hb1 h
      obtain ⟨r4, hr4, h⟩ := bind_some h
      rcases Bool.eq_false_or_eq_true (r4 == (3:Int)) with hb2 | hb2
      · replace h := cond_t hb2 h
        refine Ab.regT hE hC hL [[.r [.tree ((eA 1 (T.int .u8)) r1)] []], [.r [.tree (.str r2)] []], [], [.b true], [.r [.tree (.int .i64 r3)] []], [], [], [.b true], [.r [.tree (.int .i64 r4)] []], [], [], [.b true]] { keep := [0], ren := [] } ⟨[(0, (.t (.bool (r0.2 == (4:Int)))))], []⟩ [(sp_merkle_Zero n).fn [(.int .i64 (1:Int))] = some ([.tree ((eA 1 (T.int .u8)) r1)], []), (sp_digest_Hex n).fn [((eA 1 (T.int .u8)) r1)] = some ([.tree (.str r2)], []), (r2.toList == str_3.toList) = true, (sp_merkle_Depth n).fn [(.int .i64 (1:Int))] = some ([.tree (.int .i64 r3)], []), (r3 == (0:Int)) = true, (sp_merkle_Depth n).fn [(.int .i64 (5:Int))] = some ([.tree (.int .i64 r4)], []), (r4 == (3:Int)) = true] (by kernel_rfl) ⟨(ap_merkle_Zero n (by exact ⟨leT.refl _, trivial⟩) hr1), (ap_digest_Hex n (by exact ⟨leT.refl _, trivial⟩) hr2), hb0, (ap_merkle_Depth n (by exact ⟨leT.refl _, trivial⟩) hr3), hb1, (ap_merkle_Depth n (by exact ⟨leT.refl _, trivial⟩) hr4), hb2, trivial⟩ ?_
        refine Nxt_norm ?_
        refine Ab.ret ?_
        obtain rfl := Option.some.inj h
        exact End_ret (doneO_ok (md := [false]) (by kernel_rfl))
      · replace h := cond_f hb2 h
        refine Ab.regT hE hC hL [[.r [.tree ((eA 1 (T.int .u8)) r1)] []], [.r [.tree (.str r2)] []], [], [.b true], [.r [.tree (.int .i64 r3)] []], [], [], [.b true], [.r [.tree (.int .i64 r4)] []], [], [], [.b false]] { keep := [0], ren := [] } ⟨[(0, (.t (.bool false)))], []⟩ [(sp_merkle_Zero n).fn [(.int .i64 (1:Int))] = some ([.tree ((eA 1 (T.int .u8)) r1)], []), (sp_digest_Hex n).fn [((eA 1 (T.int .u8)) r1)] = some ([.tree (.str r2)], []), (r2.toList == str_3.toList) = true, (sp_merkle_Depth n).fn [(.int .i64 (1:Int))] = some ([.tree (.int .i64 r3)], []), (r3 == (0:Int)) = true, (sp_merkle_Depth n).fn [(.int .i64 (5:Int))] = some ([.tree (.int .i64 r4)], []), (r4 == (3:Int)) = false] (by kernel_rfl) ⟨(ap_merkle_Zero n (by exact ⟨leT.refl _, trivial⟩) hr1), (ap_digest_Hex n (by exact ⟨leT.refl _, trivial⟩) hr2), hb0, (ap_merkle_Depth n (by exact ⟨leT.refl _, trivial⟩) hr3), hb1, (ap_merkle_Depth n (by exact ⟨leT.refl _, trivial⟩) hr4), hb2, trivial⟩ ?_
        refine Nxt_norm ?_
        refine Ab.ret ?_
        obtain rfl := Option.some.inj h
        exact End_ret (doneO_ok (md := [false]) (by kernel_rfl))
    · replace h := cond_f hb1 h
      refine Ab.regT hE hC hL [[.r [.tree ((eA 1 (T.int .u8)) r1)] []], [.r [.tree (.str r2)] []], [], [.b true], [.r [.tree (.int .i64 r3)] []], [], [], [.b false]] { keep := [0], ren := [] } ⟨[(0, (.t (.bool false)))], []⟩ [(sp_merkle_Zero n).fn [(.int .i64 (1:Int))] = some ([.tree ((eA 1 (T.int .u8)) r1)], []), (sp_digest_Hex n).fn [((eA 1 (T.int .u8)) r1)] = some ([.tree (.str r2)], []), (r2.toList == str_3.toList) = true, (sp_merkle_Depth n).fn [(.int .i64 (1:Int))] = some ([.tree (.int .i64 r3)], []), (r3 == (0:Int)) = false] (by kernel_rfl) ⟨(ap_merkle_Zero n (by exact ⟨leT.refl _, trivial⟩) hr1), (ap_digest_Hex n (by exact ⟨leT.refl _, trivial⟩) hr2), hb0, (ap_merkle_Depth n (by exact ⟨leT.refl _, trivial⟩) hr3), hb1, trivial⟩ ?_
      refine Nxt_norm ?_
      refine Ab.ret ?_
      obtain rfl := Option.some.inj h
      exact End_ret (doneO_ok (md := [false]) (by kernel_rfl))
  · replace h := cond_f hb0 h
    refine Ab.regT hE hC hL [[.r [.tree ((eA 1 (T.int .u8)) r1)] []], [.r [.tree (.str r2)] []], [], [.b false]] { keep := [0], ren := [] } ⟨[(0, (.t (.bool false)))], []⟩ [(sp_merkle_Zero n).fn [(.int .i64 (1:Int))] = some ([.tree ((eA 1 (T.int .u8)) r1)], []), (sp_digest_Hex n).fn [((eA 1 (T.int .u8)) r1)] = some ([.tree (.str r2)], []), (r2.toList == str_3.toList) = false] (by kernel_rfl) ⟨(ap_merkle_Zero n (by exact ⟨leT.refl _, trivial⟩) hr1), (ap_digest_Hex n (by exact ⟨leT.refl _, trivial⟩) hr2), hb0, trivial⟩ ?_
    refine Nxt_norm ?_
    refine Ab.ret ?_
    obtain rfl := Option.some.inj h
    exact End_ret (doneO_ok (md := [false]) (by kernel_rfl))
def ea_law03_own (a : (List (Arr 32 Int))) : List T := [(eS 32 (eA 1 (T.int .u8))) a]
def er_law03_own (r : (List (Arr 32 Int))) : List RR × List T := ([.row 25 32 (List.map (eA 1 (T.int .u8)) r)], [])
noncomputable def sp_law03_own (n : Nat) : Spec := specP [] false ea_law03_own (fun a => f_law03_own n a) (fun _ r => er_law03_own r)
theorem ap_law03_own (n : Nat) {ts : List T} {a0 : (List (Arr 32 Int))} {r : (List (Arr 32 Int))} (hle : leTs ts [(eS 32 (eA 1 (T.int .u8))) a0]) (h : f_law03_own n a0 = some r) : (sp_law03_own n).fn ts = some ([.row 25 32 (List.map (eA 1 (T.int .u8)) r)], []) :=
  specP_fn (a := a0) (InjA.one (inj_eS (inj_eA (inj_int _)))) hle h
noncomputable def E_law03_own (n : Nat) : Env := { ty := tyT, glob := glob, fns := get [], ntmps := 6 }
theorem eok_law03_own (n : Nat) : EnvOK Tryd.prog (E_law03_own n) := ⟨tys_ok tys_chk, prog_mixed, fns_nil⟩
def K_law03_own (n : Nat) (pl0 : (List (Arr 32 Int))) (r : (List (Arr 32 Int))) : St → Prop := Done (E_law03_own n) Tryd.f30.results.toList [] (ea_law03_own pl0) (er_law03_own r).1 (er_law03_own r).2
set_option maxRecDepth 100000 in
set_option maxHeartbeats 4000000 in
theorem ok_law03_own (n : Nat) : SpecOK Tryd.prog glob 30 (sp_law03_own n) := by
  refine specP_ok (fn := Tryd.f30) (eok_law03_own n) (by kernel_rfl) rfl (by decide +kernel) (by kernel_rfl) (fun _ => by show 1 ≤ 6; omega) (fun h => Bool.noConfusion h) ?_
  rintro pl0 r h C hL hC
  have hE := eok_law03_own n
  replace hL : ∀ n g, (n, g) ∈ C.lent → n ∈ ([] : List Nat) := hL
  replace h : f_law03_own n pl0 = some r := h
  show Ab _ _ _ _ _ (End (K_law03_own n pl0 r))
  unfold f_law03_own at h
  refine Ab.seq ?_
  refine Ab.regT hE hC hL [] { keep := [0], ren := [] } ⟨[(0, (.t ((eS 32 (eA 1 (T.int .u8))) pl0)))], []⟩ [] (by kernel_rfl) trivial ?_
  refine Nxt_norm ?_
  refine Ab.seq ?_
  obtain ⟨hq0, h⟩ := ask_dec h
  refine Ab.regT hE hC hL [[], [], [.l (List.map (eA 1 (T.int .u8)) (([] : List (Arr 32 Int)) ++ pl0))]] { keep := [2], ren := [(5, 5)] } ⟨[(2, (.own 5))], [(5, (.row false 25 32 (List.map (eA 1 (T.int .u8)) (([] : List (Arr 32 Int)) ++ pl0))))]⟩ [(List.length (List.map (eA 1 (T.int .u8)) ([] : List (Arr 32 Int))) + List.length (List.map (eA 1 (T.int .u8)) pl0)) * 32 ≤ maxBytes, List.length (List.map (eA 1 (T.int .u8)) ([] : List (Arr 32 Int))) + List.length (List.map (eA 1 (T.int .u8)) pl0) ≤ maxBytes, (List.map (eA 1 (T.int .u8)) ([] : List (Arr 32 Int))) ++ (List.map (eA 1 (T.int .u8)) pl0) = List.map (eA 1 (T.int .u8)) (([] : List (Arr 32 Int)) ++ pl0)] (by kernel_rfl) ⟨(app_b rfl rfl hq0), (app_c rfl rfl (by decide) hq0), (app_of rfl rfl), trivial⟩ ?_
  refine Nxt_norm ?_
  refine Ab.ret ?_
  obtain rfl := Option.some.inj h
  exact End_ret (doneO_ok (md := [true]) (by kernel_rfl))
def ea_law03_MerkleWider (a : (List (Arr 32 Int)) × Int) : List T := [(eS 32 (eA 1 (T.int .u8))) a.1, (T.int .i64) a.2]
def er_law03_MerkleWider (r : Bool) : List RR × List T := ([.tree (T.bool r)], [])
noncomputable def sp_law03_MerkleWider (n : Nat) : Spec := specP [] true ea_law03_MerkleWider (fun a => f_law03_MerkleWider n a.1 a.2) (fun _ r => er_law03_MerkleWider r)
theorem ap_law03_MerkleWider (n : Nat) {ts : List T} {a0 : (List (Arr 32 Int))} {a1 : Int} {r : Bool} (hle : leTs ts [(eS 32 (eA 1 (T.int .u8))) a0, (T.int .i64) a1]) (h : f_law03_MerkleWider n a0 a1 = some r) : (sp_law03_MerkleWider n).fn ts = some ([.tree (T.bool r)], []) :=
  specP_fn (a := (a0, a1)) (InjA.cons (inj_eS (inj_eA (inj_int _))) (InjA.one (inj_int _))) hle h
noncomputable def E_law03_MerkleWider (n : Nat) : Env := { ty := tyT, glob := glob, fns := get [(16, sp_digest_Pair n), (28, sp_law03_Awake n), (29, sp_merkle_Tree n), (30, sp_law03_own n), (31, sp_merkle_Zero n)], ntmps := 50 }
theorem eok_law03_MerkleWider (n : Nat) : EnvOK Tryd.prog (E_law03_MerkleWider n) := ⟨tys_ok tys_chk, prog_mixed, (fns_cons (ok_digest_Pair n) (fns_cons (ok_law03_Awake n) (fns_cons (ok_merkle_Tree n) (fns_cons (ok_law03_own n) (fns_cons (ok_merkle_Zero n) fns_nil)))))⟩
def K_law03_MerkleWider (n : Nat) (pl0 : (List (Arr 32 Int))) (pdepth0 : Int) (r : Bool) : St → Prop := Done (E_law03_MerkleWider n) Tryd.f8.results.toList [] (ea_law03_MerkleWider (pl0, pdepth0)) (er_law03_MerkleWider r).1 (er_law03_MerkleWider r).2
set_option maxRecDepth 100000 in
set_option maxHeartbeats 4000000 in
theorem ok_law03_MerkleWider (n : Nat) : SpecB Tryd.prog glob 8 (sp_law03_MerkleWider n) := by
  refine specP_B (fn := Tryd.f8) (eok_law03_MerkleWider n) (by kernel_rfl) rfl (by decide +kernel) (by kernel_rfl) (fun _ => by show 2 ≤ 50; omega)  ?_
  rintro ⟨pl0, pdepth0⟩ r h C hL hC
  have hE := eok_law03_MerkleWider n
  replace hL : ∀ n g, (n, g) ∈ C.lent → n ∈ ([] : List Nat) := hL
  replace h : f_law03_MerkleWider n pl0 pdepth0 = some r := h
  show Ab _ _ _ _ _ (End (K_law03_MerkleWider n pl0 pdepth0 r))
  unfold f_law03_MerkleWider at h
  refine Ab.seq ?_
  refine Ab.regT hE hC hL [] { keep := [0, 1], ren := [] } ⟨[(0, (.t ((eS 32 (eA 1 (T.int .u8))) pl0))), (1, (.t (.int .i64 pdepth0)))], []⟩ [] (by kernel_rfl) trivial ?_
  refine Nxt_norm ?_
  refine Ab.seq ?_
  refine Ab.seq ?_
  obtain ⟨r0, hr0, h⟩ := bind_some h
  refine Ab.regT hE hC hL [[.r [.tree (.bool r0)] []]] { keep := [0, 1, 10], ren := [] } ⟨[(0, (.t ((eS 32 (eA 1 (T.int .u8))) pl0))), (1, (.t (.int .i64 pdepth0))), (10, (.t (.bool (!r0))))], []⟩ [(sp_law03_Awake n).fn [] = some ([.tree (.bool r0)], [])] (by kernel_rfl) ⟨(ap_law03_Awake n (by exact trivial) hr0), trivial⟩ ?_
  refine Nxt_norm ?_
  refine Ab.cond (b := (!r0)) (by kernel_rfl) (fun hb0 => ?_) (fun hb0 => ?_)
  · replace h := cond_t hb0 h
    refine Ab.seq ?_
    refine Ab.regT hE hC hL [] { keep := [4], ren := [] } ⟨[(4, (.t (.bool false)))], []⟩ [] (by kernel_rfl) trivial ?_
    refine Nxt_norm ?_
    refine Ab.ret ?_
    refine Nxt_ret ?_
    obtain rfl := Option.some.inj h
    exact End_ret (doneO_ok (md := [false]) (by kernel_rfl))
  · replace h := cond_f hb0 h
    refine Ab.skip ?_
    refine Nxt_norm ?_
    refine Ab.seq ?_
    refine Ab.regT hE hC hL [] { keep := [0, 1], ren := [] } ⟨[(0, (.t ((eS 32 (eA 1 (T.int .u8))) pl0))), (1, (.t (.int .i64 (wi ((w64 pdepth0).tmod (7:Int))))))], []⟩ [] (by kernel_rfl) trivial ?_
    refine Nxt_norm ?_
    refine Ab.seq ?_
    refine Ab.seq ?_
    obtain ⟨hq0, h⟩ := ask_dec h
    refine Ab.regT hE hC hL [[], [.n (pl0.length : Int)], [], [.c]] { keep := [0, 1, 19], ren := [] } ⟨[(0, (.t ((eS 32 (eA 1 (T.int .u8))) pl0))), (1, (.t (.int .i64 (wi ((w64 pdepth0).tmod (7:Int)))))), (19, (.t (.bool (decide ((pl0.length : Int) > (shl .i64 (1:Int) (wi ((w64 pdepth0).tmod (7:Int)))))))))], []⟩ [((List.length (List.map (eA 1 (T.int .u8)) pl0) : Nat) : Int) = (pl0.length : Int), ¬ (wi ((w64 pdepth0).tmod (7:Int))) < 0] (by kernel_rfl) ⟨(len_of rfl), (Int.not_lt.2 hq0), trivial⟩ ?_
    refine Nxt_norm ?_
    refine Ab.cond (b := (decide ((pl0.length : Int) > (shl .i64 (1:Int) (wi ((w64 pdepth0).tmod (7:Int))))))) (by kernel_rfl) (fun hb1 => ?_) (fun hb1 => ?_)
    · replace h := cond_t hb1 h
      refine Ab.seq ?_
      refine Ab.regT hE hC hL [] { keep := [4], ren := [] } ⟨[(4, (.t (.bool true)))], []⟩ [] (by kernel_rfl) trivial ?_
      refine Nxt_norm ?_
      refine Ab.ret ?_
      refine Nxt_ret ?_
      obtain rfl := Option.some.inj h
      exact End_ret (doneO_ok (md := [false]) (by kernel_rfl))
    · replace h := cond_f hb1 h
      refine Ab.skip ?_
      refine Nxt_norm ?_
      refine Ab.seq ?_
      obtain ⟨r1, hr1, h⟩ := bind_some h
      obtain ⟨r2, hr2, h⟩ := bind_some h
      refine Ab.regA hE hC hL [[], [.r [.row 25 32 (List.map (eA 1 (T.int .u8)) r1)] []], [], [.c], [.r [.tree ((eA 1 (T.int .u8)) r2.1), .tree (.int .i64 r2.2)] []]] { keep := [0, 1, 5, 6], ren := [(5, 5)] } ⟨[(0, (.t ((eS 32 (eA 1 (T.int .u8))) pl0))), (1, (.t (.int .i64 (wi ((w64 pdepth0).tmod (7:Int)))))), (5, (.ref 5 [] (0))), (6, (.t (.int .i64 r2.2)))], [(5, (.var false 25 (.t ((eA 1 (T.int .u8)) r2.1))))]⟩ [(sp_law03_own n).fn [((eS 32 (eA 1 (T.int .u8))) pl0)] = some ([.row 25 32 (List.map (eA 1 (T.int .u8)) r1)], []), ¬ (wi ((w64 pdepth0).tmod (7:Int))) < 0, (sp_merkle_Tree n).fn [(.slc 32 (List.map (eA 1 (T.int .u8)) r1)), (.int .i64 (shl .i64 (1:Int) (wi ((w64 pdepth0).tmod (7:Int)))))] = some ([.tree ((eA 1 (T.int .u8)) r2.1), .tree (.int .i64 r2.2)], [])] (by kernel_rfl) (by kernel_rfl) ⟨(ap_law03_own n (by exact ⟨leT.refl _, trivial⟩) hr1), (Int.not_lt.2 hq0), (ap_merkle_Tree n (by exact ⟨leT.refl _, leT.refl _, trivial⟩) hr2), trivial⟩ ?_
      refine Nxt_norm ?_
      refine Ab.seq ?_
      obtain ⟨r3, hr3, h⟩ := bind_some h
      obtain ⟨r4, hr4, h⟩ := bind_some h
      refine Ab.regA hE hC hL [[], [.r [.row 25 32 (List.map (eA 1 (T.int .u8)) r3)] []], [], [.c], [.r [.tree ((eA 1 (T.int .u8)) r4.1), .tree (.int .i64 r4.2)] []]] { keep := [1, 5, 6, 7, 8], ren := [(5, 5), (7, 7)] } ⟨[(1, (.t (.int .i64 (wi ((w64 pdepth0).tmod (7:Int)))))), (5, (.ref 5 [] (0))), (6, (.t (.int .i64 r2.2))), (7, (.ref 7 [] (0))), (8, (.t (.int .i64 r4.2)))], [(5, (.var false 25 (.t ((eA 1 (T.int .u8)) r2.1)))), (7, (.var false 25 (.t ((eA 1 (T.int .u8)) r4.1))))]⟩ [(sp_law03_own n).fn [((eS 32 (eA 1 (T.int .u8))) pl0)] = some ([.row 25 32 (List.map (eA 1 (T.int .u8)) r3)], []), ¬ (wi ((w64 pdepth0).tmod (7:Int))) < 0, (sp_merkle_Tree n).fn [(.slc 32 (List.map (eA 1 (T.int .u8)) r3)), (.int .i64 (shl .i64 (2:Int) (wi ((w64 pdepth0).tmod (7:Int)))))] = some ([.tree ((eA 1 (T.int .u8)) r4.1), .tree (.int .i64 r4.2)], [])] (by kernel_rfl) (by kernel_rfl) ⟨(ap_law03_own n (by exact ⟨leT.refl _, trivial⟩) hr3), (Int.not_lt.2 hq0), (ap_merkle_Tree n (by exact ⟨leT.refl _, leT.refl _, trivial⟩) hr4), trivial⟩ ?_
      refine Nxt_norm ?_
      refine Ab.seq ?_
      rcases Bool.eq_false_or_eq_true (r2.2 == (0:Int)) with hb2 | hb2
      · replace h := cond_t hb2 h
        rcases Bool.eq_false_or_eq_true (r4.2 == (0:Int)) with hb3 | hb3
        · replace h := cond_t hb3 h
          obtain ⟨r5, hr5, h⟩ := bind_some h
          obtain ⟨r6, hr6, h⟩ := bind_some h
          refine Ab.regA hE hC hL [[], [], [.b true], [], [], [], [.b true], [], [], [], [.r [.tree ((eA 1 (T.int .u8)) r5)] []], [.r [.tree ((eA 1 (T.int .u8)) r6)] []], [.b (decide (r4.1 = r6))]] { keep := [4], ren := [] } ⟨[(4, (.t (.bool (decide (r4.1 = r6)))))], []⟩ [(r2.2 == (0:Int)) = true, (r4.2 == (0:Int)) = true, (sp_merkle_Zero n).fn [(.int .i64 (wi ((w64 pdepth0).tmod (7:Int))))] = some ([.tree ((eA 1 (T.int .u8)) r5)], []), (sp_digest_Pair n).fn [((eA 1 (T.int .u8)) r2.1), ((eA 1 (T.int .u8)) r5)] = some ([.tree ((eA 1 (T.int .u8)) r6)], []), binOp (E_law03_MerkleWider n) .eql 25 (.t ((eA 1 (T.int .u8)) r4.1)) (.t ((eA 1 (T.int .u8)) r6)) = some (.bool (decide (r4.1 = r6)))] (by kernel_rfl) (by kernel_rfl) ⟨hb2, hb3, (ap_merkle_Zero n (by exact ⟨leT.refl _, trivial⟩) hr5), (ap_digest_Pair n (by exact ⟨leT.refl _, leT.refl _, trivial⟩) hr6), (beql_25 _ rfl _ _), trivial⟩ ?_
          refine Nxt_norm ?_
          refine Ab.ret ?_
          obtain rfl := Option.some.inj h
          exact End_ret (doneO_ok (md := [false]) (by kernel_rfl))
        · replace h := cond_f hb3 h
          refine Ab.regA hE hC hL [[], [], [.b true], [], [], [], [.b false]] { keep := [4], ren := [] } ⟨[(4, (.t (.bool false)))], []⟩ [(r2.2 == (0:Int)) = true, (r4.2 == (0:Int)) = false] (by kernel_rfl) (by kernel_rfl) ⟨hb2, hb3, trivial⟩ ?_
          refine Nxt_norm ?_
          refine Ab.ret ?_
          obtain rfl := Option.some.inj h
          exact End_ret (doneO_ok (md := [false]) (by kernel_rfl))
      · replace h := cond_f hb2 h
        refine Ab.regA hE hC hL [[], [], [.b false]] { keep := [4], ren := [] } ⟨[(4, (.t (.bool false)))], []⟩ [(r2.2 == (0:Int)) = false] (by kernel_rfl) (by kernel_rfl) ⟨hb2, trivial⟩ ?_
        refine Nxt_norm ?_
        refine Ab.ret ?_
        obtain rfl := Option.some.inj h
        exact End_ret (doneO_ok (md := [false]) (by kernel_rfl))
def ea_ref02_Depth (a : Int) : List T := [(T.int .i64) a]
def er_ref02_Depth (r : Int) : List RR × List T := ([.tree ((T.int .i64) r)], [])
noncomputable def sp_ref02_Depth (n : Nat) : Spec := specP [] true ea_ref02_Depth (fun a => f_ref02_Depth n a) (fun _ r => er_ref02_Depth r)
theorem ap_ref02_Depth (n : Nat) {ts : List T} {a0 : Int} {r : Int} (hle : leTs ts [(T.int .i64) a0]) (h : f_ref02_Depth n a0 = some r) : (sp_ref02_Depth n).fn ts = some ([.tree ((T.int .i64) r)], []) :=
  specP_fn (a := a0) (InjA.one (inj_int _)) hle h
noncomputable def E_ref02_Depth (n : Nat) : Env := { ty := tyT, glob := glob, fns := get [], ntmps := 15 }
theorem eok_ref02_Depth (n : Nat) : EnvOK Tryd.prog (E_ref02_Depth n) := ⟨tys_ok tys_chk, prog_mixed, fns_nil⟩
def K_ref02_Depth (n : Nat) (plimit0 : Int) (r : Int) : St → Prop := Done (E_ref02_Depth n) Tryd.f37.results.toList [] (ea_ref02_Depth plimit0) (er_ref02_Depth r).1 (er_ref02_Depth r).2
set_option maxRecDepth 100000 in
set_option maxHeartbeats 4000000 in
theorem ok_ref02_Depth (n : Nat) : SpecOK Tryd.prog glob 37 (sp_ref02_Depth n) := by
  refine specP_ok (fn := Tryd.f37) (eok_ref02_Depth n) (by kernel_rfl) rfl (by decide +kernel) (by kernel_rfl) (fun _ => by show 1 ≤ 15; omega) (fun _ _ r => ⟨(rrf_tree ((fun _ => rfl) _) rrf_nil), flats_nil⟩) ?_
  rintro plimit0 r h C hL hC
  have hE := eok_ref02_Depth n
  replace hL : ∀ n g, (n, g) ∈ C.lent → n ∈ ([] : List Nat) := hL
  replace h : f_ref02_Depth n plimit0 = some r := h
  show Ab _ _ _ _ _ (End (K_ref02_Depth n plimit0 r))
  unfold f_ref02_Depth at h
  refine Ab.seq ?_
  refine Ab.regT hE hC hL [] { keep := [0], ren := [] } ⟨[(0, (.t (.int .i64 plimit0)))], []⟩ [] (by kernel_rfl) trivial ?_
  refine Nxt_norm ?_
  refine Ab.seq ?_
  refine Ab.regT hE hC hL [] { keep := [0, 3], ren := [] } ⟨[(0, (.t (.int .i64 plimit0))), (3, (.t (.int .i64 (0:Int))))], []⟩ [] (by kernel_rfl) trivial ?_
  refine Nxt_norm ?_
  obtain ⟨x0, hx0, h⟩ := bind_some h
  refine Ab.loopX (fun (a0 : Int) => (⟨[(0, (.t (.int .i64 plimit0))), (3, (.t (.int .i64 a0)))], []⟩ : St)) (fun (a1 : Int) => (⟨[(3, (.t (.int .i64 a1)))], []⟩ : St)) { fs := [], keep := [0, 3], ren := [] } (0:Int) hC hL hx0 (by kernel_rfl) ?_ ?_
  · rintro a0 o0 h
    replace h : f_ref02_Depth_b0 n plimit0 a0 = some o0 := h
    unfold f_ref02_Depth_b0 at h
    refine Ab.seq ?_
    refine Ab.seq ?_
    rcases Bool.eq_false_or_eq_true (decide (a0 < (62:Int))) with hb0 | hb0
    · replace h := cond_t hb0 h
      obtain ⟨hq0, h⟩ := ask_dec h
      refine Ab.regT hE hC hL [[], [], [.b true], [], [.c]] { keep := [0, 3, 11], ren := [] } ⟨[(0, (.t (.int .i64 plimit0))), (3, (.t (.int .i64 a0))), (11, (.t (.bool (decide ((shl .i64 (1:Int) a0) < plimit0)))))], []⟩ [(decide (a0 < (62:Int))) = true, ¬ a0 < 0] (by kernel_rfl) ⟨hb0, (Int.not_lt.2 hq0), trivial⟩ ?_
      refine Nxt_norm ?_
      refine Ab.cond (b := (decide ((shl .i64 (1:Int) a0) < plimit0))) (by kernel_rfl) (fun hb1 => ?_) (fun hb1 => ?_)
      · replace h := cond_t hb1 h
        refine Ab.skip ?_
        refine Nxt_norm ?_
        refine Ab.block ?_
        refine Ab.regT hE hC hL [] { keep := [0, 3], ren := [] } ⟨[(0, (.t (.int .i64 plimit0))), (3, (.t (.int .i64 (wi (a0 + (1:Int))))))], []⟩ [] (by kernel_rfl) trivial ?_
        refine Blk_norm ?_
        exact LK_norm (wi (a0 + (1:Int))) { fs := [], keep := [0, 3], ren := [] } h (by kernel_rfl)
      · replace h := cond_f hb1 h
        refine Ab.exit ?_
        refine Nxt_exit ?_
        exact LK_exit a0 h (PX_mk { fs := [], keep := [3], ren := [] } (by kernel_rfl))
    · replace h := cond_f hb0 h
      refine Ab.regT hE hC hL [[], [], [.b false]] { keep := [0, 3, 11], ren := [] } ⟨[(0, (.t (.int .i64 plimit0))), (3, (.t (.int .i64 a0))), (11, (.t (.bool false)))], []⟩ [(decide (a0 < (62:Int))) = false] (by kernel_rfl) ⟨hb0, trivial⟩ ?_
      refine Nxt_norm ?_
      refine Ab.cond (b := false) (by kernel_rfl) (fun hb => Bool.noConfusion hb) (fun _ => ?_)
      refine Ab.exit ?_
      refine Nxt_exit ?_
      exact LK_exit a0 h (PX_mk { fs := [], keep := [3], ren := [] } (by kernel_rfl))
  · refine Ab.seq ?_
    refine Ab.regT hE hC hL [] { keep := [2], ren := [] } ⟨[(2, (.t (.int .i64 x0)))], []⟩ [] (by kernel_rfl) trivial ?_
    refine Nxt_norm ?_
    refine Ab.ret ?_
    obtain rfl := Option.some.inj h
    exact End_ret (doneO_ok (md := [false]) (by kernel_rfl))
def ea_ref02_Zero (a : Int) : List T := [(T.int .i64) a]
def er_ref02_Zero (r : (Arr 32 Int)) : List RR × List T := ([.tree ((eA 1 (T.int .u8)) r)], [])
noncomputable def sp_ref02_Zero (n : Nat) : Spec := specP [] true ea_ref02_Zero (fun a => f_ref02_Zero n a) (fun _ r => er_ref02_Zero r)
theorem ap_ref02_Zero (n : Nat) {ts : List T} {a0 : Int} {r : (Arr 32 Int)} (hle : leTs ts [(T.int .i64) a0]) (h : f_ref02_Zero n a0 = some r) : (sp_ref02_Zero n).fn ts = some ([.tree ((eA 1 (T.int .u8)) r)], []) :=
  specP_fn (a := a0) (InjA.one (inj_int _)) hle h
noncomputable def E_ref02_Zero (n : Nat) : Env := { ty := tyT, glob := glob, fns := get [(17, sp_ref02_Pair n)], ntmps := 15 }
theorem eok_ref02_Zero (n : Nat) : EnvOK Tryd.prog (E_ref02_Zero n) := ⟨tys_ok tys_chk, prog_mixed, (fns_cons (ok_ref02_Pair n) fns_nil)⟩
def K_ref02_Zero (n : Nat) (pdepth0 : Int) (r : (Arr 32 Int)) : St → Prop := Done (E_ref02_Zero n) Tryd.f38.results.toList [] (ea_ref02_Zero pdepth0) (er_ref02_Zero r).1 (er_ref02_Zero r).2
set_option maxRecDepth 100000 in
set_option maxHeartbeats 4000000 in
theorem ok_ref02_Zero (n : Nat) : SpecOK Tryd.prog glob 38 (sp_ref02_Zero n) := by
  refine specP_ok (fn := Tryd.f38) (eok_ref02_Zero n) (by kernel_rfl) rfl (by decide +kernel) (by kernel_rfl) (fun _ => by show 1 ≤ 15; omega) (fun _ _ r => ⟨(rrf_tree ((flat_eA (fun _ => rfl)) _) rrf_nil), flats_nil⟩) ?_
  rintro pdepth0 r h C hL hC
  have hE := eok_ref02_Zero n
  replace hL : ∀ n g, (n, g) ∈ C.lent → n ∈ ([] : List Nat) := hL
  replace h : f_ref02_Zero n pdepth0 = some r := h
  show Ab _ _ _ _ _ (End (K_ref02_Zero n pdepth0 r))
  unfold f_ref02_Zero at h
  refine Ab.seq ?_
  refine Ab.regT hE hC hL [] { keep := [0, 2], ren := [(2, 2)] } ⟨[(0, (.t (.int .i64 pdepth0))), (2, (.ref 2 [] (0)))], [(2, (.var false 24 (.t ((eA 1 (T.int .u8)) (Arr.rep 32 (0:Int))))))]⟩ [] (by kernel_rfl) trivial ?_
  refine Nxt_norm ?_
  refine Ab.seq ?_
  refine Ab.regT hE hC hL [] { keep := [0, 2, 3], ren := [(2, 2), (3, 3)] } ⟨[(0, (.t (.int .i64 pdepth0))), (2, (.ref 2 [] (0))), (3, (.ref 3 [] (0)))], [(2, (.var false 24 (.t ((eA 1 (T.int .u8)) (Arr.rep 32 (0:Int)))))), (3, (.var false 24 (.t ((eA 1 (T.int .u8)) (Arr.rep 32 (0:Int))))))]⟩ [] (by kernel_rfl) trivial ?_
  refine Nxt_norm ?_
  refine Ab.seq ?_
  refine Ab.seq ?_
  refine Ab.regT hE hC hL [] { keep := [0, 2, 3, 4], ren := [(2, 2), (3, 3)] } ⟨[(0, (.t (.int .i64 pdepth0))), (2, (.ref 2 [] (0))), (3, (.ref 3 [] (0))), (4, (.t (.int .i64 (0:Int))))], [(2, (.var false 24 (.t ((eA 1 (T.int .u8)) (Arr.rep 32 (0:Int)))))), (3, (.var false 24 (.t ((eA 1 (T.int .u8)) (Arr.rep 32 (0:Int))))))]⟩ [] (by kernel_rfl) trivial ?_
  refine Nxt_norm ?_
  obtain ⟨x0, hx0, h⟩ := bind_some h
  refine Ab.loopX0 (fun ((a0, a1) : ((Arr 32 Int) × Int)) => (⟨[(0, (.t (.int .i64 pdepth0))), (2, (.ref 49000 [] (0))), (3, (.ref 49001 [] (0))), (4, (.t (.int .i64 a1)))], [(49000, (.var false 24 (.t ((eA 1 (T.int .u8)) (Arr.rep 32 (0:Int)))))), (49001, (.var false 24 (.t ((eA 1 (T.int .u8)) a0))))]⟩ : St)) (fun (a2 : (Arr 32 Int)) => (⟨[(2, (.ref 49000 [] (0))), (3, (.ref 49001 [] (0)))], [(49000, (.var false 24 (.t ((eA 1 (T.int .u8)) (Arr.rep 32 (0:Int)))))), (49001, (.var false 24 (.t ((eA 1 (T.int .u8)) a2))))]⟩ : St)) { fs := [], keep := [0, 2, 3, 4], ren := [(2, 49000), (3, 49001)] } ((Arr.rep 32 (0:Int)), (0:Int)) hC hL hx0 (by kernel_rfl) ?_ ?_
  · rintro ⟨a0, a1⟩ o0 h
    replace h : f_ref02_Zero_b0 n pdepth0 a0 a1 = some o0 := h
    unfold f_ref02_Zero_b0 at h
    refine Ab.seq ?_
    refine Ab.seq ?_
    refine Ab.regT hE hC hL [] { keep := [0, 2, 3, 4, 8], ren := [(49000, 49000), (49001, 49001)] } ⟨[(0, (.t (.int .i64 pdepth0))), (2, (.ref 49000 [] (0))), (3, (.ref 49001 [] (0))), (4, (.t (.int .i64 a1))), (8, (.t (.bool (decide (a1 < pdepth0)))))], [(49000, (.var false 24 (.t ((eA 1 (T.int .u8)) (Arr.rep 32 (0:Int)))))), (49001, (.var false 24 (.t ((eA 1 (T.int .u8)) a0))))]⟩ [] (by kernel_rfl) trivial ?_
    refine Nxt_norm ?_
    refine Ab.cond (b := (decide (a1 < pdepth0))) (by kernel_rfl) (fun hb0 => ?_) (fun hb0 => ?_)
    · replace h := cond_t hb0 h
      refine Ab.skip ?_
      refine Nxt_norm ?_
      refine Ab.seq ?_
      refine Ab.block ?_
      obtain ⟨r0, hr0, h⟩ := bind_some h
      refine Ab.regT hE hC hL [[], [], [.r [.tree ((eA 1 (T.int .u8)) r0)] []]] { keep := [0, 2, 3, 4], ren := [(49000, 49000), (49001, 49001)] } ⟨[(0, (.t (.int .i64 pdepth0))), (2, (.ref 49000 [] (0))), (3, (.ref 49001 [] (0))), (4, (.t (.int .i64 a1)))], [(49000, (.var false 24 (.t ((eA 1 (T.int .u8)) (Arr.rep 32 (0:Int)))))), (49001, (.var false 24 (.t ((eA 1 (T.int .u8)) r0))))]⟩ [(sp_ref02_Pair n).fn [((eA 1 (T.int .u8)) a0), ((eA 1 (T.int .u8)) a0)] = some ([.tree ((eA 1 (T.int .u8)) r0)], [])] (by kernel_rfl) ⟨(ap_ref02_Pair n (by exact ⟨leT.refl _, leT.refl _, trivial⟩) hr0), trivial⟩ ?_
      refine Blk_norm ?_
      refine Nxt_norm ?_
      refine Ab.regT hE hC hL [] { keep := [0, 2, 3, 4], ren := [(49000, 49000), (49001, 49001)] } ⟨[(0, (.t (.int .i64 pdepth0))), (2, (.ref 49000 [] (0))), (3, (.ref 49001 [] (0))), (4, (.t (.int .i64 (wi (a1 + (1:Int))))))], [(49000, (.var false 24 (.t ((eA 1 (T.int .u8)) (Arr.rep 32 (0:Int)))))), (49001, (.var false 24 (.t ((eA 1 (T.int .u8)) r0))))]⟩ [] (by kernel_rfl) trivial ?_
      exact LK_norm (r0, (wi (a1 + (1:Int)))) { fs := [], keep := [0, 2, 3, 4], ren := [(49000, 49000), (49001, 49001)] } h (by kernel_rfl)
    · replace h := cond_f hb0 h
      refine Ab.exit ?_
      refine Nxt_exit ?_
      exact LK_exit a0 h (PX_mk { fs := [], keep := [2, 3], ren := [(49000, 49000), (49001, 49001)] } (by kernel_rfl))
  · refine Nxt_norm ?_
    refine Ab.seq ?_
    refine Ab.regT hE hC hL [] { keep := [2], ren := [(49000, 49000)] } ⟨[(2, (.ref 49000 [] (0)))], [(49000, (.var false 24 (.t ((eA 1 (T.int .u8)) x0))))]⟩ [] (by kernel_rfl) trivial ?_
    refine Nxt_norm ?_
    refine Ab.ret ?_
    obtain rfl := Option.some.inj h
    exact End_ret (doneO_ok (md := [false]) (by kernel_rfl))
def ea_ref02_Full (a : (List (Arr 32 Int)) × Int) : List T := [(eS 32 (eA 1 (T.int .u8))) a.1, (T.int .i64) a.2]
def er_ref02_Full (r : (Arr 32 Int)) : List RR × List T := ([.tree ((eA 1 (T.int .u8)) r)], [])
noncomputable def sp_ref02_Full (n : Nat) : Spec := specP [] true ea_ref02_Full (fun a => f_ref02_Full n a.1 a.2) (fun _ r => er_ref02_Full r)
theorem ap_ref02_Full (n : Nat) {ts : List T} {a0 : (List (Arr 32 Int))} {a1 : Int} {r : (Arr 32 Int)} (hle : leTs ts [(eS 32 (eA 1 (T.int .u8))) a0, (T.int .i64) a1]) (h : f_ref02_Full n a0 a1 = some r) : (sp_ref02_Full n).fn ts = some ([.tree ((eA 1 (T.int .u8)) r)], []) :=
  specP_fn (a := (a0, a1)) (InjA.cons (inj_eS (inj_eA (inj_int _))) (InjA.one (inj_int _))) hle h
noncomputable def E_ref02_Full (n : Nat) : Env := { ty := tyT, glob := glob, fns := get [(17, sp_ref02_Pair n), (38, sp_ref02_Zero n), (51, sp_ref02_Full n)], ntmps := 44 }
theorem eok_ref02_Full (n : Nat) (ih : SpecOK Tryd.prog glob 51 (sp_ref02_Full n)) : EnvOK Tryd.prog (E_ref02_Full n) := ⟨tys_ok tys_chk, prog_mixed, (fns_cons (ok_ref02_Pair n) (fns_cons (ok_ref02_Zero n) (fns_cons ih fns_nil)))⟩
def K_ref02_Full (n : Nat) (pl0 : (List (Arr 32 Int))) (pdepth0 : Int) (r : (Arr 32 Int)) : St → Prop := Done (E_ref02_Full n) Tryd.f51.results.toList [] (ea_ref02_Full (pl0, pdepth0)) (er_ref02_Full r).1 (er_ref02_Full r).2
set_option maxRecDepth 100000 in
set_option maxHeartbeats 4000000 in
theorem ok_ref02_Full_s (n : Nat) (ih : SpecOK Tryd.prog glob 51 (sp_ref02_Full n)) : SpecOK Tryd.prog glob 51 (sp_ref02_Full (n + 1)) := by
  refine specP_ok (fn := Tryd.f51) (eok_ref02_Full n ih) (by kernel_rfl) rfl (by decide +kernel) (by kernel_rfl) (fun _ => by show 2 ≤ 44; omega) (fun _ _ r => ⟨(rrf_tree ((flat_eA (fun _ => rfl)) _) rrf_nil), flats_nil⟩) ?_
  rintro ⟨pl0, pdepth0⟩ r h C hL hC
  have hE := eok_ref02_Full n ih
  replace hL : ∀ n g, (n, g) ∈ C.lent → n ∈ ([] : List Nat) := hL
  replace h : f_ref02_Full_r n (f_ref02_Full n) pl0 pdepth0 = some r := h
  show Ab _ _ _ _ _ (End (K_ref02_Full n pl0 pdepth0 r))
  unfold f_ref02_Full_r at h
  refine Ab.seq ?_
  refine Ab.regT hE hC hL [] { keep := [0, 1, 4], ren := [(4, 4)] } ⟨[(0, (.t ((eS 32 (eA 1 (T.int .u8))) pl0))), (1, (.t (.int .i64 pdepth0))), (4, (.ref 4 [] (0)))], [(4, (.var false 24 (.t ((eA 1 (T.int .u8)) (Arr.rep 32 (0:Int))))))]⟩ [] (by kernel_rfl) trivial ?_
  refine Nxt_norm ?_
  refine Ab.seq ?_
  refine Ab.seq ?_
  refine Ab.regT hE hC hL [[], [.n (pl0.length : Int)]] { keep := [0, 1, 4, 8], ren := [(4, 4)] } ⟨[(0, (.t ((eS 32 (eA 1 (T.int .u8))) pl0))), (1, (.t (.int .i64 pdepth0))), (4, (.ref 4 [] (0))), (8, (.t (.bool ((pl0.length : Int) == (0:Int)))))], [(4, (.var false 24 (.t ((eA 1 (T.int .u8)) (Arr.rep 32 (0:Int))))))]⟩ [((List.length (List.map (eA 1 (T.int .u8)) pl0) : Nat) : Int) = (pl0.length : Int)] (by kernel_rfl) ⟨(len_of rfl), trivial⟩ ?_
  refine Nxt_norm ?_
  refine Ab.cond (b := ((pl0.length : Int) == (0:Int))) (by kernel_rfl) (fun hb0 => ?_) (fun hb0 => ?_)
  · replace h := cond_t hb0 h
    refine Ab.seq ?_
    obtain ⟨r0, hr0, h⟩ := bind_some h
    refine Ab.regT hE hC hL [[], [.r [.tree ((eA 1 (T.int .u8)) r0)] []]] { keep := [4], ren := [(4, 4)] } ⟨[(4, (.ref 4 [] (0)))], [(4, (.var false 24 (.t ((eA 1 (T.int .u8)) r0))))]⟩ [(sp_ref02_Zero n).fn [(.int .i64 pdepth0)] = some ([.tree ((eA 1 (T.int .u8)) r0)], [])] (by kernel_rfl) ⟨(ap_ref02_Zero n (by exact ⟨leT.refl _, trivial⟩) hr0), trivial⟩ ?_
    refine Nxt_norm ?_
    refine Ab.ret ?_
    refine Nxt_ret ?_
    obtain rfl := Option.some.inj h
    exact End_ret (doneO_ok (md := [false]) (by kernel_rfl))
  · replace h := cond_f hb0 h
    refine Ab.skip ?_
    refine Nxt_norm ?_
    refine Ab.seq ?_
    refine Ab.seq ?_
    refine Ab.regT hE hC hL [] { keep := [0, 1, 4, 12], ren := [(4, 4)] } ⟨[(0, (.t ((eS 32 (eA 1 (T.int .u8))) pl0))), (1, (.t (.int .i64 pdepth0))), (4, (.ref 4 [] (0))), (12, (.t (.bool (pdepth0 == (0:Int)))))], [(4, (.var false 24 (.t ((eA 1 (T.int .u8)) (Arr.rep 32 (0:Int))))))]⟩ [] (by kernel_rfl) trivial ?_
    refine Nxt_norm ?_
    refine Ab.cond (b := (pdepth0 == (0:Int))) (by kernel_rfl) (fun hb1 => ?_) (fun hb1 => ?_)
    · replace h := cond_t hb1 h
      refine Ab.seq ?_
      obtain ⟨v0, hv0, h⟩ := bind_some h
      refine Ab.regT hE hC hL [[], [.t ((eA 1 (T.int .u8)) v0)]] { keep := [4], ren := [(4, 4)] } ⟨[(4, (.ref 4 [] (0)))], [(4, (.var false 24 (.t ((eA 1 (T.int .u8)) v0))))]⟩ [0 ≤ (0:Int), (List.map (eA 1 (T.int .u8)) pl0)[0]? = some ((eA 1 (T.int .u8)) v0)] (by kernel_rfl) ⟨(by decide), (at_map hv0), trivial⟩ ?_
      refine Nxt_norm ?_
      refine Ab.ret ?_
      refine Nxt_ret ?_
      obtain rfl := Option.some.inj h
      exact End_ret (doneO_ok (md := [false]) (by kernel_rfl))
    · replace h := cond_f hb1 h
      refine Ab.skip ?_
      refine Nxt_norm ?_
      refine Ab.seq ?_
      obtain ⟨hq0, h⟩ := ask_dec h
      refine Ab.regT hE hC hL [[], [], [.c]] { keep := [0, 1, 4, 5], ren := [(4, 4)] } ⟨[(0, (.t ((eS 32 (eA 1 (T.int .u8))) pl0))), (1, (.t (.int .i64 pdepth0))), (4, (.ref 4 [] (0))), (5, (.t (.int .i64 (shl .i64 (1:Int) (wi (pdepth0 - (1:Int)))))))], [(4, (.var false 24 (.t ((eA 1 (T.int .u8)) (Arr.rep 32 (0:Int))))))]⟩ [¬ (wi (pdepth0 - (1:Int))) < 0] (by kernel_rfl) ⟨(Int.not_lt.2 hq0), trivial⟩ ?_
      refine Nxt_norm ?_
      refine Ab.seq ?_
      refine Ab.seq ?_
      refine Ab.regT hE hC hL [[], [.n (pl0.length : Int)]] { keep := [0, 1, 4, 5, 22], ren := [(4, 4)] } ⟨[(0, (.t ((eS 32 (eA 1 (T.int .u8))) pl0))), (1, (.t (.int .i64 pdepth0))), (4, (.ref 4 [] (0))), (5, (.t (.int .i64 (shl .i64 (1:Int) (wi (pdepth0 - (1:Int))))))), (22, (.t (.bool (decide ((pl0.length : Int) ≤ (shl .i64 (1:Int) (wi (pdepth0 - (1:Int)))))))))], [(4, (.var false 24 (.t ((eA 1 (T.int .u8)) (Arr.rep 32 (0:Int))))))]⟩ [((List.length (List.map (eA 1 (T.int .u8)) pl0) : Nat) : Int) = (pl0.length : Int)] (by kernel_rfl) ⟨(len_of rfl), trivial⟩ ?_
      refine Nxt_norm ?_
      refine Ab.cond (b := (decide ((pl0.length : Int) ≤ (shl .i64 (1:Int) (wi (pdepth0 - (1:Int))))))) (by kernel_rfl) (fun hb2 => ?_) (fun hb2 => ?_)
      · replace h := cond_t hb2 h
        refine Ab.seq ?_
        obtain ⟨r1, hr1, h⟩ := bind_some h
        obtain ⟨r2, hr2, h⟩ := bind_some h
        obtain ⟨r3, hr3, h⟩ := bind_some h
        refine Ab.regT hE hC hL [[], [], [], [.r [.tree ((eA 1 (T.int .u8)) r1)] []], [], [], [.r [.tree ((eA 1 (T.int .u8)) r2)] []], [.r [.tree ((eA 1 (T.int .u8)) r3)] []]] { keep := [4], ren := [(4, 4)] } ⟨[(4, (.ref 4 [] (0)))], [(4, (.var false 24 (.t ((eA 1 (T.int .u8)) r3))))]⟩ [(sp_ref02_Full n).fn [((eS 32 (eA 1 (T.int .u8))) pl0), (.int .i64 (wi (pdepth0 - (1:Int))))] = some ([.tree ((eA 1 (T.int .u8)) r1)], []), (sp_ref02_Zero n).fn [(.int .i64 (wi (pdepth0 - (1:Int))))] = some ([.tree ((eA 1 (T.int .u8)) r2)], []), (sp_ref02_Pair n).fn [((eA 1 (T.int .u8)) r1), ((eA 1 (T.int .u8)) r2)] = some ([.tree ((eA 1 (T.int .u8)) r3)], [])] (by kernel_rfl) ⟨(ap_ref02_Full n (by exact ⟨leT.refl _, leT.refl _, trivial⟩) hr1), (ap_ref02_Zero n (by exact ⟨leT.refl _, trivial⟩) hr2), (ap_ref02_Pair n (by exact ⟨leT.refl _, leT.refl _, trivial⟩) hr3), trivial⟩ ?_
        refine Nxt_norm ?_
        refine Ab.ret ?_
        refine Nxt_ret ?_
        obtain rfl := Option.some.inj h
        exact End_ret (doneO_ok (md := [false]) (by kernel_rfl))
      · replace h := cond_f hb2 h
        refine Ab.skip ?_
        refine Nxt_norm ?_
        refine Ab.seq ?_
        obtain ⟨hq1, h⟩ := ask_dec h
        obtain ⟨hq2, h⟩ := ask_dec h
        obtain ⟨r4, hr4, h⟩ := bind_some h
        obtain ⟨r5, hr5, h⟩ := bind_some h
        obtain ⟨r6, hr6, h⟩ := bind_some h
        refine Ab.regA hE hC hL [[], [], [.l (List.map (eA 1 (T.int .u8)) (List.take ((shl .i64 (1:Int) (wi (pdepth0 - (1:Int)))).toNat) pl0))], [], [], [.r [.tree ((eA 1 (T.int .u8)) r4)] []], [], [], [.l (List.map (eA 1 (T.int .u8)) (List.drop ((shl .i64 (1:Int) (wi (pdepth0 - (1:Int)))).toNat) pl0))], [], [], [.r [.tree ((eA 1 (T.int .u8)) r5)] []], [.r [.tree ((eA 1 (T.int .u8)) r6)] []]] { keep := [4], ren := [(4, 4)] } ⟨[(4, (.ref 4 [] (0)))], [(4, (.var false 24 (.t ((eA 1 (T.int .u8)) r6))))]⟩ [List.take ((shl .i64 (1:Int) (wi (pdepth0 - (1:Int)))).toNat - 0) (List.drop 0 (List.map (eA 1 (T.int .u8)) pl0)) = List.map (eA 1 (T.int .u8)) (List.take ((shl .i64 (1:Int) (wi (pdepth0 - (1:Int)))).toNat) pl0), 0 ≤ (shl .i64 (1:Int) (wi (pdepth0 - (1:Int)))), (shl .i64 (1:Int) (wi (pdepth0 - (1:Int)))) ≤ ((List.length (List.map (eA 1 (T.int .u8)) pl0) : Nat) : Int), (sp_ref02_Full n).fn [((eS 32 (eA 1 (T.int .u8))) (List.take ((shl .i64 (1:Int) (wi (pdepth0 - (1:Int)))).toNat) pl0)), (.int .i64 (wi (pdepth0 - (1:Int))))] = some ([.tree ((eA 1 (T.int .u8)) r4)], []), List.take (List.length (List.map (eA 1 (T.int .u8)) pl0) - (shl .i64 (1:Int) (wi (pdepth0 - (1:Int)))).toNat) (List.drop ((shl .i64 (1:Int) (wi (pdepth0 - (1:Int)))).toNat) (List.map (eA 1 (T.int .u8)) pl0)) = List.map (eA 1 (T.int .u8)) (List.drop ((shl .i64 (1:Int) (wi (pdepth0 - (1:Int)))).toNat) pl0), 0 ≤ (shl .i64 (1:Int) (wi (pdepth0 - (1:Int)))), (shl .i64 (1:Int) (wi (pdepth0 - (1:Int)))) ≤ ((List.length (List.map (eA 1 (T.int .u8)) pl0) : Nat) : Int), (sp_ref02_Full n).fn [((eS 32 (eA 1 (T.int .u8))) (List.drop ((shl .i64 (1:Int) (wi (pdepth0 - (1:Int)))).toNat) pl0)), (.int .i64 (wi (pdepth0 - (1:Int))))] = some ([.tree ((eA 1 (T.int .u8)) r5)], []), (sp_ref02_Pair n).fn [((eA 1 (T.int .u8)) r4), ((eA 1 (T.int .u8)) r5)] = some ([.tree ((eA 1 (T.int .u8)) r6)], [])] (by kernel_rfl) (by kernel_rfl) ⟨(win_pre rfl _), hq1, (le_len rfl hq2), (ap_ref02_Full n (by exact ⟨leT.refl _, leT.refl _, trivial⟩) hr4), (win_suf rfl _), hq1, (le_len rfl hq2), (ap_ref02_Full n (by exact ⟨leT.refl _, leT.refl _, trivial⟩) hr5), (ap_ref02_Pair n (by exact ⟨leT.refl _, leT.refl _, trivial⟩) hr6), trivial⟩ ?_
        refine Nxt_norm ?_
        refine Ab.ret ?_
        obtain rfl := Option.some.inj h
        exact End_ret (doneO_ok (md := [false]) (by kernel_rfl))
theorem ok_ref02_Full : ∀ n : Nat, SpecOK Tryd.prog glob 51 (sp_ref02_Full n)
  | 0 => by
    refine specP_ok (fn := Tryd.f51) (E := { ty := tyT, glob := glob, fns := get [], ntmps := 44 }) ⟨tys_ok tys_chk, prog_mixed, fns_nil⟩ (by kernel_rfl) rfl (by decide +kernel) (by kernel_rfl) (fun _ => by show 2 ≤ 44; omega) (fun _ _ r => ⟨(rrf_tree ((flat_eA (fun _ => rfl)) _) rrf_nil), flats_nil⟩) ?_
    rintro a r h
    cases h
  | n + 1 => ok_ref02_Full_s n (ok_ref02_Full n)
def ea_ref02_Tree (a : (List (Arr 32 Int)) × Int) : List T := [(eS 32 (eA 1 (T.int .u8))) a.1, (T.int .i64) a.2]
def er_ref02_Tree (r : ((Arr 32 Int) × Bool)) : List RR × List T := ([.tree ((eA 1 (T.int .u8)) r.1), .tree (T.bool r.2)], [])
noncomputable def sp_ref02_Tree (n : Nat) : Spec := specP [] true ea_ref02_Tree (fun a => f_ref02_Tree n a.1 a.2) (fun _ r => er_ref02_Tree r)
theorem ap_ref02_Tree (n : Nat) {ts : List T} {a0 : (List (Arr 32 Int))} {a1 : Int} {r : ((Arr 32 Int) × Bool)} (hle : leTs ts [(eS 32 (eA 1 (T.int .u8))) a0, (T.int .i64) a1]) (h : f_ref02_Tree n a0 a1 = some r) : (sp_ref02_Tree n).fn ts = some ([.tree ((eA 1 (T.int .u8)) r.1), .tree (T.bool r.2)], []) :=
  specP_fn (a := (a0, a1)) (InjA.cons (inj_eS (inj_eA (inj_int _))) (InjA.one (inj_int _))) hle h
noncomputable def E_ref02_Tree (n : Nat) : Env := { ty := tyT, glob := glob, fns := get [(37, sp_ref02_Depth n), (51, sp_ref02_Full n)], ntmps := 19 }
theorem eok_ref02_Tree (n : Nat) : EnvOK Tryd.prog (E_ref02_Tree n) := ⟨tys_ok tys_chk, prog_mixed, (fns_cons (ok_ref02_Depth n) (fns_cons (ok_ref02_Full n) fns_nil))⟩
def K_ref02_Tree (n : Nat) (pl0 : (List (Arr 32 Int))) (plimit0 : Int) (r : ((Arr 32 Int) × Bool)) : St → Prop := Done (E_ref02_Tree n) Tryd.f34.results.toList [] (ea_ref02_Tree (pl0, plimit0)) (er_ref02_Tree r).1 (er_ref02_Tree r).2
set_option maxRecDepth 100000 in
set_option maxHeartbeats 4000000 in
theorem ok_ref02_Tree (n : Nat) : SpecOK Tryd.prog glob 34 (sp_ref02_Tree n) := by
  refine specP_ok (fn := Tryd.f34) (eok_ref02_Tree n) (by kernel_rfl) rfl (by decide +kernel) (by kernel_rfl) (fun _ => by show 2 ≤ 19; omega) (fun _ _ r => ⟨(rrf_tree ((flat_eA (fun _ => rfl)) _) (rrf_tree ((fun _ => rfl) _) rrf_nil)), flats_nil⟩) ?_
  rintro ⟨pl0, plimit0⟩ r h C hL hC
  have hE := eok_ref02_Tree n
  replace hL : ∀ n g, (n, g) ∈ C.lent → n ∈ ([] : List Nat) := hL
  replace h : f_ref02_Tree n pl0 plimit0 = some r := h
  show Ab _ _ _ _ _ (End (K_ref02_Tree n pl0 plimit0 r))
  unfold f_ref02_Tree at h
  refine Ab.seq ?_
  refine Ab.regT hE hC hL [] { keep := [0, 1, 4], ren := [(4, 4)] } ⟨[(0, (.t ((eS 32 (eA 1 (T.int .u8))) pl0))), (1, (.t (.int .i64 plimit0))), (4, (.ref 4 [] (0)))], [(4, (.var false 24 (.t ((eA 1 (T.int .u8)) (Arr.rep 32 (0:Int))))))]⟩ [] (by kernel_rfl) trivial ?_
  refine Nxt_norm ?_
  refine Ab.seq ?_
  refine Ab.seq ?_
  rcases Bool.eq_false_or_eq_true (decide (plimit0 < (0:Int))) with hb0 | hb0
  · replace h := cond_t hb0 h
    refine Ab.regT hE hC hL [[], [], [.b true]] { keep := [0, 1, 4, 13], ren := [(4, 4)] } ⟨[(0, (.t ((eS 32 (eA 1 (T.int .u8))) pl0))), (1, (.t (.int .i64 plimit0))), (4, (.ref 4 [] (0))), (13, (.t (.bool true)))], [(4, (.var false 24 (.t ((eA 1 (T.int .u8)) (Arr.rep 32 (0:Int))))))]⟩ [(decide (plimit0 < (0:Int))) = true] (by kernel_rfl) ⟨hb0, trivial⟩ ?_
    refine Nxt_norm ?_
    refine Ab.cond (b := true) (by kernel_rfl) (fun _ => ?_) (fun hb => Bool.noConfusion hb)
    refine Ab.seq ?_
    refine Ab.regT hE hC hL [] { keep := [4, 5], ren := [(4, 4)] } ⟨[(4, (.ref 4 [] (0))), (5, (.t (.bool false)))], [(4, (.var false 24 (.t ((eA 1 (T.int .u8)) (Arr.rep 32 (0:Int))))))]⟩ [] (by kernel_rfl) trivial ?_
    refine Nxt_norm ?_
    refine Ab.ret ?_
    refine Nxt_ret ?_
    obtain rfl := Option.some.inj h
    exact End_ret (doneO_ok (md := [false, false]) (by kernel_rfl))
  · replace h := cond_f hb0 h
    refine Ab.regT hE hC hL [[], [], [.b false], [], [.n (pl0.length : Int)]] { keep := [0, 1, 4, 13], ren := [(4, 4)] } ⟨[(0, (.t ((eS 32 (eA 1 (T.int .u8))) pl0))), (1, (.t (.int .i64 plimit0))), (4, (.ref 4 [] (0))), (13, (.t (.bool (decide ((pl0.length : Int) > plimit0)))))], [(4, (.var false 24 (.t ((eA 1 (T.int .u8)) (Arr.rep 32 (0:Int))))))]⟩ [(decide (plimit0 < (0:Int))) = false, ((List.length (List.map (eA 1 (T.int .u8)) pl0) : Nat) : Int) = (pl0.length : Int)] (by kernel_rfl) ⟨hb0, (len_of rfl), trivial⟩ ?_
    refine Nxt_norm ?_
    refine Ab.cond (b := (decide ((pl0.length : Int) > plimit0))) (by kernel_rfl) (fun hb1 => ?_) (fun hb1 => ?_)
    · replace h := cond_t hb1 h
      refine Ab.seq ?_
      refine Ab.regT hE hC hL [] { keep := [4, 5], ren := [(4, 4)] } ⟨[(4, (.ref 4 [] (0))), (5, (.t (.bool false)))], [(4, (.var false 24 (.t ((eA 1 (T.int .u8)) (Arr.rep 32 (0:Int))))))]⟩ [] (by kernel_rfl) trivial ?_
      refine Nxt_norm ?_
      refine Ab.ret ?_
      refine Nxt_ret ?_
      obtain rfl := Option.some.inj h
      exact End_ret (doneO_ok (md := [false, false]) (by kernel_rfl))
    · replace h := cond_f hb1 h
      refine Ab.skip ?_
      refine Nxt_norm ?_
      refine Ab.seq ?_
      obtain ⟨r0, hr0, h⟩ := bind_some h
      obtain ⟨r1, hr1, h⟩ := bind_some h
      refine Ab.regT hE hC hL [[], [], [.r [.tree (.int .i64 r0)] []], [.r [.tree ((eA 1 (T.int .u8)) r1)] []]] { keep := [4, 5], ren := [(4, 4)] } ⟨[(4, (.ref 4 [] (0))), (5, (.t (.bool true)))], [(4, (.var false 24 (.t ((eA 1 (T.int .u8)) r1))))]⟩ [(sp_ref02_Depth n).fn [(.int .i64 plimit0)] = some ([.tree (.int .i64 r0)], []), (sp_ref02_Full n).fn [((eS 32 (eA 1 (T.int .u8))) pl0), (.int .i64 r0)] = some ([.tree ((eA 1 (T.int .u8)) r1)], [])] (by kernel_rfl) ⟨(ap_ref02_Depth n (by exact ⟨leT.refl _, trivial⟩) hr0), (ap_ref02_Full n (by exact ⟨leT.refl _, leT.refl _, trivial⟩) hr1), trivial⟩ ?_
      refine Nxt_norm ?_
      refine Ab.ret ?_
      obtain rfl := Option.some.inj h
      exact End_ret (doneO_ok (md := [false, false]) (by kernel_rfl))

end Go.Mg
