/- The model's code computes these functions. -/
import Derived.Test.YthfhkoncbpfppaaAW2
namespace Go.Mg
open Go Go.Proofs
def ea_num_Mul (a : Int × Int) : List T := [(T.int .u64) a.1, (T.int .u64) a.2]
def er_num_Mul (r : (Int × Bool)) : List RR × List T := ([.tree ((T.int .u64) r.1), .tree (T.bool r.2)], [])
noncomputable def sp_num_Mul (n : Nat) : Spec := specP [] true ea_num_Mul (fun a => f_num_Mul n a.1 a.2) (fun _ r => er_num_Mul r)
theorem ap_num_Mul (n : Nat) {ts : List T} {a0 : Int} {a1 : Int} {r : (Int × Bool)} (hle : leTs ts [(T.int .u64) a0, (T.int .u64) a1]) (h : f_num_Mul n a0 a1 = some r) : (sp_num_Mul n).fn ts = some ([.tree ((T.int .u64) r.1), .tree (T.bool r.2)], []) :=
  specP_fn (a := (a0, a1)) (InjA.cons (inj_int _) (InjA.one (inj_int _))) hle h
noncomputable def E_num_Mul (n : Nat) : Env := { ty := tyT, glob := glob, fns := get [(25, sp_bits_Mul64 n)], ntmps := 17 }
theorem eok_num_Mul (n : Nat) : EnvOK Try.prog (E_num_Mul n) := ⟨tys_ok tys_chk, prog_mixed, (fns_cons (ok_bits_Mul64 n) fns_nil)⟩
def K_num_Mul (n : Nat) (pa0 : Int) (pb0 : Int) (r : (Int × Bool)) : St → Prop := Done (E_num_Mul n) Try.f29.results.toList [] (ea_num_Mul (pa0, pb0)) (er_num_Mul r).1 (er_num_Mul r).2
set_option maxRecDepth 100000 in
set_option maxHeartbeats 4000000 in
theorem ok_num_Mul (n : Nat) : SpecOK Try.prog glob 29 (sp_num_Mul n) := by
  refine specP_ok (fn := Try.f29) (eok_num_Mul n) (by kernel_rfl) rfl (by decide +kernel) (by kernel_rfl) (fun _ => by show 2 ≤ 17; omega) (fun _ _ r => ⟨(rrf_tree ((fun _ => rfl) _) (rrf_tree ((fun _ => rfl) _) rrf_nil)), flats_nil⟩) ?_
  rintro ⟨pa0, pb0⟩ r h C hL hC
  have hE := eok_num_Mul n
  replace hL : ∀ n g, (n, g) ∈ C.lent → n ∈ ([] : List Nat) := hL
  replace h : f_num_Mul n pa0 pb0 = some r := h
  show Ab _ _ _ _ _ (End (K_num_Mul n pa0 pb0 r))
  unfold f_num_Mul at h
  refine Ab.seq ?_
  refine Ab.regT hE hC hL [] { keep := [0, 1], ren := [] } ⟨[(0, (.t (.int .u64 pa0))), (1, (.t (.int .u64 pb0)))], []⟩ [] (by kernel_rfl) trivial ?_
  refine Nxt_norm ?_
  refine Ab.seq ?_
  obtain ⟨r0, hr0, h⟩ := bind_some h
  refine Ab.regT hE hC hL [[], [], [.r [.tree (.int .u64 r0.1), .tree (.int .u64 r0.2)] []]] { keep := [6, 7], ren := [] } ⟨[(6, (.t (.int .u64 r0.1))), (7, (.t (.int .u64 r0.2)))], []⟩ [(sp_bits_Mul64 n).fn [(.int .u64 pa0), (.int .u64 pb0)] = some ([.tree (.int .u64 r0.1), .tree (.int .u64 r0.2)], [])] (by kernel_rfl) ⟨(ap_bits_Mul64 n (by exact ⟨leT.refl _, leT.refl _, trivial⟩) hr0), trivial⟩ ?_
  refine Nxt_norm ?_
  refine Ab.seq ?_
  refine Ab.seq ?_
  refine Ab.regT hE hC hL [] { keep := [7, 15], ren := [] } ⟨[(7, (.t (.int .u64 r0.2))), (15, (.t (.bool (r0.1 != (0:Int)))))], []⟩ [] (by kernel_rfl) trivial ?_
  refine Nxt_norm ?_
  refine Ab.cond (b := (r0.1 != (0:Int))) (by kernel_rfl) (fun hb0 => ?_) (fun hb0 => ?_)
  · replace h := cond_t hb0 h
    refine Ab.seq ?_
    refine Ab.regT hE hC hL [] { keep := [4, 5], ren := [] } ⟨[(4, (.t (.int .u64 (0:Int)))), (5, (.t (.bool false)))], []⟩ [] (by kernel_rfl) trivial ?_
    refine Nxt_norm ?_
    refine Ab.ret ?_
    refine Nxt_ret ?_
    obtain rfl := Option.some.inj h
    exact End_ret (doneO_ok (md := [false, false]) (by kernel_rfl))
  · replace h := cond_f hb0 h
    refine Ab.skip ?_
    refine Nxt_norm ?_
    refine Ab.seq ?_
    refine Ab.regT hE hC hL [] { keep := [4, 5], ren := [] } ⟨[(4, (.t (.int .u64 r0.2))), (5, (.t (.bool true)))], []⟩ [] (by kernel_rfl) trivial ?_
    refine Nxt_norm ?_
    refine Ab.ret ?_
    obtain rfl := Option.some.inj h
    exact End_ret (doneO_ok (md := [false, false]) (by kernel_rfl))
def ea_ref01_Mul (a : Int × Int) : List T := [(T.int .u64) a.1, (T.int .u64) a.2]
def er_ref01_Mul (r : (Int × Bool)) : List RR × List T := ([.tree ((T.int .u64) r.1), .tree (T.bool r.2)], [])
noncomputable def sp_ref01_Mul (n : Nat) : Spec := specP [] true ea_ref01_Mul (fun a => f_ref01_Mul n a.1 a.2) (fun _ r => er_ref01_Mul r)
theorem ap_ref01_Mul (n : Nat) {ts : List T} {a0 : Int} {a1 : Int} {r : (Int × Bool)} (hle : leTs ts [(T.int .u64) a0, (T.int .u64) a1]) (h : f_ref01_Mul n a0 a1 = some r) : (sp_ref01_Mul n).fn ts = some ([.tree ((T.int .u64) r.1), .tree (T.bool r.2)], []) :=
  specP_fn (a := (a0, a1)) (InjA.cons (inj_int _) (InjA.one (inj_int _))) hle h
noncomputable def E_ref01_Mul (n : Nat) : Env := { ty := tyT, glob := glob, fns := get [], ntmps := 17 }
theorem eok_ref01_Mul (n : Nat) : EnvOK Try.prog (E_ref01_Mul n) := ⟨tys_ok tys_chk, prog_mixed, fns_nil⟩
def K_ref01_Mul (n : Nat) (pa0 : Int) (pb0 : Int) (r : (Int × Bool)) : St → Prop := Done (E_ref01_Mul n) Try.f30.results.toList [] (ea_ref01_Mul (pa0, pb0)) (er_ref01_Mul r).1 (er_ref01_Mul r).2
set_option maxRecDepth 100000 in
set_option maxHeartbeats 4000000 in
theorem ok_ref01_Mul (n : Nat) : SpecOK Try.prog glob 30 (sp_ref01_Mul n) := by
  refine specP_ok (fn := Try.f30) (eok_ref01_Mul n) (by kernel_rfl) rfl (by decide +kernel) (by kernel_rfl) (fun _ => by show 2 ≤ 17; omega) (fun _ _ r => ⟨(rrf_tree ((fun _ => rfl) _) (rrf_tree ((fun _ => rfl) _) rrf_nil)), flats_nil⟩) ?_
  rintro ⟨pa0, pb0⟩ r h C hL hC
  have hE := eok_ref01_Mul n
  replace hL : ∀ n g, (n, g) ∈ C.lent → n ∈ ([] : List Nat) := hL
  replace h : f_ref01_Mul n pa0 pb0 = some r := h
  show Ab _ _ _ _ _ (End (K_ref01_Mul n pa0 pb0 r))
  unfold f_ref01_Mul at h
  refine Ab.seq ?_
  refine Ab.regT hE hC hL [] { keep := [0, 1], ren := [] } ⟨[(0, (.t (.int .u64 pa0))), (1, (.t (.int .u64 pb0)))], []⟩ [] (by kernel_rfl) trivial ?_
  refine Nxt_norm ?_
  refine Ab.seq ?_
  refine Ab.seq ?_
  rcases Bool.eq_false_or_eq_true (pa0 != (0:Int)) with hb0 | hb0
  · replace h := cond_t hb0 h
    obtain ⟨hq0, h⟩ := ask_dec h
    refine Ab.regT hE hC hL [[], [], [.b true], [], [], [.c]] { keep := [0, 1, 13], ren := [] } ⟨[(0, (.t (.int .u64 pa0))), (1, (.t (.int .u64 pb0))), (13, (.t (.bool (decide (pb0 > (w64 ((18446744073709551615:Int).tdiv pa0)))))))], []⟩ [(pa0 != (0:Int)) = true, pa0 ≠ 0] (by kernel_rfl) ⟨hb0, hq0, trivial⟩ ?_
    refine Nxt_norm ?_
    refine Ab.cond (b := (decide (pb0 > (w64 ((18446744073709551615:Int).tdiv pa0))))) (by kernel_rfl) (fun hb1 => ?_) (fun hb1 => ?_)
    · replace h := cond_t hb1 h
      refine Ab.seq ?_
      refine Ab.regT hE hC hL [] { keep := [4, 5], ren := [] } ⟨[(4, (.t (.int .u64 (0:Int)))), (5, (.t (.bool false)))], []⟩ [] (by kernel_rfl) trivial ?_
      refine Nxt_norm ?_
      refine Ab.ret ?_
      refine Nxt_ret ?_
      obtain rfl := Option.some.inj h
      exact End_ret (doneO_ok (md := [false, false]) (by kernel_rfl))
    · replace h := cond_f hb1 h
      refine Ab.skip ?_
      refine Nxt_norm ?_
      refine Ab.seq ?_
      refine Ab.regT hE hC hL [] { keep := [4, 5], ren := [] } ⟨[(4, (.t (.int .u64 (w64 (pa0 * pb0))))), (5, (.t (.bool true)))], []⟩ [] (by kernel_rfl) trivial ?_
      refine Nxt_norm ?_
      refine Ab.ret ?_
      obtain rfl := Option.some.inj h
      exact End_ret (doneO_ok (md := [false, false]) (by kernel_rfl))
  · replace h := cond_f hb0 h
    refine Ab.regT hE hC hL [[], [], [.b false]] { keep := [0, 1, 13], ren := [] } ⟨[(0, (.t (.int .u64 pa0))), (1, (.t (.int .u64 pb0))), (13, (.t (.bool false)))], []⟩ [(pa0 != (0:Int)) = false] (by kernel_rfl) ⟨hb0, trivial⟩ ?_
    refine Nxt_norm ?_
    refine Ab.cond (b := false) (by kernel_rfl) (fun hb => Bool.noConfusion hb) (fun _ => ?_)
    refine Ab.skip ?_
    refine Nxt_norm ?_
    refine Ab.seq ?_
    refine Ab.regT hE hC hL [] { keep := [4, 5], ren := [] } ⟨[(4, (.t (.int .u64 (w64 (pa0 * pb0))))), (5, (.t (.bool true)))], []⟩ [] (by kernel_rfl) trivial ?_
    refine Nxt_norm ?_
    refine Ab.ret ?_
    obtain rfl := Option.some.inj h
    exact End_ret (doneO_ok (md := [false, false]) (by kernel_rfl))
def ea_num_Sub (a : Int × Int) : List T := [(T.int .u64) a.1, (T.int .u64) a.2]
def er_num_Sub (r : (Int × Bool)) : List RR × List T := ([.tree ((T.int .u64) r.1), .tree (T.bool r.2)], [])
noncomputable def sp_num_Sub (n : Nat) : Spec := specP [] true ea_num_Sub (fun a => f_num_Sub n a.1 a.2) (fun _ r => er_num_Sub r)
theorem ap_num_Sub (n : Nat) {ts : List T} {a0 : Int} {a1 : Int} {r : (Int × Bool)} (hle : leTs ts [(T.int .u64) a0, (T.int .u64) a1]) (h : f_num_Sub n a0 a1 = some r) : (sp_num_Sub n).fn ts = some ([.tree ((T.int .u64) r.1), .tree (T.bool r.2)], []) :=
  specP_fn (a := (a0, a1)) (InjA.cons (inj_int _) (InjA.one (inj_int _))) hle h
noncomputable def E_num_Sub (n : Nat) : Env := { ty := tyT, glob := glob, fns := get [], ntmps := 12 }
theorem eok_num_Sub (n : Nat) : EnvOK Try.prog (E_num_Sub n) := ⟨tys_ok tys_chk, prog_mixed, fns_nil⟩
def K_num_Sub (n : Nat) (pa0 : Int) (pb0 : Int) (r : (Int × Bool)) : St → Prop := Done (E_num_Sub n) Try.f31.results.toList [] (ea_num_Sub (pa0, pb0)) (er_num_Sub r).1 (er_num_Sub r).2
set_option maxRecDepth 100000 in
set_option maxHeartbeats 4000000 in
theorem ok_num_Sub (n : Nat) : SpecOK Try.prog glob 31 (sp_num_Sub n) := by
  refine specP_ok (fn := Try.f31) (eok_num_Sub n) (by kernel_rfl) rfl (by decide +kernel) (by kernel_rfl) (fun _ => by show 2 ≤ 12; omega) (fun _ _ r => ⟨(rrf_tree ((fun _ => rfl) _) (rrf_tree ((fun _ => rfl) _) rrf_nil)), flats_nil⟩) ?_
  rintro ⟨pa0, pb0⟩ r h C hL hC
  have hE := eok_num_Sub n
  replace hL : ∀ n g, (n, g) ∈ C.lent → n ∈ ([] : List Nat) := hL
  replace h : f_num_Sub n pa0 pb0 = some r := h
  show Ab _ _ _ _ _ (End (K_num_Sub n pa0 pb0 r))
  unfold f_num_Sub at h
  refine Ab.seq ?_
  refine Ab.regT hE hC hL [] { keep := [0, 1], ren := [] } ⟨[(0, (.t (.int .u64 pa0))), (1, (.t (.int .u64 pb0)))], []⟩ [] (by kernel_rfl) trivial ?_
  refine Nxt_norm ?_
  refine Ab.seq ?_
  refine Ab.seq ?_
  refine Ab.regT hE hC hL [] { keep := [0, 1, 8], ren := [] } ⟨[(0, (.t (.int .u64 pa0))), (1, (.t (.int .u64 pb0))), (8, (.t (.bool (decide (pb0 > pa0)))))], []⟩ [] (by kernel_rfl) trivial ?_
  refine Nxt_norm ?_
  refine Ab.cond (b := (decide (pb0 > pa0))) (by kernel_rfl) (fun hb0 => ?_) (fun hb0 => ?_)
  · replace h := cond_t hb0 h
    refine Ab.seq ?_
    refine Ab.regT hE hC hL [] { keep := [4, 5], ren := [] } ⟨[(4, (.t (.int .u64 (0:Int)))), (5, (.t (.bool false)))], []⟩ [] (by kernel_rfl) trivial ?_
    refine Nxt_norm ?_
    refine Ab.ret ?_
    refine Nxt_ret ?_
    obtain rfl := Option.some.inj h
    exact End_ret (doneO_ok (md := [false, false]) (by kernel_rfl))
  · replace h := cond_f hb0 h
    refine Ab.skip ?_
    refine Nxt_norm ?_
    refine Ab.seq ?_
    refine Ab.regT hE hC hL [] { keep := [4, 5], ren := [] } ⟨[(4, (.t (.int .u64 (w64 (pa0 - pb0))))), (5, (.t (.bool true)))], []⟩ [] (by kernel_rfl) trivial ?_
    refine Nxt_norm ?_
    refine Ab.ret ?_
    obtain rfl := Option.some.inj h
    exact End_ret (doneO_ok (md := [false, false]) (by kernel_rfl))
def ea_num_Div (a : Int × Int) : List T := [(T.int .u64) a.1, (T.int .u64) a.2]
def er_num_Div (r : (Int × Bool)) : List RR × List T := ([.tree ((T.int .u64) r.1), .tree (T.bool r.2)], [])
noncomputable def sp_num_Div (n : Nat) : Spec := specP [] true ea_num_Div (fun a => f_num_Div n a.1 a.2) (fun _ r => er_num_Div r)
theorem ap_num_Div (n : Nat) {ts : List T} {a0 : Int} {a1 : Int} {r : (Int × Bool)} (hle : leTs ts [(T.int .u64) a0, (T.int .u64) a1]) (h : f_num_Div n a0 a1 = some r) : (sp_num_Div n).fn ts = some ([.tree ((T.int .u64) r.1), .tree (T.bool r.2)], []) :=
  specP_fn (a := (a0, a1)) (InjA.cons (inj_int _) (InjA.one (inj_int _))) hle h
noncomputable def E_num_Div (n : Nat) : Env := { ty := tyT, glob := glob, fns := get [], ntmps := 11 }
theorem eok_num_Div (n : Nat) : EnvOK Try.prog (E_num_Div n) := ⟨tys_ok tys_chk, prog_mixed, fns_nil⟩
def K_num_Div (n : Nat) (pa0 : Int) (pb0 : Int) (r : (Int × Bool)) : St → Prop := Done (E_num_Div n) Try.f32.results.toList [] (ea_num_Div (pa0, pb0)) (er_num_Div r).1 (er_num_Div r).2
set_option maxRecDepth 100000 in
set_option maxHeartbeats 4000000 in
theorem ok_num_Div (n : Nat) : SpecOK Try.prog glob 32 (sp_num_Div n) := by
  refine specP_ok (fn := Try.f32) (eok_num_Div n) (by kernel_rfl) rfl (by decide +kernel) (by kernel_rfl) (fun _ => by show 2 ≤ 11; omega) (fun _ _ r => ⟨(rrf_tree ((fun _ => rfl) _) (rrf_tree ((fun _ => rfl) _) rrf_nil)), flats_nil⟩) ?_
  rintro ⟨pa0, pb0⟩ r h C hL hC
  have hE := eok_num_Div n
  replace hL : ∀ n g, (n, g) ∈ C.lent → n ∈ ([] : List Nat) := hL
  replace h : f_num_Div n pa0 pb0 = some r := h
  show Ab _ _ _ _ _ (End (K_num_Div n pa0 pb0 r))
  unfold f_num_Div at h
  refine Ab.seq ?_
  refine Ab.regT hE hC hL [] { keep := [0, 1], ren := [] } ⟨[(0, (.t (.int .u64 pa0))), (1, (.t (.int .u64 pb0)))], []⟩ [] (by kernel_rfl) trivial ?_
  refine Nxt_norm ?_
  refine Ab.seq ?_
  refine Ab.seq ?_
  refine Ab.regT hE hC hL [] { keep := [0, 1, 7], ren := [] } ⟨[(0, (.t (.int .u64 pa0))), (1, (.t (.int .u64 pb0))), (7, (.t (.bool (pb0 == (0:Int)))))], []⟩ [] (by kernel_rfl) trivial ?_
  refine Nxt_norm ?_
  refine Ab.cond (b := (pb0 == (0:Int))) (by kernel_rfl) (fun hb0 => ?_) (fun hb0 => ?_)
  · replace h := cond_t hb0 h
    refine Ab.seq ?_
    refine Ab.regT hE hC hL [] { keep := [4, 5], ren := [] } ⟨[(4, (.t (.int .u64 (0:Int)))), (5, (.t (.bool false)))], []⟩ [] (by kernel_rfl) trivial ?_
    refine Nxt_norm ?_
    refine Ab.ret ?_
    refine Nxt_ret ?_
    obtain rfl := Option.some.inj h
    exact End_ret (doneO_ok (md := [false, false]) (by kernel_rfl))
  · replace h := cond_f hb0 h
    refine Ab.skip ?_
    refine Nxt_norm ?_
    refine Ab.seq ?_
    refine Ab.regT hE hC hL [[], [], [.c]] { keep := [4, 5], ren := [] } ⟨[(4, (.t (.int .u64 (w64 (pa0.tdiv pb0))))), (5, (.t (.bool true)))], []⟩ [pb0 ≠ 0] (by kernel_rfl) ⟨(by simpa using hb0), trivial⟩ ?_
    refine Nxt_norm ?_
    refine Ab.ret ?_
    obtain rfl := Option.some.inj h
    exact End_ret (doneO_ok (md := [false, false]) (by kernel_rfl))
def ea_num_Most (a : Int × Int) : List T := [(T.int .u64) a.1, (T.int .u64) a.2]
def er_num_Most (r : Int) : List RR × List T := ([.tree ((T.int .u64) r)], [])
noncomputable def sp_num_Most (n : Nat) : Spec := specP [] true ea_num_Most (fun a => f_num_Most n a.1 a.2) (fun _ r => er_num_Most r)
theorem ap_num_Most (n : Nat) {ts : List T} {a0 : Int} {a1 : Int} {r : Int} (hle : leTs ts [(T.int .u64) a0, (T.int .u64) a1]) (h : f_num_Most n a0 a1 = some r) : (sp_num_Most n).fn ts = some ([.tree ((T.int .u64) r)], []) :=
  specP_fn (a := (a0, a1)) (InjA.cons (inj_int _) (InjA.one (inj_int _))) hle h
noncomputable def E_num_Most (n : Nat) : Env := { ty := tyT, glob := glob, fns := get [(27, sp_num_Add n)], ntmps := 16 }
theorem eok_num_Most (n : Nat) : EnvOK Try.prog (E_num_Most n) := ⟨tys_ok tys_chk, prog_mixed, (fns_cons (ok_num_Add n) fns_nil)⟩
def K_num_Most (n : Nat) (pa0 : Int) (pb0 : Int) (r : Int) : St → Prop := Done (E_num_Most n) Try.f34.results.toList [] (ea_num_Most (pa0, pb0)) (er_num_Most r).1 (er_num_Most r).2
set_option maxRecDepth 100000 in
set_option maxHeartbeats 4000000 in
theorem ok_num_Most (n : Nat) : SpecOK Try.prog glob 34 (sp_num_Most n) := by
  refine specP_ok (fn := Try.f34) (eok_num_Most n) (by kernel_rfl) rfl (by decide +kernel) (by kernel_rfl) (fun _ => by show 2 ≤ 16; omega) (fun _ _ r => ⟨(rrf_tree ((fun _ => rfl) _) rrf_nil), flats_nil⟩) ?_
  rintro ⟨pa0, pb0⟩ r h C hL hC
  have hE := eok_num_Most n
  replace hL : ∀ n g, (n, g) ∈ C.lent → n ∈ ([] : List Nat) := hL
  replace h : f_num_Most n pa0 pb0 = some r := h
  show Ab _ _ _ _ _ (End (K_num_Most n pa0 pb0 r))
  unfold f_num_Most at h
  refine Ab.seq ?_
  refine Ab.regT hE hC hL [] { keep := [0, 1], ren := [] } ⟨[(0, (.t (.int .u64 pa0))), (1, (.t (.int .u64 pb0)))], []⟩ [] (by kernel_rfl) trivial ?_
  refine Nxt_norm ?_
  refine Ab.seq ?_
  obtain ⟨r0, hr0, h⟩ := bind_some h
  refine Ab.regT hE hC hL [[], [], [.r [.tree (.int .u64 r0.1), .tree (.bool r0.2)] []]] { keep := [5, 6], ren := [] } ⟨[(5, (.t (.int .u64 r0.1))), (6, (.t (.bool r0.2)))], []⟩ [(sp_num_Add n).fn [(.int .u64 pa0), (.int .u64 pb0)] = some ([.tree (.int .u64 r0.1), .tree (.bool r0.2)], [])] (by kernel_rfl) ⟨(ap_num_Add n (by exact ⟨leT.refl _, leT.refl _, trivial⟩) hr0), trivial⟩ ?_
  refine Nxt_norm ?_
  refine Ab.seq ?_
  refine Ab.seq ?_
  refine Ab.regT hE hC hL [] { keep := [5, 14], ren := [] } ⟨[(5, (.t (.int .u64 r0.1))), (14, (.t (.bool (!r0.2))))], []⟩ [] (by kernel_rfl) trivial ?_
  refine Nxt_norm ?_
  refine Ab.cond (b := (!r0.2)) (by kernel_rfl) (fun hb0 => ?_) (fun hb0 => ?_)
  · replace h := cond_t hb0 h
    refine Ab.seq ?_
    refine Ab.regT hE hC hL [] { keep := [4], ren := [] } ⟨[(4, (.t (.int .u64 (18446744073709551615:Int))))], []⟩ [] (by kernel_rfl) trivial ?_
    refine Nxt_norm ?_
    refine Ab.ret ?_
    refine Nxt_ret ?_
    obtain rfl := Option.some.inj h
    exact End_ret (doneO_ok (md := [false]) (by kernel_rfl))
  · replace h := cond_f hb0 h
    refine Ab.skip ?_
    refine Nxt_norm ?_
    refine Ab.seq ?_
    refine Ab.regT hE hC hL [] { keep := [4], ren := [] } ⟨[(4, (.t (.int .u64 r0.1)))], []⟩ [] (by kernel_rfl) trivial ?_
    refine Nxt_norm ?_
    refine Ab.ret ?_
    obtain rfl := Option.some.inj h
    exact End_ret (doneO_ok (md := [false]) (by kernel_rfl))
def ea_law01_NumSums (a : Int × Int) : List T := [(T.int .u64) a.1, (T.int .u64) a.2]
def er_law01_NumSums (r : Bool) : List RR × List T := ([.tree (T.bool r)], [])
noncomputable def sp_law01_NumSums (n : Nat) : Spec := specP [] true ea_law01_NumSums (fun a => f_law01_NumSums n a.1 a.2) (fun _ r => er_law01_NumSums r)
theorem ap_law01_NumSums (n : Nat) {ts : List T} {a0 : Int} {a1 : Int} {r : Bool} (hle : leTs ts [(T.int .u64) a0, (T.int .u64) a1]) (h : f_law01_NumSums n a0 a1 = some r) : (sp_law01_NumSums n).fn ts = some ([.tree (T.bool r)], []) :=
  specP_fn (a := (a0, a1)) (InjA.cons (inj_int _) (InjA.one (inj_int _))) hle h
noncomputable def E_law01_NumSums (n : Nat) : Env := { ty := tyT, glob := glob, fns := get [(16, sp_ref01_Less n), (19, sp_law01_Awake n), (27, sp_num_Add n), (28, sp_ref01_Add n), (29, sp_num_Mul n), (30, sp_ref01_Mul n), (31, sp_num_Sub n), (32, sp_num_Div n), (33, sp_num_Less n), (34, sp_num_Most n)], ntmps := 130 }
theorem eok_law01_NumSums (n : Nat) : EnvOK Try.prog (E_law01_NumSums n) := ⟨tys_ok tys_chk, prog_mixed, (fns_cons (ok_ref01_Less n) (fns_cons (ok_law01_Awake n) (fns_cons (ok_num_Add n) (fns_cons (ok_ref01_Add n) (fns_cons (ok_num_Mul n) (fns_cons (ok_ref01_Mul n) (fns_cons (ok_num_Sub n) (fns_cons (ok_num_Div n) (fns_cons (ok_num_Less n) (fns_cons (ok_num_Most n) fns_nil))))))))))⟩
def K_law01_NumSums (n : Nat) (pt0 : Int) (po0 : Int) (r : Bool) : St → Prop := Done (E_law01_NumSums n) Try.f7.results.toList [] (ea_law01_NumSums (pt0, po0)) (er_law01_NumSums r).1 (er_law01_NumSums r).2
set_option maxRecDepth 100000 in
set_option maxHeartbeats 4000000 in
theorem ok_law01_NumSums (n : Nat) : SpecB Try.prog glob 7 (sp_law01_NumSums n) := by
  refine specP_B (fn := Try.f7) (eok_law01_NumSums n) (by kernel_rfl) rfl (by decide +kernel) (by kernel_rfl) (fun _ => by show 2 ≤ 130; omega)  ?_
  rintro ⟨pt0, po0⟩ r h C hL hC
  have hE := eok_law01_NumSums n
  replace hL : ∀ n g, (n, g) ∈ C.lent → n ∈ ([] : List Nat) := hL
  replace h : f_law01_NumSums n pt0 po0 = some r := h
  show Ab _ _ _ _ _ (End (K_law01_NumSums n pt0 po0 r))
  unfold f_law01_NumSums at h
  refine Ab.seq ?_
  refine Ab.regT hE hC hL [] { keep := [0, 1], ren := [] } ⟨[(0, (.t (.int .u64 pt0))), (1, (.t (.int .u64 po0)))], []⟩ [] (by kernel_rfl) trivial ?_
  refine Nxt_norm ?_
  refine Ab.seq ?_
  refine Ab.seq ?_
  obtain ⟨r0, hr0, h⟩ := bind_some h
  refine Ab.regT hE hC hL [[.r [.tree (.bool r0)] []]] { keep := [0, 1, 19], ren := [] } ⟨[(0, (.t (.int .u64 pt0))), (1, (.t (.int .u64 po0))), (19, (.t (.bool (!r0))))], []⟩ [(sp_law01_Awake n).fn [] = some ([.tree (.bool r0)], [])] (by kernel_rfl) ⟨(ap_law01_Awake n (by exact trivial) hr0), trivial⟩ ?_
  refine Nxt_norm ?_
  refine Ab.cond (b := (!r0)) (by kernel_rfl) (fun hb0 => ?_) (fun hb0 => ?_)
  · replace h := cond_t hb0 h
    refine Ab.seq ?_
    refine Ab.regT hE hC hL [] { keep := [4], ren := [] } ⟨[(4, (.t (.bool false)))], []⟩ [] (by kernel_rfl) trivial ?_
    refine Nxt_norm ?_
    refine Ab.ret ?_
    refine Nxt_ret ?_
    obtain rfl := Option.some.inj h
    exact End_ret (doneO_ok (md := [false]) (by kernel_rfl))
  · replace h := cond_f hb0 h
    refine Ab.skip ?_
    refine Nxt_norm ?_
    refine Ab.seq ?_
    obtain ⟨r1, hr1, h⟩ := bind_some h
    refine Ab.regT hE hC hL [[], [], [.r [.tree (.int .u64 r1.1), .tree (.bool r1.2)] []]] { keep := [0, 1, 5, 6], ren := [] } ⟨[(0, (.t (.int .u64 pt0))), (1, (.t (.int .u64 po0))), (5, (.t (.int .u64 r1.1))), (6, (.t (.bool r1.2)))], []⟩ [(sp_num_Add n).fn [(.int .u64 pt0), (.int .u64 po0)] = some ([.tree (.int .u64 r1.1), .tree (.bool r1.2)], [])] (by kernel_rfl) ⟨(ap_num_Add n (by exact ⟨leT.refl _, leT.refl _, trivial⟩) hr1), trivial⟩ ?_
    refine Nxt_norm ?_
    refine Ab.seq ?_
    obtain ⟨r2, hr2, h⟩ := bind_some h
    refine Ab.regT hE hC hL [[], [], [.r [.tree (.int .u64 r2.1), .tree (.bool r2.2)] []]] { keep := [0, 1, 5, 6, 7, 8], ren := [] } ⟨[(0, (.t (.int .u64 pt0))), (1, (.t (.int .u64 po0))), (5, (.t (.int .u64 r1.1))), (6, (.t (.bool r1.2))), (7, (.t (.int .u64 r2.1))), (8, (.t (.bool r2.2)))], []⟩ [(sp_ref01_Add n).fn [(.int .u64 pt0), (.int .u64 po0)] = some ([.tree (.int .u64 r2.1), .tree (.bool r2.2)], [])] (by kernel_rfl) ⟨(ap_ref01_Add n (by exact ⟨leT.refl _, leT.refl _, trivial⟩) hr2), trivial⟩ ?_
    refine Nxt_norm ?_
    refine Ab.seq ?_
    obtain ⟨r3, hr3, h⟩ := bind_some h
    refine Ab.regT hE hC hL [[], [], [.r [.tree (.int .u64 r3.1), .tree (.bool r3.2)] []]] { keep := [0, 1, 5, 6, 7, 8, 9, 10], ren := [] } ⟨[(0, (.t (.int .u64 pt0))), (1, (.t (.int .u64 po0))), (5, (.t (.int .u64 r1.1))), (6, (.t (.bool r1.2))), (7, (.t (.int .u64 r2.1))), (8, (.t (.bool r2.2))), (9, (.t (.int .u64 r3.1))), (10, (.t (.bool r3.2)))], []⟩ [(sp_num_Mul n).fn [(.int .u64 pt0), (.int .u64 po0)] = some ([.tree (.int .u64 r3.1), .tree (.bool r3.2)], [])] (by kernel_rfl) ⟨(ap_num_Mul n (by exact ⟨leT.refl _, leT.refl _, trivial⟩) hr3), trivial⟩ ?_
    refine Nxt_norm ?_
    refine Ab.seq ?_
    obtain ⟨r4, hr4, h⟩ := bind_some h
    refine Ab.regT hE hC hL [[], [], [.r [.tree (.int .u64 r4.1), .tree (.bool r4.2)] []]] { keep := [0, 1, 5, 6, 7, 8, 9, 10, 11, 12], ren := [] } ⟨[(0, (.t (.int .u64 pt0))), (1, (.t (.int .u64 po0))), (5, (.t (.int .u64 r1.1))), (6, (.t (.bool r1.2))), (7, (.t (.int .u64 r2.1))), (8, (.t (.bool r2.2))), (9, (.t (.int .u64 r3.1))), (10, (.t (.bool r3.2))), (11, (.t (.int .u64 r4.1))), (12, (.t (.bool r4.2)))], []⟩ [(sp_ref01_Mul n).fn [(.int .u64 pt0), (.int .u64 po0)] = some ([.tree (.int .u64 r4.1), .tree (.bool r4.2)], [])] (by kernel_rfl) ⟨(ap_ref01_Mul n (by exact ⟨leT.refl _, leT.refl _, trivial⟩) hr4), trivial⟩ ?_
    refine Nxt_norm ?_
    refine Ab.seq ?_
    obtain ⟨r5, hr5, h⟩ := bind_some h
    refine Ab.regT hE hC hL [[], [], [.r [.tree (.int .u64 r5.1), .tree (.bool r5.2)] []]] { keep := [0, 1, 5, 6, 7, 8, 9, 10, 11, 12, 13, 14], ren := [] } ⟨[(0, (.t (.int .u64 pt0))), (1, (.t (.int .u64 po0))), (5, (.t (.int .u64 r1.1))), (6, (.t (.bool r1.2))), (7, (.t (.int .u64 r2.1))), (8, (.t (.bool r2.2))), (9, (.t (.int .u64 r3.1))), (10, (.t (.bool r3.2))), (11, (.t (.int .u64 r4.1))), (12, (.t (.bool r4.2))), (13, (.t (.int .u64 r5.1))), (14, (.t (.bool r5.2)))], []⟩ [(sp_num_Sub n).fn [(.int .u64 pt0), (.int .u64 po0)] = some ([.tree (.int .u64 r5.1), .tree (.bool r5.2)], [])] (by kernel_rfl) ⟨(ap_num_Sub n (by exact ⟨leT.refl _, leT.refl _, trivial⟩) hr5), trivial⟩ ?_
    refine Nxt_norm ?_
    refine Ab.seq ?_
    obtain ⟨r6, hr6, h⟩ := bind_some h
    refine Ab.regT hE hC hL [[], [], [.r [.tree (.int .u64 r6.1), .tree (.bool r6.2)] []]] { keep := [0, 1, 5, 6, 7, 8, 9, 10, 11, 12, 13, 14, 15, 16], ren := [] } ⟨[(0, (.t (.int .u64 pt0))), (1, (.t (.int .u64 po0))), (5, (.t (.int .u64 r1.1))), (6, (.t (.bool r1.2))), (7, (.t (.int .u64 r2.1))), (8, (.t (.bool r2.2))), (9, (.t (.int .u64 r3.1))), (10, (.t (.bool r3.2))), (11, (.t (.int .u64 r4.1))), (12, (.t (.bool r4.2))), (13, (.t (.int .u64 r5.1))), (14, (.t (.bool r5.2))), (15, (.t (.int .u64 r6.1))), (16, (.t (.bool r6.2)))], []⟩ [(sp_num_Div n).fn [(.int .u64 pt0), (.int .u64 po0)] = some ([.tree (.int .u64 r6.1), .tree (.bool r6.2)], [])] (by kernel_rfl) ⟨(ap_num_Div n (by exact ⟨leT.refl _, leT.refl _, trivial⟩) hr6), trivial⟩ ?_
    refine Nxt_norm ?_
    refine Ab.seq ?_
    refine Ab.regT hE hC hL [] { keep := [0, 1, 5, 6, 7, 8, 9, 10, 11, 12, 13, 14, 15, 16, 17], ren := [] } ⟨[(0, (.t (.int .u64 pt0))), (1, (.t (.int .u64 po0))), (5, (.t (.int .u64 r1.1))), (6, (.t (.bool r1.2))), (7, (.t (.int .u64 r2.1))), (8, (.t (.bool r2.2))), (9, (.t (.int .u64 r3.1))), (10, (.t (.bool r3.2))), (11, (.t (.int .u64 r4.1))), (12, (.t (.bool r4.2))), (13, (.t (.int .u64 r5.1))), (14, (.t (.bool r5.2))), (15, (.t (.int .u64 r6.1))), (16, (.t (.bool r6.2))), (17, (.t (.int .u64 r2.1)))], []⟩ [] (by kernel_rfl) trivial ?_
    refine Nxt_norm ?_
    refine Ab.seqJ (fun (a0 : Int) => (⟨[(0, (.t (.int .u64 pt0))), (1, (.t (.int .u64 po0))), (5, (.t (.int .u64 r1.1))), (6, (.t (.bool r1.2))), (7, (.t (.int .u64 r2.1))), (8, (.t (.bool r2.2))), (9, (.t (.int .u64 r3.1))), (10, (.t (.bool r3.2))), (11, (.t (.int .u64 r4.1))), (12, (.t (.bool r4.2))), (13, (.t (.int .u64 r5.1))), (14, (.t (.bool r5.2))), (15, (.t (.int .u64 r6.1))), (16, (.t (.bool r6.2))), (17, (.t (.int .u64 a0)))], []⟩ : St)) (fun (a0 : Int) => f_law01_NumSums_j0 n po0 pt0 r1 r2 r3 r4 r5 r6 a0 = some r) hC hL ?_ ?_
    · refine Ab.seq ?_
      refine Ab.regT hE hC hL [] { keep := [0, 1, 5, 6, 7, 8, 9, 10, 11, 12, 13, 14, 15, 16, 17, 58], ren := [] } ⟨[(0, (.t (.int .u64 pt0))), (1, (.t (.int .u64 po0))), (5, (.t (.int .u64 r1.1))), (6, (.t (.bool r1.2))), (7, (.t (.int .u64 r2.1))), (8, (.t (.bool r2.2))), (9, (.t (.int .u64 r3.1))), (10, (.t (.bool r3.2))), (11, (.t (.int .u64 r4.1))), (12, (.t (.bool r4.2))), (13, (.t (.int .u64 r5.1))), (14, (.t (.bool r5.2))), (15, (.t (.int .u64 r6.1))), (16, (.t (.bool r6.2))), (17, (.t (.int .u64 r2.1))), (58, (.t (.bool (!r2.2))))], []⟩ [] (by kernel_rfl) trivial ?_
      refine Nxt_norm ?_
      refine Ab.cond (b := (!r2.2)) (by kernel_rfl) (fun hb1 => ?_) (fun hb1 => ?_)
      · replace h := cond_t hb1 h
        refine Ab.regT hE hC hL [] { keep := [0, 1, 5, 6, 7, 8, 9, 10, 11, 12, 13, 14, 15, 16, 17], ren := [] } ⟨[(0, (.t (.int .u64 pt0))), (1, (.t (.int .u64 po0))), (5, (.t (.int .u64 r1.1))), (6, (.t (.bool r1.2))), (7, (.t (.int .u64 r2.1))), (8, (.t (.bool r2.2))), (9, (.t (.int .u64 r3.1))), (10, (.t (.bool r3.2))), (11, (.t (.int .u64 r4.1))), (12, (.t (.bool r4.2))), (13, (.t (.int .u64 r5.1))), (14, (.t (.bool r5.2))), (15, (.t (.int .u64 r6.1))), (16, (.t (.bool r6.2))), (17, (.t (.int .u64 (18446744073709551615:Int))))], []⟩ [] (by kernel_rfl) trivial ?_
        exact Nxt_norm ⟨(18446744073709551615:Int), { fs := [], keep := [0, 1, 5, 6, 7, 8, 9, 10, 11, 12, 13, 14, 15, 16, 17], ren := [] }, h, by kernel_rfl⟩
      · replace h := cond_f hb1 h
        refine Ab.skip ?_
        exact Nxt_norm ⟨r2.1, { fs := [], keep := [0, 1, 5, 6, 7, 8, 9, 10, 11, 12, 13, 14, 15, 16, 17], ren := [] }, h, by kernel_rfl⟩
    · rintro a0 h
      replace h : f_law01_NumSums_j0 n po0 pt0 r1 r2 r3 r4 r5 r6 a0 = some r := h
      unfold f_law01_NumSums_j0 at h
      refine Ab.seqJ (fun (_ : Unit) => (⟨[(0, (.t (.int .u64 pt0))), (1, (.t (.int .u64 po0))), (17, (.t (.int .u64 a0)))], []⟩ : St)) (fun (_ : Unit) => f_law01_NumSums_j1 n a0 po0 pt0 = some r) hC hL ?_ ?_
      · refine Ab.seq ?_
        rcases Bool.eq_false_or_eq_true (r1.1 != r2.1) with hb2 | hb2
        · replace h := cond_t hb2 h
          refine Ab.regT hE hC hL [[], [], [], [.b true]] { keep := [0, 1, 17, 115], ren := [] } ⟨[(0, (.t (.int .u64 pt0))), (1, (.t (.int .u64 po0))), (17, (.t (.int .u64 a0))), (115, (.t (.bool true)))], []⟩ [(r1.1 != r2.1) = true] (by kernel_rfl) ⟨hb2, trivial⟩ ?_
          refine Nxt_norm ?_
          refine Ab.cond (b := true) (by kernel_rfl) (fun _ => ?_) (fun hb => Bool.noConfusion hb)
          refine Ab.seq ?_
          refine Ab.regT hE hC hL [] { keep := [4], ren := [] } ⟨[(4, (.t (.bool false)))], []⟩ [] (by kernel_rfl) trivial ?_
          refine Nxt_norm ?_
          refine Ab.ret ?_
          refine Nxt_ret ?_
          obtain rfl := Option.some.inj h
          exact End_ret (doneO_ok (md := [false]) (by kernel_rfl))
        · replace h := cond_f hb2 h
          rcases Bool.eq_false_or_eq_true (!(r1.2 == r2.2)) with hb3 | hb3
          · replace h := cond_t hb3 h
            refine Ab.regT hE hC hL [[], [], [], [.b false], [], [], [], [], [.b true]] { keep := [0, 1, 17, 115], ren := [] } ⟨[(0, (.t (.int .u64 pt0))), (1, (.t (.int .u64 po0))), (17, (.t (.int .u64 a0))), (115, (.t (.bool true)))], []⟩ [(r1.1 != r2.1) = false, (!(r1.2 == r2.2)) = true] (by kernel_rfl) ⟨hb2, hb3, trivial⟩ ?_
            refine Nxt_norm ?_
            refine Ab.cond (b := true) (by kernel_rfl) (fun _ => ?_) (fun hb => Bool.noConfusion hb)
            refine Ab.seq ?_
            refine Ab.regT hE hC hL [] { keep := [4], ren := [] } ⟨[(4, (.t (.bool false)))], []⟩ [] (by kernel_rfl) trivial ?_
            refine Nxt_norm ?_
            refine Ab.ret ?_
            refine Nxt_ret ?_
            obtain rfl := Option.some.inj h
            exact End_ret (doneO_ok (md := [false]) (by kernel_rfl))
          · replace h := cond_f hb3 h
            rcases Bool.eq_false_or_eq_true (r3.1 != r4.1) with hb4 | hb4
            · replace h := cond_t hb4 h
              refine Ab.regT hE hC hL [[], [], [], [.b false], [], [], [], [], [.b false], [], [], [], [], [.b true]] { keep := [0, 1, 17, 115], ren := [] } ⟨[(0, (.t (.int .u64 pt0))), (1, (.t (.int .u64 po0))), (17, (.t (.int .u64 a0))), (115, (.t (.bool true)))], []⟩ [(r1.1 != r2.1) = false, (!(r1.2 == r2.2)) = false, (r3.1 != r4.1) = true] (by kernel_rfl) ⟨hb2, hb3, hb4, trivial⟩ ?_
              refine Nxt_norm ?_
              refine Ab.cond (b := true) (by kernel_rfl) (fun _ => ?_) (fun hb => Bool.noConfusion hb)
              refine Ab.seq ?_
              refine Ab.regT hE hC hL [] { keep := [4], ren := [] } ⟨[(4, (.t (.bool false)))], []⟩ [] (by kernel_rfl) trivial ?_
              refine Nxt_norm ?_
              refine Ab.ret ?_
              refine Nxt_ret ?_
              obtain rfl := Option.some.inj h
              exact End_ret (doneO_ok (md := [false]) (by kernel_rfl))
            · replace h := cond_f hb4 h
              rcases Bool.eq_false_or_eq_true (!(r3.2 == r4.2)) with hb5 | hb5
              · replace h := cond_t hb5 h
                refine Ab.regT hE hC hL [[], [], [], [.b false], [], [], [], [], [.b false], [], [], [], [], [.b false], [], [], [], [], [.b true]] { keep := [0, 1, 17, 115], ren := [] } ⟨[(0, (.t (.int .u64 pt0))), (1, (.t (.int .u64 po0))), (17, (.t (.int .u64 a0))), (115, (.t (.bool true)))], []⟩ [(r1.1 != r2.1) = false, (!(r1.2 == r2.2)) = false, (r3.1 != r4.1) = false, (!(r3.2 == r4.2)) = true] (by kernel_rfl) ⟨hb2, hb3, hb4, hb5, trivial⟩ ?_
                refine Nxt_norm ?_
                refine Ab.cond (b := true) (by kernel_rfl) (fun _ => ?_) (fun hb => Bool.noConfusion hb)
                refine Ab.seq ?_
                refine Ab.regT hE hC hL [] { keep := [4], ren := [] } ⟨[(4, (.t (.bool false)))], []⟩ [] (by kernel_rfl) trivial ?_
                refine Nxt_norm ?_
                refine Ab.ret ?_
                refine Nxt_ret ?_
                obtain rfl := Option.some.inj h
                exact End_ret (doneO_ok (md := [false]) (by kernel_rfl))
              · replace h := cond_f hb5 h
                rcases Bool.eq_false_or_eq_true (!(r5.2 == (decide (pt0 ≥ po0)))) with hb6 | hb6
                · replace h := cond_t hb6 h
                  refine Ab.regT hE hC hL [[], [], [], [.b false], [], [], [], [], [.b false], [], [], [], [], [.b false], [], [], [], [], [.b false], [], [], [], [], [], [], [.b true]] { keep := [0, 1, 17, 115], ren := [] } ⟨[(0, (.t (.int .u64 pt0))), (1, (.t (.int .u64 po0))), (17, (.t (.int .u64 a0))), (115, (.t (.bool true)))], []⟩ [(r1.1 != r2.1) = false, (!(r1.2 == r2.2)) = false, (r3.1 != r4.1) = false, (!(r3.2 == r4.2)) = false, (!(r5.2 == (decide (pt0 ≥ po0)))) = true] (by kernel_rfl) ⟨hb2, hb3, hb4, hb5, hb6, trivial⟩ ?_
                  refine Nxt_norm ?_
                  refine Ab.cond (b := true) (by kernel_rfl) (fun _ => ?_) (fun hb => Bool.noConfusion hb)
                  refine Ab.seq ?_
                  refine Ab.regT hE hC hL [] { keep := [4], ren := [] } ⟨[(4, (.t (.bool false)))], []⟩ [] (by kernel_rfl) trivial ?_
                  refine Nxt_norm ?_
                  refine Ab.ret ?_
                  refine Nxt_ret ?_
                  obtain rfl := Option.some.inj h
                  exact End_ret (doneO_ok (md := [false]) (by kernel_rfl))
                · replace h := cond_f hb6 h
                  obtain ⟨r7, hr7, h⟩ := bind_some h
                  rcases Bool.eq_false_or_eq_true (r5.1 != r7) with hb7 | hb7
                  · replace h := cond_t hb7 h
                    refine Ab.regT hE hC hL [[], [], [], [.b false], [], [], [], [], [.b false], [], [], [], [], [.b false], [], [], [], [], [.b false], [], [], [], [], [], [], [.b false], [], [], [], [.r [.tree (.int .u64 r7)] []], [], [], [.b true]] { keep := [0, 1, 17, 115], ren := [] } ⟨[(0, (.t (.int .u64 pt0))), (1, (.t (.int .u64 po0))), (17, (.t (.int .u64 a0))), (115, (.t (.bool true)))], []⟩ [(r1.1 != r2.1) = false, (!(r1.2 == r2.2)) = false, (r3.1 != r4.1) = false, (!(r3.2 == r4.2)) = false, (!(r5.2 == (decide (pt0 ≥ po0)))) = false, (sp_ref01_Less n).fn [(.int .u64 pt0), (.int .u64 po0)] = some ([.tree (.int .u64 r7)], []), (r5.1 != r7) = true] (by kernel_rfl) ⟨hb2, hb3, hb4, hb5, hb6, (ap_ref01_Less n (by exact ⟨leT.refl _, leT.refl _, trivial⟩) hr7), hb7, trivial⟩ ?_
                    refine Nxt_norm ?_
                    refine Ab.cond (b := true) (by kernel_rfl) (fun _ => ?_) (fun hb => Bool.noConfusion hb)
                    refine Ab.seq ?_
                    refine Ab.regT hE hC hL [] { keep := [4], ren := [] } ⟨[(4, (.t (.bool false)))], []⟩ [] (by kernel_rfl) trivial ?_
                    refine Nxt_norm ?_
                    refine Ab.ret ?_
                    refine Nxt_ret ?_
                    obtain rfl := Option.some.inj h
                    exact End_ret (doneO_ok (md := [false]) (by kernel_rfl))
                  · replace h := cond_f hb7 h
                    rcases Bool.eq_false_or_eq_true (!(r6.2 == (po0 != (0:Int)))) with hb8 | hb8
                    · replace h := cond_t hb8 h
                      refine Ab.regT hE hC hL [[], [], [], [.b false], [], [], [], [], [.b false], [], [], [], [], [.b false], [], [], [], [], [.b false], [], [], [], [], [], [], [.b false], [], [], [], [.r [.tree (.int .u64 r7)] []], [], [], [.b false], [], [], [], [], [], [.b true]] { keep := [0, 1, 17, 115], ren := [] } ⟨[(0, (.t (.int .u64 pt0))), (1, (.t (.int .u64 po0))), (17, (.t (.int .u64 a0))), (115, (.t (.bool true)))], []⟩ [(r1.1 != r2.1) = false, (!(r1.2 == r2.2)) = false, (r3.1 != r4.1) = false, (!(r3.2 == r4.2)) = false, (!(r5.2 == (decide (pt0 ≥ po0)))) = false, (sp_ref01_Less n).fn [(.int .u64 pt0), (.int .u64 po0)] = some ([.tree (.int .u64 r7)], []), (r5.1 != r7) = false, (!(r6.2 == (po0 != (0:Int)))) = true] (by kernel_rfl) ⟨hb2, hb3, hb4, hb5, hb6, (ap_ref01_Less n (by exact ⟨leT.refl _, leT.refl _, trivial⟩) hr7), hb7, hb8, trivial⟩ ?_
                      refine Nxt_norm ?_
                      refine Ab.cond (b := true) (by kernel_rfl) (fun _ => ?_) (fun hb => Bool.noConfusion hb)
                      refine Ab.seq ?_
                      refine Ab.regT hE hC hL [] { keep := [4], ren := [] } ⟨[(4, (.t (.bool false)))], []⟩ [] (by kernel_rfl) trivial ?_
                      refine Nxt_norm ?_
                      refine Ab.ret ?_
                      refine Nxt_ret ?_
                      obtain rfl := Option.some.inj h
                      exact End_ret (doneO_ok (md := [false]) (by kernel_rfl))
                    · replace h := cond_f hb8 h
                      rcases Bool.eq_false_or_eq_true (po0 == (0:Int)) with hb9 | hb9
                      · replace h := cond_t hb9 h
                        rcases Bool.eq_false_or_eq_true (r6.1 != (0:Int)) with hb10 | hb10
                        · replace h := cond_t hb10 h
                          refine Ab.regT hE hC hL [[], [], [], [.b false], [], [], [], [], [.b false], [], [], [], [], [.b false], [], [], [], [], [.b false], [], [], [], [], [], [], [.b false], [], [], [], [.r [.tree (.int .u64 r7)] []], [], [], [.b false], [], [], [], [], [], [.b false], [], [], [.b true], [], [], [], [], [.b true]] { keep := [0, 1, 17, 115], ren := [] } ⟨[(0, (.t (.int .u64 pt0))), (1, (.t (.int .u64 po0))), (17, (.t (.int .u64 a0))), (115, (.t (.bool true)))], []⟩ [(r1.1 != r2.1) = false, (!(r1.2 == r2.2)) = false, (r3.1 != r4.1) = false, (!(r3.2 == r4.2)) = false, (!(r5.2 == (decide (pt0 ≥ po0)))) = false, (sp_ref01_Less n).fn [(.int .u64 pt0), (.int .u64 po0)] = some ([.tree (.int .u64 r7)], []), (r5.1 != r7) = false, (!(r6.2 == (po0 != (0:Int)))) = false, (po0 == (0:Int)) = true, (r6.1 != (0:Int)) = true] (by kernel_rfl) ⟨hb2, hb3, hb4, hb5, hb6, (ap_ref01_Less n (by exact ⟨leT.refl _, leT.refl _, trivial⟩) hr7), hb7, hb8, hb9, hb10, trivial⟩ ?_
                          refine Nxt_norm ?_
                          refine Ab.cond (b := true) (by kernel_rfl) (fun _ => ?_) (fun hb => Bool.noConfusion hb)
                          refine Ab.seq ?_
                          refine Ab.regT hE hC hL [] { keep := [4], ren := [] } ⟨[(4, (.t (.bool false)))], []⟩ [] (by kernel_rfl) trivial ?_
                          refine Nxt_norm ?_
                          refine Ab.ret ?_
                          refine Nxt_ret ?_
                          obtain rfl := Option.some.inj h
                          exact End_ret (doneO_ok (md := [false]) (by kernel_rfl))
                        · replace h := cond_f hb10 h
                          rcases Bool.eq_false_or_eq_true (po0 != (0:Int)) with hb11 | hb11
                          · replace h := cond_t hb11 h
                            obtain ⟨hq0, h⟩ := ask_dec h
                            refine Ab.regT hE hC hL [[], [], [], [.b false], [], [], [], [], [.b false], [], [], [], [], [.b false], [], [], [], [], [.b false], [], [], [], [], [], [], [.b false], [], [], [], [.r [.tree (.int .u64 r7)] []], [], [], [.b false], [], [], [], [], [], [.b false], [], [], [.b true], [], [], [], [], [.b false], [], [], [.b true], [], [], [], [.c]] { keep := [0, 1, 17, 115], ren := [] } ⟨[(0, (.t (.int .u64 pt0))), (1, (.t (.int .u64 po0))), (17, (.t (.int .u64 a0))), (115, (.t (.bool (r6.1 != (w64 (pt0.tdiv po0))))))], []⟩ [(r1.1 != r2.1) = false, (!(r1.2 == r2.2)) = false, (r3.1 != r4.1) = false, (!(r3.2 == r4.2)) = false, (!(r5.2 == (decide (pt0 ≥ po0)))) = false, (sp_ref01_Less n).fn [(.int .u64 pt0), (.int .u64 po0)] = some ([.tree (.int .u64 r7)], []), (r5.1 != r7) = false, (!(r6.2 == (po0 != (0:Int)))) = false, (po0 == (0:Int)) = true, (r6.1 != (0:Int)) = false, (po0 != (0:Int)) = true, po0 ≠ 0] (by kernel_rfl) ⟨hb2, hb3, hb4, hb5, hb6, (ap_ref01_Less n (by exact ⟨leT.refl _, leT.refl _, trivial⟩) hr7), hb7, hb8, hb9, hb10, hb11, hq0, trivial⟩ ?_
                            refine Nxt_norm ?_
                            refine Ab.cond (b := (r6.1 != (w64 (pt0.tdiv po0)))) (by kernel_rfl) (fun hb13 => ?_) (fun hb13 => ?_)
                            · replace h := cond_t hb13 h
                              refine Ab.seq ?_
                              refine Ab.regT hE hC hL [] { keep := [4], ren := [] } ⟨[(4, (.t (.bool false)))], []⟩ [] (by kernel_rfl) trivial ?_
                              refine Nxt_norm ?_
                              refine Ab.ret ?_
                              refine Nxt_ret ?_
                              obtain rfl := Option.some.inj h
                              exact End_ret (doneO_ok (md := [false]) (by kernel_rfl))
                            · replace h := cond_f hb13 h
                              refine Ab.skip ?_
                              exact Nxt_norm ⟨(), { fs := [], keep := [0, 1, 17], ren := [] }, h, by kernel_rfl⟩
                          · replace h := cond_f hb11 h
                            refine Ab.regT hE hC hL [[], [], [], [.b false], [], [], [], [], [.b false], [], [], [], [], [.b false], [], [], [], [], [.b false], [], [], [], [], [], [], [.b false], [], [], [], [.r [.tree (.int .u64 r7)] []], [], [], [.b false], [], [], [], [], [], [.b false], [], [], [.b true], [], [], [], [], [.b false], [], [], [.b false]] { keep := [0, 1, 17, 115], ren := [] } ⟨[(0, (.t (.int .u64 pt0))), (1, (.t (.int .u64 po0))), (17, (.t (.int .u64 a0))), (115, (.t (.bool false)))], []⟩ [(r1.1 != r2.1) = false, (!(r1.2 == r2.2)) = false, (r3.1 != r4.1) = false, (!(r3.2 == r4.2)) = false, (!(r5.2 == (decide (pt0 ≥ po0)))) = false, (sp_ref01_Less n).fn [(.int .u64 pt0), (.int .u64 po0)] = some ([.tree (.int .u64 r7)], []), (r5.1 != r7) = false, (!(r6.2 == (po0 != (0:Int)))) = false, (po0 == (0:Int)) = true, (r6.1 != (0:Int)) = false, (po0 != (0:Int)) = false] (by kernel_rfl) ⟨hb2, hb3, hb4, hb5, hb6, (ap_ref01_Less n (by exact ⟨leT.refl _, leT.refl _, trivial⟩) hr7), hb7, hb8, hb9, hb10, hb11, trivial⟩ ?_
                            refine Nxt_norm ?_
                            refine Ab.cond (b := false) (by kernel_rfl) (fun hb => Bool.noConfusion hb) (fun _ => ?_)
                            refine Ab.skip ?_
                            exact Nxt_norm ⟨(), { fs := [], keep := [0, 1, 17], ren := [] }, h, by kernel_rfl⟩
                      · replace h := cond_f hb9 h
                        rcases Bool.eq_false_or_eq_true (po0 != (0:Int)) with hb12 | hb12
                        · replace h := cond_t hb12 h
                          obtain ⟨hq1, h⟩ := ask_dec h
                          refine Ab.regT hE hC hL [[], [], [], [.b false], [], [], [], [], [.b false], [], [], [], [], [.b false], [], [], [], [], [.b false], [], [], [], [], [], [], [.b false], [], [], [], [.r [.tree (.int .u64 r7)] []], [], [], [.b false], [], [], [], [], [], [.b false], [], [], [.b false], [], [], [], [], [], [], [], [.b true], [], [], [], [.c]] { keep := [0, 1, 17, 115], ren := [] } ⟨[(0, (.t (.int .u64 pt0))), (1, (.t (.int .u64 po0))), (17, (.t (.int .u64 a0))), (115, (.t (.bool (r6.1 != (w64 (pt0.tdiv po0))))))], []⟩ [(r1.1 != r2.1) = false, (!(r1.2 == r2.2)) = false, (r3.1 != r4.1) = false, (!(r3.2 == r4.2)) = false, (!(r5.2 == (decide (pt0 ≥ po0)))) = false, (sp_ref01_Less n).fn [(.int .u64 pt0), (.int .u64 po0)] = some ([.tree (.int .u64 r7)], []), (r5.1 != r7) = false, (!(r6.2 == (po0 != (0:Int)))) = false, (po0 == (0:Int)) = false, (po0 != (0:Int)) = true, po0 ≠ 0] (by kernel_rfl) ⟨hb2, hb3, hb4, hb5, hb6, (ap_ref01_Less n (by exact ⟨leT.refl _, leT.refl _, trivial⟩) hr7), hb7, hb8, hb9, hb12, hq1, trivial⟩ ?_
                          refine Nxt_norm ?_
                          refine Ab.cond (b := (r6.1 != (w64 (pt0.tdiv po0)))) (by kernel_rfl) (fun hb14 => ?_) (fun hb14 => ?_)
                          · replace h := cond_t hb14 h
                            refine Ab.seq ?_
                            refine Ab.regT hE hC hL [] { keep := [4], ren := [] } ⟨[(4, (.t (.bool false)))], []⟩ [] (by kernel_rfl) trivial ?_
                            refine Nxt_norm ?_
                            refine Ab.ret ?_
                            refine Nxt_ret ?_
                            obtain rfl := Option.some.inj h
                            exact End_ret (doneO_ok (md := [false]) (by kernel_rfl))
                          · replace h := cond_f hb14 h
                            refine Ab.skip ?_
                            exact Nxt_norm ⟨(), { fs := [], keep := [0, 1, 17], ren := [] }, h, by kernel_rfl⟩
                        · replace h := cond_f hb12 h
                          refine Ab.regT hE hC hL [[], [], [], [.b false], [], [], [], [], [.b false], [], [], [], [], [.b false], [], [], [], [], [.b false], [], [], [], [], [], [], [.b false], [], [], [], [.r [.tree (.int .u64 r7)] []], [], [], [.b false], [], [], [], [], [], [.b false], [], [], [.b false], [], [], [], [], [], [], [], [.b false]] { keep := [0, 1, 17, 115], ren := [] } ⟨[(0, (.t (.int .u64 pt0))), (1, (.t (.int .u64 po0))), (17, (.t (.int .u64 a0))), (115, (.t (.bool false)))], []⟩ [(r1.1 != r2.1) = false, (!(r1.2 == r2.2)) = false, (r3.1 != r4.1) = false, (!(r3.2 == r4.2)) = false, (!(r5.2 == (decide (pt0 ≥ po0)))) = false, (sp_ref01_Less n).fn [(.int .u64 pt0), (.int .u64 po0)] = some ([.tree (.int .u64 r7)], []), (r5.1 != r7) = false, (!(r6.2 == (po0 != (0:Int)))) = false, (po0 == (0:Int)) = false, (po0 != (0:Int)) = false] (by kernel_rfl) ⟨hb2, hb3, hb4, hb5, hb6, (ap_ref01_Less n (by exact ⟨leT.refl _, leT.refl _, trivial⟩) hr7), hb7, hb8, hb9, hb12, trivial⟩ ?_
                          refine Nxt_norm ?_
                          refine Ab.cond (b := false) (by kernel_rfl) (fun hb => Bool.noConfusion hb) (fun _ => ?_)
                          refine Ab.skip ?_
                          exact Nxt_norm ⟨(), { fs := [], keep := [0, 1, 17], ren := [] }, h, by kernel_rfl⟩
      · rintro ⟨⟩ h
        replace h : f_law01_NumSums_j1 n a0 po0 pt0 = some r := h
        unfold f_law01_NumSums_j1 at h
        refine Ab.seq ?_
        obtain ⟨r8, hr8, h⟩ := bind_some h
        obtain ⟨r9, hr9, h⟩ := bind_some h
        rcases Bool.eq_false_or_eq_true (r8 == r9) with hb15 | hb15
        · replace h := cond_t hb15 h
          obtain ⟨r10, hr10, h⟩ := bind_some h
          refine Ab.regT hE hC hL [[], [], [.r [.tree (.int .u64 r8)] []], [], [], [.r [.tree (.int .u64 r9)] []], [], [.b true], [], [], [.r [.tree (.int .u64 r10)] []]] { keep := [4], ren := [] } ⟨[(4, (.t (.bool (r10 == a0))))], []⟩ [(sp_num_Less n).fn [(.int .u64 pt0), (.int .u64 po0)] = some ([.tree (.int .u64 r8)], []), (sp_ref01_Less n).fn [(.int .u64 pt0), (.int .u64 po0)] = some ([.tree (.int .u64 r9)], []), (r8 == r9) = true, (sp_num_Most n).fn [(.int .u64 pt0), (.int .u64 po0)] = some ([.tree (.int .u64 r10)], [])] (by kernel_rfl) ⟨(ap_num_Less n (by exact ⟨leT.refl _, leT.refl _, trivial⟩) hr8), (ap_ref01_Less n (by exact ⟨leT.refl _, leT.refl _, trivial⟩) hr9), hb15, (ap_num_Most n (by exact ⟨leT.refl _, leT.refl _, trivial⟩) hr10), trivial⟩ ?_
          refine Nxt_norm ?_
          refine Ab.ret ?_
          obtain rfl := Option.some.inj h
          exact End_ret (doneO_ok (md := [false]) (by kernel_rfl))
        · replace h := cond_f hb15 h
          refine Ab.regT hE hC hL [[], [], [.r [.tree (.int .u64 r8)] []], [], [], [.r [.tree (.int .u64 r9)] []], [], [.b false]] { keep := [4], ren := [] } ⟨[(4, (.t (.bool false)))], []⟩ [(sp_num_Less n).fn [(.int .u64 pt0), (.int .u64 po0)] = some ([.tree (.int .u64 r8)], []), (sp_ref01_Less n).fn [(.int .u64 pt0), (.int .u64 po0)] = some ([.tree (.int .u64 r9)], []), (r8 == r9) = false] (by kernel_rfl) ⟨(ap_num_Less n (by exact ⟨leT.refl _, leT.refl _, trivial⟩) hr8), (ap_ref01_Less n (by exact ⟨leT.refl _, leT.refl _, trivial⟩) hr9), hb15, trivial⟩ ?_
          refine Nxt_norm ?_
          refine Ab.ret ?_
          obtain rfl := Option.some.inj h
          exact End_ret (doneO_ok (md := [false]) (by kernel_rfl))
def ea_law01_NumBack (a : Int × Int) : List T := [(T.int .u64) a.1, (T.int .u64) a.2]
def er_law01_NumBack (r : Bool) : List RR × List T := ([.tree (T.bool r)], [])
noncomputable def sp_law01_NumBack (n : Nat) : Spec := specP [] true ea_law01_NumBack (fun a => f_law01_NumBack n a.1 a.2) (fun _ r => er_law01_NumBack r)
theorem ap_law01_NumBack (n : Nat) {ts : List T} {a0 : Int} {a1 : Int} {r : Bool} (hle : leTs ts [(T.int .u64) a0, (T.int .u64) a1]) (h : f_law01_NumBack n a0 a1 = some r) : (sp_law01_NumBack n).fn ts = some ([.tree (T.bool r)], []) :=
  specP_fn (a := (a0, a1)) (InjA.cons (inj_int _) (InjA.one (inj_int _))) hle h
noncomputable def E_law01_NumBack (n : Nat) : Env := { ty := tyT, glob := glob, fns := get [(19, sp_law01_Awake n), (27, sp_num_Add n), (29, sp_num_Mul n), (31, sp_num_Sub n), (32, sp_num_Div n), (33, sp_num_Less n), (34, sp_num_Most n)], ntmps := 87 }
theorem eok_law01_NumBack (n : Nat) : EnvOK Try.prog (E_law01_NumBack n) := ⟨tys_ok tys_chk, prog_mixed, (fns_cons (ok_law01_Awake n) (fns_cons (ok_num_Add n) (fns_cons (ok_num_Mul n) (fns_cons (ok_num_Sub n) (fns_cons (ok_num_Div n) (fns_cons (ok_num_Less n) (fns_cons (ok_num_Most n) fns_nil)))))))⟩
def K_law01_NumBack (n : Nat) (pa0 : Int) (pb0 : Int) (r : Bool) : St → Prop := Done (E_law01_NumBack n) Try.f8.results.toList [] (ea_law01_NumBack (pa0, pb0)) (er_law01_NumBack r).1 (er_law01_NumBack r).2
set_option maxRecDepth 100000 in
set_option maxHeartbeats 4000000 in
theorem ok_law01_NumBack (n : Nat) : SpecB Try.prog glob 8 (sp_law01_NumBack n) := by
  refine specP_B (fn := Try.f8) (eok_law01_NumBack n) (by kernel_rfl) rfl (by decide +kernel) (by kernel_rfl) (fun _ => by show 2 ≤ 87; omega)  ?_
  rintro ⟨pa0, pb0⟩ r h C hL hC
  have hE := eok_law01_NumBack n
  replace hL : ∀ n g, (n, g) ∈ C.lent → n ∈ ([] : List Nat) := hL
  replace h : f_law01_NumBack n pa0 pb0 = some r := h
  show Ab _ _ _ _ _ (End (K_law01_NumBack n pa0 pb0 r))
  unfold f_law01_NumBack at h
  refine Ab.seq ?_
  refine Ab.regT hE hC hL [] { keep := [0, 1], ren := [] } ⟨[(0, (.t (.int .u64 pa0))), (1, (.t (.int .u64 pb0)))], []⟩ [] (by kernel_rfl) trivial ?_
  refine Nxt_norm ?_
  refine Ab.seq ?_
  refine Ab.seq ?_
  obtain ⟨r0, hr0, h⟩ := bind_some h
  refine Ab.regT hE hC hL [[.r [.tree (.bool r0)] []]] { keep := [0, 1, 16], ren := [] } ⟨[(0, (.t (.int .u64 pa0))), (1, (.t (.int .u64 pb0))), (16, (.t (.bool (!r0))))], []⟩ [(sp_law01_Awake n).fn [] = some ([.tree (.bool r0)], [])] (by kernel_rfl) ⟨(ap_law01_Awake n (by exact trivial) hr0), trivial⟩ ?_
  refine Nxt_norm ?_
  refine Ab.cond (b := (!r0)) (by kernel_rfl) (fun hb0 => ?_) (fun hb0 => ?_)
  · replace h := cond_t hb0 h
    refine Ab.seq ?_
    refine Ab.regT hE hC hL [] { keep := [4], ren := [] } ⟨[(4, (.t (.bool false)))], []⟩ [] (by kernel_rfl) trivial ?_
    refine Nxt_norm ?_
    refine Ab.ret ?_
    refine Nxt_ret ?_
    obtain rfl := Option.some.inj h
    exact End_ret (doneO_ok (md := [false]) (by kernel_rfl))
  · replace h := cond_f hb0 h
    refine Ab.skip ?_
    refine Nxt_norm ?_
    refine Ab.seqJ (fun (_ : Unit) => (⟨[(0, (.t (.int .u64 pa0))), (1, (.t (.int .u64 pb0)))], []⟩ : St)) (fun (_ : Unit) => f_law01_NumBack_j0 n pa0 pb0 = some r) hC hL ?_ ?_
    · refine Ab.seq ?_
      obtain ⟨r1, hr1, h⟩ := bind_some h
      refine Ab.regT hE hC hL [[], [], [.r [.tree (.int .u64 r1.1), .tree (.bool r1.2)] []]] { keep := [0, 1, 5, 6], ren := [] } ⟨[(0, (.t (.int .u64 pa0))), (1, (.t (.int .u64 pb0))), (5, (.t (.int .u64 r1.1))), (6, (.t (.bool r1.2)))], []⟩ [(sp_num_Add n).fn [(.int .u64 pa0), (.int .u64 pb0)] = some ([.tree (.int .u64 r1.1), .tree (.bool r1.2)], [])] (by kernel_rfl) ⟨(ap_num_Add n (by exact ⟨leT.refl _, leT.refl _, trivial⟩) hr1), trivial⟩ ?_
      refine Nxt_norm ?_
      refine Ab.seq ?_
      refine Ab.regT hE hC hL [] { keep := [0, 1, 5, 23], ren := [] } ⟨[(0, (.t (.int .u64 pa0))), (1, (.t (.int .u64 pb0))), (5, (.t (.int .u64 r1.1))), (23, (.t (.bool r1.2)))], []⟩ [] (by kernel_rfl) trivial ?_
      refine Nxt_norm ?_
      refine Ab.cond (b := r1.2) (by kernel_rfl) (fun hb1 => ?_) (fun hb1 => ?_)
      · replace h := cond_t hb1 h
        refine Ab.seq ?_
        obtain ⟨r2, hr2, h⟩ := bind_some h
        refine Ab.regT hE hC hL [[], [], [.r [.tree (.int .u64 r2.1), .tree (.bool r2.2)] []]] { keep := [0, 1, 7, 8], ren := [] } ⟨[(0, (.t (.int .u64 pa0))), (1, (.t (.int .u64 pb0))), (7, (.t (.int .u64 r2.1))), (8, (.t (.bool r2.2)))], []⟩ [(sp_num_Sub n).fn [(.int .u64 r1.1), (.int .u64 pb0)] = some ([.tree (.int .u64 r2.1), .tree (.bool r2.2)], [])] (by kernel_rfl) ⟨(ap_num_Sub n (by exact ⟨leT.refl _, leT.refl _, trivial⟩) hr2), trivial⟩ ?_
        refine Nxt_norm ?_
        refine Ab.seq ?_
        rcases Bool.eq_false_or_eq_true (!r2.2) with hb2 | hb2
        · replace h := cond_t hb2 h
          refine Ab.regT hE hC hL [[], [], [.b true]] { keep := [0, 1, 36], ren := [] } ⟨[(0, (.t (.int .u64 pa0))), (1, (.t (.int .u64 pb0))), (36, (.t (.bool true)))], []⟩ [(!r2.2) = true] (by kernel_rfl) ⟨hb2, trivial⟩ ?_
          refine Nxt_norm ?_
          refine Ab.cond (b := true) (by kernel_rfl) (fun _ => ?_) (fun hb => Bool.noConfusion hb)
          refine Ab.seq ?_
          refine Ab.regT hE hC hL [] { keep := [4], ren := [] } ⟨[(4, (.t (.bool false)))], []⟩ [] (by kernel_rfl) trivial ?_
          refine Nxt_norm ?_
          refine Ab.ret ?_
          refine Nxt_ret ?_
          obtain rfl := Option.some.inj h
          exact End_ret (doneO_ok (md := [false]) (by kernel_rfl))
        · replace h := cond_f hb2 h
          refine Ab.regT hE hC hL [[], [], [.b false]] { keep := [0, 1, 36], ren := [] } ⟨[(0, (.t (.int .u64 pa0))), (1, (.t (.int .u64 pb0))), (36, (.t (.bool (r2.1 != pa0))))], []⟩ [(!r2.2) = false] (by kernel_rfl) ⟨hb2, trivial⟩ ?_
          refine Nxt_norm ?_
          refine Ab.cond (b := (r2.1 != pa0)) (by kernel_rfl) (fun hb3 => ?_) (fun hb3 => ?_)
          · replace h := cond_t hb3 h
            refine Ab.seq ?_
            refine Ab.regT hE hC hL [] { keep := [4], ren := [] } ⟨[(4, (.t (.bool false)))], []⟩ [] (by kernel_rfl) trivial ?_
            refine Nxt_norm ?_
            refine Ab.ret ?_
            refine Nxt_ret ?_
            obtain rfl := Option.some.inj h
            exact End_ret (doneO_ok (md := [false]) (by kernel_rfl))
          · replace h := cond_f hb3 h
            refine Ab.skip ?_
            exact Nxt_norm ⟨(), { fs := [], keep := [0, 1], ren := [] }, h, by kernel_rfl⟩
      · replace h := cond_f hb1 h
        refine Ab.seq ?_
        obtain ⟨r3, hr3, h⟩ := bind_some h
        refine Ab.regT hE hC hL [[], [.r [.tree (.int .u64 r3.1), .tree (.bool r3.2)] []]] { keep := [0, 1, 9, 10], ren := [] } ⟨[(0, (.t (.int .u64 pa0))), (1, (.t (.int .u64 pb0))), (9, (.t (.int .u64 r3.1))), (10, (.t (.bool r3.2)))], []⟩ [(sp_num_Sub n).fn [(.int .u64 (18446744073709551615:Int)), (.int .u64 pa0)] = some ([.tree (.int .u64 r3.1), .tree (.bool r3.2)], [])] (by kernel_rfl) ⟨(ap_num_Sub n (by exact ⟨leT.refl _, leT.refl _, trivial⟩) hr3), trivial⟩ ?_
        refine Nxt_norm ?_
        refine Ab.seq ?_
        rcases Bool.eq_false_or_eq_true (!r3.2) with hb4 | hb4
        · replace h := cond_t hb4 h
          refine Ab.regT hE hC hL [[], [], [.b true]] { keep := [0, 1, 48], ren := [] } ⟨[(0, (.t (.int .u64 pa0))), (1, (.t (.int .u64 pb0))), (48, (.t (.bool true)))], []⟩ [(!r3.2) = true] (by kernel_rfl) ⟨hb4, trivial⟩ ?_
          refine Nxt_norm ?_
          refine Ab.cond (b := true) (by kernel_rfl) (fun _ => ?_) (fun hb => Bool.noConfusion hb)
          refine Ab.seq ?_
          refine Ab.regT hE hC hL [] { keep := [4], ren := [] } ⟨[(4, (.t (.bool false)))], []⟩ [] (by kernel_rfl) trivial ?_
          refine Nxt_norm ?_
          refine Ab.ret ?_
          refine Nxt_ret ?_
          obtain rfl := Option.some.inj h
          exact End_ret (doneO_ok (md := [false]) (by kernel_rfl))
        · replace h := cond_f hb4 h
          refine Ab.regT hE hC hL [[], [], [.b false]] { keep := [0, 1, 48], ren := [] } ⟨[(0, (.t (.int .u64 pa0))), (1, (.t (.int .u64 pb0))), (48, (.t (.bool (decide (r3.1 ≥ pb0)))))], []⟩ [(!r3.2) = false] (by kernel_rfl) ⟨hb4, trivial⟩ ?_
          refine Nxt_norm ?_
          refine Ab.cond (b := (decide (r3.1 ≥ pb0))) (by kernel_rfl) (fun hb5 => ?_) (fun hb5 => ?_)
          · replace h := cond_t hb5 h
            refine Ab.seq ?_
            refine Ab.regT hE hC hL [] { keep := [4], ren := [] } ⟨[(4, (.t (.bool false)))], []⟩ [] (by kernel_rfl) trivial ?_
            refine Nxt_norm ?_
            refine Ab.ret ?_
            refine Nxt_ret ?_
            obtain rfl := Option.some.inj h
            exact End_ret (doneO_ok (md := [false]) (by kernel_rfl))
          · replace h := cond_f hb5 h
            refine Ab.skip ?_
            exact Nxt_norm ⟨(), { fs := [], keep := [0, 1], ren := [] }, h, by kernel_rfl⟩
    · rintro ⟨⟩ h
      replace h : f_law01_NumBack_j0 n pa0 pb0 = some r := h
      unfold f_law01_NumBack_j0 at h
      refine Ab.seqJ (fun (_ : Unit) => (⟨[(0, (.t (.int .u64 pa0))), (1, (.t (.int .u64 pb0)))], []⟩ : St)) (fun (_ : Unit) => f_law01_NumBack_j1 n pa0 pb0 = some r) hC hL ?_ ?_
      · refine Ab.seq ?_
        obtain ⟨r4, hr4, h⟩ := bind_some h
        refine Ab.regT hE hC hL [[], [], [.r [.tree (.int .u64 r4.1), .tree (.bool r4.2)] []]] { keep := [0, 1, 11, 12], ren := [] } ⟨[(0, (.t (.int .u64 pa0))), (1, (.t (.int .u64 pb0))), (11, (.t (.int .u64 r4.1))), (12, (.t (.bool r4.2)))], []⟩ [(sp_num_Mul n).fn [(.int .u64 pa0), (.int .u64 pb0)] = some ([.tree (.int .u64 r4.1), .tree (.bool r4.2)], [])] (by kernel_rfl) ⟨(ap_num_Mul n (by exact ⟨leT.refl _, leT.refl _, trivial⟩) hr4), trivial⟩ ?_
        refine Nxt_norm ?_
        refine Ab.seq ?_
        rcases Bool.eq_false_or_eq_true r4.2 with hb6 | hb6
        · replace h := cond_t hb6 h
          refine Ab.regT hE hC hL [[], [.b true]] { keep := [0, 1, 11, 59], ren := [] } ⟨[(0, (.t (.int .u64 pa0))), (1, (.t (.int .u64 pb0))), (11, (.t (.int .u64 r4.1))), (59, (.t (.bool (pb0 != (0:Int)))))], []⟩ [r4.2 = true] (by kernel_rfl) ⟨hb6, trivial⟩ ?_
          refine Nxt_norm ?_
          refine Ab.cond (b := (pb0 != (0:Int))) (by kernel_rfl) (fun hb7 => ?_) (fun hb7 => ?_)
          · replace h := cond_t hb7 h
            refine Ab.seq ?_
            obtain ⟨r5, hr5, h⟩ := bind_some h
            refine Ab.regT hE hC hL [[], [], [.r [.tree (.int .u64 r5.1), .tree (.bool r5.2)] []]] { keep := [0, 1, 13, 14], ren := [] } ⟨[(0, (.t (.int .u64 pa0))), (1, (.t (.int .u64 pb0))), (13, (.t (.int .u64 r5.1))), (14, (.t (.bool r5.2)))], []⟩ [(sp_num_Div n).fn [(.int .u64 r4.1), (.int .u64 pb0)] = some ([.tree (.int .u64 r5.1), .tree (.bool r5.2)], [])] (by kernel_rfl) ⟨(ap_num_Div n (by exact ⟨leT.refl _, leT.refl _, trivial⟩) hr5), trivial⟩ ?_
            refine Nxt_norm ?_
            refine Ab.seq ?_
            rcases Bool.eq_false_or_eq_true (!r5.2) with hb8 | hb8
            · replace h := cond_t hb8 h
              refine Ab.regT hE hC hL [[], [], [.b true]] { keep := [0, 1, 72], ren := [] } ⟨[(0, (.t (.int .u64 pa0))), (1, (.t (.int .u64 pb0))), (72, (.t (.bool true)))], []⟩ [(!r5.2) = true] (by kernel_rfl) ⟨hb8, trivial⟩ ?_
              refine Nxt_norm ?_
              refine Ab.cond (b := true) (by kernel_rfl) (fun _ => ?_) (fun hb => Bool.noConfusion hb)
              refine Ab.seq ?_
              refine Ab.regT hE hC hL [] { keep := [4], ren := [] } ⟨[(4, (.t (.bool false)))], []⟩ [] (by kernel_rfl) trivial ?_
              refine Nxt_norm ?_
              refine Ab.ret ?_
              refine Nxt_ret ?_
              obtain rfl := Option.some.inj h
              exact End_ret (doneO_ok (md := [false]) (by kernel_rfl))
            · replace h := cond_f hb8 h
              refine Ab.regT hE hC hL [[], [], [.b false]] { keep := [0, 1, 72], ren := [] } ⟨[(0, (.t (.int .u64 pa0))), (1, (.t (.int .u64 pb0))), (72, (.t (.bool (r5.1 != pa0))))], []⟩ [(!r5.2) = false] (by kernel_rfl) ⟨hb8, trivial⟩ ?_
              refine Nxt_norm ?_
              refine Ab.cond (b := (r5.1 != pa0)) (by kernel_rfl) (fun hb9 => ?_) (fun hb9 => ?_)
              · replace h := cond_t hb9 h
                refine Ab.seq ?_
                refine Ab.regT hE hC hL [] { keep := [4], ren := [] } ⟨[(4, (.t (.bool false)))], []⟩ [] (by kernel_rfl) trivial ?_
                refine Nxt_norm ?_
                refine Ab.ret ?_
                refine Nxt_ret ?_
                obtain rfl := Option.some.inj h
                exact End_ret (doneO_ok (md := [false]) (by kernel_rfl))
              · replace h := cond_f hb9 h
                refine Ab.skip ?_
                exact Nxt_norm ⟨(), { fs := [], keep := [0, 1], ren := [] }, h, by kernel_rfl⟩
          · replace h := cond_f hb7 h
            refine Ab.skip ?_
            exact Nxt_norm ⟨(), { fs := [], keep := [0, 1], ren := [] }, h, by kernel_rfl⟩
        · replace h := cond_f hb6 h
          refine Ab.regT hE hC hL [[], [.b false]] { keep := [0, 1, 11, 59], ren := [] } ⟨[(0, (.t (.int .u64 pa0))), (1, (.t (.int .u64 pb0))), (11, (.t (.int .u64 r4.1))), (59, (.t (.bool false)))], []⟩ [r4.2 = false] (by kernel_rfl) ⟨hb6, trivial⟩ ?_
          refine Nxt_norm ?_
          refine Ab.cond (b := false) (by kernel_rfl) (fun hb => Bool.noConfusion hb) (fun _ => ?_)
          refine Ab.skip ?_
          exact Nxt_norm ⟨(), { fs := [], keep := [0, 1], ren := [] }, h, by kernel_rfl⟩
      · rintro ⟨⟩ h
        replace h : f_law01_NumBack_j1 n pa0 pb0 = some r := h
        unfold f_law01_NumBack_j1 at h
        refine Ab.seq ?_
        obtain ⟨r6, hr6, h⟩ := bind_some h
        rcases Bool.eq_false_or_eq_true (decide (r6 ≥ (gmax pa0 pb0))) with hb10 | hb10
        · replace h := cond_t hb10 h
          obtain ⟨r7, hr7, h⟩ := bind_some h
          refine Ab.regT hE hC hL [[], [], [.r [.tree (.int .u64 r6)] []], [], [], [], [], [.b true], [], [], [.r [.tree (.int .u64 r7)] []]] { keep := [4], ren := [] } ⟨[(4, (.t (.bool (decide (r7 ≤ pa0)))))], []⟩ [(sp_num_Most n).fn [(.int .u64 pa0), (.int .u64 pb0)] = some ([.tree (.int .u64 r6)], []), (decide (r6 ≥ (gmax pa0 pb0))) = true, (sp_num_Less n).fn [(.int .u64 pa0), (.int .u64 pb0)] = some ([.tree (.int .u64 r7)], [])] (by kernel_rfl) ⟨(ap_num_Most n (by exact ⟨leT.refl _, leT.refl _, trivial⟩) hr6), hb10, (ap_num_Less n (by exact ⟨leT.refl _, leT.refl _, trivial⟩) hr7), trivial⟩ ?_
          refine Nxt_norm ?_
          refine Ab.ret ?_
          obtain rfl := Option.some.inj h
          exact End_ret (doneO_ok (md := [false]) (by kernel_rfl))
        · replace h := cond_f hb10 h
          refine Ab.regT hE hC hL [[], [], [.r [.tree (.int .u64 r6)] []], [], [], [], [], [.b false]] { keep := [4], ren := [] } ⟨[(4, (.t (.bool false)))], []⟩ [(sp_num_Most n).fn [(.int .u64 pa0), (.int .u64 pb0)] = some ([.tree (.int .u64 r6)], []), (decide (r6 ≥ (gmax pa0 pb0))) = false] (by kernel_rfl) ⟨(ap_num_Most n (by exact ⟨leT.refl _, leT.refl _, trivial⟩) hr6), hb10, trivial⟩ ?_
          refine Nxt_norm ?_
          refine Ab.ret ?_
          obtain rfl := Option.some.inj h
          exact End_ret (doneO_ok (md := [false]) (by kernel_rfl))

end Go.Mg
