/- The model's code computes these functions. -/
import Derived.Test.YtdgbpoihgeefiaaDoorRRRAW0
namespace Go.Mg
open Go Go.Proofs
def ea_ref02_numbers (a : Unit) : List T := []
def er_ref02_numbers (r : (Arr 64 Int)) : List RR × List T := ([.tree ((eA 1 (T.int .u32)) r)], [])
noncomputable def sp_ref02_numbers (n : Nat) : Spec := specP [] true ea_ref02_numbers (fun a => f_ref02_numbers n) (fun _ r => er_ref02_numbers r)
theorem ap_ref02_numbers (n : Nat) {ts : List T} {r : (Arr 64 Int)} (hle : leTs ts []) (h : f_ref02_numbers n = some r) : (sp_ref02_numbers n).fn ts = some ([.tree ((eA 1 (T.int .u32)) r)], []) :=
  specP_fn (a := ()) injA0 hle h
noncomputable def E_ref02_numbers (n : Nat) : Env := { ty := tyT, glob := glob, fns := get [], ntmps := 2 }
theorem eok_ref02_numbers (n : Nat) : EnvOK Tryd.prog (E_ref02_numbers n) := ⟨tys_ok tys_chk, prog_mixed, fns_nil⟩
def K_ref02_numbers (n : Nat) (r : (Arr 64 Int)) : St → Prop := Done (E_ref02_numbers n) Tryd.f22.results.toList [] (ea_ref02_numbers ()) (er_ref02_numbers r).1 (er_ref02_numbers r).2
set_option maxRecDepth 100000 in
set_option maxHeartbeats 4000000 in
theorem ok_ref02_numbers (n : Nat) : SpecOK Tryd.prog glob 22 (sp_ref02_numbers n) := by
  refine specP_ok (fn := Tryd.f22) (eok_ref02_numbers n) (by kernel_rfl) rfl (by decide +kernel) (by kernel_rfl) (fun _ => by show 0 ≤ 2; omega) (fun _ _ r => ⟨(rrf_tree ((flat_eA (fun _ => rfl)) _) rrf_nil), flats_nil⟩) ?_
  rintro ⟨⟩ r h C hL hC
  have hE := eok_ref02_numbers n
  replace hL : ∀ n g, (n, g) ∈ C.lent → n ∈ ([] : List Nat) := hL
  replace h : f_ref02_numbers n = some r := h
  show Ab _ _ _ _ _ (End (K_ref02_numbers n r))
  unfold f_ref02_numbers at h
  refine Ab.seq ?_
  refine Ab.regT hE hC hL [] { keep := [0], ren := [(0, 0)] } ⟨[(0, (.ref 0 [] (0)))], [(0, (.var false 69 (.t ((eA 1 (T.int .u32)) (Arr.rep 64 (0:Int))))))]⟩ [] (by kernel_rfl) trivial ?_
  refine Nxt_norm ?_
  refine Ab.seq ?_
  refine Ab.regT hE hC hL [] { keep := [0], ren := [(0, 0)] } ⟨[(0, (.ref 0 [] (0)))], [(0, (.var false 69 (.t ((eA 1 (T.int .u32)) (⟨[(1116352408:Int), (1899447441:Int), (3049323471:Int), (3921009573:Int), (961987163:Int), (1508970993:Int), (2453635748:Int), (2870763221:Int), (3624381080:Int), (310598401:Int), (607225278:Int), (1426881987:Int), (1925078388:Int), (2162078206:Int), (2614888103:Int), (3248222580:Int), (3835390401:Int), (4022224774:Int), (264347078:Int), (604807628:Int), (770255983:Int), (1249150122:Int), (1555081692:Int), (1996064986:Int), (2554220882:Int), (2821834349:Int), (2952996808:Int), (3210313671:Int), (3336571891:Int), (3584528711:Int), (113926993:Int), (338241895:Int), (666307205:Int), (773529912:Int), (1294757372:Int), (1396182291:Int), (1695183700:Int), (1986661051:Int), (2177026350:Int), (2456956037:Int), (2730485921:Int), (2820302411:Int), (3259730800:Int), (3345764771:Int), (3516065817:Int), (3600352804:Int), (4094571909:Int), (275423344:Int), (430227734:Int), (506948616:Int), (659060556:Int), (883997877:Int), (958139571:Int), (1322822218:Int), (1537002063:Int), (1747873779:Int), (1955562222:Int), (2024104815:Int), (2227730452:Int), (2361852424:Int), (2428436474:Int), (2756734187:Int), (3204031479:Int), (3329325298:Int)], rfl⟩ : (Arr 64 Int))))))]⟩ [] (by kernel_rfl) trivial ?_
  refine Nxt_norm ?_
  refine Ab.ret ?_
  obtain rfl := Option.some.inj h
  exact End_ret (doneO_ok (md := [false]) (by kernel_rfl))
def ea_ref02_right (a : Int × Int) : List T := [(T.int .u32) a.1, (T.int .i64) a.2]
def er_ref02_right (r : Int) : List RR × List T := ([.tree ((T.int .u32) r)], [])
noncomputable def sp_ref02_right (n : Nat) : Spec := specP [] true ea_ref02_right (fun a => f_ref02_right n a.1 a.2) (fun _ r => er_ref02_right r)
theorem ap_ref02_right (n : Nat) {ts : List T} {a0 : Int} {a1 : Int} {r : Int} (hle : leTs ts [(T.int .u32) a0, (T.int .i64) a1]) (h : f_ref02_right n a0 a1 = some r) : (sp_ref02_right n).fn ts = some ([.tree ((T.int .u32) r)], []) :=
  specP_fn (a := (a0, a1)) (InjA.cons (inj_int _) (InjA.one (inj_int _))) hle h
noncomputable def E_ref02_right (n : Nat) : Env := { ty := tyT, glob := glob, fns := get [], ntmps := 13 }
theorem eok_ref02_right (n : Nat) : EnvOK Tryd.prog (E_ref02_right n) := ⟨tys_ok tys_chk, prog_mixed, fns_nil⟩
def K_ref02_right (n : Nat) (px0 : Int) (pn0 : Int) (r : Int) : St → Prop := Done (E_ref02_right n) Tryd.f23.results.toList [] (ea_ref02_right (px0, pn0)) (er_ref02_right r).1 (er_ref02_right r).2
set_option maxRecDepth 100000 in
set_option maxHeartbeats 4000000 in
theorem ok_ref02_right (n : Nat) : SpecOK Tryd.prog glob 23 (sp_ref02_right n) := by
  refine specP_ok (fn := Tryd.f23) (eok_ref02_right n) (by kernel_rfl) rfl (by decide +kernel) (by kernel_rfl) (fun _ => by show 2 ≤ 13; omega) (fun _ _ r => ⟨(rrf_tree ((fun _ => rfl) _) rrf_nil), flats_nil⟩) ?_
  rintro ⟨px0, pn0⟩ r h C hL hC
  have hE := eok_ref02_right n
  replace hL : ∀ n g, (n, g) ∈ C.lent → n ∈ ([] : List Nat) := hL
  replace h : f_ref02_right n px0 pn0 = some r := h
  show Ab _ _ _ _ _ (End (K_ref02_right n px0 pn0 r))
  unfold f_ref02_right at h
  refine Ab.seq ?_
  refine Ab.regT hE hC hL [] { keep := [0, 1], ren := [] } ⟨[(0, (.t (.int .u32 px0))), (1, (.t (.int .i64 pn0)))], []⟩ [] (by kernel_rfl) trivial ?_
  refine Nxt_norm ?_
  refine Ab.seq ?_
  obtain ⟨hq0, h⟩ := ask_dec h
  obtain ⟨hq1, h⟩ := ask_dec h
  refine Ab.regA hE hC hL [[], [], [.c], [], [], [], [.c]] { keep := [4], ren := [] } ⟨[(4, (.t (.int .u32 (bits .or .u32 (shr .u32 px0 pn0) (shl .u32 px0 (wi ((32:Int) - pn0)))))))], []⟩ [¬ pn0 < 0, ¬ (wi ((32:Int) - pn0)) < 0] (by kernel_rfl) (by kernel_rfl) ⟨(Int.not_lt.2 hq0), (Int.not_lt.2 hq1), trivial⟩ ?_
  refine Nxt_norm ?_
  refine Ab.ret ?_
  obtain rfl := Option.some.inj h
  exact End_ret (doneO_ok (md := [false]) (by kernel_rfl))
def ea_ref02_Of (a : (List Int)) : List T := [(eS 1 (T.int .u8)) a]
def er_ref02_Of (r : (Arr 32 Int)) : List RR × List T := ([.tree ((eA 1 (T.int .u8)) r)], [])
noncomputable def sp_ref02_Of (n : Nat) : Spec := specP [] true ea_ref02_Of (fun a => f_ref02_Of n a) (fun _ r => er_ref02_Of r)
theorem ap_ref02_Of (n : Nat) {ts : List T} {a0 : (List Int)} {r : (Arr 32 Int)} (hle : leTs ts [(eS 1 (T.int .u8)) a0]) (h : f_ref02_Of n a0 = some r) : (sp_ref02_Of n).fn ts = some ([.tree ((eA 1 (T.int .u8)) r)], []) :=
  specP_fn (a := a0) (InjA.one (inj_eS (inj_int _))) hle h
noncomputable def E_ref02_Of (n : Nat) : Env := { ty := tyT, glob := glob, fns := get [(22, sp_ref02_numbers n), (23, sp_ref02_right n)], ntmps := 283 }
theorem eok_ref02_Of (n : Nat) : EnvOK Tryd.prog (E_ref02_Of n) := ⟨tys_ok tys_chk, prog_mixed, (fns_cons (ok_ref02_numbers n) (fns_cons (ok_ref02_right n) fns_nil))⟩
def K_ref02_Of (n : Nat) (pt0 : (List Int)) (r : (Arr 32 Int)) : St → Prop := Done (E_ref02_Of n) Tryd.f20.results.toList [] (ea_ref02_Of pt0) (er_ref02_Of r).1 (er_ref02_Of r).2
set_option maxRecDepth 100000 in
set_option maxHeartbeats 4000000 in
theorem ok_ref02_Of (n : Nat) : SpecOK Tryd.prog glob 20 (sp_ref02_Of n) := by
  refine specP_ok (fn := Tryd.f20) (eok_ref02_Of n) (by kernel_rfl) rfl (by decide +kernel) (by kernel_rfl) (fun _ => by show 1 ≤ 283; omega) (fun _ _ r => ⟨(rrf_tree ((flat_eA (fun _ => rfl)) _) rrf_nil), flats_nil⟩) ?_
  rintro pt0 r h C hL hC
  have hE := eok_ref02_Of n
  replace hL : ∀ n g, (n, g) ∈ C.lent → n ∈ ([] : List Nat) := hL
  replace h : f_ref02_Of n pt0 = some r := h
  show Ab _ _ _ _ _ (End (K_ref02_Of n pt0 r))
  unfold f_ref02_Of at h
  refine Ab.seq ?_
  refine Ab.regT hE hC hL [] { keep := [0, 2], ren := [(2, 2)] } ⟨[(0, (.t ((eS 1 (T.int .u8)) pt0))), (2, (.ref 2 [] (0)))], [(2, (.var false 23 (.t ((eA 1 (T.int .u8)) (Arr.rep 32 (0:Int))))))]⟩ [] (by kernel_rfl) trivial ?_
  refine Nxt_norm ?_
  refine Ab.seq ?_
  refine Ab.regT hE hC hL [] { keep := [0, 2, 3], ren := [(2, 2), (3, 3)] } ⟨[(0, (.t ((eS 1 (T.int .u8)) pt0))), (2, (.ref 2 [] (0))), (3, (.ref 3 [] (0)))], [(2, (.var false 23 (.t ((eA 1 (T.int .u8)) (Arr.rep 32 (0:Int)))))), (3, (.var false 65 (.t ((eA 1 (T.int .u32)) (⟨[(1779033703:Int), (3144134277:Int), (1013904242:Int), (2773480762:Int), (1359893119:Int), (2600822924:Int), (528734635:Int), (1541459225:Int)], rfl⟩ : (Arr 8 Int))))))]⟩ [] (by kernel_rfl) trivial ?_
  refine Nxt_norm ?_
  refine Ab.seq ?_
  obtain ⟨r0, hr0, h⟩ := bind_some h
  refine Ab.regT hE hC hL [[.r [.tree ((eA 1 (T.int .u32)) r0)] []]] { keep := [0, 2, 3, 4], ren := [(2, 2), (3, 3), (4, 4)] } ⟨[(0, (.t ((eS 1 (T.int .u8)) pt0))), (2, (.ref 2 [] (0))), (3, (.ref 3 [] (0))), (4, (.ref 4 [] (0)))], [(2, (.var false 23 (.t ((eA 1 (T.int .u8)) (Arr.rep 32 (0:Int)))))), (3, (.var false 65 (.t ((eA 1 (T.int .u32)) (⟨[(1779033703:Int), (3144134277:Int), (1013904242:Int), (2773480762:Int), (1359893119:Int), (2600822924:Int), (528734635:Int), (1541459225:Int)], rfl⟩ : (Arr 8 Int)))))), (4, (.var false 69 (.t ((eA 1 (T.int .u32)) r0))))]⟩ [(sp_ref02_numbers n).fn [] = some ([.tree ((eA 1 (T.int .u32)) r0)], [])] (by kernel_rfl) ⟨(ap_ref02_numbers n (by exact trivial) hr0), trivial⟩ ?_
  refine Nxt_norm ?_
  refine Ab.seq ?_
  obtain ⟨hq0, h⟩ := ask_dec h
  obtain ⟨hq1, h⟩ := ask_dec h
  refine Ab.regT hE hC hL [[], [.n (pt0.length : Int)], [], [], [], [], [.l (List.map (T.int .u8) (List.replicate ((wi ((wi ((wi ((wi ((pt0.length : Int) + (9:Int))) + (63:Int))).tdiv (64:Int))) * (64:Int))).toNat) (0:Int)))]] { keep := [0, 2, 3, 4, 5], ren := [(2, 2), (3, 3), (4, 4), (34, 34)] } ⟨[(0, (.t ((eS 1 (T.int .u8)) pt0))), (2, (.ref 2 [] (0))), (3, (.ref 3 [] (0))), (4, (.ref 4 [] (0))), (5, (.own 34))], [(2, (.var false 23 (.t ((eA 1 (T.int .u8)) (Arr.rep 32 (0:Int)))))), (3, (.var false 65 (.t ((eA 1 (T.int .u32)) (⟨[(1779033703:Int), (3144134277:Int), (1013904242:Int), (2773480762:Int), (1359893119:Int), (2600822924:Int), (528734635:Int), (1541459225:Int)], rfl⟩ : (Arr 8 Int)))))), (4, (.var false 69 (.t ((eA 1 (T.int .u32)) r0)))), (34, (.row false 5 1 (List.map (T.int .u8) (List.replicate ((wi ((wi ((wi ((wi ((pt0.length : Int) + (9:Int))) + (63:Int))).tdiv (64:Int))) * (64:Int))).toNat) (0:Int)))))]⟩ [((List.length (List.map (T.int .u8) pt0) : Nat) : Int) = (pt0.length : Int), 0 ≤ (wi ((wi ((wi ((wi ((pt0.length : Int) + (9:Int))) + (63:Int))).tdiv (64:Int))) * (64:Int))), ((wi ((wi ((wi ((wi ((pt0.length : Int) + (9:Int))) + (63:Int))).tdiv (64:Int))) * (64:Int))) = (wi ((wi ((wi ((wi ((pt0.length : Int) + (9:Int))) + (63:Int))).tdiv (64:Int))) * (64:Int))) ∨ (wi ((wi ((wi ((wi ((pt0.length : Int) + (9:Int))) + (63:Int))).tdiv (64:Int))) * (64:Int))) = 0), (wi ((wi ((wi ((wi ((pt0.length : Int) + (9:Int))) + (63:Int))).tdiv (64:Int))) * (64:Int))) ≤ (wi ((wi ((wi ((wi ((pt0.length : Int) + (9:Int))) + (63:Int))).tdiv (64:Int))) * (64:Int))), ((1 : Nat) : Int) * (wi ((wi ((wi ((wi ((pt0.length : Int) + (9:Int))) + (63:Int))).tdiv (64:Int))) * (64:Int))) ≤ 140737488355328, (wi ((wi ((wi ((wi ((pt0.length : Int) + (9:Int))) + (63:Int))).tdiv (64:Int))) * (64:Int))) ≤ 140737488355328, List.replicate ((wi ((wi ((wi ((wi ((pt0.length : Int) + (9:Int))) + (63:Int))).tdiv (64:Int))) * (64:Int)))).toNat (.int .u8 0) = List.map (T.int .u8) (List.replicate ((wi ((wi ((wi ((wi ((pt0.length : Int) + (9:Int))) + (63:Int))).tdiv (64:Int))) * (64:Int))).toNat) (0:Int))] (by kernel_rfl) ⟨(len_of rfl), hq0, (.inl rfl), (Int.le_refl _), hq1, (by have := hq1; omega), (rep_map rfl), trivial⟩ ?_
  refine Nxt_norm ?_
  refine Ab.seq ?_
  refine Ab.regT hE hC hL [[], [], [.n ((min pt0.length (List.replicate ((wi ((wi ((wi ((wi ((pt0.length : Int) + (9:Int))) + (63:Int))).tdiv (64:Int))) * (64:Int))).toNat) (0:Int)).length : Nat) : Int), .l (List.map (T.int .u8) (over (List.replicate ((wi ((wi ((wi ((wi ((pt0.length : Int) + (9:Int))) + (63:Int))).tdiv (64:Int))) * (64:Int))).toNat) (0:Int)) 0 (List.replicate ((wi ((wi ((wi ((wi ((pt0.length : Int) + (9:Int))) + (63:Int))).tdiv (64:Int))) * (64:Int))).toNat) (0:Int)).length pt0))]] { keep := [0, 2, 3, 4, 5], ren := [(2, 2), (3, 3), (4, 4), (34, 34)] } ⟨[(0, (.t ((eS 1 (T.int .u8)) pt0))), (2, (.ref 2 [] (0))), (3, (.ref 3 [] (0))), (4, (.ref 4 [] (0))), (5, (.own 34))], [(2, (.var false 23 (.t ((eA 1 (T.int .u8)) (Arr.rep 32 (0:Int)))))), (3, (.var false 65 (.t ((eA 1 (T.int .u32)) (⟨[(1779033703:Int), (3144134277:Int), (1013904242:Int), (2773480762:Int), (1359893119:Int), (2600822924:Int), (528734635:Int), (1541459225:Int)], rfl⟩ : (Arr 8 Int)))))), (4, (.var false 69 (.t ((eA 1 (T.int .u32)) r0)))), (34, (.row false 5 1 (List.map (T.int .u8) (over (List.replicate ((wi ((wi ((wi ((wi ((pt0.length : Int) + (9:Int))) + (63:Int))).tdiv (64:Int))) * (64:Int))).toNat) (0:Int)) 0 (List.replicate ((wi ((wi ((wi ((wi ((pt0.length : Int) + (9:Int))) + (63:Int))).tdiv (64:Int))) * (64:Int))).toNat) (0:Int)).length pt0))))]⟩ [((min (List.length (List.map (T.int .u8) pt0)) (List.length (List.map (T.int .u8) (List.replicate ((wi ((wi ((wi ((wi ((pt0.length : Int) + (9:Int))) + (63:Int))).tdiv (64:Int))) * (64:Int))).toNat) (0:Int)))) : Nat) : Int) = ((min pt0.length (List.replicate ((wi ((wi ((wi ((wi ((pt0.length : Int) + (9:Int))) + (63:Int))).tdiv (64:Int))) * (64:Int))).toNat) (0:Int)).length : Nat) : Int), List.take (List.length (List.map (T.int .u8) (List.replicate ((wi ((wi ((wi ((wi ((pt0.length : Int) + (9:Int))) + (63:Int))).tdiv (64:Int))) * (64:Int))).toNat) (0:Int)))) (List.map (T.int .u8) pt0) ++ List.drop (List.length (List.map (T.int .u8) pt0)) (List.map (T.int .u8) (List.replicate ((wi ((wi ((wi ((wi ((pt0.length : Int) + (9:Int))) + (63:Int))).tdiv (64:Int))) * (64:Int))).toNat) (0:Int))) = List.map (T.int .u8) (over (List.replicate ((wi ((wi ((wi ((wi ((pt0.length : Int) + (9:Int))) + (63:Int))).tdiv (64:Int))) * (64:Int))).toNat) (0:Int)) 0 (List.replicate ((wi ((wi ((wi ((wi ((pt0.length : Int) + (9:Int))) + (63:Int))).tdiv (64:Int))) * (64:Int))).toNat) (0:Int)).length pt0)] (by kernel_rfl) ⟨(min_len2 rfl), (copy_own rfl), trivial⟩ ?_
  refine Nxt_norm ?_
  refine Ab.seq ?_
  obtain ⟨hq2, h⟩ := ask_dec h
  obtain ⟨v0, hv0, h⟩ := bind_some h
  refine Ab.regT hE hC hL [[], [], [.n (pt0.length : Int)], [.c], [.t (.int .u8 v0), .l (List.map (T.int .u8) (List.set (over (List.replicate ((wi ((wi ((wi ((wi ((pt0.length : Int) + (9:Int))) + (63:Int))).tdiv (64:Int))) * (64:Int))).toNat) (0:Int)) 0 (List.replicate ((wi ((wi ((wi ((wi ((pt0.length : Int) + (9:Int))) + (63:Int))).tdiv (64:Int))) * (64:Int))).toNat) (0:Int)).length pt0) ((pt0.length : Int).toNat) (128:Int)))]] { keep := [0, 2, 3, 4, 5], ren := [(2, 2), (3, 3), (4, 4), (34, 34)] } ⟨[(0, (.t ((eS 1 (T.int .u8)) pt0))), (2, (.ref 2 [] (0))), (3, (.ref 3 [] (0))), (4, (.ref 4 [] (0))), (5, (.own 34))], [(2, (.var false 23 (.t ((eA 1 (T.int .u8)) (Arr.rep 32 (0:Int)))))), (3, (.var false 65 (.t ((eA 1 (T.int .u32)) (⟨[(1779033703:Int), (3144134277:Int), (1013904242:Int), (2773480762:Int), (1359893119:Int), (2600822924:Int), (528734635:Int), (1541459225:Int)], rfl⟩ : (Arr 8 Int)))))), (4, (.var false 69 (.t ((eA 1 (T.int .u32)) r0)))), (34, (.row false 5 1 (List.map (T.int .u8) (List.set (over (List.replicate ((wi ((wi ((wi ((wi ((pt0.length : Int) + (9:Int))) + (63:Int))).tdiv (64:Int))) * (64:Int))).toNat) (0:Int)) 0 (List.replicate ((wi ((wi ((wi ((wi ((pt0.length : Int) + (9:Int))) + (63:Int))).tdiv (64:Int))) * (64:Int))).toNat) (0:Int)).length pt0) ((pt0.length : Int).toNat) (128:Int)))))]⟩ [((List.length (List.map (T.int .u8) pt0) : Nat) : Int) = (pt0.length : Int), 0 ≤ (pt0.length : Int), (pt0.length : Int).toNat < List.length (List.map (T.int .u8) (over (List.replicate ((wi ((wi ((wi ((wi ((pt0.length : Int) + (9:Int))) + (63:Int))).tdiv (64:Int))) * (64:Int))).toNat) (0:Int)) 0 (List.replicate ((wi ((wi ((wi ((wi ((pt0.length : Int) + (9:Int))) + (63:Int))).tdiv (64:Int))) * (64:Int))).toNat) (0:Int)).length pt0)), (pt0.length : Int).toNat * 1 + 0 = (pt0.length : Int).toNat * 1, (List.map (T.int .u8) (over (List.replicate ((wi ((wi ((wi ((wi ((pt0.length : Int) + (9:Int))) + (63:Int))).tdiv (64:Int))) * (64:Int))).toNat) (0:Int)) 0 (List.replicate ((wi ((wi ((wi ((wi ((pt0.length : Int) + (9:Int))) + (63:Int))).tdiv (64:Int))) * (64:Int))).toNat) (0:Int)).length pt0))[(pt0.length : Int).toNat]? = some (.int .u8 v0), (List.map (T.int .u8) (over (List.replicate ((wi ((wi ((wi ((wi ((pt0.length : Int) + (9:Int))) + (63:Int))).tdiv (64:Int))) * (64:Int))).toNat) (0:Int)) 0 (List.replicate ((wi ((wi ((wi ((wi ((pt0.length : Int) + (9:Int))) + (63:Int))).tdiv (64:Int))) * (64:Int))).toNat) (0:Int)).length pt0))[(pt0.length : Int).toNat]? = some (.int .u8 v0), (List.map (T.int .u8) (over (List.replicate ((wi ((wi ((wi ((wi ((pt0.length : Int) + (9:Int))) + (63:Int))).tdiv (64:Int))) * (64:Int))).toNat) (0:Int)) 0 (List.replicate ((wi ((wi ((wi ((wi ((pt0.length : Int) + (9:Int))) + (63:Int))).tdiv (64:Int))) * (64:Int))).toNat) (0:Int)).length pt0)).set ((pt0.length : Int).toNat) (.int .u8 (128:Int)) = List.map (T.int .u8) (List.set (over (List.replicate ((wi ((wi ((wi ((wi ((pt0.length : Int) + (9:Int))) + (63:Int))).tdiv (64:Int))) * (64:Int))).toNat) (0:Int)) 0 (List.replicate ((wi ((wi ((wi ((wi ((pt0.length : Int) + (9:Int))) + (63:Int))).tdiv (64:Int))) * (64:Int))).toNat) (0:Int)).length pt0) ((pt0.length : Int).toNat) (128:Int))] (by kernel_rfl) ⟨(len_of rfl), (Int.natCast_nonneg _), (by rw [List.length_map]; exact hq2), (by omega), (at_map hv0), (at_map hv0), set_map, trivial⟩ ?_
  refine Nxt_norm ?_
  refine Ab.seq ?_
  refine Ab.seq ?_
  refine Ab.regT hE hC hL [] { keep := [0, 2, 3, 4, 5, 6], ren := [(2, 2), (3, 3), (4, 4), (34, 34)] } ⟨[(0, (.t ((eS 1 (T.int .u8)) pt0))), (2, (.ref 2 [] (0))), (3, (.ref 3 [] (0))), (4, (.ref 4 [] (0))), (5, (.own 34)), (6, (.t (.int .i64 (0:Int))))], [(2, (.var false 23 (.t ((eA 1 (T.int .u8)) (Arr.rep 32 (0:Int)))))), (3, (.var false 65 (.t ((eA 1 (T.int .u32)) (⟨[(1779033703:Int), (3144134277:Int), (1013904242:Int), (2773480762:Int), (1359893119:Int), (2600822924:Int), (528734635:Int), (1541459225:Int)], rfl⟩ : (Arr 8 Int)))))), (4, (.var false 69 (.t ((eA 1 (T.int .u32)) r0)))), (34, (.row false 5 1 (List.map (T.int .u8) (List.set (over (List.replicate ((wi ((wi ((wi ((wi ((pt0.length : Int) + (9:Int))) + (63:Int))).tdiv (64:Int))) * (64:Int))).toNat) (0:Int)) 0 (List.replicate ((wi ((wi ((wi ((wi ((pt0.length : Int) + (9:Int))) + (63:Int))).tdiv (64:Int))) * (64:Int))).toNat) (0:Int)).length pt0) ((pt0.length : Int).toNat) (128:Int)))))]⟩ [] (by kernel_rfl) trivial ?_
  refine Nxt_norm ?_
  obtain ⟨x0, hx0, h⟩ := bind_some h
  refine Ab.loopX0 (fun ((a0, a1) : ((List Int) × Int)) => (⟨[(0, (.t ((eS 1 (T.int .u8)) pt0))), (2, (.ref 49000 [] (0))), (3, (.ref 49001 [] (0))), (4, (.ref 49002 [] (0))), (5, (.own 49003)), (6, (.t (.int .i64 a1)))], [(49000, (.var false 23 (.t ((eA 1 (T.int .u8)) (Arr.rep 32 (0:Int)))))), (49001, (.var false 65 (.t ((eA 1 (T.int .u32)) (⟨[(1779033703:Int), (3144134277:Int), (1013904242:Int), (2773480762:Int), (1359893119:Int), (2600822924:Int), (528734635:Int), (1541459225:Int)], rfl⟩ : (Arr 8 Int)))))), (49002, (.var false 69 (.t ((eA 1 (T.int .u32)) r0)))), (49003, (.row false 5 1 (List.map (T.int .u8) a0)))]⟩ : St)) (fun (a2 : (List Int)) => (⟨[(2, (.ref 49000 [] (0))), (3, (.ref 49001 [] (0))), (4, (.ref 49002 [] (0))), (5, (.own 49003))], [(49000, (.var false 23 (.t ((eA 1 (T.int .u8)) (Arr.rep 32 (0:Int)))))), (49001, (.var false 65 (.t ((eA 1 (T.int .u32)) (⟨[(1779033703:Int), (3144134277:Int), (1013904242:Int), (2773480762:Int), (1359893119:Int), (2600822924:Int), (528734635:Int), (1541459225:Int)], rfl⟩ : (Arr 8 Int)))))), (49002, (.var false 69 (.t ((eA 1 (T.int .u32)) r0)))), (49003, (.row false 5 1 (List.map (T.int .u8) a2)))]⟩ : St)) { fs := [], keep := [0, 2, 3, 4, 5, 6], ren := [(2, 49000), (3, 49001), (4, 49002), (34, 49003)] } ((List.set (over (List.replicate ((wi ((wi ((wi ((wi ((pt0.length : Int) + (9:Int))) + (63:Int))).tdiv (64:Int))) * (64:Int))).toNat) (0:Int)) 0 (List.replicate ((wi ((wi ((wi ((wi ((pt0.length : Int) + (9:Int))) + (63:Int))).tdiv (64:Int))) * (64:Int))).toNat) (0:Int)).length pt0) ((pt0.length : Int).toNat) (128:Int)), (0:Int)) hC hL hx0 (by kernel_rfl) ?_ ?_
  · rintro ⟨a0, a1⟩ o0 h
    replace h : f_ref02_Of_b0 n pt0 a0 a1 = some o0 := h
    unfold f_ref02_Of_b0 at h
    refine Ab.seq ?_
    refine Ab.seq ?_
    refine Ab.regT hE hC hL [] { keep := [0, 2, 3, 4, 5, 6, 43], ren := [(49000, 49000), (49001, 49001), (49002, 49002), (49003, 49003)] } ⟨[(0, (.t ((eS 1 (T.int .u8)) pt0))), (2, (.ref 49000 [] (0))), (3, (.ref 49001 [] (0))), (4, (.ref 49002 [] (0))), (5, (.own 49003)), (6, (.t (.int .i64 a1))), (43, (.t (.bool (decide (a1 < (8:Int))))))], [(49000, (.var false 23 (.t ((eA 1 (T.int .u8)) (Arr.rep 32 (0:Int)))))), (49001, (.var false 65 (.t ((eA 1 (T.int .u32)) (⟨[(1779033703:Int), (3144134277:Int), (1013904242:Int), (2773480762:Int), (1359893119:Int), (2600822924:Int), (528734635:Int), (1541459225:Int)], rfl⟩ : (Arr 8 Int)))))), (49002, (.var false 69 (.t ((eA 1 (T.int .u32)) r0)))), (49003, (.row false 5 1 (List.map (T.int .u8) a0)))]⟩ [] (by kernel_rfl) trivial ?_
    refine Nxt_norm ?_
    refine Ab.cond (b := (decide (a1 < (8:Int)))) (by kernel_rfl) (fun hb0 => ?_) (fun hb0 => ?_)
    · replace h := cond_t hb0 h
      refine Ab.skip ?_
      refine Nxt_norm ?_
      refine Ab.seq ?_
      refine Ab.block ?_
      obtain ⟨hq3, h⟩ := ask_dec h
      obtain ⟨hq4, h⟩ := ask_dec h
      obtain ⟨hq5, h⟩ := ask_dec h
      obtain ⟨v1, hv1, h⟩ := bind_some h
      refine Ab.regT hE hC hL [[], [], [.n (a0.length : Int)], [], [], [], [], [.n (pt0.length : Int)], [], [], [], [], [.c], [], [.c], [.t (.int .u8 v1), .l (List.map (T.int .u8) (List.set a0 ((wi ((wi ((a0.length : Int) - (1:Int))) - a1)).toNat) (w8 (shr .u64 (w64 (wi ((8:Int) * (pt0.length : Int)))) (wi ((8:Int) * a1))))))]] { keep := [0, 2, 3, 4, 5, 6], ren := [(49000, 49000), (49001, 49001), (49002, 49002), (49003, 49003)] } ⟨[(0, (.t ((eS 1 (T.int .u8)) pt0))), (2, (.ref 49000 [] (0))), (3, (.ref 49001 [] (0))), (4, (.ref 49002 [] (0))), (5, (.own 49003)), (6, (.t (.int .i64 a1)))], [(49000, (.var false 23 (.t ((eA 1 (T.int .u8)) (Arr.rep 32 (0:Int)))))), (49001, (.var false 65 (.t ((eA 1 (T.int .u32)) (⟨[(1779033703:Int), (3144134277:Int), (1013904242:Int), (2773480762:Int), (1359893119:Int), (2600822924:Int), (528734635:Int), (1541459225:Int)], rfl⟩ : (Arr 8 Int)))))), (49002, (.var false 69 (.t ((eA 1 (T.int .u32)) r0)))), (49003, (.row false 5 1 (List.map (T.int .u8) (List.set a0 ((wi ((wi ((a0.length : Int) - (1:Int))) - a1)).toNat) (w8 (shr .u64 (w64 (wi ((8:Int) * (pt0.length : Int)))) (wi ((8:Int) * a1))))))))]⟩ [((List.length (List.map (T.int .u8) a0) : Nat) : Int) = (a0.length : Int), ((List.length (List.map (T.int .u8) pt0) : Nat) : Int) = (pt0.length : Int), ¬ (wi ((8:Int) * a1)) < 0, 0 ≤ (wi ((wi ((a0.length : Int) - (1:Int))) - a1)), (wi ((wi ((a0.length : Int) - (1:Int))) - a1)).toNat < List.length (List.map (T.int .u8) a0), (wi ((wi ((a0.length : Int) - (1:Int))) - a1)).toNat * 1 + 0 = (wi ((wi ((a0.length : Int) - (1:Int))) - a1)).toNat * 1, (List.map (T.int .u8) a0)[(wi ((wi ((a0.length : Int) - (1:Int))) - a1)).toNat]? = some (.int .u8 v1), (List.map (T.int .u8) a0)[(wi ((wi ((a0.length : Int) - (1:Int))) - a1)).toNat]? = some (.int .u8 v1), (List.map (T.int .u8) a0).set ((wi ((wi ((a0.length : Int) - (1:Int))) - a1)).toNat) (.int .u8 (w8 (shr .u64 (w64 (wi ((8:Int) * (pt0.length : Int)))) (wi ((8:Int) * a1))))) = List.map (T.int .u8) (List.set a0 ((wi ((wi ((a0.length : Int) - (1:Int))) - a1)).toNat) (w8 (shr .u64 (w64 (wi ((8:Int) * (pt0.length : Int)))) (wi ((8:Int) * a1)))))] (by kernel_rfl) ⟨(len_of rfl), (len_of rfl), (Int.not_lt.2 hq3), hq4, (by rw [List.length_map]; exact hq5), (by omega), (at_map hv1), (at_map hv1), set_map, trivial⟩ ?_
      refine Blk_norm ?_
      refine Nxt_norm ?_
      refine Ab.regT hE hC hL [] { keep := [0, 2, 3, 4, 5, 6], ren := [(49000, 49000), (49001, 49001), (49002, 49002), (49003, 49003)] } ⟨[(0, (.t ((eS 1 (T.int .u8)) pt0))), (2, (.ref 49000 [] (0))), (3, (.ref 49001 [] (0))), (4, (.ref 49002 [] (0))), (5, (.own 49003)), (6, (.t (.int .i64 (wi (a1 + (1:Int))))))], [(49000, (.var false 23 (.t ((eA 1 (T.int .u8)) (Arr.rep 32 (0:Int)))))), (49001, (.var false 65 (.t ((eA 1 (T.int .u32)) (⟨[(1779033703:Int), (3144134277:Int), (1013904242:Int), (2773480762:Int), (1359893119:Int), (2600822924:Int), (528734635:Int), (1541459225:Int)], rfl⟩ : (Arr 8 Int)))))), (49002, (.var false 69 (.t ((eA 1 (T.int .u32)) r0)))), (49003, (.row false 5 1 (List.map (T.int .u8) (List.set a0 ((wi ((wi ((a0.length : Int) - (1:Int))) - a1)).toNat) (w8 (shr .u64 (w64 (wi ((8:Int) * (pt0.length : Int)))) (wi ((8:Int) * a1))))))))]⟩ [] (by kernel_rfl) trivial ?_
      exact LK_norm ((List.set a0 ((wi ((wi ((a0.length : Int) - (1:Int))) - a1)).toNat) (w8 (shr .u64 (w64 (wi ((8:Int) * (pt0.length : Int)))) (wi ((8:Int) * a1))))), (wi (a1 + (1:Int)))) { fs := [], keep := [0, 2, 3, 4, 5, 6], ren := [(49000, 49000), (49001, 49001), (49002, 49002), (49003, 49003)] } h (by kernel_rfl)
    · replace h := cond_f hb0 h
      refine Ab.exit ?_
      refine Nxt_exit ?_
      exact LK_exit a0 h (PX_mk { fs := [], keep := [2, 3, 4, 5], ren := [(49000, 49000), (49001, 49001), (49002, 49002), (49003, 49003)] } (by kernel_rfl))
  · refine Nxt_norm ?_
    refine Ab.seq ?_
    refine Ab.seq ?_
    refine Ab.regT hE hC hL [] { keep := [2, 3, 4, 5, 7], ren := [(49000, 49000), (49001, 49001), (49002, 49002), (49003, 49003)] } ⟨[(2, (.ref 49000 [] (0))), (3, (.ref 49001 [] (0))), (4, (.ref 49002 [] (0))), (5, (.own 49003)), (7, (.t (.int .i64 (0:Int))))], [(49000, (.var false 23 (.t ((eA 1 (T.int .u8)) (Arr.rep 32 (0:Int)))))), (49001, (.var false 65 (.t ((eA 1 (T.int .u32)) (⟨[(1779033703:Int), (3144134277:Int), (1013904242:Int), (2773480762:Int), (1359893119:Int), (2600822924:Int), (528734635:Int), (1541459225:Int)], rfl⟩ : (Arr 8 Int)))))), (49002, (.var false 69 (.t ((eA 1 (T.int .u32)) r0)))), (49003, (.row false 5 1 (List.map (T.int .u8) x0)))]⟩ [] (by kernel_rfl) trivial ?_
    refine Nxt_norm ?_
    obtain ⟨x3, hx1, h⟩ := bind_some h
    refine Ab.loopX0 (fun ((a8, a9) : ((Arr 8 Int) × Int)) => (⟨[(2, (.ref 49000 [] (0))), (3, (.ref 49001 [] (0))), (4, (.ref 49002 [] (0))), (5, (.own 49003)), (7, (.t (.int .i64 a9)))], [(49000, (.var false 23 (.t ((eA 1 (T.int .u8)) (Arr.rep 32 (0:Int)))))), (49001, (.var false 65 (.t ((eA 1 (T.int .u32)) a8)))), (49002, (.var false 69 (.t ((eA 1 (T.int .u32)) r0)))), (49003, (.row false 5 1 (List.map (T.int .u8) x0)))]⟩ : St)) (fun (a10 : (Arr 8 Int)) => (⟨[(2, (.ref 49000 [] (0))), (3, (.ref 49001 [] (0)))], [(49000, (.var false 23 (.t ((eA 1 (T.int .u8)) (Arr.rep 32 (0:Int)))))), (49001, (.var false 65 (.t ((eA 1 (T.int .u32)) a10))))]⟩ : St)) { fs := [], keep := [2, 3, 4, 5, 7], ren := [(49000, 49000), (49001, 49001), (49002, 49002), (49003, 49003)] } ((⟨[(1779033703:Int), (3144134277:Int), (1013904242:Int), (2773480762:Int), (1359893119:Int), (2600822924:Int), (528734635:Int), (1541459225:Int)], rfl⟩ : (Arr 8 Int)), (0:Int)) hC hL hx1 (by kernel_rfl) ?_ ?_
    · rintro ⟨a8, a9⟩ o1 h
      replace h : f_ref02_Of_b1 n r0 x0 a8 a9 = some o1 := h
      unfold f_ref02_Of_b1 at h
      refine Ab.seq ?_
      refine Ab.seq ?_
      refine Ab.regT hE hC hL [[], [], [.n (x0.length : Int)]] { keep := [2, 3, 4, 5, 7, 64], ren := [(49000, 49000), (49001, 49001), (49002, 49002), (49003, 49003)] } ⟨[(2, (.ref 49000 [] (0))), (3, (.ref 49001 [] (0))), (4, (.ref 49002 [] (0))), (5, (.own 49003)), (7, (.t (.int .i64 a9))), (64, (.t (.bool (decide (a9 < (x0.length : Int))))))], [(49000, (.var false 23 (.t ((eA 1 (T.int .u8)) (Arr.rep 32 (0:Int)))))), (49001, (.var false 65 (.t ((eA 1 (T.int .u32)) a8)))), (49002, (.var false 69 (.t ((eA 1 (T.int .u32)) r0)))), (49003, (.row false 5 1 (List.map (T.int .u8) x0)))]⟩ [((List.length (List.map (T.int .u8) x0) : Nat) : Int) = (x0.length : Int)] (by kernel_rfl) ⟨(len_of rfl), trivial⟩ ?_
      refine Nxt_norm ?_
      refine Ab.cond (b := (decide (a9 < (x0.length : Int)))) (by kernel_rfl) (fun hb1 => ?_) (fun hb1 => ?_)
      · replace h := cond_t hb1 h
        refine Ab.skip ?_
        refine Nxt_norm ?_
        refine Ab.seq ?_
        refine Ab.block ?_
        refine Ab.seq ?_
        refine Ab.regT hE hC hL [] { keep := [2, 3, 4, 5, 7, 8], ren := [(8, 8), (49000, 49000), (49001, 49001), (49002, 49002), (49003, 49003)] } ⟨[(2, (.ref 49000 [] (0))), (3, (.ref 49001 [] (0))), (4, (.ref 49002 [] (0))), (5, (.own 49003)), (7, (.t (.int .i64 a9))), (8, (.ref 8 [] (0)))], [(8, (.var false 69 (.t ((eA 1 (T.int .u32)) (Arr.rep 64 (0:Int)))))), (49000, (.var false 23 (.t ((eA 1 (T.int .u8)) (Arr.rep 32 (0:Int)))))), (49001, (.var false 65 (.t ((eA 1 (T.int .u32)) a8)))), (49002, (.var false 69 (.t ((eA 1 (T.int .u32)) r0)))), (49003, (.row false 5 1 (List.map (T.int .u8) x0)))]⟩ [] (by kernel_rfl) trivial ?_
        refine Nxt_norm ?_
        refine Ab.seq ?_
        refine Ab.seq ?_
        refine Ab.regT hE hC hL [] { keep := [2, 3, 4, 5, 7, 8, 9], ren := [(8, 8), (49000, 49000), (49001, 49001), (49002, 49002), (49003, 49003)] } ⟨[(2, (.ref 49000 [] (0))), (3, (.ref 49001 [] (0))), (4, (.ref 49002 [] (0))), (5, (.own 49003)), (7, (.t (.int .i64 a9))), (8, (.ref 8 [] (0))), (9, (.t (.int .i64 (0:Int))))], [(8, (.var false 69 (.t ((eA 1 (T.int .u32)) (Arr.rep 64 (0:Int)))))), (49000, (.var false 23 (.t ((eA 1 (T.int .u8)) (Arr.rep 32 (0:Int)))))), (49001, (.var false 65 (.t ((eA 1 (T.int .u32)) a8)))), (49002, (.var false 69 (.t ((eA 1 (T.int .u32)) r0)))), (49003, (.row false 5 1 (List.map (T.int .u8) x0)))]⟩ [] (by kernel_rfl) trivial ?_
        refine Nxt_norm ?_
        obtain ⟨x1, hx2, h⟩ := bind_some h
        refine Ab.loopX0 (fun ((a11, a12) : ((Arr 64 Int) × Int)) => (⟨[(2, (.ref 49000 [] (0))), (3, (.ref 49001 [] (0))), (4, (.ref 49002 [] (0))), (5, (.own 49003)), (7, (.t (.int .i64 a9))), (8, (.ref 49004 [] (0))), (9, (.t (.int .i64 a12)))], [(49000, (.var false 23 (.t ((eA 1 (T.int .u8)) (Arr.rep 32 (0:Int)))))), (49001, (.var false 65 (.t ((eA 1 (T.int .u32)) a8)))), (49002, (.var false 69 (.t ((eA 1 (T.int .u32)) r0)))), (49003, (.row false 5 1 (List.map (T.int .u8) x0))), (49004, (.var false 69 (.t ((eA 1 (T.int .u32)) a11))))]⟩ : St)) (fun (a13 : (Arr 64 Int)) => (⟨[(2, (.ref 49000 [] (0))), (3, (.ref 49001 [] (0))), (4, (.ref 49002 [] (0))), (5, (.own 49003)), (7, (.t (.int .i64 a9))), (8, (.ref 49004 [] (0)))], [(49000, (.var false 23 (.t ((eA 1 (T.int .u8)) (Arr.rep 32 (0:Int)))))), (49001, (.var false 65 (.t ((eA 1 (T.int .u32)) a8)))), (49002, (.var false 69 (.t ((eA 1 (T.int .u32)) r0)))), (49003, (.row false 5 1 (List.map (T.int .u8) x0))), (49004, (.var false 69 (.t ((eA 1 (T.int .u32)) a13))))]⟩ : St)) { fs := [], keep := [2, 3, 4, 5, 7, 8, 9], ren := [(49000, 49000), (49001, 49001), (49002, 49002), (49003, 49003), (8, 49004)] } ((Arr.rep 64 (0:Int)), (0:Int)) hC hL hx2 (by kernel_rfl) ?_ ?_
        · rintro ⟨a11, a12⟩ o2 h
          replace h : f_ref02_Of_b2 n a9 x0 a11 a12 = some o2 := h
          unfold f_ref02_Of_b2 at h
          refine Ab.seq ?_
          refine Ab.seq ?_
          refine Ab.regT hE hC hL [] { keep := [2, 3, 4, 5, 7, 8, 9, 69], ren := [(49000, 49000), (49001, 49001), (49002, 49002), (49003, 49003), (49004, 49004)] } ⟨[(2, (.ref 49000 [] (0))), (3, (.ref 49001 [] (0))), (4, (.ref 49002 [] (0))), (5, (.own 49003)), (7, (.t (.int .i64 a9))), (8, (.ref 49004 [] (0))), (9, (.t (.int .i64 a12))), (69, (.t (.bool (decide (a12 < (64:Int))))))], [(49000, (.var false 23 (.t ((eA 1 (T.int .u8)) (Arr.rep 32 (0:Int)))))), (49001, (.var false 65 (.t ((eA 1 (T.int .u32)) a8)))), (49002, (.var false 69 (.t ((eA 1 (T.int .u32)) r0)))), (49003, (.row false 5 1 (List.map (T.int .u8) x0))), (49004, (.var false 69 (.t ((eA 1 (T.int .u32)) a11))))]⟩ [] (by kernel_rfl) trivial ?_
          refine Nxt_norm ?_
          refine Ab.cond (b := (decide (a12 < (64:Int)))) (by kernel_rfl) (fun hb2 => ?_) (fun hb2 => ?_)
          · replace h := cond_t hb2 h
            refine Ab.skip ?_
            refine Nxt_norm ?_
            refine Ab.seq ?_
            refine Ab.block ?_
            refine Ab.seq ?_
            refine Ab.seq ?_
            refine Ab.regT hE hC hL [] { keep := [2, 3, 4, 5, 7, 8, 9, 73], ren := [(49000, 49000), (49001, 49001), (49002, 49002), (49003, 49003), (49004, 49004)] } ⟨[(2, (.ref 49000 [] (0))), (3, (.ref 49001 [] (0))), (4, (.ref 49002 [] (0))), (5, (.own 49003)), (7, (.t (.int .i64 a9))), (8, (.ref 49004 [] (0))), (9, (.t (.int .i64 a12))), (73, (.t (.bool (decide (a12 < (16:Int))))))], [(49000, (.var false 23 (.t ((eA 1 (T.int .u8)) (Arr.rep 32 (0:Int)))))), (49001, (.var false 65 (.t ((eA 1 (T.int .u32)) a8)))), (49002, (.var false 69 (.t ((eA 1 (T.int .u32)) r0)))), (49003, (.row false 5 1 (List.map (T.int .u8) x0))), (49004, (.var false 69 (.t ((eA 1 (T.int .u32)) a11))))]⟩ [] (by kernel_rfl) trivial ?_
            refine Nxt_norm ?_
            refine Ab.cond (b := (decide (a12 < (16:Int)))) (by kernel_rfl) (fun hb3 => ?_) (fun hb3 => ?_)
            · replace h := cond_t hb3 h
              refine Ab.seq ?_
              refine Ab.regT hE hC hL [] { keep := [2, 3, 4, 5, 7, 8, 9, 10], ren := [(49000, 49000), (49001, 49001), (49002, 49002), (49003, 49003), (49004, 49004)] } ⟨[(2, (.ref 49000 [] (0))), (3, (.ref 49001 [] (0))), (4, (.ref 49002 [] (0))), (5, (.own 49003)), (7, (.t (.int .i64 a9))), (8, (.ref 49004 [] (0))), (9, (.t (.int .i64 a12))), (10, (.t (.int .i64 (wi (a9 + (wi ((4:Int) * a12)))))))], [(49000, (.var false 23 (.t ((eA 1 (T.int .u8)) (Arr.rep 32 (0:Int)))))), (49001, (.var false 65 (.t ((eA 1 (T.int .u32)) a8)))), (49002, (.var false 69 (.t ((eA 1 (T.int .u32)) r0)))), (49003, (.row false 5 1 (List.map (T.int .u8) x0))), (49004, (.var false 69 (.t ((eA 1 (T.int .u32)) a11))))]⟩ [] (by kernel_rfl) trivial ?_
              refine Nxt_norm ?_
              refine Ab.seq ?_
              obtain ⟨hq6, h⟩ := ask_dec h
              obtain ⟨hq7, h⟩ := ask_dec h
              obtain ⟨v2, hv2, h⟩ := bind_some h
              obtain ⟨hq8, h⟩ := ask_dec h
              obtain ⟨hq9, h⟩ := ask_dec h
              obtain ⟨v3, hv3, h⟩ := bind_some h
              obtain ⟨hq10, h⟩ := ask_dec h
              obtain ⟨hq11, h⟩ := ask_dec h
              obtain ⟨v4, hv4, h⟩ := bind_some h
              obtain ⟨hq12, h⟩ := ask_dec h
              obtain ⟨hq13, h⟩ := ask_dec h
              obtain ⟨v5, hv5, h⟩ := bind_some h
              obtain ⟨hq14, h⟩ := ask_dec h
              obtain ⟨v6, hv6, h⟩ := bind_some h
              refine Ab.regA hE hC hL [[], [], [], [.c], [.t (.int .u8 v2)], [], [], [], [], [], [.c], [.t (.int .u8 v3)], [], [], [], [], [], [], [.c], [.t (.int .u8 v4)], [], [], [], [], [], [], [.c], [.t (.int .u8 v5)], [], [], [.c], [.t (.int .u32 v6), .l (List.map (T.int .u32) (Arr.set a11 (a12.toNat) (bits .or .u32 (bits .or .u32 (bits .or .u32 (shl .u32 (w32 v2) (24:Int)) (shl .u32 (w32 v3) (16:Int))) (shl .u32 (w32 v4) (8:Int))) (w32 v5))).l)]] { keep := [2, 3, 4, 5, 7, 8, 9], ren := [(49000, 49000), (49001, 49001), (49002, 49002), (49003, 49003), (49004, 49004)] } ⟨[(2, (.ref 49000 [] (0))), (3, (.ref 49001 [] (0))), (4, (.ref 49002 [] (0))), (5, (.own 49003)), (7, (.t (.int .i64 a9))), (8, (.ref 49004 [] (0))), (9, (.t (.int .i64 a12)))], [(49000, (.var false 23 (.t ((eA 1 (T.int .u8)) (Arr.rep 32 (0:Int)))))), (49001, (.var false 65 (.t ((eA 1 (T.int .u32)) a8)))), (49002, (.var false 69 (.t ((eA 1 (T.int .u32)) r0)))), (49003, (.row false 5 1 (List.map (T.int .u8) x0))), (49004, (.var false 69 (.t ((eA 1 (T.int .u32)) (Arr.set a11 (a12.toNat) (bits .or .u32 (bits .or .u32 (bits .or .u32 (shl .u32 (w32 v2) (24:Int)) (shl .u32 (w32 v3) (16:Int))) (shl .u32 (w32 v4) (8:Int))) (w32 v5)))))))]⟩ [0 ≤ (wi (a9 + (wi ((4:Int) * a12)))), (wi (a9 + (wi ((4:Int) * a12)))).toNat < List.length (List.map (T.int .u8) x0), (wi (a9 + (wi ((4:Int) * a12)))).toNat * 1 + 0 = (wi (a9 + (wi ((4:Int) * a12)))).toNat * 1, (List.map (T.int .u8) x0)[(wi (a9 + (wi ((4:Int) * a12)))).toNat]? = some (.int .u8 v2), 0 ≤ (wi ((wi (a9 + (wi ((4:Int) * a12)))) + (1:Int))), (wi ((wi (a9 + (wi ((4:Int) * a12)))) + (1:Int))).toNat < List.length (List.map (T.int .u8) x0), (wi ((wi (a9 + (wi ((4:Int) * a12)))) + (1:Int))).toNat * 1 + 0 = (wi ((wi (a9 + (wi ((4:Int) * a12)))) + (1:Int))).toNat * 1, (List.map (T.int .u8) x0)[(wi ((wi (a9 + (wi ((4:Int) * a12)))) + (1:Int))).toNat]? = some (.int .u8 v3), 0 ≤ (wi ((wi (a9 + (wi ((4:Int) * a12)))) + (2:Int))), (wi ((wi (a9 + (wi ((4:Int) * a12)))) + (2:Int))).toNat < List.length (List.map (T.int .u8) x0), (wi ((wi (a9 + (wi ((4:Int) * a12)))) + (2:Int))).toNat * 1 + 0 = (wi ((wi (a9 + (wi ((4:Int) * a12)))) + (2:Int))).toNat * 1, (List.map (T.int .u8) x0)[(wi ((wi (a9 + (wi ((4:Int) * a12)))) + (2:Int))).toNat]? = some (.int .u8 v4), 0 ≤ (wi ((wi (a9 + (wi ((4:Int) * a12)))) + (3:Int))), (wi ((wi (a9 + (wi ((4:Int) * a12)))) + (3:Int))).toNat < List.length (List.map (T.int .u8) x0), (wi ((wi (a9 + (wi ((4:Int) * a12)))) + (3:Int))).toNat * 1 + 0 = (wi ((wi (a9 + (wi ((4:Int) * a12)))) + (3:Int))).toNat * 1, (List.map (T.int .u8) x0)[(wi ((wi (a9 + (wi ((4:Int) * a12)))) + (3:Int))).toNat]? = some (.int .u8 v5), 0 ≤ a12, a12 < ((64 : Nat) : Int), a12.toNat * 1 + 0 = 0 + a12.toNat * 1, (List.map (T.int .u32) a11.l)[a12.toNat]? = some (.int .u32 v6), (List.map (T.int .u32) a11.l)[a12.toNat]? = some (.int .u32 v6), (List.map (T.int .u32) a11.l).set a12.toNat (.int .u32 (bits .or .u32 (bits .or .u32 (bits .or .u32 (shl .u32 (w32 v2) (24:Int)) (shl .u32 (w32 v3) (16:Int))) (shl .u32 (w32 v4) (8:Int))) (w32 v5))) = List.map (T.int .u32) (Arr.set a11 (a12.toNat) (bits .or .u32 (bits .or .u32 (bits .or .u32 (shl .u32 (w32 v2) (24:Int)) (shl .u32 (w32 v3) (16:Int))) (shl .u32 (w32 v4) (8:Int))) (w32 v5))).l] (by kernel_rfl) (by kernel_rfl) ⟨hq6, (by rw [List.length_map]; exact hq7), (by omega), (at_map hv2), hq8, (by rw [List.length_map]; exact hq9), (by omega), (at_map hv3), hq10, (by rw [List.length_map]; exact hq11), (by omega), (at_map hv4), hq12, (by rw [List.length_map]; exact hq13), (by omega), (at_map hv5), hq14, (of_decide_eq_true hb2), (by omega), (at_map hv6), (at_map hv6), set_map, trivial⟩ ?_
              refine Nxt_norm ?_
              refine Ab.exit ?_
              refine Nxt_exit ?_
              refine Blk_same ?_
              refine Nxt_norm ?_
              refine Ab.regT hE hC hL [] { keep := [2, 3, 4, 5, 7, 8, 9], ren := [(49000, 49000), (49001, 49001), (49002, 49002), (49003, 49003), (49004, 49004)] } ⟨[(2, (.ref 49000 [] (0))), (3, (.ref 49001 [] (0))), (4, (.ref 49002 [] (0))), (5, (.own 49003)), (7, (.t (.int .i64 a9))), (8, (.ref 49004 [] (0))), (9, (.t (.int .i64 (wi (a12 + (1:Int))))))], [(49000, (.var false 23 (.t ((eA 1 (T.int .u8)) (Arr.rep 32 (0:Int)))))), (49001, (.var false 65 (.t ((eA 1 (T.int .u32)) a8)))), (49002, (.var false 69 (.t ((eA 1 (T.int .u32)) r0)))), (49003, (.row false 5 1 (List.map (T.int .u8) x0))), (49004, (.var false 69 (.t ((eA 1 (T.int .u32)) (Arr.set a11 (a12.toNat) (bits .or .u32 (bits .or .u32 (bits .or .u32 (shl .u32 (w32 v2) (24:Int)) (shl .u32 (w32 v3) (16:Int))) (shl .u32 (w32 v4) (8:Int))) (w32 v5)))))))]⟩ [] (by kernel_rfl) trivial ?_
              exact LK_norm ((Arr.set a11 (a12.toNat) (bits .or .u32 (bits .or .u32 (bits .or .u32 (shl .u32 (w32 v2) (24:Int)) (shl .u32 (w32 v3) (16:Int))) (shl .u32 (w32 v4) (8:Int))) (w32 v5))), (wi (a12 + (1:Int)))) { fs := [], keep := [2, 3, 4, 5, 7, 8, 9], ren := [(49000, 49000), (49001, 49001), (49002, 49002), (49003, 49003), (49004, 49004)] } h (by kernel_rfl)
            · replace h := cond_f hb3 h
              refine Ab.skip ?_
              refine Nxt_norm ?_
              refine Ab.seq ?_
              obtain ⟨hq15, h⟩ := ask_dec h
              obtain ⟨hq16, h⟩ := ask_dec h
              obtain ⟨v7, hv7, h⟩ := bind_some h
              obtain ⟨hq17, h⟩ := ask_dec h
              obtain ⟨hq18, h⟩ := ask_dec h
              obtain ⟨v8, hv8, h⟩ := bind_some h
              refine Ab.regA hE hC hL [[], [], [.c], [.t (.int .u32 v7)], [], [], [.c], [.t (.int .u32 v8)]] { keep := [2, 3, 4, 5, 7, 8, 9, 11, 12], ren := [(49000, 49000), (49001, 49001), (49002, 49002), (49003, 49003), (49004, 49004)] } ⟨[(2, (.ref 49000 [] (0))), (3, (.ref 49001 [] (0))), (4, (.ref 49002 [] (0))), (5, (.own 49003)), (7, (.t (.int .i64 a9))), (8, (.ref 49004 [] (0))), (9, (.t (.int .i64 a12))), (11, (.t (.int .u32 v7))), (12, (.t (.int .u32 v8)))], [(49000, (.var false 23 (.t ((eA 1 (T.int .u8)) (Arr.rep 32 (0:Int)))))), (49001, (.var false 65 (.t ((eA 1 (T.int .u32)) a8)))), (49002, (.var false 69 (.t ((eA 1 (T.int .u32)) r0)))), (49003, (.row false 5 1 (List.map (T.int .u8) x0))), (49004, (.var false 69 (.t ((eA 1 (T.int .u32)) a11))))]⟩ [0 ≤ (wi (a12 - (15:Int))), (wi (a12 - (15:Int))) < ((64 : Nat) : Int), (wi (a12 - (15:Int))).toNat * 1 + 0 = 0 + (wi (a12 - (15:Int))).toNat * 1, (List.map (T.int .u32) a11.l)[(wi (a12 - (15:Int))).toNat]? = some (.int .u32 v7), 0 ≤ (wi (a12 - (2:Int))), (wi (a12 - (2:Int))) < ((64 : Nat) : Int), (wi (a12 - (2:Int))).toNat * 1 + 0 = 0 + (wi (a12 - (2:Int))).toNat * 1, (List.map (T.int .u32) a11.l)[(wi (a12 - (2:Int))).toNat]? = some (.int .u32 v8)] (by kernel_rfl) (by kernel_rfl) ⟨hq15, hq16, (by omega), (at_map hv7), hq17, hq18, (by omega), (at_map hv8), trivial⟩ ?_
              refine Nxt_norm ?_
              obtain ⟨hq19, h⟩ := ask_dec h
              obtain ⟨hq20, h⟩ := ask_dec h
              obtain ⟨v9, hv9, h⟩ := bind_some h
              obtain ⟨r1, hr1, h⟩ := bind_some h
              obtain ⟨r2, hr2, h⟩ := bind_some h
              obtain ⟨hq21, h⟩ := ask_dec h
              obtain ⟨hq22, h⟩ := ask_dec h
              obtain ⟨v10, hv10, h⟩ := bind_some h
              obtain ⟨r3, hr3, h⟩ := bind_some h
              obtain ⟨r4, hr4, h⟩ := bind_some h
              obtain ⟨hq23, h⟩ := ask_dec h
              obtain ⟨v11, hv11, h⟩ := bind_some h
              refine Ab.regA hE hC hL [[], [], [], [.c], [.t (.int .u32 v9)], [], [.r [.tree (.int .u32 r1)] []], [], [.r [.tree (.int .u32 r2)] []], [], [], [], [], [], [], [], [.c], [.t (.int .u32 v10)], [], [], [.r [.tree (.int .u32 r3)] []], [], [.r [.tree (.int .u32 r4)] []], [], [], [], [], [], [.c], [.t (.int .u32 v11), .l (List.map (T.int .u32) (Arr.set a11 (a12.toNat) (w32 ((w32 ((w32 (v9 + (bits .xor .u32 (bits .xor .u32 r1 r2) (shr .u32 v7 (3:Int))))) + v10)) + (bits .xor .u32 (bits .xor .u32 r3 r4) (shr .u32 v8 (10:Int)))))).l)]] { keep := [2, 3, 4, 5, 7, 8, 9], ren := [(49000, 49000), (49001, 49001), (49002, 49002), (49003, 49003), (49004, 49004)] } ⟨[(2, (.ref 49000 [] (0))), (3, (.ref 49001 [] (0))), (4, (.ref 49002 [] (0))), (5, (.own 49003)), (7, (.t (.int .i64 a9))), (8, (.ref 49004 [] (0))), (9, (.t (.int .i64 a12)))], [(49000, (.var false 23 (.t ((eA 1 (T.int .u8)) (Arr.rep 32 (0:Int)))))), (49001, (.var false 65 (.t ((eA 1 (T.int .u32)) a8)))), (49002, (.var false 69 (.t ((eA 1 (T.int .u32)) r0)))), (49003, (.row false 5 1 (List.map (T.int .u8) x0))), (49004, (.var false 69 (.t ((eA 1 (T.int .u32)) (Arr.set a11 (a12.toNat) (w32 ((w32 ((w32 (v9 + (bits .xor .u32 (bits .xor .u32 r1 r2) (shr .u32 v7 (3:Int))))) + v10)) + (bits .xor .u32 (bits .xor .u32 r3 r4) (shr .u32 v8 (10:Int))))))))))]⟩ [0 ≤ (wi (a12 - (16:Int))), (wi (a12 - (16:Int))) < ((64 : Nat) : Int), (wi (a12 - (16:Int))).toNat * 1 + 0 = 0 + (wi (a12 - (16:Int))).toNat * 1, (List.map (T.int .u32) a11.l)[(wi (a12 - (16:Int))).toNat]? = some (.int .u32 v9), (sp_ref02_right n).fn [(.int .u32 v7), (.int .i64 (7:Int))] = some ([.tree (.int .u32 r1)], []), (sp_ref02_right n).fn [(.int .u32 v7), (.int .i64 (18:Int))] = some ([.tree (.int .u32 r2)], []), 0 ≤ (wi (a12 - (7:Int))), (wi (a12 - (7:Int))) < ((64 : Nat) : Int), (wi (a12 - (7:Int))).toNat * 1 + 0 = 0 + (wi (a12 - (7:Int))).toNat * 1, (List.map (T.int .u32) a11.l)[(wi (a12 - (7:Int))).toNat]? = some (.int .u32 v10), (sp_ref02_right n).fn [(.int .u32 v8), (.int .i64 (17:Int))] = some ([.tree (.int .u32 r3)], []), (sp_ref02_right n).fn [(.int .u32 v8), (.int .i64 (19:Int))] = some ([.tree (.int .u32 r4)], []), 0 ≤ a12, a12 < ((64 : Nat) : Int), a12.toNat * 1 + 0 = 0 + a12.toNat * 1, (List.map (T.int .u32) a11.l)[a12.toNat]? = some (.int .u32 v11), (List.map (T.int .u32) a11.l)[a12.toNat]? = some (.int .u32 v11), (List.map (T.int .u32) a11.l).set a12.toNat (.int .u32 (w32 ((w32 ((w32 (v9 + (bits .xor .u32 (bits .xor .u32 r1 r2) (shr .u32 v7 (3:Int))))) + v10)) + (bits .xor .u32 (bits .xor .u32 r3 r4) (shr .u32 v8 (10:Int)))))) = List.map (T.int .u32) (Arr.set a11 (a12.toNat) (w32 ((w32 ((w32 (v9 + (bits .xor .u32 (bits .xor .u32 r1 r2) (shr .u32 v7 (3:Int))))) + v10)) + (bits .xor .u32 (bits .xor .u32 r3 r4) (shr .u32 v8 (10:Int)))))).l] (by kernel_rfl) (by kernel_rfl) ⟨hq19, hq20, (by omega), (at_map hv9), (ap_ref02_right n (by exact ⟨leT.refl _, leT.refl _, trivial⟩) hr1), (ap_ref02_right n (by exact ⟨leT.refl _, leT.refl _, trivial⟩) hr2), hq21, hq22, (by omega), (at_map hv10), (ap_ref02_right n (by exact ⟨leT.refl _, leT.refl _, trivial⟩) hr3), (ap_ref02_right n (by exact ⟨leT.refl _, leT.refl _, trivial⟩) hr4), hq23, (of_decide_eq_true hb2), (by omega), (at_map hv11), (at_map hv11), set_map, trivial⟩ ?_
              refine Blk_norm ?_
              refine Nxt_norm ?_
              refine Ab.regT hE hC hL [] { keep := [2, 3, 4, 5, 7, 8, 9], ren := [(49000, 49000), (49001, 49001), (49002, 49002), (49003, 49003), (49004, 49004)] } ⟨[(2, (.ref 49000 [] (0))), (3, (.ref 49001 [] (0))), (4, (.ref 49002 [] (0))), (5, (.own 49003)), (7, (.t (.int .i64 a9))), (8, (.ref 49004 [] (0))), (9, (.t (.int .i64 (wi (a12 + (1:Int))))))], [(49000, (.var false 23 (.t ((eA 1 (T.int .u8)) (Arr.rep 32 (0:Int)))))), (49001, (.var false 65 (.t ((eA 1 (T.int .u32)) a8)))), (49002, (.var false 69 (.t ((eA 1 (T.int .u32)) r0)))), (49003, (.row false 5 1 (List.map (T.int .u8) x0))), (49004, (.var false 69 (.t ((eA 1 (T.int .u32)) (Arr.set a11 (a12.toNat) (w32 ((w32 ((w32 (v9 + (bits .xor .u32 (bits .xor .u32 r1 r2) (shr .u32 v7 (3:Int))))) + v10)) + (bits .xor .u32 (bits .xor .u32 r3 r4) (shr .u32 v8 (10:Int))))))))))]⟩ [] (by kernel_rfl) trivial ?_
              exact LK_norm ((Arr.set a11 (a12.toNat) (w32 ((w32 ((w32 (v9 + (bits .xor .u32 (bits .xor .u32 r1 r2) (shr .u32 v7 (3:Int))))) + v10)) + (bits .xor .u32 (bits .xor .u32 r3 r4) (shr .u32 v8 (10:Int)))))), (wi (a12 + (1:Int)))) { fs := [], keep := [2, 3, 4, 5, 7, 8, 9], ren := [(49000, 49000), (49001, 49001), (49002, 49002), (49003, 49003), (49004, 49004)] } h (by kernel_rfl)
          · replace h := cond_f hb2 h
            refine Ab.exit ?_
            refine Nxt_exit ?_
            exact LK_exit a11 h (PX_mk { fs := [], keep := [2, 3, 4, 5, 7, 8], ren := [(49000, 49000), (49001, 49001), (49002, 49002), (49003, 49003), (49004, 49004)] } (by kernel_rfl))
        · refine Nxt_norm ?_
          refine Ab.seq ?_
          obtain ⟨v12, hv12, h⟩ := bind_some h
          obtain ⟨v13, hv13, h⟩ := bind_some h
          obtain ⟨v14, hv14, h⟩ := bind_some h
          obtain ⟨v15, hv15, h⟩ := bind_some h
          obtain ⟨v16, hv16, h⟩ := bind_some h
          obtain ⟨v17, hv17, h⟩ := bind_some h
          obtain ⟨v18, hv18, h⟩ := bind_some h
          obtain ⟨v19, hv19, h⟩ := bind_some h
          refine Ab.regA hE hC hL [[], [.t (.int .u32 v12)], [], [.t (.int .u32 v13)], [], [.t (.int .u32 v14)], [], [.t (.int .u32 v15)], [], [.t (.int .u32 v16)], [], [.t (.int .u32 v17)], [], [.t (.int .u32 v18)], [], [.t (.int .u32 v19)]] { keep := [2, 3, 4, 5, 7, 8, 13, 14, 15, 16, 17, 18, 19, 20], ren := [(49000, 49000), (49001, 49001), (49002, 49002), (49003, 49003), (49004, 49004)] } ⟨[(2, (.ref 49000 [] (0))), (3, (.ref 49001 [] (0))), (4, (.ref 49002 [] (0))), (5, (.own 49003)), (7, (.t (.int .i64 a9))), (8, (.ref 49004 [] (0))), (13, (.t (.int .u32 v12))), (14, (.t (.int .u32 v13))), (15, (.t (.int .u32 v14))), (16, (.t (.int .u32 v15))), (17, (.t (.int .u32 v16))), (18, (.t (.int .u32 v17))), (19, (.t (.int .u32 v18))), (20, (.t (.int .u32 v19)))], [(49000, (.var false 23 (.t ((eA 1 (T.int .u8)) (Arr.rep 32 (0:Int)))))), (49001, (.var false 65 (.t ((eA 1 (T.int .u32)) a8)))), (49002, (.var false 69 (.t ((eA 1 (T.int .u32)) r0)))), (49003, (.row false 5 1 (List.map (T.int .u8) x0))), (49004, (.var false 69 (.t ((eA 1 (T.int .u32)) x1))))]⟩ [0 = 0, (List.map (T.int .u32) a8.l)[0]? = some (.int .u32 v12), 1 = 1, (List.map (T.int .u32) a8.l)[1]? = some (.int .u32 v13), 2 = 2, (List.map (T.int .u32) a8.l)[2]? = some (.int .u32 v14), 3 = 3, (List.map (T.int .u32) a8.l)[3]? = some (.int .u32 v15), 4 = 4, (List.map (T.int .u32) a8.l)[4]? = some (.int .u32 v16), 5 = 5, (List.map (T.int .u32) a8.l)[5]? = some (.int .u32 v17), 6 = 6, (List.map (T.int .u32) a8.l)[6]? = some (.int .u32 v18), 7 = 7, (List.map (T.int .u32) a8.l)[7]? = some (.int .u32 v19)] (by kernel_rfl) (by kernel_rfl) ⟨(by omega), (at_map hv12), (by omega), (at_map hv13), (by omega), (at_map hv14), (by omega), (at_map hv15), (by omega), (at_map hv16), (by omega), (at_map hv17), (by omega), (at_map hv18), (by omega), (at_map hv19), trivial⟩ ?_
          refine Nxt_norm ?_
          refine Ab.seq ?_
          refine Ab.seq ?_
          refine Ab.regT hE hC hL [] { keep := [2, 3, 4, 5, 7, 8, 13, 14, 15, 16, 17, 18, 19, 20, 21], ren := [(49000, 49000), (49001, 49001), (49002, 49002), (49003, 49003), (49004, 49004)] } ⟨[(2, (.ref 49000 [] (0))), (3, (.ref 49001 [] (0))), (4, (.ref 49002 [] (0))), (5, (.own 49003)), (7, (.t (.int .i64 a9))), (8, (.ref 49004 [] (0))), (13, (.t (.int .u32 v12))), (14, (.t (.int .u32 v13))), (15, (.t (.int .u32 v14))), (16, (.t (.int .u32 v15))), (17, (.t (.int .u32 v16))), (18, (.t (.int .u32 v17))), (19, (.t (.int .u32 v18))), (20, (.t (.int .u32 v19))), (21, (.t (.int .i64 (0:Int))))], [(49000, (.var false 23 (.t ((eA 1 (T.int .u8)) (Arr.rep 32 (0:Int)))))), (49001, (.var false 65 (.t ((eA 1 (T.int .u32)) a8)))), (49002, (.var false 69 (.t ((eA 1 (T.int .u32)) r0)))), (49003, (.row false 5 1 (List.map (T.int .u8) x0))), (49004, (.var false 69 (.t ((eA 1 (T.int .u32)) x1))))]⟩ [] (by kernel_rfl) trivial ?_
          refine Nxt_norm ?_
          obtain ⟨x2, hx3, h⟩ := bind_some h
          refine Ab.loopX0 (fun ((a21, a22, a23, a24, a25, a26, a27, a28, a29) : (Int × Int × Int × Int × Int × Int × Int × Int × Int)) => (⟨[(2, (.ref 49000 [] (0))), (3, (.ref 49001 [] (0))), (4, (.ref 49002 [] (0))), (5, (.own 49003)), (7, (.t (.int .i64 a9))), (8, (.ref 49004 [] (0))), (13, (.t (.int .u32 a21))), (14, (.t (.int .u32 a22))), (15, (.t (.int .u32 a23))), (16, (.t (.int .u32 a24))), (17, (.t (.int .u32 a25))), (18, (.t (.int .u32 a26))), (19, (.t (.int .u32 a27))), (20, (.t (.int .u32 a28))), (21, (.t (.int .i64 a29)))], [(49000, (.var false 23 (.t ((eA 1 (T.int .u8)) (Arr.rep 32 (0:Int)))))), (49001, (.var false 65 (.t ((eA 1 (T.int .u32)) a8)))), (49002, (.var false 69 (.t ((eA 1 (T.int .u32)) r0)))), (49003, (.row false 5 1 (List.map (T.int .u8) x0))), (49004, (.var false 69 (.t ((eA 1 (T.int .u32)) x1))))]⟩ : St)) (fun ((a30, a31, a32, a33, a34, a35, a36, a37) : (Int × Int × Int × Int × Int × Int × Int × Int)) => (⟨[(2, (.ref 49000 [] (0))), (3, (.ref 49001 [] (0))), (4, (.ref 49002 [] (0))), (5, (.own 49003)), (7, (.t (.int .i64 a9))), (13, (.t (.int .u32 a30))), (14, (.t (.int .u32 a31))), (15, (.t (.int .u32 a32))), (16, (.t (.int .u32 a33))), (17, (.t (.int .u32 a34))), (18, (.t (.int .u32 a35))), (19, (.t (.int .u32 a36))), (20, (.t (.int .u32 a37)))], [(49000, (.var false 23 (.t ((eA 1 (T.int .u8)) (Arr.rep 32 (0:Int)))))), (49001, (.var false 65 (.t ((eA 1 (T.int .u32)) a8)))), (49002, (.var false 69 (.t ((eA 1 (T.int .u32)) r0)))), (49003, (.row false 5 1 (List.map (T.int .u8) x0)))]⟩ : St)) { fs := [], keep := [2, 3, 4, 5, 7, 8, 13, 14, 15, 16, 17, 18, 19, 20, 21], ren := [(49000, 49000), (49001, 49001), (49002, 49002), (49003, 49003), (49004, 49004)] } (v12, v13, v14, v15, v16, v17, v18, v19, (0:Int)) hC hL hx3 (by kernel_rfl) ?_ ?_
          · rintro ⟨a21, a22, a23, a24, a25, a26, a27, a28, a29⟩ o3 h
            replace h : f_ref02_Of_b3 n r0 x1 a21 a22 a23 a24 a25 a26 a27 a28 a29 = some o3 := h
            unfold f_ref02_Of_b3 at h
            refine Ab.seq ?_
            refine Ab.seq ?_
            refine Ab.regT hE hC hL [] { keep := [2, 3, 4, 5, 7, 8, 13, 14, 15, 16, 17, 18, 19, 20, 21, 163], ren := [(49000, 49000), (49001, 49001), (49002, 49002), (49003, 49003), (49004, 49004)] } ⟨[(2, (.ref 49000 [] (0))), (3, (.ref 49001 [] (0))), (4, (.ref 49002 [] (0))), (5, (.own 49003)), (7, (.t (.int .i64 a9))), (8, (.ref 49004 [] (0))), (13, (.t (.int .u32 a21))), (14, (.t (.int .u32 a22))), (15, (.t (.int .u32 a23))), (16, (.t (.int .u32 a24))), (17, (.t (.int .u32 a25))), (18, (.t (.int .u32 a26))), (19, (.t (.int .u32 a27))), (20, (.t (.int .u32 a28))), (21, (.t (.int .i64 a29))), (163, (.t (.bool (decide (a29 < (64:Int))))))], [(49000, (.var false 23 (.t ((eA 1 (T.int .u8)) (Arr.rep 32 (0:Int)))))), (49001, (.var false 65 (.t ((eA 1 (T.int .u32)) a8)))), (49002, (.var false 69 (.t ((eA 1 (T.int .u32)) r0)))), (49003, (.row false 5 1 (List.map (T.int .u8) x0))), (49004, (.var false 69 (.t ((eA 1 (T.int .u32)) x1))))]⟩ [] (by kernel_rfl) trivial ?_
            refine Nxt_norm ?_
            refine Ab.cond (b := (decide (a29 < (64:Int)))) (by kernel_rfl) (fun hb4 => ?_) (fun hb4 => ?_)
            · replace h := cond_t hb4 h
              refine Ab.skip ?_
              refine Nxt_norm ?_
              refine Ab.seq ?_
              refine Ab.block ?_
              refine Ab.seq ?_
              obtain ⟨r5, hr5, h⟩ := bind_some h
              obtain ⟨r6, hr6, h⟩ := bind_some h
              obtain ⟨r7, hr7, h⟩ := bind_some h
              obtain ⟨hq24, h⟩ := ask_dec h
              obtain ⟨v20, hv20, h⟩ := bind_some h
              obtain ⟨v21, hv21, h⟩ := bind_some h
              refine Ab.regA hE hC hL [[], [], [.r [.tree (.int .u32 r5)] []], [], [.r [.tree (.int .u32 r6)] []], [], [], [.r [.tree (.int .u32 r7)] []], [], [], [], [], [], [], [], [], [], [], [], [], [.c], [.t (.int .u32 v20)], [], [], [.c], [.t (.int .u32 v21)]] { keep := [2, 3, 4, 5, 7, 8, 13, 14, 15, 16, 17, 18, 19, 21, 22], ren := [(49000, 49000), (49001, 49001), (49002, 49002), (49003, 49003), (49004, 49004)] } ⟨[(2, (.ref 49000 [] (0))), (3, (.ref 49001 [] (0))), (4, (.ref 49002 [] (0))), (5, (.own 49003)), (7, (.t (.int .i64 a9))), (8, (.ref 49004 [] (0))), (13, (.t (.int .u32 a21))), (14, (.t (.int .u32 a22))), (15, (.t (.int .u32 a23))), (16, (.t (.int .u32 a24))), (17, (.t (.int .u32 a25))), (18, (.t (.int .u32 a26))), (19, (.t (.int .u32 a27))), (21, (.t (.int .i64 a29))), (22, (.t (.int .u32 (w32 ((w32 ((w32 ((w32 (a28 + (bits .xor .u32 (bits .xor .u32 r5 r6) r7))) + (bits .xor .u32 (bits .and .u32 a25 a26) (bits .and .u32 (bits .xor .u32 (4294967295) a25) a27)))) + v20)) + v21)))))], [(49000, (.var false 23 (.t ((eA 1 (T.int .u8)) (Arr.rep 32 (0:Int)))))), (49001, (.var false 65 (.t ((eA 1 (T.int .u32)) a8)))), (49002, (.var false 69 (.t ((eA 1 (T.int .u32)) r0)))), (49003, (.row false 5 1 (List.map (T.int .u8) x0))), (49004, (.var false 69 (.t ((eA 1 (T.int .u32)) x1))))]⟩ [(sp_ref02_right n).fn [(.int .u32 a25), (.int .i64 (6:Int))] = some ([.tree (.int .u32 r5)], []), (sp_ref02_right n).fn [(.int .u32 a25), (.int .i64 (11:Int))] = some ([.tree (.int .u32 r6)], []), (sp_ref02_right n).fn [(.int .u32 a25), (.int .i64 (25:Int))] = some ([.tree (.int .u32 r7)], []), 0 ≤ a29, a29 < ((64 : Nat) : Int), a29.toNat * 1 + 0 = 0 + a29.toNat * 1, (List.map (T.int .u32) r0.l)[a29.toNat]? = some (.int .u32 v20), 0 ≤ a29, a29 < ((64 : Nat) : Int), a29.toNat * 1 + 0 = 0 + a29.toNat * 1, (List.map (T.int .u32) x1.l)[a29.toNat]? = some (.int .u32 v21)] (by kernel_rfl) (by kernel_rfl) ⟨(ap_ref02_right n (by exact ⟨leT.refl _, leT.refl _, trivial⟩) hr5), (ap_ref02_right n (by exact ⟨leT.refl _, leT.refl _, trivial⟩) hr6), (ap_ref02_right n (by exact ⟨leT.refl _, leT.refl _, trivial⟩) hr7), hq24, (of_decide_eq_true hb4), (by omega), (at_map hv20), hq24, (of_decide_eq_true hb4), (by omega), (at_map hv21), trivial⟩ ?_
              refine Nxt_norm ?_
              refine Ab.seq ?_
              obtain ⟨r8, hr8, h⟩ := bind_some h
              obtain ⟨r9, hr9, h⟩ := bind_some h
              obtain ⟨r10, hr10, h⟩ := bind_some h
              refine Ab.regT hE hC hL [[], [.r [.tree (.int .u32 r8)] []], [], [.r [.tree (.int .u32 r9)] []], [], [], [.r [.tree (.int .u32 r10)] []]] { keep := [2, 3, 4, 5, 7, 8, 13, 14, 15, 16, 17, 18, 19, 21, 22, 23], ren := [(49000, 49000), (49001, 49001), (49002, 49002), (49003, 49003), (49004, 49004)] } ⟨[(2, (.ref 49000 [] (0))), (3, (.ref 49001 [] (0))), (4, (.ref 49002 [] (0))), (5, (.own 49003)), (7, (.t (.int .i64 a9))), (8, (.ref 49004 [] (0))), (13, (.t (.int .u32 a21))), (14, (.t (.int .u32 a22))), (15, (.t (.int .u32 a23))), (16, (.t (.int .u32 a24))), (17, (.t (.int .u32 a25))), (18, (.t (.int .u32 a26))), (19, (.t (.int .u32 a27))), (21, (.t (.int .i64 a29))), (22, (.t (.int .u32 (w32 ((w32 ((w32 ((w32 (a28 + (bits .xor .u32 (bits .xor .u32 r5 r6) r7))) + (bits .xor .u32 (bits .and .u32 a25 a26) (bits .and .u32 (bits .xor .u32 (4294967295) a25) a27)))) + v20)) + v21))))), (23, (.t (.int .u32 (w32 ((bits .xor .u32 (bits .xor .u32 r8 r9) r10) + (bits .xor .u32 (bits .xor .u32 (bits .and .u32 a21 a22) (bits .and .u32 a21 a23)) (bits .and .u32 a22 a23)))))))], [(49000, (.var false 23 (.t ((eA 1 (T.int .u8)) (Arr.rep 32 (0:Int)))))), (49001, (.var false 65 (.t ((eA 1 (T.int .u32)) a8)))), (49002, (.var false 69 (.t ((eA 1 (T.int .u32)) r0)))), (49003, (.row false 5 1 (List.map (T.int .u8) x0))), (49004, (.var false 69 (.t ((eA 1 (T.int .u32)) x1))))]⟩ [(sp_ref02_right n).fn [(.int .u32 a21), (.int .i64 (2:Int))] = some ([.tree (.int .u32 r8)], []), (sp_ref02_right n).fn [(.int .u32 a21), (.int .i64 (13:Int))] = some ([.tree (.int .u32 r9)], []), (sp_ref02_right n).fn [(.int .u32 a21), (.int .i64 (22:Int))] = some ([.tree (.int .u32 r10)], [])] (by kernel_rfl) ⟨(ap_ref02_right n (by exact ⟨leT.refl _, leT.refl _, trivial⟩) hr8), (ap_ref02_right n (by exact ⟨leT.refl _, leT.refl _, trivial⟩) hr9), (ap_ref02_right n (by exact ⟨leT.refl _, leT.refl _, trivial⟩) hr10), trivial⟩ ?_
              refine Nxt_norm ?_
              refine Ab.regT hE hC hL [] { keep := [2, 3, 4, 5, 7, 8, 13, 14, 15, 16, 17, 18, 19, 20, 21], ren := [(49000, 49000), (49001, 49001), (49002, 49002), (49003, 49003), (49004, 49004)] } ⟨[(2, (.ref 49000 [] (0))), (3, (.ref 49001 [] (0))), (4, (.ref 49002 [] (0))), (5, (.own 49003)), (7, (.t (.int .i64 a9))), (8, (.ref 49004 [] (0))), (13, (.t (.int .u32 (w32 ((w32 ((w32 ((w32 ((w32 (a28 + (bits .xor .u32 (bits .xor .u32 r5 r6) r7))) + (bits .xor .u32 (bits .and .u32 a25 a26) (bits .and .u32 (bits .xor .u32 (4294967295) a25) a27)))) + v20)) + v21)) + (w32 ((bits .xor .u32 (bits .xor .u32 r8 r9) r10) + (bits .xor .u32 (bits .xor .u32 (bits .and .u32 a21 a22) (bits .and .u32 a21 a23)) (bits .and .u32 a22 a23))))))))), (14, (.t (.int .u32 a21))), (15, (.t (.int .u32 a22))), (16, (.t (.int .u32 a23))), (17, (.t (.int .u32 (w32 (a24 + (w32 ((w32 ((w32 ((w32 (a28 + (bits .xor .u32 (bits .xor .u32 r5 r6) r7))) + (bits .xor .u32 (bits .and .u32 a25 a26) (bits .and .u32 (bits .xor .u32 (4294967295) a25) a27)))) + v20)) + v21))))))), (18, (.t (.int .u32 a25))), (19, (.t (.int .u32 a26))), (20, (.t (.int .u32 a27))), (21, (.t (.int .i64 a29)))], [(49000, (.var false 23 (.t ((eA 1 (T.int .u8)) (Arr.rep 32 (0:Int)))))), (49001, (.var false 65 (.t ((eA 1 (T.int .u32)) a8)))), (49002, (.var false 69 (.t ((eA 1 (T.int .u32)) r0)))), (49003, (.row false 5 1 (List.map (T.int .u8) x0))), (49004, (.var false 69 (.t ((eA 1 (T.int .u32)) x1))))]⟩ [] (by kernel_rfl) trivial ?_
              refine Blk_norm ?_
              refine Nxt_norm ?_
              refine Ab.regT hE hC hL [] { keep := [2, 3, 4, 5, 7, 8, 13, 14, 15, 16, 17, 18, 19, 20, 21], ren := [(49000, 49000), (49001, 49001), (49002, 49002), (49003, 49003), (49004, 49004)] } ⟨[(2, (.ref 49000 [] (0))), (3, (.ref 49001 [] (0))), (4, (.ref 49002 [] (0))), (5, (.own 49003)), (7, (.t (.int .i64 a9))), (8, (.ref 49004 [] (0))), (13, (.t (.int .u32 (w32 ((w32 ((w32 ((w32 ((w32 (a28 + (bits .xor .u32 (bits .xor .u32 r5 r6) r7))) + (bits .xor .u32 (bits .and .u32 a25 a26) (bits .and .u32 (bits .xor .u32 (4294967295) a25) a27)))) + v20)) + v21)) + (w32 ((bits .xor .u32 (bits .xor .u32 r8 r9) r10) + (bits .xor .u32 (bits .xor .u32 (bits .and .u32 a21 a22) (bits .and .u32 a21 a23)) (bits .and .u32 a22 a23))))))))), (14, (.t (.int .u32 a21))), (15, (.t (.int .u32 a22))), (16, (.t (.int .u32 a23))), (17, (.t (.int .u32 (w32 (a24 + (w32 ((w32 ((w32 ((w32 (a28 + (bits .xor .u32 (bits .xor .u32 r5 r6) r7))) + (bits .xor .u32 (bits .and .u32 a25 a26) (bits .and .u32 (bits .xor .u32 (4294967295) a25) a27)))) + v20)) + v21))))))), (18, (.t (.int .u32 a25))), (19, (.t (.int .u32 a26))), (20, (.t (.int .u32 a27))), (21, (.t (.int .i64 (wi (a29 + (1:Int))))))], [(49000, (.var false 23 (.t ((eA 1 (T.int .u8)) (Arr.rep 32 (0:Int)))))), (49001, (.var false 65 (.t ((eA 1 (T.int .u32)) a8)))), (49002, (.var false 69 (.t ((eA 1 (T.int .u32)) r0)))), (49003, (.row false 5 1 (List.map (T.int .u8) x0))), (49004, (.var false 69 (.t ((eA 1 (T.int .u32)) x1))))]⟩ [] (by kernel_rfl) trivial ?_
              exact LK_norm ((w32 ((w32 ((w32 ((w32 ((w32 (a28 + (bits .xor .u32 (bits .xor .u32 r5 r6) r7))) + (bits .xor .u32 (bits .and .u32 a25 a26) (bits .and .u32 (bits .xor .u32 (4294967295) a25) a27)))) + v20)) + v21)) + (w32 ((bits .xor .u32 (bits .xor .u32 r8 r9) r10) + (bits .xor .u32 (bits .xor .u32 (bits .and .u32 a21 a22) (bits .and .u32 a21 a23)) (bits .and .u32 a22 a23)))))), a21, a22, a23, (w32 (a24 + (w32 ((w32 ((w32 ((w32 (a28 + (bits .xor .u32 (bits .xor .u32 r5 r6) r7))) + (bits .xor .u32 (bits .and .u32 a25 a26) (bits .and .u32 (bits .xor .u32 (4294967295) a25) a27)))) + v20)) + v21)))), a25, a26, a27, (wi (a29 + (1:Int)))) { fs := [], keep := [2, 3, 4, 5, 7, 8, 13, 14, 15, 16, 17, 18, 19, 20, 21], ren := [(49000, 49000), (49001, 49001), (49002, 49002), (49003, 49003), (49004, 49004)] } h (by kernel_rfl)
            · replace h := cond_f hb4 h
              refine Ab.exit ?_
              refine Nxt_exit ?_
              exact LK_exit (a21, a22, a23, a24, a25, a26, a27, a28) h (PX_mk { fs := [], keep := [2, 3, 4, 5, 7, 13, 14, 15, 16, 17, 18, 19, 20], ren := [(49000, 49000), (49001, 49001), (49002, 49002), (49003, 49003)] } (by kernel_rfl))
          · refine Nxt_norm ?_
            obtain ⟨v22, hv22, h⟩ := bind_some h
            obtain ⟨v23, hv23, h⟩ := bind_some h
            obtain ⟨v24, hv24, h⟩ := bind_some h
            obtain ⟨v25, hv25, h⟩ := bind_some h
            obtain ⟨v26, hv26, h⟩ := bind_some h
            obtain ⟨v27, hv27, h⟩ := bind_some h
            obtain ⟨v28, hv28, h⟩ := bind_some h
            refine Ab.regT hE hC hL [[], [.t (.int .u32 v12)], [], [], [], [.t (.int .u32 v13)], [], [], [], [.t (.int .u32 v14)], [], [], [], [.t (.int .u32 v15)], [], [], [], [.t (.int .u32 v16)], [], [], [], [.t (.int .u32 v17)], [], [], [], [.t (.int .u32 v18)], [], [], [], [.t (.int .u32 v19)], [], [], [], [.t (.int .u32 v12), .l (List.map (T.int .u32) (Arr.set a8 0 (w32 (v12 + x2.1))).l)], [], [.t (.int .u32 v22), .l (List.map (T.int .u32) (Arr.set (Arr.set a8 0 (w32 (v12 + x2.1))) 1 (w32 (v13 + x2.2.1))).l)], [], [.t (.int .u32 v23), .l (List.map (T.int .u32) (Arr.set (Arr.set (Arr.set a8 0 (w32 (v12 + x2.1))) 1 (w32 (v13 + x2.2.1))) 2 (w32 (v14 + x2.2.2.1))).l)], [], [.t (.int .u32 v24), .l (List.map (T.int .u32) (Arr.set (Arr.set (Arr.set (Arr.set a8 0 (w32 (v12 + x2.1))) 1 (w32 (v13 + x2.2.1))) 2 (w32 (v14 + x2.2.2.1))) 3 (w32 (v15 + x2.2.2.2.1))).l)], [], [.t (.int .u32 v25), .l (List.map (T.int .u32) (Arr.set (Arr.set (Arr.set (Arr.set (Arr.set a8 0 (w32 (v12 + x2.1))) 1 (w32 (v13 + x2.2.1))) 2 (w32 (v14 + x2.2.2.1))) 3 (w32 (v15 + x2.2.2.2.1))) 4 (w32 (v16 + x2.2.2.2.2.1))).l)], [], [.t (.int .u32 v26), .l (List.map (T.int .u32) (Arr.set (Arr.set (Arr.set (Arr.set (Arr.set (Arr.set a8 0 (w32 (v12 + x2.1))) 1 (w32 (v13 + x2.2.1))) 2 (w32 (v14 + x2.2.2.1))) 3 (w32 (v15 + x2.2.2.2.1))) 4 (w32 (v16 + x2.2.2.2.2.1))) 5 (w32 (v17 + x2.2.2.2.2.2.1))).l)], [], [.t (.int .u32 v27), .l (List.map (T.int .u32) (Arr.set (Arr.set (Arr.set (Arr.set (Arr.set (Arr.set (Arr.set a8 0 (w32 (v12 + x2.1))) 1 (w32 (v13 + x2.2.1))) 2 (w32 (v14 + x2.2.2.1))) 3 (w32 (v15 + x2.2.2.2.1))) 4 (w32 (v16 + x2.2.2.2.2.1))) 5 (w32 (v17 + x2.2.2.2.2.2.1))) 6 (w32 (v18 + x2.2.2.2.2.2.2.1))).l)], [], [.t (.int .u32 v28), .l (List.map (T.int .u32) (Arr.set (Arr.set (Arr.set (Arr.set (Arr.set (Arr.set (Arr.set (Arr.set a8 0 (w32 (v12 + x2.1))) 1 (w32 (v13 + x2.2.1))) 2 (w32 (v14 + x2.2.2.1))) 3 (w32 (v15 + x2.2.2.2.1))) 4 (w32 (v16 + x2.2.2.2.2.1))) 5 (w32 (v17 + x2.2.2.2.2.2.1))) 6 (w32 (v18 + x2.2.2.2.2.2.2.1))) 7 (w32 (v19 + x2.2.2.2.2.2.2.2))).l)]] { keep := [2, 3, 4, 5, 7], ren := [(49000, 49000), (49001, 49001), (49002, 49002), (49003, 49003)] } ⟨[(2, (.ref 49000 [] (0))), (3, (.ref 49001 [] (0))), (4, (.ref 49002 [] (0))), (5, (.own 49003)), (7, (.t (.int .i64 a9)))], [(49000, (.var false 23 (.t ((eA 1 (T.int .u8)) (Arr.rep 32 (0:Int)))))), (49001, (.var false 65 (.t ((eA 1 (T.int .u32)) (Arr.set (Arr.set (Arr.set (Arr.set (Arr.set (Arr.set (Arr.set (Arr.set a8 0 (w32 (v12 + x2.1))) 1 (w32 (v13 + x2.2.1))) 2 (w32 (v14 + x2.2.2.1))) 3 (w32 (v15 + x2.2.2.2.1))) 4 (w32 (v16 + x2.2.2.2.2.1))) 5 (w32 (v17 + x2.2.2.2.2.2.1))) 6 (w32 (v18 + x2.2.2.2.2.2.2.1))) 7 (w32 (v19 + x2.2.2.2.2.2.2.2))))))), (49002, (.var false 69 (.t ((eA 1 (T.int .u32)) r0)))), (49003, (.row false 5 1 (List.map (T.int .u8) x0)))]⟩ [0 = 0, (List.map (T.int .u32) a8.l)[0]? = some (.int .u32 v12), 1 = 1, (List.map (T.int .u32) a8.l)[1]? = some (.int .u32 v13), 2 = 2, (List.map (T.int .u32) a8.l)[2]? = some (.int .u32 v14), 3 = 3, (List.map (T.int .u32) a8.l)[3]? = some (.int .u32 v15), 4 = 4, (List.map (T.int .u32) a8.l)[4]? = some (.int .u32 v16), 5 = 5, (List.map (T.int .u32) a8.l)[5]? = some (.int .u32 v17), 6 = 6, (List.map (T.int .u32) a8.l)[6]? = some (.int .u32 v18), 7 = 7, (List.map (T.int .u32) a8.l)[7]? = some (.int .u32 v19), 0 = 0, (List.map (T.int .u32) a8.l)[0]? = some (.int .u32 v12), (List.map (T.int .u32) a8.l)[0]? = some (.int .u32 v12), (List.map (T.int .u32) a8.l).set 0 (.int .u32 (w32 (v12 + x2.1))) = List.map (T.int .u32) (Arr.set a8 0 (w32 (v12 + x2.1))).l, 1 = 1, (List.map (T.int .u32) (Arr.set a8 0 (w32 (v12 + x2.1))).l)[1]? = some (.int .u32 v22), (List.map (T.int .u32) (Arr.set a8 0 (w32 (v12 + x2.1))).l)[1]? = some (.int .u32 v22), (List.map (T.int .u32) (Arr.set a8 0 (w32 (v12 + x2.1))).l).set 1 (.int .u32 (w32 (v13 + x2.2.1))) = List.map (T.int .u32) (Arr.set (Arr.set a8 0 (w32 (v12 + x2.1))) 1 (w32 (v13 + x2.2.1))).l, 2 = 2, (List.map (T.int .u32) (Arr.set (Arr.set a8 0 (w32 (v12 + x2.1))) 1 (w32 (v13 + x2.2.1))).l)[2]? = some (.int .u32 v23), (List.map (T.int .u32) (Arr.set (Arr.set a8 0 (w32 (v12 + x2.1))) 1 (w32 (v13 + x2.2.1))).l)[2]? = some (.int .u32 v23), (List.map (T.int .u32) (Arr.set (Arr.set a8 0 (w32 (v12 + x2.1))) 1 (w32 (v13 + x2.2.1))).l).set 2 (.int .u32 (w32 (v14 + x2.2.2.1))) = List.map (T.int .u32) (Arr.set (Arr.set (Arr.set a8 0 (w32 (v12 + x2.1))) 1 (w32 (v13 + x2.2.1))) 2 (w32 (v14 + x2.2.2.1))).l, 3 = 3, (List.map (T.int .u32) (Arr.set (Arr.set (Arr.set a8 0 (w32 (v12 + x2.1))) 1 (w32 (v13 + x2.2.1))) 2 (w32 (v14 + x2.2.2.1))).l)[3]? = some (.int .u32 v24), (List.map (T.int .u32) (Arr.set (Arr.set (Arr.set a8 0 (w32 (v12 + x2.1))) 1 (w32 (v13 + x2.2.1))) 2 (w32 (v14 + x2.2.2.1))).l)[3]? = some (.int .u32 v24), (List.map (T.int .u32) (Arr.set (Arr.set (Arr.set a8 0 (w32 (v12 + x2.1))) 1 (w32 (v13 + x2.2.1))) 2 (w32 (v14 + x2.2.2.1))).l).set 3 (.int .u32 (w32 (v15 + x2.2.2.2.1))) = List.map (T.int .u32) (Arr.set (Arr.set (Arr.set (Arr.set a8 0 (w32 (v12 + x2.1))) 1 (w32 (v13 + x2.2.1))) 2 (w32 (v14 + x2.2.2.1))) 3 (w32 (v15 + x2.2.2.2.1))).l, 4 = 4, (List.map (T.int .u32) (Arr.set (Arr.set (Arr.set (Arr.set a8 0 (w32 (v12 + x2.1))) 1 (w32 (v13 + x2.2.1))) 2 (w32 (v14 + x2.2.2.1))) 3 (w32 (v15 + x2.2.2.2.1))).l)[4]? = some (.int .u32 v25), (List.map (T.int .u32) (Arr.set (Arr.set (Arr.set (Arr.set a8 0 (w32 (v12 + x2.1))) 1 (w32 (v13 + x2.2.1))) 2 (w32 (v14 + x2.2.2.1))) 3 (w32 (v15 + x2.2.2.2.1))).l)[4]? = some (.int .u32 v25), (List.map (T.int .u32) (Arr.set (Arr.set (Arr.set (Arr.set a8 0 (w32 (v12 + x2.1))) 1 (w32 (v13 + x2.2.1))) 2 (w32 (v14 + x2.2.2.1))) 3 (w32 (v15 + x2.2.2.2.1))).l).set 4 (.int .u32 (w32 (v16 + x2.2.2.2.2.1))) = List.map (T.int .u32) (Arr.set (Arr.set (Arr.set (Arr.set (Arr.set a8 0 (w32 (v12 + x2.1))) 1 (w32 (v13 + x2.2.1))) 2 (w32 (v14 + x2.2.2.1))) 3 (w32 (v15 + x2.2.2.2.1))) 4 (w32 (v16 + x2.2.2.2.2.1))).l, 5 = 5, (List.map (T.int .u32) (Arr.set (Arr.set (Arr.set (Arr.set (Arr.set a8 0 (w32 (v12 + x2.1))) 1 (w32 (v13 + x2.2.1))) 2 (w32 (v14 + x2.2.2.1))) 3 (w32 (v15 + x2.2.2.2.1))) 4 (w32 (v16 + x2.2.2.2.2.1))).l)[5]? = some (.int .u32 v26), (List.map (T.int .u32) (Arr.set (Arr.set (Arr.set (Arr.set (Arr.set a8 0 (w32 (v12 + x2.1))) 1 (w32 (v13 + x2.2.1))) 2 (w32 (v14 + x2.2.2.1))) 3 (w32 (v15 + x2.2.2.2.1))) 4 (w32 (v16 + x2.2.2.2.2.1))).l)[5]? = some (.int .u32 v26), (List.map (T.int .u32) (Arr.set (Arr.set (Arr.set (Arr.set (Arr.set a8 0 (w32 (v12 + x2.1))) 1 (w32 (v13 + x2.2.1))) 2 (w32 (v14 + x2.2.2.1))) 3 (w32 (v15 + x2.2.2.2.1))) 4 (w32 (v16 + x2.2.2.2.2.1))).l).set 5 (.int .u32 (w32 (v17 + x2.2.2.2.2.2.1))) = List.map (T.int .u32) (Arr.set (Arr.set (Arr.set (Arr.set (Arr.set (Arr.set a8 0 (w32 (v12 + x2.1))) 1 (w32 (v13 + x2.2.1))) 2 (w32 (v14 + x2.2.2.1))) 3 (w32 (v15 + x2.2.2.2.1))) 4 (w32 (v16 + x2.2.2.2.2.1))) 5 (w32 (v17 + x2.2.2.2.2.2.1))).l, 6 = 6, (List.map (T.int .u32) (Arr.set (Arr.set (Arr.set (Arr.set (Arr.set (Arr.set a8 0 (w32 (v12 + x2.1))) 1 (w32 (v13 + x2.2.1))) 2 (w32 (v14 + x2.2.2.1))) 3 (w32 (v15 + x2.2.2.2.1))) 4 (w32 (v16 + x2.2.2.2.2.1))) 5 (w32 (v17 + x2.2.2.2.2.2.1))).l)[6]? = some (.int .u32 v27), (List.map (T.int .u32) (Arr.set (Arr.set (Arr.set (Arr.set (Arr.set (Arr.set a8 0 (w32 (v12 + x2.1))) 1 (w32 (v13 + x2.2.1))) 2 (w32 (v14 + x2.2.2.1))) 3 (w32 (v15 + x2.2.2.2.1))) 4 (w32 (v16 + x2.2.2.2.2.1))) 5 (w32 (v17 + x2.2.2.2.2.2.1))).l)[6]? = some (.int .u32 v27), (List.map (T.int .u32) (Arr.set (Arr.set (Arr.set (Arr.set (Arr.set (Arr.set a8 0 (w32 (v12 + x2.1))) 1 (w32 (v13 + x2.2.1))) 2 (w32 (v14 + x2.2.2.1))) 3 (w32 (v15 + x2.2.2.2.1))) 4 (w32 (v16 + x2.2.2.2.2.1))) 5 (w32 (v17 + x2.2.2.2.2.2.1))).l).set 6 (.int .u32 (w32 (v18 + x2.2.2.2.2.2.2.1))) = List.map (T.int .u32) (Arr.set (Arr.set (Arr.set (Arr.set (Arr.set (Arr.set (Arr.set a8 0 (w32 (v12 + x2.1))) 1 (w32 (v13 + x2.2.1))) 2 (w32 (v14 + x2.2.2.1))) 3 (w32 (v15 + x2.2.2.2.1))) 4 (w32 (v16 + x2.2.2.2.2.1))) 5 (w32 (v17 + x2.2.2.2.2.2.1))) 6 (w32 (v18 + x2.2.2.2.2.2.2.1))).l, 7 = 7, (List.map (T.int .u32) (Arr.set (Arr.set (Arr.set (Arr.set (Arr.set (Arr.set (Arr.set a8 0 (w32 (v12 + x2.1))) 1 (w32 (v13 + x2.2.1))) 2 (w32 (v14 + x2.2.2.1))) 3 (w32 (v15 + x2.2.2.2.1))) 4 (w32 (v16 + x2.2.2.2.2.1))) 5 (w32 (v17 + x2.2.2.2.2.2.1))) 6 (w32 (v18 + x2.2.2.2.2.2.2.1))).l)[7]? = some (.int .u32 v28), (List.map (T.int .u32) (Arr.set (Arr.set (Arr.set (Arr.set (Arr.set (Arr.set (Arr.set a8 0 (w32 (v12 + x2.1))) 1 (w32 (v13 + x2.2.1))) 2 (w32 (v14 + x2.2.2.1))) 3 (w32 (v15 + x2.2.2.2.1))) 4 (w32 (v16 + x2.2.2.2.2.1))) 5 (w32 (v17 + x2.2.2.2.2.2.1))) 6 (w32 (v18 + x2.2.2.2.2.2.2.1))).l)[7]? = some (.int .u32 v28), (List.map (T.int .u32) (Arr.set (Arr.set (Arr.set (Arr.set (Arr.set (Arr.set (Arr.set a8 0 (w32 (v12 + x2.1))) 1 (w32 (v13 + x2.2.1))) 2 (w32 (v14 + x2.2.2.1))) 3 (w32 (v15 + x2.2.2.2.1))) 4 (w32 (v16 + x2.2.2.2.2.1))) 5 (w32 (v17 + x2.2.2.2.2.2.1))) 6 (w32 (v18 + x2.2.2.2.2.2.2.1))).l).set 7 (.int .u32 (w32 (v19 + x2.2.2.2.2.2.2.2))) = List.map (T.int .u32) (Arr.set (Arr.set (Arr.set (Arr.set (Arr.set (Arr.set (Arr.set (Arr.set a8 0 (w32 (v12 + x2.1))) 1 (w32 (v13 + x2.2.1))) 2 (w32 (v14 + x2.2.2.1))) 3 (w32 (v15 + x2.2.2.2.1))) 4 (w32 (v16 + x2.2.2.2.2.1))) 5 (w32 (v17 + x2.2.2.2.2.2.1))) 6 (w32 (v18 + x2.2.2.2.2.2.2.1))) 7 (w32 (v19 + x2.2.2.2.2.2.2.2))).l] (by kernel_rfl) ⟨(by omega), (at_map hv12), (by omega), (at_map hv13), (by omega), (at_map hv14), (by omega), (at_map hv15), (by omega), (at_map hv16), (by omega), (at_map hv17), (by omega), (at_map hv18), (by omega), (at_map hv19), (by omega), (at_map hv12), (at_map hv12), set_map, (by omega), (at_map hv22), (at_map hv22), set_map, (by omega), (at_map hv23), (at_map hv23), set_map, (by omega), (at_map hv24), (at_map hv24), set_map, (by omega), (at_map hv25), (at_map hv25), set_map, (by omega), (at_map hv26), (at_map hv26), set_map, (by omega), (at_map hv27), (at_map hv27), set_map, (by omega), (at_map hv28), (at_map hv28), set_map, trivial⟩ ?_
            refine Blk_norm ?_
            refine Nxt_norm ?_
            refine Ab.regT hE hC hL [] { keep := [2, 3, 4, 5, 7], ren := [(49000, 49000), (49001, 49001), (49002, 49002), (49003, 49003)] } ⟨[(2, (.ref 49000 [] (0))), (3, (.ref 49001 [] (0))), (4, (.ref 49002 [] (0))), (5, (.own 49003)), (7, (.t (.int .i64 (wi (a9 + (64:Int))))))], [(49000, (.var false 23 (.t ((eA 1 (T.int .u8)) (Arr.rep 32 (0:Int)))))), (49001, (.var false 65 (.t ((eA 1 (T.int .u32)) (Arr.set (Arr.set (Arr.set (Arr.set (Arr.set (Arr.set (Arr.set (Arr.set a8 0 (w32 (v12 + x2.1))) 1 (w32 (v13 + x2.2.1))) 2 (w32 (v14 + x2.2.2.1))) 3 (w32 (v15 + x2.2.2.2.1))) 4 (w32 (v16 + x2.2.2.2.2.1))) 5 (w32 (v17 + x2.2.2.2.2.2.1))) 6 (w32 (v18 + x2.2.2.2.2.2.2.1))) 7 (w32 (v19 + x2.2.2.2.2.2.2.2))))))), (49002, (.var false 69 (.t ((eA 1 (T.int .u32)) r0)))), (49003, (.row false 5 1 (List.map (T.int .u8) x0)))]⟩ [] (by kernel_rfl) trivial ?_
            exact LK_norm ((Arr.set (Arr.set (Arr.set (Arr.set (Arr.set (Arr.set (Arr.set (Arr.set a8 0 (w32 (v12 + x2.1))) 1 (w32 (v13 + x2.2.1))) 2 (w32 (v14 + x2.2.2.1))) 3 (w32 (v15 + x2.2.2.2.1))) 4 (w32 (v16 + x2.2.2.2.2.1))) 5 (w32 (v17 + x2.2.2.2.2.2.1))) 6 (w32 (v18 + x2.2.2.2.2.2.2.1))) 7 (w32 (v19 + x2.2.2.2.2.2.2.2))), (wi (a9 + (64:Int)))) { fs := [], keep := [2, 3, 4, 5, 7], ren := [(49000, 49000), (49001, 49001), (49002, 49002), (49003, 49003)] } h (by kernel_rfl)
      · replace h := cond_f hb1 h
        refine Ab.exit ?_
        refine Nxt_exit ?_
        exact LK_exit a8 h (PX_mk { fs := [], keep := [2, 3], ren := [(49000, 49000), (49001, 49001)] } (by kernel_rfl))
    · refine Nxt_norm ?_
      refine Ab.seq ?_
      refine Ab.regT hE hC hL [] { keep := [2, 3, 24], ren := [(24, 24), (49000, 49000), (49001, 49001)] } ⟨[(2, (.ref 49000 [] (0))), (3, (.ref 49001 [] (0))), (24, (.ref 24 [] (0)))], [(24, (.var false 23 (.t ((eA 1 (T.int .u8)) (Arr.rep 32 (0:Int)))))), (49000, (.var false 23 (.t ((eA 1 (T.int .u8)) (Arr.rep 32 (0:Int)))))), (49001, (.var false 65 (.t ((eA 1 (T.int .u32)) x3))))]⟩ [] (by kernel_rfl) trivial ?_
      refine Nxt_norm ?_
      refine Ab.seq ?_
      refine Ab.seq ?_
      refine Ab.regT hE hC hL [] { keep := [2, 3, 24, 25], ren := [(24, 24), (49000, 49000), (49001, 49001)] } ⟨[(2, (.ref 49000 [] (0))), (3, (.ref 49001 [] (0))), (24, (.ref 24 [] (0))), (25, (.t (.int .i64 (0:Int))))], [(24, (.var false 23 (.t ((eA 1 (T.int .u8)) (Arr.rep 32 (0:Int)))))), (49000, (.var false 23 (.t ((eA 1 (T.int .u8)) (Arr.rep 32 (0:Int)))))), (49001, (.var false 65 (.t ((eA 1 (T.int .u32)) x3))))]⟩ [] (by kernel_rfl) trivial ?_
      refine Nxt_norm ?_
      obtain ⟨x4, hx4, h⟩ := bind_some h
      refine Ab.loopX0 (fun ((a69, a70) : ((Arr 32 Int) × Int)) => (⟨[(2, (.ref 49000 [] (0))), (3, (.ref 49001 [] (0))), (24, (.ref 49002 [] (0))), (25, (.t (.int .i64 a70)))], [(49000, (.var false 23 (.t ((eA 1 (T.int .u8)) (Arr.rep 32 (0:Int)))))), (49001, (.var false 65 (.t ((eA 1 (T.int .u32)) x3)))), (49002, (.var false 23 (.t ((eA 1 (T.int .u8)) a69))))]⟩ : St)) (fun (a71 : (Arr 32 Int)) => (⟨[(2, (.ref 49000 [] (0))), (24, (.ref 49001 [] (0)))], [(49000, (.var false 23 (.t ((eA 1 (T.int .u8)) (Arr.rep 32 (0:Int)))))), (49001, (.var false 23 (.t ((eA 1 (T.int .u8)) a71))))]⟩ : St)) { fs := [], keep := [2, 3, 24, 25], ren := [(49000, 49000), (49001, 49001), (24, 49002)] } ((Arr.rep 32 (0:Int)), (0:Int)) hC hL hx4 (by kernel_rfl) ?_ ?_
      · rintro ⟨a69, a70⟩ o4 h
        replace h : f_ref02_Of_b4 n x3 a69 a70 = some o4 := h
        unfold f_ref02_Of_b4 at h
        refine Ab.seq ?_
        refine Ab.seq ?_
        refine Ab.regT hE hC hL [] { keep := [2, 3, 24, 25, 267], ren := [(49000, 49000), (49001, 49001), (49002, 49002)] } ⟨[(2, (.ref 49000 [] (0))), (3, (.ref 49001 [] (0))), (24, (.ref 49002 [] (0))), (25, (.t (.int .i64 a70))), (267, (.t (.bool (decide (a70 < (32:Int))))))], [(49000, (.var false 23 (.t ((eA 1 (T.int .u8)) (Arr.rep 32 (0:Int)))))), (49001, (.var false 65 (.t ((eA 1 (T.int .u32)) x3)))), (49002, (.var false 23 (.t ((eA 1 (T.int .u8)) a69))))]⟩ [] (by kernel_rfl) trivial ?_
        refine Nxt_norm ?_
        refine Ab.cond (b := (decide (a70 < (32:Int)))) (by kernel_rfl) (fun hb5 => ?_) (fun hb5 => ?_)
        · replace h := cond_t hb5 h
          refine Ab.skip ?_
          refine Nxt_norm ?_
          refine Ab.seq ?_
          refine Ab.block ?_
          obtain ⟨hq25, h⟩ := ask_dec h
          obtain ⟨hq26, h⟩ := ask_dec h
          obtain ⟨v29, hv29, h⟩ := bind_some h
          obtain ⟨hq27, h⟩ := ask_dec h
          obtain ⟨hq28, h⟩ := ask_dec h
          obtain ⟨v30, hv30, h⟩ := bind_some h
          refine Ab.regT hE hC hL [[], [], [], [.c], [.t (.int .u32 v29)], [], [], [], [], [.c], [], [.c], [.t (.int .u8 v30), .l (List.map (T.int .u8) (Arr.set a69 (a70.toNat) (w8 (shr .u32 v29 (wi ((24:Int) - (wi ((8:Int) * (a70.tmod (4:Int))))))))).l)]] { keep := [2, 3, 24, 25], ren := [(49000, 49000), (49001, 49001), (49002, 49002)] } ⟨[(2, (.ref 49000 [] (0))), (3, (.ref 49001 [] (0))), (24, (.ref 49002 [] (0))), (25, (.t (.int .i64 a70)))], [(49000, (.var false 23 (.t ((eA 1 (T.int .u8)) (Arr.rep 32 (0:Int)))))), (49001, (.var false 65 (.t ((eA 1 (T.int .u32)) x3)))), (49002, (.var false 23 (.t ((eA 1 (T.int .u8)) (Arr.set a69 (a70.toNat) (w8 (shr .u32 v29 (wi ((24:Int) - (wi ((8:Int) * (a70.tmod (4:Int)))))))))))))]⟩ [0 ≤ (wi (a70.tdiv (4:Int))), (wi (a70.tdiv (4:Int))) < ((8 : Nat) : Int), (wi (a70.tdiv (4:Int))).toNat * 1 + 0 = 0 + (wi (a70.tdiv (4:Int))).toNat * 1, (List.map (T.int .u32) x3.l)[(wi (a70.tdiv (4:Int))).toNat]? = some (.int .u32 v29), ¬ (wi ((24:Int) - (wi ((8:Int) * (a70.tmod (4:Int)))))) < 0, 0 ≤ a70, a70 < ((32 : Nat) : Int), a70.toNat * 1 + 0 = 0 + a70.toNat * 1, (List.map (T.int .u8) a69.l)[a70.toNat]? = some (.int .u8 v30), (List.map (T.int .u8) a69.l)[a70.toNat]? = some (.int .u8 v30), (List.map (T.int .u8) a69.l).set a70.toNat (.int .u8 (w8 (shr .u32 v29 (wi ((24:Int) - (wi ((8:Int) * (a70.tmod (4:Int))))))))) = List.map (T.int .u8) (Arr.set a69 (a70.toNat) (w8 (shr .u32 v29 (wi ((24:Int) - (wi ((8:Int) * (a70.tmod (4:Int))))))))).l] (by kernel_rfl) ⟨hq25, hq26, (by omega), (at_map hv29), (Int.not_lt.2 hq27), hq28, (of_decide_eq_true hb5), (by omega), (at_map hv30), (at_map hv30), set_map, trivial⟩ ?_
          refine Blk_norm ?_
          refine Nxt_norm ?_
          refine Ab.regT hE hC hL [] { keep := [2, 3, 24, 25], ren := [(49000, 49000), (49001, 49001), (49002, 49002)] } ⟨[(2, (.ref 49000 [] (0))), (3, (.ref 49001 [] (0))), (24, (.ref 49002 [] (0))), (25, (.t (.int .i64 (wi (a70 + (1:Int))))))], [(49000, (.var false 23 (.t ((eA 1 (T.int .u8)) (Arr.rep 32 (0:Int)))))), (49001, (.var false 65 (.t ((eA 1 (T.int .u32)) x3)))), (49002, (.var false 23 (.t ((eA 1 (T.int .u8)) (Arr.set a69 (a70.toNat) (w8 (shr .u32 v29 (wi ((24:Int) - (wi ((8:Int) * (a70.tmod (4:Int)))))))))))))]⟩ [] (by kernel_rfl) trivial ?_
          exact LK_norm ((Arr.set a69 (a70.toNat) (w8 (shr .u32 v29 (wi ((24:Int) - (wi ((8:Int) * (a70.tmod (4:Int))))))))), (wi (a70 + (1:Int)))) { fs := [], keep := [2, 3, 24, 25], ren := [(49000, 49000), (49001, 49001), (49002, 49002)] } h (by kernel_rfl)
        · replace h := cond_f hb5 h
          refine Ab.exit ?_
          refine Nxt_exit ?_
          exact LK_exit a69 h (PX_mk { fs := [], keep := [2, 24], ren := [(49000, 49000), (49002, 49001)] } (by kernel_rfl))
      · refine Nxt_norm ?_
        refine Ab.seq ?_
        refine Ab.regT hE hC hL [] { keep := [2], ren := [(49000, 49000)] } ⟨[(2, (.ref 49000 [] (0)))], [(49000, (.var false 23 (.t ((eA 1 (T.int .u8)) x4))))]⟩ [] (by kernel_rfl) trivial ?_
        refine Nxt_norm ?_
        refine Ab.ret ?_
        obtain rfl := Option.some.inj h
        exact End_ret (doneO_ok (md := [false]) (by kernel_rfl))
def ea_ref07_digest (a : (Arr 32 Int) × (List Int)) : List T := [(eA 1 (T.int .u8)) a.1, (eS 1 (T.int .u8)) a.2]
def er_ref07_digest (r : (Arr 32 Int)) : List RR × List T := ([.tree ((eA 1 (T.int .u8)) r)], [])
noncomputable def sp_ref07_digest (n : Nat) : Spec := specP [] true ea_ref07_digest (fun a => f_ref07_digest n a.1 a.2) (fun _ r => er_ref07_digest r)
theorem ap_ref07_digest (n : Nat) {ts : List T} {a0 : (Arr 32 Int)} {a1 : (List Int)} {r : (Arr 32 Int)} (hle : leTs ts [(eA 1 (T.int .u8)) a0, (eS 1 (T.int .u8)) a1]) (h : f_ref07_digest n a0 a1 = some r) : (sp_ref07_digest n).fn ts = some ([.tree ((eA 1 (T.int .u8)) r)], []) :=
  specP_fn (a := (a0, a1)) (InjA.cons (inj_eA (inj_int _)) (InjA.one (inj_eS (inj_int _)))) hle h
noncomputable def E_ref07_digest (n : Nat) : Env := { ty := tyT, glob := glob, fns := get [(20, sp_ref02_Of n)], ntmps := 11 }
theorem eok_ref07_digest (n : Nat) : EnvOK Tryd.prog (E_ref07_digest n) := ⟨tys_ok tys_chk, prog_mixed, (fns_cons (ok_ref02_Of n) fns_nil)⟩
def K_ref07_digest (n : Nat) (pseed0 : (Arr 32 Int)) (pmore0 : (List Int)) (r : (Arr 32 Int)) : St → Prop := Done (E_ref07_digest n) Tryd.f13.results.toList [] (ea_ref07_digest (pseed0, pmore0)) (er_ref07_digest r).1 (er_ref07_digest r).2
set_option maxRecDepth 100000 in
set_option maxHeartbeats 4000000 in
theorem ok_ref07_digest (n : Nat) : SpecOK Tryd.prog glob 13 (sp_ref07_digest n) := by
  refine specP_ok (fn := Tryd.f13) (eok_ref07_digest n) (by kernel_rfl) rfl (by decide +kernel) (by kernel_rfl) (fun _ => by show 2 ≤ 11; omega) (fun _ _ r => ⟨(rrf_tree ((flat_eA (fun _ => rfl)) _) rrf_nil), flats_nil⟩) ?_
  rintro ⟨pseed0, pmore0⟩ r h C hL hC
  have hE := eok_ref07_digest n
  replace hL : ∀ n g, (n, g) ∈ C.lent → n ∈ ([] : List Nat) := hL
  replace h : f_ref07_digest n pseed0 pmore0 = some r := h
  show Ab _ _ _ _ _ (End (K_ref07_digest n pseed0 pmore0 r))
  unfold f_ref07_digest at h
  refine Ab.seq ?_
  refine Ab.regT hE hC hL [] { keep := [1, 2, 4], ren := [(2, 2), (4, 4)] } ⟨[(1, (.t ((eS 1 (T.int .u8)) pmore0))), (2, (.ref 2 [] (0))), (4, (.ref 4 [] (0)))], [(2, (.var false 24 (.t ((eA 1 (T.int .u8)) pseed0)))), (4, (.var false 23 (.t ((eA 1 (T.int .u8)) (Arr.rep 32 (0:Int))))))]⟩ [] (by kernel_rfl) trivial ?_
  refine Nxt_norm ?_
  refine Ab.seq ?_
  obtain ⟨hq0, h⟩ := ask_dec h
  obtain ⟨hq1, h⟩ := ask_dec h
  obtain ⟨r0, hr0, h⟩ := bind_some h
  refine Ab.regT hE hC hL [[], [], [.l (List.map (T.int .u8) (([] : List Int) ++ pseed0.l))], [], [.l (List.map (T.int .u8) ((([] : List Int) ++ pseed0.l) ++ pmore0))], [.r [.tree ((eA 1 (T.int .u8)) r0)] []]] { keep := [4], ren := [(4, 4)] } ⟨[(4, (.ref 4 [] (0)))], [(4, (.var false 23 (.t ((eA 1 (T.int .u8)) r0))))]⟩ [(List.length (List.map (T.int .u8) ([] : List Int)) + List.length (List.take 32 (List.drop 0 (List.map (T.int .u8) pseed0.l)))) * 1 ≤ maxBytes, List.length (List.map (T.int .u8) ([] : List Int)) + List.length (List.take 32 (List.drop 0 (List.map (T.int .u8) pseed0.l))) ≤ maxBytes, (List.map (T.int .u8) ([] : List Int)) ++ (List.take 32 (List.drop 0 (List.map (T.int .u8) pseed0.l))) = List.map (T.int .u8) (([] : List Int) ++ pseed0.l), 0 + 32 ≤ List.length (List.map (T.int .u8) pseed0.l), 0 = 0 + 0 * 1, (List.length (List.map (T.int .u8) (([] : List Int) ++ pseed0.l)) + List.length (List.map (T.int .u8) pmore0)) * 1 ≤ maxBytes, List.length (List.map (T.int .u8) (([] : List Int) ++ pseed0.l)) + List.length (List.map (T.int .u8) pmore0) ≤ maxBytes, (List.map (T.int .u8) (([] : List Int) ++ pseed0.l)) ++ (List.map (T.int .u8) pmore0) = List.map (T.int .u8) ((([] : List Int) ++ pseed0.l) ++ pmore0), (sp_ref02_Of n).fn [(.slc 1 (List.map (T.int .u8) ((([] : List Int) ++ pseed0.l) ++ pmore0)))] = some ([.tree ((eA 1 (T.int .u8)) r0)], [])] (by kernel_rfl) ⟨(app_b rfl (win_all pseed0) hq0), (app_c rfl (win_all pseed0) (by decide) hq0), (app_of rfl (win_all pseed0)), (by simp only [List.length_map, List.length_take, List.length_drop, List.length_set, List.length_append, Arr.h]; omega), (by omega), (app_b rfl rfl hq1), (app_c rfl rfl (by decide) hq1), (app_of rfl rfl), (ap_ref02_Of n (by exact ⟨leT.refl _, trivial⟩) hr0), trivial⟩ ?_
  refine Nxt_norm ?_
  refine Ab.ret ?_
  obtain rfl := Option.some.inj h
  exact End_ret (doneO_ok (md := [false]) (by kernel_rfl))
def ea_ref01_Take (a : (List Int)) : List T := [(eS 1 (T.int .u8)) a]
def er_ref01_Take (r : Int) : List RR × List T := ([.tree ((T.int .u64) r)], [])
noncomputable def sp_ref01_Take (n : Nat) : Spec := specP [] true ea_ref01_Take (fun a => f_ref01_Take n a) (fun _ r => er_ref01_Take r)
theorem ap_ref01_Take (n : Nat) {ts : List T} {a0 : (List Int)} {r : Int} (hle : leTs ts [(eS 1 (T.int .u8)) a0]) (h : f_ref01_Take n a0 = some r) : (sp_ref01_Take n).fn ts = some ([.tree ((T.int .u64) r)], []) :=
  specP_fn (a := a0) (InjA.one (inj_eS (inj_int _))) hle h
noncomputable def E_ref01_Take (n : Nat) : Env := { ty := tyT, glob := glob, fns := get [], ntmps := 23 }
theorem eok_ref01_Take (n : Nat) : EnvOK Tryd.prog (E_ref01_Take n) := ⟨tys_ok tys_chk, prog_mixed, fns_nil⟩
def K_ref01_Take (n : Nat) (pb0 : (List Int)) (r : Int) : St → Prop := Done (E_ref01_Take n) Tryd.f14.results.toList [] (ea_ref01_Take pb0) (er_ref01_Take r).1 (er_ref01_Take r).2
set_option maxRecDepth 100000 in
set_option maxHeartbeats 4000000 in
theorem ok_ref01_Take (n : Nat) : SpecOK Tryd.prog glob 14 (sp_ref01_Take n) := by
  refine specP_ok (fn := Tryd.f14) (eok_ref01_Take n) (by kernel_rfl) rfl (by decide +kernel) (by kernel_rfl) (fun _ => by show 1 ≤ 23; omega) (fun _ _ r => ⟨(rrf_tree ((fun _ => rfl) _) rrf_nil), flats_nil⟩) ?_
  rintro pb0 r h C hL hC
  have hE := eok_ref01_Take n
  replace hL : ∀ n g, (n, g) ∈ C.lent → n ∈ ([] : List Nat) := hL
  replace h : f_ref01_Take n pb0 = some r := h
  show Ab _ _ _ _ _ (End (K_ref01_Take n pb0 r))
  unfold f_ref01_Take at h
  refine Ab.seq ?_
  refine Ab.regT hE hC hL [] { keep := [0], ren := [] } ⟨[(0, (.t ((eS 1 (T.int .u8)) pb0)))], []⟩ [] (by kernel_rfl) trivial ?_
  refine Nxt_norm ?_
  refine Ab.seq ?_
  refine Ab.regT hE hC hL [] { keep := [0, 3], ren := [] } ⟨[(0, (.t ((eS 1 (T.int .u8)) pb0))), (3, (.t (.int .u64 (0:Int))))], []⟩ [] (by kernel_rfl) trivial ?_
  refine Nxt_norm ?_
  refine Ab.seq ?_
  refine Ab.seq ?_
  refine Ab.regT hE hC hL [[], [.n (pb0.length : Int)]] { keep := [0, 3, 4], ren := [] } ⟨[(0, (.t ((eS 1 (T.int .u8)) pb0))), (3, (.t (.int .u64 (0:Int)))), (4, (.t (.int .i64 (wi ((pb0.length : Int) - (1:Int))))))], []⟩ [((List.length (List.map (T.int .u8) pb0) : Nat) : Int) = (pb0.length : Int)] (by kernel_rfl) ⟨(len_of rfl), trivial⟩ ?_
  refine Nxt_norm ?_
  obtain ⟨x0, hx0, h⟩ := bind_some h
  refine Ab.loopX0 (fun ((a0, a1) : (Int × Int)) => (⟨[(0, (.t ((eS 1 (T.int .u8)) pb0))), (3, (.t (.int .u64 a0))), (4, (.t (.int .i64 a1)))], []⟩ : St)) (fun (a2 : Int) => (⟨[(3, (.t (.int .u64 a2)))], []⟩ : St)) { fs := [], keep := [0, 3, 4], ren := [] } ((0:Int), (wi ((pb0.length : Int) - (1:Int)))) hC hL hx0 (by kernel_rfl) ?_ ?_
  · rintro ⟨a0, a1⟩ o0 h
    replace h : f_ref01_Take_b0 n pb0 a0 a1 = some o0 := h
    unfold f_ref01_Take_b0 at h
    refine Ab.seq ?_
    refine Ab.seq ?_
    refine Ab.regT hE hC hL [] { keep := [0, 3, 4, 9], ren := [] } ⟨[(0, (.t ((eS 1 (T.int .u8)) pb0))), (3, (.t (.int .u64 a0))), (4, (.t (.int .i64 a1))), (9, (.t (.bool (decide (a1 ≥ (0:Int))))))], []⟩ [] (by kernel_rfl) trivial ?_
    refine Nxt_norm ?_
    refine Ab.cond (b := (decide (a1 ≥ (0:Int)))) (by kernel_rfl) (fun hb0 => ?_) (fun hb0 => ?_)
    · replace h := cond_t hb0 h
      refine Ab.skip ?_
      refine Nxt_norm ?_
      refine Ab.seq ?_
      refine Ab.block ?_
      refine Ab.seq ?_
      refine Ab.regT hE hC hL [] { keep := [0, 3, 4, 13], ren := [] } ⟨[(0, (.t ((eS 1 (T.int .u8)) pb0))), (3, (.t (.int .u64 a0))), (4, (.t (.int .i64 a1))), (13, (.t (.bool (decide (a1 < (8:Int))))))], []⟩ [] (by kernel_rfl) trivial ?_
      refine Nxt_norm ?_
      refine Ab.cond (b := (decide (a1 < (8:Int)))) (by kernel_rfl) (fun hb1 => ?_) (fun hb1 => ?_)
      · replace h := cond_t hb1 h
        obtain ⟨hq0, h⟩ := ask_dec h
        obtain ⟨v0, hv0, h⟩ := bind_some h
        refine Ab.regT hE hC hL [[], [], [], [], [.t (.int .u8 v0)]] { keep := [0, 3, 4], ren := [] } ⟨[(0, (.t ((eS 1 (T.int .u8)) pb0))), (3, (.t (.int .u64 (w64 ((w64 (a0 * (256:Int))) + (w64 v0)))))), (4, (.t (.int .i64 a1)))], []⟩ [0 ≤ a1, (List.map (T.int .u8) pb0)[a1.toNat]? = some (.int .u8 v0)] (by kernel_rfl) ⟨hq0, (at_map hv0), trivial⟩ ?_
        refine Blk_norm ?_
        refine Nxt_norm ?_
        refine Ab.regT hE hC hL [] { keep := [0, 3, 4], ren := [] } ⟨[(0, (.t ((eS 1 (T.int .u8)) pb0))), (3, (.t (.int .u64 (w64 ((w64 (a0 * (256:Int))) + (w64 v0)))))), (4, (.t (.int .i64 (wi (a1 - (1:Int))))))], []⟩ [] (by kernel_rfl) trivial ?_
        exact LK_norm ((w64 ((w64 (a0 * (256:Int))) + (w64 v0))), (wi (a1 - (1:Int)))) { fs := [], keep := [0, 3, 4], ren := [] } h (by kernel_rfl)
      · replace h := cond_f hb1 h
        refine Ab.skip ?_
        refine Blk_norm ?_
        refine Nxt_norm ?_
        refine Ab.regT hE hC hL [] { keep := [0, 3, 4], ren := [] } ⟨[(0, (.t ((eS 1 (T.int .u8)) pb0))), (3, (.t (.int .u64 a0))), (4, (.t (.int .i64 (wi (a1 - (1:Int))))))], []⟩ [] (by kernel_rfl) trivial ?_
        exact LK_norm (a0, (wi (a1 - (1:Int)))) { fs := [], keep := [0, 3, 4], ren := [] } h (by kernel_rfl)
    · replace h := cond_f hb0 h
      refine Ab.exit ?_
      refine Nxt_exit ?_
      exact LK_exit a0 h (PX_mk { fs := [], keep := [3], ren := [] } (by kernel_rfl))
  · refine Nxt_norm ?_
    refine Ab.seq ?_
    refine Ab.regT hE hC hL [] { keep := [2], ren := [] } ⟨[(2, (.t (.int .u64 x0)))], []⟩ [] (by kernel_rfl) trivial ?_
    refine Nxt_norm ?_
    refine Ab.ret ?_
    obtain rfl := Option.some.inj h
    exact End_ret (doneO_ok (md := [false]) (by kernel_rfl))
def ea_ref01_Max (a : Int × Int) : List T := [(T.int .u64) a.1, (T.int .u64) a.2]
def er_ref01_Max (r : Int) : List RR × List T := ([.tree ((T.int .u64) r)], [])
noncomputable def sp_ref01_Max (n : Nat) : Spec := specP [] true ea_ref01_Max (fun a => f_ref01_Max n a.1 a.2) (fun _ r => er_ref01_Max r)
theorem ap_ref01_Max (n : Nat) {ts : List T} {a0 : Int} {a1 : Int} {r : Int} (hle : leTs ts [(T.int .u64) a0, (T.int .u64) a1]) (h : f_ref01_Max n a0 a1 = some r) : (sp_ref01_Max n).fn ts = some ([.tree ((T.int .u64) r)], []) :=
  specP_fn (a := (a0, a1)) (InjA.cons (inj_int _) (InjA.one (inj_int _))) hle h
noncomputable def E_ref01_Max (n : Nat) : Env := { ty := tyT, glob := glob, fns := get [], ntmps := 10 }
theorem eok_ref01_Max (n : Nat) : EnvOK Tryd.prog (E_ref01_Max n) := ⟨tys_ok tys_chk, prog_mixed, fns_nil⟩
def K_ref01_Max (n : Nat) (pa0 : Int) (pb0 : Int) (r : Int) : St → Prop := Done (E_ref01_Max n) Tryd.f15.results.toList [] (ea_ref01_Max (pa0, pb0)) (er_ref01_Max r).1 (er_ref01_Max r).2
set_option maxRecDepth 100000 in
set_option maxHeartbeats 4000000 in
theorem ok_ref01_Max (n : Nat) : SpecOK Tryd.prog glob 15 (sp_ref01_Max n) := by
  refine specP_ok (fn := Tryd.f15) (eok_ref01_Max n) (by kernel_rfl) rfl (by decide +kernel) (by kernel_rfl) (fun _ => by show 2 ≤ 10; omega) (fun _ _ r => ⟨(rrf_tree ((fun _ => rfl) _) rrf_nil), flats_nil⟩) ?_
  rintro ⟨pa0, pb0⟩ r h C hL hC
  have hE := eok_ref01_Max n
  replace hL : ∀ n g, (n, g) ∈ C.lent → n ∈ ([] : List Nat) := hL
  replace h : f_ref01_Max n pa0 pb0 = some r := h
  show Ab _ _ _ _ _ (End (K_ref01_Max n pa0 pb0 r))
  unfold f_ref01_Max at h
  refine Ab.seq ?_
  refine Ab.regT hE hC hL [] { keep := [0, 1], ren := [] } ⟨[(0, (.t (.int .u64 pa0))), (1, (.t (.int .u64 pb0)))], []⟩ [] (by kernel_rfl) trivial ?_
  refine Nxt_norm ?_
  refine Ab.seq ?_
  refine Ab.seq ?_
  refine Ab.regT hE hC hL [] { keep := [0, 1, 7], ren := [] } ⟨[(0, (.t (.int .u64 pa0))), (1, (.t (.int .u64 pb0))), (7, (.t (.bool (decide (pa0 > pb0)))))], []⟩ [] (by kernel_rfl) trivial ?_
  refine Nxt_norm ?_
  refine Ab.cond (b := (decide (pa0 > pb0))) (by kernel_rfl) (fun hb0 => ?_) (fun hb0 => ?_)
  · replace h := cond_t hb0 h
    refine Ab.seq ?_
    refine Ab.regT hE hC hL [] { keep := [4], ren := [] } ⟨[(4, (.t (.int .u64 pa0)))], []⟩ [] (by kernel_rfl) trivial ?_
    refine Nxt_norm ?_
    refine Ab.ret ?_
    refine Nxt_ret ?_
    obtain rfl := Option.some.inj h
    exact End_ret (doneO_ok (md := [false]) (by kernel_rfl))
  · replace h := cond_f hb0 h
    refine Ab.skip ?_
    refine Nxt_norm ?_
    refine Ab.seq ?_
    refine Ab.regT hE hC hL [] { keep := [4], ren := [] } ⟨[(4, (.t (.int .u64 pb0)))], []⟩ [] (by kernel_rfl) trivial ?_
    refine Nxt_norm ?_
    refine Ab.ret ?_
    obtain rfl := Option.some.inj h
    exact End_ret (doneO_ok (md := [false]) (by kernel_rfl))
def ea_ref01_Put (a : Int × Int) : List T := [(T.int .u64) a.1, (T.int .i64) a.2]
def er_ref01_Put (r : (List Int)) : List RR × List T := ([.row 5 1 (List.map (T.int .u8) r)], [])
noncomputable def sp_ref01_Put (n : Nat) : Spec := specP [] false ea_ref01_Put (fun a => f_ref01_Put n a.1 a.2) (fun _ r => er_ref01_Put r)
theorem ap_ref01_Put (n : Nat) {ts : List T} {a0 : Int} {a1 : Int} {r : (List Int)} (hle : leTs ts [(T.int .u64) a0, (T.int .i64) a1]) (h : f_ref01_Put n a0 a1 = some r) : (sp_ref01_Put n).fn ts = some ([.row 5 1 (List.map (T.int .u8) r)], []) :=
  specP_fn (a := (a0, a1)) (InjA.cons (inj_int _) (InjA.one (inj_int _))) hle h
noncomputable def E_ref01_Put (n : Nat) : Env := { ty := tyT, glob := glob, fns := get [], ntmps := 21 }
theorem eok_ref01_Put (n : Nat) : EnvOK Tryd.prog (E_ref01_Put n) := ⟨tys_ok tys_chk, prog_mixed, fns_nil⟩
def K_ref01_Put (n : Nat) (pn0 : Int) (psize0 : Int) (r : (List Int)) : St → Prop := Done (E_ref01_Put n) Tryd.f16.results.toList [] (ea_ref01_Put (pn0, psize0)) (er_ref01_Put r).1 (er_ref01_Put r).2
set_option maxRecDepth 100000 in
set_option maxHeartbeats 4000000 in
theorem ok_ref01_Put (n : Nat) : SpecOK Tryd.prog glob 16 (sp_ref01_Put n) := by
  refine specP_ok (fn := Tryd.f16) (eok_ref01_Put n) (by kernel_rfl) rfl (by decide +kernel) (by kernel_rfl) (fun _ => by show 2 ≤ 21; omega) (fun h => Bool.noConfusion h) ?_
  rintro ⟨pn0, psize0⟩ r h C hL hC
  have hE := eok_ref01_Put n
  replace hL : ∀ n g, (n, g) ∈ C.lent → n ∈ ([] : List Nat) := hL
  replace h : f_ref01_Put n pn0 psize0 = some r := h
  show Ab _ _ _ _ _ (End (K_ref01_Put n pn0 psize0 r))
  unfold f_ref01_Put at h
  refine Ab.seq ?_
  refine Ab.regT hE hC hL [] { keep := [0, 1], ren := [] } ⟨[(0, (.t (.int .u64 pn0))), (1, (.t (.int .i64 psize0)))], []⟩ [] (by kernel_rfl) trivial ?_
  refine Nxt_norm ?_
  refine Ab.seq ?_
  refine Ab.regT hE hC hL [] { keep := [0, 1, 5], ren := [] } ⟨[(0, (.t (.int .u64 pn0))), (1, (.t (.int .i64 psize0))), (5, (.t .nils))], []⟩ [] (by kernel_rfl) trivial ?_
  refine Nxt_norm ?_
  refine Ab.seq ?_
  refine Ab.seq ?_
  refine Ab.regT hE hC hL [] { keep := [0, 1, 5, 6], ren := [] } ⟨[(0, (.t (.int .u64 pn0))), (1, (.t (.int .i64 psize0))), (5, (.t .nils)), (6, (.t (.int .i64 (0:Int))))], []⟩ [] (by kernel_rfl) trivial ?_
  refine Nxt_norm ?_
  obtain ⟨x0, hx0, h⟩ := bind_some h
  refine Ab.loopX0 (fun ((a0, a1, a2) : (Int × (List Int) × Int)) => (⟨[(0, (.t (.int .u64 a0))), (1, (.t (.int .i64 psize0))), (5, (.own 49000)), (6, (.t (.int .i64 a2)))], [(49000, (.row false 5 1 (List.map (T.int .u8) a1)))]⟩ : St)) (fun (a3 : (List Int)) => (⟨[(5, (.own 49000))], [(49000, (.row false 5 1 (List.map (T.int .u8) a3)))]⟩ : St)) { fs := [⟨(.t 5), [], .own 48000 5 1⟩], keep := [0, 1, 5, 6], ren := [(48000, 49000)] } (pn0, ([] : List Int), (0:Int)) hC hL hx0 (by kernel_rfl) ?_ ?_
  · rintro ⟨a0, a1, a2⟩ o0 h
    replace h : f_ref01_Put_b0 n psize0 a0 a1 a2 = some o0 := h
    unfold f_ref01_Put_b0 at h
    refine Ab.seq ?_
    refine Ab.seq ?_
    refine Ab.regT hE hC hL [] { keep := [0, 1, 5, 6, 9], ren := [(49000, 49000)] } ⟨[(0, (.t (.int .u64 a0))), (1, (.t (.int .i64 psize0))), (5, (.own 49000)), (6, (.t (.int .i64 a2))), (9, (.t (.bool (decide (a2 < psize0)))))], [(49000, (.row false 5 1 (List.map (T.int .u8) a1)))]⟩ [] (by kernel_rfl) trivial ?_
    refine Nxt_norm ?_
    refine Ab.cond (b := (decide (a2 < psize0))) (by kernel_rfl) (fun hb0 => ?_) (fun hb0 => ?_)
    · replace h := cond_t hb0 h
      refine Ab.skip ?_
      refine Nxt_norm ?_
      refine Ab.seq ?_
      refine Ab.block ?_
      refine Ab.seq ?_
      obtain ⟨hq0, h⟩ := ask_dec h
      refine Ab.regT hE hC hL [[], [], [], [], [], [.l (List.map (T.int .u8) (a1 ++ ([(w8 (a0.tmod (256:Int)))] : List Int)))]] { keep := [0, 1, 5, 6], ren := [(17, 17)] } ⟨[(0, (.t (.int .u64 a0))), (1, (.t (.int .i64 psize0))), (5, (.own 17)), (6, (.t (.int .i64 a2)))], [(17, (.row false 5 1 (List.map (T.int .u8) (a1 ++ ([(w8 (a0.tmod (256:Int)))] : List Int)))))]⟩ [(List.length (List.map (T.int .u8) a1) + List.length (List.map (T.int .u8) ([(w8 (a0.tmod (256:Int)))] : List Int))) * 1 ≤ maxBytes, List.length (List.map (T.int .u8) a1) + List.length (List.map (T.int .u8) ([(w8 (a0.tmod (256:Int)))] : List Int)) ≤ maxBytes, (List.map (T.int .u8) a1) ++ (List.map (T.int .u8) ([(w8 (a0.tmod (256:Int)))] : List Int)) = List.map (T.int .u8) (a1 ++ ([(w8 (a0.tmod (256:Int)))] : List Int))] (by kernel_rfl) ⟨(app_b rfl rfl hq0), (app_c rfl rfl (by decide) hq0), (app_of rfl rfl), trivial⟩ ?_
      refine Nxt_norm ?_
      refine Ab.regT hE hC hL [] { keep := [0, 1, 5, 6], ren := [(17, 17)] } ⟨[(0, (.t (.int .u64 (w64 (a0.tdiv (256:Int)))))), (1, (.t (.int .i64 psize0))), (5, (.own 17)), (6, (.t (.int .i64 a2)))], [(17, (.row false 5 1 (List.map (T.int .u8) (a1 ++ ([(w8 (a0.tmod (256:Int)))] : List Int)))))]⟩ [] (by kernel_rfl) trivial ?_
      refine Blk_norm ?_
      refine Nxt_norm ?_
      refine Ab.regT hE hC hL [] { keep := [0, 1, 5, 6], ren := [(17, 17)] } ⟨[(0, (.t (.int .u64 (w64 (a0.tdiv (256:Int)))))), (1, (.t (.int .i64 psize0))), (5, (.own 17)), (6, (.t (.int .i64 (wi (a2 + (1:Int))))))], [(17, (.row false 5 1 (List.map (T.int .u8) (a1 ++ ([(w8 (a0.tmod (256:Int)))] : List Int)))))]⟩ [] (by kernel_rfl) trivial ?_
      exact LK_norm ((w64 (a0.tdiv (256:Int))), (a1 ++ ([(w8 (a0.tmod (256:Int)))] : List Int)), (wi (a2 + (1:Int)))) { fs := [], keep := [0, 1, 5, 6], ren := [(17, 49000)] } h (by kernel_rfl)
    · replace h := cond_f hb0 h
      refine Ab.exit ?_
      refine Nxt_exit ?_
      exact LK_exit a1 h (PX_mk { fs := [], keep := [5], ren := [(49000, 49000)] } (by kernel_rfl))
  · refine Nxt_norm ?_
    refine Ab.seq ?_
    refine Ab.regT hE hC hL [] { keep := [4], ren := [(49000, 49000)] } ⟨[(4, (.own 49000))], [(49000, (.row false 5 1 (List.map (T.int .u8) x0)))]⟩ [] (by kernel_rfl) trivial ?_
    refine Nxt_norm ?_
    refine Ab.ret ?_
    obtain rfl := Option.some.inj h
    exact End_ret (doneO_ok (md := [true]) (by kernel_rfl))
def ea_ref07_Index (a : Int × Int × (Arr 32 Int)) : List T := [(T.int .u64) a.1, (T.int .u64) a.2.1, (eA 1 (T.int .u8)) a.2.2]
def er_ref07_Index (r : (Int × Bool)) : List RR × List T := ([.tree ((T.int .u64) r.1), .tree (T.bool r.2)], [])
noncomputable def sp_ref07_Index (n : Nat) : Spec := specP [] true ea_ref07_Index (fun a => f_ref07_Index n a.1 a.2.1 a.2.2) (fun _ r => er_ref07_Index r)
theorem ap_ref07_Index (n : Nat) {ts : List T} {a0 : Int} {a1 : Int} {a2 : (Arr 32 Int)} {r : (Int × Bool)} (hle : leTs ts [(T.int .u64) a0, (T.int .u64) a1, (eA 1 (T.int .u8)) a2]) (h : f_ref07_Index n a0 a1 a2 = some r) : (sp_ref07_Index n).fn ts = some ([.tree ((T.int .u64) r.1), .tree (T.bool r.2)], []) :=
  specP_fn (a := (a0, a1, a2)) (InjA.cons (inj_int _) (InjA.cons (inj_int _) (InjA.one (inj_eA (inj_int _))))) hle h
noncomputable def E_ref07_Index (n : Nat) : Env := { ty := tyT, glob := glob, fns := get [(13, sp_ref07_digest n), (14, sp_ref01_Take n), (15, sp_ref01_Max n), (16, sp_ref01_Put n)], ntmps := 69 }
theorem eok_ref07_Index (n : Nat) : EnvOK Tryd.prog (E_ref07_Index n) := ⟨tys_ok tys_chk, prog_mixed, (fns_cons (ok_ref07_digest n) (fns_cons (ok_ref01_Take n) (fns_cons (ok_ref01_Max n) (fns_cons (ok_ref01_Put n) fns_nil))))⟩
def K_ref07_Index (n : Nat) (pi0 : Int) (pn0 : Int) (pseed0 : (Arr 32 Int)) (r : (Int × Bool)) : St → Prop := Done (E_ref07_Index n) Tryd.f8.results.toList [] (ea_ref07_Index (pi0, pn0, pseed0)) (er_ref07_Index r).1 (er_ref07_Index r).2
set_option maxRecDepth 100000 in
set_option maxHeartbeats 4000000 in
theorem ok_ref07_Index (n : Nat) : SpecOK Tryd.prog glob 8 (sp_ref07_Index n) := by
  refine specP_ok (fn := Tryd.f8) (eok_ref07_Index n) (by kernel_rfl) rfl (by decide +kernel) (by kernel_rfl) (fun _ => by show 3 ≤ 69; omega) (fun _ _ r => ⟨(rrf_tree ((fun _ => rfl) _) (rrf_tree ((fun _ => rfl) _) rrf_nil)), flats_nil⟩) ?_
  rintro ⟨pi0, pn0, pseed0⟩ r h C hL hC
  have hE := eok_ref07_Index n
  replace hL : ∀ n g, (n, g) ∈ C.lent → n ∈ ([] : List Nat) := hL
  replace h : f_ref07_Index n pi0 pn0 pseed0 = some r := h
  show Ab _ _ _ _ _ (End (K_ref07_Index n pi0 pn0 pseed0 r))
  unfold f_ref07_Index at h
  refine Ab.seq ?_
  refine Ab.regT hE hC hL [] { keep := [0, 1, 5], ren := [(5, 5)] } ⟨[(0, (.t (.int .u64 pi0))), (1, (.t (.int .u64 pn0))), (5, (.ref 5 [] (0)))], [(5, (.var false 24 (.t ((eA 1 (T.int .u8)) pseed0))))]⟩ [] (by kernel_rfl) trivial ?_
  refine Nxt_norm ?_
  refine Ab.seq ?_
  refine Ab.seq ?_
  rcases Bool.eq_false_or_eq_true (pn0 == (0:Int)) with hb0 | hb0
  · replace h := cond_t hb0 h
    refine Ab.regT hE hC hL [[], [], [.b true]] { keep := [0, 1, 5, 24], ren := [(5, 5)] } ⟨[(0, (.t (.int .u64 pi0))), (1, (.t (.int .u64 pn0))), (5, (.ref 5 [] (0))), (24, (.t (.bool true)))], [(5, (.var false 24 (.t ((eA 1 (T.int .u8)) pseed0))))]⟩ [(pn0 == (0:Int)) = true] (by kernel_rfl) ⟨hb0, trivial⟩ ?_
    refine Nxt_norm ?_
    refine Ab.cond (b := true) (by kernel_rfl) (fun _ => ?_) (fun hb => Bool.noConfusion hb)
    refine Ab.seq ?_
    refine Ab.regT hE hC hL [] { keep := [6, 7], ren := [] } ⟨[(6, (.t (.int .u64 (0:Int)))), (7, (.t (.bool false)))], []⟩ [] (by kernel_rfl) trivial ?_
    refine Nxt_norm ?_
    refine Ab.ret ?_
    refine Nxt_ret ?_
    obtain rfl := Option.some.inj h
    exact End_ret (doneO_ok (md := [false, false]) (by kernel_rfl))
  · replace h := cond_f hb0 h
    rcases Bool.eq_false_or_eq_true (decide (pi0 ≥ pn0)) with hb1 | hb1
    · replace h := cond_t hb1 h
      refine Ab.regT hE hC hL [[], [], [.b false], [], [], [], [], [.b true]] { keep := [0, 1, 5, 24], ren := [(5, 5)] } ⟨[(0, (.t (.int .u64 pi0))), (1, (.t (.int .u64 pn0))), (5, (.ref 5 [] (0))), (24, (.t (.bool true)))], [(5, (.var false 24 (.t ((eA 1 (T.int .u8)) pseed0))))]⟩ [(pn0 == (0:Int)) = false, (decide (pi0 ≥ pn0)) = true] (by kernel_rfl) ⟨hb0, hb1, trivial⟩ ?_
      refine Nxt_norm ?_
      refine Ab.cond (b := true) (by kernel_rfl) (fun _ => ?_) (fun hb => Bool.noConfusion hb)
      refine Ab.seq ?_
      refine Ab.regT hE hC hL [] { keep := [6, 7], ren := [] } ⟨[(6, (.t (.int .u64 (0:Int)))), (7, (.t (.bool false)))], []⟩ [] (by kernel_rfl) trivial ?_
      refine Nxt_norm ?_
      refine Ab.ret ?_
      refine Nxt_ret ?_
      obtain rfl := Option.some.inj h
      exact End_ret (doneO_ok (md := [false, false]) (by kernel_rfl))
    · replace h := cond_f hb1 h
      refine Ab.regT hE hC hL [[], [], [.b false], [], [], [], [], [.b false]] { keep := [0, 1, 5, 24], ren := [(5, 5)] } ⟨[(0, (.t (.int .u64 pi0))), (1, (.t (.int .u64 pn0))), (5, (.ref 5 [] (0))), (24, (.t (.bool (decide (pn0 > (1099511627776:Int))))))], [(5, (.var false 24 (.t ((eA 1 (T.int .u8)) pseed0))))]⟩ [(pn0 == (0:Int)) = false, (decide (pi0 ≥ pn0)) = false] (by kernel_rfl) ⟨hb0, hb1, trivial⟩ ?_
      refine Nxt_norm ?_
      refine Ab.cond (b := (decide (pn0 > (1099511627776:Int)))) (by kernel_rfl) (fun hb2 => ?_) (fun hb2 => ?_)
      · replace h := cond_t hb2 h
        refine Ab.seq ?_
        refine Ab.regT hE hC hL [] { keep := [6, 7], ren := [] } ⟨[(6, (.t (.int .u64 (0:Int)))), (7, (.t (.bool false)))], []⟩ [] (by kernel_rfl) trivial ?_
        refine Nxt_norm ?_
        refine Ab.ret ?_
        refine Nxt_ret ?_
        obtain rfl := Option.some.inj h
        exact End_ret (doneO_ok (md := [false, false]) (by kernel_rfl))
      · replace h := cond_f hb2 h
        refine Ab.skip ?_
        refine Nxt_norm ?_
        refine Ab.seq ?_
        refine Ab.seq ?_
        refine Ab.regT hE hC hL [] { keep := [0, 1, 5, 8], ren := [(5, 5)] } ⟨[(0, (.t (.int .u64 pi0))), (1, (.t (.int .u64 pn0))), (5, (.ref 5 [] (0))), (8, (.t (.int .i64 (0:Int))))], [(5, (.var false 24 (.t ((eA 1 (T.int .u8)) pseed0))))]⟩ [] (by kernel_rfl) trivial ?_
        refine Nxt_norm ?_
        obtain ⟨x0, hx0, h⟩ := bind_some h
        refine Ab.loopX0 (fun ((a0, a1) : (Int × Int)) => (⟨[(0, (.t (.int .u64 a0))), (1, (.t (.int .u64 pn0))), (5, (.ref 49000 [] (0))), (8, (.t (.int .i64 a1)))], [(49000, (.var false 24 (.t ((eA 1 (T.int .u8)) pseed0))))]⟩ : St)) (fun (a2 : Int) => (⟨[(0, (.t (.int .u64 a2)))], []⟩ : St)) { fs := [], keep := [0, 1, 5, 8], ren := [(5, 49000)] } (pi0, (0:Int)) hC hL hx0 (by kernel_rfl) ?_ ?_
        · rintro ⟨a0, a1⟩ o0 h
          replace h : f_ref07_Index_b0 n pn0 pseed0 a0 a1 = some o0 := h
          unfold f_ref07_Index_b0 at h
          refine Ab.seq ?_
          refine Ab.seq ?_
          refine Ab.regT hE hC hL [] { keep := [0, 1, 5, 8, 26], ren := [(49000, 49000)] } ⟨[(0, (.t (.int .u64 a0))), (1, (.t (.int .u64 pn0))), (5, (.ref 49000 [] (0))), (8, (.t (.int .i64 a1))), (26, (.t (.bool (decide (a1 < (5:Int))))))], [(49000, (.var false 24 (.t ((eA 1 (T.int .u8)) pseed0))))]⟩ [] (by kernel_rfl) trivial ?_
          refine Nxt_norm ?_
          refine Ab.cond (b := (decide (a1 < (5:Int)))) (by kernel_rfl) (fun hb3 => ?_) (fun hb3 => ?_)
          · replace h := cond_t hb3 h
            refine Ab.skip ?_
            refine Nxt_norm ?_
            refine Ab.seq ?_
            refine Ab.block ?_
            refine Ab.seq ?_
            obtain ⟨r0, hr0, h⟩ := bind_some h
            refine Ab.regT hE hC hL [[], [], [], [], [.r [.tree ((eA 1 (T.int .u8)) r0)] []]] { keep := [0, 1, 5, 8, 9], ren := [(9, 9), (49000, 49000)] } ⟨[(0, (.t (.int .u64 a0))), (1, (.t (.int .u64 pn0))), (5, (.ref 49000 [] (0))), (8, (.t (.int .i64 a1))), (9, (.ref 9 [] (0)))], [(9, (.var false 23 (.t ((eA 1 (T.int .u8)) r0)))), (49000, (.var false 24 (.t ((eA 1 (T.int .u8)) pseed0))))]⟩ [(sp_ref07_digest n).fn [((eA 1 (T.int .u8)) pseed0), (.slc 1 (List.map (T.int .u8) ([(w8 a1)] : List Int)))] = some ([.tree ((eA 1 (T.int .u8)) r0)], [])] (by kernel_rfl) ⟨(ap_ref07_digest n (by exact ⟨leT.refl _, leT.refl _, trivial⟩) hr0), trivial⟩ ?_
            refine Nxt_norm ?_
            refine Ab.seq ?_
            obtain ⟨r1, hr1, h⟩ := bind_some h
            obtain ⟨hq0, h⟩ := ask_dec h
            refine Ab.regT hE hC hL [[], [.r [.tree (.int .u64 r1)] []], [], [.c]] { keep := [0, 1, 5, 8, 10], ren := [(49000, 49000)] } ⟨[(0, (.t (.int .u64 a0))), (1, (.t (.int .u64 pn0))), (5, (.ref 49000 [] (0))), (8, (.t (.int .i64 a1))), (10, (.t (.int .u64 (r1.tmod pn0))))], [(49000, (.var false 24 (.t ((eA 1 (T.int .u8)) pseed0))))]⟩ [(sp_ref01_Take n).fn [(.slc 1 (List.take 8 (List.drop 0 (List.map (T.int .u8) r0.l))))] = some ([.tree (.int .u64 r1)], []), 0 + 8 ≤ List.length (List.map (T.int .u8) r0.l), 0 = 0 + 0 * 1, pn0 ≠ 0] (by kernel_rfl) ⟨(ap_ref01_Take n (by exact ⟨leT_of_eq (congrArg (T.slc _) (win_map rfl _ _)), trivial⟩) hr1), (by simp only [List.length_map, List.length_take, List.length_drop, List.length_set, List.length_append, Arr.h]; omega), (by omega), hq0, trivial⟩ ?_
            refine Nxt_norm ?_
            refine Ab.seq ?_
            refine Ab.regT hE hC hL [[], [], [], [], [], [], [.c]] { keep := [0, 1, 5, 8, 11], ren := [(49000, 49000)] } ⟨[(0, (.t (.int .u64 a0))), (1, (.t (.int .u64 pn0))), (5, (.ref 49000 [] (0))), (8, (.t (.int .i64 a1))), (11, (.t (.int .u64 ((w64 ((w64 ((r1.tmod pn0) + pn0)) - a0)).tmod pn0))))], [(49000, (.var false 24 (.t ((eA 1 (T.int .u8)) pseed0))))]⟩ [pn0 ≠ 0] (by kernel_rfl) ⟨hq0, trivial⟩ ?_
            refine Nxt_norm ?_
            refine Ab.seq ?_
            obtain ⟨r2, hr2, h⟩ := bind_some h
            refine Ab.regT hE hC hL [[], [], [.r [.tree (.int .u64 r2)] []]] { keep := [0, 1, 5, 8, 11, 12], ren := [(49000, 49000)] } ⟨[(0, (.t (.int .u64 a0))), (1, (.t (.int .u64 pn0))), (5, (.ref 49000 [] (0))), (8, (.t (.int .i64 a1))), (11, (.t (.int .u64 ((w64 ((w64 ((r1.tmod pn0) + pn0)) - a0)).tmod pn0)))), (12, (.t (.int .u64 r2)))], [(49000, (.var false 24 (.t ((eA 1 (T.int .u8)) pseed0))))]⟩ [(sp_ref01_Max n).fn [(.int .u64 a0), (.int .u64 ((w64 ((w64 ((r1.tmod pn0) + pn0)) - a0)).tmod pn0))] = some ([.tree (.int .u64 r2)], [])] (by kernel_rfl) ⟨(ap_ref01_Max n (by exact ⟨leT.refl _, leT.refl _, trivial⟩) hr2), trivial⟩ ?_
            refine Nxt_norm ?_
            refine Ab.seq ?_
            obtain ⟨r3, hr3, h⟩ := bind_some h
            obtain ⟨hq1, h⟩ := ask_dec h
            obtain ⟨r4, hr4, h⟩ := bind_some h
            refine Ab.regA hE hC hL [[], [], [], [], [], [], [.r [.row 5 1 (List.map (T.int .u8) r3)] []], [.l (List.map (T.int .u8) (([(w8 a1)] : List Int) ++ r3))], [.r [.tree ((eA 1 (T.int .u8)) r4)] []]] { keep := [0, 1, 5, 8, 11, 12, 13], ren := [(13, 13), (49000, 49000)] } ⟨[(0, (.t (.int .u64 a0))), (1, (.t (.int .u64 pn0))), (5, (.ref 49000 [] (0))), (8, (.t (.int .i64 a1))), (11, (.t (.int .u64 ((w64 ((w64 ((r1.tmod pn0) + pn0)) - a0)).tmod pn0)))), (12, (.t (.int .u64 r2))), (13, (.ref 13 [] (0)))], [(13, (.var false 23 (.t ((eA 1 (T.int .u8)) r4)))), (49000, (.var false 24 (.t ((eA 1 (T.int .u8)) pseed0))))]⟩ [(sp_ref01_Put n).fn [(.int .u64 (w64 (r2.tdiv (256:Int)))), (.int .i64 (4:Int))] = some ([.row 5 1 (List.map (T.int .u8) r3)], []), (List.length (List.map (T.int .u8) ([(w8 a1)] : List Int)) + List.length (List.map (T.int .u8) r3)) * 1 ≤ maxBytes, List.length (List.map (T.int .u8) ([(w8 a1)] : List Int)) + List.length (List.map (T.int .u8) r3) ≤ maxBytes, (List.map (T.int .u8) ([(w8 a1)] : List Int)) ++ (List.map (T.int .u8) r3) = List.map (T.int .u8) (([(w8 a1)] : List Int) ++ r3), (sp_ref07_digest n).fn [((eA 1 (T.int .u8)) pseed0), (.slc 1 (List.map (T.int .u8) (([(w8 a1)] : List Int) ++ r3)))] = some ([.tree ((eA 1 (T.int .u8)) r4)], [])] (by kernel_rfl) (by kernel_rfl) ⟨(ap_ref01_Put n (by exact ⟨leT.refl _, leT.refl _, trivial⟩) hr3), (app_b rfl rfl hq1), (app_c rfl rfl (by decide) hq1), (app_of rfl rfl), (ap_ref07_digest n (by exact ⟨leT.refl _, leT.refl _, trivial⟩) hr4), trivial⟩ ?_
            refine Nxt_norm ?_
            refine Ab.seq ?_
            obtain ⟨hq2, h⟩ := ask_dec h
            obtain ⟨hq3, h⟩ := ask_dec h
            obtain ⟨v0, hv0, h⟩ := bind_some h
            obtain ⟨hq4, h⟩ := ask_dec h
            refine Ab.regT hE hC hL [[], [], [], [.c], [.t (.int .u8 v0)], [], [], [.c]] { keep := [0, 1, 5, 8, 11, 66], ren := [(49000, 49000)] } ⟨[(0, (.t (.int .u64 a0))), (1, (.t (.int .u64 pn0))), (5, (.ref 49000 [] (0))), (8, (.t (.int .i64 a1))), (11, (.t (.int .u64 ((w64 ((w64 ((r1.tmod pn0) + pn0)) - a0)).tmod pn0)))), (66, (.t (.bool ((bits .and .u8 (shr .u8 v0 (r2.tmod (8:Int))) (1:Int)) == (1:Int)))))], [(49000, (.var false 24 (.t ((eA 1 (T.int .u8)) pseed0))))]⟩ [0 ≤ (w64 ((r2.tmod (256:Int)).tdiv (8:Int))), (w64 ((r2.tmod (256:Int)).tdiv (8:Int))) < ((32 : Nat) : Int), (w64 ((r2.tmod (256:Int)).tdiv (8:Int))).toNat * 1 + 0 = 0 + (w64 ((r2.tmod (256:Int)).tdiv (8:Int))).toNat * 1, (List.map (T.int .u8) r4.l)[(w64 ((r2.tmod (256:Int)).tdiv (8:Int))).toNat]? = some (.int .u8 v0), ¬ (r2.tmod (8:Int)) < 0] (by kernel_rfl) ⟨hq2, hq3, (by omega), (at_map hv0), (Int.not_lt.2 hq4), trivial⟩ ?_
            refine Nxt_norm ?_
            refine Ab.cond (b := ((bits .and .u8 (shr .u8 v0 (r2.tmod (8:Int))) (1:Int)) == (1:Int))) (by kernel_rfl) (fun hb4 => ?_) (fun hb4 => ?_)
            · replace h := cond_t hb4 h
              refine Ab.regT hE hC hL [] { keep := [0, 1, 5, 8], ren := [(49000, 49000)] } ⟨[(0, (.t (.int .u64 ((w64 ((w64 ((r1.tmod pn0) + pn0)) - a0)).tmod pn0)))), (1, (.t (.int .u64 pn0))), (5, (.ref 49000 [] (0))), (8, (.t (.int .i64 a1)))], [(49000, (.var false 24 (.t ((eA 1 (T.int .u8)) pseed0))))]⟩ [] (by kernel_rfl) trivial ?_
              refine Blk_norm ?_
              refine Nxt_norm ?_
              refine Ab.regT hE hC hL [] { keep := [0, 1, 5, 8], ren := [(49000, 49000)] } ⟨[(0, (.t (.int .u64 ((w64 ((w64 ((r1.tmod pn0) + pn0)) - a0)).tmod pn0)))), (1, (.t (.int .u64 pn0))), (5, (.ref 49000 [] (0))), (8, (.t (.int .i64 (wi (a1 + (1:Int))))))], [(49000, (.var false 24 (.t ((eA 1 (T.int .u8)) pseed0))))]⟩ [] (by kernel_rfl) trivial ?_
              exact LK_norm (((w64 ((w64 ((r1.tmod pn0) + pn0)) - a0)).tmod pn0), (wi (a1 + (1:Int)))) { fs := [], keep := [0, 1, 5, 8], ren := [(49000, 49000)] } h (by kernel_rfl)
            · replace h := cond_f hb4 h
              refine Ab.skip ?_
              refine Blk_norm ?_
              refine Nxt_norm ?_
              refine Ab.regT hE hC hL [] { keep := [0, 1, 5, 8], ren := [(49000, 49000)] } ⟨[(0, (.t (.int .u64 a0))), (1, (.t (.int .u64 pn0))), (5, (.ref 49000 [] (0))), (8, (.t (.int .i64 (wi (a1 + (1:Int))))))], [(49000, (.var false 24 (.t ((eA 1 (T.int .u8)) pseed0))))]⟩ [] (by kernel_rfl) trivial ?_
              exact LK_norm (a0, (wi (a1 + (1:Int)))) { fs := [], keep := [0, 1, 5, 8], ren := [(49000, 49000)] } h (by kernel_rfl)
          · replace h := cond_f hb3 h
            refine Ab.exit ?_
            refine Nxt_exit ?_
            exact LK_exit a0 h (PX_mk { fs := [], keep := [0], ren := [] } (by kernel_rfl))
        · refine Nxt_norm ?_
          refine Ab.seq ?_
          refine Ab.regT hE hC hL [] { keep := [6, 7], ren := [] } ⟨[(6, (.t (.int .u64 x0))), (7, (.t (.bool true)))], []⟩ [] (by kernel_rfl) trivial ?_
          refine Nxt_norm ?_
          refine Ab.ret ?_
          obtain rfl := Option.some.inj h
          exact End_ret (doneO_ok (md := [false, false]) (by kernel_rfl))
def ea_law08_ShuffleIndex (a : Int × Int × (Arr 32 Int)) : List T := [(T.int .u64) a.1, (T.int .u64) a.2.1, (eA 1 (T.int .u8)) a.2.2]
def er_law08_ShuffleIndex (r : Bool) : List RR × List T := ([.tree (T.bool r)], [])
noncomputable def sp_law08_ShuffleIndex (n : Nat) : Spec := specP [] true ea_law08_ShuffleIndex (fun a => f_law08_ShuffleIndex n a.1 a.2.1 a.2.2) (fun _ r => er_law08_ShuffleIndex r)
theorem ap_law08_ShuffleIndex (n : Nat) {ts : List T} {a0 : Int} {a1 : Int} {a2 : (Arr 32 Int)} {r : Bool} (hle : leTs ts [(T.int .u64) a0, (T.int .u64) a1, (eA 1 (T.int .u8)) a2]) (h : f_law08_ShuffleIndex n a0 a1 a2 = some r) : (sp_law08_ShuffleIndex n).fn ts = some ([.tree (T.bool r)], []) :=
  specP_fn (a := (a0, a1, a2)) (InjA.cons (inj_int _) (InjA.cons (inj_int _) (InjA.one (inj_eA (inj_int _))))) hle h
noncomputable def E_law08_ShuffleIndex (n : Nat) : Env := { ty := tyT, glob := glob, fns := get [(6, sp_law08_Awake n), (7, sp_shuffle_Index n), (8, sp_ref07_Index n)], ntmps := 43 }
theorem eok_law08_ShuffleIndex (n : Nat) : EnvOK Tryd.prog (E_law08_ShuffleIndex n) := ⟨tys_ok tys_chk, prog_mixed, (fns_cons (ok_law08_Awake n) (fns_cons (ok_shuffle_Index n) (fns_cons (ok_ref07_Index n) fns_nil)))⟩
def K_law08_ShuffleIndex (n : Nat) (pi0 : Int) (pn0 : Int) (pseed0 : (Arr 32 Int)) (r : Bool) : St → Prop := Done (E_law08_ShuffleIndex n) Tryd.f3.results.toList [] (ea_law08_ShuffleIndex (pi0, pn0, pseed0)) (er_law08_ShuffleIndex r).1 (er_law08_ShuffleIndex r).2
set_option maxRecDepth 100000 in
set_option maxHeartbeats 4000000 in
theorem ok_law08_ShuffleIndex (n : Nat) : SpecB Tryd.prog glob 3 (sp_law08_ShuffleIndex n) := by
  refine specP_B (fn := Tryd.f3) (eok_law08_ShuffleIndex n) (by kernel_rfl) rfl (by decide +kernel) (by kernel_rfl) (fun _ => by show 3 ≤ 43; omega)  ?_
  rintro ⟨pi0, pn0, pseed0⟩ r h C hL hC
  have hE := eok_law08_ShuffleIndex n
  replace hL : ∀ n g, (n, g) ∈ C.lent → n ∈ ([] : List Nat) := hL
  replace h : f_law08_ShuffleIndex n pi0 pn0 pseed0 = some r := h
  show Ab _ _ _ _ _ (End (K_law08_ShuffleIndex n pi0 pn0 pseed0 r))
  unfold f_law08_ShuffleIndex at h
  refine Ab.seq ?_
  refine Ab.regT hE hC hL [] { keep := [0, 1, 5], ren := [(5, 5)] } ⟨[(0, (.t (.int .u64 pi0))), (1, (.t (.int .u64 pn0))), (5, (.ref 5 [] (0)))], [(5, (.var false 24 (.t ((eA 1 (T.int .u8)) pseed0))))]⟩ [] (by kernel_rfl) trivial ?_
  refine Nxt_norm ?_
  refine Ab.seq ?_
  refine Ab.seq ?_
  obtain ⟨r0, hr0, h⟩ := bind_some h
  refine Ab.regT hE hC hL [[.r [.tree (.bool r0)] []]] { keep := [0, 1, 5, 12], ren := [(5, 5)] } ⟨[(0, (.t (.int .u64 pi0))), (1, (.t (.int .u64 pn0))), (5, (.ref 5 [] (0))), (12, (.t (.bool (!r0))))], [(5, (.var false 24 (.t ((eA 1 (T.int .u8)) pseed0))))]⟩ [(sp_law08_Awake n).fn [] = some ([.tree (.bool r0)], [])] (by kernel_rfl) ⟨(ap_law08_Awake n (by exact trivial) hr0), trivial⟩ ?_
  refine Nxt_norm ?_
  refine Ab.cond (b := (!r0)) (by kernel_rfl) (fun hb0 => ?_) (fun hb0 => ?_)
  · replace h := cond_t hb0 h
    refine Ab.seq ?_
    refine Ab.regT hE hC hL [] { keep := [6], ren := [] } ⟨[(6, (.t (.bool false)))], []⟩ [] (by kernel_rfl) trivial ?_
    refine Nxt_norm ?_
    refine Ab.ret ?_
    refine Nxt_ret ?_
    obtain rfl := Option.some.inj h
    exact End_ret (doneO_ok (md := [false]) (by kernel_rfl))
  · replace h := cond_f hb0 h
    refine Ab.skip ?_
    refine Nxt_norm ?_
    refine Ab.seq ?_
    obtain ⟨r1, hr1, h⟩ := bind_some h
    refine Ab.regT hE hC hL [[], [], [], [.r [.tree (.int .u64 r1.1), .tree (.int .i64 r1.2)] []]] { keep := [0, 1, 5, 7, 8], ren := [(5, 5)] } ⟨[(0, (.t (.int .u64 pi0))), (1, (.t (.int .u64 pn0))), (5, (.ref 5 [] (0))), (7, (.t (.int .u64 r1.1))), (8, (.t (.int .i64 r1.2)))], [(5, (.var false 24 (.t ((eA 1 (T.int .u8)) pseed0))))]⟩ [(sp_shuffle_Index n).fn [(.int .u64 pi0), (.int .u64 pn0), ((eA 1 (T.int .u8)) pseed0)] = some ([.tree (.int .u64 r1.1), .tree (.int .i64 r1.2)], [])] (by kernel_rfl) ⟨(ap_shuffle_Index n (by exact ⟨leT.refl _, leT.refl _, leT.refl _, trivial⟩) hr1), trivial⟩ ?_
    refine Nxt_norm ?_
    refine Ab.seq ?_
    obtain ⟨r2, hr2, h⟩ := bind_some h
    refine Ab.regT hE hC hL [[], [], [], [.r [.tree (.int .u64 r2.1), .tree (.bool r2.2)] []]] { keep := [7, 8, 9, 10], ren := [] } ⟨[(7, (.t (.int .u64 r1.1))), (8, (.t (.int .i64 r1.2))), (9, (.t (.int .u64 r2.1))), (10, (.t (.bool r2.2)))], []⟩ [(sp_ref07_Index n).fn [(.int .u64 pi0), (.int .u64 pn0), ((eA 1 (T.int .u8)) pseed0)] = some ([.tree (.int .u64 r2.1), .tree (.bool r2.2)], [])] (by kernel_rfl) ⟨(ap_ref07_Index n (by exact ⟨leT.refl _, leT.refl _, leT.refl _, trivial⟩) hr2), trivial⟩ ?_
    refine Nxt_norm ?_
    refine Ab.seq ?_
    rcases Bool.eq_false_or_eq_true (r1.1 == r2.1) with hb1 | hb1
    · replace h := cond_t hb1 h
      rcases Bool.eq_false_or_eq_true ((r1.2 == (0:Int)) == r2.2) with hb2 | hb2
      · replace h := cond_t hb2 h
        rcases Bool.eq_false_or_eq_true r2.2 with hb3 | hb3
        · replace h := cond_t hb3 h
          refine Ab.regT hE hC hL [[], [], [], [.b true], [], [], [], [], [], [.b true], [], [.b true]] { keep := [6], ren := [] } ⟨[(6, (.t (.bool true)))], []⟩ [(r1.1 == r2.1) = true, ((r1.2 == (0:Int)) == r2.2) = true, r2.2 = true] (by kernel_rfl) ⟨hb1, hb2, hb3, trivial⟩ ?_
          refine Nxt_norm ?_
          refine Ab.ret ?_
          obtain rfl := Option.some.inj h
          exact End_ret (doneO_ok (md := [false]) (by kernel_rfl))
        · replace h := cond_f hb3 h
          refine Ab.regT hE hC hL [[], [], [], [.b true], [], [], [], [], [], [.b true], [], [.b false]] { keep := [6], ren := [] } ⟨[(6, (.t (.bool (r1.2 == (2:Int)))))], []⟩ [(r1.1 == r2.1) = true, ((r1.2 == (0:Int)) == r2.2) = true, r2.2 = false] (by kernel_rfl) ⟨hb1, hb2, hb3, trivial⟩ ?_
          refine Nxt_norm ?_
          refine Ab.ret ?_
          obtain rfl := Option.some.inj h
          exact End_ret (doneO_ok (md := [false]) (by kernel_rfl))
      · replace h := cond_f hb2 h
        refine Ab.regT hE hC hL [[], [], [], [.b true], [], [], [], [], [], [.b false]] { keep := [6], ren := [] } ⟨[(6, (.t (.bool false)))], []⟩ [(r1.1 == r2.1) = true, ((r1.2 == (0:Int)) == r2.2) = false] (by kernel_rfl) ⟨hb1, hb2, trivial⟩ ?_
        refine Nxt_norm ?_
        refine Ab.ret ?_
        obtain rfl := Option.some.inj h
        exact End_ret (doneO_ok (md := [false]) (by kernel_rfl))
    · replace h := cond_f hb1 h
      refine Ab.regT hE hC hL [[], [], [], [.b false]] { keep := [6], ren := [] } ⟨[(6, (.t (.bool false)))], []⟩ [(r1.1 == r2.1) = false] (by kernel_rfl) ⟨hb1, trivial⟩ ?_
      refine Nxt_norm ?_
      refine Ab.ret ?_
      obtain rfl := Option.some.inj h
      exact End_ret (doneO_ok (md := [false]) (by kernel_rfl))
def ea_law08_ShuffleLists (a : Int × (Arr 32 Int)) : List T := [(T.int .u64) a.1, (eA 1 (T.int .u8)) a.2]
def er_law08_ShuffleLists (r : Bool) : List RR × List T := ([.tree (T.bool r)], [])
noncomputable def sp_law08_ShuffleLists (n : Nat) : Spec := specP [] true ea_law08_ShuffleLists (fun a => f_law08_ShuffleLists n a.1 a.2) (fun _ r => er_law08_ShuffleLists r)
theorem ap_law08_ShuffleLists (n : Nat) {ts : List T} {a0 : Int} {a1 : (Arr 32 Int)} {r : Bool} (hle : leTs ts [(T.int .u64) a0, (eA 1 (T.int .u8)) a1]) (h : f_law08_ShuffleLists n a0 a1 = some r) : (sp_law08_ShuffleLists n).fn ts = some ([.tree (T.bool r)], []) :=
  specP_fn (a := (a0, a1)) (InjA.cons (inj_int _) (InjA.one (inj_eA (inj_int _)))) hle h
noncomputable def E_law08_ShuffleLists (n : Nat) : Env := { ty := tyT, glob := glob, fns := get [(6, sp_law08_Awake n), (8, sp_ref07_Index n), (9, sp_shuffle_List n)], ntmps := 53 }
theorem eok_law08_ShuffleLists (n : Nat) : EnvOK Tryd.prog (E_law08_ShuffleLists n) := ⟨tys_ok tys_chk, prog_mixed, (fns_cons (ok_law08_Awake n) (fns_cons (ok_ref07_Index n) (fns_cons (ok_shuffle_List n) fns_nil)))⟩
def K_law08_ShuffleLists (n : Nat) (pn0 : Int) (pseed0 : (Arr 32 Int)) (r : Bool) : St → Prop := Done (E_law08_ShuffleLists n) Tryd.f4.results.toList [] (ea_law08_ShuffleLists (pn0, pseed0)) (er_law08_ShuffleLists r).1 (er_law08_ShuffleLists r).2
set_option maxRecDepth 100000 in
set_option maxHeartbeats 4000000 in
theorem ok_law08_ShuffleLists (n : Nat) : SpecB Tryd.prog glob 4 (sp_law08_ShuffleLists n) := by
  refine specP_B (fn := Tryd.f4) (eok_law08_ShuffleLists n) (by kernel_rfl) rfl (by decide +kernel) (by kernel_rfl) (fun _ => by show 2 ≤ 53; omega)  ?_
  rintro ⟨pn0, pseed0⟩ r h C hL hC
  have hE := eok_law08_ShuffleLists n
  replace hL : ∀ n g, (n, g) ∈ C.lent → n ∈ ([] : List Nat) := hL
  replace h : f_law08_ShuffleLists n pn0 pseed0 = some r := h
  show Ab _ _ _ _ _ (End (K_law08_ShuffleLists n pn0 pseed0 r))
  unfold f_law08_ShuffleLists at h
  refine Ab.seq ?_
  refine Ab.regT hE hC hL [] { keep := [0, 3], ren := [(3, 3)] } ⟨[(0, (.t (.int .u64 pn0))), (3, (.ref 3 [] (0)))], [(3, (.var false 24 (.t ((eA 1 (T.int .u8)) pseed0))))]⟩ [] (by kernel_rfl) trivial ?_
  refine Nxt_norm ?_
  refine Ab.seq ?_
  refine Ab.seq ?_
  obtain ⟨r0, hr0, h⟩ := bind_some h
  refine Ab.regT hE hC hL [[.r [.tree (.bool r0)] []]] { keep := [0, 3, 11], ren := [(3, 3)] } ⟨[(0, (.t (.int .u64 pn0))), (3, (.ref 3 [] (0))), (11, (.t (.bool (!r0))))], [(3, (.var false 24 (.t ((eA 1 (T.int .u8)) pseed0))))]⟩ [(sp_law08_Awake n).fn [] = some ([.tree (.bool r0)], [])] (by kernel_rfl) ⟨(ap_law08_Awake n (by exact trivial) hr0), trivial⟩ ?_
  refine Nxt_norm ?_
  refine Ab.cond (b := (!r0)) (by kernel_rfl) (fun hb0 => ?_) (fun hb0 => ?_)
  · replace h := cond_t hb0 h
    refine Ab.seq ?_
    refine Ab.regT hE hC hL [] { keep := [4], ren := [] } ⟨[(4, (.t (.bool false)))], []⟩ [] (by kernel_rfl) trivial ?_
    refine Nxt_norm ?_
    refine Ab.ret ?_
    refine Nxt_ret ?_
    obtain rfl := Option.some.inj h
    exact End_ret (doneO_ok (md := [false]) (by kernel_rfl))
  · replace h := cond_f hb0 h
    refine Ab.skip ?_
    refine Nxt_norm ?_
    refine Ab.seq ?_
    refine Ab.regT hE hC hL [] { keep := [0, 3], ren := [(3, 3)] } ⟨[(0, (.t (.int .u64 (pn0.tmod (700:Int))))), (3, (.ref 3 [] (0)))], [(3, (.var false 24 (.t ((eA 1 (T.int .u8)) pseed0))))]⟩ [] (by kernel_rfl) trivial ?_
    refine Nxt_norm ?_
    refine Ab.seq ?_
    obtain ⟨r1, hr1, h⟩ := bind_some h
    refine Ab.regT hE hC hL [[], [], [.r [.row 22 1 (List.map (T.int .u64) r1.1), .tree (.int .i64 r1.2)] []]] { keep := [0, 3, 5, 6], ren := [(3, 3), (17, 17)] } ⟨[(0, (.t (.int .u64 (pn0.tmod (700:Int))))), (3, (.ref 3 [] (0))), (5, (.own 17)), (6, (.t (.int .i64 r1.2)))], [(3, (.var false 24 (.t ((eA 1 (T.int .u8)) pseed0)))), (17, (.row false 22 1 (List.map (T.int .u64) r1.1)))]⟩ [(sp_shuffle_List n).fn [(.int .u64 (pn0.tmod (700:Int))), ((eA 1 (T.int .u8)) pseed0)] = some ([.row 22 1 (List.map (T.int .u64) r1.1), .tree (.int .i64 r1.2)], [])] (by kernel_rfl) ⟨(ap_shuffle_List n (by exact ⟨leT.refl _, leT.refl _, trivial⟩) hr1), trivial⟩ ?_
    refine Nxt_norm ?_
    refine Ab.seq ?_
    refine Ab.seq ?_
    rcases Bool.eq_false_or_eq_true (r1.2 != (0:Int)) with hb1 | hb1
    · replace h := cond_t hb1 h
      refine Ab.regT hE hC hL [[], [], [.b true]] { keep := [0, 3, 5, 28], ren := [(3, 3), (17, 17)] } ⟨[(0, (.t (.int .u64 (pn0.tmod (700:Int))))), (3, (.ref 3 [] (0))), (5, (.own 17)), (28, (.t (.bool true)))], [(3, (.var false 24 (.t ((eA 1 (T.int .u8)) pseed0)))), (17, (.row false 22 1 (List.map (T.int .u64) r1.1)))]⟩ [(r1.2 != (0:Int)) = true] (by kernel_rfl) ⟨hb1, trivial⟩ ?_
      refine Nxt_norm ?_
      refine Ab.cond (b := true) (by kernel_rfl) (fun _ => ?_) (fun hb => Bool.noConfusion hb)
      refine Ab.seq ?_
      refine Ab.regT hE hC hL [] { keep := [4], ren := [] } ⟨[(4, (.t (.bool false)))], []⟩ [] (by kernel_rfl) trivial ?_
      refine Nxt_norm ?_
      refine Ab.ret ?_
      refine Nxt_ret ?_
      obtain rfl := Option.some.inj h
      exact End_ret (doneO_ok (md := [false]) (by kernel_rfl))
    · replace h := cond_f hb1 h
      refine Ab.regT hE hC hL [[], [], [.b false], [], [.n (r1.1.length : Int)]] { keep := [0, 3, 5, 28], ren := [(3, 3), (17, 17)] } ⟨[(0, (.t (.int .u64 (pn0.tmod (700:Int))))), (3, (.ref 3 [] (0))), (5, (.own 17)), (28, (.t (.bool ((w64 (r1.1.length : Int)) != (pn0.tmod (700:Int))))))], [(3, (.var false 24 (.t ((eA 1 (T.int .u8)) pseed0)))), (17, (.row false 22 1 (List.map (T.int .u64) r1.1)))]⟩ [(r1.2 != (0:Int)) = false, ((List.length (List.map (T.int .u64) r1.1) : Nat) : Int) = (r1.1.length : Int)] (by kernel_rfl) ⟨hb1, (len_of rfl), trivial⟩ ?_
      refine Nxt_norm ?_
      refine Ab.cond (b := ((w64 (r1.1.length : Int)) != (pn0.tmod (700:Int)))) (by kernel_rfl) (fun hb2 => ?_) (fun hb2 => ?_)
      · replace h := cond_t hb2 h
        refine Ab.seq ?_
        refine Ab.regT hE hC hL [] { keep := [4], ren := [] } ⟨[(4, (.t (.bool false)))], []⟩ [] (by kernel_rfl) trivial ?_
        refine Nxt_norm ?_
        refine Ab.ret ?_
        refine Nxt_ret ?_
        obtain rfl := Option.some.inj h
        exact End_ret (doneO_ok (md := [false]) (by kernel_rfl))
      · replace h := cond_f hb2 h
        refine Ab.skip ?_
        refine Nxt_norm ?_
        refine Ab.seq ?_
        refine Ab.seq ?_
        refine Ab.regT hE hC hL [[], [.n (r1.1.length : Int)]] { keep := [0, 3, 5, 30, 31], ren := [(3, 3), (17, 17)] } ⟨[(0, (.t (.int .u64 (pn0.tmod (700:Int))))), (3, (.ref 3 [] (0))), (5, (.own 17)), (30, (.t (.int .i64 (r1.1.length : Int)))), (31, (.t (.int .i64 (0:Int))))], [(3, (.var false 24 (.t ((eA 1 (T.int .u8)) pseed0)))), (17, (.row false 22 1 (List.map (T.int .u64) r1.1)))]⟩ [((List.length (List.map (T.int .u64) r1.1) : Nat) : Int) = (r1.1.length : Int)] (by kernel_rfl) ⟨(len_of rfl), trivial⟩ ?_
        refine Nxt_norm ?_
        obtain ⟨x0, hx0, h⟩ := bind_some h
        refine Ab.loopR0 (fun (a0 : Int) => (⟨[(0, (.t (.int .u64 (pn0.tmod (700:Int))))), (3, (.ref 49000 [] (0))), (5, (.own 49001)), (30, (.t (.int .i64 (r1.1.length : Int)))), (31, (.t (.int .i64 a0)))], [(49000, (.var false 24 (.t ((eA 1 (T.int .u8)) pseed0)))), (49001, (.row false 22 1 (List.map (T.int .u64) r1.1)))]⟩ : St)) (fun (_ : Unit) => (⟨[], []⟩ : St)) (fun r9 => K_law08_ShuffleLists n pn0 pseed0 r9) { fs := [], keep := [0, 3, 5, 30, 31], ren := [(3, 49000), (17, 49001)] } (0:Int) hC hL hx0 (by kernel_rfl) ?_ (fun r9 s9 e hs => ?_) (fun x1 e => ?_)
        · rintro a0 o0 h
          replace h : f_law08_ShuffleLists_b0 n pn0 pseed0 r1 a0 = some o0 := h
          unfold f_law08_ShuffleLists_b0 at h
          refine Ab.seq ?_
          refine Ab.regT hE hC hL [] { keep := [0, 3, 5, 30, 31, 32], ren := [(49000, 49000), (49001, 49001)] } ⟨[(0, (.t (.int .u64 (pn0.tmod (700:Int))))), (3, (.ref 49000 [] (0))), (5, (.own 49001)), (30, (.t (.int .i64 (r1.1.length : Int)))), (31, (.t (.int .i64 a0))), (32, (.t (.bool (decide (a0 < (r1.1.length : Int))))))], [(49000, (.var false 24 (.t ((eA 1 (T.int .u8)) pseed0)))), (49001, (.row false 22 1 (List.map (T.int .u64) r1.1)))]⟩ [] (by kernel_rfl) trivial ?_
          refine Nxt_norm ?_
          refine Ab.seq ?_
          refine Ab.cond (b := (decide (a0 < (r1.1.length : Int)))) (by kernel_rfl) (fun hb3 => ?_) (fun hb3 => ?_)
          · replace h := cond_t hb3 h
            refine Ab.skip ?_
            refine Nxt_norm ?_
            refine Ab.seq ?_
            refine Ab.block ?_
            refine Ab.seq ?_
            refine Ab.regT hE hC hL [] { keep := [0, 3, 5, 7, 30, 31], ren := [(49000, 49000), (49001, 49001)] } ⟨[(0, (.t (.int .u64 (pn0.tmod (700:Int))))), (3, (.ref 49000 [] (0))), (5, (.own 49001)), (7, (.t (.int .i64 a0))), (30, (.t (.int .i64 (r1.1.length : Int)))), (31, (.t (.int .i64 a0)))], [(49000, (.var false 24 (.t ((eA 1 (T.int .u8)) pseed0)))), (49001, (.row false 22 1 (List.map (T.int .u64) r1.1)))]⟩ [] (by kernel_rfl) trivial ?_
            refine Nxt_norm ?_
            refine Ab.seq ?_
            obtain ⟨r2, hr2, h⟩ := bind_some h
            refine Ab.regT hE hC hL [[], [], [], [], [.r [.tree (.int .u64 r2.1), .tree (.bool r2.2)] []]] { keep := [0, 3, 5, 7, 8, 9, 30, 31], ren := [(49000, 49000), (49001, 49001)] } ⟨[(0, (.t (.int .u64 (pn0.tmod (700:Int))))), (3, (.ref 49000 [] (0))), (5, (.own 49001)), (7, (.t (.int .i64 a0))), (8, (.t (.int .u64 r2.1))), (9, (.t (.bool r2.2))), (30, (.t (.int .i64 (r1.1.length : Int)))), (31, (.t (.int .i64 a0)))], [(49000, (.var false 24 (.t ((eA 1 (T.int .u8)) pseed0)))), (49001, (.row false 22 1 (List.map (T.int .u64) r1.1)))]⟩ [(sp_ref07_Index n).fn [(.int .u64 (w64 a0)), (.int .u64 (pn0.tmod (700:Int))), ((eA 1 (T.int .u8)) pseed0)] = some ([.tree (.int .u64 r2.1), .tree (.bool r2.2)], [])] (by kernel_rfl) ⟨(ap_ref07_Index n (by exact ⟨leT.refl _, leT.refl _, leT.refl _, trivial⟩) hr2), trivial⟩ ?_
            refine Nxt_norm ?_
            refine Ab.seq ?_
            rcases Bool.eq_false_or_eq_true (!r2.2) with hb4 | hb4
            · replace h := cond_t hb4 h
              refine Ab.regT hE hC hL [[], [], [.b true]] { keep := [0, 3, 5, 30, 31, 51], ren := [(49000, 49000), (49001, 49001)] } ⟨[(0, (.t (.int .u64 (pn0.tmod (700:Int))))), (3, (.ref 49000 [] (0))), (5, (.own 49001)), (30, (.t (.int .i64 (r1.1.length : Int)))), (31, (.t (.int .i64 a0))), (51, (.t (.bool true)))], [(49000, (.var false 24 (.t ((eA 1 (T.int .u8)) pseed0)))), (49001, (.row false 22 1 (List.map (T.int .u64) r1.1)))]⟩ [(!r2.2) = true] (by kernel_rfl) ⟨hb4, trivial⟩ ?_
              refine Nxt_norm ?_
              refine Ab.cond (b := true) (by kernel_rfl) (fun _ => ?_) (fun hb => Bool.noConfusion hb)
              refine Ab.seq ?_
              refine Ab.regT hE hC hL [] { keep := [4], ren := [] } ⟨[(4, (.t (.bool false)))], []⟩ [] (by kernel_rfl) trivial ?_
              refine Nxt_norm ?_
              refine Ab.ret ?_
              refine Blk_ret ?_
              refine Nxt_ret ?_
              exact LK_ret (.inl false) h (PR_ret (doneO_ok (md := [false]) (by kernel_rfl)))
            · replace h := cond_f hb4 h
              obtain ⟨hq0, h⟩ := ask_dec h
              obtain ⟨hq1, h⟩ := ask_dec h
              obtain ⟨v0, hv0, h⟩ := bind_some h
              refine Ab.regT hE hC hL [[], [], [.b false], [], [], [.c], [.t (.int .u64 v0)]] { keep := [0, 3, 5, 30, 31, 51], ren := [(49000, 49000), (49001, 49001)] } ⟨[(0, (.t (.int .u64 (pn0.tmod (700:Int))))), (3, (.ref 49000 [] (0))), (5, (.own 49001)), (30, (.t (.int .i64 (r1.1.length : Int)))), (31, (.t (.int .i64 a0))), (51, (.t (.bool (v0 != r2.1))))], [(49000, (.var false 24 (.t ((eA 1 (T.int .u8)) pseed0)))), (49001, (.row false 22 1 (List.map (T.int .u64) r1.1)))]⟩ [(!r2.2) = false, 0 ≤ a0, a0.toNat < List.length (List.map (T.int .u64) r1.1), a0.toNat * 1 + 0 = a0.toNat * 1, (List.map (T.int .u64) r1.1)[a0.toNat]? = some (.int .u64 v0)] (by kernel_rfl) ⟨hb4, hq0, (by rw [List.length_map]; exact hq1), (by omega), (at_map hv0), trivial⟩ ?_
              refine Nxt_norm ?_
              refine Ab.cond (b := (v0 != r2.1)) (by kernel_rfl) (fun hb5 => ?_) (fun hb5 => ?_)
              · replace h := cond_t hb5 h
                refine Ab.seq ?_
                refine Ab.regT hE hC hL [] { keep := [4], ren := [] } ⟨[(4, (.t (.bool false)))], []⟩ [] (by kernel_rfl) trivial ?_
                refine Nxt_norm ?_
                refine Ab.ret ?_
                refine Blk_ret ?_
                refine Nxt_ret ?_
                exact LK_ret (.inl false) h (PR_ret (doneO_ok (md := [false]) (by kernel_rfl)))
              · replace h := cond_f hb5 h
                refine Ab.skip ?_
                refine Blk_norm ?_
                refine Nxt_norm ?_
                refine Ab.regT hE hC hL [] { keep := [0, 3, 5, 30, 31], ren := [(49000, 49000), (49001, 49001)] } ⟨[(0, (.t (.int .u64 (pn0.tmod (700:Int))))), (3, (.ref 49000 [] (0))), (5, (.own 49001)), (30, (.t (.int .i64 (r1.1.length : Int)))), (31, (.t (.int .i64 (wi (a0 + (1:Int))))))], [(49000, (.var false 24 (.t ((eA 1 (T.int .u8)) pseed0)))), (49001, (.row false 22 1 (List.map (T.int .u64) r1.1)))]⟩ [] (by kernel_rfl) trivial ?_
                exact LK_norm (wi (a0 + (1:Int))) { fs := [], keep := [0, 3, 5, 30, 31], ren := [(49000, 49000), (49001, 49001)] } h (by kernel_rfl)
          · replace h := cond_f hb3 h
            refine Ab.exit ?_
            refine Nxt_exit ?_
            exact LK_exit (.inr ()) h (PR_mk { fs := [], keep := [], ren := [] } (by kernel_rfl))
        · subst e
          replace h := elim_l h
          refine Nxt_ret ?_
          obtain rfl := Option.some.inj h
          exact End_ret hs
        · subst e
          replace h := elim_r h
          refine Nxt_norm ?_
          refine Ab.seq ?_
          refine Ab.regT hE hC hL [] { keep := [4], ren := [] } ⟨[(4, (.t (.bool true)))], []⟩ [] (by kernel_rfl) trivial ?_
          refine Nxt_norm ?_
          refine Ab.ret ?_
          obtain rfl := Option.some.inj h
          exact End_ret (doneO_ok (md := [false]) (by kernel_rfl))
def ea_law08_ShuffleOnce (a : Int × Int × (Arr 32 Int)) : List T := [(T.int .u64) a.1, (T.int .u64) a.2.1, (eA 1 (T.int .u8)) a.2.2]
def er_law08_ShuffleOnce (r : Bool) : List RR × List T := ([.tree (T.bool r)], [])
noncomputable def sp_law08_ShuffleOnce (n : Nat) : Spec := specP [] true ea_law08_ShuffleOnce (fun a => f_law08_ShuffleOnce n a.1 a.2.1 a.2.2) (fun _ r => er_law08_ShuffleOnce r)
theorem ap_law08_ShuffleOnce (n : Nat) {ts : List T} {a0 : Int} {a1 : Int} {a2 : (Arr 32 Int)} {r : Bool} (hle : leTs ts [(T.int .u64) a0, (T.int .u64) a1, (eA 1 (T.int .u8)) a2]) (h : f_law08_ShuffleOnce n a0 a1 a2 = some r) : (sp_law08_ShuffleOnce n).fn ts = some ([.tree (T.bool r)], []) :=
  specP_fn (a := (a0, a1, a2)) (InjA.cons (inj_int _) (InjA.cons (inj_int _) (InjA.one (inj_eA (inj_int _))))) hle h
noncomputable def E_law08_ShuffleOnce (n : Nat) : Env := { ty := tyT, glob := glob, fns := get [(6, sp_law08_Awake n), (9, sp_shuffle_List n)], ntmps := 64 }
theorem eok_law08_ShuffleOnce (n : Nat) : EnvOK Tryd.prog (E_law08_ShuffleOnce n) := ⟨tys_ok tys_chk, prog_mixed, (fns_cons (ok_law08_Awake n) (fns_cons (ok_shuffle_List n) fns_nil))⟩
def K_law08_ShuffleOnce (n : Nat) (pn0 : Int) (pfar0 : Int) (pseed0 : (Arr 32 Int)) (r : Bool) : St → Prop := Done (E_law08_ShuffleOnce n) Tryd.f5.results.toList [] (ea_law08_ShuffleOnce (pn0, pfar0, pseed0)) (er_law08_ShuffleOnce r).1 (er_law08_ShuffleOnce r).2
set_option maxRecDepth 100000 in
set_option maxHeartbeats 4000000 in
theorem ok_law08_ShuffleOnce (n : Nat) : SpecB Tryd.prog glob 5 (sp_law08_ShuffleOnce n) := by
  refine specP_B (fn := Tryd.f5) (eok_law08_ShuffleOnce n) (by kernel_rfl) rfl (by decide +kernel) (by kernel_rfl) (fun _ => by show 3 ≤ 64; omega)  ?_
  rintro ⟨pn0, pfar0, pseed0⟩ r h C hL hC
  have hE := eok_law08_ShuffleOnce n
  replace hL : ∀ n g, (n, g) ∈ C.lent → n ∈ ([] : List Nat) := hL
  replace h : f_law08_ShuffleOnce n pn0 pfar0 pseed0 = some r := h
  show Ab _ _ _ _ _ (End (K_law08_ShuffleOnce n pn0 pfar0 pseed0 r))
  unfold f_law08_ShuffleOnce at h
  refine Ab.seq ?_
  refine Ab.regT hE hC hL [] { keep := [0, 1, 5], ren := [(5, 5)] } ⟨[(0, (.t (.int .u64 pn0))), (1, (.t (.int .u64 pfar0))), (5, (.ref 5 [] (0)))], [(5, (.var false 24 (.t ((eA 1 (T.int .u8)) pseed0))))]⟩ [] (by kernel_rfl) trivial ?_
  refine Nxt_norm ?_
  refine Ab.seq ?_
  refine Ab.seq ?_
  obtain ⟨r0, hr0, h⟩ := bind_some h
  refine Ab.regT hE hC hL [[.r [.tree (.bool r0)] []]] { keep := [0, 1, 5, 15], ren := [(5, 5)] } ⟨[(0, (.t (.int .u64 pn0))), (1, (.t (.int .u64 pfar0))), (5, (.ref 5 [] (0))), (15, (.t (.bool (!r0))))], [(5, (.var false 24 (.t ((eA 1 (T.int .u8)) pseed0))))]⟩ [(sp_law08_Awake n).fn [] = some ([.tree (.bool r0)], [])] (by kernel_rfl) ⟨(ap_law08_Awake n (by exact trivial) hr0), trivial⟩ ?_
  refine Nxt_norm ?_
  refine Ab.cond (b := (!r0)) (by kernel_rfl) (fun hb0 => ?_) (fun hb0 => ?_)
  · replace h := cond_t hb0 h
    refine Ab.seq ?_
    refine Ab.regT hE hC hL [] { keep := [6], ren := [] } ⟨[(6, (.t (.bool false)))], []⟩ [] (by kernel_rfl) trivial ?_
    refine Nxt_norm ?_
    refine Ab.ret ?_
    refine Nxt_ret ?_
    obtain rfl := Option.some.inj h
    exact End_ret (doneO_ok (md := [false]) (by kernel_rfl))
  · replace h := cond_f hb0 h
    refine Ab.skip ?_
    refine Nxt_norm ?_
    refine Ab.seq ?_
    refine Ab.regT hE hC hL [] { keep := [0, 1, 5], ren := [(5, 5)] } ⟨[(0, (.t (.int .u64 (pn0.tmod (3000:Int))))), (1, (.t (.int .u64 pfar0))), (5, (.ref 5 [] (0)))], [(5, (.var false 24 (.t ((eA 1 (T.int .u8)) pseed0))))]⟩ [] (by kernel_rfl) trivial ?_
    refine Nxt_norm ?_
    refine Ab.seq ?_
    obtain ⟨r1, hr1, h⟩ := bind_some h
    refine Ab.regT hE hC hL [[], [], [.r [.row 22 1 (List.map (T.int .u64) r1.1), .tree (.int .i64 r1.2)] []]] { keep := [0, 1, 5, 7, 8], ren := [(5, 5), (21, 21)] } ⟨[(0, (.t (.int .u64 (pn0.tmod (3000:Int))))), (1, (.t (.int .u64 pfar0))), (5, (.ref 5 [] (0))), (7, (.own 21)), (8, (.t (.int .i64 r1.2)))], [(5, (.var false 24 (.t ((eA 1 (T.int .u8)) pseed0)))), (21, (.row false 22 1 (List.map (T.int .u64) r1.1)))]⟩ [(sp_shuffle_List n).fn [(.int .u64 (pn0.tmod (3000:Int))), ((eA 1 (T.int .u8)) pseed0)] = some ([.row 22 1 (List.map (T.int .u64) r1.1), .tree (.int .i64 r1.2)], [])] (by kernel_rfl) ⟨(ap_shuffle_List n (by exact ⟨leT.refl _, leT.refl _, trivial⟩) hr1), trivial⟩ ?_
    refine Nxt_norm ?_
    refine Ab.seq ?_
    refine Ab.seq ?_
    rcases Bool.eq_false_or_eq_true (r1.2 != (0:Int)) with hb1 | hb1
    · replace h := cond_t hb1 h
      refine Ab.regT hE hC hL [[], [], [.b true]] { keep := [0, 1, 5, 7, 32], ren := [(5, 5), (21, 21)] } ⟨[(0, (.t (.int .u64 (pn0.tmod (3000:Int))))), (1, (.t (.int .u64 pfar0))), (5, (.ref 5 [] (0))), (7, (.own 21)), (32, (.t (.bool true)))], [(5, (.var false 24 (.t ((eA 1 (T.int .u8)) pseed0)))), (21, (.row false 22 1 (List.map (T.int .u64) r1.1)))]⟩ [(r1.2 != (0:Int)) = true] (by kernel_rfl) ⟨hb1, trivial⟩ ?_
      refine Nxt_norm ?_
      refine Ab.cond (b := true) (by kernel_rfl) (fun _ => ?_) (fun hb => Bool.noConfusion hb)
      refine Ab.seq ?_
      refine Ab.regT hE hC hL [] { keep := [6], ren := [] } ⟨[(6, (.t (.bool false)))], []⟩ [] (by kernel_rfl) trivial ?_
      refine Nxt_norm ?_
      refine Ab.ret ?_
      refine Nxt_ret ?_
      obtain rfl := Option.some.inj h
      exact End_ret (doneO_ok (md := [false]) (by kernel_rfl))
    · replace h := cond_f hb1 h
      refine Ab.regT hE hC hL [[], [], [.b false], [], [.n (r1.1.length : Int)]] { keep := [0, 1, 5, 7, 32], ren := [(5, 5), (21, 21)] } ⟨[(0, (.t (.int .u64 (pn0.tmod (3000:Int))))), (1, (.t (.int .u64 pfar0))), (5, (.ref 5 [] (0))), (7, (.own 21)), (32, (.t (.bool ((w64 (r1.1.length : Int)) != (pn0.tmod (3000:Int))))))], [(5, (.var false 24 (.t ((eA 1 (T.int .u8)) pseed0)))), (21, (.row false 22 1 (List.map (T.int .u64) r1.1)))]⟩ [(r1.2 != (0:Int)) = false, ((List.length (List.map (T.int .u64) r1.1) : Nat) : Int) = (r1.1.length : Int)] (by kernel_rfl) ⟨hb1, (len_of rfl), trivial⟩ ?_
      refine Nxt_norm ?_
      refine Ab.cond (b := ((w64 (r1.1.length : Int)) != (pn0.tmod (3000:Int)))) (by kernel_rfl) (fun hb2 => ?_) (fun hb2 => ?_)
      · replace h := cond_t hb2 h
        refine Ab.seq ?_
        refine Ab.regT hE hC hL [] { keep := [6], ren := [] } ⟨[(6, (.t (.bool false)))], []⟩ [] (by kernel_rfl) trivial ?_
        refine Nxt_norm ?_
        refine Ab.ret ?_
        refine Nxt_ret ?_
        obtain rfl := Option.some.inj h
        exact End_ret (doneO_ok (md := [false]) (by kernel_rfl))
      · replace h := cond_f hb2 h
        refine Ab.skip ?_
        refine Nxt_norm ?_
        refine Ab.seq ?_
        obtain ⟨hq0, h⟩ := ask_dec h
        obtain ⟨hq1, h⟩ := ask_dec h
        refine Ab.regT hE hC hL [[], [.l (List.map T.bool (List.replicate ((pn0.tmod (3000:Int)).toNat) false))]] { keep := [0, 1, 5, 7, 9], ren := [(5, 5), (21, 21), (34, 34)] } ⟨[(0, (.t (.int .u64 (pn0.tmod (3000:Int))))), (1, (.t (.int .u64 pfar0))), (5, (.ref 5 [] (0))), (7, (.own 21)), (9, (.own 34))], [(5, (.var false 24 (.t ((eA 1 (T.int .u8)) pseed0)))), (21, (.row false 22 1 (List.map (T.int .u64) r1.1))), (34, (.row false 4 1 (List.map T.bool (List.replicate ((pn0.tmod (3000:Int)).toNat) false))))]⟩ [0 ≤ (pn0.tmod (3000:Int)), ((pn0.tmod (3000:Int)) = (pn0.tmod (3000:Int)) ∨ (pn0.tmod (3000:Int)) = 0), (pn0.tmod (3000:Int)) ≤ (pn0.tmod (3000:Int)), ((1 : Nat) : Int) * (pn0.tmod (3000:Int)) ≤ 140737488355328, (pn0.tmod (3000:Int)) ≤ 140737488355328, List.replicate ((pn0.tmod (3000:Int))).toNat (.bool false) = List.map T.bool (List.replicate ((pn0.tmod (3000:Int)).toNat) false)] (by kernel_rfl) ⟨hq0, (.inl rfl), (Int.le_refl _), hq1, (by have := hq1; omega), (rep_map rfl), trivial⟩ ?_
        refine Nxt_norm ?_
        refine Ab.seq ?_
        refine Ab.seq ?_
        refine Ab.regT hE hC hL [[], [.n (r1.1.length : Int)]] { keep := [0, 1, 5, 9, 35, 36, 37], ren := [(5, 5), (21, 21), (34, 34)] } ⟨[(0, (.t (.int .u64 (pn0.tmod (3000:Int))))), (1, (.t (.int .u64 pfar0))), (5, (.ref 5 [] (0))), (9, (.own 34)), (35, (.own 21)), (36, (.t (.int .i64 (r1.1.length : Int)))), (37, (.t (.int .i64 (0:Int))))], [(5, (.var false 24 (.t ((eA 1 (T.int .u8)) pseed0)))), (21, (.row false 22 1 (List.map (T.int .u64) r1.1))), (34, (.row false 4 1 (List.map T.bool (List.replicate ((pn0.tmod (3000:Int)).toNat) false))))]⟩ [((List.length (List.map (T.int .u64) r1.1) : Nat) : Int) = (r1.1.length : Int)] (by kernel_rfl) ⟨(len_of rfl), trivial⟩ ?_
        refine Nxt_norm ?_
        obtain ⟨x0, hx0, h⟩ := bind_some h
        refine Ab.loopR0 (fun ((a0, a1) : ((List Bool) × Int)) => (⟨[(0, (.t (.int .u64 (pn0.tmod (3000:Int))))), (1, (.t (.int .u64 pfar0))), (5, (.ref 49000 [] (0))), (9, (.own 49001)), (35, (.own 49002)), (36, (.t (.int .i64 (r1.1.length : Int)))), (37, (.t (.int .i64 a1)))], [(49000, (.var false 24 (.t ((eA 1 (T.int .u8)) pseed0)))), (49001, (.row false 4 1 (List.map T.bool a0))), (49002, (.row false 22 1 (List.map (T.int .u64) r1.1)))]⟩ : St)) (fun (_ : Unit) => (⟨[(1, (.t (.int .u64 pfar0))), (5, (.ref 49000 [] (0)))], [(49000, (.var false 24 (.t ((eA 1 (T.int .u8)) pseed0))))]⟩ : St)) (fun r9 => K_law08_ShuffleOnce n pn0 pfar0 pseed0 r9) { fs := [], keep := [0, 1, 5, 9, 35, 36, 37], ren := [(5, 49000), (34, 49001), (21, 49002)] } ((List.replicate ((pn0.tmod (3000:Int)).toNat) false), (0:Int)) hC hL hx0 (by kernel_rfl) ?_ (fun r9 s9 e hs => ?_) (fun x1 e => ?_)
        · rintro ⟨a0, a1⟩ o0 h
          replace h : f_law08_ShuffleOnce_b0 n pn0 r1 a0 a1 = some o0 := h
          unfold f_law08_ShuffleOnce_b0 at h
          refine Ab.seq ?_
          refine Ab.regT hE hC hL [] { keep := [0, 1, 5, 9, 35, 36, 37, 38], ren := [(49000, 49000), (49001, 49001), (49002, 49002)] } ⟨[(0, (.t (.int .u64 (pn0.tmod (3000:Int))))), (1, (.t (.int .u64 pfar0))), (5, (.ref 49000 [] (0))), (9, (.own 49001)), (35, (.own 49002)), (36, (.t (.int .i64 (r1.1.length : Int)))), (37, (.t (.int .i64 a1))), (38, (.t (.bool (decide (a1 < (r1.1.length : Int))))))], [(49000, (.var false 24 (.t ((eA 1 (T.int .u8)) pseed0)))), (49001, (.row false 4 1 (List.map T.bool a0))), (49002, (.row false 22 1 (List.map (T.int .u64) r1.1)))]⟩ [] (by kernel_rfl) trivial ?_
          refine Nxt_norm ?_
          refine Ab.seq ?_
          refine Ab.cond (b := (decide (a1 < (r1.1.length : Int)))) (by kernel_rfl) (fun hb3 => ?_) (fun hb3 => ?_)
          · replace h := cond_t hb3 h
            refine Ab.skip ?_
            refine Nxt_norm ?_
            refine Ab.seq ?_
            refine Ab.block ?_
            refine Ab.seq ?_
            obtain ⟨hq2, h⟩ := ask_dec h
            obtain ⟨hq3, h⟩ := ask_dec h
            obtain ⟨v0, hv0, h⟩ := bind_some h
            refine Ab.regT hE hC hL [[.c], [.t (.int .u64 v0)]] { keep := [0, 1, 5, 9, 11, 35, 36, 37], ren := [(49000, 49000), (49001, 49001), (49002, 49002)] } ⟨[(0, (.t (.int .u64 (pn0.tmod (3000:Int))))), (1, (.t (.int .u64 pfar0))), (5, (.ref 49000 [] (0))), (9, (.own 49001)), (11, (.t (.int .u64 v0))), (35, (.own 49002)), (36, (.t (.int .i64 (r1.1.length : Int)))), (37, (.t (.int .i64 a1)))], [(49000, (.var false 24 (.t ((eA 1 (T.int .u8)) pseed0)))), (49001, (.row false 4 1 (List.map T.bool a0))), (49002, (.row false 22 1 (List.map (T.int .u64) r1.1)))]⟩ [0 ≤ a1, a1.toNat < List.length (List.map (T.int .u64) r1.1), a1.toNat * 1 + 0 = a1.toNat * 1, (List.map (T.int .u64) r1.1)[a1.toNat]? = some (.int .u64 v0)] (by kernel_rfl) ⟨hq2, (by rw [List.length_map]; exact hq3), (by omega), (at_map hv0), trivial⟩ ?_
            refine Nxt_norm ?_
            refine Ab.seq ?_
            refine Ab.seq ?_
            rcases Bool.eq_false_or_eq_true (decide (v0 ≥ (pn0.tmod (3000:Int)))) with hb4 | hb4
            · replace h := cond_t hb4 h
              refine Ab.regT hE hC hL [[], [], [], [.b true]] { keep := [0, 1, 5, 9, 11, 35, 36, 37, 49], ren := [(49000, 49000), (49001, 49001), (49002, 49002)] } ⟨[(0, (.t (.int .u64 (pn0.tmod (3000:Int))))), (1, (.t (.int .u64 pfar0))), (5, (.ref 49000 [] (0))), (9, (.own 49001)), (11, (.t (.int .u64 v0))), (35, (.own 49002)), (36, (.t (.int .i64 (r1.1.length : Int)))), (37, (.t (.int .i64 a1))), (49, (.t (.bool true)))], [(49000, (.var false 24 (.t ((eA 1 (T.int .u8)) pseed0)))), (49001, (.row false 4 1 (List.map T.bool a0))), (49002, (.row false 22 1 (List.map (T.int .u64) r1.1)))]⟩ [(decide (v0 ≥ (pn0.tmod (3000:Int)))) = true] (by kernel_rfl) ⟨hb4, trivial⟩ ?_
              refine Nxt_norm ?_
              refine Ab.cond (b := true) (by kernel_rfl) (fun _ => ?_) (fun hb => Bool.noConfusion hb)
              refine Ab.seq ?_
              refine Ab.regT hE hC hL [] { keep := [6], ren := [] } ⟨[(6, (.t (.bool false)))], []⟩ [] (by kernel_rfl) trivial ?_
              refine Nxt_norm ?_
              refine Ab.ret ?_
              refine Nxt_ret ?_
              refine Blk_ret ?_
              refine Nxt_ret ?_
              exact LK_ret (.inl false) h (PR_ret (doneO_ok (md := [false]) (by kernel_rfl)))
            · replace h := cond_f hb4 h
              obtain ⟨hq4, h⟩ := ask_dec h
              obtain ⟨hq5, h⟩ := ask_dec h
              obtain ⟨v1, hv1, h⟩ := bind_some h
              refine Ab.regT hE hC hL [[], [], [], [.b false], [], [], [.c], [.t (.bool v1)]] { keep := [0, 1, 5, 9, 11, 35, 36, 37, 49], ren := [(49000, 49000), (49001, 49001), (49002, 49002)] } ⟨[(0, (.t (.int .u64 (pn0.tmod (3000:Int))))), (1, (.t (.int .u64 pfar0))), (5, (.ref 49000 [] (0))), (9, (.own 49001)), (11, (.t (.int .u64 v0))), (35, (.own 49002)), (36, (.t (.int .i64 (r1.1.length : Int)))), (37, (.t (.int .i64 a1))), (49, (.t (.bool v1)))], [(49000, (.var false 24 (.t ((eA 1 (T.int .u8)) pseed0)))), (49001, (.row false 4 1 (List.map T.bool a0))), (49002, (.row false 22 1 (List.map (T.int .u64) r1.1)))]⟩ [(decide (v0 ≥ (pn0.tmod (3000:Int)))) = false, 0 ≤ v0, v0.toNat < List.length (List.map T.bool a0), v0.toNat * 1 + 0 = v0.toNat * 1, (List.map T.bool a0)[v0.toNat]? = some (.bool v1)] (by kernel_rfl) ⟨hb4, hq4, (by rw [List.length_map]; exact hq5), (by omega), (at_map hv1), trivial⟩ ?_
              refine Nxt_norm ?_
              refine Ab.cond (b := v1) (by kernel_rfl) (fun hb5 => ?_) (fun hb5 => ?_)
              · replace h := cond_t hb5 h
                refine Ab.seq ?_
                refine Ab.regT hE hC hL [] { keep := [6], ren := [] } ⟨[(6, (.t (.bool false)))], []⟩ [] (by kernel_rfl) trivial ?_
                refine Nxt_norm ?_
                refine Ab.ret ?_
                refine Nxt_ret ?_
                refine Blk_ret ?_
                refine Nxt_ret ?_
                exact LK_ret (.inl false) h (PR_ret (doneO_ok (md := [false]) (by kernel_rfl)))
              · replace h := cond_f hb5 h
                refine Ab.skip ?_
                refine Nxt_norm ?_
                refine Ab.regT hE hC hL [[], [], [.c], [.t (.bool v1), .l (List.map T.bool (List.set a0 v0.toNat true))]] { keep := [0, 1, 5, 9, 35, 36, 37], ren := [(49000, 49000), (49001, 49001), (49002, 49002)] } ⟨[(0, (.t (.int .u64 (pn0.tmod (3000:Int))))), (1, (.t (.int .u64 pfar0))), (5, (.ref 49000 [] (0))), (9, (.own 49001)), (35, (.own 49002)), (36, (.t (.int .i64 (r1.1.length : Int)))), (37, (.t (.int .i64 a1)))], [(49000, (.var false 24 (.t ((eA 1 (T.int .u8)) pseed0)))), (49001, (.row false 4 1 (List.map T.bool (List.set a0 v0.toNat true)))), (49002, (.row false 22 1 (List.map (T.int .u64) r1.1)))]⟩ [0 ≤ v0, v0.toNat < List.length (List.map T.bool a0), v0.toNat * 1 + 0 = v0.toNat * 1, (List.map T.bool a0)[v0.toNat]? = some (.bool v1), (List.map T.bool a0)[v0.toNat]? = some (.bool v1), (List.map T.bool a0).set v0.toNat (.bool true) = List.map T.bool (List.set a0 v0.toNat true)] (by kernel_rfl) ⟨hq4, (by rw [List.length_map]; exact hq5), (by omega), (at_map hv1), (at_map hv1), set_map, trivial⟩ ?_
                refine Blk_norm ?_
                refine Nxt_norm ?_
                refine Ab.regT hE hC hL [] { keep := [0, 1, 5, 9, 35, 36, 37], ren := [(49000, 49000), (49001, 49001), (49002, 49002)] } ⟨[(0, (.t (.int .u64 (pn0.tmod (3000:Int))))), (1, (.t (.int .u64 pfar0))), (5, (.ref 49000 [] (0))), (9, (.own 49001)), (35, (.own 49002)), (36, (.t (.int .i64 (r1.1.length : Int)))), (37, (.t (.int .i64 (wi (a1 + (1:Int))))))], [(49000, (.var false 24 (.t ((eA 1 (T.int .u8)) pseed0)))), (49001, (.row false 4 1 (List.map T.bool (List.set a0 v0.toNat true)))), (49002, (.row false 22 1 (List.map (T.int .u64) r1.1)))]⟩ [] (by kernel_rfl) trivial ?_
                exact LK_norm ((List.set a0 v0.toNat true), (wi (a1 + (1:Int)))) { fs := [], keep := [0, 1, 5, 9, 35, 36, 37], ren := [(49000, 49000), (49001, 49001), (49002, 49002)] } h (by kernel_rfl)
          · replace h := cond_f hb3 h
            refine Ab.exit ?_
            refine Nxt_exit ?_
            exact LK_exit (.inr ()) h (PR_mk { fs := [], keep := [1, 5], ren := [(49000, 49000)] } (by kernel_rfl))
        · subst e
          replace h := elim_l h
          refine Nxt_ret ?_
          obtain rfl := Option.some.inj h
          exact End_ret hs
        · subst e
          replace h := elim_r h
          refine Nxt_norm ?_
          refine Ab.seq ?_
          refine Ab.seq ?_
          refine Ab.regT hE hC hL [] { keep := [1, 5, 55], ren := [(49000, 49000)] } ⟨[(1, (.t (.int .u64 pfar0))), (5, (.ref 49000 [] (0))), (55, (.t (.bool (decide (pfar0 ≤ (1048576:Int))))))], [(49000, (.var false 24 (.t ((eA 1 (T.int .u8)) pseed0))))]⟩ [] (by kernel_rfl) trivial ?_
          refine Nxt_norm ?_
          refine Ab.cond (b := (decide (pfar0 ≤ (1048576:Int)))) (by kernel_rfl) (fun hb6 => ?_) (fun hb6 => ?_)
          · replace h := cond_t hb6 h
            refine Ab.seq ?_
            refine Ab.regT hE hC hL [] { keep := [6], ren := [] } ⟨[(6, (.t (.bool true)))], []⟩ [] (by kernel_rfl) trivial ?_
            refine Nxt_norm ?_
            refine Ab.ret ?_
            refine Nxt_ret ?_
            obtain rfl := Option.some.inj h
            exact End_ret (doneO_ok (md := [false]) (by kernel_rfl))
          · replace h := cond_f hb6 h
            refine Ab.skip ?_
            refine Nxt_norm ?_
            refine Ab.seq ?_
            obtain ⟨r2, hr2, h⟩ := bind_some h
            refine Ab.regT hE hC hL [[], [], [.r [.row 22 1 (List.map (T.int .u64) r2.1), .tree (.int .i64 r2.2)] []]] { keep := [13], ren := [] } ⟨[(13, (.t (.int .i64 r2.2)))], []⟩ [(sp_shuffle_List n).fn [(.int .u64 pfar0), ((eA 1 (T.int .u8)) pseed0)] = some ([.row 22 1 (List.map (T.int .u64) r2.1), .tree (.int .i64 r2.2)], [])] (by kernel_rfl) ⟨(ap_shuffle_List n (by exact ⟨leT.refl _, leT.refl _, trivial⟩) hr2), trivial⟩ ?_
            refine Nxt_norm ?_
            refine Ab.seq ?_
            refine Ab.regT hE hC hL [] { keep := [6], ren := [] } ⟨[(6, (.t (.bool (r2.2 == (2:Int)))))], []⟩ [] (by kernel_rfl) trivial ?_
            refine Nxt_norm ?_
            refine Ab.ret ?_
            obtain rfl := Option.some.inj h
            exact End_ret (doneO_ok (md := [false]) (by kernel_rfl))

end Go.Mg
