/- For every input the law ShuffleLists returns true, and what is handed in reads behind the call as it read before. No condition. -/
import Derived.Test.YtdgbpoihgeefiaaDoorRRRCards
import Derived.Test.YtdgbpoihgeefiaaDoorRRRTie
import Derived.LaidMore
import Derived.OpenShut
import Derived.Stop.Joined
import Derived.SevenTiedAt
import Derived.Test.YtdgbpoihgeefiaaDoorRRRRows
import Derived.Test.YtdgbpoihgeefiaaDoorRRRAW1
import Derived.Test.YtdgbpoihgeefiaaDoorRRRPShuffleLists
import Derived.ProofKit
namespace Go.Proofs.YtdgbpoihgeefiaaDoorRRR
open Go.ChangeShapes Go.WideShapes Go.ChangeAt Go.RowKit Go.Mg
theorem Tryd.own : ownKnob Tryd.prog.godebug = none := by kernel_rfl
theorem Tryd.laidOut : laidOutB Tryd.prog = true := by kernel_rfl
theorem gn_0 : Tryd.prog.globalNamed "keystone/digest.k" = some 0 := by kernel_rfl
theorem gt_0 : (Tryd.prog.globals[0]?).map (·.type) = some 69 := by kernel_rfl
set_option maxRecDepth 100000 in
theorem door_met (os : Os) (args : Array Value) : laidMetH Tryd.prog Rows.shuffleListsRow.laid ((World.doorLaid Tryd.prog 400 os).forCall (fun _ _ => 0) ⟨#[], args, []⟩).memory :=
  laidMetH_of_parts3 (fuel := 8) (laidMet_of_run' 8 (by kernel_rfl) (by kernel_rfl)) (by kernel_rfl) (by kernel_rfl)
theorem glob_of_laid {W : World} (h : laidMetH Tryd.prog Rows.shuffleListsRow.laid W) : GlobOK glob (memW W) := by
  rw [MakeChecks.laidMetH_plain _ _ _ (by kernel_rfl)] at h
  obtain ⟨ps, ⟨g0, t0, cs0, f0, p0, q0, hg0, ht0, hv0, hd0, _, _⟩, _, _⟩ := h
  obtain rfl := Option.some.inj (gn_0.symm.trans hg0)
  obtain rfl := Option.some.inj (gt_0.symm.trans ht0)
  have k0 : ∃ us, RT (memW W) ((eA 1 (T.int .u32)) g_0) us ∧ At (memW W) 0 0 us :=
    glob_ints gn_0 hv0 (laid_ints (k := .u32) (l := g_0.l) Tryd.underlying69 Tryd.underlying64 (by kernel_rfl) (show DataW.trod _ Tryd.prog W 0 _ false f0 69 _ = some (.agg (g_0.l.map fun x => .lit (.int .u32 x)), p0) from hd0)) 64 (by decide +kernel)
  intro g t h
  match g, h with
  | 0, h =>
    cases h
    exact k0
  | n + 1, h => cases h
set_option maxRecDepth 100000 in
theorem shuffleLists_lifted (os : Os) (started : os.Started) (H : Type) (enc : TypeId × Value → H) :
    ReturnsInHanded {} Tryd.checked os 4 .any (fun w args => (Rows.shuffleListsSpec.pre enc Tryd.prog Tryd.f4 [] false w args ∧ laidMetH Tryd.prog Rows.shuffleListsRow.laid w) ∧ sizedMet enc Tryd.prog Tryd.f4 (OpenSpec.ofChange Rows.shuffleListsSpec) false w args)
      (Rows.shuffleListsSpec.post enc Tryd.prog Tryd.f4 false true false false) := by
  refine returnsInHanded_of_change_and (C := Tryd.checked) (X := fun w _ => laidMetH Tryd.prog Rows.shuffleListsRow.laid w) (fun _ _ _ hh h => h.of_heap hh) Tryd.own started (by kernel_rfl) Tryd.func4
    (ChangeSpec.witness_shaped (enc := enc) (C := Tryd.checked) (os := os) (X := fun w _ => laidMetH Tryd.prog Rows.shuffleListsRow.laid w) false (World.doorLaid Tryd.prog 400 os) #[.int .u64 0, .agg #[.int .u8 0, .int .u8 0, .int .u8 0, .int .u8 0, .int .u8 0, .int .u8 0, .int .u8 0, .int .u8 0, .int .u8 0, .int .u8 0, .int .u8 0, .int .u8 0, .int .u8 0, .int .u8 0, .int .u8 0, .int .u8 0, .int .u8 0, .int .u8 0, .int .u8 0, .int .u8 0, .int .u8 0, .int .u8 0, .int .u8 0, .int .u8 0, .int .u8 0, .int .u8 0, .int .u8 0, .int .u8 0, .int .u8 0, .int .u8 0, .int .u8 0, .int .u8 0]] 8 rfl (World.shaped_of_RefB (by kernel_rfl) (by kernel_rfl)) (by kernel_rfl) (by kernel_rfl) (by kernel_rfl) (door_met os _)) ?_
  intro W base args ds gs before hval0 hW _ _ hL _
  have hval : ∀ (j : Nat) t v, Tryd.f4.params[j]? = some t → args[j]? = some v → Value.okWide Tryd.prog W .any base t v := hval0
  have hW' := hW
  obtain ⟨p, q, hA0, hV, rfl, hfz, hnd⟩ := hW
  have hA : DataW.TrodAll enc Tryd.prog W 0 (fun _ => true) true [22, 24] args.toList ds p := hA0
  obtain ⟨us, hty, hargs⟩ := args_ok (base' := base) (tl := tys) (tys_ok tys_chk) (by decide +kernel) [22, 24] args.toList ds p (by decide +kernel) hA (fun j t v h1 h2 => hval j t v (by rw [← Array.getElem?_toList]; exact h1) (by rw [← Array.getElem?_toList]; exact h2))
  have hlen := trodAll_len hA
  obtain ⟨rfl, rfl⟩ := trodVars_none hV
  obtain ⟨u0, us0, rfl, ⟨n0, t0⟩, hty0⟩ := typedAll_cons hty
  obtain ⟨x0, rfl, w0⟩ := y_22 _ _ t0
  obtain ⟨u1, us1, rfl, ⟨n1, t1⟩, hty1⟩ := typedAll_cons hty0
  obtain ⟨x1, rfl, w1⟩ := y_24 _ _ t1
  obtain rfl := typedAll_nil hty1
  obtain ⟨d0, ds0, rfl, hlen0⟩ := list_cons hlen
  obtain ⟨d1, ds1, rfl, hlen1⟩ := list_cons hlen0
  obtain rfl := list_nil hlen1
  obtain ⟨n, hn⟩ := pure_ShuffleLists x0 w0 x1 w1
  have hw := law_walk (ok_law08_ShuffleLists n) rfl (glob_of_laid hL) hargs (ap_law08_ShuffleLists n (by exact ⟨leT.refl _, leT.refl _, trivial⟩) hn)
  rw [Array.toArray_toList] at hw
  refine hw.mono fun e W' ⟨he, hb⟩ => ?_
  subst he
  exact ⟨_, rfl, law_post (tb := 4) hW' rfl rfl rfl rfl Tryd.laidOut (readable_all (by kernel_rfl)) (by kernel_rfl) (by kernel_rfl) hb⟩
theorem shuffleLists_row : Rows.ShuffleListsSaid :=
  OpenClaim.holds_of_wide 4 Tryd.f4 rfl rfl rfl rfl rfl rfl rfl ⟨rfl, rfl, rfl, rfl, rfl⟩ rfl rfl rfl rfl rfl (by kernel_rfl) Tryd.func4 (by kernel_rfl)
    (of_decide_eq_true (by kernel_rfl)) (by unfold Func.isWrapper; first | (rw [if_pos (by decide +kernel)]; kernel_rfl) | (rw [if_neg (by decide +kernel)]; exact ⟨rfl, rfl⟩))
    (fun os started H enc _ => shuffleLists_lifted os started H enc)
theorem shuffleLists_holds : Rows.ShuffleListsCardSaid :=
  Claim7.holds_tied_plain_at .later [] [.data] true (true, "f122e2933d9be96caa9be7057dc5556007f645dff521ab10e16be0ce3c70c6a2") false
    shuffleLists_row (fun _ h => by cases h) (by kernel_rfl) (fun _ h => by cases h) shuffleLists_row_tie rfl ⟨rfl, rfl⟩ (by kernel_rfl) rfl
    (fun f fn hf hfn => by
      obtain rfl : f = 4 := Option.some.inj ((show Tryd.prog.funcNamed "keystone/keystonelaw08.ShuffleLists" = some 4 by kernel_rfl).symm.trans hf) |>.symm
      obtain rfl : fn = Tryd.f4 := (Option.some.inj (Tryd.func4.symm.trans hfn)).symm
      exact ⟨by kernel_rfl, fun j t ht => by
        have ht' : [22, 24][j]? = some t := by rw [← Array.getElem?_toList] at ht; exact ht
        have hm : t ∈ [22, 24] := List.mem_of_getElem? ht'
        have hall : ([22, 24].all fun u => !Tryd.prog.wantsStandIn u) = true := by kernel_rfl
        exact (show Tryd.prog.wantsStandIn t = false by simpa using List.all_eq_true.1 hall t hm)⟩)
    (by kernel_rfl)
end Go.Proofs.YtdgbpoihgeefiaaDoorRRR
#print axioms Go.Proofs.YtdgbpoihgeefiaaDoorRRR.shuffleLists_holds
