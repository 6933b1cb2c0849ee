/- Regions whose operations come in any order: the evaluator's order is as good as any. -/
import Derived.Test.YtdgbpoihgeefiaaDoorRRRMgS
namespace Go.Mg
open Go.RowKit
variable {P : Program} {E : Env} {C : Ctx} {m m' : Mem} {ρ ρ' : Rho} {w w' : World} {o : Oper} {a : Act} {r : Res} {ops : Array Oper}

theorem preOf_app : ∀ (l : List Oper) (acc : List Nat), ∃ t, preOf l acc = acc ++ t
  | [], acc => ⟨[], by simp [preOf]⟩
  | o :: l, acc => by
    obtain ⟨t, h⟩ := preOf_app l (acc ++ [bitsOf acc o.after.toList])
    exact ⟨bitsOf acc o.after.toList :: t, by rw [preOf, h]; simp⟩
theorem preOf_at : ∀ (l : List Oper) (acc : List Nat) (k : Nat) (o : Oper), l[k]? = some o → ∃ acc', (preOf l acc).getD (acc.length + k) 0 = bitsOf acc' o.after.toList ∧ ∀ j, acc'.getD j 0 = (preOf l acc).getD j 0 ∨ acc'.getD j 0 = 0
  | [], _, _, _, h => by simp at h
  | x :: l, acc, 0, o, h => by
    simp at h; subst h
    obtain ⟨t, ht⟩ := preOf_app l (acc ++ [bitsOf acc x.after.toList])
    refine ⟨acc, ?_, fun j => ?_⟩
    · rw [preOf, ht]; simp [List.getD_eq_getElem?_getD]
    · rw [preOf, ht]
      by_cases hj : j < acc.length
      · left; simp only [List.getD_eq_getElem?_getD, List.append_assoc]; rw [List.getElem?_append_left hj]
      · right; simp only [List.getD_eq_getElem?_getD]; rw [List.getElem?_eq_none (by omega)]; rfl
  | x :: l, acc, k + 1, o, h => by
    obtain ⟨acc', h1, h2⟩ := preOf_at l (acc ++ [bitsOf acc x.after.toList]) k o (by simpa using h)
    rw [preOf]
    simp only [List.length_append, List.length_cons, List.length_nil] at h1
    exact ⟨acc', by rw [show acc.length + (k + 1) = acc.length + (0 + 1) + k by omega]; exact h1, h2⟩
theorem bitsOf_bit : ∀ (acc : List Nat) (l : List Edge) (j : Nat), (bitsOf acc l).testBit j = true → ∃ e ∈ l, Region.binds .any e = true ∧ (e.on = j ∨ (acc.getD e.on 0).testBit j = true)
  | acc, [], j, h => by simp [bitsOf] at h
  | acc, e :: l, j, h => by
    unfold bitsOf at h
    split at h
    · rename_i hb
      simp only [Nat.testBit_or, Bool.or_eq_true] at h
      rcases h with (h | h) | h
      · rw [Nat.testBit_two_pow] at h
        exact ⟨e, by simp, hb, .inl (by simpa using h)⟩
      · exact ⟨e, by simp, hb, .inr h⟩
      · obtain ⟨e', h1, h2⟩ := bitsOf_bit acc l j h
        exact ⟨e', by simp [h1], h2⟩
    · obtain ⟨e', h1, h2⟩ := bitsOf_bit acc l j h
      exact ⟨e', by simp [h1], h2⟩
/-- what is done is done behind all that must come before it -/
def Closed (ops : Array Oper) (S : Nat → Bool) : Prop := ∀ k o, ops[k]? = some o → S k = true → ∀ e ∈ o.after.toList, Region.binds .any e = true → S e.on = true
theorem ord_done {pre : List Nat} (hpre : pre = preOf ops.toList []) (hlt : ∀ k o, ops[k]? = some o → ∀ e ∈ o.after.toList, Region.binds .any e = true → e.on < k) {S : Nat → Bool} (hc : Closed ops S) {j : Nat} :
    ∀ (n i : Nat), i ≤ n → ∀ o, ops[i]? = some o → (∀ e ∈ o.after.toList, Region.binds .any e = true → S e.on = true) → ordered pre j i = true → S j = true := by
  intro n
  induction n with
  | zero =>
    intro i hi o ho he hord
    unfold ordered at hord
    obtain ⟨acc', h1, h2⟩ := preOf_at ops.toList [] i o (by simpa using ho)
    simp only [List.length_nil, Nat.zero_add] at h1
    rw [hpre, h1] at hord
    obtain ⟨e, q1, q2, q3⟩ := bitsOf_bit acc' _ j hord
    have := hlt i o ho e q1 q2
    omega
  | succ n ih =>
    intro i hi o ho he hord
    unfold ordered at hord
    obtain ⟨acc', h1, h2⟩ := preOf_at ops.toList [] i o (by simpa using ho)
    simp only [List.length_nil, Nat.zero_add] at h1
    rw [hpre, h1] at hord
    obtain ⟨e, q1, q2, q3⟩ := bitsOf_bit acc' _ j hord
    have hlt' := hlt i o ho e q1 q2
    have hS := he e q1 q2
    rcases q3 with rfl | q3
    · exact hS
    · have hsz := (Array.getElem?_eq_some_iff.1 ho).1
      have ho' : ops[e.on]? = some ops[e.on] := Array.getElem?_eq_getElem (by omega)
      refine ih e.on (by omega) _ ho' (hc e.on _ ho' hS) ?_
      unfold ordered
      rcases h2 e.on with h3 | h3
      · rw [hpre, ← h3]; exact q3
      · rw [h3] at q3; simp at q3
theorem anyOK_ok {pre : List Nat} (h : anyOK ops pre = true) : pre = preOf ops.toList [] ∧ (∀ k o, ops[k]? = some o → ∀ e ∈ o.after.toList, Region.binds .any e = true → e.on < k) ∧
    ∀ j i x y, j < i → ops[j]? = some x → ops[i]? = some y → ordered pre j i = true ∨ apartT ops x y = true := by
  unfold anyOK at h
  simp only [Bool.and_eq_true, beq_iff_eq, List.all_eq_true, Bool.or_eq_true, Bool.not_eq_true', decide_eq_true_eq, decide_eq_false_iff_not] at h
  obtain ⟨⟨h1, h2⟩, h3⟩ := h
  have mem : ∀ k o, ops[k]? = some o → (o, k) ∈ ops.toList.zipIdx := by
    intro k o hk
    rw [List.mem_zipIdx_iff_getElem?]
    simpa using hk
  refine ⟨h1, ?_, ?_⟩
  · intro k o hk e he hb
    rcases h2 _ (mem k o hk) e he with h4 | h4
    · rw [hb] at h4; cases h4
    · exact h4
  · intro j i x y hlt hx hy
    rcases h3 _ (mem i y hy) _ (mem j x hx) with (h4 | h4) | h4
    · exact absurd hlt h4
    · exact .inl h4
    · exact .inr h4
theorem apartT_ok {x y : Oper} (h : apartT ops x y = true) : (∀ d, x.dst = some d → d ∉ readsOf ops y ∧ y.dst ≠ some d) ∧ ∀ d, y.dst = some d → d ∉ readsOf ops x := by
  unfold apartT at h
  simp only [Bool.and_eq_true] at h
  obtain ⟨h1, h2⟩ := h
  refine ⟨fun d hd => ?_, fun d hd => ?_⟩
  · rw [hd] at h1
    simp only [Bool.and_eq_true, Bool.not_eq_true', bne_iff_ne, ne_eq] at h1
    exact ⟨by have := h1.1; simpa using this, h1.2⟩
  · rw [hd] at h2
    simpa using h2
theorem evAny_ok (hE : EnvOK P E) (hC : ∀ n g, (n, g) ∈ C.lent → 50000 ≤ n) {pre : List Nat} (hok : anyOK ops pre = true) {s s' : St} (hev : evAny E ops pre 0 ops.toList [] [] s = some s') {Q : Exit → Act → World → Prop} {m0 : Mem}
    (hQ : ∀ m' ρ' a' w', Sub m0 m' → SRel E C s' m' ρ' a' w' → Q .normal a' w') (h : SRel E C s m0 ρ a w) (hG : GlobOK E.glob m0) : wpAny P .any ops Q ops.size (Array.replicate ops.size false) a w := by
  obtain ⟨L, hL, hrun, hchk, hfin⟩ := evAny_log ops.toList 0 [] [] [] s s' pre hev (by simp)
  obtain ⟨hpre, hlt, hconf⟩ := anyOK_ok hok
  have hlen : L.length = ops.size := by rw [← List.length_map (f := (·.1)), hL]; simp
  have at_ : ∀ (k : Nat) (x : Oper × Res × List Nat), L[k]? = some x → ops[k]? = some x.1 := by
    intro k x hk
    have : (L.map (·.1))[k]? = some x.1 := by rw [List.getElem?_map, hk]; rfl
    rw [hL] at this
    simpa using this
  have get_ : ∀ (k : Nat) (o : Oper), ops[k]? = some o → ∃ x : Oper × Res × List Nat, L[k]? = some x ∧ x.1 = o := by
    intro k o hk
    have hlt' := (Array.getElem?_eq_some_iff.1 hk).1
    have hx : L[k]? = some L[k] := List.getElem?_eq_getElem (by omega)
    have := at_ k _ hx
    rw [hk] at this
    exact ⟨L[k], hx, by injection this with this; exact this.symm⟩
  have main : ∀ (fuel : Nat) (listed : Array Bool) (m : Mem) (ρ : Rho) (a : Act) (w : World), listed.size = ops.size → ((List.range ops.size).filter fun i => !listed.getD i true).length ≤ fuel → Closed ops (fun k => listed.getD k false) →
      SRel E C (stS L (fun k => listed.getD k false) 0 s) m ρ a w → Sub m0 m → wpAny P .any ops Q fuel listed a w := by
    -- all is done
    have done : ∀ (listed : Array Bool) (m : Mem) (ρ : Rho) (a : Act) (w : World), listed.size = ops.size → Region.ready .any ops listed = [] → SRel E C (stS L (fun k => listed.getD k false) 0 s) m ρ a w → Sub m0 m → Q .normal a w := by
      intro listed m ρ a w hsz hnil hr hm
      have all : ∀ n k, k ≤ n → k < ops.size → listed.getD k false = true := by
        intro n
        induction n with
        | zero =>
          intro k hk hks
          cases hb : listed.getD k false with
          | true => rfl
          | false =>
            exfalso
            have : k ∈ Region.ready .any ops listed := by
              rw [mem_ready]
              refine ⟨by simp only [Array.getD_eq_getD_getElem?] at hb ⊢; rw [Array.getElem?_eq_getElem (by omega)] at hb ⊢; simpa using hb, ops[k], Array.getElem?_eq_getElem hks, fun e he hbd => ?_⟩
              have := hlt k _ (Array.getElem?_eq_getElem hks) e (by simpa using he) hbd
              omega
            rw [hnil] at this; simp at this
        | succ n ih =>
          intro k hk hks
          cases hb : listed.getD k false with
          | true => rfl
          | false =>
            exfalso
            have : k ∈ Region.ready .any ops listed := by
              rw [mem_ready]
              refine ⟨by simp only [Array.getD_eq_getD_getElem?] at hb ⊢; rw [Array.getElem?_eq_getElem (by omega)] at hb ⊢; simpa using hb, ops[k], Array.getElem?_eq_getElem hks, fun e he hbd => ?_⟩
              have hlt' := hlt k _ (Array.getElem?_eq_getElem hks) e (by simpa using he) hbd
              exact ih e.on (by omega) (by omega)
            rw [hnil] at this; simp at this
      refine hQ m ρ a w hm ?_
      rw [hfin]
      rw [stS_eq L (fun _ => true) (fun k => listed.getD k false) 0 s (fun k hk => by simp only [Nat.zero_add]; exact (all k k (Nat.le_refl _) (by omega)).symm)]
      exact hr
    intro fuel
    induction fuel with
    | zero =>
      intro listed m ρ a w hsz hcnt hcl hr hm
      have hnil : Region.ready .any ops listed = [] := by
        cases hq : Region.ready .any ops listed with
        | nil => rfl
        | cons i l =>
          exfalso
          have hi : i ∈ Region.ready .any ops listed := by rw [hq]; simp
          obtain ⟨h1, o, h2, _⟩ := mem_ready.1 hi
          have hlt' := (Array.getElem?_eq_some_iff.1 h2).1
          have : i ∈ (List.range ops.size).filter fun i => !listed.getD i true := by
            rw [List.mem_filter]; exact ⟨by simpa using hlt', by rw [h1]; rfl⟩
          have := List.length_pos_of_mem this
          omega
      exact ⟨hnil, done listed m ρ a w hsz hnil hr hm⟩
    | succ fuel ih =>
      intro listed m ρ a w hsz hcnt hcl hr hm
      refine ⟨fun hnil => done listed m ρ a w hsz hnil hr hm, fun i hi => ?_⟩
      obtain ⟨hun, o, ho, hall⟩ := mem_ready.1 hi
      have hilt := (Array.getElem?_eq_some_iff.1 ho).1
      obtain ⟨x, hx, rfl⟩ := get_ i o ho
      have hall' : ∀ e ∈ x.1.after.toList, Region.binds .any e = true → listed.getD e.on false = true := fun e he hb => hall e (by simpa using he) hb
      have hSi : listed.getD i false = false := by
        simp only [Array.getD_eq_getD_getElem?] at hun ⊢
        rw [Array.getElem?_eq_getElem (by omega)] at hun ⊢
        simpa using hun
      -- before and behind
      have before : ∀ k, ordered pre k i = true → listed.getD k false = true := fun k hk => ord_done hpre hlt hcl i i (Nat.le_refl _) _ ho hall' hk
      have behind : ∀ k, k < ops.size → ordered pre i k = true → listed.getD k false = false := by
        intro k hk hord
        cases hb : listed.getD k false with
        | false => rfl
        | true =>
          have hok' : ops[k]? = some ops[k] := Array.getElem?_eq_getElem hk
          have := ord_done hpre hlt hcl k k (Nat.le_refl _) _ hok' (hcl k _ hok' hb) hord
          rw [hSi] at this; cases this
      obtain ⟨r1, r2⟩ := Run.at_ L 0 s i x hrun hx
      simp only [Nat.zero_add] at r1 r2
      have gT : ∀ t ∈ readsOf ops x.1, get (stS L (fun k => listed.getD k false) 0 s).tm t = get (stS L (fun k => decide (k < i)) 0 s).tm t := by
        intro t ht
        refine Rd.congr (rdT t) L _ _ 0 s s rfl ?_
        intro k y hk hw
        simp only [Nat.zero_add]
        simp only [rdT] at hw
        have hok := at_ k y hk
        have hks := (Array.getElem?_eq_some_iff.1 hok).1
        by_cases hki : k < i
        · rw [decide_eq_true hki]
          refine before k ?_
          rcases hconf k i _ _ hki hok ho with h4 | h4
          · exact h4
          · exact absurd ht ((apartT_ok h4).1 t hw).1
        · rw [decide_eq_false hki]
          by_cases he : k = i
          · rw [he]; exact hSi
          · refine behind k hks ?_
            rcases hconf i k _ _ (by omega) ho hok with h4 | h4
            · exact h4
            · exact absurd ht ((apartT_ok h4).2 t hw)
      have gO : ∀ n ∈ x.2.2, get (stS L (fun k => listed.getD k false) 0 s).ob n = get (stS L (fun k => decide (k < i)) 0 s).ob n := by
        intro n hn
        refine Rd.congr (rdO n) L _ _ 0 s s rfl ?_
        intro k y hk hw
        simp only [Nat.zero_add]
        simp only [rdO] at hw
        have hks := (Array.getElem?_eq_some_iff.1 (at_ k y hk)).1
        by_cases hki : k < i
        · rw [decide_eq_true hki]
          refine before k ?_
          have := (Chk.pair L 0 [] [] hchk k i y x hki hk hx).1
          simp only [Nat.zero_add] at this
          rcases this with h4 | h4
          · exact h4
          · exact absurd hn (h4 n hw).1
        · rw [decide_eq_false hki]
          by_cases he : k = i
          · rw [he]; exact hSi
          · refine behind k hks ?_
            have := (Chk.pair L 0 [] [] hchk i k x y (by omega) hx hk).2
            simp only [Nat.zero_add] at this
            rcases this with h4 | h4
            · exact h4
            · exact absurd hn (h4 n hw)
      obtain ⟨heff, _⟩ := opEff_congr (E := E) (o := x.1) gT (by rw [← r2]; exact gO)
      refine opEff_ok hE hC hr (hG.mono hm) ho (heff.trans r1) ?_
      intro m' ρ' a' w' h1 h2
      have hset : ∀ k, (listed.setIfInBounds i true).getD k false = (listed.getD k false || k == i) := by
        intro k
        simp only [Array.getD_eq_getD_getElem?, Array.getElem?_setIfInBounds]
        by_cases he : i = k
        · subst he
          rw [if_pos rfl, if_pos (by omega)]; simp
        · rw [if_neg he]
          have : (k == i) = false := by simp; omega
          rw [this]; simp
      refine ih (listed.setIfInBounds i true) m' ρ' a' w' (by simpa using hsz) ?_ ?_ ?_ (hm.trans h1)
      · -- one less is left
        have hsub : ((List.range ops.size).filter fun j => !(listed.setIfInBounds i true).getD j true) = (((List.range ops.size).filter fun j => !listed.getD j true).filter fun j => j != i) := by
          rw [List.filter_filter]
          refine List.filter_congr ?_
          intro j hj
          have hj' : j < listed.size := by rw [hsz]; simpa using hj
          simp only [Array.getD_eq_getD_getElem?, Array.getElem?_setIfInBounds]
          by_cases he : i = j
          · subst he; rw [if_pos rfl, if_pos hj']; simp
          · rw [if_neg he]
            have : (j != i) = true := by simp; omega
            rw [this]; simp
        rw [hsub]
        have hmem : i ∈ (List.range ops.size).filter fun j => !listed.getD j true := by
          rw [List.mem_filter]; exact ⟨by simpa using hilt, by rw [hun]; rfl⟩
        have := List.length_filter_lt_length_iff_exists (p := fun j => j != i).2 ⟨i, hmem, by simp⟩
        omega
      · intro k o' hk hS e he hb
        simp only [hset] at hS ⊢
        rw [Bool.or_eq_true] at hS ⊢
        rcases hS with h4 | h4
        · exact .inl (hcl k o' hk h4 e he hb)
        · have : k = i := by simpa using h4
          subst this
          rw [ho] at hk; injection hk with hk; subst hk
          exact .inl (hall' e he hb)
      · have : (fun k => (listed.setIfInBounds i true).getD k false) = fun k => listed.getD k false || k == i := funext hset
        rw [this]
        refine h2.ext (fun t => ?_) (fun n => ?_)
        · refine (Rd.comm (rdT t) L _ i s x hx ?_).symm
          intro k y hik hk hS hw1 hw2
          simp only [rdT] at hw1 hw2
          have hok := at_ k y hk
          have hks := (Array.getElem?_eq_some_iff.1 hok).1
          rcases hconf i k _ _ hik ho hok with h4 | h4
          · have := behind k hks h4; rw [this] at hS; cases hS
          · exact ((apartT_ok h4).1 t hw1).2 hw2
        · refine (Rd.comm (rdO n) L _ i s x hx ?_).symm
          intro k y hik hk hS hw1 hw2
          simp only [rdO] at hw1 hw2
          have hks := (Array.getElem?_eq_some_iff.1 (at_ k y hk)).1
          have := (Chk.pair L 0 [] [] hchk i k x y hik hx hk).1
          simp only [Nat.zero_add] at this
          rcases this with h4 | h4
          · have := behind k hks h4; rw [this] at hS; cases hS
          · exact (h4 n hw1).2 hw2
  refine main ops.size _ m0 ρ a w (by simp) ?_ ?_ ?_ (Sub.refl m0)
  · exact Nat.le_trans (List.length_filter_le _ _) (by simp)
  · intro k o hk hS
    simp [Array.getD_eq_getD_getElem?, Array.getElem?_replicate] at hS
    split at hS <;> simp_all
  · rw [stS_eq L _ (fun _ => false) 0 s (fun k hk => by simp [Array.getD_eq_getD_getElem?, Array.getElem?_replicate]; split <;> rfl), stS_none]
    exact h
theorem SRel.drawn {s : St} (h : SRel E C s m ρ a w) : SRel E C s m ρ a { w with drawn := w.drawn + 1 } := ⟨h.ms.grow' (Grow.drew w), h.ts⟩
end Go.Mg
