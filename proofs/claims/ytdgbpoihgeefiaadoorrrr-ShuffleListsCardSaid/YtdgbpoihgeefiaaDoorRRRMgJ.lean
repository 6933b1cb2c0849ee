/- Composite literals, make, slice expressions, conversions. -/
import Derived.Test.YtdgbpoihgeefiaaDoorRRRMgI
namespace Go.Mg
open Go.RowKit
variable {P : Program} {E : Env} {C : Ctx} {ob obr : Nat → Option Ob} {m m' : Mem} {ρ ρ' : Rho} {w : World} {o : Oper} {a : Act} {r : Res}

/-! ### Parts laid into cells -/
theorem foldl_lay (off : Nat) : ∀ (vs : List Value) (k : Nat) (cells : Array Value), off + k + vs.length ≤ cells.size →
    ((vs.zipIdx k).foldl (fun cs x => cs.setIfInBounds (off + x.2) x.1) cells).toList = cells.toList.take (off + k) ++ (vs ++ cells.toList.drop (off + k + vs.length))
  | [], k, cells, _ => by simp
  | v :: vs, k, cells, h => by
    simp only [List.zipIdx_cons, List.foldl_cons]
    rw [foldl_lay off vs (k + 1) _ (by simp at h ⊢; omega)]
    simp only [List.length_cons, Array.toList_setIfInBounds] at h ⊢
    have hl : off + k < cells.toList.length := by simp; omega
    rw [List.set_eq_take_append_cons_drop, if_pos hl]
    have ht : (cells.toList.take (off + k)).length = off + k := by simp; omega
    generalize hA : cells.toList.take (off + k) = A at ht ⊢
    generalize hD : cells.toList.drop (off + k + 1) = D
    have e1 : (A ++ v :: D).take (off + (k + 1)) = A ++ [v] := by
      rw [show off + (k + 1) = A.length + 1 by omega, List.take_length_add_append]; simp
    have e2 : (A ++ v :: D).drop (off + (k + 1) + vs.length) = D.drop vs.length := by
      rw [show off + (k + 1) + vs.length = A.length + (vs.length + 1) by omega, List.drop_length_add_append]; simp
    have e3 : cells.toList.drop (off + k + (vs.length + 1)) = D.drop vs.length := by
      rw [← hD, List.drop_drop]; congr 1; omega
    rw [e1, e2, e3]
    simp
theorem fill_cons {place : Nat → Option (Nat × Nat)} {cells : Array Value} {i off size : Nat} {v : Value} {rest : List (Nat × Value)} (hp : place i = some (off, size)) (h1 : v.cells.size = size) (h2 : off + size ≤ cells.size) :
    Instr.fill place cells ((i, v) :: rest) = Instr.fill place (cells.toList.take off ++ (v.cells.toList ++ cells.toList.drop (off + size))).toArray rest := by
  simp only [Instr.fill, hp]
  rw [if_neg (by simp [h1]; omega)]
  congr 1
  apply Array.ext'
  have := foldl_lay off v.cells.toList 0 cells (by simp; omega)
  simp only [Nat.add_zero, Array.length_toList, h1] at this
  rw [← this]
  rw [← Array.foldl_toList, Array.toList_zipIdx]
/-- the parts of a literal, as values -/
def PartsOK (m : Mem) (ρ : Rho) : List (Nat × AV) → List (Nat × Value) → Prop
  | [], vs => vs = []
  | x :: ps, vs => ∃ v vs', vs = (x.1, v) :: vs' ∧ RV m ρ x.2 v ∧ PartsOK m ρ ps vs'
theorem fill_av (hρ : One ρ) {place : Nat → Option (Nat × Nat)} (sz : Nat → Nat) (of : Nat → Nat) : ∀ (ps : List (Nat × AV)) (vs : List (Nat × Value)) (l l' : List AV) (cells : List Value), PartsOK m ρ ps vs → RAs m ρ l cells → setPartsAV l ps = some l' →
    (∀ i z, l[i]? = some z → z.size = sz i ∧ AV.sizes (l.take i) = of i) → (∀ i, i < l.length → (i, ()) ∈ ps.map (fun x => (x.1, ())) → place i = some (of i, sz i)) →
    ∃ cells', Instr.fill place cells.toArray vs = some cells' ∧ RAs m ρ l' cells'.toList
  | [], vs, l, l', cells, hp, hr, hs, _, _ => by
    simp only [PartsOK] at hp; subst hp
    simp only [setPartsAV] at hs
    injection hs with hs; subst hs
    exact ⟨cells.toArray, rfl, by simpa using hr⟩
  | x :: ps, vs, l, l', cells, hp, hr, hs, hsz, hpl => by
    simp only [PartsOK] at hp
    obtain ⟨v, vs', rfl, hv, hp⟩ := hp
    obtain ⟨i, t⟩ := x
    simp only [setPartsAV] at hs
    cases hi : l[i]? with
    | none => simp [hi] at hs
    | some z =>
      simp only [hi] at hs
      split at hs
      · rename_i hc
        simp only [Bool.and_eq_true, beq_iff_eq] at hc
        obtain ⟨⟨hg, hsize⟩, hagg⟩ : (t.good = true ∧ t.size = z.size) ∧ True := ⟨hc, trivial⟩
        have hlt := (List.getElem?_eq_some_iff.1 hi).1
        have hcells := (RV0_of_RV hv hg).cells hρ
        have hlen := RA.len _ _ hcells
        simp only [Array.length_toList] at hlen
        obtain ⟨h1, h2⟩ := hsz i z hi
        obtain ⟨_, hfit⟩ := RAs.at_ hr hi
        have hset := RAs.set hr hi hcells hsize
        obtain ⟨cells', q1, q2⟩ := fill_av hρ sz of ps vs' (l.set i t) l' _ hp hset hs (by
            intro j y hj
            rw [List.getElem?_set] at hj
            have hsizes : AV.sizes ((l.set i t).take j) = AV.sizes (l.take j) := by
              rw [List.take_set]
              by_cases hij : i < j
              · exact avsizes_set _ i z t (by rw [List.getElem?_take, if_pos hij]; exact hi) hsize
              · rw [List.set_eq_of_length_le (by simp; omega)]
            split at hj
            · rename_i e
              subst e
              simp [hlt] at hj
              subst hj
              exact ⟨by omega, by rw [hsizes]; exact h2⟩
            · obtain ⟨g1, g2⟩ := hsz j y hj
              exact ⟨g1, by rw [hsizes]; exact g2⟩) (by
            intro j hj hm
            exact hpl j (by simpa using hj) (by simp only [List.map_cons, List.mem_cons]; exact .inr hm))
        refine ⟨cells', ?_, q2⟩
        rw [fill_cons (hpl i hlt (by simp)) (by omega) (by simp; omega)]
        rw [← h1, ← h2]
        simpa using q1
      · cases hs
theorem av_of_trees : ∀ (ps : List AV) (ts : List T), treesOf ps = some ts → ps = ts.map AV.t
  | [], ts, h => by simp [treesOf] at h; subst h; rfl
  | v :: ps, ts, h => by
    cases v <;> simp [treesOf] at h
    case t u =>
    obtain ⟨ts', h1, rfl⟩ := h
    simp [av_of_trees ps ts' h1]
theorem setParts_av : ∀ (ps : List (Nat × T)) (l l' : List T), setParts l ps = some l' → setPartsAV (l.map AV.t) (ps.map fun x => (x.1, AV.t x.2)) = some (l'.map AV.t)
  | [], l, l', h => by simp [setParts] at h; subst h; rfl
  | (i, t) :: ps, l, l', h => by
    simp only [setParts] at h
    cases hi : l[i]? with
    | none => simp [hi] at h
    | some z =>
      simp only [hi] at h
      split at h
      · rename_i hs
        have ih := setParts_av ps (l.set i t) l' h
        simp only [List.map_cons, setPartsAV, List.getElem?_map, hi, Option.map_some]
        rw [if_pos (by simp [AV.good, AV.size, hs])]
        rw [List.map_set] at ih
        exact ih
      · cases h
theorem trees_of_RAs : ∀ {l : List T} {cs : List Value}, RAs m ρ (l.map AV.t) cs → RTs m l cs
  | [], _, h => by simpa [RAs, RTs] using h
  | t :: l, _, h => by
    simp only [List.map_cons, RAs] at h
    obtain ⟨c, d, rfl, a, b⟩ := h
    simp only [RTs]
    exact ⟨c, d, rfl, by simpa [RA] using a, trees_of_RAs b⟩
theorem setParts_len : ∀ (ps : List (Nat × T)) (l l' : List T), setParts l ps = some l' → l'.length = l.length
  | [], l, l', h => by simp [setParts] at h; subst h; rfl
  | (i, t) :: ps, l, l', h => by
    simp only [setParts] at h
    split at h
    · split at h
      · have := setParts_len ps _ l' h; simpa using this
      · cases h
    · cases h
theorem fill_es (hρ : One ρ) {es : Nat} : ∀ (ps : List (Nat × T)) (vs : List (Nat × Value)) (l l' : List T) (cells : List Value), PartsOK m ρ (ps.map fun x => (x.1, AV.t x.2)) vs → REs m es l cells → setParts l ps = some l' →
    ∃ cells', Instr.fill (fun i => some (i * es, es)) cells.toArray vs = some cells' ∧ REs m es l' cells'.toList
  | [], vs, l, l', cells, hp, hr, hs => by
    simp only [List.map_nil, PartsOK] at hp; subst hp
    simp only [setParts] at hs
    injection hs with hs; subst hs
    exact ⟨cells.toArray, rfl, by simpa using hr⟩
  | (i, t) :: ps, vs, l, l', cells, hp, hr, hs => by
    simp only [List.map_cons, PartsOK] at hp
    obtain ⟨v, vs', rfl, hv, hp⟩ := hp
    simp only [setParts] at hs
    cases hi : l[i]? with
    | none => simp [hi] at hs
    | some z =>
      simp only [hi] at hs
      split at hs
      · rename_i hsize
        have hlt := (List.getElem?_eq_some_iff.1 hi).1
        have hcells := (RV0_of_RV hv (by simp [AV.good])).cells hρ
        simp only [RA] at hcells
        have hlen := RT.len _ _ hcells
        simp only [Array.length_toList] at hlen
        obtain ⟨q1, hfit⟩ := REs.at_ hr hi
        have hz := RT.len z _ q1
        simp at hz
        have hset := REs.set hr hlt hcells (by simp; omega)
        obtain ⟨cells', r1, r2⟩ := fill_es hρ ps vs' (l.set i t) l' _ hp hset hs
        refine ⟨cells', ?_, r2⟩
        rw [fill_cons (i := i) (off := i * es) (size := es) rfl (by omega) (by simp; omega)]
        simpa using r1
      · cases hs
/-- the parts' values out of the operands -/
theorem parts_ok {tm : List (Nat × AV)} (hev : ∀ x : Operand, OpdOK ob m ρ (evalAV E tm x) (a.eval x)) : ∀ (ps : List (Nat × Operand)), PartsOK m ρ ((ps.map (·.1)).zip ((ps.map (·.2)).map (evalAV E tm))) (ps.map fun x => (x.1, a.eval x.2))
  | [] => by simp [PartsOK]
  | x :: ps => by
    simp only [List.map_cons, List.zip_cons_cons, PartsOK]
    exact ⟨_, _, rfl, (hev x.2).rv, parts_ok hev ps⟩
theorem zip_fst {α β : Type} : ∀ (l : List α) (r : List β), l.length = r.length → (l.zip r).map (·.1) = l
  | [], _, _ => by simp
  | x :: l, [], h => by simp at h
  | x :: l, y :: r, h => by simp [zip_fst l r (by simpa using h)]
theorem names_setPartsAV : ∀ (ps : List (Nat × AV)) (l l' : List AV), setPartsAV l ps = some l' → ∀ n ∈ AV.namesL l', n ∈ AV.namesL l ∨ ∃ x ∈ ps, n ∈ x.2.names
  | [], l, l', h => by simp [setPartsAV] at h; subst h; exact fun n hn => .inl hn
  | (i, t) :: ps, l, l', h => by
    simp only [setPartsAV] at h
    split at h
    · rename_i z hz
      split at h
      · intro n hn
        rcases names_setPartsAV ps _ l' h n hn with h1 | ⟨x, hx, h2⟩
        · have : ∀ (l : List AV) (i : Nat), n ∈ AV.namesL (l.set i t) → n ∈ AV.namesL l ∨ n ∈ t.names := by
            intro l
            induction l with
            | nil => intro i h; simp [AV.namesL] at h
            | cons y l ih =>
              intro i h
              cases i with
              | zero =>
                simp only [List.set_cons_zero, AV.namesL, List.mem_append] at h ⊢
                rcases h with h | h
                · exact .inr h
                · exact .inl (.inr h)
              | succ i =>
                simp only [List.set_cons_succ, AV.namesL, List.mem_append] at h ⊢
                rcases h with h | h
                · exact .inl (.inl h)
                · rcases ih i h with h' | h'
                  · exact .inl (.inr h')
                  · exact .inr h'
          rcases this l i h1 with h2 | h2
          · exact .inl h2
          · exact .inr ⟨(i, t), by simp, h2⟩
        · exact .inr ⟨x, by simp [hx], h2⟩
      · cases h
    · cases h
theorem opBuild_ok (hE : EnvOK P E) (h : MS C ob m ρ w) {tm : List (Nat × AV)} (hev : ∀ x : Operand, OpdOK ob m ρ (evalAV E tm x) (a.eval x)) {ty : Nat} {parts : Array (Nat × Operand)} (ho : o.op = .build ty parts)
    (hr : opBuild E ty (parts.toList.map (·.1)) ((parts.toList.map (·.2)).map (evalAV E tm)) = some r) : Runs P C ob m ρ w o a r := by
  unfold opBuild at hr
  have hparts := parts_ok (E := E) hev parts.toList
  have hvs : (parts.map fun (i, x) => (i, a.eval x)).toList = parts.toList.map fun x => (x.1, a.eval x.2) := by simp
  split at hr
  · rename_i i hi
    have hty := hE.ty _ _ hi
    have hdesc := hty.desc
    have hlay := hty.lay
    obtain ⟨z, hz, hzr⟩ := hty.zero w
    obtain ⟨ii, hii, _, _, zz, hzz, _⟩ := hty.info
    have ez : zz = z := by
      simp [zeroValue, typeInfo, hii, hzz] at hz
      exact hz
    subst ez
    have hbuilt : ∀ cells', P.built ty (parts.toList.map fun x => (x.1, a.eval x.2)) = some cells' → (execOp a.eval o).run P w = .ok (.value (.agg cells')) w := by
      intro cells' hb
      have := run_build (P := P) w ty (parts.map fun (i, x) => (i, a.eval x)) cells' (by rw [hvs]; exact hb)
      simp [execOp, ho, this]
    split at hr
    · rename_i fs l hk hzero
      rw [hk] at hdesc hlay
      obtain ⟨fields, hu, hfs, _⟩ := hdesc
      obtain ⟨l0, e0, hlay⟩ := hlay
      rw [hzero] at e0; injection e0 with e0; subst e0
      rw [hzero] at hzr
      obtain ⟨cs, ecs, hcs⟩ := (rv0_agg rfl).1 (hzr m ρ)
      simp only [RT] at hcs
      have main : ∀ l', setPartsAV (l.map AV.t) ((parts.toList.map (·.1)).zip ((parts.toList.map (·.2)).map (evalAV E tm))) = some l' → ∃ cells', (execOp a.eval o).run P w = .ok (.value (.agg cells')) w ∧ RAs m ρ l' cells'.toList := by
        intro l' hl'
        obtain ⟨cells', q1, q2⟩ := fill_av h.one (place := fun i => (placesOf 0 l).toArray[i]?) (fun i => ((l[i]?).map T.size).getD 0) (fun i => T.sizes (l.take i)) _ _ _ l' cs hparts (RAs.of_trees (ρ := ρ) hcs) hl'
          (by
            intro j y hj
            simp only [List.getElem?_map, Option.map_eq_some_iff] at hj
            obtain ⟨u, hu', rfl⟩ := hj
            exact ⟨by simp [hu', AV.size], by rw [← List.map_take, sizes_map]⟩)
          (by
            intro j hj _
            have hj' : j < l.length := by simpa using hj
            simp [placesOf_get, List.getElem?_eq_getElem hj'])
        refine ⟨cells', hbuilt _ ?_, q2⟩
        simp only [Program.built, hii, hu, hzz, hlay fields hu, ecs, Value.cells]
        exact q1
      split at hr
      · rename_i ts hts
        simp only [Option.map_eq_some_iff] at hr
        obtain ⟨l', hl', rfl⟩ := hr
        have hav := av_of_trees _ _ hts
        have h2 := setParts_av _ l l' hl'
        have e3 : ((parts.toList.map (·.1)).zip ts).map (fun x => (x.1, AV.t x.2)) = (parts.toList.map (·.1)).zip (ts.map AV.t) := by
          rw [List.zip_map_right]; rfl
        rw [e3, ← hav] at h2
        obtain ⟨cells', q1, q2⟩ := main _ h2
        refine .pure h (x := .agg cells') q1 (RV_of_good ((rv0_agg rfl).2 ⟨cells'.toList, by simp, ?_⟩)) (by simp [AV.names])
        simp only [RT]
        exact trees_of_RAs q2
      · simp only [Option.map_eq_some_iff] at hr
        obtain ⟨l', hl', rfl⟩ := hr
        obtain ⟨cells', q1, q2⟩ := main _ hl'
        refine .pure h (x := .agg cells') q1 (RV_of_good ?_) ?_
        · unfold RV0
          rw [if_pos (show (AV.tup l').agg = true from rfl)]
          exact ⟨cells'.toList, by simp, by simpa [RA] using q2⟩
        · intro n hn
          simp only [AV.names] at hn
          rcases names_setPartsAV _ _ _ hl' n hn with h1 | ⟨x, hx, h1⟩
          · exfalso
            have : ∀ l : List T, AV.namesL (l.map AV.t) = [] := by
              intro l
              induction l with
              | nil => rfl
              | cons y l ih => simp [AV.namesL, AV.names, ih]
            rw [this] at h1; simp at h1
          · have := (List.of_mem_zip hx).2
            simp only [List.mem_map] at this
            obtain ⟨q, ⟨_, _, rfl⟩, e⟩ := this
            rw [← e] at h1
            exact (hev _).names n h1
    · rename_i n e es n' l hk hzero
      rw [hk] at hdesc hlay
      obtain ⟨es', l0, e0, j, hj, hjs⟩ := hlay
      rw [hzero] at e0; injection e0 with e1 e2 e3; subst e1; subst e2; subst e3
      rw [hzero] at hzr
      obtain ⟨cs, ecs, hcs⟩ := (rv0_agg rfl).1 (hzr m ρ)
      simp only [RT] at hcs
      split at hr
      · rename_i ts hts
        simp only [Option.map_eq_some_iff] at hr
        obtain ⟨l', hl', rfl⟩ := hr
        have hav := av_of_trees _ _ hts
        have e3 : ((parts.toList.map (·.1)).zip ts).map (fun x => (x.1, AV.t x.2)) = (parts.toList.map (·.1)).zip (ts.map AV.t) := by
          rw [List.zip_map_right]; rfl
        rw [hav, ← e3] at hparts
        obtain ⟨cells', q1, q2⟩ := fill_es h.one _ _ l l' cs hparts hcs.2 hl'
        refine .pure h (x := .agg cells') (hbuilt _ ?_) (RV_of_good ((rv0_agg rfl).2 ⟨cells'.toList, by simp, ?_⟩)) (by simp [AV.names])
        · simp only [Program.built, hii, hdesc, hzz, hj, hjs, ecs, Value.cells]
          exact q1
        · simp only [RT]
          exact ⟨by rw [setParts_len _ _ _ hl']; exact hcs.1, q2⟩
      · cases hr
    · cases hr
  · cases hr
end Go.Mg
