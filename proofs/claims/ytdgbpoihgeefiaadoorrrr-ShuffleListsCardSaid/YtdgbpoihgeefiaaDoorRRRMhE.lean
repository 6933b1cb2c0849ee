/- The told evaluator: calls, whole regions. -/
import Derived.Test.YtdgbpoihgeefiaaDoorRRRMhD
namespace Go.Mg
open Go

/-! ### Values as trees, told -/
def asTreeO (ob : Nat → Option Ob) : AV → Option (T × List Nat × List Prop)
  | .win n p off es lo len => match ob n with
    | some o => match o.elemsAtO p off es lo with
      | some (l, cs) => if n < 50000 then some (.slc es ((l.drop lo).take len), [n], (lo + len ≤ l.length) :: cs) else none
      | none => none
    | none => none
  | v => (asTreeAll ob v).map fun x => (x.1, x.2, [])
theorem asTreeO_ok {ob : Nat → Option Ob} {v : AV} {t : T} {sh : List Nat} {cs : List Prop} (h : asTreeO ob v = some (t, sh, cs)) (hc : AllP cs) : asTreeAll ob v = some (t, sh) := by
  unfold asTreeO at h
  split at h
  · split at h
    · rename_i o ho
      split at h
      · rename_i l cs' hl
        split at h
        · rename_i hn
          simp only [Option.some.injEq, Prod.mk.injEq] at h
          obtain ⟨rfl, rfl, rfl⟩ := h
          simp only [asTreeAll, asTree, ho, Ob.elemsAtO_ok hl hc.2]
          rw [if_pos ⟨hc.1, hn⟩]
        · cases h
      · cases h
    · cases h
  · simp only [Option.map_eq_some_iff, Prod.mk.injEq] at h
    obtain ⟨⟨t', sh'⟩, h1, rfl, rfl, _⟩ := h
    exact h1
def asTreeLO (ob : Nat → Option Ob) : List AV → Option (List T × List Nat × List Prop)
  | [] => some ([], [], [])
  | v :: l => match asTreeO ob v, asTreeLO ob l with
    | some (t, a, c), some (ts, b, d) => some (t :: ts, a ++ b, c ++ d)
    | _, _ => none
theorem asTreeLO_ok {ob : Nat → Option Ob} : ∀ {l : List AV} {ts : List T} {sh : List Nat} {cs : List Prop}, asTreeLO ob l = some (ts, sh, cs) → AllP cs → asTreeL ob l = some (ts, sh)
  | [], ts, sh, cs, h, hc => by
    simp only [asTreeLO, Option.some.injEq, Prod.mk.injEq] at h
    obtain ⟨rfl, rfl, _⟩ := h
    rfl
  | v :: l, ts, sh, cs, h, hc => by
    simp only [asTreeLO] at h
    split at h
    · rename_i t a c ts' b d h1 h2
      simp only [Option.some.injEq, Prod.mk.injEq] at h
      obtain ⟨rfl, rfl, rfl⟩ := h
      obtain ⟨h3, h4⟩ := AllP_append hc
      simp only [asTreeL, asTreeO_ok h1 h3, asTreeLO_ok h2 h4]
    · cases h
def argsO (ob : Nat → Option Ob) : List Bool → List AV → Option (List T × List Nat × List Prop)
  | true :: bs, .ref n [] 0 :: l => match ob n, argsO ob bs l with
    | some (.var false _ (.t c)), some (ts, b, d) => some (c :: ts, b, d)
    | _, _ => none
  | false :: bs, v :: l => match asTreeO ob v, argsO ob bs l with
    | some (t, a, c), some (ts, b, d) => some (t :: ts, a ++ b, c ++ d)
    | _, _ => none
  | [], l => asTreeLO ob l
  | _, _ => none
theorem argsO_ok {ob : Nat → Option Ob} : ∀ {bs : List Bool} {l : List AV} {ts : List T} {sh : List Nat} {cs : List Prop}, argsO ob bs l = some (ts, sh, cs) → AllP cs → argsOf ob bs l = some (ts, sh) := by
  intro bs l
  fun_induction argsO ob bs l with
  | case1 bs n l ty c ts b d h1 ho ih =>
    intro ts' sh cs h hc
    simp only [Option.some.injEq, Prod.mk.injEq] at h
    obtain ⟨rfl, rfl, rfl⟩ := h
    first | simp only [argsOf, ho, ih h1 hc] | simp only [argsOf, h1, ih ho hc]
  | case2 => intro _ _ _ h; cases h
  | case3 bs v l t a c ts b d h1 h2 ih =>
    intro ts' sh cs h hc
    simp only [Option.some.injEq, Prod.mk.injEq] at h
    obtain ⟨rfl, rfl, rfl⟩ := h
    obtain ⟨h3, h4⟩ := AllP_append hc
    first | simp only [argsOf, asTreeO_ok h1 h3, ih h2 h4] | simp only [argsOf, asTreeO_ok h2 h3, ih h1 h4]
  | case4 => intro _ _ _ h; cases h
  | case5 l =>
    intro ts' sh cs h hc
    cases l <;> (simp only [argsOf]; exact asTreeLO_ok h hc)
  | case6 => intro _ _ _ h; cases h
def fnO (E : Env) (dst : Option Tmp) (ob : Nat → Option Ob) : List AV → List Orc → Option (Res × List Prop)
  | .t (.fn f) :: as, [.r rs us] => match E.fns f with
    | some sp => match argsO ob sp.lent as with
      | some (ts, sh, cs) => match lentBack ob sp.lent as us, results ob (dst.getD 0) 0 rs with
          | some lb, some (vs, nw) => if (dst.isNone && !rs.isEmpty) || (sh.any fun n => (lentNames sp.lent as).contains n) || decide (4 < rs.length) || !decide (lentNames sp.lent as).Nodup then none
            else some (⟨pack vs, (if sp.flat then [] else shares ob sh) ++ (lb ++ nw)⟩, (sp.fn ts = some (rs, us)) :: cs)
          | _, _ => none
      | none => none
    | none => none
  | _, _ => none
theorem fnO_ok {E : Env} {dst : Option Tmp} {ob : Nat → Option Ob} {ps : List AV} {q : List Orc} {r : Res} {cs : List Prop} (h : fnO E dst ob ps q = some (r, cs)) (hc : AllP cs) : opFn E dst ob ps = some r := by
  unfold fnO at h
  split at h
  · split at h
    · rename_i sp hsp
      split at h
      · rename_i ts sh cs' ha
        split at h
        · rename_i lb vs nw hlb hres
          split at h
          · cases h
          · rename_i hcond
            simp only [Option.some.injEq, Prod.mk.injEq] at h
            obtain ⟨rfl, rfl⟩ := h
            simp only [opFn, hsp, argsO_ok ha hc.2, hc.1, hlb, hres]
            rw [if_neg hcond]
        · cases h
      · cases h
    · cases h
  · cases h
def callO (E : Env) (c : Call) (dst : Option Tmp) (ob : Nat → Option Ob) (ps : List AV) (q : List Orc) : Option (Res × List Prop) :=
  match c.callee with
  | .builtin .len => lenO E c.argTypes.toList ob ps q
  | .builtin .append => appendO E c.argTypes.toList dst ob ps q
  | .builtin .copy => copyO E c.argTypes.toList ob ps q
  | .value _ => fnO E dst ob ps q
  | _ => none
def moveO : List AV → List Orc → Option (Res × List Prop)
  | [.t (.bool b)], [.b r] => some (⟨.t (.bool r), []⟩, [b = r])
  | _, _ => none
theorem moveO_ok {ps : List AV} {q : List Orc} {r : Res} {cs : List Prop} (h : moveO ps q = some (r, cs)) (hc : AllP cs) : opMove ps = some r := by
  unfold moveO at h
  split at h
  · simp only [Option.some.injEq, Prod.mk.injEq] at h
    obtain ⟨rfl, rfl⟩ := h
    simp only [opMove, hc.1]
  · cases h
def opO (E : Env) (o : Oper) (ps : List AV) (ob : Nat → Option Ob) (q : List Orc) : Option (Res × List Prop) :=
  match q with
  | [] => (opSem E o ps ob).map fun r => (r, [])
  | q => match o.op with
    | .load ty _ => loadO E ty ob ps q
    | .store ty _ _ => storeO E ty ob ps q
    | .binOp op ty _ _ _ => binO E op ty ps q
    | .convert src dst _ => convO E src dst ob ps q
    | .indexAddr ty _ _ => ixO E ty ob ps q
    | .index ty _ _ => indexO E ty ps q
    | .makeSlice ty _ _ => makeO E ty o.dst ob ps q
    | .slice ty _ lo hi mx => sliceO E ty lo.isSome hi.isSome mx.isSome ob ps q
    | .call c => callO E c o.dst ob ps q
    | .move _ => moveO ps q
    | .assign _ => moveO ps q
    | _ => none
theorem opO_ok {E : Env} {o : Oper} {ob : Nat → Option Ob} {ps : List AV} {q : List Orc} {r : Res} {cs : List Prop} (h : opO E o ps ob q = some (r, cs)) (hc : AllP cs) : opSem E o ps ob = some r := by
  unfold opO at h
  split at h
  · simp only [Option.map_eq_some_iff, Prod.mk.injEq] at h
    obtain ⟨r', h1, rfl, _⟩ := h
    exact h1
  · split at h
    · rename_i ho; simp only [opSem, ho]; exact loadO_ok h hc
    · rename_i ho; simp only [opSem, ho]; exact storeO_ok h hc
    · rename_i ho; simp only [opSem, ho]; exact binO_ok h hc
    · rename_i ho; simp only [opSem, ho]; exact convO_ok h hc
    · rename_i ho; simp only [opSem, ho]; exact ixO_ok h hc
    · rename_i ho; simp only [opSem, ho]; exact indexO_ok h hc
    · rename_i ho; simp only [opSem, ho]; exact makeO_ok h hc
    · rename_i ho; simp only [opSem, ho]; exact sliceO_ok h hc
    · rename_i c ho
      simp only [opSem, ho]
      unfold callO at h
      unfold opCall
      split at h
      · rename_i hk; simp only [hk]; exact lenO_ok h hc
      · rename_i hk; simp only [hk]; exact appendO_ok h hc
      · rename_i hk; simp only [hk]; exact copyO_ok h hc
      · rename_i hk; simp only [hk]; exact fnO_ok h hc
      · cases h
    · rename_i ho; simp only [opSem, ho]; exact moveO_ok h hc
    · rename_i ho; simp only [opSem, ho]; exact moveO_ok h hc
    · cases h
/-- the objects that an operation sees -/
def seen (s : St) (l : List Nat) : Nat → Option Ob := fun n => if n ∈ l then get s.ob n else none
def effO (E : Env) (ops : Array Oper) (s : St) (o : Oper) (q : List Orc) : Option (Res × List Prop) :=
  match wantedAV ops s.tm o with
  | some true => match o.dst with
    | some d => if d < E.ntmps then opO E o ((opnds o.op).map (evalAV E s.tm)) (seen s (touched o ((opnds o.op).map (evalAV E s.tm)))) q else none
    | none => opO E o ((opnds o.op).map (evalAV E s.tm)) (seen s (touched o ((opnds o.op).map (evalAV E s.tm)))) q
  | some false => some (⟨.many [], []⟩, [])
  | none => none
theorem effO_ok {E : Env} {ops : Array Oper} {s : St} {o : Oper} {q : List Orc} {r : Res} {cs : List Prop} (h : effO E ops s o q = some (r, cs)) (hc : AllP cs) : opEff E ops s o = some r := by
  unfold effO at h
  unfold opEff
  split at h
  · rename_i hw
    simp only [hw]
    split at h
    · rename_i d hd
      simp only [hd]
      split at h
      · rename_i hlt
        rw [if_pos hlt]
        exact opO_ok h hc
      · cases h
    · rename_i hd
      simp only [hd]
      exact opO_ok h hc
  · rename_i hw
    simp only [hw]
    simp only [Option.some.injEq, Prod.mk.injEq] at h
    rw [← h.1]
  · cases h
def evT (E : Env) (ops : Array Oper) : List Oper → List (List Orc) → St → Option (St × List Prop)
  | [], _, s => some (s, [])
  | o :: r, qs, s => match effO E ops s o (qs.headD []) with
    | some (e, cs) => match evT E ops r qs.tail (apply s o e) with
      | some (s', ds) => some (s', cs ++ ds)
      | none => none
    | none => none
theorem evT_ok {E : Env} {ops : Array Oper} : ∀ {l : List Oper} {qs : List (List Orc)} {s s' : St} {cs : List Prop}, evT E ops l qs s = some (s', cs) → AllP cs → evOps E ops l s = some s'
  | [], _, s, s', cs, h, _ => by
    simp only [evT, Option.some.injEq, Prod.mk.injEq] at h
    rw [← h.1]; rfl
  | o :: r, qs, s, s', cs, h, hc => by
    simp only [evT] at h
    split at h
    · rename_i e c1 he
      split at h
      · rename_i s1 c2 hr
        simp only [Option.some.injEq, Prod.mk.injEq] at h
        obtain ⟨rfl, rfl⟩ := h
        obtain ⟨h1, h2⟩ := AllP_append hc
        simp only [evOps, opStep, effO_ok he h1, Option.map_some]
        exact evT_ok hr h2
      · cases h
    · cases h
def evTA (E : Env) (ops : Array Oper) (pre : List Nat) : Nat → List Oper → List (List Orc) → List (Nat × List Nat) → List (Nat × List Nat) → St → Option (St × List Prop)
  | _, [], _, _, _, s => some (s, [])
  | i, o :: r, qs, wl, tl, s => match effO E ops s o (qs.headD []) with
    | some (e, cs) =>
      if (wl.all fun x => ordered pre x.1 i || disj x.2 (touched o ((opnds o.op).map (evalAV E s.tm)) ++ e.wr.map (·.1))) && ((e.wr.map (·.1)).isEmpty || tl.all fun x => ordered pre x.1 i || disj (e.wr.map (·.1)) x.2) then
        match evTA E ops pre (i + 1) r qs.tail (if (e.wr.map (·.1)).isEmpty then wl else (i, e.wr.map (·.1)) :: wl) ((i, touched o ((opnds o.op).map (evalAV E s.tm))) :: tl) (apply s o e) with
        | some (s', ds) => some (s', cs ++ ds)
        | none => none
      else none
    | none => none
theorem evTA_ok {E : Env} {ops : Array Oper} {pre : List Nat} : ∀ {l : List Oper} {i : Nat} {qs : List (List Orc)} {wl tl : List (Nat × List Nat)} {s s' : St} {cs : List Prop}, evTA E ops pre i l qs wl tl s = some (s', cs) → AllP cs → evAny E ops pre i l wl tl s = some s'
  | [], _, _, _, _, s, s', cs, h, _ => by
    simp only [evTA, Option.some.injEq, Prod.mk.injEq] at h
    rw [← h.1]; rfl
  | o :: r, i, qs, wl, tl, s, s', cs, h, hc => by
    simp only [evTA] at h
    split at h
    · rename_i e c1 he
      split at h
      · rename_i hq
        split at h
        · rename_i s1 c2 hr
          simp only [Option.some.injEq, Prod.mk.injEq] at h
          obtain ⟨rfl, rfl⟩ := h
          obtain ⟨h1, h2⟩ := AllP_append hc
          simp only [evAny, effO_ok he h1]
          rw [if_pos hq]
          exact evTA_ok hr h2
        · cases h
      · cases h
    · cases h
end Go.Mg
