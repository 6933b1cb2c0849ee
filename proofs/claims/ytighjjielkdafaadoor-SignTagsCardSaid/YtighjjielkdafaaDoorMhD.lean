/- The told evaluator: operations, regions. -/
import Derived.Test.YtighjjielkdafaaDoorMhC
namespace Go.Mg
open Go

def ixO (E : Env) (ty : Nat) (ob : Nat → Option Ob) : List AV → List Orc → Option (Res × List Prop)
  | [x, .t (.int _ n)], q => match E.ty ty with
    | some i => match i.d with
      | .array len e => match E.ty e with
        | some j => if 0 < j.size then match x, q with
          | .ref m p off, [.c] => some (⟨.ref m (p ++ [n.toNat]) (off + n.toNat * j.size), []⟩, [0 ≤ n, n < len])
          | .t (.ptr (.arr es _ l)), [.t u] => if es = j.size then some (⟨.t (.ptr u), []⟩, [0 ≤ n, n < len, l[n.toNat]? = some u]) else none
          | _, _ => none else none
        | none => none
      | .slice e => match E.ty e with
        | some j => if 0 < j.size then match x, q with
          | .t (.slc es l), [.t u] => if es = j.size then some (⟨.t (.ptr u), []⟩, [0 ≤ n, l[n.toNat]? = some u]) else none
          | .tight es l, [.t u] => if es = j.size then some (⟨.t (.ptr u), []⟩, [0 ≤ n, l[n.toNat]? = some u]) else none
          | .own m, [.c] => match ob m with
            | some (.row _ _ es l) => if es = j.size then some (⟨.ref m [n.toNat] (n.toNat * es), []⟩, [0 ≤ n, n.toNat < l.length]) else none
            | _ => none
          | .win m p off es lo len, [.c] => if es = j.size then some (⟨.ref m (p ++ [lo + n.toNat]) (off + n.toNat * es), []⟩, [0 ≤ n, n.toNat < len]) else none
          | _, _ => none else none
        | none => none
      | _ => none
    | none => none
  | _, _ => none
theorem ixO_ok {E : Env} {ty : Nat} {ob : Nat → Option Ob} {ps : List AV} {q : List Orc} {r : Res} {cs : List Prop} (h : ixO E ty ob ps q = some (r, cs)) (hc : AllP cs) : opIndexAddr E ty ob ps = some r := by
  unfold ixO at h
  split at h
  · rename_i x k n
    split at h
    · rename_i i hi
      split at h
      · rename_i len e hd
        split at h
        · rename_i j hj
          split at h
          · rename_i hz
            split at h
            · simp only [Option.some.injEq, Prod.mk.injEq] at h
              obtain ⟨rfl, rfl⟩ := h
              obtain ⟨h1, h2, _⟩ := hc
              simp only [opIndexAddr, hi, hd, hj, h1, h2, hz, and_self, if_true]
            · split at h
              · rename_i he
                simp only [Option.some.injEq, Prod.mk.injEq] at h
                obtain ⟨rfl, rfl⟩ := h
                obtain ⟨h1, h2, h3, _⟩ := hc
                simp only [opIndexAddr, hi, hd, hj, h1, h2, hz, and_self, if_true, elemPtr, h3, he]
              · cases h
            · cases h
          · cases h
        · cases h
      · rename_i e hd
        split at h
        · rename_i j hj
          split at h
          · rename_i hz
            split at h
            · split at h
              · rename_i he
                simp only [Option.some.injEq, Prod.mk.injEq] at h
                obtain ⟨rfl, rfl⟩ := h
                obtain ⟨h1, h2, _⟩ := hc
                simp only [opIndexAddr, hi, hd, hj, h1, h2, hz, and_self, if_true, elemPtr, he]
              · cases h
            · split at h
              · rename_i he
                simp only [Option.some.injEq, Prod.mk.injEq] at h
                obtain ⟨rfl, rfl⟩ := h
                obtain ⟨h1, h2, _⟩ := hc
                simp only [opIndexAddr, hi, hd, hj, h1, h2, hz, and_self, if_true, elemPtr, he]
              · cases h
            · split at h
              · rename_i hm
                split at h
                · rename_i he
                  simp only [Option.some.injEq, Prod.mk.injEq] at h
                  obtain ⟨rfl, rfl⟩ := h
                  obtain ⟨h1, h2, _⟩ := hc
                  simp only [opIndexAddr, hi, hd, hj, h1, h2, hz, and_self, if_true, hm, he]
                · cases h
              · cases h
            · split at h
              · rename_i he
                simp only [Option.some.injEq, Prod.mk.injEq] at h
                obtain ⟨rfl, rfl⟩ := h
                obtain ⟨h1, h2, _⟩ := hc
                simp only [opIndexAddr, hi, hd, hj, h1, h2, hz, and_self, if_true, he]
              · cases h
            · cases h
          · cases h
        · cases h
      · cases h
    · cases h
  · cases h
def loadO (E : Env) (ty : Nat) (ob : Nat → Option Ob) : List AV → List Orc → Option (Res × List Prop)
  | [.ref n p off], q => match ob n, E.ty ty with
    | some b, some i => match b.lookO p q with
      | some (x, o', cs) => if x.good ∧ x.size = i.size ∧ x.agg = i.d.agg then some (⟨x, []⟩, (o' = off) :: cs) else none
      | none => none
    | _, _ => none
  | _, _ => none
theorem loadO_ok {E : Env} {ty : Nat} {ob : Nat → Option Ob} {ps : List AV} {q : List Orc} {r : Res} {cs : List Prop} (h : loadO E ty ob ps q = some (r, cs)) (hc : AllP cs) : opLoad E ty ob ps = some r := by
  unfold loadO at h
  split at h
  · split at h
    · rename_i b i hb hi
      split at h
      · rename_i x o' cs' hl
        split at h
        · rename_i hg
          simp only [Option.some.injEq, Prod.mk.injEq] at h
          obtain ⟨rfl, rfl⟩ := h
          obtain ⟨h1, h2⟩ := hc
          simp only [opLoad, hb, hi, Ob.lookO_ok hl h2]
          rw [if_pos ⟨h1, hg⟩]
        · cases h
      · cases h
    · cases h
  · cases h
/-- the elements ahead of the lists -/
def onlyT : List Orc → List Orc
  | [] => []
  | .t u :: q => .t u :: onlyT q
  | _ :: q => onlyT q
def storeO (E : Env) (ty : Nat) (ob : Nat → Option Ob) : List AV → List Orc → Option (Res × List Prop)
  | [.ref n p off, x], q => match ob n, E.ty ty with
    | some b, some i => match b.lookO p (onlyT q), b.putO p x q with
      | some (_, o', cs), some (b', cs') => if b.isOpen ∧ x.size = i.size then some (⟨.bad, [(n, b')]⟩, (o' = off) :: (cs ++ cs')) else none
      | _, _ => none
    | _, _ => none
  | _, _ => none
theorem storeO_ok {E : Env} {ty : Nat} {ob : Nat → Option Ob} {ps : List AV} {q : List Orc} {r : Res} {cs : List Prop} (h : storeO E ty ob ps q = some (r, cs)) (hc : AllP cs) : opStore E ty ob ps = some r := by
  unfold storeO at h
  split at h
  · split at h
    · rename_i b i hb hi
      split at h
      · rename_i x o' cs' b' cs'' hl hp
        split at h
        · rename_i hg
          simp only [Option.some.injEq, Prod.mk.injEq] at h
          obtain ⟨rfl, rfl⟩ := h
          obtain ⟨h1, h2⟩ := hc
          obtain ⟨h3, h4⟩ := AllP_append h2
          simp only [opStore, hb, hi, Ob.lookO_ok hl h3, Ob.putO_ok hp h4]
          rw [if_pos ⟨h1, hg⟩]
        · cases h
      · cases h
    · cases h
  · cases h
def binO (E : Env) (op : BinOp) (ty : Nat) : List AV → List Orc → Option (Res × List Prop)
  | [x, y], [.b r] => some (⟨.t (.bool r), []⟩, [binOp E op ty x y = some (.bool r)])
  | [.t (.int k a), .t (.int k' b)], [.c] => match op with
    | .quo => if k = k' then some (⟨.t (.int k (k.wrap (a.tdiv b))), []⟩, [b ≠ 0]) else none
    | .rem => if k = k' then some (⟨.t (.int k (a.tmod b)), []⟩, [b ≠ 0]) else none
    | .shl => some (⟨.t (.int k (k.wrap (a * 2 ^ (min b.toNat k.bits)))), []⟩, [¬ b < 0])
    | .shr => some (⟨.t (.int k (a.fdiv (2 ^ (min b.toNat k.bits)))), []⟩, [¬ b < 0])
    | _ => none
  | _, _ => none
theorem binO_ok {E : Env} {op : BinOp} {ty : Nat} {ps : List AV} {q : List Orc} {r : Res} {cs : List Prop} (h : binO E op ty ps q = some (r, cs)) (hc : AllP cs) : opBin E op ty ps = some r := by
  unfold binO at h
  split at h
  · simp only [Option.some.injEq, Prod.mk.injEq] at h
    obtain ⟨rfl, rfl⟩ := h
    simp only [opBin, hc.1, Option.map_some]
  · split at h
    · split at h
      · rename_i hk
        simp only [Option.some.injEq, Prod.mk.injEq] at h
        obtain ⟨rfl, rfl⟩ := h
        have h1 := hc.1
        simp [opBin, binOp, hk, intOp, h1]
      · cases h
    · split at h
      · rename_i hk
        simp only [Option.some.injEq, Prod.mk.injEq] at h
        obtain ⟨rfl, rfl⟩ := h
        have h1 := hc.1
        simp [opBin, binOp, hk, intOp, h1]
      · cases h
    · simp only [Option.some.injEq, Prod.mk.injEq] at h
      obtain ⟨rfl, rfl⟩ := h
      have h1 := hc.1
      simp only [opBin, binOp, shiftOp]
      rw [if_neg h1]; rfl
    · simp only [Option.some.injEq, Prod.mk.injEq] at h
      obtain ⟨rfl, rfl⟩ := h
      have h1 := hc.1
      simp only [opBin, binOp, shiftOp]
      rw [if_neg h1]; rfl
    · cases h
  · cases h
def lenO (E : Env) (ts : List Nat) (ob : Nat → Option Ob) : List AV → List Orc → Option (Res × List Prop)
  | [v], [.n x] => match ts with
    | [ty] => match E.ty ty with
      | some i => match i.d with
        | .slice _ => (elemsO ob v).map fun l => (⟨.t (.int .i64 x), []⟩, ((l.1.length : Int) = x) :: l.2)
        | .str => match v with
          | .t (.str s) => some (⟨.t (.int .i64 x), []⟩, [(s.size : Int) = x])
          | _ => none
        | _ => none
      | none => none
    | _ => none
  | _, _ => none
theorem lenO_ok {E : Env} {ts : List Nat} {ob : Nat → Option Ob} {ps : List AV} {q : List Orc} {r : Res} {cs : List Prop} (h : lenO E ts ob ps q = some (r, cs)) (hc : AllP cs) : opLen E ts ob ps = some r := by
  unfold lenO at h
  split at h
  · split at h
    · split at h
      · rename_i i hi
        split at h
        · rename_i e hd
          simp only [Option.map_eq_some_iff, Prod.mk.injEq] at h
          obtain ⟨⟨l, cs'⟩, h1, rfl, rfl⟩ := h
          obtain ⟨h2, h3⟩ := hc
          simp only [opLen, hi, hd, elemsO_ok h1 h3, Option.map_some, h2]
        · rename_i hd
          split at h
          · simp only [Option.some.injEq, Prod.mk.injEq] at h
            obtain ⟨rfl, rfl⟩ := h
            simp only [opLen, hi, hd, hc.1]
          · cases h
        · cases h
      · cases h
    · cases h
  · cases h
def appendO (E : Env) (ts : List Nat) (dst : Option Tmp) (ob : Nat → Option Ob) : List AV → List Orc → Option (Res × List Prop)
  | [s, x], [.l L] => match fresh dst ob, twoOf E ts with
    | some d, some (e, j) => match elemsO ob s, elemsO ob x with
      | some (l, c1), some (r, c2) => if esOf ob j.size s ∧ esOf ob j.size x then
          match s with
          | .t .nils => some (⟨.own d, [(d, .row false e j.size L)]⟩, (r.length * j.bytes ≤ maxBytes) :: (r.length ≤ maxBytes) :: (r = L) :: c2)
          | .own n => match ob n with
            | some (.row sh e' es _) => if e' = e then some (⟨.own d, [(d, .row sh e es L), (n, .gone)]⟩, ((l.length + r.length) * j.bytes ≤ maxBytes) :: (l.length + r.length ≤ maxBytes) :: (l ++ r = L) :: (c1 ++ c2)) else none
            | _ => none
          | .tight _ _ => some (⟨.own d, [(d, .row false e j.size L)]⟩, ((l.length + r.length) * j.bytes ≤ maxBytes) :: (l.length + r.length ≤ maxBytes) :: (r.isEmpty = false) :: (l ++ r = L) :: (c1 ++ c2))
          | _ => none else none
      | _, _ => none
    | _, _ => none
  | _, _ => none
theorem appendO_ok {E : Env} {ts : List Nat} {dst : Option Tmp} {ob : Nat → Option Ob} {ps : List AV} {q : List Orc} {r : Res} {cs : List Prop} (h : appendO E ts dst ob ps q = some (r, cs)) (hc : AllP cs) : opAppend E ts dst ob ps = some r := by
  unfold appendO at h
  split at h
  · split at h
    · rename_i d e j hf ht
      split at h
      · rename_i l c1 r' c2 hl hr
        split at h
        · rename_i hes
          split at h
          · simp only [Option.some.injEq, Prod.mk.injEq] at h
            obtain ⟨rfl, rfl⟩ := h
            obtain ⟨h1, h2, rfl, h4⟩ := hc
            simp only [elemsO, elemsOf, Option.map_some, Option.some.injEq, Prod.mk.injEq] at hl
            obtain ⟨rfl, rfl⟩ := hl
            have e1 : elemsOf ob (.t .nils) = some [] := rfl
            simp only [opAppend, hf, ht, e1, elemsO_ok hr h4]
            rw [if_pos ⟨hes.1, hes.2, by simpa using h1, by simpa using h2⟩]
          · split at h
            · rename_i sh e' es l0 hn
              split at h
              · rename_i he
                simp only [Option.some.injEq, Prod.mk.injEq] at h
                obtain ⟨rfl, rfl⟩ := h
                obtain ⟨h1, h2, h3, h4⟩ := hc
                obtain ⟨h5, h6⟩ := AllP_append h4
                simp only [opAppend, hf, ht, elemsO_ok hl h5, elemsO_ok hr h6]
                rw [if_pos ⟨hes.1, hes.2, h1, h2⟩]
                simp only [hn, he, if_true, h3]
              · cases h
            · cases h
          · simp only [Option.some.injEq, Prod.mk.injEq] at h
            obtain ⟨rfl, rfl⟩ := h
            obtain ⟨h1, h2, h3, h4, h5⟩ := hc
            obtain ⟨h6, h7⟩ := AllP_append h5
            simp only [opAppend, hf, ht, elemsO_ok hl h6, elemsO_ok hr h7]
            rw [if_pos ⟨hes.1, hes.2, h1, h2⟩]
            simp only [h3, Bool.false_eq_true, if_false, h4]
          · cases h
        · cases h
      · cases h
    · cases h
  · cases h
def makeO (E : Env) (ty : Nat) (dst : Option Tmp) (ob : Nat → Option Ob) : List AV → List Orc → Option (Res × List Prop)
  | [.t (.int _ n), .t (.int _ c)], [.l L] => match fresh dst ob, E.ty ty with
    | some d, some i => match i.d with
      | .slice e => match E.ty e with
        | some j => if 0 < j.size then some (⟨.own d, [(d, .row false e j.size L)]⟩, [0 ≤ n, (n = c ∨ n = 0), n ≤ c, j.bytes * c ≤ 140737488355328, c ≤ 140737488355328, List.replicate n.toNat j.zero = L]) else none
        | none => none
      | _ => none
    | _, _ => none
  | _, _ => none
theorem makeO_ok {E : Env} {ty : Nat} {dst : Option Tmp} {ob : Nat → Option Ob} {ps : List AV} {q : List Orc} {r : Res} {cs : List Prop} (h : makeO E ty dst ob ps q = some (r, cs)) (hc : AllP cs) : opMake E ty dst ob ps = some r := by
  unfold makeO at h
  split at h
  · split at h
    · rename_i d i hd hi
      split at h
      · rename_i e he
        split at h
        · rename_i j hj
          split at h
          · rename_i hz
            simp only [Option.some.injEq, Prod.mk.injEq] at h
            obtain ⟨rfl, rfl⟩ := h
            obtain ⟨h1, h2, h3, h4, h5, h6, _⟩ := hc
            simp only [opMake, hd, hi, he, hj]
            rw [if_pos ⟨h1, h2, h3, hz, h4, h5⟩, h6]
          · cases h
        · cases h
      · cases h
    · cases h
  · cases h
/-- bounds, told -/
def boundsO (len : Nat) (lo hi mx : Bool) (ps : List AV) : Option (Nat × Nat × Bool × List Prop) :=
  match lo, hi, mx, ps with
  | false, false, false, [] => some (0, len, false, [])
  | true, false, false, [a] => match takeInt a with
    | some l => some (l.toNat, len, false, [0 ≤ l, l ≤ len])
    | none => none
  | false, true, false, [b] => match takeInt b with
    | some h => some (0, h.toNat, false, [0 ≤ h, h ≤ len])
    | none => none
  | true, true, false, [a, b] => match takeInt a, takeInt b with
    | some l, some h => some (l.toNat, h.toNat, false, [0 ≤ l, l ≤ h, h ≤ len])
    | _, _ => none
  | false, true, true, [b, c] => match takeInt b, takeInt c with
    | some h, some m => some (0, h.toNat, true, [0 ≤ h, h ≤ len, h = m])
    | _, _ => none
  | true, true, true, [a, b, c] => match takeInt a, takeInt b, takeInt c with
    | some l, some h, some m => some (l.toNat, h.toNat, true, [0 ≤ l, l ≤ h, h ≤ len, h = m])
    | _, _, _ => none
  | _, _, _, _ => none
theorem boundsO_ok {len : Nat} {lo hi mx : Bool} {ps : List AV} {a b : Nat} {t : Bool} {cs : List Prop} (h : boundsO len lo hi mx ps = some (a, b, t, cs)) (hc : AllP cs) : bounds len lo hi mx ps = some (a, b, t) := by
  unfold boundsO at h
  split at h
  · simp only [Option.some.injEq, Prod.mk.injEq] at h
    obtain ⟨rfl, rfl, rfl, rfl⟩ := h
    rfl
  · split at h
    · rename_i he
      simp only [Option.some.injEq, Prod.mk.injEq] at h
      obtain ⟨rfl, rfl, rfl, rfl⟩ := h
      obtain ⟨h1, h2, _⟩ := hc
      simp only [bounds, he]; rw [if_pos ⟨h1, h2⟩]
    · cases h
  · split at h
    · rename_i he
      simp only [Option.some.injEq, Prod.mk.injEq] at h
      obtain ⟨rfl, rfl, rfl, rfl⟩ := h
      obtain ⟨h1, h2, _⟩ := hc
      simp only [bounds, he]; rw [if_pos ⟨h1, h2⟩]
    · cases h
  · split at h
    · rename_i he he'
      simp only [Option.some.injEq, Prod.mk.injEq] at h
      obtain ⟨rfl, rfl, rfl, rfl⟩ := h
      obtain ⟨h1, h2, h3, _⟩ := hc
      simp only [bounds, he, he']; rw [if_pos ⟨h1, h2, h3⟩]
    · cases h
  · split at h
    · rename_i he he'
      simp only [Option.some.injEq, Prod.mk.injEq] at h
      obtain ⟨rfl, rfl, rfl, rfl⟩ := h
      obtain ⟨h1, h2, h3, _⟩ := hc
      simp only [bounds, he, he']; rw [if_pos ⟨h1, h2, h3⟩]
    · cases h
  · split at h
    · rename_i he he' he''
      simp only [Option.some.injEq, Prod.mk.injEq] at h
      obtain ⟨rfl, rfl, rfl, rfl⟩ := h
      obtain ⟨h1, h2, h3, h4, _⟩ := hc
      simp only [bounds, he, he', he'']; rw [if_pos ⟨h1, h2, h3, h4⟩]
    · cases h
  · cases h
def sliceO (E : Env) (ty : Nat) (lo hi mx : Bool) (ob : Nat → Option Ob) : List AV → List Orc → Option (Res × List Prop)
  | x :: r, q => match E.ty ty with
    | some i => match i.d with
      | .slice e => match E.ty e, elemsO ob x with
        | some j, some (l, c1) => if esOf ob j.size x ∧ 0 < j.size then match boundsO l.length lo hi mx r with
          | some (a, b, true, c2) => match x, q with
            | .t _, [.l L] => some (⟨.tight j.size L, []⟩, ((l.drop a).take (b - a) = L) :: (c1 ++ c2))
            | _, _ => none
          | some (a, b, false, c2) => match x, q with
            | .own n, [.c] => if !lo && !hi then none else some (⟨.win n [] (a * j.size) j.size a (b - a), []⟩, c1 ++ c2)
            | .win n p off es k _, [.c] => some (⟨.win n p (off + a * es) es (k + a) (b - a), []⟩, c1 ++ c2)
            | .t (.slc es _), [.l L] => some (⟨.t (.slc es L), []⟩, ((l.drop a).take (b - a) = L) :: (c1 ++ c2))
            | _, _ => none
          | none => none else none
        | _, _ => none
      | .array n e => match E.ty e, boundsO n lo hi mx r with
        | some j, some (a, b, false, c2) => if 0 < j.size then match x, q with
          | .ref m p off, [.c] => some (⟨.win m p (off + a * j.size) j.size a (b - a), []⟩, c2)
          | .t (.ptr (.arr es n' l)), [.l L] => if es = j.size ∧ n = n' then some (⟨.t (.slc es L), []⟩, ((l.drop a).take (b - a) = L) :: c2) else none
          | _, _ => none else none
        | _, _ => none
      | _ => none
    | none => none
  | _, _ => none
theorem sliceO_ok {E : Env} {ty : Nat} {lo hi mx : Bool} {ob : Nat → Option Ob} {ps : List AV} {q : List Orc} {r : Res} {cs : List Prop} (h : sliceO E ty lo hi mx ob ps q = some (r, cs)) (hc : AllP cs) : opSlice E ty lo hi mx ob ps = some r := by
  unfold sliceO at h
  split at h
  · rename_i x r' q
    split at h
    · rename_i i hi'
      split at h
      · rename_i e hd
        split at h
        · rename_i j l c1 hj hl
          split at h
          · rename_i hes
            split at h
            · rename_i a b c2 hb
              split at h
              · simp only [Option.some.injEq, Prod.mk.injEq] at h
                obtain ⟨rfl, rfl⟩ := h
                obtain ⟨h1, h2⟩ := hc
                obtain ⟨h3, h4⟩ := AllP_append h2
                simp only [opSlice, hi', hd, hj, elemsO_ok hl h3]
                rw [if_pos hes]
                simp only [boundsO_ok hb h4, h1]
              · cases h
            · rename_i a b c2 hb
              split at h
              · rename_i n
                split at h
                · cases h
                · rename_i hlh
                  simp only [Option.some.injEq, Prod.mk.injEq] at h
                  obtain ⟨rfl, rfl⟩ := h
                  obtain ⟨h3, h4⟩ := AllP_append hc
                  simp only [opSlice, hi', hd, hj, elemsO_ok hl h3]
                  rw [if_pos hes]
                  simp only [boundsO_ok hb h4]
                  rw [if_neg hlh]
              · simp only [Option.some.injEq, Prod.mk.injEq] at h
                obtain ⟨rfl, rfl⟩ := h
                obtain ⟨h3, h4⟩ := AllP_append hc
                simp only [opSlice, hi', hd, hj, elemsO_ok hl h3]
                rw [if_pos hes]
                simp only [boundsO_ok hb h4]
              · simp only [Option.some.injEq, Prod.mk.injEq] at h
                obtain ⟨rfl, rfl⟩ := h
                obtain ⟨h1, h2⟩ := hc
                obtain ⟨h3, h4⟩ := AllP_append h2
                have hl2 := hl
                simp only [elemsO, elemsOf, Option.map_some, Option.some.injEq, Prod.mk.injEq] at hl2
                obtain ⟨rfl, rfl⟩ := hl2
                simp only [opSlice, hi', hd, hj, elemsOf]
                rw [if_pos hes]
                simp only [boundsO_ok hb h4, h1]
              · cases h
            · cases h
          · cases h
        · cases h
      · rename_i n e hd
        split at h
        · rename_i j a b c2 hj hb
          split at h
          · rename_i hz
            split at h
            · simp only [Option.some.injEq, Prod.mk.injEq] at h
              obtain ⟨rfl, rfl⟩ := h
              simp only [opSlice, hi', hd, hj, boundsO_ok hb hc]
              rw [if_pos hz]
            · split at h
              · rename_i hes
                simp only [Option.some.injEq, Prod.mk.injEq] at h
                obtain ⟨rfl, rfl⟩ := h
                obtain ⟨h1, h2⟩ := hc
                simp only [opSlice, hi', hd, hj, boundsO_ok hb h2]
                rw [if_pos hz, if_pos hes, h1]
              · cases h
            · cases h
          · cases h
        · cases h
      · cases h
    · cases h
  · cases h
def copyO (E : Env) (ts : List Nat) (ob : Nat → Option Ob) : List AV → List Orc → Option (Res × List Prop)
  | [d, x], [.n k, .l L] => match twoOf E ts, elemsO ob x with
    | some (_, j), some (r, c1) => if esOf ob j.size x then match d with
      | .win n p off es lo len => match ob n with
        | some b => match b.elemsAtO p off es lo with
          | some (l, c2) => if es = j.size ∧ b.isOpen then
              (b.laid p L).map fun b' => (⟨.t (.int .i64 k), [(n, b')]⟩, (lo + len ≤ l.length) :: (((min r.length len : Nat) : Int) = k) :: (l.take lo ++ (r.take len ++ l.drop (lo + min r.length len)) = L) :: (c1 ++ c2)) else none
          | none => none
        | none => none
      | .own n => match ob n with
        | some (.row false ty es l) => if es = j.size then some (⟨.t (.int .i64 k), [(n, .row false ty es L)]⟩, (((min r.length l.length : Nat) : Int) = k) :: (r.take l.length ++ l.drop r.length = L) :: c1) else none
        | _ => none
      | _ => none else none
    | _, _ => none
  | _, _ => none
theorem copyO_ok {E : Env} {ts : List Nat} {ob : Nat → Option Ob} {ps : List AV} {q : List Orc} {r : Res} {cs : List Prop} (h : copyO E ts ob ps q = some (r, cs)) (hc : AllP cs) : opCopy E ts ob ps = some r := by
  unfold copyO at h
  split at h
  · split at h
    · rename_i e j r' c1 ht hx
      split at h
      · rename_i hes
        split at h
        · rename_i n p off es lo len
          split at h
          · rename_i b hb
            split at h
            · rename_i l c2 hl
              split at h
              · rename_i hq
                simp only [Option.map_eq_some_iff, Prod.mk.injEq] at h
                obtain ⟨b', h0, rfl, rfl⟩ := h
                obtain ⟨h1, h2, h3, h4⟩ := hc
                obtain ⟨h5, h6⟩ := AllP_append h4
                simp only [opCopy, ht, elemsO_ok hx h5, hb, Ob.elemsAtO_ok hl h6]
                rw [if_pos hes, if_pos ⟨hq.1, h1, hq.2⟩, h3, h2]
                simp [h0]
              · cases h
            · cases h
          · cases h
        · split at h
          · rename_i ty es l hn
            split at h
            · rename_i hq
              simp only [Option.some.injEq, Prod.mk.injEq] at h
              obtain ⟨rfl, rfl⟩ := h
              obtain ⟨h1, h2, h3⟩ := hc
              simp only [opCopy, ht, elemsO_ok hx h3, hn]
              rw [if_pos hes, if_pos hq, h2, h1]
            · cases h
          · cases h
        · cases h
      · cases h
    · cases h
  · cases h
def indexO (E : Env) (ty : Nat) : List AV → List Orc → Option (Res × List Prop)
  | [.t (.arr es len l), .t (.int _ n)], [.t u] => match E.ty ty with
    | some i => match i.d with
      | .array len' e => match E.ty e with
        | some j => if len = len' ∧ es = j.size ∧ u.agg = j.d.agg then some (⟨.t u, []⟩, [0 ≤ n, n < len, l[n.toNat]? = some u]) else none
        | none => none
      | _ => none
    | none => none
  | [.t (.str s), .t (.int _ n)], [.n x] => match E.ty ty with
    | some i => match i.d with
      | .str => some (⟨.t (.int .u8 x), []⟩, [0 ≤ n, (s.data[n.toNat]?).map (fun b => (b.toNat : Int)) = some x])
      | _ => none
    | none => none
  | _, _ => none
theorem indexO_ok {E : Env} {ty : Nat} {ps : List AV} {q : List Orc} {r : Res} {cs : List Prop} (h : indexO E ty ps q = some (r, cs)) (hc : AllP cs) : opIndex E ty ps = some r := by
  unfold indexO at h
  split at h
  · split at h
    · rename_i i hi
      split at h
      · rename_i len' e hd
        split at h
        · rename_i j hj
          split at h
          · rename_i hq
            simp only [Option.some.injEq, Prod.mk.injEq] at h
            obtain ⟨rfl, rfl⟩ := h
            obtain ⟨h1, h2, h3, _⟩ := hc
            simp only [opIndex, hi, hd, hj, h3]
            rw [if_pos ⟨h1, h2, hq.1, hq.2.1, hq.2.2⟩]
          · cases h
        · cases h
      · cases h
    · cases h
  · split at h
    · rename_i i hi
      split at h
      · rename_i hd
        simp only [Option.some.injEq, Prod.mk.injEq] at h
        obtain ⟨rfl, rfl⟩ := h
        obtain ⟨h1, h2, _⟩ := hc
        simp only [Option.map_eq_some_iff] at h2
        obtain ⟨b, hb, rfl⟩ := h2
        simp only [opIndex, hi, hd, hb]
        rw [if_pos h1]
      · cases h
    · cases h
  · cases h
def convO (E : Env) (src dst : Nat) (ob : Nat → Option Ob) : List AV → List Orc → Option (Res × List Prop)
  | [x], [.s str] => match E.ty src, E.ty dst with
    | some s, some d => match d.d, s.d with
      | .str, .slice e => match E.ty e, x with
        | some e, x => match x with
          | .t (.str _) => none
          | x => if e.d = .int .u8 then (elemsO ob x).map fun l => (⟨.t (.str str), []⟩, ((bytesOf l.1).map (fun b => (⟨b.toArray⟩ : ByteArray)) = some str) :: l.2) else none
        | none, _ => none
      | _, _ => none
    | _, _ => none
  | [.t (.str b)], [.l L] => match E.ty src, E.ty dst with
    | some s, some d => match d.d with
      | .slice e => match E.ty e with
        | some j => if j.d = .int .u8 ∧ s.d = .str then some (⟨.t (.slc 1 L), []⟩, [ofBytes b.data.toList = L]) else none
        | none => none
      | _ => none
    | _, _ => none
  | _, _ => none
theorem convO_ok {E : Env} {src dst : Nat} {ob : Nat → Option Ob} {ps : List AV} {q : List Orc} {r : Res} {cs : List Prop} (h : convO E src dst ob ps q = some (r, cs)) (hc : AllP cs) : opConv E src dst ob ps = some r := by
  unfold convO at h
  split at h
  · rename_i x str
    split at h
    · rename_i s d hs hd
      split at h
      · rename_i e h1 h2
        split at h
        · rename_i e' x' he
          split at h
          · cases h
          · rename_i x'' hne
            split at h
            · rename_i hu
              simp only [Option.map_eq_some_iff, Prod.mk.injEq] at h
              obtain ⟨⟨l, c⟩, h3, rfl, rfl⟩ := h
              obtain ⟨h4, h5⟩ := hc
              have h6 := elemsO_ok h3 h5
              simp only [Option.map_eq_some_iff] at h4
              obtain ⟨b, h7, rfl⟩ := h4
              unfold opConv
              simp only [hs, hd, h1, h2, he, hu, h6, h7, if_true, Option.map_some]
            · cases h
        · cases h
      · cases h
    · cases h
  · split at h
    · rename_i s d hs hd
      split at h
      · rename_i e h1
        split at h
        · rename_i j hj
          split at h
          · rename_i hq
            simp only [Option.some.injEq, Prod.mk.injEq] at h
            obtain ⟨rfl, rfl⟩ := h
            simp only [opConv, hs, hd, h1, hj]
            rw [if_pos hq, hc.1]
          · cases h
        · cases h
      · cases h
    · cases h
  · cases h
end Go.Mg
