/- Objects and memory: what the state's objects say of a world, and each way in which it goes on. -/
import Derived.Test.YtighjjielkdafaaDoorMgC
namespace Go.Mg
open Go.RowKit

structure Ctx where
  w0 : World
  m0 : Mem
  lent : List (Nat × Nat)
def upd {α : Type} (f : Nat → Option α) (n : Nat) (x : α) : Nat → Option α := fun k => if n = k then some x else f k
def updr (ρ : Rho) (n : Nat) (v : Value) : Rho := fun k => if n = k then v else ρ k
theorem upd_same {α : Type} (f : Nat → Option α) (n : Nat) (x : α) : upd f n x n = some x := by simp [upd]
theorem upd_other {α : Type} (f : Nat → Option α) {n k : Nat} (x : α) (h : n ≠ k) : upd f n x k = f k := by simp [upd, h]
theorem upd_none {α : Type} {f : Nat → Option α} {n k : Nat} {x : α} (h : f k ≠ none) : upd f n x k ≠ none := by
  unfold upd; split <;> simp_all
theorem updr_same (ρ : Rho) (n : Nat) (v : Value) : updr ρ n v n = v := by simp [updr]
theorem updr_other (ρ : Rho) {n k : Nat} (v : Value) (h : n ≠ k) : updr ρ n v k = ρ k := by simp [updr, h]

def Ob.cov (o : Ob) (i : Nat) : Prop :=
  match o with
  | .var sh _ _ => sh = true
  | .row sh _ es l => sh = true ∧ i < l.length * es
  | .gone => False
def RO (w : World) (m : Mem) (ρ : Rho) (v : Value) : Ob → Prop
  | .var _ _ c => ∃ g cs t, v = .pointer (some ⟨g, 0, none⟩) ∧ w.heap[g]? = some (.cells cs t (0, 0)) ∧ RA m ρ c cs.toList
  | .row _ ty es l => (v = .slice none 0 0 ∧ l = []) ∨ ∃ g cap cur, v = .slice (some ⟨g, 0, none⟩) l.length cap ∧ w.heap[g]? = some (.cells cur ty (0, 0)) ∧ l.length ≤ cap ∧ cap ≤ maxLen ∧
      cur.size = cap * es ∧ REs m es l (cur.toList.take (l.length * es))
  | .gone => True
/-- The cells of an object. -/
def OC (m : Mem) (ρ : Rho) : Ob → List Value → Prop
  | .var _ _ c, cur => RA m ρ c cur
  | .row _ _ es l, cur => REs m es l (cur.take (l.length * es)) ∧ l.length * es ≤ cur.length
  | .gone, _ => False
theorem RO.view {w : World} {m : Mem} {ρ : Rho} {v : Value} {o : Ob} (h : RO w m ρ v o) (hl : o.live = true) {g : Nat} (hg : blk v = some g) :
    ∃ cur t, w.heap[g]? = some (.cells cur t (0, 0)) ∧ OC m ρ o cur.toList := by
  cases o with
  | var sh ty c =>
    obtain ⟨g', cs, t, rfl, hh, hc⟩ := h
    simp [blk] at hg; subst hg
    exact ⟨cs, t, hh, hc⟩
  | row sh ty es l =>
    rcases h with ⟨rfl, _⟩ | ⟨g', cap, cur, rfl, hh, h1, _, h2, h3⟩
    · simp [blk] at hg
    · simp [blk] at hg; subst hg
      exact ⟨cur, ty, hh, h3, by simp [h2]; exact Nat.mul_le_mul_right _ h1⟩
  | gone => simp [Ob.live] at hl
theorem RO.mono {w w' : World} {m m' : Mem} {ρ ρ' : Rho} {v : Value} {o : Ob} (h : RO w m ρ v o) (hm : Sub m m') (he : ∀ n ∈ o.names, ρ' n = ρ n) (hb : ∀ g, blk v = some g → w'.heap[g]? = w.heap[g]?) : RO w' m' ρ' v o := by
  cases o with
  | var sh ty c =>
    obtain ⟨g, cs, t, rfl, hh, hc⟩ := h
    exact ⟨g, cs, t, rfl, (hb g rfl).trans hh, RA.mono hm c _ he hc⟩
  | row sh ty es l =>
    rcases h with h | ⟨g, cap, cur, rfl, hh, h1, h2, h3, h4⟩
    · exact .inl h
    · exact .inr ⟨g, cap, cur, rfl, (hb g rfl).trans hh, h1, h2, h3, REs.mono hm es l _ h4⟩
  | gone => trivial
theorem RO.one {w : World} {m : Mem} {ρ : Rho} {v : Value} {o : Ob} (h : RO w m ρ v o) (hl : o.live = true) : v.oneCell' = true := by
  cases o with
  | var sh ty c => obtain ⟨g, cs, t, rfl, _⟩ := h; rfl
  | row sh ty es l => rcases h with ⟨rfl, _⟩ | ⟨g, cap, cur, rfl, _⟩ <;> rfl
  | gone => simp [Ob.live] at hl
theorem RO.row_own {w : World} {m : Mem} {ρ : Rho} {v : Value} {sh : Bool} {ty es : Nat} {l : List T} (h : RO w m ρ v (.row sh ty es l)) :
    ∃ xs, w.ownsRow 0 ty es v l.length xs ∧ REs m es l xs := by
  rcases h with ⟨rfl, rfl⟩ | ⟨g, cap, cur, rfl, hh, h1, h2, h3, h4⟩
  · exact ⟨[], ⟨by simp, .inl ⟨rfl, rfl⟩⟩, by simp [REs]⟩
  · refine ⟨_, ⟨?_, .inr ⟨g, cap, cur, rfl, Nat.zero_le _, hh, h1, h2, h3, rfl⟩⟩, h4⟩
    have := Nat.mul_le_mul_right es h1
    simp only [List.length_take, Array.length_toList, h3]
    omega
theorem RO.of_own {w : World} {m : Mem} {ρ : Rho} {v : Value} {sh : Bool} {ty es base : Nat} {l : List T} {xs : List Value} {n : Nat} (h : w.ownsRow base ty es v n xs) (hn : n = l.length) (hr : REs m es l xs) : RO w m ρ v (.row sh ty es l) := by
  subst hn
  rcases h.2 with ⟨rfl, h0⟩ | ⟨g, cap, cur, rfl, _, hh, h1, h2, h3, h4⟩
  · exact .inl ⟨rfl, List.eq_nil_of_length_eq_zero h0⟩
  · exact .inr ⟨g, cap, cur, rfl, hh, h1, h2, h3, by rw [h4]; exact hr⟩

/-- Of what was there when the call began nothing has turned but what was lent. -/
structure Frame (C : Ctx) (w : World) : Prop where
  os : w.os = C.w0.os
  tape : w.tape = C.w0.tape
  output : w.output = C.w0.output
  size : C.w0.heap.size ≤ w.heap.size
  block : ∀ b, b < C.w0.heap.size → (∀ n, (n, b) ∉ C.lent) → w.heap[b]? = C.w0.heap[b]?

structure MS (C : Ctx) (ob : Nat → Option Ob) (m : Mem) (ρ : Rho) (w : World) : Prop where
  one : One ρ
  objs : ∀ n o, ob n = some o → RO w m ρ (ρ n) o
  dist : ∀ n n' o o' g, ob n = some o → ob n' = some o' → o.live = true → o'.live = true → blk (ρ n) = some g → blk (ρ n') = some g → n = n'
  mem : ∀ b i v, m b i = some v → w.cell? ⟨b, i, none⟩ = some v
  shy : ∀ n o g i v, ob n = some o → o.live = true → blk (ρ n) = some g → m g i = some v → o.cov i
  old : Sub C.m0 m
  new : ∀ b i v, m b i = some v → C.m0 b i = some v ∨ C.w0.heap.size ≤ b
  home : ∀ n o g, ob n = some o → o.live = true → blk (ρ n) = some g → C.w0.heap.size ≤ g ∨ (n, g) ∈ C.lent
  lent : ∀ n g, (n, g) ∈ C.lent → blk (ρ n) = some g ∧ ∃ ty c, ob n = some (.var false ty c)
  named : ∀ n o, ob n = some o → ∀ k ∈ o.names, ob k ≠ none
  frame : Frame C w

variable {C : Ctx} {ob : Nat → Option Ob} {m m' : Mem} {ρ : Rho} {w w' : World}
theorem MS.lt (h : MS C ob m ρ w) {n : Nat} {o : Ob} (hn : ob n = some o) (hl : o.live = true) {g : Nat} (hg : blk (ρ n) = some g) : g < w.heap.size := by
  obtain ⟨cur, t, hh, _⟩ := (h.objs n o hn).view hl hg
  exact (Array.getElem?_eq_some_iff.1 hh).1
theorem MS.memlt (h : MS C ob m ρ w) {b i : Nat} {v : Value} (hm : m b i = some v) : b < w.heap.size := World.block_lt_of_cell? w ⟨b, i, none⟩ (h.mem b i v hm)
/-- New blocks alone. -/
structure Grow (w w' : World) : Prop where
  os : w'.os = w.os
  tape : w'.tape = w.tape
  output : w'.output = w.output
  size : w.heap.size ≤ w'.heap.size
  block : ∀ b, b < w.heap.size → w'.heap[b]? = w.heap[b]?
theorem Grow.refl (w : World) : Grow w w := ⟨rfl, rfl, rfl, Nat.le_refl _, fun _ _ => rfl⟩
theorem Grow.alloc (w : World) (o : Obj) : Grow w (w.alloc o) := ⟨rfl, rfl, rfl, by simp, fun b hb => heap_alloc_old w o b hb⟩
theorem Grow.drew (w : World) : Grow w w.drew := ⟨rfl, rfl, rfl, Nat.le_refl _, fun _ _ => rfl⟩
theorem Grow.trans {a b c : World} (h : Grow a b) (k : Grow b c) : Grow a c :=
  ⟨k.os.trans h.os, k.tape.trans h.tape, k.output.trans h.output, Nat.le_trans h.size k.size, fun i hi => (k.block i (Nat.lt_of_lt_of_le hi h.size)).trans (h.block i hi)⟩
theorem Grow.of_grown {row : Option Nat} (h : w.grownBy w' row) (hr : row = none) : Grow w w' := ⟨h.os, h.tape, h.output, h.size, fun b hb => h.block b hb (by simp [hr])⟩
theorem Grow.cell (h : Grow w w') {b i : Nat} {v : Value} (hc : w.cell? ⟨b, i, none⟩ = some v) : w'.cell? ⟨b, i, none⟩ = some v :=
  (World.cell?_of_block (h.block b (World.block_lt_of_cell? w ⟨b, i, none⟩ hc))).trans hc
theorem Frame.grow (h : Frame C w) (k : Grow w w') : Frame C w' :=
  ⟨k.os.trans h.os, k.tape.trans h.tape, k.output.trans h.output, Nat.le_trans h.size k.size, fun b hb hn => (k.block b (Nat.lt_of_lt_of_le hb h.size)).trans (h.block b hb hn)⟩
/-- T6: new blocks; memory that is never written any more lies in some of them. -/
theorem MS.grow (h : MS C ob m ρ w) (k : Grow w w') (hm : Sub m m') (hnew : ∀ b i v, m' b i = some v → m b i = some v ∨ w.heap.size ≤ b) (hmem : ∀ b i v, m' b i = some v → w.heap.size ≤ b → w'.cell? ⟨b, i, none⟩ = some v) :
    MS C ob m' ρ w' where
  one := h.one
  objs n o hn := by
    by_cases hl : o.live = true
    · exact (h.objs n o hn).mono hm (fun _ _ => rfl) (fun g hg => k.block g (h.lt hn hl hg))
    · cases o <;> simp [Ob.live] at hl
      trivial
  dist := h.dist
  mem b i v hv := by
    rcases hnew b i v hv with h1 | h1
    · exact k.cell (h.mem b i v h1)
    · exact hmem b i v hv h1
  shy n o g i v hn hl hg hv := by
    rcases hnew g i v hv with h1 | h1
    · exact h.shy n o g i v hn hl hg h1
    · have := h.lt hn hl hg; omega
  old := h.old.trans hm
  new b i v hv := by
    rcases hnew b i v hv with h1 | h1
    · exact h.new b i v h1
    · exact .inr (Nat.le_trans h.frame.size h1)
  home := h.home
  lent := h.lent
  named := h.named
  frame := h.frame.grow k
theorem MS.grow' (h : MS C ob m ρ w) (k : Grow w w') : MS C ob m ρ w' := h.grow k (Sub.refl m) (fun _ _ _ hv => .inl hv) (fun b i v hv hb => by have := h.memlt hv; omega)

/-- T2: an object that lies there already, in a block that is nobody's. -/
theorem MS.add (h : MS C ob m ρ w) {d : Nat} (hd : ob d = none) {o : Ob} {v : Value} (hl : o.live = true) (ho : RO w m (updr ρ d v) v o) (hn : ∀ k ∈ o.names, ob k ≠ none)
    (hg : ∀ g, blk v = some g → C.w0.heap.size ≤ g ∧ (∀ n o', ob n = some o' → o'.live = true → blk (ρ n) ≠ some g) ∧ ∀ i, m g i = none) : MS C (upd ob d o) m (updr ρ d v) w := by
  have key : ∀ n o', upd ob d o n = some o' → (n = d ∧ o' = o) ∨ (d ≠ n ∧ ob n = some o' ∧ updr ρ d v n = ρ n) := by
    intro n o' hno
    by_cases e : d = n
    · subst e; rw [upd_same] at hno; exact .inl ⟨rfl, by injection hno with h; exact h.symm⟩
    · rw [upd_other _ _ e] at hno; exact .inr ⟨e, hno, updr_other _ _ e⟩
  have agree : ∀ o' : Ob, ∀ n, ob n = some o' → ∀ k ∈ o'.names, updr ρ d v k = ρ k := by
    intro o' n hno k hk
    refine updr_other _ _ ?_
    rintro rfl
    exact h.named n o' hno _ hk hd
  refine ⟨?_, ?_, ?_, h.mem, ?_, h.old, h.new, ?_, ?_, ?_, h.frame⟩
  · intro n
    by_cases e : d = n
    · subst e; rw [updr_same]; exact ho.one hl
    · rw [updr_other _ _ e]; exact h.one n
  · intro n o' hno
    rcases key n o' hno with ⟨rfl, rfl⟩ | ⟨_, h1, h2⟩
    · rw [updr_same]; exact ho
    · rw [h2]; exact (h.objs n o' h1).mono (Sub.refl m) (agree o' n h1) (fun _ _ => rfl)
  · intro n n' o1 o2 g h1 h2 l1 l2 b1 b2
    rcases key n o1 h1 with ⟨rfl, rfl⟩ | ⟨e1, q1, r1⟩
    · rcases key n' o2 h2 with ⟨rfl, rfl⟩ | ⟨e2, q2, r2⟩
      · rfl
      · rw [updr_same] at b1; rw [r2] at b2
        exact absurd b2 ((hg g b1).2.1 n' o2 q2 l2)
    · rcases key n' o2 h2 with ⟨rfl, rfl⟩ | ⟨e2, q2, r2⟩
      · rw [updr_same] at b2; rw [r1] at b1
        exact absurd b1 ((hg g b2).2.1 n o1 q1 l1)
      · rw [r1] at b1; rw [r2] at b2
        exact h.dist n n' o1 o2 g q1 q2 l1 l2 b1 b2
  · intro n o' g i x hno hlo hb hx
    rcases key n o' hno with ⟨rfl, rfl⟩ | ⟨_, q, r⟩
    · rw [updr_same] at hb; rw [(hg g hb).2.2 i] at hx; cases hx
    · rw [r] at hb; exact h.shy n o' g i x q hlo hb hx
  · intro n o' g hno hlo hb
    rcases key n o' hno with ⟨rfl, rfl⟩ | ⟨_, q, r⟩
    · rw [updr_same] at hb; exact .inl (hg g hb).1
    · rw [r] at hb; exact h.home n o' g q hlo hb
  · intro n g hng
    obtain ⟨h1, ty, c, h2⟩ := h.lent n g hng
    have e : d ≠ n := by rintro rfl; rw [hd] at h2; cases h2
    exact ⟨by rw [updr_other _ _ e]; exact h1, ty, c, by rw [upd_other _ _ e]; exact h2⟩
  · intro n o' hno k hk
    rcases key n o' hno with ⟨rfl, rfl⟩ | ⟨_, q, _⟩
    · exact upd_none (hn k hk)
    · exact upd_none (h.named n o' q k hk)
/-- T1: a new variable. -/
theorem MS.newVar (h : MS C ob m ρ w) {d : Nat} (hd : ob d = none) {c : AV} {cs : List Value} {ty : Nat} (hc : RA m ρ c cs) (hn : ∀ k ∈ c.names, ob k ≠ none) (t : TypeId) :
    MS C (upd ob d (.var false ty c)) m (updr ρ d (.pointer (some ⟨w.heap.size, 0, none⟩))) (w.alloc (.cells cs.toArray t)) := by
  refine (h.grow' (Grow.alloc w _)).add hd rfl ⟨w.heap.size, cs.toArray, t, rfl, heap_alloc_new w _, ?_⟩ hn ?_
  · refine RA.mono (Sub.refl m) c _ (fun k hk => updr_other _ _ ?_) (by simpa using hc)
    rintro rfl; exact hn _ hk hd
  · intro g hg
    simp [blk] at hg; subst hg
    refine ⟨h.frame.size, fun n o hno hl hb => ?_, fun i => ?_⟩
    · have := h.lt hno hl hb; omega
    · cases hmi : m w.heap.size i with
      | none => rfl
      | some v => have := h.memlt hmi; omega
/-- T2, for a row that a builtin has made, in a new block. -/
theorem MS.newRow (h : MS C ob m ρ w) {d : Nat} (hd : ob d = none) {ty es : Nat} {l : List T} {v : Value} {xs : List Value} {n base : Nat} (k : Grow w w') (hown : w'.ownsRow base ty es v n xs) (hnl : n = l.length) (hr : REs m es l xs)
    (hb : ∀ g, blk v = some g → w.heap.size ≤ g) : MS C (upd ob d (.row false ty es l)) m (updr ρ d v) w' := by
  refine (h.grow' k).add hd rfl (RO.of_own hown hnl hr) (by simp [Ob.names]) ?_
  intro g hg
  have hge := hb g hg
  refine ⟨Nat.le_trans h.frame.size hge, fun n o hno hl hb' => ?_, fun i => ?_⟩
  · have := h.lt hno hl hb'; omega
  · cases hmi : m g i with
    | none => rfl
    | some v => have := h.memlt hmi; omega
theorem blk_own (v : Value) : v.ownBlock = blk v ∨ ∃ a, v = .pointer (some a) := by
  cases v with
  | slice a n c => cases a <;> simp [Value.ownBlock, blk]
  | pointer a => cases a <;> simp [Value.ownBlock, blk]
  | _ => simp [Value.ownBlock, blk]
/-- T3: append to a row of the call's own: the elder name goes. -/
theorem MS.append (h : MS C ob m ρ w) {d n : Nat} (hd : ob d = none) {sh : Bool} {ty es : Nat} {l r : List T} {v : Value} {xs ys : List Value} {k : Nat} (hn : ob n = some (.row sh ty es l))
    (hold : w.ownsRow 0 ty es (ρ n) l.length xs) (hxs : REs m es l xs) (hown : w'.ownsRow 0 ty es v k (xs ++ ys)) (hk : k = l.length + r.length) (hys : REs m es r ys)
    (hcase : (v.ownBlock = some w.heap.size ∧ Grow w w') ∨ (v.ownBlock = (ρ n).ownBlock ∧ w.grownBy w' (ρ n).ownBlock)) :
    MS C (upd (upd ob d (.row sh ty es (l ++ r))) n .gone) m (updr ρ d v) w' := by
  have hdn : d ≠ n := by rintro rfl; rw [hd] at hn; cases hn
  have slc : ∀ {w : World} {v : Value} {j : Nat} {zs : List Value}, w.ownsRow 0 ty es v j zs → blk v = v.ownBlock := by
    intro w v j zs ho
    rcases ho.2 with ⟨e, _⟩ | ⟨g, cap, cur, e, _⟩ <;> rw [e] <;> rfl
  have hrn : blk (ρ n) = (ρ n).ownBlock := slc hold
  have hv : blk v = v.ownBlock := slc hown
  have key : ∀ n' o', upd (upd ob d (.row sh ty es (l ++ r))) n .gone n' = some o' → o'.live = true → (n' = d ∧ o' = .row sh ty es (l ++ r)) ∨ (d ≠ n' ∧ n ≠ n' ∧ ob n' = some o' ∧ updr ρ d v n' = ρ n') := by
    intro n' o' hno hlo
    by_cases e : n = n'
    · subst e; rw [upd_same] at hno; injection hno with hno; subst hno; simp [Ob.live] at hlo
    · rw [upd_other _ _ e] at hno
      by_cases e' : d = n'
      · subst e'; rw [upd_same] at hno; exact .inl ⟨rfl, by injection hno with h; exact h.symm⟩
      · rw [upd_other _ _ e'] at hno; exact .inr ⟨e', e, hno, updr_other _ _ e'⟩
  have same : ∀ g, g < w.heap.size → blk (ρ n) ≠ some g → w'.heap[g]? = w.heap[g]? := by
    intro g hlt hne
    rcases hcase with ⟨_, hg⟩ | ⟨_, hg⟩
    · exact hg.block g hlt
    · exact hg.block g hlt (fun e => hne (by rw [hrn]; exact e.symm))
  have hsize : w.heap.size ≤ w'.heap.size := by rcases hcase with ⟨_, hg⟩ | ⟨_, hg⟩ <;> exact hg.size
  have hRO : RO w' m (updr ρ d v) v (.row sh ty es (l ++ r)) := RO.of_own hown (by simp [hk]) (REs.append _ _ _ _ hxs hys)
  have hlen : xs.length = l.length * es := REs.len es l xs hxs
  refine ⟨?_, ?_, ?_, ?_, ?_, h.old, h.new, ?_, ?_, ?_, ?_⟩
  · intro k
    by_cases e : d = k
    · subst e; rw [updr_same]; exact hRO.one rfl
    · rw [updr_other _ _ e]; exact h.one k
  · intro n' o' hno
    by_cases hlo : o'.live = true
    · rcases key n' o' hno hlo with ⟨rfl, rfl⟩ | ⟨e1, e2, q, r1⟩
      · rw [updr_same]; exact hRO
      · rw [r1]
        refine (h.objs n' o' q).mono (Sub.refl m) (fun k hk => updr_other _ _ ?_) (fun g hg' => same g (h.lt q hlo hg') (fun hbad => ?_))
        · rintro rfl; exact h.named n' o' q _ hk hd
        · exact e2 (h.dist n n' _ o' g hn q rfl hlo hbad hg')
    · cases o' <;> simp [Ob.live] at hlo
      trivial
  · intro n1 n2 o1 o2 g h1 h2 l1 l2 b1 b2
    have fin : ∀ n' o', ob n' = some o' → o'.live = true → n ≠ n' → blk v = some g → blk (ρ n') = some g → False := by
      intro n' o' q hl' hne hv1 hv2
      rw [hv] at hv1
      rcases hcase with ⟨hb, _⟩ | ⟨hb, _⟩
      · rw [hb] at hv1
        have := h.lt q hl' hv2
        simp at hv1; omega
      · rw [hb, ← hrn] at hv1
        exact hne (h.dist n n' _ o' g hn q rfl hl' hv1 hv2)
    rcases key n1 o1 h1 l1 with ⟨rfl, rfl⟩ | ⟨e1, e1', q1, r1⟩
    · rcases key n2 o2 h2 l2 with ⟨rfl, rfl⟩ | ⟨e2, e2', q2, r2⟩
      · rfl
      · rw [updr_same] at b1; rw [r2] at b2
        exact (fin n2 o2 q2 l2 e2' b1 b2).elim
    · rcases key n2 o2 h2 l2 with ⟨rfl, rfl⟩ | ⟨e2, e2', q2, r2⟩
      · rw [updr_same] at b2; rw [r1] at b1
        exact (fin n1 o1 q1 l1 e1' b2 b1).elim
      · rw [r1] at b1; rw [r2] at b2
        exact h.dist n1 n2 o1 o2 g q1 q2 l1 l2 b1 b2
  · intro b i x hx
    have hc := h.mem b i x hx
    have hlt := h.memlt hx
    by_cases hbn : blk (ρ n) = some b
    · rcases hcase with ⟨hb, hg⟩ | ⟨hb, hg⟩
      · exact hg.cell hc
      · -- a cell of the elder row: it is shared, and lies before the end
        have hcov := h.shy n _ b i x hn rfl hbn hx
        simp only [Ob.cov] at hcov
        have hvb : blk v = some b := by rw [hv, hb, ← hrn]; exact hbn
        rcases hown.2 with ⟨e, _⟩ | ⟨g, cap, cur', e, _, hh', _, _, _, ht⟩
        · rw [e] at hvb; simp [blk] at hvb
        · rcases hold.2 with ⟨e0, _⟩ | ⟨g0, cap0, cur, e0, _, hh, _, _, _, ht0⟩
          · rw [e0] at hbn; simp [blk] at hbn
          · rw [e] at hvb; rw [e0] at hbn
            simp [blk] at hvb hbn
            subst hvb; subst hbn
            rw [cell_of_row w _ i cur ty (0, 0) hh] at hc
            rw [cell_of_row w' _ i cur' ty (0, 0) hh']
            have e1 : cur'.toList[i]? = (xs ++ ys)[i]? := by
              rw [← ht, List.getElem?_take, if_pos]
              have : k * es = l.length * es + r.length * es := by rw [hk, Nat.add_mul]
              omega
            have e2 : cur.toList[i]? = xs[i]? := by rw [← ht0, List.getElem?_take, if_pos (by omega)]
            rw [List.getElem?_append_left (by omega), ← e2] at e1
            simpa using e1.trans (by simpa using hc)
    · rw [World.cell?_of_block (w := w) (w' := w') (a := ⟨b, i, none⟩) (same b hlt hbn)]
      exact hc
  · intro n' o' g i x hno hlo hb hx
    rcases key n' o' hno hlo with ⟨rfl, rfl⟩ | ⟨e1, e2, q, r1⟩
    · rw [updr_same, hv] at hb
      rcases hcase with ⟨hb', _⟩ | ⟨hb', _⟩
      · rw [hb'] at hb
        have := h.memlt hx
        simp at hb; omega
      · rw [hb', ← hrn] at hb
        have := h.shy n _ g i x hn rfl hb hx
        simp only [Ob.cov] at this ⊢
        refine ⟨this.1, ?_⟩
        rw [List.length_append, Nat.add_mul]; omega
    · rw [r1] at hb; exact h.shy n' o' g i x q hlo hb hx
  · intro n' o' g hno hlo hb
    rcases key n' o' hno hlo with ⟨rfl, rfl⟩ | ⟨e1, e2, q, r1⟩
    · rw [updr_same, hv] at hb
      rcases hcase with ⟨hb', _⟩ | ⟨hb', _⟩
      · rw [hb'] at hb
        have := h.frame.size
        simp at hb; exact .inl (by omega)
      · rw [hb', ← hrn] at hb
        rcases h.home n _ g hn rfl hb with h1 | h1
        · exact .inl h1
        · obtain ⟨_, ty', c, h2⟩ := h.lent n g h1
          rw [hn] at h2; cases h2
    · rw [r1] at hb; exact h.home n' o' g q hlo hb
  · intro n' g hng
    obtain ⟨h1, ty', c, h2⟩ := h.lent n' g hng
    have e : d ≠ n' := by rintro rfl; rw [hd] at h2; cases h2
    have e' : n ≠ n' := by rintro rfl; rw [hn] at h2; cases h2
    exact ⟨by rw [updr_other _ _ e]; exact h1, ty', c, by rw [upd_other _ _ e', upd_other _ _ e]; exact h2⟩
  · intro n' o' hno k hk
    by_cases hlo : o'.live = true
    · rcases key n' o' hno hlo with ⟨rfl, rfl⟩ | ⟨e1, e2, q, _⟩
      · simp [Ob.names] at hk
      · exact upd_none (upd_none (h.named n' o' q k hk))
    · cases o' <;> simp [Ob.live] at hlo
      simp [Ob.names] at hk
  · refine ⟨?_, ?_, ?_, Nat.le_trans h.frame.size hsize, fun b hb hno => ?_⟩
    · rcases hcase with ⟨_, hg⟩ | ⟨_, hg⟩ <;> exact hg.os.trans h.frame.os
    · rcases hcase with ⟨_, hg⟩ | ⟨_, hg⟩ <;> exact hg.tape.trans h.frame.tape
    · rcases hcase with ⟨_, hg⟩ | ⟨_, hg⟩ <;> exact hg.output.trans h.frame.output
    · refine (same b (Nat.lt_of_lt_of_le hb h.frame.size) ?_).trans (h.frame.block b hb hno)
      intro hbad
      rcases h.home n _ b hn rfl hbad with h1 | h1
      · omega
      · exact hno n h1
/-- T4: a store into an object that is not shared. -/
theorem MS.put (h : MS C ob m ρ w) {n g : Nat} {o o' : Ob} {cur : Array Value} {t : TypeId} {cur' : List Value} (hn : ob n = some o) (hop : o.isOpen = true) (hg : blk (ρ n) = some g)
    (hh : w.heap[g]? = some (.cells cur t (0, 0))) (hsz : cur'.length = cur.size) (hoc : OC m ρ o' cur') (hnm : ∀ k ∈ o'.names, ob k ≠ none)
    (hlike : (∃ ty c c', o = .var false ty c ∧ o' = .var false ty c') ∨ ∃ ty es l l', o = .row false ty es l ∧ o' = .row false ty es l' ∧ l'.length = l.length) :
    MS C (upd ob n o') m ρ (w.setRow g cur'.toArray) := by
  have hl : o.live = true := by cases o <;> simp_all [Ob.isOpen, Ob.live]
  have hl' : o'.live = true := by rcases hlike with ⟨_, _, _, _, rfl⟩ | ⟨_, _, _, _, _, rfl, _⟩ <;> rfl
  have hopen : ∀ i, ¬ o.cov i := by
    intro i
    rcases hlike with ⟨ty, c, c', rfl, _⟩ | ⟨ty, es, l, l', rfl, _⟩ <;> simp [Ob.cov]
  have hnom : ∀ i, m g i = none := by
    intro i
    cases hm : m g i with
    | none => rfl
    | some v => exact (hopen i (h.shy n o g i v hn hl hg hm)).elim
  have same : ∀ b, b ≠ g → (w.setRow g cur'.toArray).heap[b]? = w.heap[b]? := fun b hb => setRow_other w g b _ hb
  have hnew : (w.setRow g cur'.toArray).heap[g]? = some (.cells cur'.toArray t (0, 0)) := setRow_heap w g cur _ t _ hh
  have key : ∀ n' q, upd ob n o' n' = some q → (n' = n ∧ q = o') ∨ (n ≠ n' ∧ ob n' = some q) := by
    intro n' q hno
    by_cases e : n = n'
    · subst e; rw [upd_same] at hno; exact .inl ⟨rfl, by injection hno with h; exact h.symm⟩
    · rw [upd_other _ _ e] at hno; exact .inr ⟨e, hno⟩
  refine ⟨h.one, ?_, ?_, ?_, ?_, h.old, h.new, ?_, ?_, ?_, ?_⟩
  · intro n' q hno
    rcases key n' q hno with ⟨rfl, rfl⟩ | ⟨e, hq⟩
    · have hro := h.objs n' o hn
      rcases hlike with ⟨ty, c, c', rfl, rfl⟩ | ⟨ty, es, l, l', rfl, rfl, hll⟩
      · obtain ⟨g', cs, t', e, _, _⟩ := hro
        rw [e] at hg; simp [blk] at hg; subst hg
        exact ⟨g', cur'.toArray, t, e, hnew, by simpa [OC] using hoc⟩
      · rcases hro with ⟨e, _⟩ | ⟨g', cap, cur0, e, hh0, h1, h2, h3, h4⟩
        · rw [e] at hg; simp [blk] at hg
        · rw [e] at hg; simp [blk] at hg; subst hg
          rw [hh] at hh0; injection hh0 with hh0; injection hh0 with e1 e2; subst e1; subst e2
          exact .inr ⟨g', cap, cur'.toArray, by rw [hll]; exact e, hnew, by omega, h2, by simp [hsz, h3], by simpa using hoc.1⟩
    · by_cases hlq : q.live = true
      · exact (h.objs n' q hq).mono (Sub.refl m) (fun _ _ => rfl) (fun b hb => same b (by rintro rfl; exact e (h.dist n n' o q b hn hq hl hlq hg hb)))
      · cases q <;> simp [Ob.live] at hlq
        trivial
  · intro n1 n2 o1 o2 b h1 h2 l1 l2 b1 b2
    rcases key n1 o1 h1 with ⟨rfl, rfl⟩ | ⟨e1, q1⟩ <;> rcases key n2 o2 h2 with ⟨rfl, rfl⟩ | ⟨e2, q2⟩
    · rfl
    · exact h.dist _ _ o o2 b hn q2 hl l2 b1 b2
    · exact h.dist _ _ o1 o b q1 hn l1 hl b1 b2
    · exact h.dist _ _ o1 o2 b q1 q2 l1 l2 b1 b2
  · intro b i v hv
    by_cases e : b = g
    · subst e; rw [hnom i] at hv; cases hv
    · rw [World.cell?_of_block (w := w) (a := ⟨b, i, none⟩) (same b e)]
      exact h.mem b i v hv
  · intro n' q b i v hno hlq hb hv
    rcases key n' q hno with ⟨rfl, rfl⟩ | ⟨e, hq⟩
    · rw [hg] at hb; injection hb with hb; subst hb; rw [hnom i] at hv; cases hv
    · exact h.shy n' q b i v hq hlq hb hv
  · intro n' q b hno hlq hb
    rcases key n' q hno with ⟨rfl, rfl⟩ | ⟨e, hq⟩
    · exact h.home n' o b hn hl hb
    · exact h.home n' q b hq hlq hb
  · intro n' b hnb
    obtain ⟨h1, ty', c, h2⟩ := h.lent n' b hnb
    refine ⟨h1, ?_⟩
    by_cases e : n = n'
    · subst e
      rw [hn] at h2; injection h2 with h2; subst h2
      rcases hlike with ⟨ty, c0, c', _, rfl⟩ | ⟨_, _, _, _, e, _⟩
      · exact ⟨ty, c', upd_same _ _ _⟩
      · cases e
    · exact ⟨ty', c, by rw [upd_other _ _ e]; exact h2⟩
  · intro n' q hno k hk
    rcases key n' q hno with ⟨rfl, rfl⟩ | ⟨e, hq⟩
    · exact upd_none (hnm k hk)
    · exact upd_none (h.named n' q hq k hk)
  · refine ⟨h.frame.os, h.frame.tape, h.frame.output, by rw [size_setRow]; exact h.frame.size, fun b hb hno => ?_⟩
    refine (same b ?_).trans (h.frame.block b hb hno)
    rintro rfl
    rcases h.home n o b hn hl hg with h1 | h1
    · omega
    · exact hno n h1
/-- T5: an object is shared from now on: its cells are never written any more. -/
def Ob.within : Ob → Nat → Bool
  | .row _ _ es l, i => decide (i < l.length * es)
  | _, _ => true
def shareMem (m : Mem) (ρ : Rho) (w : World) (n : Nat) (o : Ob) : Mem := fun b i =>
  if blk (ρ n) = some b ∧ o.within i = true then w.cell? ⟨b, i, none⟩ else m b i
theorem MS.share (h : MS C ob m ρ w) {n : Nat} {o : Ob} (hn : ob n = some o) (hl : o.live = true) (hlent : ∀ g, (n, g) ∉ C.lent) :
    MS C (upd ob n o.share) (shareMem m ρ w n o) ρ w ∧ Sub m (shareMem m ρ w n o) := by
  have hsub : Sub m (shareMem m ρ w n o) := by
    intro b i v hv
    unfold shareMem
    split
    · exact h.mem b i v hv
    · exact hv
  have hl' : o.share.live = true := by cases o <;> simp_all [Ob.share, Ob.live]
  have hnm : o.share.names = o.names := by cases o <;> rfl
  have key : ∀ n' q, upd ob n o.share n' = some q → (n' = n ∧ q = o.share) ∨ (n ≠ n' ∧ ob n' = some q) := by
    intro n' q hno
    by_cases e : n = n'
    · subst e; rw [upd_same] at hno; exact .inl ⟨rfl, by injection hno with h; exact h.symm⟩
    · rw [upd_other _ _ e] at hno; exact .inr ⟨e, hno⟩
  refine ⟨⟨h.one, ?_, ?_, ?_, ?_, h.old.trans hsub, ?_, ?_, ?_, ?_, h.frame⟩, hsub⟩
  · intro n' q hno
    rcases key n' q hno with ⟨rfl, rfl⟩ | ⟨e, hq⟩
    · have := (h.objs n' o hn).mono hsub (ρ' := ρ) (fun _ _ => rfl) (w' := w) (fun _ _ => rfl)
      cases o <;> exact this
    · exact (h.objs n' q hq).mono hsub (fun _ _ => rfl) (fun _ _ => rfl)
  · intro n1 n2 o1 o2 b h1 h2 l1 l2 b1 b2
    rcases key n1 o1 h1 with ⟨rfl, rfl⟩ | ⟨e1, q1⟩ <;> rcases key n2 o2 h2 with ⟨rfl, rfl⟩ | ⟨e2, q2⟩
    · rfl
    · exact h.dist _ _ o o2 b hn q2 hl l2 b1 b2
    · exact h.dist _ _ o1 o b q1 hn l1 hl b1 b2
    · exact h.dist _ _ o1 o2 b q1 q2 l1 l2 b1 b2
  · intro b i v hv
    unfold shareMem at hv
    split at hv
    · exact hv
    · exact h.mem b i v hv
  · intro n' q b i v hno hlq hb hv
    unfold shareMem at hv
    rcases key n' q hno with ⟨rfl, rfl⟩ | ⟨e, hq⟩
    · split at hv
      · rename_i hc
        cases o with
        | var sh ty c => simp [Ob.share, Ob.cov]
        | row sh ty es l => simpa [Ob.share, Ob.cov, Ob.within] using hc.2
        | gone => simp [Ob.live] at hl
      · have := h.shy n' o b i v hn hl hb hv
        cases o with
        | var sh ty c => simp [Ob.share, Ob.cov]
        | row sh ty es l => exact ⟨rfl, this.2⟩
        | gone => simp [Ob.live] at hl
    · split at hv
      · rename_i hc
        exact (e (h.dist n n' o q b hn hq hl hlq hc.1 hb)).elim
      · exact h.shy n' q b i v hq hlq hb hv
  · intro b i v hv
    unfold shareMem at hv
    split at hv
    · rename_i hc
      rcases h.home n o b hn hl hc.1 with h1 | h1
      · exact .inr h1
      · exact (hlent b h1).elim
    · exact h.new b i v hv
  · intro n' q b hno hlq hb
    rcases key n' q hno with ⟨rfl, rfl⟩ | ⟨e, hq⟩
    · exact h.home n' o b hn hl hb
    · exact h.home n' q b hq hlq hb
  · intro n' b hnb
    obtain ⟨h1, ty', c, h2⟩ := h.lent n' b hnb
    have e : n ≠ n' := by rintro rfl; exact hlent b hnb
    exact ⟨h1, ty', c, by rw [upd_other _ _ e]; exact h2⟩
  · intro n' q hno k hk
    rcases key n' q hno with ⟨rfl, rfl⟩ | ⟨e, hq⟩
    · exact upd_none (h.named n' o hn k (by rw [← hnm]; exact hk))
    · exact upd_none (h.named n' q hq k hk)
end Go.Mg
