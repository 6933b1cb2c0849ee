/- What trees and abstract values mean: the relations, and plain lemmas on them. -/
import Derived.Test.YtdgbpoihgeefiaaDoorRRRMgA
namespace Go.Mg
open Go.RowKit

/-- Memory that is never written any more. -/
abbrev Mem := Nat → Nat → Option Value
def At (m : Mem) (b o : Nat) (us : List Value) : Prop := ∀ i v, us[i]? = some v → m b (o + i) = some v
def Sub (m m' : Mem) : Prop := ∀ b o v, m b o = some v → m' b o = some v
theorem Sub.refl (m : Mem) : Sub m m := fun _ _ _ h => h
theorem Sub.trans {a b c : Mem} (h : Sub a b) (k : Sub b c) : Sub a c := fun x y v e => k x y v (h x y v e)
theorem At.mono {m m' : Mem} (h : Sub m m') {b o : Nat} {us : List Value} (k : At m b o us) : At m' b o us := fun i v e => h _ _ _ (k i v e)

mutual
def RT (m : Mem) : T → List Value → Prop
  | .int k n, cs => cs = [.int k n]
  | .bool b, cs => cs = [.bool b]
  | .str s, cs => cs = [.string s]
  | .nilp, cs => cs = [.pointer none]
  | .ptr t, cs => ∃ b o us, cs = [.pointer (some ⟨b, o, none⟩)] ∧ RT m t us ∧ At m b o us
  | .nils, cs => cs = [.slice none 0 0]
  | .slc es l, cs => ∃ a c, cs = [.slice a l.length c] ∧ l.length ≤ c ∧ (l = [] ∨ ∃ b o us, a = some ⟨b, o, none⟩ ∧ REs m es l us ∧ At m b o us)
  | .tup l, cs => RTs m l cs
  | .arr es n l, cs => l.length = n ∧ REs m es l cs
  | .fn f, cs => cs = [.func (.func f) #[] #[]]
  | .nilf, cs => cs = [.nilFunc]
def RTs (m : Mem) : List T → List Value → Prop
  | [], cs => cs = []
  | t :: l, cs => ∃ c d, cs = c ++ d ∧ RT m t c ∧ RTs m l d
def REs (m : Mem) (es : Nat) : List T → List Value → Prop
  | [], cs => cs = []
  | t :: l, cs => ∃ c d, cs = c ++ d ∧ c.length = es ∧ RT m t c ∧ REs m es l d
end

mutual
theorem RT.mono {m m' : Mem} (h : Sub m m') : ∀ (t : T) (cs : List Value), RT m t cs → RT m' t cs
  | .int _ _, _, k => by simpa [RT] using k
  | .bool _, _, k => by simpa [RT] using k
  | .str _, _, k => by simpa [RT] using k
  | .nilp, _, k => by simpa [RT] using k
  | .ptr t, _, k => by
    simp only [RT] at k ⊢
    obtain ⟨b, o, us, e, r, q⟩ := k
    exact ⟨b, o, us, e, RT.mono h t us r, q.mono h⟩
  | .nils, _, k => by simpa [RT] using k
  | .slc es l, _, k => by
    simp only [RT] at k ⊢
    obtain ⟨a, c, e, hc, r⟩ := k
    refine ⟨a, c, e, hc, r.imp id ?_⟩
    rintro ⟨b, o, us, e, r, q⟩
    exact ⟨b, o, us, e, REs.mono h es l us r, q.mono h⟩
  | .tup l, cs, k => by
    simp only [RT] at k ⊢
    exact RTs.mono h l cs k
  | .arr es n l, cs, k => by
    simp only [RT] at k ⊢
    exact ⟨k.1, REs.mono h es l cs k.2⟩
  | .fn _, _, k => by simpa [RT] using k
  | .nilf, _, k => by simpa [RT] using k
theorem RTs.mono {m m' : Mem} (h : Sub m m') : ∀ (l : List T) (cs : List Value), RTs m l cs → RTs m' l cs
  | [], _, k => by simpa [RTs] using k
  | t :: l, _, k => by
    simp only [RTs] at k ⊢
    obtain ⟨c, d, e, r, q⟩ := k
    exact ⟨c, d, e, RT.mono h t c r, RTs.mono h l d q⟩
theorem REs.mono {m m' : Mem} (h : Sub m m') (es : Nat) : ∀ (l : List T) (cs : List Value), REs m es l cs → REs m' es l cs
  | [], _, k => by simpa [REs] using k
  | t :: l, _, k => by
    simp only [REs] at k ⊢
    obtain ⟨c, d, e, n, r, q⟩ := k
    exact ⟨c, d, e, n, RT.mono h t c r, REs.mono h es l d q⟩
end

mutual
theorem RT.len {m : Mem} : ∀ (t : T) (cs : List Value), RT m t cs → cs.length = t.size
  | .int _ _, _, k => by simp only [RT] at k; subst k; simp [T.size]
  | .bool _, _, k => by simp only [RT] at k; subst k; simp [T.size]
  | .str _, _, k => by simp only [RT] at k; subst k; simp [T.size]
  | .nilp, _, k => by simp only [RT] at k; subst k; simp [T.size]
  | .ptr t, _, k => by simp only [RT] at k; obtain ⟨b, o, us, rfl, _⟩ := k; simp [T.size]
  | .nils, _, k => by simp only [RT] at k; subst k; simp [T.size]
  | .slc es l, _, k => by simp only [RT] at k; obtain ⟨a, c, rfl, _⟩ := k; simp [T.size]
  | .tup l, cs, k => by
    simp only [RT] at k
    simp only [T.size]
    exact RTs.len l cs k
  | .arr es n l, cs, k => by
    simp only [RT] at k
    simp only [T.size]
    rw [← k.1]
    exact REs.len es l cs k.2
  | .fn _, _, k => by simp only [RT] at k; subst k; simp [T.size]
  | .nilf, _, k => by simp only [RT] at k; subst k; simp [T.size]
theorem RTs.len {m : Mem} : ∀ (l : List T) (cs : List Value), RTs m l cs → cs.length = T.sizes l
  | [], _, k => by simp only [RTs] at k; subst k; simp [T.sizes]
  | t :: l, _, k => by
    simp only [RTs] at k
    obtain ⟨c, d, rfl, r, q⟩ := k
    simp only [T.sizes, List.length_append]
    rw [RT.len t c r, RTs.len l d q]
theorem REs.len {m : Mem} (es : Nat) : ∀ (l : List T) (cs : List Value), REs m es l cs → cs.length = l.length * es
  | [], _, k => by simp only [REs] at k; subst k; simp
  | t :: l, _, k => by
    simp only [REs] at k
    obtain ⟨c, d, rfl, n, r, q⟩ := k
    simp only [List.length_append, List.length_cons]
    rw [n, REs.len es l d q, Nat.add_mul]
    omega
end

mutual
theorem RT.one {m : Mem} : ∀ (t : T) (cs : List Value), RT m t cs → ∀ v ∈ cs, v.oneCell' = true
  | .int _ _, _, k => by simp only [RT] at k; subst k; simp [Value.oneCell']
  | .bool _, _, k => by simp only [RT] at k; subst k; simp [Value.oneCell']
  | .str _, _, k => by simp only [RT] at k; subst k; simp [Value.oneCell']
  | .nilp, _, k => by simp only [RT] at k; subst k; simp [Value.oneCell']
  | .ptr t, _, k => by simp only [RT] at k; obtain ⟨b, o, us, rfl, _⟩ := k; simp [Value.oneCell']
  | .nils, _, k => by simp only [RT] at k; subst k; simp [Value.oneCell']
  | .slc es l, _, k => by simp only [RT] at k; obtain ⟨a, c, rfl, _⟩ := k; simp [Value.oneCell']
  | .tup l, cs, k => by simp only [RT] at k; exact RTs.one l cs k
  | .arr es n l, cs, k => by simp only [RT] at k; exact REs.one es l cs k.2
  | .fn _, _, k => by simp only [RT] at k; subst k; simp [Value.oneCell']
  | .nilf, _, k => by simp only [RT] at k; subst k; simp [Value.oneCell']
theorem RTs.one {m : Mem} : ∀ (l : List T) (cs : List Value), RTs m l cs → ∀ v ∈ cs, v.oneCell' = true
  | [], _, k => by simp only [RTs] at k; subst k; simp
  | t :: l, _, k => by
    simp only [RTs] at k
    obtain ⟨c, d, rfl, r, q⟩ := k
    intro v hv
    rcases List.mem_append.1 hv with hv | hv
    · exact RT.one t c r v hv
    · exact RTs.one l d q v hv
theorem REs.one {m : Mem} (es : Nat) : ∀ (l : List T) (cs : List Value), REs m es l cs → ∀ v ∈ cs, v.oneCell' = true
  | [], _, k => by simp only [REs] at k; subst k; simp
  | t :: l, _, k => by
    simp only [REs] at k
    obtain ⟨c, d, rfl, n, r, q⟩ := k
    intro v hv
    rcases List.mem_append.1 hv with hv | hv
    · exact RT.one t c r v hv
    · exact REs.one es l d q v hv
end

/-- A tree that is no struct and no array has one cell. -/
theorem RT.single {m : Mem} {t : T} {cs : List Value} (h : RT m t cs) (ha : t.agg = false) : ∃ v, cs = [v] := by
  cases t <;> simp [T.agg] at ha <;> simp only [RT] at h
  case ptr t => obtain ⟨b, o, us, rfl, _⟩ := h; exact ⟨_, rfl⟩
  case slc es l => obtain ⟨a, c, rfl, _⟩ := h; exact ⟨_, rfl⟩
  all_goals exact ⟨_, h⟩

section
variable {m : Mem} {es : Nat}
theorem REs.append : ∀ (l r : List T) (cs ds : List Value), REs m es l cs → REs m es r ds → REs m es (l ++ r) (cs ++ ds)
  | [], r, cs, ds, h, k => by simp only [REs] at h; subst h; simpa using k
  | t :: l, r, cs, ds, h, k => by
    simp only [REs] at h
    obtain ⟨c, d, rfl, n, a, b⟩ := h
    simp only [List.cons_append, REs]
    exact ⟨c, d ++ ds, by simp, n, a, REs.append l r d ds b k⟩
theorem REs.split : ∀ (l r : List T) (cs : List Value), REs m es (l ++ r) cs → REs m es l (cs.take (l.length * es)) ∧ REs m es r (cs.drop (l.length * es))
  | [], r, cs, h => by simpa [REs] using h
  | t :: l, r, cs, h => by
    simp only [List.cons_append, REs] at h
    obtain ⟨c, d, rfl, n, a, b⟩ := h
    obtain ⟨h1, h2⟩ := REs.split l r d b
    have e : (t :: l).length * es = c.length + l.length * es := by rw [List.length_cons, Nat.add_mul, n]; omega
    rw [e, List.take_length_add_append, List.drop_length_add_append]
    refine ⟨?_, h2⟩
    simp only [REs]
    exact ⟨c, _, rfl, n, a, h1⟩
theorem REs.take {l : List T} {cs : List Value} (h : REs m es l cs) (k : Nat) : REs m es (l.take k) (cs.take (k * es)) := by
  by_cases hk : k ≤ l.length
  · have := (REs.split (m := m) (es := es) (l.take k) (l.drop k) cs (by rw [List.take_append_drop]; exact h)).1
    simpa [Nat.min_eq_left hk] using this
  · have hl : cs.length ≤ k * es := by rw [REs.len es l cs h]; exact Nat.mul_le_mul_right _ (by omega)
    rw [List.take_of_length_le (by omega), List.take_of_length_le hl]; exact h
theorem REs.drop {l : List T} {cs : List Value} (h : REs m es l cs) (k : Nat) : REs m es (l.drop k) (cs.drop (k * es)) := by
  by_cases hk : k ≤ l.length
  · have := (REs.split (m := m) (es := es) (l.take k) (l.drop k) cs (by rw [List.take_append_drop]; exact h)).2
    simpa [Nat.min_eq_left hk] using this
  · have hl : cs.length ≤ k * es := by rw [REs.len es l cs h]; exact Nat.mul_le_mul_right _ (by omega)
    rw [List.drop_of_length_le (by omega), List.drop_of_length_le hl]; simp [REs]
/-- One element: its cells. -/
theorem REs.at_ {l : List T} {cs : List Value} (h : REs m es l cs) {i : Nat} {t : T} (hi : l[i]? = some t) : RT m t ((cs.drop (i * es)).take es) ∧ i * es + es ≤ cs.length := by
  have hlt : i < l.length := (List.getElem?_eq_some_iff.1 hi).1
  have hv : l[i] = t := (List.getElem?_eq_some_iff.1 hi).2
  have hd := h.drop i
  rw [List.drop_eq_getElem_cons hlt, hv] at hd
  simp only [REs] at hd
  obtain ⟨c, d, e, n, a, _⟩ := hd
  rw [e]
  refine ⟨by rw [← n, List.take_left]; exact a, ?_⟩
  have := congrArg List.length e
  simp only [List.length_drop, List.length_append] at this
  have h2 := REs.len es l cs h
  have : i * es + es ≤ l.length * es := by
    have := Nat.mul_le_mul_right es (show i + 1 ≤ l.length by omega)
    rw [Nat.add_mul] at this; omega
  omega
theorem REs.set {l : List T} {cs : List Value} (h : REs m es l cs) {i : Nat} {t : T} {c : List Value} (hi : i < l.length) (hc : RT m t c) (hn : c.length = es) :
    REs m es (l.set i t) (cs.take (i * es) ++ (c ++ cs.drop (i * es + es))) := by
  have h1 := h.take i
  have h2 := h.drop (i + 1)
  rw [show (i + 1) * es = i * es + es by rw [Nat.add_mul]; omega] at h2
  have e : l.set i t = l.take i ++ t :: l.drop (i + 1) := by
    rw [List.set_eq_take_append_cons_drop, if_pos hi]
  rw [e]
  refine REs.append _ _ _ _ h1 ?_
  simp only [REs]
  exact ⟨c, _, rfl, hn, hc, h2⟩
theorem REs.replicate {t : T} {c : List Value} (hc : RT m t c) (hn : c.length = es) : ∀ n, REs m es (List.replicate n t) ((List.replicate n c).flatten)
  | 0 => by simp [REs]
  | n + 1 => by
    simp only [List.replicate_succ, List.flatten_cons, REs]
    exact ⟨c, _, rfl, hn, hc, REs.replicate hc hn n⟩
theorem RTs.at_ : ∀ {l : List T} {cs : List Value} (_ : RTs m l cs) {i : Nat} {t : T} (_ : l[i]? = some t), RT m t ((cs.drop (T.sizes (l.take i))).take t.size) ∧ T.sizes (l.take i) + t.size ≤ cs.length
  | [], _, _, _, _, h => by simp at h
  | u :: l, cs, h, 0, t, hi => by
    simp only [RTs] at h
    obtain ⟨c, d, rfl, a, b⟩ := h
    simp at hi; subst hi
    have := RT.len u c a
    simp only [List.take_zero, T.sizes, List.drop_zero, List.length_append]
    exact ⟨by rw [← this, List.take_left]; exact a, by omega⟩
  | u :: l, cs, h, i + 1, t, hi => by
    simp only [RTs] at h
    obtain ⟨c, d, rfl, a, b⟩ := h
    have hl := RT.len u c a
    obtain ⟨h1, h2⟩ := RTs.at_ b (i := i) (t := t) (by simpa using hi)
    simp only [List.take_succ_cons, T.sizes, List.length_append]
    refine ⟨?_, by omega⟩
    rw [← hl, List.drop_length_add_append]; exact h1
theorem RTs.set : ∀ {l : List T} {cs : List Value} (_ : RTs m l cs) {i : Nat} {t u : T} {c : List Value} (_ : l[i]? = some t) (_ : RT m u c) (_ : u.size = t.size),
    RTs m (l.set i u) (cs.take (T.sizes (l.take i)) ++ (c ++ cs.drop (T.sizes (l.take i) + t.size)))
  | [], _, _, _, _, _, _, h, _, _ => by simp at h
  | x :: l, cs, h, 0, t, u, c, hi, hc, hs => by
    simp only [RTs] at h
    obtain ⟨e, d, rfl, a, b⟩ := h
    simp at hi; subst hi
    have := RT.len x e a
    simp only [List.take_zero, T.sizes, List.set_cons_zero, RTs, List.nil_append, Nat.zero_add]
    exact ⟨c, d, by rw [← this, List.drop_left], hc, b⟩
  | x :: l, cs, h, i + 1, t, u, c, hi, hc, hs => by
    simp only [RTs] at h
    obtain ⟨e, d, rfl, a, b⟩ := h
    have hl := RT.len x e a
    have ih := RTs.set b (i := i) (t := t) (by simpa using hi) hc hs
    simp only [List.take_succ_cons, T.sizes, List.set_cons_succ, RTs]
    refine ⟨e, _, ?_, a, ih⟩
    rw [← hl, List.take_length_add_append, Nat.add_assoc, List.drop_length_add_append]
    simp
theorem sizes_set : ∀ (l : List T) (i : Nat) (t u : T), l[i]? = some t → u.size = t.size → T.sizes (l.set i u) = T.sizes l
  | [], _, _, _, h, _ => by simp at h
  | x :: l, 0, t, u, h, hs => by simp at h; subst h; simp [T.sizes, hs]
  | x :: l, i + 1, t, u, h, hs => by simp [T.sizes, sizes_set l i t u (by simpa using h) hs]
end

/-! ### Abstract values -/
def blk : Value → Option Nat
  | .pointer (some a) => some a.block
  | .slice (some a) _ _ => some a.block
  | _ => none
abbrev Rho := Nat → Value
mutual
def RA (m : Mem) (ρ : Rho) : AV → List Value → Prop
  | .t v, cs => RT m v cs
  | .ref n _ off, cs => ∃ g, blk (ρ n) = some g ∧ cs = [.pointer (some ⟨g, off, none⟩)]
  | .own n, cs => cs = [ρ n]
  | .win n _ off _ _ len, cs => ∃ a c, cs = [.slice a len c] ∧ len ≤ c ∧ (len = 0 ∨ ∃ g, blk (ρ n) = some g ∧ a = some ⟨g, off, none⟩)
  | .tight es l, cs => ∃ a, cs = [.slice a l.length l.length] ∧ (l = [] ∨ ∃ b o us, a = some ⟨b, o, none⟩ ∧ REs m es l us ∧ At m b o us)
  | .tup l, cs => RAs m ρ l cs
  | .many _, _ => False
  | .bad, _ => False
def RAs (m : Mem) (ρ : Rho) : List AV → List Value → Prop
  | [], cs => cs = []
  | v :: l, cs => ∃ c d, cs = c ++ d ∧ RA m ρ v c ∧ RAs m ρ l d
end
/-- what a name stands for is one cell -/
def One (ρ : Rho) : Prop := ∀ n, (ρ n).oneCell' = true
mutual
theorem RA.mono {m m' : Mem} {ρ ρ' : Rho} (h : Sub m m') : ∀ (v : AV) (cs : List Value), (∀ n ∈ v.names, ρ' n = ρ n) → RA m ρ v cs → RA m' ρ' v cs
  | .t v, cs, _, k => by simp only [RA] at k ⊢; exact RT.mono h v cs k
  | .ref n p off, cs, e, k => by simp only [RA] at k ⊢; rw [e n (by simp [AV.names])]; exact k
  | .own n, cs, e, k => by simp only [RA] at k ⊢; rw [e n (by simp [AV.names])]; exact k
  | .win n p off es lo len, cs, e, k => by simp only [RA] at k ⊢; rw [e n (by simp [AV.names])]; exact k
  | .tight es l, cs, _, k => by
    simp only [RA] at k ⊢
    obtain ⟨a, e, r⟩ := k
    refine ⟨a, e, r.imp id ?_⟩
    rintro ⟨b, o, us, e, r, q⟩
    exact ⟨b, o, us, e, REs.mono h es l us r, q.mono h⟩
  | .tup l, cs, e, k => by simp only [RA] at k ⊢; exact RAs.mono h l cs (by simpa [AV.names] using e) k
  | .many _, _, _, k => by simp [RA] at k
  | .bad, _, _, k => by simp [RA] at k
theorem RAs.mono {m m' : Mem} {ρ ρ' : Rho} (h : Sub m m') : ∀ (l : List AV) (cs : List Value), (∀ n ∈ AV.namesL l, ρ' n = ρ n) → RAs m ρ l cs → RAs m' ρ' l cs
  | [], _, _, k => by simpa [RAs] using k
  | v :: l, _, e, k => by
    simp only [RAs] at k ⊢
    obtain ⟨c, d, rfl, r, q⟩ := k
    exact ⟨c, d, rfl, RA.mono h v c (fun n hn => e n (by simp [AV.namesL, hn])) r, RAs.mono h l d (fun n hn => e n (by simp [AV.namesL, hn])) q⟩
end
mutual
theorem RA.len {m : Mem} {ρ : Rho} : ∀ (v : AV) (cs : List Value), RA m ρ v cs → cs.length = v.size
  | .t v, cs, k => by simp only [RA] at k; simp only [AV.size]; exact RT.len v cs k
  | .ref n p off, cs, k => by simp only [RA] at k; obtain ⟨g, _, rfl⟩ := k; simp [AV.size]
  | .own n, cs, k => by simp only [RA] at k; subst k; simp [AV.size]
  | .win n p off es lo len, cs, k => by simp only [RA] at k; obtain ⟨a, c, rfl, _⟩ := k; simp [AV.size]
  | .tight es l, cs, k => by simp only [RA] at k; obtain ⟨a, rfl, _⟩ := k; simp [AV.size]
  | .tup l, cs, k => by simp only [RA] at k; simp only [AV.size]; exact RAs.len l cs k
  | .many _, _, k => by simp [RA] at k
  | .bad, _, k => by simp [RA] at k
theorem RAs.len {m : Mem} {ρ : Rho} : ∀ (l : List AV) (cs : List Value), RAs m ρ l cs → cs.length = AV.sizes l
  | [], _, k => by simp only [RAs] at k; subst k; simp [AV.sizes]
  | v :: l, _, k => by
    simp only [RAs] at k
    obtain ⟨c, d, rfl, r, q⟩ := k
    simp only [AV.sizes, List.length_append]
    rw [RA.len v c r, RAs.len l d q]
end
mutual
theorem RA.one {m : Mem} {ρ : Rho} (hρ : One ρ) : ∀ (v : AV) (cs : List Value), RA m ρ v cs → ∀ x ∈ cs, x.oneCell' = true
  | .t v, cs, k => by simp only [RA] at k; exact RT.one v cs k
  | .ref n p off, cs, k => by simp only [RA] at k; obtain ⟨g, _, rfl⟩ := k; simp [Value.oneCell']
  | .own n, cs, k => by simp only [RA] at k; subst k; simpa using hρ n
  | .win n p off es lo len, cs, k => by simp only [RA] at k; obtain ⟨a, c, rfl, _⟩ := k; simp [Value.oneCell']
  | .tight es l, cs, k => by simp only [RA] at k; obtain ⟨a, rfl, _⟩ := k; simp [Value.oneCell']
  | .tup l, cs, k => by simp only [RA] at k; exact RAs.one hρ l cs k
  | .many _, _, k => by simp [RA] at k
  | .bad, _, k => by simp [RA] at k
theorem RAs.one {m : Mem} {ρ : Rho} (hρ : One ρ) : ∀ (l : List AV) (cs : List Value), RAs m ρ l cs → ∀ x ∈ cs, x.oneCell' = true
  | [], _, k => by simp only [RAs] at k; subst k; simp
  | v :: l, _, k => by
    simp only [RAs] at k
    obtain ⟨c, d, rfl, r, q⟩ := k
    intro x hx
    rcases List.mem_append.1 hx with hx | hx
    · exact RA.one hρ v c r x hx
    · exact RAs.one hρ l d q x hx
end
theorem RA.single {m : Mem} {ρ : Rho} {v : AV} {cs : List Value} (h : RA m ρ v cs) (ha : v.agg = false) : ∃ x, cs = [x] := by
  cases v <;> simp [AV.agg] at ha <;> simp only [RA] at h
  case t v => exact RT.single h ha
  case ref n p off => obtain ⟨g, _, rfl⟩ := h; exact ⟨_, rfl⟩
  case own n => exact ⟨_, h⟩
  case win => obtain ⟨a, c, rfl, _⟩ := h; exact ⟨_, rfl⟩
  case tight => obtain ⟨a, rfl, _⟩ := h; exact ⟨_, rfl⟩

/-- A value of the machine, of a whole abstract value. -/
def RV0 (m : Mem) (ρ : Rho) (v : AV) (x : Value) : Prop := if v.agg = true then ∃ cs, x = .agg cs.toArray ∧ RA m ρ v cs else RA m ρ v [x]
def RVs (m : Mem) (ρ : Rho) : List AV → List Value → Prop
  | [], xs => xs = []
  | v :: l, xs => ∃ x r, xs = x :: r ∧ RV0 m ρ v x ∧ RVs m ρ l r
def RV (m : Mem) (ρ : Rho) : AV → Value → Prop
  | .bad, _ => True
  | .many l, x => ∃ xs, x = .tuple xs.toArray ∧ RVs m ρ l xs
  | v, x => RV0 m ρ v x
theorem RV_of_good {m : Mem} {ρ : Rho} {v : AV} {x : Value} (h : RV0 m ρ v x) : RV m ρ v x := by
  cases v with
  | bad => simp [RV]
  | many l => simp [RV0, AV.agg, RA] at h
  | _ => exact h
theorem good_of_RA {m : Mem} {ρ : Rho} : ∀ (v : AV) (cs : List Value), RA m ρ v cs → v ≠ .bad ∧ ∀ l, v ≠ .many l := by
  intro v cs h
  constructor
  · rintro rfl; simp [RA] at h
  · rintro l rfl; simp [RA] at h
theorem RV0_of_RV {m : Mem} {ρ : Rho} {v : AV} {x : Value} (h : RV m ρ v x) (hg : v.good = true) : RV0 m ρ v x := by
  cases v with
  | bad => simp [AV.good] at hg
  | many l => simp [AV.good] at hg
  | _ => exact h
/-- The cells of a value. -/
theorem RV0.cells {m : Mem} {ρ : Rho} {v : AV} {x : Value} (h : RV0 m ρ v x) (hρ : One ρ) : RA m ρ v x.cells.toList := by
  unfold RV0 at h
  split at h
  · obtain ⟨cs, rfl, h⟩ := h
    simpa [Value.cells] using h
  · have := RA.one hρ v [x] h x (by simp)
    cases x <;> simp [Value.oneCell'] at this <;> simpa [Value.cells] using h
theorem RV0.mono {m m' : Mem} {ρ ρ' : Rho} (h : Sub m m') {v : AV} {x : Value} (e : ∀ n ∈ v.names, ρ' n = ρ n) (k : RV0 m ρ v x) : RV0 m' ρ' v x := by
  unfold RV0 at k ⊢
  split at k
  · rw [if_pos (by assumption)]
    obtain ⟨cs, hx, k⟩ := k
    exact ⟨cs, hx, RA.mono h v cs e k⟩
  · rw [if_neg (by assumption)]
    exact RA.mono h v _ e k
theorem RVs.mono {m m' : Mem} {ρ ρ' : Rho} (h : Sub m m') : ∀ (l : List AV) (xs : List Value), (∀ n ∈ AV.namesL l, ρ' n = ρ n) → RVs m ρ l xs → RVs m' ρ' l xs
  | [], _, _, k => by simpa [RVs] using k
  | v :: l, _, e, k => by
    simp only [RVs] at k ⊢
    obtain ⟨x, r, rfl, a, b⟩ := k
    exact ⟨x, r, rfl, a.mono h (fun n hn => e n (by simp [AV.namesL, hn])), RVs.mono h l r (fun n hn => e n (by simp [AV.namesL, hn])) b⟩
theorem RV.mono {m m' : Mem} {ρ ρ' : Rho} (h : Sub m m') {v : AV} {x : Value} (e : ∀ n ∈ v.names, ρ' n = ρ n) (k : RV m ρ v x) : RV m' ρ' v x := by
  cases v with
  | bad => simp [RV]
  | many l =>
    simp only [RV] at k ⊢
    obtain ⟨xs, rfl, k⟩ := k
    exact ⟨xs, rfl, RVs.mono h l xs (by simpa [AV.names] using e) k⟩
  | _ => exact RV0.mono h e k
end Go.Mg
