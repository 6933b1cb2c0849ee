/- Small lemmas that the printed texts lean on. -/
import Derived.Test.YtdgbpoihgeefiaaDoorRRRMhJ
import Derived.Laws.Externs
namespace Go.Mg
open Go Go.RowKit
theorem leT_tups {l r : List T} (h : leT (.tup l) (.tup r)) : leTs l r := by simpa only [leT] using h
theorem leTs_two {a b : T} {l r : List T} (h : leTs (a :: l) (b :: r)) : leT a b ∧ leTs l r := by simpa only [leTs] using h
theorem le_nil {α : Type} {es : Nat} {f : α → T} : leT .nils (eS es f []) := by simp [leT, eS]
theorem flat_tup {l : List T} (h : T.flats l = true) : (T.tup l).flat = true := by simpa only [T.flat] using h
theorem flats_nil : T.flats [] = true := rfl
theorem flats_cons {t : T} {l : List T} (h : t.flat = true) (k : T.flats l = true) : T.flats (t :: l) = true := by simp only [T.flats, h, k, Bool.and_self]
theorem rrf_nil : RR.flats [] = true := rfl
theorem rrf_tree {t : T} {l : List RR} (h : t.flat = true) (k : RR.flats l = true) : RR.flats (.tree t :: l) = true := by simp only [RR.flats, h, k, Bool.and_self]
theorem fits_tup {ty : Nat → Option TyD} {n t : Nat} {l : List T} {fs : List (Nat × Nat)} {i : TyD} (h : ty t = some i) (hd : i.d = .struct fs) (hc : i.cmp = true) (hs : fitsS ty n l fs 0 = true) : fits ty (n + 1) (.tup l) t = true := by
  simp only [fits, h, hd, hc, hs, Bool.and_self]
theorem fitsS_nil (ty : Nat → Option TyD) (n o : Nat) : fitsS ty n [] [] o = true := by simp [fitsS]
theorem eqvs_n : eqvs [] [] = some true := rfl
theorem eqvs_c {a b : T} {l r : List T} {x y : Bool} (h : eqv a b = some x) (k : eqvs l r = some y) : eqvs (a :: l) (b :: r) = some (x && y) := by simp only [eqvs, h, k]
def FnsOK (P : Program) (glob : Nat → Option T) (l : List (Nat × Spec)) : Prop := ∀ f sp, get l f = some sp → SpecOK P glob f sp
theorem fns_nil {P : Program} {glob : Nat → Option T} : FnsOK P glob [] := fun _ _ h => by cases h
theorem fns_cons {P : Program} {glob : Nat → Option T} {f : Nat} {sp : Spec} {l : List (Nat × Spec)} (h : SpecOK P glob f sp) (k : FnsOK P glob l) : FnsOK P glob ((f, sp) :: l) := by
  intro g sp' hg
  simp only [get] at hg
  split at hg
  · rename_i e; subst e; injection hg with hg; subst hg; exact h
  · exact k g sp' hg
def optE {α β : Type} (o : Option α) (a : β) (f : α → β) : β := match o with
  | none => a
  | some x => f x
theorem optE_n {α β : Type} {a : β} {f : α → β} {r : β} (h : optE none a f = r) : a = r := h
theorem optE_s {α β : Type} {x : α} {a : β} {f : α → β} {r : β} (h : optE (some x) a f = r) : f x = r := h
theorem elim_l {α β γ : Type} {f : α → γ} {g : β → γ} {x : α} {r : γ} (h : Sum.elim f g (.inl x) = r) : f x = r := h
theorem elim_r {α β γ : Type} {f : α → γ} {g : β → γ} {x : β} {r : γ} (h : Sum.elim f g (.inr x) = r) : g x = r := h
def strOf (l : List Int) : ByteArray := ⟨(l.map fun n => UInt8.ofNat n.toNat).toArray⟩
def bytesL (s : ByteArray) : List Int := s.data.toList.map fun b => (b.toNat : Int)
def strAt (s : ByteArray) (i : Nat) : Option Int := (s.data[i]?).map fun b => (b.toNat : Int)
theorem bytesOf_map : ∀ l : List Int, bytesOf (l.map (T.int .u8)) = some (l.map fun n => UInt8.ofNat n.toNat)
  | [] => rfl
  | n :: l => by simp only [List.map_cons, bytesOf, bytesOf_map l, Option.map_some]
theorem bytes_strOf {t : List T} {l : List Int} (h : t = l.map (T.int .u8)) : (bytesOf t).map (fun b => (⟨b.toArray⟩ : ByteArray)) = some (strOf l) := by rw [h, bytesOf_map]; rfl
theorem ofBytes_map (l : List UInt8) : ofBytes l = List.map (T.int .u8) (l.map fun b => (b.toNat : Int)) := by simp only [ofBytes, List.map_map]; rfl
theorem le_len {α β : Type} {f : α → β} {t : List β} {l : List α} {x : Int} (h : t = l.map f) (k : x ≤ (l.length : Int)) : x ≤ ((t.length : Nat) : Int) := by rw [h]; simpa using k
theorem win_pre {α β : Type} {f : α → β} {t : List β} {l : List α} (h : t = l.map f) (b : Nat) : (t.drop 0).take (b - 0) = (l.take b).map f := by rw [h]; simp
theorem win_suf {α β : Type} {f : α → β} {t : List β} {l : List α} (h : t = l.map f) (a : Nat) : (t.drop a).take (t.length - a) = (l.drop a).map f := by
  rw [h, List.take_of_length_le (by simp)]; simp
theorem len_win {α : Type} {t : List α} {lo len : Nat} (h : lo + len ≤ t.length) : ((((t.drop lo).take len).length : Nat) : Int) = ((len : Nat) : Int) := by
  simp only [List.length_take, List.length_drop]; omega
theorem not_empty {α β : Type} {f : α → β} {t : List β} {l : List α} (h : t = l.map f) (k : l ≠ []) : t.isEmpty = false := by
  rw [h]; cases l with
  | nil => exact (k rfl).elim
  | cons => rfl
theorem copy_row {α β : Type} {f : α → β} {t : List β} {r l : List α} {lo len : Nat} (h : t = r.map f) : (l.map f).take lo ++ (t.take len ++ (l.map f).drop (lo + min t.length len)) = (over l lo len r).map f := by
  rw [h]; exact over_map f
theorem copy_arr {α β : Type} {f : α → β} {n : Nat} (a : Arr n α) {t : List β} {r : List α} {lo len : Nat} (h : t = r.map f) (hle : lo + len ≤ n) : (a.l.map f).take lo ++ (t.take len ++ (a.l.map f).drop (lo + min t.length len)) = (a.put (over a.l lo len r)).l.map f := by
  rw [Arr.put_l _ (by rw [over_length (by rw [a.h]; exact hle), a.h])]
  exact copy_row h
theorem copy_own {α β : Type} {f : α → β} {t : List β} {r l : List α} (h : t = r.map f) : t.take (l.map f).length ++ (l.map f).drop t.length = (over l 0 l.length r).map f := by
  rw [h, ← over_map]
  simp only [over, List.take_zero, List.nil_append, List.length_map, Nat.zero_add]
  congr 1
  by_cases hq : r.length ≤ l.length
  · rw [Nat.min_eq_left hq]
  · rw [List.drop_of_length_le (by simp; omega), List.drop_of_length_le (by simp; omega)]
theorem min_len {α β : Type} {f : α → β} {t : List β} {r : List α} {n : Nat} (h : t = r.map f) : ((min t.length n : Nat) : Int) = ((min r.length n : Nat) : Int) := by rw [h]; simp
theorem min_len2 {α β : Type} {f g : α → β} {t : List β} {r l : List α} (h : t = r.map f) : ((min t.length (l.map g).length : Nat) : Int) = ((min r.length l.length : Nat) : Int) := by rw [h]; simp
/-! ### math/bits.Add64, by the model's entry -/
def f_bits_Add64 (_n : Nat) (a b c : Int) : Option (Int × Int) := ask (decide (0 ≤ a ∧ 0 ≤ b ∧ 0 ≤ c ∧ c ≤ 1)) (some ((a + b + c) % 18446744073709551616, (a + b + c) / 18446744073709551616))
def spAdd : Spec := { flat := true, fn := fun ts => match ts with
  | [.int .u64 a, .int .u64 b, .int .u64 c] => if 0 ≤ a ∧ 0 ≤ b ∧ 0 ≤ c ∧ c ≤ 1 then some ([.tree (.int .u64 ((a + b + c) % 18446744073709551616)), .tree (.int .u64 ((a + b + c) / 18446744073709551616))], []) else none
  | _ => none }
theorem spAdd_inv {ts : List T} {x : List RR × List T} (h : spAdd.fn ts = some x) : ∃ a b c, ts = [.int .u64 a, .int .u64 b, .int .u64 c] ∧ (0 ≤ a ∧ 0 ≤ b ∧ 0 ≤ c ∧ c ≤ 1) ∧ x = ([.tree (.int .u64 ((a + b + c) % 18446744073709551616)), .tree (.int .u64 ((a + b + c) / 18446744073709551616))], []) := by
  simp only [spAdd] at h
  split at h
  · rename_i a b c
    split at h
    · rename_i hq
      simp only [Option.some.injEq] at h
      exact ⟨a, b, c, rfl, hq, h.symm⟩
    · cases h
  · cases h
theorem spAdd_ok {P : Program} {glob : Nat → Option T} {f : Nat} {fn : Func} (hf : P.funcs[f]? = some fn) (hname : (fn.name == "runtime.NumGoroutine") = false) (hb : fn.body.isNone = true) (hn : Extern.findNext fn = none) (he : Extern.find fn = some add64Entry) : SpecOK P glob f spAdd := by
  refine ⟨.inr ⟨rfl, ?_⟩, ?_⟩
  · intro m w ts vs rs us ha hfn
    obtain ⟨a, b, c, rfl, ⟨h1, h2, h3, h4⟩, e⟩ := spAdd_inv hfn
    simp only [Prod.mk.injEq] at e
    obtain ⟨rfl, rfl⟩ := e
    simp only [ArgsOK] at ha
    obtain ⟨v1, vs1, rfl, k1, v2, vs2, rfl, k2, v3, vs3, rfl, k3, rfl, _⟩ := ha
    have e1 := rv_int (RV_of_good k1)
    have e2 := rv_int (RV_of_good k2)
    have e3 := rv_int (RV_of_good k3)
    subst e1 e2 e3
    refine ⟨rfl, [.int .u64 ((a + b + c) % 18446744073709551616), .int .u64 ((a + b + c) / 18446744073709551616)], ?_, ?_, rfl⟩
    · rw [run_callFunc_extern hf hname hb hn he]
      have := run_add64 (P := P) a b c h1 h2 h3 h4 w
      rw [this]
      rfl
    · simp only [ResOK]
      refine ⟨_, _, rfl, ?_, _, _, rfl, ?_, rfl⟩ <;> simp [RV0, AV.agg, T.agg, RA, RT]
  · intro _ ts rs us hfn
    obtain ⟨a, b, c, rfl, _, e⟩ := spAdd_inv hfn
    simp only [Prod.mk.injEq] at e
    obtain ⟨rfl, rfl⟩ := e
    exact ⟨rfl, rfl⟩
theorem spAdd_fn {n : Nat} {ts : List T} {a b c : Int} {r : Int × Int} (hle : leTs ts [T.int .u64 a, T.int .u64 b, T.int .u64 c]) (h : f_bits_Add64 n a b c = some r) : spAdd.fn ts = some ([.tree (T.int .u64 r.1), .tree (T.int .u64 r.2)], []) := by
  obtain ⟨x, l, rfl, p1, q1⟩ := leTs_cons hle
  obtain ⟨y, l, rfl, p2, q2⟩ := leTs_cons q1
  obtain ⟨z, l, rfl, p3, q3⟩ := leTs_cons q2
  have := leTs_nil q3
  subst this
  have e1 : x = .int .u64 a := by cases x <;> simp [leT] at p1 ⊢ <;> exact p1
  have e2 : y = .int .u64 b := by cases y <;> simp [leT] at p2 ⊢ <;> exact p2
  have e3 : z = .int .u64 c := by cases z <;> simp [leT] at p3 ⊢ <;> exact p3
  subst e1 e2 e3
  obtain ⟨hq, h⟩ := ask_dec h
  simp only [Option.some.injEq] at h
  subst h
  simp only [spAdd]
  rw [if_pos hq]
end Go.Mg
