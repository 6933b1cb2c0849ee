/- Conversions; append; copy. -/
import Derived.Test.YtighjjielkdafaaDoorMgK
import Derived.Laws.BytesString
import Derived.Laws.IdiomStrings
import Derived.Laws.CopyRow
namespace Go.Mg
open Go.RowKit
variable {P : Program} {E : Env} {C : Ctx} {ob obr : Nat → Option Ob} {m m' : Mem} {ρ ρ' : Rho} {w w' : World} {o : Oper} {a : Act} {r : Res}

theorem TyOK.under {t : Nat} {d : TyD} (h : TyOK P t d) : ∃ u, P.underlying t = some u := by
  have := h.desc
  cases e : d.d <;> rw [e] at this
  case func => obtain ⟨_, _, _, h⟩ := this; exact ⟨_, h⟩
  case struct => obtain ⟨_, h, _⟩ := this; exact ⟨_, h⟩
  all_goals exact ⟨_, this⟩
theorem foldl_push (ns : List Int) : ∀ r : ByteArray, ns.foldl (fun r n => r.push (UInt8.ofNat n.toNat)) r = ⟨r.data ++ (ns.map fun n => UInt8.ofNat n.toNat).toArray⟩ := by
  induction ns with
  | nil => intro r; simp
  | cons n l ih =>
    intro r
    simp only [List.foldl_cons, List.map_cons]
    rw [ih]
    simp [ByteArray.push]
theorem rangeAt_load {b of : Nat} {us : List Value} (h : w.rangeAt b of us) : (loadCells ⟨b, of, none⟩ us.length).run P w = .ok us.toArray w :=
  run_loadCells_list (P := P) w ⟨b, of, none⟩ us (fun j v hv => by rw [Addr.add_mid]; exact h j v hv)
theorem ofBytes_cells (l : List UInt8) : REs m 1 (ofBytes l) (l.map fun b => Value.int .u8 b.toNat) := by
  induction l with
  | nil => simp [ofBytes, REs]
  | cons b l ih =>
    simp only [ofBytes, List.map_cons, REs]
    exact ⟨[.int .u8 b.toNat], _, rfl, rfl, by simp [RT], ih⟩
theorem esOf_some {v : AV} {l : List T} (h : elemsOf obr v = some l) : ∃ es, esOf obr es v = true := by
  unfold elemsOf at h
  split at h
  · exact ⟨0, rfl⟩
  · rename_i es _; exact ⟨es, by simp [esOf]⟩
  · rename_i es _; exact ⟨es, by simp [esOf]⟩
  · split at h
    · rename_i es l' hn; exact ⟨es, by simp [esOf, hn]⟩
    · cases h
  · rename_i es _ _; exact ⟨es, by simp [esOf]⟩
  · cases h
theorem bytes_es : ∀ {l : List T} {bs : List UInt8} {es : Nat} {us : List Value}, bytesOf l = some bs → REs m es l us → REs m 1 l us ∧ us.length = l.length
  | [], bs, es, us, _, h => by simp only [REs] at h ⊢; subst h; simp
  | t :: l, bs, es, us, hb, h => by
    obtain ⟨n, r, rfl, h1, rfl⟩ := bytesOf_inv hb
    simp only [REs] at h ⊢
    obtain ⟨c, d, rfl, hn, hc, hd⟩ := h
    obtain ⟨q1, q2⟩ := bytes_es h1 hd
    have hc' := hc
    simp only [RT] at hc'; subst hc'
    exact ⟨⟨_, d, rfl, rfl, hc, q1⟩, by simp [q2]⟩
/-- A row that is marked and given up: what lay in it is never written any more. -/
theorem MS.mark (h : MS C ob m ρ w) {n g : Nat} {sh : Bool} {ty es : Nat} {l : List T} (hn : ob n = some (.row sh ty es l)) (hg : blk (ρ n) = some g) {cur : Array Value} (hh : w.heap[g]? = some (.cells cur ty (0, 0))) (hw : w'.heap[g]? = some (.cells cur ty (cur.size, cur.size + 1)))
    (hne : ∀ b, b ≠ g → w'.heap[b]? = w.heap[b]?) (hos : w'.os = w.os) (htape : w'.tape = w.tape) (hout : w'.output = w.output) (hsz : w'.heap.size = w.heap.size) : MS C (upd ob n .gone) (shareMem m ρ w n (.row sh ty es l)) ρ w' := by
  have hnl : ∀ g', (n, g') ∉ C.lent := by
    intro g' hl
    obtain ⟨_, ty', c, hc⟩ := h.lent n g' hl
    rw [hn] at hc; cases hc
  obtain ⟨hs, hsub⟩ := h.share hn rfl hnl
  have hcell : ∀ b i v, w.cell? ⟨b, i, none⟩ = some v → w'.cell? ⟨b, i, none⟩ = some v := by
    intro b i v hv
    by_cases e : b = g
    · subst e
      rw [cell_of_row w b _ cur ty (0, 0) hh] at hv
      rw [cell_of_row w' b _ cur ty _ hw]; exact hv
    · exact (World.cell?_of_block (hne b e)).trans hv
  have key : ∀ k o', upd ob n .gone k = some o' → (k = n ∧ o' = .gone) ∨ (n ≠ k ∧ ob k = some o') := by
    intro k o' hk
    by_cases e : n = k
    · subst e; rw [upd_same] at hk; exact .inl ⟨rfl, by injection hk with h; exact h.symm⟩
    · rw [upd_other _ _ e] at hk; exact .inr ⟨e, hk⟩
  have up : ∀ k o', n ≠ k → ob k = some o' → upd ob n (Ob.share (.row sh ty es l)) k = some o' := fun k o' e hk => by rw [upd_other _ _ e]; exact hk
  refine ⟨h.one, ?_, ?_, ?_, ?_, hs.old, hs.new, ?_, ?_, ?_, ?_⟩
  · intro k o' hk
    rcases key k o' hk with ⟨rfl, rfl⟩ | ⟨e, q⟩
    · trivial
    · by_cases hl : o'.live = true
      · refine (hs.objs k o' (up k o' e q)).mono (Sub.refl _) (fun _ _ => rfl) (fun b hb => hne b ?_)
        rintro rfl
        exact e (h.dist n k _ o' b hn q rfl hl hg hb)
      · cases o' <;> simp [Ob.live] at hl
        trivial
  · intro k k' o1 o2 b h1 h2 l1 l2 b1 b2
    rcases key k o1 h1 with ⟨rfl, rfl⟩ | ⟨e1, q1⟩
    · simp [Ob.live] at l1
    · rcases key k' o2 h2 with ⟨rfl, rfl⟩ | ⟨e2, q2⟩
      · simp [Ob.live] at l2
      · exact h.dist k k' o1 o2 b q1 q2 l1 l2 b1 b2
  · intro b i v hv
    exact hcell b i v (hs.mem b i v hv)
  · intro k o' b i v hk hl hb hv
    rcases key k o' hk with ⟨rfl, rfl⟩ | ⟨e, q⟩
    · simp [Ob.live] at hl
    · exact hs.shy k o' b i v (up k o' e q) hl hb hv
  · intro k o' b hk hl hb
    rcases key k o' hk with ⟨rfl, rfl⟩ | ⟨e, q⟩
    · simp [Ob.live] at hl
    · exact h.home k o' b q hl hb
  · intro k b hkb
    obtain ⟨h1, ty', c, h2⟩ := h.lent k b hkb
    have e : n ≠ k := by rintro rfl; exact hnl b hkb
    exact ⟨h1, ty', c, by rw [upd_other _ _ e]; exact h2⟩
  · intro k o' hk j hj
    rcases key k o' hk with ⟨rfl, rfl⟩ | ⟨e, q⟩
    · simp [Ob.names] at hj
    · exact upd_none (h.named k o' q j hj)
  · refine ⟨hos.trans h.frame.os, htape.trans h.frame.tape, hout.trans h.frame.output, by rw [hsz]; exact h.frame.size, fun b hb hno => ?_⟩
    have hge : C.w0.heap.size ≤ g := (h.home n _ g hn rfl hg).resolve_right (hnl g)
    exact (hne b (by omega)).trans (h.frame.block b hb hno)
theorem freeze_heap (w : World) (g : Nat) {cur : Array Value} {ty : Nat} (hh : w.heap[g]? = some (.cells cur ty (0, 0))) :
    (w.freeze ⟨g, cur.size, none⟩ 1).heap[g]? = some (.cells cur ty (cur.size, cur.size + 1)) ∧ (∀ b, b ≠ g → (w.freeze ⟨g, cur.size, none⟩ 1).heap[b]? = w.heap[b]?) ∧ (w.freeze ⟨g, cur.size, none⟩ 1).os = w.os ∧ (w.freeze ⟨g, cur.size, none⟩ 1).tape = w.tape ∧ (w.freeze ⟨g, cur.size, none⟩ 1).output = w.output ∧ (w.freeze ⟨g, cur.size, none⟩ 1).heap.size = w.heap.size := by
  have hlt := (Array.getElem?_eq_some_iff.1 hh).1
  have hv := (Array.getElem?_eq_some_iff.1 hh).2
  unfold World.freeze
  rw [if_neg (by decide)]
  refine ⟨?_, ?_, rfl, rfl, rfl, by simp⟩
  · simp only [Array.getElem?_modify, if_true, hh]; rfl
  · intro b hb
    simp only [Array.getElem?_modify]
    rw [if_neg (Ne.symm hb)]
theorem opConv_ok (hE : EnvOK P E) (h : MS C ob m ρ w) (hs : SubO obr ob) {src dst : Nat} {x : Operand} (ho : o.op = .convert src dst x) {vx : AV} (hx : OpdOK ob m ρ vx (a.eval x)) (hr : opConv E src dst obr [vx] = some r) : Runs P C ob m ρ w o a r := by
  simp only [opConv] at hr
  split at hr
  · rename_i s d hsrc hdst
    obtain ⟨us, hus⟩ := (hE.ty _ _ hsrc).under
    have hd := (hE.ty _ _ hdst).desc
    split at hr
    · rename_i k k' n e
      rw [e] at hd
      simp at hr; subst hr
      have ex := rv_int hx.rv
      refine .pure h (x := .int k (k.wrap n)) ?_ ((rv_scal rfl).2 (by simp [RT])) (by simp [AV.names])
      simp only [execOp, ho, ex]
      simp [convert, run_underlying hus, run_underlying hd, Conv.intToInt]
    · rename_i b e
      rw [e] at hd
      simp at hr; subst hr
      have ex := rv_str hx.rv
      refine .pure h (x := .string b) ?_ ((rv_scal rfl).2 (by simp [RT])) (by simp [AV.names])
      simp only [execOp, ho, ex]
      simp [convert, run_underlying hus, run_underlying hd]
    · rename_i e _
      rw [e] at hd
      split at hr
      · rename_i e1 hk
        split at hr
        · rename_i j hj
          split at hr
          · rename_i hu8
            split at hr
            · rename_i l hl
              cases hbs : bytesOf l with
              | none => simp [hbs] at hr
              | some bs =>
                simp [hbs] at hr; subst hr
                have h1 := (hE.ty _ _ hsrc).desc
                have h2 := (hE.ty _ _ hj).desc
                rw [hk] at h1; rw [hu8] at h2
                obtain ⟨es, hes⟩ := esOf_some hl
                obtain ⟨A, c, ex, _, hcase⟩ := elems_ok h hs hx.rv hl hes
                refine .pure h (x := .string ⟨bs.toArray⟩) ?_ ((rv_scal rfl).2 (by simp [RT])) (by simp [AV.names])
                simp only [execOp, ho, ex]
                rw [Sem.run_bind, run_convert_bytes_string w src dst e1 A l.length c h1 h2 hd]
                have fin : (Conv.bytesToString (.slice A l.length c)).run P w = .ok (.string ⟨bs.toArray⟩) w := by
                  cases A with
                  | none =>
                    rcases hcase with rfl | ⟨_, _, _, e, _⟩
                    · simp [bytesOf] at hbs; subst hbs; rfl
                    · cases e
                  | some ad =>
                    have hld : ∃ ns : List Int, (loadCells ad l.length).run P w = .ok (ns.map (Value.int .u8)).toArray w ∧ bs = ns.map fun n => UInt8.ofNat n.toNat := by
                      rcases hcase with rfl | ⟨b, of, us, e, hre, hat⟩
                      · simp [bytesOf] at hbs; subst hbs
                        exact ⟨[], by simp [loadCells, loadCellsFrom], rfl⟩
                      · injection e with e; subst e
                        obtain ⟨q1, q2⟩ := bytes_es hbs hre
                        obtain ⟨ns, e1, e2⟩ := bytesOf_cells l bs us hbs q1
                        refine ⟨ns, ?_, e2⟩
                        rw [← q2, rangeAt_load hat, e1]
                    obtain ⟨ns, e1, e2⟩ := hld
                    rw [run_bytesToString w ad l.length c ns e1, foldl_push, e2]
                    simp [ByteArray.empty, ByteArray.emptyWithCapacity]; rfl
                rw [fin]
                rfl
            · cases hr
          · cases hr
        · cases hr
      · cases hr
    · rename_i e1 b e
      rw [e] at hd
      split at hr
      · rename_i j hj
        split at hr
        · rename_i hu8
          obtain ⟨hu8, hstr⟩ := hu8
          simp at hr; subst hr
          have h2 := (hE.ty _ _ hj).desc
          have h1 := (hE.ty _ _ hsrc).desc
          rw [hu8] at h2; rw [hstr] at h1
          have ex := rv_str hx.rv
          have hrun := run_bytes_of_string (P := P) w src dst e1 b h1 hd h2
          have hcell : ∀ (i : Nat) (u : Value), (b.data.toList.map fun b => Value.int .u8 (b.toNat : Int))[i]? = some u → (bytesRow b (grownCap w b.size 0 e1))[i]? = some u := by
            intro i u hu
            rw [List.getElem?_map] at hu
            have hi : i < b.data.size := by
              cases hq : b.data.toList[i]? with
              | none => simp [hq] at hu
              | some q => simpa using (List.getElem?_eq_some_iff.1 hq).1
            rw [bytesRow_at b _ i hi]
            simp only [Array.getElem?_toList, Array.getElem?_eq_getElem hi, Option.map_some] at hu
            exact hu
          have hg : Grow w (w.drew.alloc (.cells (bytesRow b (grownCap w b.size 0 e1)) e1 ((bytesRow b (grownCap w b.size 0 e1)).size, (bytesRow b (grownCap w b.size 0 e1)).size + 1))) :=
            (Grow.drew w).trans (Grow.alloc w.drew _)
          have hsub : Sub m (fun x i => if x = w.heap.size then (b.data.toList.map fun b => Value.int .u8 (b.toNat : Int))[i]? else m x i) := by
            intro x i v hv
            have := h.memlt hv
            simp only
            rw [if_neg (by omega)]; exact hv
          refine ⟨.value (.slice (some ⟨w.heap.size, 0, none⟩) b.size (grownCap w b.size 0 e1)), _, _, ρ, _, ?_, .inl rfl, hsub, Agree.refl _ _, h.grow hg hsub ?_ ?_, ?_, by simp [AV.names]⟩
          · simp only [execOp, ho, ex]
            rw [Sem.run_bind, hrun]
            rfl
          · intro x i v hv
            split at hv
            · rename_i e2; subst e2; exact .inr (Nat.le_refl _)
            · exact .inl hv
          · intro x i v hv hx'
            split at hv
            · rename_i e2; subst e2
              have := World.cell?_alloc_mark w.drew (bytesRow b (grownCap w b.size 0 e1)) e1 ((bytesRow b (grownCap w b.size 0 e1)).size, (bytesRow b (grownCap w b.size 0 e1)).size + 1) i
              exact this.trans (hcell i v hv)
            · have := h.memlt hv; omega
          · rw [rv_scal rfl]
            simp only [RT]
            have hbl : (ofBytes b.data.toList).length = b.size := by simp [ofBytes]
            refine ⟨some ⟨w.heap.size, 0, none⟩, grownCap w b.size 0 e1, by rw [hbl], by rw [hbl]; exact grownCap_ge w _ _ _, .inr ⟨_, _, _, rfl, ofBytes_cells _, ?_⟩⟩
            intro i u hu
            simp only [Nat.zero_add, if_true]
            exact hu
        · cases hr
      · cases hr
    · rename_i e1 n e
      rw [e] at hd
      split at hr
      · rename_i j sh ty es t l hj hob
        split at hr
        · rename_i hq
          obtain ⟨hu8, hsd⟩ := hq
          simp only [Option.some.injEq] at hr; subst hr
          subst hsd
          have h2 := (hE.ty _ _ hj).desc
          rw [hu8] at h2
          have hrow := h.objs n _ (hs n _ hob)
          have exv : a.eval x = ρ n := by
            have := RV0_of_RV hx.rv rfl
            unfold RV0 at this
            rw [if_neg (by simp [AV.agg])] at this
            simpa [RA] using this
          rcases hrow with ⟨_, hnil⟩ | ⟨g, cap, cur, ev, hh, h3, h4, h5, h6⟩
          · cases hnil
          · have hbk : blk (ρ n) = some g := by rw [ev]; rfl
            obtain ⟨f1, f2, f3, f4, f5, f6⟩ := freeze_heap w g hh
            have hms := h.mark (hs n _ hob) hbk hh f1 f2 f3 f4 f5 f6
            have hnl : ∀ g', (n, g') ∉ C.lent := by
              intro g' hl
              obtain ⟨_, ty', c, hc⟩ := h.lent n g' hl
              rw [hs n _ hob] at hc; cases hc
            refine ⟨.value (ρ n), _, _, ρ, w.freeze ⟨g, cur.size, none⟩ 1, ?_, .inl rfl, (h.share (hs n _ hob) rfl hnl).2, Agree.refl _ _, hms, ?_, by simp [AV.names]⟩
            · simp only [execOp, ho, exv, ev]
              have hsh : w.shape? g = some (ty, cur.size) := by unfold World.shape?; rw [hh]
              simp [convert, run_underlying hd, run_underlying h2, markStringish, hsh]
            · rw [rv_scal rfl]
              simp only [RT]
              refine ⟨some ⟨g, 0, none⟩, cap, by rw [ev], h3, .inr ⟨g, 0, cur.toList.take ((t :: l).length * es), rfl, ?_, ?_⟩⟩
              · exact REs.mono (h.share (hs n _ hob) rfl hnl).2 _ _ _ h6
              · intro i y hi
                rw [List.getElem?_take] at hi
                split at hi
                · rename_i hlt'
                  have hcell : w.cell? ⟨g, i, none⟩ = some y := by
                    rw [cell_of_row w g _ cur ty (0, 0) hh]
                    simpa using hi
                  unfold shareMem
                  rw [Nat.zero_add, if_pos ⟨hbk, by simp only [Ob.within, decide_eq_true_eq]; exact hlt'⟩]
                  exact hcell
                · cases hi
        · cases hr
      · cases hr
    · cases hr
  · cases hr

/-! ### append -/
/-- What append does to a slice of the call's own: a new row, or the elder one's block. -/
theorem run_append_src {t ty e : TypeId} {i : TypeInfo} {z : Value} (ht : P.underlying t = some (.slice e)) (hi : P.info? e = some i) (hz : i.zero = some z) (hzs : z.cells.size = i.size)
    {v : Value} {n : Nat} {xs : List Value} (hown : w.ownsRow 0 e i.size v n xs) {A : Option Addr} {k c : Nat} {news : List Value} (hl : news.length = k * i.size)
    (hsrc : k = 0 ∨ ∃ b of, A = some ⟨b, of, none⟩ ∧ w.rangeAt b of news) (h1 : ∀ u ∈ news, u.oneCell' = true) (h63 : n + k ≤ maxLen) (hbytes : (n + k) * i.bytes ≤ 140737488355328) :
    ∃ v' w', (Builtin.append_ #[t, t] ty #[v, .slice A k c]).run P w = .ok v' w' ∧ w'.ownsRow 0 e i.size v' (n + k) (xs ++ news) ∧
      ((v'.ownBlock = some w.heap.size ∧ Grow w w') ∨ (v'.ownBlock = v.ownBlock ∧ w.grownBy w' v.ownBlock)) := by
  have hsmall : n + k ≤ 9223372036854775807 := by simp only [maxLen] at h63; omega
  have hlen : (xs ++ news).length = (n + k) * i.size := by rw [List.length_append, hown.1, hl, Nat.add_mul]
  by_cases hk : k = 0
  · subst hk
    have hn : news = [] := List.eq_nil_of_length_eq_zero (by simpa using hl)
    subst hn
    refine ⟨v, w, ?_, by simpa using hown, .inr ⟨rfl, ⟨rfl, rfl, rfl, Nat.le_refl _, fun _ _ _ => rfl⟩⟩⟩
    have hf : (Builtin.firstCells i.size 0 (.slice A 0 c)).run P w = .ok #[] w := by
      cases A <;> simp [Builtin.firstCells, loadCells, loadCellsFrom]
    rcases hown.2 with ⟨rfl, rfl⟩ | ⟨g, cap, cur, rfl, _, _, hnc, _⟩
    · simp [Builtin.append_, run_underlying ht, sizeOf, typeInfo, hi, Builtin.lenOf, hf]
    · simp [Builtin.append_, run_underlying ht, sizeOf, typeInfo, hi, Builtin.lenOf, hf, hnc, storeCells]
  · obtain ⟨b, of, rfl, hat⟩ := hsrc.resolve_left hk
    have hnews : ∀ j u, news[j]? = some u → w.cell? ((⟨b, of, none⟩ : Addr).add j) = some u := fun j u hu => by rw [Addr.add_mid]; exact hat j u hu
    have grown : ∀ old : Nat,
        (w.drew.alloc (.cells (xs.toArray ++ news.toArray ++ Builtin.zeroCells z.cells (grownCap w (n + k) old e - (n + k))) e)).ownsRow 0 e i.size
          (.slice (some ⟨w.heap.size, 0, none⟩) (n + k) (grownCap w (n + k) old e)) (n + k) (xs ++ news) ∧
        Grow w (w.drew.alloc (.cells (xs.toArray ++ news.toArray ++ Builtin.zeroCells z.cells (grownCap w (n + k) old e - (n + k))) e)) := by
      intro old
      have hge := grownCap_ge w (n + k) old e
      refine ⟨⟨hlen, .inr ⟨w.heap.size, _, _, rfl, Nat.zero_le _, heap_alloc_new w.drew _, hge, grownCap_le_maxLen w (n + k) old e h63, ?_, ?_⟩⟩, (Grow.drew w).trans (Grow.alloc w.drew _)⟩
      · simp only [Array.size_append, List.size_toArray, size_zeroCells, hzs, hown.1, hl, ← Nat.add_mul]
        congr 1
        omega
      · simp only [Array.toList_append, List.append_assoc]
        rw [← List.append_assoc, ← hlen]
        exact List.take_left
    rcases hown.2 with ⟨rfl, rfl⟩ | ⟨g, cap, cur, rfl, hbg, hg, hnc, hcm, hcs, htake⟩
    · have hx : xs = [] := List.eq_nil_of_length_eq_zero (by simpa using hown.1)
      subst hx
      have hrn := run_append_nil (P := P) w t ty e i z ht hi hz ⟨b, of, none⟩ k c news hl hnews (by omega) (by omega) (by simp only [Nat.zero_add] at hbytes; omega)
      have hgr := grown 0
      simp only [Nat.zero_add, List.nil_append, Array.empty_append] at hgr ⊢
      exact ⟨_, _, hrn, hgr.1, .inl ⟨rfl, hgr.2⟩⟩
    · by_cases hroom : n + k ≤ cap
      · have hfit : n * i.size + news.length ≤ cur.size := by rw [hl, hcs, ← Nat.add_mul]; exact Nat.mul_le_mul_right _ hroom
        have hrn := run_append_room (P := P) w t ty e i ht hi g n cap cur hg ⟨b, of, none⟩ k c news hl hnews h1 hroom hfit
        refine ⟨_, _, hrn, ⟨hlen, .inr ⟨g, cap, _, rfl, hbg, setRow_heap w g cur _ e _ hg, hroom, hcm, ?_, ?_⟩⟩, .inr ⟨rfl, ⟨rfl, rfl, rfl, by simp, fun k _ hk => setRow_other w g k _ (fun e => hk (by simp [Value.ownBlock, e]))⟩⟩⟩
        · simp only [List.size_toArray, List.length_append, List.length_take, List.length_drop, Array.length_toList]
          omega
        · rw [htake, ← hlen]
          exact List.take_left
      · have holds : ∀ j u, xs[j]? = some u → w.cell? ((⟨g, 0, none⟩ : Addr).add j) = some u := hown.cells (g := g) rfl
        have hrn := run_append_grow (P := P) w t ty e i z ht hi hz ⟨g, 0, none⟩ n cap xs hown.1 holds ⟨b, of, none⟩ k c news hl hnews (by omega) (by omega) (growslice_fits (by omega) hbytes)
        have hgr := grown cap
        exact ⟨_, _, hrn, hgr.1, .inl ⟨rfl, hgr.2⟩⟩
end Go.Mg
