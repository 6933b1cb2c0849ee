/- Code, on the evaluator's states. -/
import Derived.Test.YtighjjielkdafaaDoorMgU
namespace Go.Mg
open Go.RowKit
variable {P : Program} {E : Env} {C : Ctx} {m m' : Mem} {ρ ρ' : Rho} {w w' : World} {a : Act} {s s' : St} {K : Out → Prop} {c x y : Code}

/-- what is to be shown of the machine, for an end of the code -/
def Fin (E : Env) (C : Ctx) (Q : Exit → Act → World → Prop) (m0 : Mem) : Out → Prop
  | .norm s => ∀ m ρ a w, Sub m0 m → SRel E C s m ρ a w → Q .normal a w
  | .exit id s => ∀ m ρ a w, Sub m0 m → SRel E C s m ρ a w → Q (.exit id) a w
  | .ret s => ∀ m ρ a w, Sub m0 m → SRel E C s m ρ a w → Q .ret a w
theorem Fin.mono {Q : Exit → Act → World → Prop} (h : Sub m m') : ∀ out, Fin E C Q m out → Fin E C Q m' out
  | .norm _, k => fun _ _ _ _ h1 h2 => k _ _ _ _ (h.trans h1) h2
  | .exit _ _, k => fun _ _ _ _ h1 h2 => k _ _ _ _ (h.trans h1) h2
  | .ret _, k => fun _ _ _ _ h1 h2 => k _ _ _ _ (h.trans h1) h2
/-- From any machine that is as s says, the code comes to an end that K allows. -/
def Ab (P : Program) (E : Env) (C : Ctx) (c : Code) (s : St) (K : Out → Prop) : Prop :=
  ∀ m ρ a w (Q : Exit → Act → World → Prop), SRel E C s m ρ a w → GlobOK E.glob m → (∀ out, K out → Fin E C Q m out) → c.wp P Q a w
theorem Ab.mono {K' : Out → Prop} (h : Ab P E C c s K) (hk : ∀ out, K out → K' out) : Ab P E C c s K' :=
  fun m ρ a w Q h1 h2 h3 => h m ρ a w Q h1 h2 (fun out ho => h3 out (hk out ho))
theorem Ab.skip (h : K (.norm s)) : Ab P E C .skip s K :=
  fun m ρ a w _ h1 _ h3 => wp_skip (h3 _ h m ρ a w (Sub.refl m) h1)
theorem Ab.exit {id : Nat} (h : K (.exit id s)) : Ab P E C (.exit id) s K :=
  fun m ρ a w _ h1 _ h3 => wp_exit (h3 _ h m ρ a w (Sub.refl m) h1)
theorem Ab.ret (h : K (.ret s)) : Ab P E C .ret s K :=
  fun m ρ a w _ h1 _ h3 => wp_ret (h3 _ h m ρ a w (Sub.refl m) h1)
/-- behind a piece of code: the next one, or its end. -/
def Nxt (J : St → Prop) (K : Out → Prop) : Out → Prop
  | .norm s => J s
  | o => K o
theorem Ab.seq (h : Ab P E C x s (Nxt (fun s1 => Ab P E C y s1 K) K)) : Ab P E C (.seq x y) s K := by
  intro m ρ a w Q h1 h2 h3
  refine wp_seq (h m ρ a w _ h1 h2 ?_)
  intro out ho
  cases out with
  | norm s1 =>
    intro m' ρ' a' w' q1 q2
    exact ho m' ρ' a' w' Q q2 (h2.mono q1) (fun out ho' => (h3 out ho').mono q1)
  | exit id s1 => exact fun m' ρ' a' w' q1 q2 => h3 _ ho m' ρ' a' w' q1 q2
  | ret s1 => exact fun m' ρ' a' w' q1 q2 => h3 _ ho m' ρ' a' w' q1 q2
theorem Ab.cond {o : Operand} {b : Bool} (hb : evalAV E s.tm o = .t (.bool b)) (ht : b = true → Ab P E C x s K) (hf : b = false → Ab P E C y s K) : Ab P E C (.cond o x y) s K := by
  intro m ρ a w Q h1 h2 h3
  have hv := (eval_ok (a := a) h1.ts h2 o).rv
  rw [hb] at hv
  exact wp_cond_split (rv_bool hv) (fun e => ht e m ρ a w Q h1 h2 h3) (fun e => hf e m ρ a w Q h1 h2 h3)
/-- a block's own exit is its end -/
def Blk (id : Nat) (K : Out → Prop) : Out → Prop
  | .exit id' s => if id' = id then K (.norm s) else K (.exit id' s)
  | o => K o
theorem Ab.block {id : Nat} (h : Ab P E C c s (Blk id K)) : Ab P E C (.block id c) s K := by
  intro m ρ a w Q h1 h2 h3
  refine wp_block (h m ρ a w _ h1 h2 ?_)
  intro out ho
  cases out with
  | norm s1 => exact fun m' ρ' a' w' q1 q2 => h3 _ ho m' ρ' a' w' q1 q2
  | exit id' s1 =>
    intro m' ρ' a' w' q1 q2
    simp only [Exit.inBlock]
    simp only [Blk] at ho
    split at ho
    · rename_i e
      rw [if_pos e]
      exact h3 _ ho m' ρ' a' w' q1 q2
    · rename_i e
      rw [if_neg e]
      exact h3 _ ho m' ρ' a' w' q1 q2
  | ret s1 => exact fun m' ρ' a' w' q1 q2 => h3 _ ho m' ρ' a' w' q1 q2
theorem Ab.scope (h : Ab P E C c s K) : Ab P E C (.scope c) s K := by
  intro m ρ a w Q h1 h2 h3
  refine wp_scope_straight (h m ρ a w _ h1 h2 ?_)
  intro out ho
  cases out with
  | norm s1 => exact fun m' ρ' a' w' q1 q2 => h3 _ ho m' ρ' a' w' q1 q2
  | exit id' s1 => exact fun m' ρ' a' w' q1 q2 => h3 _ ho m' ρ' a' w' q1 q2
  | ret s1 => exact fun m' ρ' a' w' q1 q2 => h3 _ ho m' ρ' a' w' q1 q2
theorem Ab.region (hE : EnvOK P E) (hC : ∀ n g, (n, g) ∈ C.lent → 50000 ≤ n) {id : Nat} {ops : Array Oper} (he : evOps E ops ops.toList s = some s') (hk : K (.norm s')) : Ab P E C (.region id ops false) s K := by
  intro m ρ a w Q h1 h2 h3
  refine wp_region ?_
  rw [List.range_eq_range', ← Array.length_toList]
  refine evOps_ok hE hC ops.toList 0 s s' m ρ a w (fun j o hj => by simpa using hj) h1 h2 he ?_
  exact fun m' ρ' a' w' q1 q2 => h3 _ hk m' ρ' a' w' q1 q2
theorem Ab.regionAny (hE : EnvOK P E) (hC : ∀ n g, (n, g) ∈ C.lent → 50000 ≤ n) {id : Nat} {ops : Array Oper} (pre : List Nat) (hok : anyOK ops pre = true) (he : evAny E ops pre 0 ops.toList [] [] s = some s') (hk : K (.norm s')) : Ab P E C (.region id ops true) s K := by
  intro m ρ a w Q h1 h2 h3
  refine wp_region_any hE.mixed ?_
  exact evAny_ok hE hC hok he (fun m' ρ' a' w' q1 q2 => h3 _ hk m' ρ' a' w' q1 q2) h1.drawn h2
theorem Ab.norm {L Kp : List Nat} {R : List (Nat × Nat)} (hL : ∀ n g, (n, g) ∈ C.lent → n ∈ L) (hn : s.norm L Kp R = some s') (h : Ab P E C c s' K) : Ab P E C c s K := by
  intro m ρ a w Q h1 h2 h3
  obtain ⟨ρ', h4⟩ := h1.norm hL hn
  exact h m ρ' a w Q h4 h2 h3
/-- A loop: its states are those of a family; each round goes on with a smaller one. -/
theorem Ab.loop {D : Type} (st : D → St) (Inv : D → Prop) (μ : D → Nat) {L : List Nat} (hL : ∀ n g, (n, g) ∈ C.lent → n ∈ L) (hr : ∀ d, Inv d → Ab P E C c (st d) (Nxt (fun s1 => ∃ d' Kp R, Inv d' ∧ μ d' < μ d ∧ s1.norm L Kp R = some (st d')) K)) (d : D) (hd : Inv d) :
    Ab P E C (.loop c) (st d) K := by
  intro m ρ a w Q h1 h2 h3
  refine wp_loop_rounds (μ d + 1) ?_
  have key : ∀ (n : Nat) (d : D) (m : Mem) (ρ : Rho) (a : Act) (w : World), μ d < n → Inv d → SRel E C (st d) m ρ a w → GlobOK E.glob m → (∀ out, K out → Fin E C Q m out) → Code.rounds P c Q n a w := by
    intro n
    induction n with
    | zero => intro d m ρ a w hlt; omega
    | succ n ih =>
      intro d m ρ a w hlt hi k1 k2 k3
      rw [rounds_succ]
      refine hr d hi m ρ a w _ k1 k2 ?_
      intro out ho
      cases out with
      | norm s1 =>
        obtain ⟨d', Kp, R, q1, q2, q3⟩ := ho
        intro m' ρ' a' w' r1 r2
        obtain ⟨ρ2, r3⟩ := r2.norm hL q3
        exact ih d' m' ρ2 a' w' (by omega) q1 r3 (k2.mono r1) (fun out ho' => (k3 out ho').mono r1)
      | exit id s1 => exact fun m' ρ' a' w' q1 q2 => k3 _ ho m' ρ' a' w' q1 q2
      | ret s1 => exact fun m' ρ' a' w' q1 q2 => k3 _ ho m' ρ' a' w' q1 q2
  exact key (μ d + 1) d m ρ a w (by omega) hd h1 h2 h3
end Go.Mg
