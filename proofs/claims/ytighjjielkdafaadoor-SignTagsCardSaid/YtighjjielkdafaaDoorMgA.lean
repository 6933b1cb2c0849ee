/- An abstract interpreter of the model's code: values as trees, objects of the call's own, an evaluator. (Definitions alone.) -/
import Derived.OwnWalk
import Derived.OrdersHeld
import Derived.Deep.MidRow
import Derived.Laws.OwnMore
import Derived.LoopN
import Derived.Scope
import Derived.Below
namespace Go.Mg
open Go

/-- Trees: values whose memory is never written any more. -/
inductive T where
  | int (k : IntKind) (n : Int)
  | bool (b : Bool)
  | str (s : ByteArray)
  | nilp
  | ptr (t : T)
  | nils
  | slc (es : Nat) (l : List T)
  | tup (l : List T)
  | arr (es n : Nat) (l : List T)
  | fn (f : Nat)
  | nilf
  deriving Inhabited

mutual
def T.size : T → Nat
  | .tup l => T.sizes l
  | .arr es n _ => n * es
  | _ => 1
def T.sizes : List T → Nat
  | [] => 0
  | t :: l => t.size + T.sizes l
end
def T.agg : T → Bool
  | .tup _ => true
  | .arr _ _ _ => true
  | _ => false
/-- The elements of a slice. -/
def T.elems : T → Option (List T)
  | .nils => some []
  | .slc _ l => some l
  | _ => none

/-- Abstract values. -/
inductive AV where
  | t (v : T)
  | ref (n : Nat) (p : List Nat) (off : Nat)
  | own (n : Nat)
  | win (n : Nat) (p : List Nat) (off es lo len : Nat)
  | tight (es : Nat) (l : List T)
  | tup (l : List AV)
  | many (l : List AV)
  | bad
  deriving Inhabited

mutual
def AV.size : AV → Nat
  | .t v => v.size
  | .tup l => AV.sizes l
  | _ => 1
def AV.sizes : List AV → Nat
  | [] => 0
  | v :: l => v.size + AV.sizes l
end
def AV.agg : AV → Bool
  | .t v => v.agg
  | .tup _ => true
  | _ => false
mutual
/-- Is it whole: no 'bad', no tuple inside? -/
def AV.good : AV → Bool
  | .tup l => AV.goods l
  | .many _ => false
  | .bad => false
  | _ => true
def AV.goods : List AV → Bool
  | [] => true
  | v :: l => v.good && AV.goods l
end
mutual
def AV.names : AV → List Nat
  | .ref n _ _ => [n]
  | .own n => [n]
  | .win n _ _ _ _ _ => [n]
  | .tup l => AV.namesL l
  | .many l => AV.namesL l
  | _ => []
def AV.namesL : List AV → List Nat
  | [] => []
  | v :: l => v.names ++ AV.namesL l
end

/-- Objects of the call's own. 'sh': it is shared: not written any more (a row may grow). -/
inductive Ob where
  | var (sh : Bool) (ty : Nat) (c : AV)
  | row (sh : Bool) (ty es : Nat) (l : List T)
  | gone
  deriving Inhabited
def Ob.share : Ob → Ob
  | .var _ ty c => .var true ty c
  | .row _ ty es l => .row true ty es l
  | .gone => .gone
/-- Is it there still? -/
def Ob.live : Ob → Bool
  | .gone => false
  | _ => true
def Ob.names : Ob → List Nat
  | .var _ _ c => c.names
  | _ => []
def Ob.isOpen : Ob → Bool
  | .var sh _ _ => !sh
  | .row sh _ _ _ => !sh
  | .gone => false

/-- Maps from numbers. -/
def get {α : Type} : List (Nat × α) → Nat → Option α
  | [], _ => none
  | (k, v) :: l, n => if k = n then some v else get l n
def sets {α : Type} (l : List (Nat × α)) : List (Nat × α) → List (Nat × α)
  | [] => l
  | x :: r => sets (x :: l) r

/-- What lies at a path of a value, and where its cells begin. -/
def look : AV → List Nat → Option (AV × Nat)
  | v, [] => some (v, 0)
  | .tup l, i :: p => match l[i]? with
    | some k => (look k p).map fun x => (x.1, AV.sizes (l.take i) + x.2)
    | none => none
  | .t (.tup l), i :: p => match l[i]? with
    | some k => (look (.t k) p).map fun x => (x.1, T.sizes (l.take i) + x.2)
    | none => none
  | .t (.arr es _ l), i :: p => match l[i]? with
    | some k => (look (.t k) p).map fun x => (x.1, i * es + x.2)
    | none => none
  | _, _ :: _ => none
def Ob.look : Ob → List Nat → Option (AV × Nat)
  | .var _ _ c, p => Mg.look c p
  | .row _ _ es l, i :: p => match l[i]? with
    | some k => (Mg.look (.t k) p).map fun x => (x.1, i * es + x.2)
    | none => none
  | _, _ => none
/-- A value with another one at a path, of like size. -/
def put : AV → List Nat → AV → Option AV
  | v, [], x => if x.good && x.size == v.size && x.agg == v.agg then some x else none
  | .tup l, i :: p, x => match l[i]? with
    | some k => (put k p x).map fun k' => .tup (l.set i k')
    | none => none
  | .t (.tup l), i :: p, x => match l[i]? with
    | some k => match put (.t k) p x with
      | some (.t k') => some (.t (.tup (l.set i k')))
      | some k' => some (.tup ((l.map AV.t).set i k'))
      | none => none
    | none => none
  | .t (.arr es n l), i :: p, x => match l[i]? with
    | some k => match put (.t k) p x with
      | some (.t k') => some (.t (.arr es n (l.set i k')))
      | _ => none
    | none => none
  | _, _ :: _, _ => none
def Ob.put : Ob → List Nat → AV → Option Ob
  | .var sh ty c, p, x => (Mg.put c p x).map (.var sh ty ·)
  | .row sh ty es l, i :: p, x => match l[i]? with
    | some k => match Mg.put (.t k) p x with
      | some (.t k') => some (.row sh ty es (l.set i k'))
      | _ => none
    | none => none
  | _, _, _ => none

/-- The elements behind a window. -/
def Ob.elemsAt (o : Ob) (p : List Nat) (off es lo : Nat) : Option (List T) :=
  match o, p with
  | .row _ _ es' l, [] => if es' = es ∧ off = lo * es then some l else none
  | .var _ _ c, p => match Mg.look c p with
    | some (.t (.arr es' _ l), o) => if es' = es ∧ off = o + lo * es then some l else none
    | _ => none
  | _, _ => none

/-- A value as a tree; the objects that are shared by it. -/
def asTree (ob : Nat → Option Ob) : AV → Option (T × List Nat)
  | .t v => some (v, [])
  | .own n => match ob n with
    | some (.row _ _ es l) => some (.slc es l, [n])
    | _ => none
  | .win n p off es lo len => match ob n with
    | some o => match o.elemsAt p off es lo with
      | some l => if lo + len ≤ l.length ∧ n < 50000 then some (.slc es ((l.drop lo).take len), [n]) else none
      | none => none
    | none => none
  | .tight es l => some (.slc es l, [])
  | _ => none
def asTrees (ob : Nat → Option Ob) : List AV → Option (List T × List Nat)
  | [] => some ([], [])
  | v :: l => match asTree ob v, asTrees ob l with
    | some (t, a), some (ts, b) => some (t :: ts, a ++ b)
    | _, _ => none
/-- .. a struct some of whose fields are no trees; a pointer to a variable of the call's own, that is not written any more. -/
def asTreeAll (ob : Nat → Option Ob) : AV → Option (T × List Nat)
  | .tup l => (asTrees ob l).map fun x => (.tup x.1, x.2)
  | .ref n [] 0 => if n < 50000 then match ob n with
    | some (.var _ _ (.tup l)) => (asTrees ob l).map fun x => (.ptr (.tup x.1), n :: x.2)
    | some (.var _ _ c) => (asTree ob c).map fun x => (.ptr x.1, n :: x.2)
    | _ => none else none
  | v => asTree ob v
def shares (ob : Nat → Option Ob) : List Nat → List (Nat × Ob)
  | [] => []
  | n :: l => match ob n with
    | some o => (n, o.share) :: shares ob l
    | none => shares ob l

/-- Types as the evaluator sees them. -/
inductive Ty where
  | int (k : IntKind) | bool | str | ptr (e : Nat) | slice (e : Nat) | func
  | struct (fs : List (Nat × Nat))
  | array (n e : Nat)
  deriving DecidableEq
structure TyD where
  d : Ty
  size : Nat
  bytes : Nat
  zero : T
  cmp : Bool := false
def Ty.agg : Ty → Bool
  | .struct _ => true
  | .array _ _ => true
  | _ => false

/-- What a call gives: trees, and rows that are nobody else's. -/
inductive RR where
  | tree (t : T)
  | row (ty es : Nat) (l : List T)
mutual
/-- Is it the same in any memory? -/
def T.flat : T → Bool
  | .ptr _ => false
  | .slc _ l => l.isEmpty
  | .tup l => T.flats l
  | .arr _ _ l => T.flats l
  | _ => true
def T.flats : List T → Bool
  | [] => true
  | t :: l => t.flat && T.flats l
end
def RR.flats : List RR → Bool
  | [] => true
  | .tree t :: l => t.flat && RR.flats l
  | .row _ _ l :: r => T.flats l && RR.flats r
/-- What a function does: its arguments as trees (of a parameter that is lent: what lies behind the pointer); its results; what is left in what was lent. -/
structure Spec where
  lent : List Bool := []
  fn : List T → Option (List RR × List T)
  flat : Bool := false

/-- The state. -/
structure St where
  tm : List (Nat × AV)
  ob : List (Nat × Ob)
/-- How a piece of code ends. -/
inductive Out where
  | norm (s : St)
  | exit (id : Nat) (s : St)
  | ret (s : St)

structure Env where
  ty : Nat → Option TyD
  glob : Nat → Option T
  fns : Nat → Option Spec
  ntmps : Nat

def constAV : Value → AV
  | .int k n => .t (.int k n)
  | .bool b => .t (.bool b)
  | .string s => .t (.str s)
  | .pointer none => .t .nilp
  | .slice none 0 0 => .t .nils
  | .nilFunc => .t .nilf
  | _ => .bad
def evalAV (E : Env) (tm : List (Nat × AV)) : Operand → AV
  | .tmp t => (get tm t).getD .bad
  | .const v => constAV v
  | .global g => match E.glob g with
    | some t => .t (.ptr t)
    | none => .bad
  | .func f => .t (.fn f)

def opnds : Op → List Operand
  | .move x | .assign x | .box _ x | .load _ x | .nilCheck x | .unOp _ _ x | .convert _ _ x | .fieldAddr _ x _ | .field _ x _ | .extract x _ => [x]
  | .pick c a b => [c, a, b]
  | .build _ ps => ps.toList.map (·.2)
  | .buildSlice _ _ ps => ps.toList.map (·.2)
  | .store _ a v => [a, v]
  | .binOp _ _ a v _ => [a, v]
  | .makeSlice _ a v => [a, v]
  | .indexAddr _ a v => [a, v]
  | .index _ a v => [a, v]
  | .slice _ x l h m => x :: (l.toList ++ h.toList ++ m.toList)
  | .call c => match c.callee with
    | .value f => f :: c.args.toList
    | _ => c.args.toList
  | _ => []

structure Res where
  v : AV
  wr : List (Nat × Ob)

def bits (op : BinOp) (k : IntKind) (x y : Int) : Int :=
  let a := BitVec.ofInt k.bits x
  let b := BitVec.ofInt k.bits y
  match op with
  | .and => k.wrap (a &&& b).toNat
  | .or => k.wrap (a ||| b).toNat
  | .xor => k.wrap (a ^^^ b).toNat
  | _ => k.wrap (a &&& ~~~b).toNat
def intOp (op : BinOp) (k : IntKind) (x y : Int) : Option T :=
  match op with
  | .add => some (.int k (k.wrap (x + y)))
  | .sub => some (.int k (k.wrap (x - y)))
  | .mul => some (.int k (k.wrap (x * y)))
  | .quo => if y = 0 then none else some (.int k (k.wrap (x.tdiv y)))
  | .rem => if y = 0 then none else some (.int k (x.tmod y))
  | .and => some (.int k (bits .and k x y))
  | .or => some (.int k (bits .or k x y))
  | .xor => some (.int k (bits .xor k x y))
  | .andNot => some (.int k (bits .andNot k x y))
  | .eql => some (.bool (x == y))
  | .neq => some (.bool (x != y))
  | .lss => some (.bool (decide (x < y)))
  | .leq => some (.bool (decide (x ≤ y)))
  | .gtr => some (.bool (decide (x > y)))
  | .geq => some (.bool (decide (x ≥ y)))
  | _ => none
def shiftOp (op : BinOp) (k : IntKind) (x y : Int) : Option T :=
  if y < 0 then none else
  match op with
  | .shl => some (.int k (k.wrap (x * 2 ^ (min y.toNat k.bits))))
  | .shr => some (.int k (x.fdiv (2 ^ (min y.toNat k.bits))))
  | _ => none
mutual
/-- Are two trees equal, as Go asks? -/
def eqv : T → T → Option Bool
  | .int k a, .int k' b => if k = k' then some (a == b) else none
  | .bool a, .bool b => some (a == b)
  | .str a, .str b => some (a.toList == b.toList)
  | .tup l, .tup r => eqvs l r
  | .arr es n l, .arr es' n' r => if es = es' ∧ n = n' then eqvs l r else none
  | _, _ => none
def eqvs : List T → List T → Option Bool
  | [], [] => some true
  | a :: l, b :: r => match eqv a b, eqvs l r with
    | some x, some y => some (x && y)
    | _, _ => none
  | _, _ => none
end
mutual
/-- Is a tree of a type: numbers, bools, strings in structs and arrays (n: how deep, at most)? -/
def fits (ty : Nat → Option TyD) : Nat → T → Nat → Bool
  | 0, _, _ => false
  | _ + 1, .int k _, t => match ty t with
    | some i => i.d == .int k
    | none => false
  | _ + 1, .bool _, t => match ty t with
    | some i => i.d == .bool
    | none => false
  | _ + 1, .str _, t => match ty t with
    | some i => i.d == .str
    | none => false
  | n + 1, .tup l, t => match ty t with
    | some i => match i.d with
      | .struct fs => i.cmp && fitsS ty n l fs 0
      | _ => false
    | none => false
  | n + 1, .arr es k l, t => match ty t with
    | some i => match i.d with
      | .array k' e => match ty e with
        | some j => k == k' && es == j.size && fitsA ty n es l e
        | none => false
      | _ => false
    | none => false
  | _ + 1, _, _ => false
def fitsS (ty : Nat → Option TyD) : Nat → List T → List (Nat × Nat) → Nat → Bool
  | _, [], [], _ => true
  | n, x :: l, (ft, fo) :: fs, o => o == fo && ((ty ft).map (·.size)) == some x.size && fits ty n x ft && fitsS ty n l fs (o + x.size)
  | _, _, _, _ => false
def fitsA (ty : Nat → Option TyD) : Nat → Nat → List T → Nat → Bool
  | _, _, [], _ => true
  | n, es, x :: l, e => fits ty n x e && fitsA ty n es l e
end
def isTy (E : Env) (ty : Nat) (d : Ty) : Bool :=
  match E.ty ty with
  | some i => i.d == d
  | none => false
def isPtrTy (E : Env) (ty : Nat) : Bool :=
  match E.ty ty with
  | some i => match i.d with
    | .ptr _ => true
    | _ => false
  | none => false
/-- Is a pointer nil? -/
def nilOf : AV → Option Bool
  | .t .nilp => some true
  | .t (.ptr _) => some false
  | .ref _ _ _ => some false
  | _ => none
def eqOp (op : BinOp) (b : Bool) : Option T :=
  match op with
  | .eql => some (.bool b)
  | .neq => some (.bool !b)
  | _ => none
def binOp (E : Env) (op : BinOp) (ty : Nat) (x y : AV) : Option T :=
  match x, y with
  | .t (.int k a), .t (.int k' b) => match op with
    | .shl => shiftOp .shl k a b
    | .shr => shiftOp .shr k a b
    | _ => if k = k' then intOp op k a b else none
  | .t (.bool a), .t (.bool b) => if isTy E ty .bool then eqOp op (a == b) else none
  | .t (.str a), .t (.str b) => eqOp op (a.toList == b.toList)
  | .t (.tup a), .t (.tup b) => if fits E.ty 20 (.tup a) ty && fits E.ty 20 (.tup b) ty && ((E.ty ty).map (·.cmp)).getD false then (eqvs a b).bind (eqOp op) else none
  | .t (.arr es n a), .t (.arr es' n' b) => if fits E.ty 20 (.arr es n a) ty && fits E.ty 20 (.arr es' n' b) ty && ((E.ty ty).map (·.cmp)).getD false then (eqv (.arr es n a) (.arr es' n' b)).bind (eqOp op) else none
  | x, y => match nilOf x, nilOf y with
    | some a, some b => if isPtrTy E ty && (a || b) then eqOp op (a && b) else none
    | _, _ => none
def unOp (op : UnOp) : AV → Option T
  | .t (.int k n) => match op with
    | .neg => some (.int k (k.wrap (0 - n)))
    | .xor => some (.int k (bits .xor k (if k.signed then -1 else k.max) n))
    | _ => none
  | .t (.bool b) => match op with
    | .not => some (.bool !b)
    | _ => none
  | _ => none
def minOp (mx : Bool) : List T → Option T
  | [.int k x, .int k' y] => if k = k' then some (.int k (if mx then (if y > x then y else x) else (if y < x then y else x))) else none
  | _ => none

/-- A new object's name, if it is free. -/
def fresh (dst : Option Tmp) (ob : Nat → Option Ob) : Option Nat :=
  match dst with
  | some d => match ob d with
    | none => some d
    | some _ => none
  | none => none
/-- The elements of a slice, as they are read. -/
def elemsOf (ob : Nat → Option Ob) : AV → Option (List T)
  | .t .nils => some []
  | .t (.slc _ l) => some l
  | .tight _ l => some l
  | .own n => match ob n with
    | some (.row _ _ _ l) => some l
    | _ => none
  | .win n p off es lo len => match ob n with
    | some o => match o.elemsAt p off es lo with
      | some l => if lo + len ≤ l.length then some ((l.drop lo).take len) else none
      | none => none
    | none => none
  | _ => none
/-- .. and their number of cells (of nil: whatever). -/
def esOf (ob : Nat → Option Ob) (es : Nat) : AV → Bool
  | .t .nils => true
  | .t (.slc e _) => e == es
  | .tight e _ => e == es
  | .own n => match ob n with
    | some (.row _ _ e _) => e == es
    | _ => false
  | .win _ _ _ e _ _ => e == es
  | _ => false
def maxBytes : Nat := 140737488355328

def setParts (l : List T) : List (Nat × T) → Option (List T)
  | [] => some l
  | (i, t) :: r => match l[i]? with
    | some z => if t.size = z.size then setParts (l.set i t) r else none
    | none => none
def setPartsAV (l : List AV) : List (Nat × AV) → Option (List AV)
  | [] => some l
  | (i, t) :: r => match l[i]? with
    | some z => if t.good && t.size == z.size then setPartsAV (l.set i t) r else none
    | none => none
def treesOf : List AV → Option (List T)
  | [] => some []
  | .t v :: l => (treesOf l).map (v :: ·)
  | _ => none
/-- trees out of values, with what is shared -/
def asTreeL (ob : Nat → Option Ob) : List AV → Option (List T × List Nat)
  | [] => some ([], [])
  | v :: l => match asTreeAll ob v, asTreeL ob l with
    | some (t, a), some (ts, b) => some (t :: ts, a ++ b)
    | _, _ => none
/-- the arguments of a call: what is lent by its content -/
def argsOf (ob : Nat → Option Ob) : List Bool → List AV → Option (List T × List Nat)
  | true :: bs, .ref n [] 0 :: l => match ob n, argsOf ob bs l with
    | some (.var false _ (.t c)), some (ts, b) => some (c :: ts, b)
    | _, _ => none
  | false :: bs, v :: l => match asTreeAll ob v, argsOf ob bs l with
    | some (t, a), some (ts, b) => some (t :: ts, a ++ b)
    | _, _ => none
  | [], l => asTreeL ob l
  | _, _ => none
/-- what was lent, as it is left -/
def lentBack (ob : Nat → Option Ob) : List Bool → List AV → List T → Option (List (Nat × Ob))
  | true :: bs, .ref n [] 0 :: l, u :: us => match ob n, lentBack ob bs l us with
    | some (.var false ty (.t c)), some r => if u.size = c.size ∧ u.agg = c.agg then some ((n, .var false ty (.t u)) :: r) else none
    | _, _ => none
  | false :: bs, _ :: l, us => lentBack ob bs l us
  | [], _, [] => some []
  | _, _, _ => none
def lentNames : List Bool → List AV → List Nat
  | true :: bs, .ref n _ _ :: l => n :: lentNames bs l
  | _ :: bs, _ :: l => lentNames bs l
  | _, _ => []
/-- the names of what a call makes: of result i -/
def nameOf (d i : Nat) : Nat := d + 10000 * i
def results (ob : Nat → Option Ob) (d : Nat) : Nat → List RR → Option (List AV × List (Nat × Ob))
  | _, [] => some ([], [])
  | i, .tree t :: l => (results ob d (i + 1) l).map fun x => (.t t :: x.1, x.2)
  | i, .row ty es r :: l => match ob (nameOf d i) with
    | none => (results ob d (i + 1) l).map fun x => (.own (nameOf d i) :: x.1, (nameOf d i, .row false ty es r) :: x.2)
    | some _ => none
def pack : List AV → AV
  | [v] => v
  | l => .many l

def takeInt : AV → Option Int
  | .t (.int _ n) => some n
  | _ => none
def bytesOf : List T → Option (List UInt8)
  | [] => some []
  | .int .u8 n :: l => (bytesOf l).map (UInt8.ofNat n.toNat :: ·)
  | _ => none
def ofBytes (l : List UInt8) : List T := l.map fun b => .int .u8 b.toNat

/-- the bounds of a slice expression: low, high, of a thing of length len; 'tight': with a third index that is the high one. -/
def bounds (len : Nat) (lo hi mx : Bool) (ps : List AV) : Option (Nat × Nat × Bool) :=
  match lo, hi, mx, ps with
  | false, false, false, [] => some (0, len, false)
  | true, false, false, [a] => match takeInt a with
    | some l => if 0 ≤ l ∧ l ≤ len then some (l.toNat, len, false) else none
    | none => none
  | false, true, false, [b] => match takeInt b with
    | some h => if 0 ≤ h ∧ h ≤ len then some (0, h.toNat, false) else none
    | none => none
  | true, true, false, [a, b] => match takeInt a, takeInt b with
    | some l, some h => if 0 ≤ l ∧ l ≤ h ∧ h ≤ len then some (l.toNat, h.toNat, false) else none
    | _, _ => none
  | false, true, true, [b, c] => match takeInt b, takeInt c with
    | some h, some m => if 0 ≤ h ∧ h ≤ len ∧ h = m then some (0, h.toNat, true) else none
    | _, _ => none
  | true, true, true, [a, b, c] => match takeInt a, takeInt b, takeInt c with
    | some l, some h, some m => if 0 ≤ l ∧ l ≤ h ∧ h ≤ len ∧ h = m then some (l.toNat, h.toNat, true) else none
    | _, _, _ => none
  | _, _, _, _ => none

def opMove : List AV → Option Res
  | [x] => some ⟨x, []⟩
  | _ => none
def opPick : List AV → Option Res
  | [.t (.bool c), a, b] => some ⟨if c then a else b, []⟩
  | _ => none
def opAlloc (E : Env) (ty : Nat) (dst : Option Tmp) (ob : Nat → Option Ob) : Option Res :=
  match fresh dst ob, E.ty ty with
  | some d, some i => some ⟨.ref d [] 0, [(d, .var false ty (.t i.zero))]⟩
  | _, _ => none
def opBox (ty : Nat) (dst : Option Tmp) (ob : Nat → Option Ob) : List AV → Option Res
  | [x] => match fresh dst ob with
    | some d => if x.good then some ⟨.ref d [] 0, [(d, .var false ty x)]⟩ else none
    | none => none
  | _ => none
def opBuild (E : Env) (ty : Nat) (is : List Nat) (ps : List AV) : Option Res :=
  match E.ty ty with
  | some i => match i.d, i.zero with
    | .struct _, .tup l => match treesOf ps with
      | some ts => (setParts l (is.zip ts)).map fun l => ⟨.t (.tup l), []⟩
      | none => (setPartsAV (l.map .t) (is.zip ps)).map fun l => ⟨.tup l, []⟩
    | .array _ _, .arr es n l => match treesOf ps with
      | some ts => (setParts l (is.zip ts)).map fun l => ⟨.t (.arr es n l), []⟩
      | none => none
    | _, _ => none
  | none => none
def opBuildSlice (E : Env) (ty len : Nat) (is : List Nat) (dst : Option Tmp) (ob : Nat → Option Ob) (ps : List AV) : Option Res :=
  match fresh dst ob, E.ty ty with
  | some d, some i => match i.d with
    | .slice e => match E.ty e, asTreeL ob ps with
      | some j, some (ts, sh) => if len * j.size ≤ 16777216 ∧ 0 < j.size ∧ is.length = ts.length then
          (setParts (List.replicate len j.zero) (is.zip ts)).map fun l => ⟨.own d, shares ob sh ++ [(d, .row false e j.size l)]⟩ else none
      | _, _ => none
    | _ => none
  | _, _ => none
def opLoad (E : Env) (ty : Nat) (ob : Nat → Option Ob) : List AV → Option Res
  | [.ref n p off] => match ob n, E.ty ty with
    | some b, some i => match b.look p with
      | some (x, o') => if o' = off ∧ x.good ∧ x.size = i.size ∧ x.agg = i.d.agg then some ⟨x, []⟩ else none
      | none => none
    | _, _ => none
  | [.t (.ptr u)] => match E.ty ty with
    | some i => if u.size = i.size ∧ u.agg = i.d.agg then some ⟨.t u, []⟩ else none
    | none => none
  | _ => none
def opStore (E : Env) (ty : Nat) (ob : Nat → Option Ob) : List AV → Option Res
  | [.ref n p off, x] => match ob n, E.ty ty with
    | some b, some i => match b.look p, b.put p x with
      | some (_, o'), some b' => if o' = off ∧ b.isOpen ∧ x.size = i.size then some ⟨.bad, [(n, b')]⟩ else none
      | _, _ => none
    | _, _ => none
  | _ => none
def opNil : List AV → Option Res
  | [.ref n p off] => some ⟨.ref n p off, []⟩
  | [.t (.ptr u)] => some ⟨.t (.ptr u), []⟩
  | _ => none
def opBin (E : Env) (op : BinOp) (ty : Nat) : List AV → Option Res
  | [x, y] => (binOp E op ty x y).map fun v => ⟨.t v, []⟩
  | _ => none
def opUn (op : UnOp) : List AV → Option Res
  | [x] => (unOp op x).map fun v => ⟨.t v, []⟩
  | _ => none
def opConv (E : Env) (src dst : Nat) (ob : Nat → Option Ob) : List AV → Option Res
  | [x] => match E.ty src, E.ty dst with
    | some s, some d => match d.d, x with
      | .int k, .t (.int _ n) => some ⟨.t (.int k (k.wrap n)), []⟩
      | .str, .t (.str b) => some ⟨.t (.str b), []⟩
      | .str, x => match s.d with
        | .slice e => match E.ty e with
          | some e => if e.d = .int .u8 then match elemsOf ob x with
            | some l => (bytesOf l).map fun b => ⟨.t (.str ⟨b.toArray⟩), []⟩
            | none => none else none
          | none => none
        | _ => none
      | .slice e, .t (.str b) => match E.ty e with
        | some j => if j.d = .int .u8 ∧ s.d = .str then some ⟨.t (.slc 1 (ofBytes b.data.toList)), []⟩ else none
        | none => none
      | .slice e, .own n => match E.ty e, ob n with
        | some j, some (.row _ _ es (t :: l)) => if j.d = .int .u8 ∧ src = dst then some ⟨.t (.slc es (t :: l)), [(n, .gone)]⟩ else none
        | _, _ => none
      | _, _ => none
    | _, _ => none
  | _ => none
def fieldOf (E : Env) (s f : Nat) : Option (TyD × Nat) :=
  match E.ty s with
  | some i => match i.d with
    | .struct fs => match fs[f]? with
      | some (ft, fo) => match E.ty ft with
        | some j => some (j, fo)
        | none => none
      | none => none
    | _ => none
  | none => none
def opFieldAddr (E : Env) (s f : Nat) : List AV → Option Res
  | [.ref n p off] => match fieldOf E s f with
    | some (j, fo) => if 0 < j.size then some ⟨.ref n (p ++ [f]) (off + fo), []⟩ else none
    | none => none
  | [.t (.ptr (.tup l))] => match fieldOf E s f, l[f]? with
    | some (j, fo), some u => if 0 < j.size ∧ T.sizes (l.take f) = fo then some ⟨.t (.ptr u), []⟩ else none
    | _, _ => none
  | _ => none
def opField (E : Env) (s f : Nat) : List AV → Option Res
  | [x] => match fieldOf E s f, look x [f] with
    | some (j, fo), some (y, o') => if o' = fo ∧ y.size = j.size ∧ y.agg = j.d.agg ∧ x.agg ∧ y.good then some ⟨y, []⟩ else none
    | _, _ => none
  | _ => none
/-- an element of memory that is never written -/
def elemPtr (j : TyD) (es : Nat) (l : List T) (n : Nat) : Option Res :=
  match l[n]? with
  | some u => if es = j.size then some ⟨.t (.ptr u), []⟩ else none
  | none => none
def opIndexAddr (E : Env) (ty : Nat) (ob : Nat → Option Ob) : List AV → Option Res
  | [x, .t (.int _ n)] => match E.ty ty with
    | some i => match i.d with
      | .array len e => match E.ty e with
        | some j => if 0 ≤ n ∧ n < len ∧ 0 < j.size then match x with
          | .ref m p off => some ⟨.ref m (p ++ [n.toNat]) (off + n.toNat * j.size), []⟩
          | .t (.ptr (.arr es _ l)) => elemPtr j es l n.toNat
          | _ => none else none
        | none => none
      | .slice e => match E.ty e with
        | some j => if 0 ≤ n ∧ 0 < j.size then match x with
          | .t (.slc es l) => elemPtr j es l n.toNat
          | .tight es l => elemPtr j es l n.toNat
          | .own m => match ob m with
            | some (.row _ _ es l) => if n.toNat < l.length ∧ es = j.size then some ⟨.ref m [n.toNat] (n.toNat * es), []⟩ else none
            | _ => none
          | .win m p off es lo len => if n.toNat < len ∧ es = j.size then some ⟨.ref m (p ++ [lo + n.toNat]) (off + n.toNat * es), []⟩ else none
          | _ => none else none
        | none => none
      | _ => none
    | none => none
  | _ => none
def opIndex (E : Env) (ty : Nat) : List AV → Option Res
  | [.t (.arr es len l), .t (.int _ n)] => match E.ty ty with
    | some i => match i.d with
      | .array len' e => match E.ty e, l[n.toNat]? with
        | some j, some u => if 0 ≤ n ∧ n < len ∧ len = len' ∧ es = j.size ∧ u.agg = j.d.agg then some ⟨.t u, []⟩ else none
        | _, _ => none
      | _ => none
    | none => none
  | [.t (.str s), .t (.int _ n)] => match E.ty ty with
    | some i => match i.d, s.data[n.toNat]? with
      | .str, some b => if 0 ≤ n then some ⟨.t (.int .u8 b.toNat), []⟩ else none
      | _, _ => none
    | none => none
  | _ => none
def opExtract (k : Nat) : List AV → Option Res
  | [.many l] => l[k]?.map fun v => ⟨v, []⟩
  | _ => none
def opMake (E : Env) (ty : Nat) (dst : Option Tmp) (ob : Nat → Option Ob) : List AV → Option Res
  | [.t (.int _ n), .t (.int _ c)] => match fresh dst ob, E.ty ty with
    | some d, some i => match i.d with
      | .slice e => match E.ty e with
        | some j => if 0 ≤ n ∧ (n = c ∨ n = 0) ∧ n ≤ c ∧ 0 < j.size ∧ j.bytes * c ≤ 140737488355328 ∧ c ≤ 140737488355328 then
            some ⟨.own d, [(d, .row false e j.size (List.replicate n.toNat j.zero))]⟩ else none
        | none => none
      | _ => none
    | _, _ => none
  | _ => none
def opSlice (E : Env) (ty : Nat) (lo hi mx : Bool) (ob : Nat → Option Ob) : List AV → Option Res
  | x :: r => match E.ty ty with
    | some i => match i.d with
      | .str => match x with
        | .t (.str s) => match bounds s.size lo hi mx r with
          | some (l, h, false) => some ⟨.t (.str (s.extract l h)), []⟩
          | _ => none
        | _ => none
      | .slice e => match E.ty e, elemsOf ob x with
        | some j, some l => if esOf ob j.size x ∧ 0 < j.size then match bounds l.length lo hi mx r with
          | some (a, b, true) => match x with
            | .t _ => some ⟨.tight j.size ((l.drop a).take (b - a)), []⟩
            | _ => none
          | some (a, b, false) => match x with
            | .own n => if !lo && !hi then some ⟨.own n, []⟩ else some ⟨.win n [] (a * j.size) j.size a (b - a), []⟩
            | .win n p off es k _ => some ⟨.win n p (off + a * es) es (k + a) (b - a), []⟩
            | .t .nils => some ⟨.t .nils, []⟩
            | .t (.slc es _) => some ⟨.t (.slc es ((l.drop a).take (b - a))), []⟩
            | _ => none
          | none => none else none
        | _, _ => none
      | .array n e => match E.ty e, bounds n lo hi mx r with
        | some j, some (a, b, false) => if 0 < j.size then match x with
          | .ref m p off => some ⟨.win m p (off + a * j.size) j.size a (b - a), []⟩
          | .t (.ptr (.arr es n' l)) => if es = j.size ∧ n = n' then some ⟨.t (.slc es ((l.drop a).take (b - a))), []⟩ else none
          | _ => none else none
        | _, _ => none
      | _ => none
    | none => none
  | _ => none
def opLen (E : Env) (ts : List Nat) (ob : Nat → Option Ob) : List AV → Option Res
  | [x] => match ts with
    | [ty] => match E.ty ty with
      | some i => match i.d with
        | .str => match x with
          | .t (.str s) => some ⟨.t (.int .i64 s.size), []⟩
          | _ => none
        | .slice _ => (elemsOf ob x).map fun l => ⟨.t (.int .i64 l.length), []⟩
        | .array n _ => some ⟨.t (.int .i64 n), []⟩
        | _ => none
      | none => none
    | _ => none
  | _ => none
def opMinMax (mx : Bool) : List AV → Option Res
  | [.t a, .t b] => (minOp mx [a, b]).map fun v => ⟨.t v, []⟩
  | _ => none
/-- two slices of one type -/
def twoOf (E : Env) (ts : List Nat) : Option (Nat × TyD) :=
  match ts with
  | [ty, ty'] => match E.ty ty with
    | some i => match i.d with
      | .slice e => match E.ty e with
        | some j => if ty = ty' ∧ 0 < j.size then some (e, j) else none
        | none => none
      | _ => none
    | none => none
  | _ => none
def opAppend (E : Env) (ts : List Nat) (dst : Option Tmp) (ob : Nat → Option Ob) : List AV → Option Res
  | [s, x] => match fresh dst ob, twoOf E ts with
    | some d, some (e, j) => match elemsOf ob s, elemsOf ob x with
      | some l, some r => if esOf ob j.size s ∧ esOf ob j.size x ∧ (l.length + r.length) * j.bytes ≤ maxBytes ∧ l.length + r.length ≤ maxBytes then
          match s with
          | .t .nils => some ⟨.own d, [(d, .row false e j.size r)]⟩
          | .own n => match ob n with
            | some (.row sh e' es _) => if e' = e then some ⟨.own d, [(d, .row sh e es (l ++ r)), (n, .gone)]⟩ else none
            | _ => none
          | .tight _ _ => if r.isEmpty then none else some ⟨.own d, [(d, .row false e j.size (l ++ r))]⟩
          | _ => none else none
      | _, _ => none
    | _, _ => none
  | _ => none
/-- an object whose elements from k on are others -/
def Ob.laid (b : Ob) (p : List Nat) (l : List T) : Option Ob :=
  match b with
  | .row sh ty es _ => some (.row sh ty es l)
  | .var sh ty c => match Mg.look c p with
    | some (.t (.arr es n _), _) => (Mg.put c p (.t (.arr es n l))).map fun c' => .var sh ty c'
    | _ => none
  | .gone => none
def opCopy (E : Env) (ts : List Nat) (ob : Nat → Option Ob) : List AV → Option Res
  | [d, x] => match twoOf E ts, elemsOf ob x with
    | some (_, j), some r => if esOf ob j.size x then match d with
      | .win n p off es lo len => match ob n with
        | some b => match b.elemsAt p off es lo with
          | some l => if es = j.size ∧ lo + len ≤ l.length ∧ b.isOpen then
              (b.laid p (l.take lo ++ (r.take len ++ l.drop (lo + min r.length len)))).map fun b' => ⟨.t (.int .i64 (min r.length len : Nat)), [(n, b')]⟩ else none
          | none => none
        | none => none
      | .own n => match ob n with
        | some (.row false ty es l) => if es = j.size then some ⟨.t (.int .i64 (min r.length l.length : Nat)), [(n, .row false ty es (r.take l.length ++ l.drop r.length))]⟩ else none
        | _ => none
      | _ => none else none
    | _, _ => none
  | _ => none
def opFn (E : Env) (dst : Option Tmp) (ob : Nat → Option Ob) : List AV → Option Res
  | .t (.fn f) :: as => match E.fns f with
    | some sp => match argsOf ob sp.lent as with
      | some (ts, sh) => match sp.fn ts with
        | some (rs, us) => match lentBack ob sp.lent as us, results ob (dst.getD 0) 0 rs with
          | some lb, some (vs, nw) => if (dst.isNone && !rs.isEmpty) || (sh.any fun n => (lentNames sp.lent as).contains n) || decide (4 < rs.length) || !decide (lentNames sp.lent as).Nodup then none
            else some ⟨pack vs, (if sp.flat then [] else shares ob sh) ++ (lb ++ nw)⟩
          | _, _ => none
        | none => none
      | none => none
    | none => none
  | _ => none
def opCall (E : Env) (c : Call) (dst : Option Tmp) (ob : Nat → Option Ob) (ps : List AV) : Option Res :=
  match c.callee with
  | .builtin .len => opLen E c.argTypes.toList ob ps
  | .builtin .max => opMinMax true ps
  | .builtin .min => opMinMax false ps
  | .builtin .append => opAppend E c.argTypes.toList dst ob ps
  | .builtin .copy => opCopy E c.argTypes.toList ob ps
  | .value _ => opFn E dst ob ps
  | _ => none
def opSem (E : Env) (o : Oper) (ps : List AV) (ob : Nat → Option Ob) : Option Res :=
  match o.op with
  | .move _ => opMove ps
  | .assign _ => opMove ps
  | .pick _ _ _ => opPick ps
  | .alloc ty => opAlloc E ty o.dst ob
  | .box ty _ => opBox ty o.dst ob ps
  | .build ty parts => opBuild E ty (parts.toList.map (·.1)) ps
  | .buildSlice ty len parts => opBuildSlice E ty len (parts.toList.map (·.1)) o.dst ob ps
  | .load ty _ => opLoad E ty ob ps
  | .store ty _ _ => opStore E ty ob ps
  | .nilCheck _ => opNil ps
  | .binOp op ty _ _ _ => opBin E op ty ps
  | .unOp op _ _ => opUn op ps
  | .convert src dst _ => opConv E src dst ob ps
  | .fieldAddr s _ f => opFieldAddr E s f ps
  | .field s _ f => opField E s f ps
  | .indexAddr ty _ _ => opIndexAddr E ty ob ps
  | .index ty _ _ => opIndex E ty ps
  | .extract _ k => opExtract k ps
  | .makeSlice ty _ _ => opMake E ty o.dst ob ps
  | .slice ty _ lo hi mx => opSlice E ty lo.isSome hi.isSome mx.isSome ob ps
  | .call c => opCall E c o.dst ob ps
  | _ => none

/-- the names that an operation may touch -/
def touched (o : Oper) (ps : List AV) : List Nat :=
  AV.namesL ps ++ (match o.dst with
    | some d => [nameOf d 0, nameOf d 1, nameOf d 2, nameOf d 3]
    | none => [])
def opRes (E : Env) (s : St) (o : Oper) : Option Res :=
  opSem E o ((opnds o.op).map (evalAV E s.tm)) (fun n => if n ∈ touched o ((opnds o.op).map (evalAV E s.tm)) then get s.ob n else none)

def wantedAV (ops : Array Oper) (tm : List (Nat × AV)) (o : Oper) : Option Bool :=
  match o.guard with
  | none => some true
  | some (j, want) => match (ops[j]?).bind (·.dst) with
    | some t => match get tm t with
      | some (.t (.bool b)) => some (b == want)
      | some (.many []) => some false
      | _ => none
    | none => none
def St.putd (s : St) (dst : Option Tmp) (v : AV) : St :=
  match dst with
  | some d => { s with tm := (d, v) :: s.tm }
  | none => s
def apply (s : St) (o : Oper) (r : Res) : St := St.putd { s with ob := sets s.ob r.wr } o.dst r.v
/-- what one operation does, in a region -/
def opEff (E : Env) (ops : Array Oper) (s : St) (o : Oper) : Option Res :=
  match wantedAV ops s.tm o with
  | some true => match o.dst with
    | some d => if d < E.ntmps then opRes E s o else none
    | none => opRes E s o
  | some false => some ⟨.many [], []⟩
  | none => none
def opStep (E : Env) (ops : Array Oper) (s : St) (o : Oper) : Option St := (opEff E ops s o).map (apply s o)
def evOps (E : Env) (ops : Array Oper) : List Oper → St → Option St
  | [], s => some s
  | o :: r, s => match opStep E ops s o with
    | some s' => evOps E ops r s'
    | none => none
/-- is there nothing in both? -/
def disj (l r : List Nat) : Bool := l.all fun x => !r.contains x
/-- must operation j come before operation i? (pre: for each operation the set of those before it, as bits) -/
def ordered (pre : List Nat) (j i : Nat) : Bool := (pre.getD i 0).testBit j
/-- a region whose operations come in any order that their edges allow: in the order of the text, with a look at what each one touches and writes. -/
def evAny (E : Env) (ops : Array Oper) (pre : List Nat) : Nat → List Oper → List (Nat × List Nat) → List (Nat × List Nat) → St → Option St
  | _, [], _, _, s => some s
  | i, o :: r, wl, tl, s => match opEff E ops s o with
    | some e =>
      if (wl.all fun x => ordered pre x.1 i || disj x.2 (touched o ((opnds o.op).map (evalAV E s.tm)) ++ e.wr.map (·.1))) && ((e.wr.map (·.1)).isEmpty || tl.all fun x => ordered pre x.1 i || disj (e.wr.map (·.1)) x.2) then
        evAny E ops pre (i + 1) r (if (e.wr.map (·.1)).isEmpty then wl else (i, e.wr.map (·.1)) :: wl) ((i, touched o ((opnds o.op).map (evalAV E s.tm))) :: tl) (apply s o e)
      else none
    | none => none
/-- the temporaries that an operation reads -/
def tmpsOf : List Operand → List Nat
  | [] => []
  | .tmp t :: l => t :: tmpsOf l
  | _ :: l => tmpsOf l
def readsOf (ops : Array Oper) (o : Oper) : List Nat :=
  tmpsOf (opnds o.op) ++ (match o.guard with
    | some (j, _) => (((ops[j]?).bind (·.dst)).toList)
    | none => [])
/-- the sets of those before, out of the edges -/
def bitsOf (acc : List Nat) : List Edge → Nat
  | [] => 0
  | e :: l => if Region.binds .any e then (2 ^ e.on ||| acc.getD e.on 0) ||| bitsOf acc l else bitsOf acc l
def preOf : List Oper → List Nat → List Nat
  | [], acc => acc
  | o :: r, acc => preOf r (acc ++ [bitsOf acc o.after.toList])
/-- may the operations j and i be done in any order, as far as the temporaries go? -/
def apartT (ops : Array Oper) (x y : Oper) : Bool :=
  (match x.dst with
    | some d => !(readsOf ops y).contains d && y.dst != some d
    | none => true) &&
  (match y.dst with
    | some d => !(readsOf ops x).contains d
    | none => true)
/-- what must be seen of a region with edges, before it is run -/
def anyOK (ops : Array Oper) (pre : List Nat) : Bool :=
  pre == preOf ops.toList [] && (ops.toList.zipIdx.all fun x => x.1.after.toList.all fun e => !Region.binds .any e || decide (e.on < x.2)) &&
    (ops.toList.zipIdx.all fun y => ops.toList.zipIdx.all fun x => !decide (x.2 < y.2) || ordered pre x.2 y.2 || apartT ops x.1 y.1)
end Go.Mg
