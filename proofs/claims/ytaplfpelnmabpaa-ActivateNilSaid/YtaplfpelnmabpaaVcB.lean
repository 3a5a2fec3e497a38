/- Operations over symbolic states: what each asks and yields, and that the model's run does so. -/
import Derived.Test.YtaplfpelnmabpaaVcA
namespace Go.Vc
open Go.RowKit
set_option linter.unusedSimpArgs false
set_option linter.unusedVariables false

def ev (fr : List (Nat × SV)) : Operand → Option SV
  | .tmp t => look t fr
  | .const v => some (.v v)
  | .func f => some (.fn f [] [])
  | .global _ => none

def evL (fr : List (Nat × SV)) : List Operand → Option (List SV)
  | [] => some []
  | x :: r => match ev fr x with
    | some s => match evL fr r with
      | some l => some (s :: l)
      | none => none
    | none => none

def Blk.rd1 : Blk → Nat → Option SV
  | .row cs _ _, off => cs[off]?
  | .ro o cs, off => if o ≤ off then (cs[off - o]?).map SV.v else none
  | _, _ => none
def Blk.rdN : Blk → Nat → Nat → Option (List SV)
  | .row cs _ _, off, sz => if off + sz ≤ cs.length then some ((cs.drop off).take sz) else none
  | .ro o cs, off, sz => if o ≤ off ∧ off + sz ≤ o + cs.length then some (((cs.drop (off - o)).take sz).map SV.v) else none
  | _, _, _ => none

def rd1 (hp : List Blk) (n off : Nat) : Option SV := match hp[n]? with
  | some B => B.rd1 off
  | none => none
def rdN (hp : List Blk) (n off sz : Nat) : Option (List SV) := match hp[n]? with
  | some B => B.rdN off sz
  | none => none

/-- The cells of a value. -/
def cellsSV : SV → List SV
  | .agg cs => cs
  | .v (.agg a) => a.toList.map SV.v
  | s => [s]

/-- May lie in one cell. -/
def SV.flat : SV → Bool
  | .agg _ => false
  | .tup _ => false
  | .v x => x.oneCell'
  | _ => true

def setR (cs : List SV) (off : Nat) (new : List SV) : List SV := cs.take off ++ new ++ cs.drop (off + new.length)

def undefV : SV := .v undef

def pickSV (c : Bool) (a b : SV) : SV := cond c a b
@[simp] theorem pickSV_true (a b : SV) : pickSV true a b = a := rfl
@[simp] theorem pickSV_false (a b : SV) : pickSV false a b = b := rfl
@[simp] theorem pickSV_bool (c p q : Bool) : pickSV c (.v (.bool p)) (.v (.bool q)) = .v (.bool (cond c p q)) := by cases c <;> rfl

/-! ### What is asked of the program's types (each a closed fact, laid once) -/

def eqT (P : Program) (t : TypeId) : SV → SV → Option Bool
  | .v (.int k x), .v (.int k' y) => match P.underlying t with
    | some (.int _) => if k = k' then some (x == y) else none
    | _ => none
  | .v (.bool x), .v (.bool y) => match P.underlying t with
    | some .bool => some (x == y)
    | _ => none
  | _, _ => none
def eqTs (P : Program) : List TypeId → List SV → List SV → Option Bool
  | [], [], [] => some true
  | t :: ts, x :: r, y :: s => match eqT P t x y with
    | some b => match eqTs P ts r s with
      | some c => some (b && c)
      | none => none
    | none => none
  | _, _, _ => none

def isAggT (P : Program) (t : TypeId) : Option Bool := match P.underlying t with
  | some (.struct _) => some true
  | some (.array _ _) => some true
  | some _ => some false
  | none => none

def zeroOf (P : Program) (t : TypeId) : Option (List Value) := match P.info? t with
  | some i => match i.zero with
    | some z => some z.cells.toList
    | none => none
  | none => none

/-- What is read must be there. -/
def need {α : Type} (o : Option α) (K : α → Prop) : Prop := ∃ s, o = some s ∧ K s

/-- Bits of two integers. -/
def bitI (op : BinOp) (k : IntKind) (x y : Int) : Int := match op with
  | .and => k.wrap (BitVec.ofInt k.bits x &&& BitVec.ofInt k.bits y).toNat
  | .or => k.wrap (BitVec.ofInt k.bits x ||| BitVec.ofInt k.bits y).toNat
  | _ => k.wrap (BitVec.ofInt k.bits x ^^^ BitVec.ofInt k.bits y).toNat
/-- Two integers under an operator. -/
def intBin (op : BinOp) (k : IntKind) (x y : Int) (K : SV → Prop) : Prop := match op with
  | .add => K (.v (.int k (k.wrap (x + y))))
  | .sub => K (.v (.int k (k.wrap (x - y))))
  | .mul => K (.v (.int k (k.wrap (x * y))))
  | .quo => y ≠ 0 ∧ K (.v (.int k (k.wrap (x.tdiv y))))
  | .rem => y ≠ 0 ∧ K (.v (.int k (x.tmod y)))
  | .eql => K (.v (.bool (x == y)))
  | .neq => K (.v (.bool (x != y)))
  | .lss => K (.v (.bool (decide (x < y))))
  | .leq => K (.v (.bool (decide (x ≤ y))))
  | .gtr => K (.v (.bool (decide (x > y))))
  | .geq => K (.v (.bool (decide (x ≥ y))))
  | .and => K (.v (.int k (bitI .and k x y)))
  | .or => K (.v (.int k (bitI .or k x y)))
  | .xor => K (.v (.int k (bitI .xor k x y)))
  | .shl => 0 ≤ y ∧ K (.v (.int k (k.wrap (x * 2 ^ (min y.toNat k.bits)))))
  | .shr => 0 ≤ y ∧ K (.v (.int k (x.fdiv (2 ^ (min y.toNat k.bits)))))
  | _ => False

/-- The types of the cells of a struct or an array of scalars. -/
def eqTypes (P : Program) (t : TypeId) : Option (List TypeId) := match P.underlying t with
  | some (.struct fs) => if (!P.stoodInHeld t && !P.eqGuardType P.depth t && fs.toList.zipIdx.all fun (f, i) => f.name != "_" && f.offset == i && isAggT P f.type == some false) = true then some (fs.toList.map (·.type)) else none
  | some (.array n el) => if (!P.eqGuardType P.depth t && isAggT P el == some false && P.cellsOf el == 1) = true then some (List.replicate n el) else none
  | _ => none
def fldOff (P : Program) (s : TypeId) (f : Nat) : Option Nat := match P.underlying s with
  | some (.struct fs) => match fs[f]? with
    | some fd => if ((P.info? fd.type).isSome && P.cellsOf fd.type != 0) = true then some fd.offset else none
    | none => none
  | _ => none
/-- An array's length and its element's size. -/
def arrT (P : Program) (t : TypeId) : Option (Nat × Nat) := match P.underlying t with
  | some (.array n el) => if (P.info? el).isSome = true then some (n, P.cellsOf el) else none
  | _ => none
/-- A slice's element and its size. -/
def slcT (P : Program) (t : TypeId) : Option (TypeId × Nat) := match P.underlying t with
  | some (.slice el) => if (P.info? el).isSome = true then some (el, P.cellsOf el) else none
  | _ => none
def intT (P : Program) (t : TypeId) : Option IntKind := match P.underlying t with
  | some (.int k) => some k
  | _ => none
def strT (P : Program) (t : TypeId) : Bool := match P.underlying t with
  | some .string => true
  | _ => false
/-- The places of a struct's fields or an array's elements in a literal. -/
def placesT (P : Program) (t : TypeId) : Option (List (Nat × Nat)) := match P.underlying t with
  | some (.struct fs) => if (fs.toList.all fun f => (P.info? f.type).isSome) = true then some (fs.toList.map fun f => (f.offset, P.cellsOf f.type)) else none
  | some (.array n el) => if (P.info? el).isSome = true then some ((List.range n).map fun i => (i * P.cellsOf el, P.cellsOf el)) else none
  | _ => none
/-- A scalar part of a struct value: its offset. -/
def fldOne (P : Program) (s : TypeId) (f : Nat) : Option Nat := match P.underlying s with
  | some (.struct fs) => match fs[f]? with
    | some fd => if isAggT P fd.type = some false then some fd.offset else none
    | none => none
  | _ => none
/-- An array of scalars: its length. -/
def arrOne (P : Program) (t : TypeId) : Option Nat := match P.underlying t with
  | some (.array n el) => if isAggT P el = some false ∧ P.cellsOf el = 1 then some n else none
  | _ => none

def isPtrT (P : Program) (t : TypeId) : Bool := match P.underlying t with
  | some (.pointer _) => true
  | _ => false
def isFuncT (P : Program) (t : TypeId) : Bool := match P.underlying t with
  | some (.func _ _ _) => true
  | _ => false
def isBoolT (P : Program) (t : TypeId) : Bool := match P.underlying t with
  | some .bool => true
  | _ => false

def eqK (op : BinOp) (b : Bool) (K : SV → Prop) : Prop := match op with
  | .eql => K (.v (.bool b))
  | .neq => K (.v (.bool (!b)))
  | _ => False

def binV (P : Program) (op : BinOp) (t : TypeId) (K : SV → Prop) : SV → SV → Prop
  | .v (.int k x), .v (.int k' y) => k = k' ∧ intBin op k x y K
  | .v (.bool x), .v (.bool y) => isBoolT P t = true ∧ eqK op (x == y) K
  | .ptr _ _, .v (.pointer none) => isPtrT P t = true ∧ eqK op false K
  | .v (.pointer none), .ptr _ _ => isPtrT P t = true ∧ eqK op false K
  | .v (.pointer none), .v (.pointer none) => isPtrT P t = true ∧ eqK op true K
  | .agg xs, .agg ys => match eqTypes P t with
    | some ts => need (eqTs P ts xs ys) fun b => eqK op b K
    | none => False
  | .slc _ _ _ _, .v (.slice none 0 0) => (slcT P t).isSome = true ∧ eqK op false K
  | .v (.slice none 0 0), .v (.slice none 0 0) => (slcT P t).isSome = true ∧ eqK op true K
  | .fn _ _ _, .v .nilFunc => isFuncT P t = true ∧ eqK op false K
  | .v .nilFunc, .v .nilFunc => isFuncT P t = true ∧ eqK op true K
  | _, _ => False

/-- A bound of a slice expression. -/
def bndV (fr : List (Nat × SV)) (d : Int) : Option Operand → Option Int
  | none => some d
  | some x => match ev fr x with
    | some (.v (.int _ i)) => some i
    | _ => none

def fillS (places : List (Nat × Nat)) (cells : List SV) : List (Nat × SV) → Option (List SV)
  | [] => some cells
  | (i, s) :: rest => match places[i]? with
    | none => none
    | some (off, size) => if (cellsSV s).length = size ∧ off + (cellsSV s).length ≤ cells.length then fillS places (setR cells off (cellsSV s)) rest else none

def evP (fr : List (Nat × SV)) : List (Nat × Operand) → Option (List (Nat × SV))
  | [] => some []
  | (i, x) :: r => match ev fr x with
    | some s => match evP fr r with
      | some l => some ((i, s) :: l)
      | none => none
    | none => none

/-- The least of integers of one kind. -/
def minMax (mx : Bool) (k : IntKind) : Int → List SV → Option Int
  | x, [] => some x
  | x, .v (.int _ y) :: r => minMax mx k (if mx then (if y > x then y else x) else (if y < x then y else x)) r
  | _, _ => none

def lenV (P : Program) (t : TypeId) : SV → Option Int
  | .slc _ _ len _ => match slcT P t with
    | some _ => some len
    | none => none
  | .v (.slice _ len _) => match slcT P t with
    | some _ => some len
    | none => none
  | .v (.string s) => if strT P t = true then some s.size else none
  | _ => none

/-- Operations that only read: the value that they yield. -/
def vq (P : Program) (fr : List (Nat × SV)) (hp : List Blk) (K : SV → Prop) : Op → Prop
  | .move x => match ev fr x with
    | some s => K s
    | none => False
  | .assign x => match ev fr x with
    | some s => K s
    | none => False
  | .pick c a b => match ev fr c with
    | some (.v (.bool c)) => match ev fr a with
      | some x => match ev fr b with
        | some y => K (pickSV c x y)
        | none => False
      | none => False
    | _ => False
  | .load t a => match ev fr a with
    | some (.ptr n off) => match isAggT P t with
      | some true => need (rdN hp n off (P.cellsOf t)) fun l => K (.agg l)
      | some false => need (rd1 hp n off) K
      | none => False
    | _ => False
  | .nilCheck x => match ev fr x with
    | some (.ptr n off) => K (.ptr n off)
    | some (.fn f a b) => K (.fn f a b)
    | _ => False
  | .binOp op t x y _ => match ev fr x with
    | some a => match ev fr y with
      | some b => binV P op t K a b
      | none => False
    | none => False
  | .unOp op _ x => match ev fr x with
    | some (.v (.bool b)) => op = .not ∧ K (.v (.bool (!b)))
    | some (.v (.int k n)) => op = .neg ∧ K (.v (.int k (k.wrap (0 - n))))
    | _ => False
  | .convert src dst x => match ev fr x with
    | some (.v (.int _ n)) => match intT P src with
      | some _ => match intT P dst with
        | some k => K (.v (.int k (k.wrap n)))
        | none => False
      | none => False
    | _ => False
  | .fieldAddr s x f => match ev fr x with
    | some (.ptr n off) => match fldOff P s f with
      | some o => K (.ptr n (off + o))
      | none => False
    | _ => False
  | .indexAddr t x i => match ev fr i with
    | some (.v (.int _ i)) => match ev fr x with
      | some (.ptr n off) => match arrT P t with
        | some (len, sz) => (0 ≤ i ∧ i < (len : Int)) ∧ K (.ptr n (off + i.toNat * sz))
        | none => False
      | some (.slc n off len _) => match slcT P t with
        | some (_, sz) => (0 ≤ i ∧ i < (len : Int)) ∧ K (.ptr n (off + i.toNat * sz))
        | none => False
      | _ => False
    | _ => False
  | .index t x i => match ev fr i with
    | some (.v (.int _ i)) => match ev fr x with
      | some (.agg cs) => match arrOne P t with
        | some len => (0 ≤ i ∧ i < (len : Int)) ∧ need (cs[i.toNat]?) K
        | none => False
      | _ => False
    | _ => False
  | .field t x f => match ev fr x with
    | some (.agg cs) => match fldOne P t f with
      | some o => need (cs[o]?) K
      | none => False
    | _ => False
  | .extract x i => match ev fr x with
    | some (.tup vs) => match vs[i]? with
      | some s => K s
      | none => False
    | _ => False
  | .build t parts => match evP fr parts.toList with
    | some ps => match zeroOf P t with
      | some z => match placesT P t with
        | some pl => need (fillS pl (z.map SV.v) ps) fun cs => K (.agg cs)
        | none => False
      | none => False
    | none => False
  | .makeFunc (.func f) fst caps => match evL fr fst.toList with
    | some a => match evL fr caps.toList with
      | some b => K (.fn f a b)
      | none => False
    | none => False
  | .slice t x lo hi none => match ev fr x with
    | some (.slc n off len cap) => match slcT P t with
      | some (_, sz) => match bndV fr 0 lo with
        | some l => match bndV fr len hi with
          | some h => (0 ≤ l ∧ l ≤ h ∧ h ≤ (cap : Int)) ∧ K (.slc n (if cap = l.toNat then off else off + l.toNat * sz) (h.toNat - l.toNat) (cap - l.toNat))
          | none => False
        | none => False
      | none => False
    | some (.v (.slice none 0 0)) => match slcT P t with
      | some _ => match bndV fr 0 lo with
        | some l => match bndV fr 0 hi with
          | some h => (l = 0 ∧ h = 0) ∧ K (.v (.slice none 0 0))
          | none => False
        | none => False
      | none => False
    | some (.ptr m off) => match arrT P t with
      | some (n, sz) => match bndV fr 0 lo with
        | some l => match bndV fr n hi with
          | some h => (0 ≤ l ∧ l ≤ h ∧ h ≤ (n : Int)) ∧ K (.slc m (if n = l.toNat then off else off + l.toNat * sz) (h.toNat - l.toNat) (n - l.toNat))
          | none => False
        | none => False
      | none => False
    | _ => False
  | .call { callee := .builtin .len, args := args, argTypes := ts } => match args.toList with
    | [x] => match ts.toList with
      | [t] => match ev fr x with
        | some s => match lenV P t s with
          | some n => K (.v (.int .i64 n))
          | none => False
        | none => False
      | _ => False
    | _ => False
  | .call { callee := .builtin .min, args := args, argTypes := _ } => match evL fr args.toList with
    | some (.v (.int k x) :: r) => match minMax false k x r with
      | some n => K (.v (.int k n))
      | none => False
    | _ => False
  | .call { callee := .builtin .max, args := args, argTypes := _ } => match evL fr args.toList with
    | some (.v (.int k x) :: r) => match minMax true k x r with
      | some n => K (.v (.int k n))
      | none => False
    | _ => False
  | _ => False

end Go.Vc
