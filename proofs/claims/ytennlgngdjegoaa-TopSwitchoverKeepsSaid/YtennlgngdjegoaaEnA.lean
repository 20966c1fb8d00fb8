/-
  A symbolic evaluator for the code of this model, with its proof of soundness (part A: the evaluator).
  Own work of this claim; nothing is trusted: part B proves that what it says holds of every run.
-/
import Derived.WalkKit
import Derived.WalkSpells
import Derived.WalkLawsBesides
import Derived.Deep.Quiet
import Derived.KernelRfl
import Derived.Laws.StructEq
import Derived.ChangeKeysEq
import Derived.Laws.BytesString
namespace Go.Sx

/-- the shape of one cell of data -/
inductive Sh where
  | bool
  | int (k : IntKind)
  | str
  | sl (es : List Sh)

/-- what stands at each place of a datum: a place is a path of numbers -/
structure Val where
  B : List Nat → Bool
  N : List Nat → Int
  S : List Nat → ByteArray
  L : List Nat → Nat

def Val.at (ρ : Val) (i : Nat) : Val := ⟨fun p => ρ.B (i :: p), fun p => ρ.N (i :: p), fun p => ρ.S (i :: p), fun p => ρ.L (i :: p)⟩

/-- the elements from a number on -/
def Val.from (ρ : Val) (lo : Nat) : Val where
  B := fun | [] => false | i :: p => ρ.B ((lo + i) :: p)
  N := fun | [] => 0 | i :: p => ρ.N ((lo + i) :: p)
  S := fun | [] => .empty | i :: p => ρ.S ((lo + i) :: p)
  L := fun | [] => 0 | i :: p => ρ.L ((lo + i) :: p)

/-- how a loop over a function stands -/
inductive LpS where
  | ready
  | busy
  | done (e : Option Nat)

/-- The abstract value of one cell. -/
inductive CV where
  | any
  | bool (b : Bool)
  | int (k : IntKind) (n : Int)
  | str (s : ByteArray)
  | nilp
  | ptr (b o : Nat)
  | rop (es : List Sh) (off : Nat) (ρ : Val)
  | nils
  | sl (es : List Sh) (n : Nat) (ρ : Val)
  | fn (f : Fn) (first cap : List CV)
  | nilf
  | nili
  | iface (t : TypeId) (v : CV)
  /-- the head of a slice of one's own: its block, an element's size -/
  | os (b sz : Nat)
  /-- a pointer into an element of such a slice -/
  | rowp (b sz i off : Nat)
  /-- the tail of such a slice, from an element on -/
  | ost (b sz lo : Nat)
  /-- the head of such a slice, up to an element -/
  | osh (b sz m : Nat)
  /-- in a memory: what stands in such a block; 'fz': it isn't written any more -/
  | row (fz : Bool) (es : List Sh) (n : Nat) (ρ : Val)
  /-- the yield of a loop over a function, whose record lies in a block -/
  | yld (b : Nat)
  /-- in a memory: the head of such a record: the function that holds the loop, which of its loops, how it stands -/
  | lp (f i : Nat) (st : LpS)

def cellOf : Sh → Val → CV
  | .bool, ρ => .bool (ρ.B [])
  | .int k, ρ => .int k (ρ.N [])
  | .str, ρ => .str (ρ.S [])
  | .sl es, ρ => .sl es (ρ.L []) ρ

def cellsOfL : List Sh → Nat → Val → List CV
  | [], _, _ => []
  | s :: r, i, ρ => cellOf s (ρ.at i) :: cellsOfL r (i + 1) ρ

inductive A1 where
  | c (x : CV)
  | agg (l : List CV)

inductive AV where
  | any
  | one (x : A1)
  | tup (l : List A1)

inductive Tree (α : Type) where
  | leaf (a : α)
  | br (c : Bool) (t e : Tree α)
  | need (c : Bool) (t : Tree α)
  | fail

def Tree.bind {α β : Type} : Tree α → (α → Tree β) → Tree β
  | .leaf a, f => f a
  | .br c t e, f => .br c (t.bind f) (e.bind f)
  | .need c t, f => .need c (t.bind f)
  | .fail, _ => .fail

def Tree.sel {α : Type} : Tree α → Option α
  | .leaf a => some a
  | .br c t e => bif c then t.sel else e.sel
  | .need c t => bif c then t.sel else none
  | .fail => none

def Tree.ofOpt {α : Type} : Option α → Tree α
  | some a => .leaf a
  | none => .fail

def shEq : Sh → Sh → Bool
  | .bool, .bool => true
  | .int k, .int k' => decide (k = k')
  | .str, .str => true
  | .sl a, .sl b => shsEq a b
  | _, _ => false
 where shsEq : List Sh → List Sh → Bool
  | [], [] => true
  | a :: l, b :: r => shEq a b && shsEq l r
  | _, _ => false

/-- a value of one cell, as a datum -/
def Val.ofC : CV → Val
  | .bool b => ⟨fun _ => b, fun _ => 0, fun _ => .empty, fun _ => 0⟩
  | .int _ n => ⟨fun _ => false, fun _ => n, fun _ => .empty, fun _ => 0⟩
  | .str s => ⟨fun _ => false, fun _ => 0, fun _ => s, fun _ => 0⟩
  | .sl _ n σ => ⟨σ.B, σ.N, σ.S, fun p => match p with | [] => n | i :: q => σ.L (i :: q)⟩
  | _ => ⟨fun _ => false, fun _ => 0, fun _ => .empty, fun _ => 0⟩

def Val.zero : Val := ⟨fun _ => false, fun _ => 0, fun _ => .empty, fun _ => 0⟩

/-- does the value have the shape? -/
def fits : Sh → CV → Bool
  | .bool, .bool _ => true
  | .int k, .int k' _ => decide (k = k')
  | .str, .str _ => true
  | .sl es, .sl es' _ _ => shEq.shsEq es es'
  | .sl _, .nils => true
  | _, _ => false

def fitsL : List Sh → List CV → Bool
  | [], [] => true
  | s :: r, x :: l => fits s x && fitsL r l
  | _, _ => false

/-- a datum, part by part: what stands at the place that begins with a number -/
def Val.byFst (f : Nat → Val) : Val where
  B := fun | [] => false | i :: p => (f i).B p
  N := fun | [] => 0 | i :: p => (f i).N p
  S := fun | [] => .empty | i :: p => (f i).S p
  L := fun | [] => 0 | i :: p => (f i).L p

/-- the cells of an element -/
def Val.ofCs (l : List CV) : Val := .byFst fun i => match nthC l i with | some x => .ofC x | none => .zero
 where nthC : List CV → Nat → Option CV
  | [], _ => none
  | x :: _, 0 => some x
  | _ :: r, n + 1 => nthC r n

def pickV (c : Bool) (a b : Val) : Val := ⟨fun p => bif c then a.B p else b.B p, fun p => bif c then a.N p else b.N p, fun p => bif c then a.S p else b.S p, fun p => bif c then a.L p else b.L p⟩

/-- one row behind another one -/
def Val.cat (n : Nat) (a b : Val) : Val := .byFst fun i => pickV (Nat.blt i n) (a.at i) (b.at (i - n))

/-- a row with one cell of one element replaced -/
def Val.upd (a : Val) (i f : Nat) (x : CV) : Val := .byFst fun k => pickV (Nat.beq k i) (.byFst fun g => pickV (Nat.beq g f) (.ofC x) ((a.at k).at g)) (a.at k)

def Val.upds (a : Val) (i : Nat) : Nat → List CV → Val
  | _, [] => a
  | f, x :: r => (a.upd i f x).upds i (f + 1) r

def nth {α : Type} : List α → Nat → Option α
  | [], _ => none
  | a :: _, 0 => some a
  | _ :: l, n + 1 => nth l n

def setN {α : Type} : List α → Nat → α → List α
  | [], _, _ => []
  | _ :: l, 0, b => b :: l
  | a :: l, n + 1, b => a :: setN l n b

structure Slot where
  keys : List (Nat × Bool)
  v : AV

abbrev Mem := List (Option (TypeId × List CV))

structure St where
  tmps : List Slot
  mem : Mem

def aany : AV := .any

def liftV : Value → Option AV
  | .bool b => some (.one (.c (.bool b)))
  | .int k n => some (.one (.c (.int k n)))
  | .string s => some (.one (.c (.str s)))
  | .pointer none => some (.one (.c .nilp))
  | .slice none 0 0 => some (.one (.c .nils))
  | .nilFunc => some (.one (.c .nilf))
  | .nilIface => some (.one (.c .nili))
  | _ => none

def liftCell : Value → Option CV
  | .bool b => some (.bool b)
  | .int k n => some (.int k n)
  | .string s => some (.str s)
  | .pointer none => some .nilp
  | .slice none 0 0 => some .nils
  | .nilFunc => some .nilf
  | .nilIface => some .nili
  | _ => none

def liftCells : List Value → Option (List CV)
  | [] => some []
  | v :: r => match liftCell v, liftCells r with
    | some c, some l => some (c :: l)
    | _, _ => none

def keyIn (K : List (Nat × Bool)) (p : Nat × Bool) : Bool := K.any fun q => q.1 == p.1 && q.2 == p.2

def opnd (s : St) (K : List (Nat × Bool)) : Operand → Option AV
  | .tmp t => match nth s.tmps t with
    | some ⟨ks, v⟩ => if ks.all (keyIn K) then some v else none
    | none => none
  | .const v => liftV v
  | .func f => some (.one (.c (.fn (.func f) [] [])))
  | .global _ => none

def mergeC (c : Bool) : CV → CV → CV
  | .bool a, .bool b => .bool (bif c then a else b)
  | .int k a, .int k' b => if k = k' then .int k (bif c then a else b) else .any
  | .str a, .str b => .str (bif c then a else b)
  | .nilp, .nilp => .nilp
  | .nils, .nils => .nils
  | .nilf, .nilf => .nilf
  | .nili, .nili => .nili
  | .ptr a o, .ptr b o' => if a == b && o == o' then .ptr a o else .any
  | .os a z, .os b z' => if a == b && z == z' then .os a z else .any
  | .sl es n ρ, .sl es' m σ => if shEq.shsEq es es' then .sl es (bif c then n else m) (pickV c ρ σ) else .any
  | .sl es n ρ, .nils => .sl es (bif c then n else 0) ρ
  | .nils, .sl es n ρ => .sl es (bif c then 0 else n) ρ
  | _, _ => .any

def mergeCs (c : Bool) : List CV → List CV → Option (List CV)
  | [], [] => some []
  | a :: l, b :: r => match mergeCs c l r with
    | some m => some (mergeC c a b :: m)
    | none => none
  | _, _ => none

def merge1 (c : Bool) : A1 → A1 → Option A1
  | .c a, .c b => some (.c (mergeC c a b))
  | .agg a, .agg b => match mergeCs c a b with
    | some m => some (.agg m)
    | none => none
  | _, _ => none

def merge1s (c : Bool) : List A1 → List A1 → Option (List A1)
  | [], [] => some []
  | a :: l, b :: r => match merge1 c a b, merge1s c l r with
    | some x, some m => some (x :: m)
    | _, _ => none
  | _, _ => none

def mergeA (c : Bool) : AV → AV → AV
  | .tup a, .tup b => match merge1s c a b with
    | some m => .tup m
    | none => aany
  | .one (.c a), .one (.c b) => .one (.c (mergeC c a b))
  | .one (.agg a), .one (.agg b) => match mergeCs c a b with
    | some m => .one (.agg m)
    | none => aany
  | _, _ => aany

/-- Comparison of cells, one by one. -/
def eqC : CV → CV → Option Bool
  | .bool a, .bool b => some (a == b)
  | .int k a, .int k' b => if k = k' then some (a == b) else none
  | .str a, .str b => some (a == b)
  | _, _ => none

/-- the cells of each field of a struct whose fields are single cells of plain types -/
def plainField (P : Program) (f : Field) : Bool :=
  f.name != "_" && P.cellsOf f.type == 1 && (match P.underlying f.type with | some .bool | some (.int _) | some .string => true | _ => false)

def eqFields (P : Program) (xs ys : List CV) : List Field → Option Bool
  | [] => some true
  | f :: r =>
    if plainField P f then
      match nth xs f.offset, nth ys f.offset with
      | some a, some b => match P.underlying f.type, a, b, eqFields P xs ys r with
        | some .bool, .bool p, .bool q, some e => some ((p == q) && e)
        | some (.int _), .int k p, .int k' q, some e => if k = k' then some ((p == q) && e) else none
        | some .string, .str p, .str q, some e => some ((p == q) && e)
        | _, _, _, _ => none
      | _, _ => none
    else none

/-- an element type of single cells of plain types -/
def plainT (P : Program) (e : TypeId) : Bool :=
  P.cellsOf e == 1 && (match P.underlying e with | some .bool | some (.int _) | some .string => true | _ => false)

def eqItems (P : Program) (e : TypeId) (xs ys : List CV) : List Nat → Option Bool
  | [] => some true
  | i :: r => match nth xs i, nth ys i with
      | some a, some b => match P.underlying e, a, b, eqItems P e xs ys r with
        | some .bool, .bool p, .bool q, some z => some ((p == q) && z)
        | some (.int _), .int k p, .int k' q, some z => if k = k' then some ((p == q) && z) else none
        | some .string, .str p, .str q, some z => some ((p == q) && z)
        | _, _, _, _ => none
      | _, _ => none

def eqVal (P : Program) (t : TypeId) : A1 → A1 → Option Bool
  | .c (.bool a), .c (.bool b) => match P.underlying t with
    | some .bool => some (a == b)
    | _ => none
  | .agg xs, .agg ys => match P.underlying t with
    | some (.struct fs) => if P.stoodInHeld t || P.eqGuardType P.depth t then none else eqFields P xs ys fs.toList
    | some (.array n e) => if P.eqGuardType P.depth t || !plainT P e || (P.info? e).isNone then none else eqItems P e xs ys (List.range n)
    | _ => none
  | .c .nils, .c .nils => match P.underlying t with | some (.slice _) => some true | _ => none
  | .c .nilp, .c .nilp => match P.underlying t with | some (.pointer _) => some true | _ => none
  | .c (.ptr _ _), .c .nilp => match P.underlying t with | some (.pointer _) => some false | _ => none
  | _, _ => none

def lt (a b : Int) : Bool := decide (a < b)
def le (a b : Int) : Bool := decide (a ≤ b)

def imax (a b : Int) : Int := bif lt a b then b else a
def imin (a b : Int) : Int := bif lt b a then b else a
def shlI (k : IntKind) (a b : Int) : Int := k.wrap (a * 2 ^ (min b.toNat k.bits))
def shrI (k : IntKind) (a b : Int) : Int := a.fdiv (2 ^ (min b.toNat k.bits))

/-- bit by bit -/
def andI (k : IntKind) (a b : Int) : Int := k.wrap ((BitVec.ofInt k.bits a &&& BitVec.ofInt k.bits b).toNat : Nat)
def orI (k : IntKind) (a b : Int) : Int := k.wrap ((BitVec.ofInt k.bits a ||| BitVec.ofInt k.bits b).toNat : Nat)
def xorI (k : IntKind) (a b : Int) : Int := k.wrap ((BitVec.ofInt k.bits a ^^^ BitVec.ofInt k.bits b).toNat : Nat)
def andNotI (k : IntKind) (a b : Int) : Int := k.wrap ((BitVec.ofInt k.bits a &&& ~~~ BitVec.ofInt k.bits b).toNat : Nat)

def evIntOp (op : BinOp) (k : IntKind) (a b : Int) : Tree AV :=
  let i (n : Int) : Tree AV := .leaf (.one (.c (.int k n)))
  let b' (x : Bool) : Tree AV := .leaf (.one (.c (.bool x)))
  match op with
  | .add => i (k.wrap (a + b))
  | .sub => i (k.wrap (a - b))
  | .mul => i (k.wrap (a * b))
  | .quo => .need (!(b == 0)) (i (k.wrap (a.tdiv b)))
  | .rem => .need (!(b == 0)) (i (a.tmod b))
  | .eql => b' (a == b)
  | .neq => b' (a != b)
  | .lss => b' (lt a b)
  | .leq => b' (le a b)
  | .gtr => b' (lt b a)
  | .geq => b' (le b a)
  | .and => i (andI k a b)
  | .or => i (orI k a b)
  | .xor => i (xorI k a b)
  | .andNot => i (andNotI k a b)
  | _ => .fail

def evBin (P : Program) (op : BinOp) (t : TypeId) : AV → AV → Tree AV
  | .one (.c (.int k a)), .one (.c (.int k' b)) =>
    match op with
    | .shl => .need (le 0 b) (.leaf (.one (.c (.int k (shlI k a b)))))
    | .shr => .need (le 0 b) (.leaf (.one (.c (.int k (shrI k a b)))))
    | _ => if k = k' then evIntOp op k a b else .fail
  | .one (.c (.str a)), .one (.c (.str b)) =>
    match op with
    | .eql => .leaf (.one (.c (.bool (a.toList == b.toList))))
    | .neq => .leaf (.one (.c (.bool (!(a.toList == b.toList)))))
    | _ => .fail
  | .one a, .one b =>
    match op with
    | .eql => match eqVal P t a b with
      | some e => .leaf (.one (.c (.bool e)))
      | none => .fail
    | .neq => match eqVal P t a b with
      | some e => .leaf (.one (.c (.bool (!e))))
      | none => .fail
    | _ => .fail
  | _, _ => .fail

def evUn (op : UnOp) : AV → Tree AV
  | .one (.c (.bool b)) => match op with
    | .not => .leaf (.one (.c (.bool (!b))))
    | _ => .fail
  | .one (.c (.int k n)) => match op with
    | .neg => .leaf (.one (.c (.int k (k.wrap (0 - n)))))
    | _ => .fail
  | _ => .fail

/-- the part of an aggregate -/
def takeN {α : Type} : List α → Nat → Option (List α)
  | _, 0 => some []
  | [], _ + 1 => none
  | a :: l, n + 1 => match takeN l n with | some r => some (a :: r) | none => none

def dropN {α : Type} : List α → Nat → List α
  | l, 0 => l
  | [], _ + 1 => []
  | _ :: l, n + 1 => dropN l n

def isAggT (P : Program) (t : TypeId) : Option Bool :=
  match P.underlying t with
  | some (.struct _) | some (.array _ _) => some true
  | some _ => some false
  | none => none

def partOf (P : Program) (t : TypeId) (cs : List CV) (off : Nat) : Option A1 :=
  match isAggT P t with
  | some true => match takeN (dropN cs off) (P.cellsOf t) with | some l => some (.agg l) | none => none
  | some false => match nth cs off with | some x => some (.c x) | none => none
  | none => none

def A1.cells : A1 → List CV
  | .agg l => l
  | .c x => [x]

/-- writing cells from an offset on -/
def putCells : List CV → Nat → List CV → List CV
  | cs, _, [] => cs
  | cs, o, x :: r => putCells (setN cs o x) (o + 1) r

/-- struct and array literals -/
def evFill (places : Nat → Option (Nat × Nat)) : List CV → List (Nat × A1) → Option (List CV)
  | cs, [] => some cs
  | cs, (i, v) :: r => match places i with
    | none => none
    | some (off, size) =>
      if v.cells.length == size && Nat.ble (off + v.cells.length) cs.length then evFill places (putCells cs off v.cells) r else none

def evParts (ρ : Operand → Option AV) : List (Nat × Operand) → Option (List (Nat × A1))
  | [] => some []
  | (i, x) :: r => match ρ x, evParts ρ r with
    | some (.one a), some l => some ((i, a) :: l)
    | _, _ => none

def zeroCellsOf (P : Program) (t : TypeId) : Option (List CV) :=
  match P.info? t with
  | some i => match i.zero with
    | some z => liftCells z.cells.toList
    | none => none
  | none => none

def evBuild (P : Program) (t : TypeId) (parts : List (Nat × A1)) : Option AV :=
  match zeroCellsOf P t, P.underlying t with
  | some z, some (.struct fs) => match evFill (fun i => match nth fs.toList i with | some f => (match P.info? f.type with | some j => some (f.offset, j.size) | none => none) | none => none) z parts with
    | some cs => if fs.toList.all (fun f => (P.info? f.type).isSome) then some (.one (.agg cs)) else none
    | none => none
  | some z, some (.array _ e) => match P.info? e with
    | some j => match evFill (fun i => some (i * j.size, j.size)) z parts with
      | some cs => some (.one (.agg cs))
      | none => none
    | none => none
  | _, _ => none

def shapesFields (sh : TypeId → Option (List Sh)) (P : Program) : Nat → List Field → Option (List Sh)
  | _, [] => some []
  | o, f :: r => if f.offset == o then (match sh f.type with
    | some a => if a.length == P.cellsOf f.type then (match shapesFields sh P (o + a.length) r with | some b => some (a ++ b) | none => none) else none
    | none => none) else none

def repL (l : List Sh) : Nat → List Sh
  | 0 => []
  | n + 1 => l ++ repL l n

def shapesOf (P : Program) : Nat → TypeId → Option (List Sh)
  | 0, _ => none
  | n + 1, t => match P.underlying t with
    | some .bool => some [.bool]
    | some (.int k) => some [.int k]
    | some .string => some [.str]
    | some (.slice e) => match shapesOf P n e with
      | some es => if es.length == P.cellsOf e && !es.isEmpty then some [.sl es] else none
      | none => none
    | some (.struct fs) => match shapesFields (shapesOf P n) P 0 fs.toList with
      | some l => if l.length == P.cellsOf t then some l else none
      | none => none
    | some (.array m e) => match shapesOf P n e with
      | some es => if es.length == P.cellsOf e && (repL es m).length == P.cellsOf t then some (repL es m) else none
      | none => none
    | _ => none

def toInt64 (n : Nat) : Int := Int.ofNat n

def evLen (P : Program) (t : TypeId) : AV → Tree AV
  | .one (.c (.sl _ n _)) => match P.underlying t with
    | some (.slice _) => .leaf (.one (.c (.int .i64 (toInt64 n))))
    | _ => .fail
  | .one (.c .nils) => match P.underlying t with
    | some (.slice _) => .leaf (.one (.c (.int .i64 0)))
    | _ => .fail
  | .one (.c (.str s)) => match P.underlying t with
    | some .string => .leaf (.one (.c (.int .i64 (toInt64 s.size))))
    | _ => .fail
  | _ => .fail

def evMaxFrom (k : IntKind) : Int → List A1 → Option Int
  | a, [] => some a
  | a, .c (.int _ b) :: r => evMaxFrom k (imax a b) r
  | _, _ => none

def evMinFrom (k : IntKind) : Int → List A1 → Option Int
  | a, [] => some a
  | a, .c (.int _ b) :: r => evMinFrom k (imin a b) r
  | _, _ => none

def evMM (mx : Bool) : List A1 → Tree AV
  | .c (.int k a) :: r => match (if mx then evMaxFrom k a r else evMinFrom k a r) with
    | some n => .leaf (.one (.c (.int k n)))
    | none => .fail
  | _ => .fail

def evArgs (ρ : Operand → Option AV) : List Operand → Option (List A1)
  | [] => some []
  | x :: r => match ρ x, evArgs ρ r with
    | some (.one a), some l => some (a :: l)
    | _, _ => none

/-- a choice by a number among a list -/
def pickAt {α : Type} (i : Int) : Int → List α → Tree α
  | _, [] => .fail
  | _, [a] => .leaf a
  | j, a :: r => .br (i == j) (.leaf a) (pickAt i (j + 1) r)

def isFn : A1 → Bool
  | .c (.fn _ _ _) => true
  | _ => false

def mergeAt (i : Int) : Int → List A1 → AV
  | _, [] => .any
  | _, [a] => .one a
  | j, a :: r => mergeA (i == j) (.one a) (mergeAt i (j + 1) r)

def partsOf (P : Program) (e : TypeId) (cs : List CV) : (count off step : Nat) → Option (List A1)
  | 0, _, _ => some []
  | n + 1, off, step => match partOf P e cs off, partsOf P e cs n (off + step) step with
    | some a, some l => some (a :: l)
    | _, _ => none

def inRange (i : Int) (n : Nat) : Bool := le 0 i && lt i (toInt64 n)

def evIndex (P : Program) (t : TypeId) : AV → AV → Tree AV
  | .one (.agg cs), .one (.c (.int _ i)) => match P.underlying t with
    | some (.array len e) => match P.info? e with
      | some j => match partsOf P e cs len 0 j.size with
        | some [] => .fail
        | some (p :: ps) => .need (inRange i len) (if isFn p then (pickAt i 0 (p :: ps)).bind fun a => .leaf (.one a) else .leaf (mergeAt i 0 (p :: ps)))
        | none => .fail
      | none => .fail
    | _ => .fail
  | _, _ => .fail

/-- bytes as a string -/
def bytesV (n : Nat) (ρ : Val) : ByteArray := ((List.range n).map fun i => ((ρ.at i).at 0).N []).foldl (fun r n => r.push (UInt8.ofNat n.toNat)) ByteArray.empty

/-- a conversion of bytes to a string -/
def evStr (P : Program) (s d : TypeId) : Option AV → Option AV
  | some (.one (.c (.sl [.int .u8] n ρ))) => match P.underlying s, P.underlying d with
    | some (.slice e), some .string => match P.underlying e with
      | some (.int .u8) => some (.one (.c (.str (bytesV n ρ))))
      | _ => none
    | _, _ => none
  | some (.one (.c .nils)) => match P.underlying s, P.underlying d with
    | some (.slice e), some .string => match P.underlying e with
      | some (.int .u8) => some (.one (.c (.str ByteArray.empty)))
      | _ => none
    | _, _ => none
  | _ => none

/-- the operations that neither read nor write memory -/
def evPure0 (P : Program) (ρ : List (Nat × Bool) → Operand → Option AV) : Op → Tree AV
  | .move x | .assign x => .ofOpt (ρ [] x)
  | .pick (.tmp t) a b => match ρ [] (.tmp t), ρ [(t, true)] a, ρ [(t, false)] b with
    | some (.one (.c (.bool c))), some va, some vb => .leaf (mergeA c va vb)
    | _, _, _ => .fail
  | .build t parts => match evParts (ρ []) parts.toList with
    | some l => .ofOpt (evBuild P t l)
    | none => .fail
  | .binOp op t x y _ => match ρ [] x, ρ [] y with
    | some a, some b => evBin P op t a b
    | _, _ => .fail
  | .unOp op _ x => match ρ [] x with
    | some a => evUn op a
    | none => .fail
  | .convert s d x => match P.underlying s, P.underlying d, ρ [] x with
    | some _, some (.int k), some (.one (.c (.int _ n))) => .leaf (.one (.c (.int k (k.wrap n))))
    | _, _, _ => .fail
  | .extract x i => match ρ [] x with
    | some (.tup l) => match nth l i with
      | some a => .leaf (.one a)
      | none => .fail
    | _ => .fail
  | .field t x i => match P.underlying t, ρ [] x with
    | some (.struct fs), some (.one (.agg cs)) => match nth fs.toList i with
      | some f => match partOf P f.type cs f.offset with
        | some a => .leaf (.one a)
        | none => .fail
      | none => .fail
    | _, _ => .fail
  | .fieldAddr t x i => match P.underlying t, ρ [] x with
    | some (.struct fs), some (.one (.c (.ptr b o))) => match nth fs.toList i with
      | some f => match P.info? f.type with
        | some j => if j.size == 0 then .fail else .leaf (.one (.c (.ptr b (o + f.offset))))
        | none => .fail
      | none => .fail
    | some (.struct fs), some (.one (.c (.rop es off ρ))) => match nth fs.toList i with
      | some f => match P.info? f.type with
        | some j => if j.size == 0 then .fail else .leaf (.one (.c (.rop es (off + f.offset) ρ)))
        | none => .fail
      | none => .fail
    | some (.struct fs), some (.one (.c (.rowp b sz i' off))) => match nth fs.toList i with
      | some f => match P.info? f.type with
        | some j => if j.size == 0 then .fail else .leaf (.one (.c (.rowp b sz i' (off + f.offset))))
        | none => .fail
      | none => .fail
    | _, _ => .fail
  | .indexAddr t x i => match P.underlying t, ρ [] x, ρ [] i with
    | some (.slice e), some (.one (.c (.sl es n ρ))), some (.one (.c (.int _ i))) => match P.info? e with
      | some j => if j.size == es.length then .need (inRange i n) (.leaf (.one (.c (.rop es 0 (ρ.at i.toNat))))) else .fail
      | none => .fail
    | some (.array len e), some (.one (.c (.ptr b o))), some (.one (.c (.int _ i))) => match P.info? e with
      | some j => .need (inRange i len) ((pickAt i 0 (List.range len)).bind fun k => .leaf (.one (.c (.ptr b (o + k * j.size)))))
      | none => .fail
    | _, _, _ => .fail
  | .index t x i => match ρ [] x, ρ [] i with
    | some a, some b => evIndex P t a b
    | _, _ => .fail
  | .makeFunc f first cap => match evArgs (ρ []) first.toList, evArgs (ρ []) cap.toList with
    | some a, some b => match cellsOnly a, cellsOnly b with
      | some x, some y => .leaf (.one (.c (.fn f x y)))
      | _, _ => .fail
    | _, _ => .fail
  | .nilCheck x => match ρ [] x with
    | some (.one (.c (.ptr b o))) => .leaf (.one (.c (.ptr b o)))
    | some (.one (.c (.rop es off ρ))) => .leaf (.one (.c (.rop es off ρ)))
    | some (.one (.c (.rowp b sz i off))) => .leaf (.one (.c (.rowp b sz i off)))
    | some (.one (.c (.fn (.func f) a b))) => .leaf (.one (.c (.fn (.func f) a b)))
    | _ => .fail
  | .call { callee := .builtin .len, args, argTypes } => match evArgs (ρ []) args.toList, argTypes.toList with
    | some [a], [t] => evLen P t (.one a)
    | _, _ => .fail
  | .call { callee := .builtin .max, args, .. } => match evArgs (ρ []) args.toList with
    | some l => evMM true l
    | none => .fail
  | .call { callee := .builtin .min, args, .. } => match evArgs (ρ []) args.toList with
    | some l => evMM false l
    | none => .fail
  | _ => .fail
 where
  cellsOnly : List A1 → Option (List CV)
  | [] => some []
  | .c x :: r => match cellsOnly r with | some l => some (x :: l) | none => none
  | _ => none

/-- an element of an array, at an index that is known -/
def arrAt (P : Program) (t : TypeId) : Option AV → Option AV → Option (Tree AV)
  | some (.one (.c (.ptr b o))), some (.one (.c (.int _ i))) => match P.underlying t with
    | some (.array len e) => match P.info? e with
      | some j => some (cond (inRange i len) (.leaf (.one (.c (.ptr b (o + i.toNat * j.size))))) .fail)
      | none => none
    | _ => none
  | _, _ => none

/-- the operations that neither write memory nor read what is written; 'conc': indices of arrays are known -/
def evPure (P : Program) (conc : Bool) (ρ : List (Nat × Bool) → Operand → Option AV) : Op → Tree AV
  | .indexAddr t x i => match (if conc then arrAt P t (ρ [] x) (ρ [] i) else none) with
    | some r => r
    | none => evPure0 P ρ (.indexAddr t x i)
  | .convert s d x => match evStr P s d (ρ [] x) with
    | some v => .leaf v
    | none => evPure0 P ρ (.convert s d x)
  | op => evPure0 P ρ op

inductive XE where
  | normal
  | exit (id : Nat)
  | ret

structure Hd where
  /-- functions whose result is one value, whatever world they are called in -/
  pc : List (Nat × (List A1 → Tree AV))
  /-- functions that lay what they return -/
  hc : List (Nat × (List A1 → Tree AV)) := []
  /-- loops: what the loop does, while the first blocks, so many of them, stay in their places -/
  lh : List ((Nat × Nat) × (Nat → St → Tree (XE × St)))
  /-- functions, with what they do to the memory -/
  mc : List (Nat × (List A1 → Mem → Tree (AV × Mem)))

def lookMc : List (Nat × (List A1 → Mem → Tree (AV × Mem))) → Nat → Option (List A1 → Mem → Tree (AV × Mem))
  | [], _ => none
  | (k, F) :: r, f => if k == f then some F else lookMc r f

/-- a summary without a condition -/
def oG (G : List A1 → Option AV) (args : List A1) : Tree AV :=
  match G args with
  | some r => .leaf r
  | none => .fail

def lookPc : List (Nat × (List A1 → Tree AV)) → Nat → Option (List A1 → Tree AV)
  | [], _ => none
  | (k, F) :: r, f => if k == f then some F else lookPc r f

def lookLh : List ((Nat × Nat) × (Nat → St → Tree (XE × St))) → Nat → Nat → Option (Nat → St → Tree (XE × St))
  | [], _, _ => none
  | (k, F) :: r, f, i => if k.1 == f && k.2 == i then some F else lookLh r f i

/-- a call's target and arguments -/
def evTarget (ρ : Operand → Option AV) (c : Call) : Option (Nat × List A1) :=
  match c.callee with
  | .value x => match ρ x, evArgs ρ c.args.toList with
    | some (.one (.c (.fn (.func f) first cap))), some l => some (f, first.map .c ++ l ++ cap.map .c)
    | _, _ => none
  | _ => none

def closedC : CV → Bool
  | .ptr _ _ => false
  | .os _ _ => false
  | .ost _ _ _ => false
  | .osh _ _ _ => false
  | .rowp _ _ _ _ => false
  | .row _ _ _ _ => false
  | .yld _ => false
  | .lp _ _ _ => false
  | .fn _ a b => closedCs a && closedCs b
  | .iface _ v => closedC v
  | _ => true
 where closedCs : List CV → Bool
  | [] => true
  | a :: l => closedC a && closedCs l

def closedA : A1 → Bool
  | .c x => closedC x
  | .agg l => l.all closedC

def callable (P : Program) (f : Nat) : Bool :=
  match nth P.funcs.toList f with
  | some fn => (fn.name != "runtime.NumGoroutine" && fn.body.isSome) && Nat.blt f 1000000000
  | none => false

/-- are indices of arrays known? (a key among the summaries says so) -/
def conc (H : Hd) : Bool := (lookPc H.pc 4294967295).isSome

abbrev CallH := Nat → List A1 → Mem → Tree (AV × Mem)

def isRowL : List CV → Bool
  | [.row _ _ _ _] => true
  | .lp _ _ _ :: _ => true
  | _ => false

def evLoad (P : Program) (mem : Mem) (t : TypeId) : AV → Option AV
  | .one (.c (.ptr b o)) => match nth mem b with
    | some (some (_, cs)) => if isRowL cs then none else match partOf P t cs o with
      | some a => some (.one a)
      | none => none
    | _ => none
  | .one (.c (.rop es off ρ)) => match partOf P t (cellsOfL es 0 ρ) off with
    | some a => some (.one a)
    | none => none
  | _ => none

def imp' (c : Bool) : Bool → Bool
  | true => true
  | false => !c

def and' : Bool → Bool → Bool
  | true, y => y
  | false, _ => false

/-! ### rows: slices of one's own -/

def rowAt (mem : Mem) (b : Nat) : Option (TypeId × Bool × List Sh × Nat × Val) :=
  match nth mem b with
  | some (some (T, [.row fz es n ρ])) => some (T, fz, es, n, ρ)
  | _ => none

/-- a slice of one's own becomes plain data, and isn't written any more -/
def frzC (mem : Mem) : CV → Mem × CV
  | .os b sz => match rowAt mem b with
    | some (T, _, es, n, ρ) => if es.length == sz then (setN mem b (some (T, [.row true es n ρ])), .sl es n ρ) else (mem, .os b sz)
    | none => (mem, .os b sz)
  | x => (mem, x)

def frzCs : Mem → List CV → Mem × List CV
  | mem, [] => (mem, [])
  | mem, x :: r =>
    let y := frzC mem x
    let z := frzCs y.1 r
    (z.1, y.2 :: z.2)

def frz1 (mem : Mem) : A1 → Mem × A1
  | .c x => let y := frzC mem x; (y.1, .c y.2)
  | .agg l => let y := frzCs mem l; (y.1, .agg y.2)

def frz1s : Mem → List A1 → Mem × List A1
  | mem, [] => (mem, [])
  | mem, x :: r =>
    let y := frz1 mem x
    let z := frz1s y.1 r
    (z.1, y.2 :: z.2)

def hasOs : CV → Bool
  | .os _ _ => true
  | _ => false

def repC (l : List CV) : Nat → List CV
  | 0 => []
  | n + 1 => l ++ repC l n

/-- the elements of a literal -/
def Val.ofFlat (sz : Nat) (cs : List CV) : Val := .byFst fun i => .byFst fun f => match nth cs (i * sz + f) with | some x => .ofC x | none => .zero

def fitsFlat (es : List Sh) : Nat → List CV → Bool
  | 0, [] => true
  | n + 1, cs => match takeN cs es.length with
    | some l => fitsL es l && fitsFlat es n (dropN cs es.length)
    | none => false
  | _, _ => false

def evBuildSlice (P : Program) (mem : Mem) (t : TypeId) (n : Nat) (parts : List (Nat × A1)) : Option (AV × Mem) :=
  match P.underlying t with
  | some (.slice e) => match P.info? e, shapesOf P 12 e, zeroCellsOf P e with
    | some j, some es, some z =>
      if es.length == j.size && Nat.blt 0 j.size && z.length == j.size && Nat.ble (n * j.size) 16777216 then
        match evFill (fun i => some (i * j.size, j.size)) (repC z n) parts with
        | some cs =>
          let y := frzCs mem cs
          if fitsFlat es n y.2 then some (.one (.c (.os y.1.length j.size)), y.1 ++ [some (e, [.row false es n (Val.ofFlat j.size y.2)])]) else none
        | none => none
      else none
    | _, _, _ => none
  | _ => none

/-- what is appended: shapes, how many, what -/
def srcOf (mem : Mem) : A1 → Option (List Sh × Nat × Val)
  | .c (.sl es n ρ) => some (es, n, ρ)
  | .c (.os b sz) => match rowAt mem b with
    | some (_, _, es, n, ρ) => if es.length == sz then some (es, n, ρ) else none
    | none => none
  | _ => none

def notSame (b : Nat) : A1 → Bool
  | .c (.os b' _) => !(b' == b)
  | _ => true

def evAppend (P : Program) (mem : Mem) (t : TypeId) (a x : A1) : Tree (AV × Mem) :=
  match P.underlying t with
  | some (.slice e) => match P.info? e, zeroCellsOf P e with
    | some j, some z =>
      if !(Nat.blt 0 j.size && Nat.blt 0 j.bytes && z.length == j.size) then .fail else
      match a, x with
      | .c .nils, .c .nils => .leaf (.one (.c .nils), mem)
      | .c (.os b sz), .c .nils => match rowAt mem b with
        | some _ => .leaf (.one (.c (.os b sz)), mem)
        | none => .fail
      | .c .nils, x => match srcOf mem x with
        | some (es, m, σ) => if es.length == j.size then .need (Nat.ble (m * j.bytes) 140737488355328) (.leaf (.one (.c (.os mem.length j.size)), mem ++ [some (e, [.row false es m σ])])) else .fail
        | none => .fail
      | .c (.os b sz), x => match rowAt mem b, srcOf mem x with
        | some (T, false, es, n, ρ), some (es', m, σ) =>
          if T == e && es.length == j.size && sz == j.size && shEq.shsEq es es' && notSame b x then
            .need (Nat.ble ((n + m) * j.bytes) 140737488355328) (.leaf (.one (.c (.os mem.length j.size)), setN mem b none ++ [some (e, [.row false es (n + m) (Val.cat n ρ σ)])]))
          else .fail
        | _, _ => .fail
      | _, _ => .fail
    | _, _ => .fail
  | _ => .fail

def boundOf (ρ : Operand → Option AV) : Option Operand → Option (Option Int)
  | none => some none
  | some x => match ρ x with
    | some (.one (.c (.int _ i))) => some (some i)
    | _ => none

/-- a part of a slice that is read only -/
def cutSl (es : List Sh) (n : Nat) (ρ : Val) (lo hi : Option Int) (mem : Mem) : Tree (AV × Mem) :=
  match lo, hi with
  | none, none => .leaf (.one (.c (.sl es n ρ)), mem)
  | none, some h => .need (le 0 h && le h (toInt64 n)) (.leaf (.one (.c (.sl es h.toNat ρ)), mem))
  | some l, none => .need (le 0 l && le l (toInt64 n)) (.leaf (.one (.c (.sl es (n - l.toNat) (ρ.from l.toNat))), mem))
  | some l, some h => .need (le 0 l && le l h && le h (toInt64 n)) (.leaf (.one (.c (.sl es (h.toNat - l.toNat) (ρ.from l.toNat))), mem))

def isZero : Option Int → Bool
  | none => true
  | some i => i == 0

def isZero0 : Option Int → Bool
  | none => false
  | some i => i == 0

def evSlice (P : Program) (mem : Mem) (t : TypeId) (a : A1) (lo hi mx : Option Int) : Tree (AV × Mem) :=
  match P.underlying t with
  | some (.slice e) => match P.info? e with
    | some j => match mx with
      | some m => if m == 0 && isZero lo && isZero0 hi then
          (match a with
            | .c .nils => .leaf (.one (.c .nils), mem)
            | .c (.sl es _ ρ) => if es.length == j.size then .leaf (.one (.c (.os mem.length j.size)), mem ++ [some (e, [.row false es 0 ρ])]) else .fail
            | .c (.os b sz) => match rowAt mem b with
              | some (_, _, es, _, ρ) => if es.length == j.size && sz == j.size then .leaf (.one (.c (.os mem.length j.size)), mem ++ [some (e, [.row false es 0 ρ])]) else .fail
              | none => .fail
            | _ => .fail)
        else .fail
      | none => match a with
        | .c (.sl es n ρ) => if es.length == j.size then cutSl es n ρ lo hi mem else .fail
        | .c .nils => if isZero lo && isZero hi then .leaf (.one (.c .nils), mem) else .fail
        | .c (.os b sz) => match rowAt mem b with
          | some (T, fz, es, n, ρ) =>
            if es.length == j.size && sz == j.size && T == e then
              (match fz, lo, hi with
                | false, none, some h => .need (lt 0 h && le h (toInt64 n)) (.leaf (.one (.c (.os mem.length j.size)), setN mem b none ++ [some (e, [.row false es h.toNat ρ])]))
                | _, _, _ => cutSl es n ρ lo hi (setN mem b (some (T, [.row true es n ρ]))))
            else .fail
          | none => .fail
        | _ => .fail
    | none => .fail
  | _ => .fail

def evLoadRow (P : Program) (mem : Mem) (t : TypeId) (b sz i off : Nat) : Option AV :=
  match rowAt mem b with
  | some (_, _, es, _, ρ) => if es.length == sz then (match partOf P t (cellsOfL es 0 (ρ.at i)) off with
    | some a => some (.one a)
    | none => none) else none
  | none => none

def evStoreRow (P : Program) (mem : Mem) (t : TypeId) (b sz i off : Nat) (v : A1) : Option Mem :=
  match P.info? t with
  | some j =>
    let y := frzCs mem v.cells
    match rowAt y.1 b with
    | some (T, false, es, n, ρ) =>
      if es.length == sz && y.2.length == j.size && Nat.blt 0 j.size then (match takeN (dropN es off) j.size with
        | some es' => if fitsL es' y.2 then some (setN y.1 b (some (T, [.row false es n (ρ.upds i off y.2)]))) else none
        | none => none) else none
    | _ => none
  | none => none

/-- a result of plain data: nothing that lies in memory -/
def flatC : CV → Bool
  | .bool _ | .int _ _ | .str _ => true
  | _ => false
def flat1 : A1 → Bool
  | .c x => flatC x
  | .agg l => l.all flatC
def flatA : AV → Bool
  | .any => false
  | .one x => flat1 x
  | .tup l => l.all flat1

/-- a slice of one's own, read as plain data -/
def viewC (mem : Mem) : CV → CV
  | .os b sz => match rowAt mem b with
    | some (_, _, es, n, ρ) => if es.length == sz then .sl es n ρ else .os b sz
    | none => .os b sz
  | x => x
def view1 (mem : Mem) : A1 → A1
  | .c x => .c (viewC mem x)
  | .agg l => .agg (l.map (viewC mem))

/-- are tails of one's own slices followed? (a key among the summaries says so) -/
def tails (H : Hd) : Bool := (lookPc H.pc 4294967293).isSome

/-- the tail of a slice of one's own -/
def evTail (P : Program) (mem : Mem) (t : TypeId) : A1 → Option Int → Option Int → Option Int → Option (Tree (AV × Mem))
  | .c (.os b sz), some l, none, none => match P.underlying t, rowAt mem b with
    | some (.slice e), some (T, false, es, n, _) => match P.info? e with
      | some j => if es.length == j.size && sz == j.size && T == e then some (.need (le 0 l && lt l (toInt64 n)) (.leaf (.one (.c (.ost b sz l.toNat)), mem))) else none
      | none => none
    | _, _ => none
  | _, _, _, _ => none

/-- are heads of one's own slices followed? (a key among the summaries says so) -/
def heads (H : Hd) : Bool := (lookPc H.pc 4294967291).isSome

/-- the head of a slice of one's own -/
def evHead (P : Program) (mem : Mem) (t : TypeId) : A1 → Option Int → Option Int → Option Int → Option (Tree (AV × Mem))
  | .c (.os b sz), none, some h, none => match P.underlying t, rowAt mem b with
    | some (.slice e), some (T, false, es, n, _) => match P.info? e with
      | some j => if es.length == j.size && sz == j.size && T == e then some (.need (le 0 h && le h (toInt64 n)) (.leaf (.one (.c (.osh b sz h.toNat)), mem))) else none
      | none => none
    | _, _ => none
  | _, _, _, _ => none

def isOsA : A1 → Bool
  | .c (.os _ _) => true
  | _ => false

/-- where a copy goes -/
def dstOf : A1 → Option (Nat × Nat × Nat)
  | .c (.os b sz) => some (b, sz, 0)
  | .c (.ost b sz lo) => some (b, sz, lo)
  | _ => none

/-- what a copy reads: its block, if it is a slice of one's own; shapes, how many, what -/
def cpOf (mem : Mem) : A1 → Option (List Sh × Nat × Val)
  | .c (.sl es n ρ) => some (es, n, ρ)
  | .c (.osh b sz m) => match rowAt mem b with
    | some (_, _, es, _, ρ) => if es.length == sz then some (es, m, ρ) else none
    | none => none
  | _ => none

/-- a row behind a copy to its elements from lo on -/
def splice (lo k : Nat) (ρ σ : Val) : Val := .byFst fun i => pickV (Nat.blt i lo) (ρ.at i) (pickV (Nat.blt i (lo + k)) (σ.at (i - lo)) (ρ.at i))

/-- a copy into a slice of one's own -/
def evCopy (P : Program) (mem : Mem) (t : TypeId) (a x : A1) : Tree (AV × Mem) :=
  match dstOf a, cpOf mem x with
  | some (b, sz, lo), some (es', m, σ) => match P.underlying t, rowAt mem b with
    | some (.slice e), some (T, false, es, n, ρ) => match P.info? e with
      | some j => if shEq.shsEq es' es && es.length == j.size && sz == j.size && T == e && Nat.blt 0 sz then
          .leaf (.one (.c (.int .i64 (toInt64 (Nat.min m (n - lo))))), setN mem b (some (T, [.row false es n (splice lo (Nat.min m (n - lo)) ρ σ)]))) else .fail
      | none => .fail
    | _, _ => .fail
  | _, _ => .fail

/-- are literals of plain data plain data themselves? (a key among the summaries says so) -/
def lits (H : Hd) : Bool := (lookPc H.pc 4294967292).isSome

/-- a literal of plain data -/
def evLit (P : Program) (t : TypeId) (n : Nat) (parts : List (Nat × A1)) : Option AV :=
  match P.underlying t with
  | some (.slice e) => match P.info? e, shapesOf P 12 e, zeroCellsOf P e with
    | some j, some es, some z =>
      if es.length == j.size && Nat.blt 0 j.size && z.length == j.size && Nat.ble (n * j.size) 16777216 then
        match evFill (fun i => some (i * j.size, j.size)) (repC z n) parts with
        | some cs => if cs.all closedC && fitsFlat es n cs then some (.one (.c (.sl es n (Val.ofFlat j.size cs)))) else none
        | none => none
      else none
    | _, _, _ => none
  | _ => none

/-- is an operation such a literal? -/
def litOp (H : Hd) (ρ : Operand → Option AV) : Op → Bool
  | .buildSlice _ _ parts => lits H && (match evParts ρ parts.toList with
    | some l => l.all (fun p => closedA p.2)
    | none => false)
  | _ => false

/-- a tail is cleared -/
def evClear (P : Program) (mem : Mem) (t : TypeId) : A1 → Tree (AV × Mem)
  | .c (.ost b sz lo) => match P.underlying t, rowAt mem b with
    | some (.slice e), some (T, false, es, n, ρ) => match zeroCellsOf P e with
      | some z => if es.length == sz && z.length == sz && Nat.blt 0 sz && T == e && fitsL es z then .leaf (.any, setN mem b (some (T, [.row false es n (Val.cat lo ρ (.byFst fun _ => Val.ofCs z))]))) else .fail
      | none => .fail
    | _, _ => .fail
  | _ => .fail

/-- a slice of zeros -/
def evMake (P : Program) (mem : Mem) (t : TypeId) : AV → AV → Tree (AV × Mem)
  | .one (.c (.int _ l)), .one (.c (.int _ c)) => match P.underlying t with
    | some (.slice e) => match P.info? e, shapesOf P 12 e, zeroCellsOf P e with
      | some j, some es, some z =>
        if es.length == j.size && Nat.blt 0 j.size && Nat.blt 0 j.bytes && z.length == j.size && fitsL es z then
          .need (le 0 l && le l c && le (c * toInt64 j.bytes) 140737488355328) (.leaf (.one (.c (.os mem.length j.size)), mem ++ [some (e, [.row false es l.toNat (.byFst fun _ => Val.ofCs z)])]))
        else .fail
      | _, _, _ => .fail
    | _ => .fail
  | _, _ => .fail

/-- plain data, and slices of one's own -/
def rdAll (args : List A1) : Bool := args.all fun a => a.cells.all fun x => closedC x || hasOs x

/-- every operation: its value, and the memory behind it -/
def evOp (P : Program) (H : Hd) (call : CallH) (mem : Mem) (ρ : List (Nat × Bool) → Operand → Option AV) : Op → Tree (AV × Mem)
  | .alloc e => match zeroCellsOf P e with
    | some z => .leaf (.one (.c (.ptr mem.length 0)), mem ++ [some (e, z)])
    | none => .fail
  | .box e x => match ρ [] x with
    | some (.one a) => if isRowL a.cells then .fail else .leaf (.one (.c (.ptr mem.length 0)), mem ++ [some (e, a.cells)])
    | _ => .fail
  | .load t x => match ρ [] x with
    | some (.one (.c (.rowp b sz i off))) => match evLoadRow P mem t b sz i off with
      | some v => .leaf (v, mem)
      | none => .fail
    | some a => match evLoad P mem t a with
      | some v => .leaf (v, mem)
      | none => .fail
    | none => .fail
  | .store t x y => match ρ [] x, ρ [] y with
    | some (.one (.c (.rowp b sz i off))), some (.one v) => match evStoreRow P mem t b sz i off v with
      | some mem' => .leaf (.any, mem')
      | none => .fail
    | some (.one (.c (.ptr b o))), some (.one v) => match nth mem b, P.info? t with
      | some (some (T, cs)), some i => if !isRowL cs && v.cells.length == i.size && Nat.ble (o + i.size) cs.length && !isRowL v.cells then .leaf (.any, setN mem b (some (T, putCells cs o v.cells))) else .fail
      | _, _ => .fail
    | _, _ => .fail
  | .buildSlice t n parts => match evParts (ρ []) parts.toList with
    | some l => if lits H && l.all (fun p => closedA p.2) then (match evLit P t n l with
      | some v => .leaf (v, mem)
      | none => .fail)
      else match evBuildSlice P mem t n l with
      | some r => .leaf r
      | none => .fail
    | none => .fail
  | .makeSlice t x y => match ρ [] x, ρ [] y with
    | some l, some c => evMake P mem t l c
    | _, _ => .fail
  | .slice t x lo hi mx => match ρ [] x, boundOf (ρ []) lo, boundOf (ρ []) hi, boundOf (ρ []) mx with
    | some (.one a), some l, some h, some m => match (if tails H then evTail P mem t a l h m else none) with
      | some r => r
      | none => match (if heads H then evHead P mem t a l h m else none) with
        | some r => r
        | none => if heads H && isOsA a && m.isNone then .fail else evSlice P mem t a l h m
    | _, _, _, _ => .fail
  | .indexAddr t x i => match ρ [] x, ρ [] i with
    | some (.one (.c (.os b sz))), some (.one (.c (.int _ k))) => match P.underlying t, rowAt mem b with
      | some (.slice e), some (_, _, es, n, _) => match P.info? e with
        | some j => if j.size == sz && es.length == sz then .need (inRange k n) (.leaf (.one (.c (.rowp b sz k.toNat 0)), mem)) else .fail
        | none => .fail
      | _, _ => .fail
    | _, _ => (evPure P (conc H) ρ (.indexAddr t x i)).bind fun v => .leaf (v, mem)
  | .call c => match c.callee with
    | .value _ => match evTarget (ρ []) c with
      | some (f, args) => if callable P f then (match lookPc H.pc f with
        | some F => let l := args.map (view1 mem); if l.all closedA then (F l).bind (fun r => if args.all closedA || flatA r then .leaf (r, mem) else .fail) else if rdAll args then .fail else call f args mem
        | none => match lookPc H.hc f with
          | some F => let y := frz1s mem args; if y.2.all closedA then (F y.2).bind (fun r => .leaf (r, y.1)) else .fail
          | none => call f args mem) else .fail
      | none => .fail
    | .builtin .append => match evArgs (ρ []) c.args.toList, c.argTypes.toList with
      | some [a, x], [t, t'] => if t == t' then evAppend P mem t a x else .fail
      | _, _ => .fail
    | .builtin .clear => match evArgs (ρ []) c.args.toList, c.argTypes.toList with
      | some [a], [t] => evClear P mem t a
      | _, _ => .fail
    | .builtin .copy => match evArgs (ρ []) c.args.toList, c.argTypes.toList with
      | some [a, x], t :: _ => evCopy P mem t a x
      | _, _ => .fail
    | .builtin .len => match evArgs (ρ []) c.args.toList, c.argTypes.toList with
      | some [.c (.os b _)], [t] => match P.underlying t, rowAt mem b with
        | some (.slice _), some (_, _, _, n, _) => .leaf (.one (.c (.int .i64 (toInt64 n))), mem)
        | _, _ => .fail
      | _, _ => (evPure P (conc H) ρ (.call c)).bind fun v => .leaf (v, mem)
    | _ => (evPure P (conc H) ρ (.call c)).bind fun v => .leaf (v, mem)
  | op => (evPure P (conc H) ρ op).bind fun v => .leaf (v, mem)

def dropKey (d : Nat) (s : Slot) : Slot := if s.keys.any (fun p => p.1 == d) then ⟨[], .any⟩ else s

def St.put (s : St) (dst : Option Tmp) (ks : List (Nat × Bool)) (v : AV) : St :=
  match dst with
  | some d => { s with tmps := setN (s.tmps.map (dropKey d)) d ⟨ks, v⟩ }
  | none => s

/-- do the keys hold? -/
def gterm (s : St) : List (Nat × Bool) → Bool
  | [] => true
  | (d, b) :: r => (match nth s.tmps d with
    | some ⟨_, .one (.c (.bool c))⟩ => c == b
    | _ => true) && gterm s r

/-- exactly whether the keys hold -/
def gdec (s : St) : List (Nat × Bool) → Option Bool
  | [] => some true
  | (d, b) :: r => match nth s.tmps d, gdec s r with
    | some ⟨ks, .one (.c (.bool c))⟩, some g => if ks.all (keyIn r) then some (and' g (c == b)) else none
    | _, _ => none

/-- under a guard: what cannot be told asks that the guard is false -/
def Tree.toNeed {α : Type} (d : α) (g : Bool) : Tree α → Tree α
  | .leaf a => .leaf a
  | .need c t => .need (!g || c) (t.toNeed d g)
  | _ => .need (!g) (.leaf d)
def dGu : AV × Mem := (.one (.c (.bool false)), [])

/-- the keys of a guarded operation -/
def keysOf (ops : List Oper) (s : St) (j : Nat) (b : Bool) : Option (List (Nat × Bool)) :=
  match nth ops j with
  | some o => match o.dst with
    | some d => match nth s.tmps d with
      | some ⟨ks, .one (.c (.bool _))⟩ => some ((d, b) :: ks)
      | _ => none
    | none => none
  | none => none

def memOp : Op → Bool
  | .alloc _ | .box _ _ | .store _ _ _ => true
  | _ => false

/-- is the operation one that may be carried out in any order with its like? -/
def quietOp (H : Hd) (ρ : Operand → Option AV) : Op → Bool
  | .alloc _ | .box _ _ | .store _ _ _ | .buildSlice _ _ _ | .makeSlice _ _ _ => false
  | .slice _ _ _ _ _ => false
  | .indexAddr _ x _ => match ρ x with | some (.one (.c (.os _ _))) => false | _ => true
  | .load _ x => match ρ x with | some (.one (.c (.rowp _ _ _ _))) => false | _ => true
  | .call c => match c.callee with
    | .value _ => match evTarget ρ c with
      | some (f, args) => (lookPc H.pc f).isSome && args.all closedA
      | none => false
    | .builtin .append => false
    | .builtin .clear => false
    | .builtin .copy => false
    | .builtin .len => match evArgs ρ c.args.toList with
      | some [.c (.os _ _)] => false
      | _ => true
    | _ => true
  | _ => true

/-- a call of a function that lays what it returns, of plain data -/
def laysOp (H : Hd) (ρ : Operand → Option AV) (c : Call) : Bool :=
  match c.callee with
  | .value _ => match evTarget ρ c with
    | some (f, args) => (lookPc H.pc f).isNone && (lookPc H.hc f).isSome && args.all closedA
    | none => false
  | _ => false

/-- does the operation leave the memory as it is? -/
def stillOp (H : Hd) (ρ : Operand → Option AV) (op : Op) : Bool :=
  quietOp H ρ op || (match op with
    | .buildSlice t n parts => litOp H ρ (.buildSlice t n parts)
    | .load _ x => match ρ x with | some (.one (.c (.rowp _ _ _ _))) => true | _ => false
    | .indexAddr _ x _ => match ρ x with | some (.one (.c (.os _ _))) => true | _ => false
    | .call c => match c.callee with | .builtin .len => true | _ => laysOp H ρ c
    | _ => false)

/-- the call of a loop's yield -/
def yldOf (ρ : Operand → Option AV) : Op → Option (Nat × List A1)
  | .call c => match c.callee with
    | .value x => match ρ x, evArgs ρ c.args.toList with
      | some (.one (.c (.yld b))), some l => some (b, l)
      | _, _ => none
    | _ => none
  | _ => none

/-- an operation, calls of yield among them -/
def evOpY (P : Program) (H : Hd) (call : CallH) (mem : Mem) (ρ : List (Nat × Bool) → Operand → Option AV) (op : Op) : Tree (AV × Mem) :=
  match yldOf (ρ []) op with
  | some (b, l) => call (1000000000 + b) l mem
  | none => evOp P H call mem ρ op

def evOps (P : Program) (H : Hd) (call : CallH) (quiet : Bool) (all : List Oper) : List Oper → St → Tree St
  | [], s => .leaf s
  | o :: r, s => match o.guard with
    | none => if quiet && !quietOp H (opnd s []) o.op then .fail else
      (evOpY P H call s.mem (fun K => opnd s K) o.op).bind fun x => evOps P H call quiet all r ({ s with mem := x.2 }.put o.dst [] x.1)
    | some (j, b) => match keysOf all s j b with
      | some K =>
        if K.any (fun p => some p.1 == o.dst) then .fail else
        if stillOp H (opnd s K) o.op then
          ((evOp P H call s.mem (fun K' => opnd s (K' ++ K)) o.op).toNeed dGu (gterm s K)).bind fun x => evOps P H call quiet all r (s.put o.dst K x.1)
        else if quiet then .fail else match gdec s K with
          | some g => .br g ((evOpY P H call s.mem (fun K' => opnd s (K' ++ K)) o.op).bind fun x => evOps P H call quiet all r ({ s with mem := x.2 }.put o.dst [] x.1)) (evOps P H call quiet all r (s.put o.dst K dGu.1))
          | none => .fail
      | none => .fail

/-! ### a statement whose order is open -/

/-- what an operation touches: 0 is the number of blocks, b + 1 the block b; and whether it writes there. 'none': anything. -/
abbrev Touch := Option (List (Nat × Bool))

/-- the slices of one's own among the arguments -/
def osCells : List CV → List (Nat × Bool)
  | [] => []
  | .os b _ :: l => (b + 1, false) :: osCells l
  | _ :: l => osCells l
def osAll : List A1 → List (Nat × Bool)
  | [] => []
  | a :: l => osCells a.cells ++ osAll l

/-- a call that reads its arguments alone -/
def readsOp (H : Hd) (ρ : Operand → Option AV) (c : Call) : Touch :=
  match c.callee with
  | .value _ => match evTarget ρ c with
    | some (f, args) => if (lookPc H.pc f).isSome && rdAll args then some (osAll args) else none
    | none => none
  | _ => none

def touchOf (H : Hd) (ρ : Operand → Option AV) (len : Nat) : Op → Touch
  | .load _ x => match ρ x with
    | some (.one (.c (.ptr b _))) => some [(b + 1, false)]
    | some (.one (.c (.rowp b _ _ _))) => some [(b + 1, false)]
    | some (.one (.c (.rop _ _ _))) => some []
    | _ => none
  | .store _ x y => match ρ x with
    | some (.one (.c (.ptr b _))) => some [(b + 1, true)]
    | some (.one (.c (.rowp b _ _ _))) => match ρ y with
      | some (.one v) => if v.cells.all (fun x => !hasOs x) then some [(b + 1, true)] else none
      | _ => none
    | _ => none
  | .alloc _ => some [(0, true), (len + 1, true)]
  | .box _ _ => some [(0, true), (len + 1, true)]
  | .buildSlice _ _ parts => match evParts ρ parts.toList with
    | some l => if lits H && l.all (fun p => closedA p.2) then some [] else if l.all (fun p => p.2.cells.all (fun x => !hasOs x)) then some [(0, true), (len + 1, true)] else none
    | none => none
  | .makeSlice _ _ _ => some [(0, true), (len + 1, true)]
  | .indexAddr t x i => match ρ x with
    | some (.one (.c (.os b _))) => some [(b + 1, false)]
    | _ => if quietOp H ρ (.indexAddr t x i) then some [] else none
  | .slice _ x _ _ mx => match ρ x, mx with
    | some (.one (.c (.sl _ _ _))), none => some []
    | some (.one (.c .nils)), none => some []
    | some (.one (.c (.os b _))), none => if heads H then some [(b + 1, false)] else none
    | _, _ => none
  | .call c => match c.callee with
    | .builtin .append => match evArgs ρ c.args.toList with
      | some [.c .nils, .c (.sl _ _ _)] => some [(0, true), (len + 1, true)]
      | some [.c .nils, .c (.os b _)] => some [(0, true), (len + 1, true), (b + 1, false)]
      | some [.c (.os b _), .c (.sl _ _ _)] => some [(0, true), (len + 1, true), (b + 1, true)]
      | some [.c (.os b _), .c (.os b' _)] => some [(0, true), (len + 1, true), (b + 1, true), (b' + 1, false)]
      | some [.c .nils, .c .nils] => some []
      | some [.c (.os b _), .c .nils] => some [(b + 1, false)]
      | _ => none
    | .builtin .len => match evArgs ρ c.args.toList with
      | some [.c (.os b _)] => some [(b + 1, false)]
      | _ => some []
    | .builtin .copy => match evArgs ρ c.args.toList with
      | some [.c (.os b _), .c (.sl _ _ _)] => some [(b + 1, true)]
      | some [.c (.ost b _ _), .c (.osh b' _ _)] => some [(b + 1, true), (b' + 1, false)]
      | _ => none
    | _ => if quietOp H ρ (.call c) || laysOp H ρ c then some [] else readsOp H ρ c
  | op => if quietOp H ρ op then some [] else none

def tmpsIn : List Operand → List Nat
  | [] => []
  | .tmp t :: r => t :: tmpsIn r
  | _ :: r => tmpsIn r

def anyN (t : Nat) : List Nat → Bool
  | [] => false
  | u :: r => t == u || anyN t r

/-- a reading that knows the operation's own operands alone -/
def limit (ts : List Nat) (ρ : Operand → Option AV) : Operand → Option AV
  | .tmp t => if anyN t ts then ρ (.tmp t) else none
  | x => ρ x

def lim (o : Oper) (s : St) (K : List (Nat × Bool)) : Operand → Option AV := limit (tmpsIn o.op.operands.toList) (opnd s K)

def St.put0 (s : St) (dst : Option Tmp) (ks : List (Nat × Bool)) (v : AV) : St :=
  match dst with
  | some d => { s with tmps := setN s.tmps d ⟨ks, v⟩ }
  | none => s

abbrev Info := Touch × List (Nat × Bool)

def evDraw (P : Program) (H : Hd) (call : CallH) (all : List Oper) : List Oper → St → Tree (St × List Info)
  | [], s => .leaf (s, [])
  | o :: r, s => match o.guard with
    | none =>
        (evOp P H call s.mem (fun K => lim o s K) o.op).bind fun x => (evDraw P H call all r ({ s with mem := x.2 }.put0 o.dst [] x.1)).bind fun y => .leaf (y.1, (touchOf H (lim o s []) s.mem.length o.op, []) :: y.2)
    | some (j, b) => match keysOf all s j b with
      | some K =>
        if !stillOp H (lim o s K) o.op || K.any (fun p => some p.1 == o.dst) then .fail else
        ((evOp P H call s.mem (fun K' => lim o s (K' ++ K)) o.op).toNeed dGu (gterm s K)).bind fun x => (evDraw P H call all r (s.put0 o.dst K x.1)).bind fun y => .leaf (y.1, (touchOf H (lim o s K) s.mem.length o.op, K) :: y.2)
      | none => .fail

/-- the ancestors of each operation, as numbers whose bits say it -/
def ancMask (masks : List Nat) : List Edge → Nat
  | [] => 0
  | e :: r => (match nth masks e.on with | some m => if Region.binds .any e then 2 ^ e.on ||| m else 0 | none => 0) ||| ancMask masks r

def ancMasks : List Oper → List Nat → List Nat
  | [], acc => acc
  | o :: r, acc => ancMasks r (acc ++ [ancMask acc o.after.toList])

def edgesOk : Nat → List Oper → Bool
  | _, [] => true
  | i, o :: r => o.after.toList.all (fun e => !Region.binds .any e || Nat.blt e.on i) && edgesOk (i + 1) r

/-- the operation that writes a slot -/
def writerOf (t : Nat) : Nat → List Oper → Option Nat
  | _, [] => none
  | i, o :: r => if o.dst == some t then some i else writerOf t (i + 1) r

def dstsOk : List Oper → Bool
  | [] => true
  | o :: r => (match o.dst with | some t => r.all (fun o' => !(o'.dst == some t)) | none => true) && dstsOk r

def isAnc (masks : List Nat) (i j : Nat) : Bool := Nat.blt i j && match nth masks j with | some m => m.testBit i | none => false

def tmpOk (all : List Oper) (masks : List Nat) (j t : Nat) : Bool :=
  match writerOf t 0 all with
  | some i => isAnc masks i j || isAnc masks j i || i == j
  | none => true

def keyOk (all : List Oper) (masks : List Nat) (j t : Nat) : Bool :=
  match writerOf t 0 all with
  | some i => isAnc masks i j
  | none => false

def opsOk (all : List Oper) (masks : List Nat) : Nat → List Oper → List Info → Bool
  | j, o :: r, (_, K) :: q => (tmpsIn o.op.operands.toList).all (fun t => tmpOk all masks j t) &&
    (match o.guard with | some (g, _) => isAnc masks g j | none => true) && K.all (fun p => keyOk all masks j p.1) && opsOk all masks (j + 1) r q
  | _, _, _ => true

def clash (masks : List Nat) (i j : Nat) : Touch → Touch → Bool
  | some t, some u => t.all (fun p => u.all (fun q => !(p.1 == q.1) || !(p.2 || q.2) || isAnc masks i j))
  | some t, none => t.isEmpty || isAnc masks i j
  | none, some u => u.isEmpty || isAnc masks i j
  | none, none => isAnc masks i j

def touchRow (masks : List Nat) (i : Nat) (t : Touch) : Nat → List Info → Bool
  | _, [] => true
  | j, u :: r => clash masks i j t u.1 && touchRow masks i t (j + 1) r

def touchesOk (masks : List Nat) : Nat → List Info → Bool
  | _, [] => true
  | i, t :: r => touchRow masks i t.1 (i + 1) r && touchesOk masks (i + 1) r

def drawOk (ops : List Oper) (ts : List Info) : Bool :=
  let masks := ancMasks ops []
  edgesOk 0 ops && dstsOk ops && opsOk ops masks 0 ops ts && touchesOk masks 0 ts

def unkey (s : Slot) : Slot := if s.keys.isEmpty then s else ⟨[], .any⟩

def nloops : Code → Nat
  | .seq a b => nloops a + nloops b
  | .cond _ a b => nloops a + nloops b
  | .block _ b => nloops b
  | .loop b => nloops b + 1
  | .scope b => nloops b
  | .rangeFunc _ _ a b => nloops a + nloops b
  | _ => 0

/-- loops over functions -/
def nranges : Code → Nat
  | .seq a b => nranges a + nranges b
  | .cond _ a b => nranges a + nranges b
  | .block _ b => nranges b
  | .loop b => nranges b
  | .scope b => nranges b
  | .rangeFunc _ _ a b => nranges a + nranges b + 1
  | _ => 0

/-- a loop over a function: its variables, its codes, how many loops stand ahead of it -/
structure RC where
  ps : Array Tmp
  a : Code
  b : Code
  n : Nat

def nthRange : Code → Nat → Nat → Option RC
  | .seq a b, i, n => if i < nranges a then nthRange a i n else nthRange b (i - nranges a) (n + nloops a)
  | .cond _ a b, i, n => if i < nranges a then nthRange a i n else nthRange b (i - nranges a) (n + nloops a)
  | .block _ b, i, n => nthRange b i n
  | .loop b, i, n => nthRange b i (n + 1)
  | .scope b, i, n => nthRange b i n
  | .rangeFunc _ ps a b, 0, n => some ⟨ps, a, b, n⟩
  | .rangeFunc _ _ a b, i + 1, n => if i < nranges a then nthRange a i n else nthRange b (i - nranges a) (n + nloops a)
  | _, _, _ => none

def rcOf (P : Program) (f i : Nat) : Option RC :=
  match nth P.funcs.toList f with
  | some fn => match fn.body with
    | some c => nthRange c i 0
    | none => none
  | none => none

def nthLoop : Code → Nat → Option Code
  | .seq a b, i => if i < nloops a then nthLoop a i else nthLoop b (i - nloops a)
  | .cond _ a b, i => if i < nloops a then nthLoop a i else nthLoop b (i - nloops a)
  | .block _ b, i => nthLoop b i
  | .loop b, 0 => some b
  | .loop b, i + 1 => nthLoop b i
  | .scope b, i => nthLoop b i
  | .rangeFunc _ _ a b, i => if i < nloops a then nthLoop a i else nthLoop b (i - nloops a)
  | _, _ => none

/-! ### ways that meet again -/

/-- a road without branches: what it asks for, and where it ends -/
def lin {α : Type} : Tree α → Option (List Bool × α)
  | .leaf a => some ([], a)
  | .need c t => match lin t with
    | some (l, a) => some (c :: l, a)
    | none => none
  | _ => none

def needAll {α : Type} : List Bool → Tree α → Tree α
  | [], t => t
  | c :: l, t => .need c (needAll l t)

def needBoth (c : Bool) (l1 l2 : List Bool) : List Bool := l1.map (fun n => !c || n) ++ l2.map (fun n => c || n)

def isAny : CV → Bool
  | .any => true
  | _ => false

/-- is nothing forgotten? -/
def keptL : List CV → List CV → Bool
  | [], _ => true
  | _, [] => true
  | a :: l, m :: r => (!isAny m || isAny a) && keptL l r

def mergeCells (c : Bool) (cs ds : List CV) : Option (List CV) :=
  match cs, ds with
  | [.row fz es n ρ], [.row fz' es' m σ] => if fz == fz' && shEq.shsEq es es' then some [.row fz es (bif c then n else m) (pickV c ρ σ)] else none
  | _, _ => if isRowL cs || isRowL ds then none else match mergeCs c cs ds with
    | some m => if keptL cs m && keptL ds m then some m else none
    | none => none

def mergeE (c : Bool) : Option (TypeId × List CV) → Option (TypeId × List CV) → Option (Option (TypeId × List CV))
  | none, none => some none
  | some (T, cs), some (T', ds) => if T == T' then (match mergeCells c cs ds with
    | some m => some (some (T, m))
    | none => none) else none
  | _, _ => none

/-- blocks that one memory alone has are forgotten -/
def restM (K : Nat) : Nat → Mem → Option Mem
  | _, [] => some []
  | k, _ :: l => if Nat.blt k K then none else match restM K (k + 1) l with
    | some m => some (none :: m)
    | none => none

/-- two memories as one: the first K blocks are not forgotten -/
def mergeMem (c : Bool) (K : Nat) : Nat → Mem → Mem → Option Mem
  | k, [], r => restM K k r
  | k, a :: l, [] => restM K k (a :: l)
  | k, a :: l, b :: r => match mergeE c a b, mergeMem c K (k + 1) l r with
    | some e, some m => some (e :: m)
    | none, some m => if Nat.blt k K then none else some (none :: m)
    | _, none => none

def mergeSlot (c : Bool) (a b : Slot) : Slot :=
  match a.keys, b.keys with
  | [], [] => ⟨[], mergeA c a.v b.v⟩
  | _, _ => ⟨[], .any⟩

def mergeSlots (c : Bool) : List Slot → List Slot → Option (List Slot)
  | [], [] => some []
  | a :: l, b :: r => match mergeSlots c l r with
    | some m => some (mergeSlot c a b :: m)
    | none => none
  | _, _ => none

def mergeSt (c : Bool) (K : Nat) (a b : St) : Option St :=
  match mergeSlots c a.tmps b.tmps, mergeMem c K 0 a.mem b.mem with
  | some t, some m => some ⟨t, m⟩
  | _, _ => none

def joinC (j : Bool) (c : Bool) (K : Nat) (t e : Tree (XE × St)) : Tree (XE × St) :=
  if j then match lin t, lin e with
    | some (l1, (.normal, s1)), some (l2, (.normal, s2)) => match mergeSt c K s1 s2 with
      | some s => needAll (needBoth c l1 l2) (.leaf (.normal, s))
      | none => .br c t e
    | _, _ => .br c t e
  else .br c t e

def isAnyA : AV → Bool
  | .any => true
  | _ => false

def joinT (K : Nat) : Tree (AV × Mem) → Tree (AV × Mem)
  | .br c t e => match lin (joinT K t), lin (joinT K e) with
    | some (l1, (r1, m1)), some (l2, (r2, m2)) => match mergeMem c K 0 m1 m2 with
      | some m => if isAnyA (mergeA c r1 r2) then .br c (joinT K t) (joinT K e) else needAll (needBoth c l1 l2) (.leaf (mergeA c r1 r2, m))
      | none => .br c (joinT K t) (joinT K e)
    | _, _ => .br c (joinT K t) (joinT K e)
  | .need c t => .need c (joinT K t)
  | x => x

def frzA (mem : Mem) : AV → Mem × AV
  | .any => (mem, .any)
  | .one a => let y := frz1 mem a; (y.1, .one y.2)
  | .tup l => let y := frz1s mem l; (y.1, .tup y.2)

def closedAV : AV → Bool
  | .any => false
  | .one a => closedA a
  | .tup l => l.all closedA

/-- names nothing but the first K blocks -/
def underC (K : Nat) : CV → Bool
  | .ptr b _ => Nat.blt b K
  | .os b _ => Nat.blt b K
  | .rowp b _ _ _ => Nat.blt b K
  | .row _ _ _ _ => true
  | .yld b => Nat.blt b K
  | .lp _ _ _ => true
  | x => closedC x

def underE (K : Nat) : Option (TypeId × List CV) → Bool
  | none => true
  | some (_, cs) => cs.all (underC K)

/-- a result that is plain data: what the call has laid is its own affair -/
def closeR (K : Nat) (y : AV × Mem) : AV × Mem :=
  let z := frzA y.2 y.1
  match takeN z.1 K with
  | some m => if closedAV z.2 && m.all (underE K) then (z.2, m) else y
  | none => y

/-- a function's ways out are joined; or the two ways of a condition (keys among the summaries say so) -/
def joinF (H : Hd) (f : Nat) : Bool := (lookPc H.pc (4294967296 + f)).isSome
def joinI (H : Hd) (f : Nat) : Bool := (lookPc H.pc (8589934592 + f)).isSome

def joined (j : Bool) (K : Nat) (t : Tree (AV × Mem)) : Tree (AV × Mem) :=
  if j then joinT K (t.bind fun y => .leaf (closeR K y)) else t

def notDefer : Op → Bool
  | .defer _ => false
  | _ => true

def evCode (P : Program) (H : Hd) (call : CallH) (f K : Nat) : Nat → Code → St → Tree (XE × St)
  | _, .skip, s => .leaf (.normal, s)
  | _, .region _ ops draw, s => if !ops.toList.all (fun o => notDefer o.op) then .fail else if draw then
      (if P.follows .mixedOrders then (evDraw P H call ops.toList ops.toList { s with tmps := s.tmps.map unkey }).bind fun y =>
        if drawOk ops.toList y.2 then .leaf (.normal, { y.1 with tmps := y.1.tmps.map unkey }) else .fail
      else .fail)
    else (evOps P H call false ops.toList ops.toList s).bind fun s' => .leaf (.normal, { s' with tmps := s'.tmps.map unkey })
  | n, .seq a b, s => (evCode P H call f K n a s).bind fun x => match x.1 with
    | .normal => evCode P H call f K (n + nloops a) b x.2
    | e => .leaf (e, x.2)
  | n, .cond c a b, s => match opnd s [] c with
    | some (.one (.c (.bool t))) => joinC (joinI H f) t s.mem.length (evCode P H call f K n a s) (evCode P H call f K (n + nloops a) b s)
    | _ => .fail
  | n, .block id b, s => (evCode P H call f K n b s).bind fun x => match x.1 with
    | .exit k => .leaf (if k = id then .normal else .exit k, x.2)
    | e => .leaf (e, x.2)
  | n, .loop _, s => match lookLh H.lh f n with
    | some h => h K s
    | none => .fail
  | _, .exit id, s => .leaf (.exit id, s)
  | _, .ret, s => .leaf (.ret, s)
  | _, _, _ => .fail

def evResult (P : Program) (s : St) : ResultVar → Option A1
  | .tmp t => match nth s.tmps t with
    | some ⟨[], .one a⟩ => some a
    | _ => none
  | .cell a t => match nth s.tmps a with
    | some ⟨[], v⟩ => match evLoad P s.mem t v with
      | some (.one a) => some a
      | _ => none
    | _ => none

def evResults (P : Program) (s : St) : List ResultVar → Option (List A1)
  | [] => some []
  | x :: r => match evResult P s x, evResults P s r with
    | some a, some l => some (a :: l)
    | _, _ => none

def resOf : List A1 → AV
  | [a] => .one a
  | l => .tup l

/-! ### loops over functions -/

def slotC : CV → AV
  | .any => .any
  | x => .one (.c x)
def cellS : Slot → CV
  | ⟨[], .one (.c x)⟩ => x
  | _ => .any
def setArgs : List Tmp → List A1 → List Slot → List Slot
  | t :: ts, a :: as, l => setArgs ts as (setN l t ⟨[], .one a⟩)
  | _, _, l => l

def setSt (mem : Mem) (b : Nat) (st : LpS) : Option Mem :=
  match nth mem b with
  | some (some (T, .lp f i _ :: cs)) => some (setN mem b (some (T, .lp f i st :: cs)))
  | _ => none

/-- a record that waits for a round goes into it -/
def setBusy (mem : Mem) (b : Nat) : Option Mem :=
  match nth mem b with
  | some (some (T, .lp f i .ready :: cs)) => some (setN mem b (some (T, .lp f i .busy :: cs)))
  | _ => none

def roundEnd (b : Nat) (y : XE × St) : Tree (AV × Mem) :=
  match y.1 with
  | .normal => match setSt y.2.mem b .ready with
    | some m => .leaf (.one (.c (.bool true)), m)
    | none => .fail
  | .ret => match setSt y.2.mem b (.done none) with
    | some m => .leaf (.one (.c (.bool false)), m)
    | none => .fail
  | .exit e => match setSt y.2.mem b (.done (some e)) with
    | some m => .leaf (.one (.c (.bool false)), m)
    | none => .fail

/-- one round -/
def evRound (P : Program) (H : Hd) (call : CallH) (b : Nat) (args : List A1) (mem : Mem) : Tree (AV × Mem) :=
  match nth mem b with
  | some (some (_, .lp f i .ready :: cs)) => match rcOf P f i with
    | some rc => if args.length == rc.ps.size then
        (evCode P H call f mem.length rc.n rc.a ⟨setArgs rc.ps.toList args (cs.map fun c => ⟨[], slotC c⟩), mem⟩).bind fun x => match x.1 with
          | .normal => match setBusy x.2.mem b with
            | some m => (evCode P H call f mem.length (rc.n + nloops rc.a) rc.b ⟨x.2.tmps, m⟩).bind fun y => roundEnd b y
            | none => .fail
          | _ => .fail
      else .fail
    | none => .fail
  | _ => .fail

def noRange : Code → Bool
  | .seq a b => noRange a && noRange b
  | .cond _ a b => noRange a && noRange b
  | .block _ b => noRange b
  | .loop b => noRange b
  | .scope b => noRange b
  | .rangeFunc _ _ _ _ => false
  | _ => true

/-- behind a loop over a function -/
def rangeEnd (b0 : Nat) (tmps : List Slot) (mem : Mem) : Tree (XE × St) :=
  match nth mem b0 with
  | some (some (_, .lp _ _ .ready :: _)) => .leaf (.normal, ⟨tmps, setN mem b0 none⟩)
  | some (some (_, .lp _ _ (.done none) :: _)) => .leaf (.ret, ⟨tmps, setN mem b0 none⟩)
  | some (some (_, .lp _ _ (.done (some e)) :: _)) => .leaf (.exit e, ⟨tmps, setN mem b0 none⟩)
  | _ => .fail

/-- a function's code, loops over functions among it -/
def evCodeM (P : Program) (H : Hd) (call : CallH) (f K : Nat) : Nat → Nat → Code → St → Tree (XE × St)
  | n, m, .seq a b, s => if noRange (.seq a b) then evCode P H call f K n (.seq a b) s else
      (evCodeM P H call f K n m a s).bind fun x => match x.1 with
        | .normal => evCodeM P H call f K (n + nloops a) (m + nranges a) b x.2
        | e => .leaf (e, x.2)
  | n, m, .cond c a b, s => if noRange (.cond c a b) then evCode P H call f K n (.cond c a b) s else
      match opnd s [] c with
      | some (.one (.c (.bool t))) => .br t (evCodeM P H call f K n m a s) (evCodeM P H call f K (n + nloops a) (m + nranges a) b s)
      | _ => .fail
  | n, m, .block id b, s => if noRange (.block id b) then evCode P H call f K n (.block id b) s else
      (evCodeM P H call f K n m b s).bind fun x => match x.1 with
        | .exit k => .leaf (if k = id then .normal else .exit k, x.2)
        | e => .leaf (e, x.2)
  | _, m, .rangeFunc g _ _ _, s => match opnd s [] g with
    | some (.one (.c (.fn (.func gf) first cap))) => if callable P gf then
        (call gf (first.map .c ++ (.c (.yld s.mem.length) :: cap.map .c)) (s.mem ++ [some (0, .lp f m .ready :: s.tmps.map cellS)])).bind fun x => rangeEnd s.mem.length s.tmps x.2
      else .fail
    | _ => .fail
  | n, _, c, s => evCode P H call f K n c s

def evFn (P : Program) (H : Hd) : Nat → CallH
  | 0, _, _, _ => .fail
  | n + 1, f, args, mem => if Nat.ble 1000000000 f then evRound P H (evFn P H n) (f - 1000000000) args mem else match lookMc H.mc f with
   | some G => G args mem
   | none => match nth P.funcs.toList f with
    | some fn => match fn.body with
      | some c => if Nat.ble args.length fn.ntmps then
        joined (joinF H f) mem.length ((evCodeM P H (evFn P H n) f mem.length 0 0 c ⟨args.map (fun a => ⟨[], .one a⟩) ++ List.replicate (fn.ntmps - args.length) ⟨[], .any⟩, mem⟩).bind fun x => match x.1 with
          | .exit _ => .fail
          | _ => match evResults P x.2 fn.results.toList with
            | some l => .leaf (resOf l, x.2.mem)
            | none => .fail)
        else .fail
      | none => .fail
    | none => .fail

end Go.Sx
/-
  The evaluator's soundness (part B): what an abstract value says of a value, and the operations that touch no memory.
-/
namespace Go.Sx
open Go

inductive All2 {α β : Type} (R : α → β → Prop) : List α → List β → Prop
  | nil : All2 R [] []
  | cons {a b l r} : R a b → All2 R l r → All2 R (a :: l) (b :: r)

theorem All2.length {α β : Type} {R : α → β → Prop} {l : List α} {r : List β} (h : All2 R l r) : l.length = r.length := by
  induction h with
  | nil => rfl
  | cons _ _ ih => simp [ih]

theorem All2.imp {α β : Type} {R S : α → β → Prop} {l : List α} {r : List β} (h : All2 R l r) (hi : ∀ a b, R a b → S a b) : All2 S l r := by
  induction h with
  | nil => exact .nil
  | cons h _ ih => exact .cons (hi _ _ h) ih

theorem All2.append {α β : Type} {R : α → β → Prop} {l l' : List α} {r r' : List β} (h : All2 R l r) (h' : All2 R l' r') : All2 R (l ++ l') (r ++ r') := by
  induction h with
  | nil => exact h'
  | cons h _ ih => exact .cons h ih

theorem nth_eq {α : Type} (l : List α) (i : Nat) : nth l i = l[i]? := by
  induction l generalizing i with
  | nil => rfl
  | cons a l ih => cases i with
    | zero => rfl
    | succ n => simpa [nth] using ih n

theorem setN_eq {α : Type} (l : List α) (i : Nat) (b : α) : setN l i b = l.set i b := by
  induction l generalizing i with
  | nil => rfl
  | cons a l ih => cases i with
    | zero => rfl
    | succ n => simp [setN, ih]

theorem dropN_eq {α : Type} (l : List α) (n : Nat) : dropN l n = l.drop n := by
  induction n generalizing l with
  | zero => cases l <;> rfl
  | succ n ih => cases l with
    | nil => rfl
    | cons a l => simpa [dropN] using ih l

theorem takeN_some {α : Type} {l : List α} {n : Nat} {r : List α} (h : takeN l n = some r) : r = l.take n ∧ n ≤ l.length := by
  induction n generalizing l r with
  | zero => cases l <;> simp_all [takeN]
  | succ n ih => cases l with
    | nil => simp [takeN] at h
    | cons a l =>
      simp only [takeN] at h
      split at h
      · rename_i r' hr
        obtain ⟨h1, h2⟩ := ih hr
        simp at h; subst h; subst h1
        exact ⟨by simp, by simp; omega⟩
      · simp at h

theorem All2.nth {α β : Type} {R : α → β → Prop} {l : List α} {r : List β} (h : All2 R l r) {i : Nat} {a : α} (ha : nth l i = some a) : ∃ b, r[i]? = some b ∧ R a b := by
  induction h generalizing i with
  | nil => simp [Sx.nth] at ha
  | cons hab _ ih => cases i with
    | zero => simp [Sx.nth] at ha; subst ha; exact ⟨_, rfl, hab⟩
    | succ n => obtain ⟨b, hb, hr⟩ := ih (by simpa [Sx.nth] using ha); exact ⟨b, by simpa using hb, hr⟩

theorem All2.nth' {α β : Type} {R : α → β → Prop} {l : List α} {r : List β} (h : All2 R l r) {i : Nat} {b : β} (hb : r[i]? = some b) : ∃ a, Sx.nth l i = some a ∧ R a b := by
  induction h generalizing i with
  | nil => simp at hb
  | cons hab _ ih => cases i with
    | zero => simp at hb; subst hb; exact ⟨_, rfl, hab⟩
    | succ n => obtain ⟨a, ha, hr⟩ := ih (by simpa using hb); exact ⟨a, by simpa [Sx.nth] using ha, hr⟩

theorem All2.set {α β : Type} {R : α → β → Prop} {l : List α} {r : List β} (h : All2 R l r) (i : Nat) {a : α} {b : β} (hab : R a b) : All2 R (setN l i a) (r.set i b) := by
  induction h generalizing i with
  | nil => exact .nil
  | cons h h' ih => cases i with
    | zero => exact .cons hab h'
    | succ n => exact .cons h (ih n)

theorem All2.drop {α β : Type} {R : α → β → Prop} {l : List α} {r : List β} (h : All2 R l r) (n : Nat) : All2 R (l.drop n) (r.drop n) := by
  induction h generalizing n with
  | nil => simp; exact .nil
  | cons h h' ih => cases n with
    | zero => exact .cons h h'
    | succ n => exact ih n

theorem All2.take {α β : Type} {R : α → β → Prop} {l : List α} {r : List β} (h : All2 R l r) (n : Nat) : All2 R (l.take n) (r.take n) := by
  induction h generalizing n with
  | nil => simp; exact .nil
  | cons h h' ih => cases n with
    | zero => simp; exact .nil
    | succ n => exact .cons h (ih n)

theorem All2.of_nth {α β : Type} {R : α → β → Prop} : ∀ {l : List α} {r : List β}, l.length = r.length → (∀ i a b, Sx.nth l i = some a → Sx.nth r i = some b → R a b) → All2 R l r
  | [], [], _, _ => .nil
  | [], _ :: _, h, _ => by simp at h
  | _ :: _, [], h, _ => by simp at h
  | a :: l, b :: r, h, H => .cons (H 0 a b rfl rfl) (All2.of_nth (by simpa using h) fun i x y hx hy => H (i + 1) x y hx hy)

/-- what is known of a block of the call's own: where it lies; of a row: how many elements it has, and room for how many -/
structure BI where
  p : Nat
  n : Nat
  cap : Nat

/-- What an abstract cell says of a value. 'F': the blocks that a slice that is only read may not lie in; the list: the blocks of the call's own, by their numbers. -/
inductive CV.Rel (F : Nat → Prop) (w : World) : List BI → CV → Value → Prop
  | any {bs v} (h : v.oneCell' = true) : CV.Rel F w bs .any v
  | bool {bs} (b) : CV.Rel F w bs (.bool b) (.bool b)
  | int {bs} (k n) : CV.Rel F w bs (.int k n) (.int k n)
  | str {bs} (s) : CV.Rel F w bs (.str s) (.string s)
  | nilp {bs} : CV.Rel F w bs .nilp (.pointer none)
  | nils {bs} : CV.Rel F w bs .nils (.slice none 0 0)
  | nilf {bs} : CV.Rel F w bs .nilf .nilFunc
  | nili {bs} : CV.Rel F w bs .nili .nilIface
  | ptr {bs b o x} (h : nth bs b = some x) : CV.Rel F w bs (.ptr b o) (.pointer (some ⟨x.p, o, none⟩))
  | os {bs b sz x base} (h : nth bs b = some x) (hb : 0 < x.cap → base = some ⟨x.p, 0, none⟩) : CV.Rel F w bs (.os b sz) (.slice base x.n x.cap)
  | ost {bs b sz lo x} (h : nth bs b = some x) (hl : lo < x.n) : CV.Rel F w bs (.ost b sz lo) (.slice (some ⟨x.p, lo * sz, none⟩) (x.n - lo) (x.cap - lo))
  | osh {bs b sz m x base} (h : nth bs b = some x) (hl : m ≤ x.n) (hb : 0 < x.cap → base = some ⟨x.p, 0, none⟩) : CV.Rel F w bs (.osh b sz m) (.slice base m x.cap)
  | rowp {bs b sz i off x} (h : nth bs b = some x) (hi : i < x.n) : CV.Rel F w bs (.rowp b sz i off) (.pointer (some ⟨x.p, i * sz + off, none⟩))
  | rop {bs es off ρ p o} (val : Nat → Value) (hb : p < w.heap.size) (hF : ¬ F p) (hc : ∀ j, j < es.length → w.cell? ⟨p, o + j, none⟩ = some (val j))
      (hr : ∀ j s, nth es j = some s → CV.Rel F w [] (cellOf s (ρ.at j)) (val j)) : CV.Rel F w bs (.rop es off ρ) (.pointer (some ⟨p, o + off, none⟩))
  | slnil {bs es ρ} : CV.Rel F w bs (.sl es 0 ρ) (.slice none 0 0)
  | sl {bs es n ρ cap} {a : Addr} (val : Nat → Nat → Value) (hn : n ≤ cap) (h0 : 0 < n → a.spot = none ∧ a.block < w.heap.size ∧ ¬ F a.block)
      (hc : ∀ i f, i < n → f < es.length → w.cell? ⟨a.block, a.off + (i * es.length + f), none⟩ = some (val i f))
      (hr : ∀ i f s, i < n → nth es f = some s → CV.Rel F w [] (cellOf s ((ρ.at i).at f)) (val i f)) : CV.Rel F w bs (.sl es n ρ) (.slice (some a) n cap)
  | fn {bs f first cap} {vf vc : List Value} (l1 : first.length = vf.length) (l2 : cap.length = vc.length)
      (r1 : ∀ i x v, nth first i = some x → nth vf i = some v → CV.Rel F w bs x v)
      (r2 : ∀ i x v, nth cap i = some x → nth vc i = some v → CV.Rel F w bs x v) : CV.Rel F w bs (.fn f first cap) (.func f vf.toArray vc.toArray)
  | iface {bs t x v} (h : CV.Rel F w bs x v) : CV.Rel F w bs (.iface t x) (.iface t v)
  | yld {bs b x} (h : nth bs b = some x) : CV.Rel F w bs (.yld b) (.func (.yield x.p) #[] #[])

theorem CV.Rel.one {F w bs x v} (h : CV.Rel F w bs x v) : v.oneCell' = true := by
  cases h <;> first | rfl | assumption

theorem CV.Rel.mono {F F' : Nat → Prop} {w w' : World} (hs : w.heap.size ≤ w'.heap.size) (hF : ∀ p, p < w.heap.size → F' p → F p)
    (hsame : ∀ p, p < w.heap.size → ¬ F p → w'.heap[p]? = w.heap[p]?) {bs : List BI} {x : CV} {v : Value} (h : CV.Rel F w bs x v) :
    ∀ {bs' : List BI}, (∀ k p, nth bs k = some p → nth bs' k = some p) → CV.Rel F' w' bs' x v := by
  have hcell : ∀ p o, p < w.heap.size → ¬ F p → w'.cell? ⟨p, o, none⟩ = w.cell? ⟨p, o, none⟩ := fun p o h1 h2 => World.cell?_of_block (hsame p h1 h2)
  induction h with
  | any h => intro _ _; exact .any h
  | bool b => intro _ _; exact .bool b
  | int k n => intro _ _; exact .int k n
  | str s => intro _ _; exact .str s
  | nilp => intro _ _; exact .nilp
  | nils => intro _ _; exact .nils
  | nilf => intro _ _; exact .nilf
  | nili => intro _ _; exact .nili
  | ptr h => intro _ hb; exact .ptr (hb _ _ h)
  | os h h0 => intro _ hb; exact .os (hb _ _ h) h0
  | ost h hl => intro _ hb; exact .ost (hb _ _ h) hl
  | osh h hl h0 => intro _ hb; exact .osh (hb _ _ h) hl h0
  | rowp h hi => intro _ hb; exact .rowp (hb _ _ h) hi
  | rop val hb hF' hc _ ih =>
    intro _ _
    exact .rop val (by omega) (fun h => hF' (hF _ hb h)) (fun j hj => by rw [hcell _ _ hb hF']; exact hc j hj) (fun j s hj => ih j s hj (fun _ _ h => h))
  | slnil => intro _ _; exact .slnil
  | sl val hn h0 hc _ ih =>
    intro _ _
    exact .sl val hn (fun hp => ⟨(h0 hp).1, Nat.lt_of_lt_of_le (h0 hp).2.1 hs, fun h => (h0 hp).2.2 (hF _ (h0 hp).2.1 h)⟩) (fun i f hi hf => by rw [hcell _ _ (h0 (by omega)).2.1 (h0 (by omega)).2.2]; exact hc i f hi hf) (fun i f s hi hf => ih i f s hi hf (fun _ _ h => h))
  | fn l1 l2 _ _ ih1 ih2 => intro _ hb; exact .fn l1 l2 (fun i x v h1 h2 => ih1 i x v h1 h2 hb) (fun i x v h1 h2 => ih2 i x v h1 h2 hb)
  | iface _ ih => intro _ hb; exact .iface (ih hb)
  | yld h => intro _ hb; exact .yld (hb _ _ h)

def A1.Rel (F : Nat → Prop) (w : World) (bs : List BI) : A1 → Value → Prop
  | .c x, v => x.Rel F w bs v
  | .agg l, v => ∃ vs : List Value, v = .agg vs.toArray ∧ All2 (CV.Rel F w bs) l vs

def AV.Rel (F : Nat → Prop) (w : World) (bs : List BI) : AV → Value → Prop
  | .any, _ => True
  | .one a, v => a.Rel F w bs v
  | .tup l, v => ∃ vs : List Value, v = .tuple vs.toArray ∧ All2 (A1.Rel F w bs) l vs

structure Grow (F F' : Nat → Prop) (bs bs' : List BI) (w w' : World) : Prop where
  size : w.heap.size ≤ w'.heap.size
  F1 : ∀ p, p < w.heap.size → F' p → F p
  same : ∀ p, p < w.heap.size → ¬ F p → w'.heap[p]? = w.heap[p]?
  bs : ∀ k p, nth bs k = some p → nth bs' k = some p

theorem CV.Rel.grow {F F' bs bs' w w' x v} (g : Grow F F' bs bs' w w') (h : CV.Rel F w bs x v) : CV.Rel F' w' bs' x v := h.mono g.size g.F1 g.same g.bs
theorem A1.Rel.grow {F F' bs bs' w w' x v} (g : Grow F F' bs bs' w w') (h : A1.Rel F w bs x v) : A1.Rel F' w' bs' x v := by
  cases x with
  | c x => exact CV.Rel.grow g h
  | agg l => obtain ⟨vs, rfl, h⟩ := h; exact ⟨vs, rfl, h.imp fun _ _ h => h.grow g⟩
theorem AV.Rel.grow {F F' bs bs' w w' x v} (g : Grow F F' bs bs' w w') (h : AV.Rel F w bs x v) : AV.Rel F' w' bs' x v := by
  cases x with
  | any => trivial
  | one x => exact A1.Rel.grow g h
  | tup l => obtain ⟨vs, rfl, h⟩ := h; exact ⟨vs, rfl, h.imp fun _ _ h => A1.Rel.grow g h⟩

/-- closed values hold whatever the call's own blocks are -/
theorem CV.Rel.closed {F w bs x v} (h : CV.Rel F w bs x v) : ∀ {bs'}, closedC x = true → CV.Rel F w bs' x v := by
  have hcs : ∀ l : List CV, closedC.closedCs l = true → ∀ i x, nth l i = some x → closedC x = true := by
    intro l
    induction l with
    | nil => intro _ i x h; simp [nth] at h
    | cons a l ih =>
      intro h i x hx
      simp only [closedC.closedCs, Bool.and_eq_true] at h
      cases i with
      | zero => simp [nth] at hx; subst hx; exact h.1
      | succ n => exact ih h.2 n x (by simpa [nth] using hx)
  induction h with
  | any h => intro _ _; exact .any h
  | bool b => intro _ _; exact .bool b
  | int k n => intro _ _; exact .int k n
  | str s => intro _ _; exact .str s
  | nilp => intro _ _; exact .nilp
  | nils => intro _ _; exact .nils
  | nilf => intro _ _; exact .nilf
  | nili => intro _ _; exact .nili
  | ptr h => intro _ hc; simp [closedC] at hc
  | os h _ => intro _ hc; simp [closedC] at hc
  | ost h _ => intro _ hc; simp [closedC] at hc
  | osh h _ _ => intro _ hc; simp [closedC] at hc
  | rowp h _ => intro _ hc; simp [closedC] at hc
  | rop val hb hF' hc hr _ => intro _ _; exact .rop val hb hF' hc hr
  | slnil => intro _ _; exact .slnil
  | sl val hn h0 hc hr _ => intro _ _; exact .sl val hn h0 hc hr
  | fn l1 l2 _ _ ih1 ih2 =>
    intro _ hc
    simp only [closedC, Bool.and_eq_true] at hc
    exact .fn l1 l2 (fun i x v h1 h2 => ih1 i x v h1 h2 (hcs _ hc.1 i x h1)) (fun i x v h1 h2 => ih2 i x v h1 h2 (hcs _ hc.2 i x h1))
  | iface _ ih => intro _ hc; exact .iface (ih (by simpa [closedC] using hc))
  | yld _ => intro _ hc; simp [closedC] at hc

theorem A1.Rel.closed {F w bs x v} (h : A1.Rel F w bs x v) {bs'} (hc : closedA x = true) : A1.Rel F w bs' x v := by
  cases x with
  | c x => exact CV.Rel.closed h hc
  | agg l =>
    obtain ⟨vs, rfl, h⟩ := h
    refine ⟨vs, rfl, ?_⟩
    simp only [closedA, List.all_eq_true] at hc
    induction h with
    | nil => exact .nil
    | cons h _ ih => exact .cons (h.closed (hc _ (by simp))) (ih fun x hx => hc x (by simp [hx]))

end Go.Sx
/-
  The evaluator's soundness (part C): the operations that touch no memory.
-/
namespace Go.Sx
open Go

section
variable {P : Program} {F : Nat → Prop} {w : World} {bs : List BI}

theorem liftCell_ok {v : Value} {c : CV} (h : liftCell v = some c) : c.Rel F w bs v := by
  unfold liftCell at h
  split at h <;> simp at h <;> subst h <;> constructor

theorem liftCells_ok : ∀ {l : List Value} {cs : List CV}, liftCells l = some cs → All2 (CV.Rel F w bs) cs l
  | [], cs, h => by simp [liftCells] at h; subst h; exact .nil
  | v :: l, cs, h => by
    simp only [liftCells] at h
    split at h
    · rename_i c r hc hr
      simp at h; subst h
      exact .cons (liftCell_ok hc) (liftCells_ok hr)
    · simp at h

theorem liftV_ok {v : Value} {x : AV} (h : liftV v = some x) : x.Rel F w bs v := by
  unfold liftV at h
  split at h <;> simp at h <;> subst h <;> simp only [AV.Rel, A1.Rel] <;> constructor

mutual
theorem shEq_eq : ∀ {a b : Sh}, shEq a b = true → a = b
  | .bool, .bool, _ => rfl
  | .int k, .int k', h => by simp [shEq] at h; rw [h]
  | .str, .str, _ => rfl
  | .sl a, .sl b, h => by simp only [shEq] at h; rw [shsEq_eq h]
  | .bool, .int _, h => by simp [shEq] at h
  | .bool, .str, h => by simp [shEq] at h
  | .bool, .sl _, h => by simp [shEq] at h
  | .int _, .bool, h => by simp [shEq] at h
  | .int _, .str, h => by simp [shEq] at h
  | .int _, .sl _, h => by simp [shEq] at h
  | .str, .bool, h => by simp [shEq] at h
  | .str, .int _, h => by simp [shEq] at h
  | .str, .sl _, h => by simp [shEq] at h
  | .sl _, .bool, h => by simp [shEq] at h
  | .sl _, .int _, h => by simp [shEq] at h
  | .sl _, .str, h => by simp [shEq] at h
theorem shsEq_eq : ∀ {a b : List Sh}, shEq.shsEq a b = true → a = b
  | [], [], _ => rfl
  | a :: l, b :: r, h => by
    simp only [shEq.shsEq, Bool.and_eq_true] at h
    rw [shEq_eq h.1, shsEq_eq h.2]
  | [], _ :: _, h => by simp [shEq.shsEq] at h
  | _ :: _, [], h => by simp [shEq.shsEq] at h
end

theorem mergeC_ok {c : Bool} {a b : CV} {v : Value} (ha : c = true → a.Rel F w bs v) (hb : c = false → b.Rel F w bs v) : (mergeC c a b).Rel F w bs v := by
  cases c
  · have h := hb rfl
    unfold mergeC
    split
    · exact h
    · split
      · rename_i he; subst he; exact h
      · exact .any h.one
    · exact h
    · exact h
    · exact h
    · exact h
    · exact h
    · split
      · rename_i he
        simp only [Bool.and_eq_true, beq_iff_eq] at he
        rw [he.1, he.2]; exact h
      · exact .any h.one
    · split
      · rename_i he
        simp only [Bool.and_eq_true, beq_iff_eq] at he
        rw [he.1, he.2]; exact h
      · exact .any h.one
    · split
      · rename_i he
        rw [shsEq_eq he]; exact h
      · exact .any h.one
    · cases h; exact .slnil
    · exact h
    · exact .any h.one
  · have h := ha rfl
    unfold mergeC
    split
    · exact h
    · split
      · exact h
      · exact .any h.one
    · exact h
    · exact h
    · exact h
    · exact h
    · exact h
    · split
      · exact h
      · exact .any h.one
    · split
      · exact h
      · exact .any h.one
    · split
      · exact h
      · exact .any h.one
    · exact h
    · cases h; exact .slnil
    · exact .any h.one

theorem mergeCs_ok {c : Bool} : ∀ {a b m : List CV} {vs : List Value}, mergeCs c a b = some m → (c = true → All2 (CV.Rel F w bs) a vs) → (c = false → All2 (CV.Rel F w bs) b vs) → All2 (CV.Rel F w bs) m vs
  | [], [], m, vs, h, ha, hb => by
    simp [mergeCs] at h; subst h
    cases c
    · exact hb rfl
    · exact ha rfl
  | x :: a, y :: b, m, vs, h, ha, hb => by
    simp only [mergeCs] at h
    split at h
    · rename_i m' hm
      simp at h; subst h
      cases vs with
      | nil =>
        cases c
        · have := hb rfl; cases this
        · have := ha rfl; cases this
      | cons v vs =>
        refine .cons (mergeC_ok (fun h => by have := ha h; cases this; assumption) (fun h => by have := hb h; cases this; assumption)) ?_
        exact mergeCs_ok hm (fun h => by have := ha h; cases this; assumption) (fun h => by have := hb h; cases this; assumption)
    · simp at h
  | [], _ :: _, _, _, h, _, _ => by simp [mergeCs] at h
  | _ :: _, [], _, _, h, _, _ => by simp [mergeCs] at h

theorem merge1_ok {c : Bool} {a b m : A1} {v : Value} (h : merge1 c a b = some m) (ha : c = true → a.Rel F w bs v) (hb : c = false → b.Rel F w bs v) : m.Rel F w bs v := by
  unfold merge1 at h
  split at h
  · simp at h; subst h
    exact mergeC_ok ha hb
  · split at h
    · rename_i m' hm
      simp at h; subst h
      cases c
      · obtain ⟨vs, rfl, h⟩ := hb rfl
        exact ⟨vs, rfl, mergeCs_ok hm (fun h => by cases h) (fun _ => h)⟩
      · obtain ⟨vs, rfl, h⟩ := ha rfl
        exact ⟨vs, rfl, mergeCs_ok hm (fun _ => h) (fun h => by cases h)⟩
    · simp at h
  · simp at h

theorem merge1s_ok {c : Bool} : ∀ {a b m : List A1} {vs : List Value}, merge1s c a b = some m → (c = true → All2 (A1.Rel F w bs) a vs) → (c = false → All2 (A1.Rel F w bs) b vs) → All2 (A1.Rel F w bs) m vs
  | [], [], m, vs, h, ha, hb => by
    simp [merge1s] at h; subst h
    cases c
    · exact hb rfl
    · exact ha rfl
  | x :: a, y :: b, m, vs, h, ha, hb => by
    simp only [merge1s] at h
    split at h
    · rename_i x' m' hx hm
      simp at h; subst h
      cases vs with
      | nil =>
        cases c
        · have := hb rfl; cases this
        · have := ha rfl; cases this
      | cons v vs =>
        refine .cons (merge1_ok hx (fun h => by have := ha h; cases this; assumption) (fun h => by have := hb h; cases this; assumption)) ?_
        exact merge1s_ok hm (fun h => by have := ha h; cases this; assumption) (fun h => by have := hb h; cases this; assumption)
    · simp at h
  | [], _ :: _, _, _, h, _, _ => by simp [merge1s] at h
  | _ :: _, [], _, _, h, _, _ => by simp [merge1s] at h

theorem mergeA_ok {c : Bool} {a b : AV} {v : Value} (ha : c = true → a.Rel F w bs v) (hb : c = false → b.Rel F w bs v) : (mergeA c a b).Rel F w bs v := by
  unfold mergeA
  split
  · rename_i a b
    split
    · rename_i m hm
      cases c
      · obtain ⟨vs, rfl, h⟩ := hb rfl
        exact ⟨vs, rfl, merge1s_ok hm (fun h => by cases h) (fun _ => h)⟩
      · obtain ⟨vs, rfl, h⟩ := ha rfl
        exact ⟨vs, rfl, merge1s_ok hm (fun _ => h) (fun h => by cases h)⟩
    · trivial
  · exact mergeC_ok ha hb
  · rename_i a b
    split
    · rename_i m hm
      cases c
      · obtain ⟨vs, rfl, h⟩ := hb rfl
        exact ⟨vs, rfl, mergeCs_ok hm (fun h => by cases h) (fun _ => h)⟩
      · obtain ⟨vs, rfl, h⟩ := ha rfl
        exact ⟨vs, rfl, mergeCs_ok hm (fun _ => h) (fun h => by cases h)⟩
    · trivial
  · trivial

theorem cell_one {x : CV} {v : Value} (h : x.Rel F w bs v) : v.cells = #[v] := by
  have := h.one
  cases v <;> first | rfl | simp [Value.oneCell'] at this

theorem A1.Rel.cells {a : A1} {v : Value} (h : a.Rel F w bs v) : All2 (CV.Rel F w bs) a.cells v.cells.toList := by
  cases a with
  | c x => rw [cell_one h]; exact .cons h .nil
  | agg l => obtain ⟨vs, rfl, h⟩ := h; exact h

theorem isAggT_ok {t : TypeId} {b : Bool} (h : isAggT P t = some b) (w : World) : (isAgg t).run P w = .ok b w := by
  unfold isAggT at h
  unfold isAgg
  split at h
  · rename_i hu; simp at h; subst h; simp [run_underlying hu]
  · rename_i hu; simp at h; subst h; simp [run_underlying hu]
  · rename_i d h1 h2 hu
    simp at h; subst h
    rw [Sem.run_bind, run_underlying hu]
    simp only [Result.andThen_ok]
    cases d <;> first | rfl | exact (h1 _ rfl).elim | exact (h2 _ _ rfl).elim
  · simp at h

theorem run_sizeOf' {t : TypeId} {i : TypeInfo} (h : P.info? t = some i) (w : World) : (sizeOf t).run P w = .ok i.size w := by
  simp [sizeOf, typeInfo, h]

theorem info_of_underlying {t : TypeId} {d : TypeDesc} (h : P.underlying t = some d) : ∃ i, P.info? t = some i := by
  unfold Program.underlying at h
  split at h <;> simp_all

theorem info_of_isAggT {t : TypeId} {b : Bool} (h : isAggT P t = some b) : ∃ i, P.info? t = some i := by
  unfold isAggT at h
  split at h <;> first | (rename_i hu; exact info_of_underlying hu) | simp at h

theorem cellsOf_eq {t : TypeId} {i : TypeInfo} (h : P.info? t = some i) : P.cellsOf t = i.size := by simp [Program.cellsOf, h]

theorem partOf_ok {t : TypeId} {cs : List CV} {off : Nat} {a : A1} {vs : List Value} (h : partOf P t cs off = some a) (hr : All2 (CV.Rel F w bs) cs vs) :
    ∃ v, a.Rel F w bs v ∧ ∀ w', (part t vs.toArray off).run P w' = .ok v w' := by
  unfold partOf at h
  split at h
  · rename_i hi
    split at h
    · rename_i l hl
      simp at h; subst h
      rw [dropN_eq] at hl
      obtain ⟨hl, hlen⟩ := takeN_some hl
      obtain ⟨j, hj⟩ := info_of_isAggT hi
      rw [cellsOf_eq hj] at hl hlen
      refine ⟨.agg ((vs.drop off).take j.size).toArray, ⟨_, rfl, by rw [hl]; exact (hr.drop off).take _⟩, fun w' => ?_⟩
      unfold part
      simp only [Sem.run_bind, isAggT_ok hi, Result.andThen_ok, if_true, run_sizeOf' hj, Sem.run_pure]
      congr 2
      apply Array.ext'
      simp [List.take_drop]
    · simp at h
  · rename_i hi
    split at h
    · rename_i x hx
      simp at h; subst h
      obtain ⟨v, hv, hrel⟩ := hr.nth hx
      refine ⟨v, hrel, fun w' => ?_⟩
      unfold part
      simp only [Sem.run_bind, isAggT_ok hi, Result.andThen_ok]
      simp [hv]
    · simp at h
  · simp at h

theorem putCells_ok : ∀ {news : List CV} {cs : List CV} {o : Nat} {vs nv : List Value}, All2 (CV.Rel F w bs) cs vs → All2 (CV.Rel F w bs) news nv →
    All2 (CV.Rel F w bs) (putCells cs o news) ((nv.zipIdx o).foldl (fun l (c, j) => l.set j c) vs)
  | [], cs, o, vs, nv, h, hn => by cases hn; exact h
  | x :: r, cs, o, vs, nv, h, hn => by
    cases hn with
    | cons hx hr =>
      simp only [putCells, List.zipIdx_cons, List.foldl_cons]
      exact putCells_ok (h.set o hx) hr

theorem fill_ok {places places' : Nat → Option (Nat × Nat)} (hpl : ∀ i p, places i = some p → places' i = some p) : ∀ {parts : List (Nat × A1)} {pv : List (Nat × Value)} {cs r : List CV} {vs : List Value}, evFill places cs parts = some r → All2 (CV.Rel F w bs) cs vs →
    All2 (fun x y => x.1 = y.1 ∧ A1.Rel F w bs x.2 y.2) parts pv → ∃ rv : List Value, All2 (CV.Rel F w bs) r rv ∧ Instr.fill places' vs.toArray pv = some rv.toArray
  | [], pv, cs, r, vs, h, hc, hp => by
    cases hp
    simp [evFill] at h; subst h
    exact ⟨vs, hc, rfl⟩
  | (i, a) :: parts, pv, cs, r, vs, h, hc, hp => by
    cases hp with
    | cons h1 h2 =>
      rename_i y pv
      obtain ⟨i', v⟩ := y
      obtain ⟨rfl, ha⟩ := h1
      simp only [evFill] at h
      split at h
      · simp at h
      · rename_i off size hpi
        split at h
        · rename_i hcond
          simp only [Bool.and_eq_true, beq_iff_eq, Nat.ble_eq] at hcond
          obtain ⟨hl, hb⟩ := hcond
          have hcl := ha.cells
          have hlen := hcl.length
          have hlen2 := hc.length
          obtain ⟨rv, hrv, hf⟩ := fill_ok hpl (vs := ((v.cells.toList.zipIdx off).foldl (fun l (c, j) => l.set j c) vs)) h (putCells_ok hc hcl) h2
          refine ⟨rv, hrv, ?_⟩
          simp only [Instr.fill, hpl _ _ hpi]
          rw [if_neg ?_]
          · rw [← hf]
            congr 1
            rw [← Array.foldl_toList, Array.toList_zipIdx]
            have key : ∀ (l : List Value) (k : Nat) (vs : List Value), (l.zipIdx k).foldl (fun cs (x : Value × Nat) => cs.setIfInBounds (off + x.2) x.1) vs.toArray = ((l.zipIdx (off + k)).foldl (fun l (x : Value × Nat) => l.set x.2 x.1) vs).toArray := by
              intro l
              induction l with
              | nil => intro k vs; rfl
              | cons a l ih =>
                intro k vs
                simp only [List.zipIdx_cons, List.foldl_cons, List.setIfInBounds_toArray]
                exact ih (k + 1) _
            exact key v.cells.toList 0 vs
          · simp only [Array.length_toList] at hlen
            simp [← hlen, hl, ← hlen2]
            omega
        · simp at h

theorem evParts_ok {ρ : Operand → Option AV} {ρc : Operand → Value} (hρ : ∀ x av, ρ x = some av → av.Rel F w bs (ρc x)) : ∀ {parts : List (Nat × Operand)} {l : List (Nat × A1)}, evParts ρ parts = some l →
    All2 (fun x y => x.1 = y.1 ∧ A1.Rel F w bs x.2 y.2) l (parts.map fun (i, x) => (i, ρc x))
  | [], l, h => by simp [evParts] at h; subst h; exact .nil
  | (i, x) :: r, l, h => by
    simp only [evParts] at h
    split at h
    · rename_i a l' ha hl
      simp at h; subst h
      exact .cons ⟨rfl, hρ _ _ ha⟩ (evParts_ok hρ hl)
    · simp at h

theorem zeroCellsOf_ok {t : TypeId} {z : List CV} (h : zeroCellsOf P t = some z) : ∃ v : Value, (∀ w', (zeroValue t).run P w' = .ok v w') ∧ All2 (CV.Rel F w bs) z v.cells.toList := by
  unfold zeroCellsOf at h
  split at h
  · rename_i i hi
    split at h
    · rename_i v hv
      exact ⟨v, fun w' => by simp [zeroValue, typeInfo, hi, hv], liftCells_ok h⟩
    · simp at h
  · simp at h

theorem run_mapM_list {α β : Type} (f : α → Sem β) (g : α → β) (w' : World) : ∀ (l : List α), (∀ x ∈ l, (f x).run P w' = .ok (g x) w') → (l.mapM f).run P w' = .ok (l.map g) w'
  | [], _ => by simp
  | x :: l, h => by
    have ih := run_mapM_list f g w' l (fun y hy => h y (by simp [hy]))
    simp [List.mapM_cons, h x (by simp), ih]

theorem run_mapM {α β : Type} (f : α → Sem β) (g : α → β) (w' : World) (l : Array α) (h : ∀ x ∈ l.toList, (f x).run P w' = .ok (g x) w') : (l.mapM f).run P w' = .ok (l.map g) w' := by
  rw [Array.mapM_eq_mapM_toList]
  simp only [Sem.run_map, run_mapM_list f g w' l.toList h, Result.andThen_ok]
  congr 1
  apply Array.ext'
  simp

theorem evBuild_ok {t : TypeId} {parts : List (Nat × A1)} {pv : Array (Nat × Value)} {x : AV} (h : evBuild P t parts = some x)
    (hp : All2 (fun x y => x.1 = y.1 ∧ A1.Rel F w bs x.2 y.2) parts pv.toList) : ∃ v, x.Rel F w bs v ∧ ∀ w', (Instr.build t pv).run P w' = .ok v w' := by
  unfold evBuild at h
  split at h
  · rename_i z fs hz hu
    split at h
    · rename_i cs hf
      split at h
      · rename_i hall
        simp at h; subst h
        obtain ⟨zv, hzr, hzc⟩ := zeroCellsOf_ok (F := F) (w := w) (bs := bs) hz
        let g : Field → Nat × Nat := fun f => (f.offset, match P.info? f.type with | some j => j.size | none => 0)
        have hplaces : ∀ i p, (match nth fs.toList i with | some f => (match P.info? f.type with | some j => some (f.offset, j.size) | none => none) | none => none) = some p → ((fs.map g)[i]?) = some p := by
          intro i p hp
          split at hp
          · rename_i f hfi
            split at hp
            · rename_i j hj
              simp at hp; subst hp
              rw [nth_eq] at hfi
              simp only [Array.getElem?_toList] at hfi
              simp [hfi, g, hj]
            · simp at hp
          · simp at hp
        obtain ⟨rv, hrv, hfill⟩ := fill_ok (places' := fun i => (fs.map g)[i]?) hplaces hf hzc hp
        refine ⟨.agg rv.toArray, ⟨rv, rfl, hrv⟩, fun w' => ?_⟩
        have hmap : (fs.mapM fun f => (do pure (f.offset, ← sizeOf f.type) : Sem (Nat × Nat))).run P w' = .ok (fs.map g) w' := by
          refine run_mapM _ g w' fs fun f hf => ?_
          have := List.all_eq_true.1 hall f hf
          obtain ⟨j, hj⟩ := Option.isSome_iff_exists.1 this
          simp [run_sizeOf' hj, g, hj]
        unfold Instr.build
        simp only [Array.toArray_toList] at hfill
        simp only [Sem.run_bind, hzr, Result.andThen_ok, run_underlying hu, hmap]
        rw [hfill]
        rfl
      · simp at h
    · simp at h
  · rename_i z n e hz hu
    split at h
    · rename_i j hj
      split at h
      · rename_i cs hf
        simp at h; subst h
        obtain ⟨zv, hzr, hzc⟩ := zeroCellsOf_ok (F := F) (w := w) (bs := bs) hz
        obtain ⟨rv, hrv, hfill⟩ := fill_ok (places' := fun i => some (i * j.size, j.size)) (fun i p h => h) hf hzc hp
        refine ⟨.agg rv.toArray, ⟨rv, rfl, hrv⟩, fun w' => ?_⟩
        unfold Instr.build
        simp only [Sem.run_bind, hzr, Result.andThen_ok, run_underlying hu, run_sizeOf' hj]
        simp only [Array.toArray_toList] at hfill
        simp [hfill]
      · simp at h
    · simp at h
  · simp at h

theorem part_plain {f : Field} (hp : plainField P f = true) {cs : List CV} {vs : List Value} (hr : All2 (CV.Rel F w bs) cs vs) {x : CV} (hx : nth cs f.offset = some x) :
    ∃ v, x.Rel F w bs v ∧ ∀ w', (part f.type vs.toArray f.offset).run P w' = .ok v w' := by
  have hi : isAggT P f.type = some false := by
    unfold plainField at hp
    unfold isAggT
    simp only [Bool.and_eq_true] at hp
    split at hp
    · rename_i hu; simp [hu]
    · rename_i k hu; simp [hu]
    · rename_i hu; simp [hu]
    · simp at hp
  exact partOf_ok (a := .c x) (by unfold partOf; rw [hi]; simp [hx]) hr

theorem eqFields_ok (d : Nat) {xs ys : List CV} {vx vy : List Value} (hx : All2 (CV.Rel F w bs) xs vx) (hy : All2 (CV.Rel F w bs) ys vy) (w' : World) :
    ∀ {fs : List Field} {e : Bool}, eqFields P xs ys fs = some e → (Op.eqFields (d + 1) vx.toArray vy.toArray fs).run P w' = .ok e w'
  | [], e, h => by simp [eqFields] at h; subst h; simp [Op.eqFields]
  | f :: r, e, h => by
    simp only [eqFields] at h
    split at h
    · rename_i hpl
      split at h
      · rename_i a b ha hb
        obtain ⟨va, hra, hpa⟩ := part_plain hpl hx ha
        obtain ⟨vb, hrb, hpb⟩ := part_plain hpl hy hb
        have hname : f.name ≠ "_" := by
          unfold plainField at hpl
          simp only [Bool.and_eq_true, bne_iff_ne] at hpl
          exact hpl.1.1
        simp only [Op.eqFields, if_pos hname, Sem.run_bind, hpa, hpb, Result.andThen_ok]
        split at h
        · rename_i p q e' hu he
          simp at h; subst h
          cases hra; cases hrb
          rw [run_equalIn_bool' w' d f.type p q hu]
          simp only [Result.andThen_ok]
          cases hpq : (p == q)
          · simp
          · simp [eqFields_ok d hx hy w' he]
        · rename_i k0 k p k' q e' hu he
          split at h
          · rename_i hk
            subst hk
            simp at h; subst h
            cases hra; cases hrb
            rw [run_equalIn_int w' d f.type k k0 p q hu]
            simp only [Result.andThen_ok]
            cases hpq : (p == q)
            · simp
            · simp [eqFields_ok d hx hy w' he]
          · simp at h
        · rename_i p q e' hu he
          simp at h; subst h
          cases hra; cases hrb
          rw [run_equalIn_string w' d f.type p q hu, ← beq_toListBytes]
          simp only [Result.andThen_ok]
          cases hpq : (p == q)
          · simp
          · simp [eqFields_ok d hx hy w' he]
        · simp at h
      · simp at h
    · simp at h

theorem eqItems_ok (d : Nat) {e : TypeId} (hp : plainT P e = true) {xs ys : List CV} {vx vy : List Value} (hx : All2 (CV.Rel F w bs) xs vx) (hy : All2 (CV.Rel F w bs) ys vy) (w' : World) :
    ∀ {is : List Nat} {z : Bool}, eqItems P e xs ys is = some z → (Op.eqItems (d + 1) e (P.cellsOf e) vx.toArray vy.toArray is).run P w' = .ok z w'
  | [], z, h => by simp [eqItems] at h; subst h; simp [Op.eqItems]
  | i :: r, z, h => by
    unfold plainT at hp
    simp only [Bool.and_eq_true, beq_iff_eq] at hp
    have hagg : isAggT P e = some false := by
      unfold isAggT
      have := hp.2
      split at this
      · rename_i hu; simp [hu]
      · rename_i k hu; simp [hu]
      · rename_i hu; simp [hu]
      · simp at this
    have hpart : ∀ {cs : List CV} {vs : List Value}, All2 (CV.Rel F w bs) cs vs → ∀ {x : CV}, nth cs i = some x → ∃ v, x.Rel F w bs v ∧ ∀ w', (part e vs.toArray i).run P w' = .ok v w' := fun hr x hx => partOf_ok (a := .c x) (by unfold partOf; rw [hagg]; simp [hx]) hr
    simp only [eqItems] at h
    split at h
    · rename_i a b ha hb
      obtain ⟨va, hra, hpa⟩ := hpart hx ha
      obtain ⟨vb, hrb, hpb⟩ := hpart hy hb
      simp only [Op.eqItems, hp.1, Nat.mul_one, Sem.run_bind, hpa, hpb, Result.andThen_ok]
      have ih := fun {z' : Bool} (h : eqItems P e xs ys r = some z') => eqItems_ok d (by unfold plainT; simp [hp]) hx hy w' h
      rw [hp.1] at ih
      split at h
      · rename_i p q e' hu he
        simp at h; subst h
        cases hra; cases hrb
        rw [run_equalIn_bool' w' d e p q hu]
        simp only [Result.andThen_ok]
        cases hpq : (p == q)
        · simp
        · simp [ih he]
      · rename_i k0 k p k' q e' hu he
        split at h
        · rename_i hk
          subst hk
          simp at h; subst h
          cases hra; cases hrb
          rw [run_equalIn_int w' d e k k0 p q hu]
          simp only [Result.andThen_ok]
          cases hpq : (p == q)
          · simp
          · simp [ih he]
        · simp at h
      · rename_i p q e' hu he
        simp at h; subst h
        cases hra; cases hrb
        rw [run_equalIn_string w' d e p q hu, ← beq_toListBytes]
        simp only [Result.andThen_ok]
        cases hpq : (p == q)
        · simp
        · simp [ih he]
      · simp at h
    · simp at h

end
end Go.Sx
/-
  The evaluator's soundness (part D): each operation that touches no memory.
-/
namespace Go.Sx
open Go

section
variable {P : Program} {F : Nat → Prop} {w : World} {bs : List BI}

theorem eqGuard_cell {op : BinOp} {t : TypeId} {x y : Operand} {a b : Value} (h : a ≠ .nilIface) (h2 : ∀ c, a ≠ .agg c) (w' : World) : (eqGuard op t x y a b).run P w' = .ok () w' := by
  unfold eqGuard
  simp only [Sem.run_ite, Sem.run_pure]
  split
  all_goals simp only [Bool.not_true, Bool.not_false, Bool.false_eq_true, if_false, if_true]
  all_goals (cases a <;> first | rfl | exact (h rfl).elim | exact (h2 _ rfl).elim)

theorem eqGuard_agg {op : BinOp} {t : TypeId} {x y : Operand} {a b : Array Value} (h : P.eqGuardType P.depth t = false) (w' : World) : (eqGuard op t x y (.agg a) (.agg b)).run P w' = .ok () w' := by
  unfold eqGuard
  simp only [Sem.run_ite, Sem.run_pure]
  split
  all_goals simp only [Bool.not_true, Bool.not_false, Bool.false_eq_true, if_false, if_true]
  all_goals simp [h]

theorem run_equalIn_nils (d : Nat) (t : TypeId) {e : TypeId} (hu : P.underlying t = some (.slice e)) (w' : World) : (Op.equalIn (d + 1) t (.slice none 0 0) (.slice none 0 0)).run P w' = .ok true w' := by
  simp [Op.equalIn, run_underlying hu]
theorem run_equalIn_nilp (d : Nat) (t : TypeId) {e : TypeId} (hu : P.underlying t = some (.pointer e)) (w' : World) : (Op.equalIn (d + 1) t (.pointer none) (.pointer none)).run P w' = .ok true w' := by
  simp [Op.equalIn, run_underlying hu]
theorem run_equalIn_ptrnil (d : Nat) (t : TypeId) {e : TypeId} (hu : P.underlying t = some (.pointer e)) (a : Addr) (w' : World) : (Op.equalIn (d + 1) t (.pointer (some a)) (.pointer none)).run P w' = .ok false w' := by
  simp [Op.equalIn, run_underlying hu]

theorem eqVal_ok {t : TypeId} {a b : A1} {e : Bool} (h : eqVal P t a b = some e) {va vb : Value} (ha : a.Rel F w bs va) (hb : b.Rel F w bs vb) :
    (∀ op x y w', (eqGuard op t x y va vb).run P w' = .ok () w') ∧ (∀ w', (Op.equal t va vb).run P w' = .ok e w') ∧
    (∀ op w', (op = .eql → (binOp op t va vb).run P w' = .ok (.bool e) w') ∧ (op = .neq → (binOp op t va vb).run P w' = .ok (.bool (!e)) w')) := by
  have fin : (∀ op x y w', (eqGuard op t x y va vb).run P w' = .ok () w') → (∀ w', (Op.equal t va vb).run P w' = .ok e w') →
      (∀ w', (binOp .eql t va vb).run P w' = (do pure (Value.bool (← Op.equal t va vb)) : Sem Value).run P w') → (∀ w', (binOp .neq t va vb).run P w' = (do pure (Value.bool (!(← Op.equal t va vb))) : Sem Value).run P w') →
      (∀ op x y w', (eqGuard op t x y va vb).run P w' = .ok () w') ∧ (∀ w', (Op.equal t va vb).run P w' = .ok e w') ∧
    (∀ op w', (op = .eql → (binOp op t va vb).run P w' = .ok (.bool e) w') ∧ (op = .neq → (binOp op t va vb).run P w' = .ok (.bool (!e)) w')) := by
    intro h1 h2 h3 h4
    refine ⟨h1, h2, fun op w' => ⟨?_, ?_⟩⟩
    · rintro rfl; rw [h3]; simp [h2]
    · rintro rfl; rw [h4]; simp [h2]
  unfold eqVal at h
  split at h
  · rename_i p q
    split at h
    · rename_i hu
      simp at h; subst h
      cases ha; cases hb
      exact fin (fun _ _ _ w' => eqGuard_cell (by simp) (by simp) w') (fun w' => run_equalIn_bool' w' 9999 t p q hu) (fun _ => rfl) (fun _ => rfl)
    · simp at h
  · rename_i xs ys
    split at h
    · rename_i fs hu
      split at h
      · simp at h
      · rename_i hcond
        simp only [Bool.or_eq_true, not_or, Bool.not_eq_true] at hcond
        obtain ⟨vx, rfl, hx⟩ := ha
        obtain ⟨vy, rfl, hy⟩ := hb
        have hfo : P.fieldsOf t = fs := by unfold Program.fieldsOf; rw [hu]
        refine fin (fun _ _ _ w' => eqGuard_agg hcond.2 w') (fun w' => ?_) (fun _ => rfl) (fun _ => rfl)
        show (Op.equalIn (9999 + 1) t (.agg vx.toArray) (.agg vy.toArray)).run P w' = _
        rw [run_equalIn_struct w' 9999 t _ _ (by rw [hfo]; exact hu) hcond.1, hfo]
        exact eqFields_ok 9998 hx hy w' h
    · rename_i n e0 hu
      split at h
      · simp at h
      · rename_i hcond
        simp only [Bool.or_eq_true, not_or, Bool.not_eq_true, Bool.not_eq_true'] at hcond
        obtain ⟨⟨hg, hpl⟩, hinf⟩ := hcond
        have hpl : plainT P e0 = true := by simpa using hpl
        obtain ⟨i, hi⟩ : ∃ i, P.info? e0 = some i := by
          cases hh : P.info? e0 with
          | none => rw [hh] at hinf; simp at hinf
          | some i => exact ⟨i, rfl⟩
        obtain ⟨vx, rfl, hx⟩ := ha
        obtain ⟨vy, rfl, hy⟩ := hb
        refine fin (fun _ _ _ w' => eqGuard_agg hg w') (fun w' => ?_) (fun _ => rfl) (fun _ => rfl)
        show (Op.equalIn (9999 + 1) t (.agg vx.toArray) (.agg vy.toArray)).run P w' = _
        rw [run_equalIn_array w' 9999 _ _ hu hi]
        exact eqItems_ok 9998 hpl hx hy w' h
    · simp at h
  · split at h
    · rename_i e0 hu
      simp at h; subst h
      cases ha; cases hb
      refine fin (fun _ _ _ w' => eqGuard_cell (by simp) (by simp) w') (fun w' => run_equalIn_nils 9999 t hu w') (fun _ => rfl) (fun _ => rfl)
    · simp at h
  · split at h
    · rename_i e0 hu
      simp at h; subst h
      cases ha; cases hb
      refine fin (fun _ _ _ w' => eqGuard_cell (by simp) (by simp) w') (fun w' => run_equalIn_nilp 9999 t hu w') (fun _ => rfl) (fun _ => rfl)
    · simp at h
  · split at h
    · rename_i e0 hu
      simp at h; subst h
      cases ha; cases hb
      refine fin (fun _ _ _ w' => eqGuard_cell (by simp) (by simp) w') (fun w' => run_equalIn_ptrnil 9999 t hu _ w') (fun _ => rfl) (fun _ => rfl)
    · simp at h
  · simp at h

/-- what a number reads as -/
theorem lt_iff (a b : Int) : (lt a b = true) ↔ a < b := by simp [lt]
theorem le_iff (a b : Int) : (le a b = true) ↔ a ≤ b := by simp [le]

theorem evIntOp_ok {op : BinOp} {k : IntKind} {a b : Int} {r : AV} (h : (evIntOp op k a b).sel = some r) (t : TypeId) :
    ∃ v, r.Rel F w bs v ∧ ∀ w', (binOp op t (.int k a) (.int k b)).run P w' = .ok v w' := by
  have i (n : Int) : AV.Rel F w bs (.one (.c (.int k n))) (.int k n) := CV.Rel.int k n
  have bb (x : Bool) : AV.Rel F w bs (.one (.c (.bool x))) (.bool x) := CV.Rel.bool x
  unfold evIntOp at h
  cases op <;> simp only [Tree.sel, Option.some.injEq, reduceCtorEq] at h
  case add => subst h; exact ⟨_, i _, fun w' => by simp [binOp, Op.intArith]⟩
  case sub => subst h; exact ⟨_, i _, fun w' => by simp [binOp, Op.intArith]⟩
  case mul => subst h; exact ⟨_, i _, fun w' => by simp [binOp, Op.intArith]⟩
  case quo =>
    cases hb : (b == 0) <;> simp [hb] at h
    subst h
    have : b ≠ 0 := by simpa using hb
    exact ⟨_, i _, fun w' => by simp [binOp, Op.intDiv, this]⟩
  case rem =>
    cases hb : (b == 0) <;> simp [hb] at h
    subst h
    have : b ≠ 0 := by simpa using hb
    exact ⟨_, i _, fun w' => by simp [binOp, Op.intDiv, this]⟩
  case eql => subst h; exact ⟨_, bb _, fun w' => by simp [binOp, Op.intCmp]⟩
  case neq => subst h; exact ⟨_, bb _, fun w' => by simp [binOp, Op.intCmp]⟩
  case lss => subst h; exact ⟨_, bb _, fun w' => by simp [binOp, Op.intCmp, lt]⟩
  case leq => subst h; exact ⟨_, bb _, fun w' => by simp [binOp, Op.intCmp, le]⟩
  case gtr => subst h; exact ⟨_, bb _, fun w' => by simp [binOp, Op.intCmp, lt]⟩
  case geq => subst h; exact ⟨_, bb _, fun w' => by simp [binOp, Op.intCmp, le]⟩
  case and => subst h; exact ⟨_, i _, fun w' => by simp [binOp, Op.intBits, andI]⟩
  case or => subst h; exact ⟨_, i _, fun w' => by simp [binOp, Op.intBits, orI]⟩
  case xor => subst h; exact ⟨_, i _, fun w' => by simp [binOp, Op.intBits, xorI]⟩
  case andNot => subst h; exact ⟨_, i _, fun w' => by simp [binOp, Op.intBits, andNotI]⟩

theorem evBin_ok {op : BinOp} {t : TypeId} {x y : AV} {r : AV} (h : (evBin P op t x y).sel = some r) {u v : Value} (hx : x.Rel F w bs u) (hy : y.Rel F w bs v) (ox oy : Operand) :
    ∃ z, r.Rel F w bs z ∧ ∀ w', (do eqGuard op t ox oy u v; binOp op t u v : Sem Value).run P w' = .ok z w' := by
  unfold evBin at h
  split at h
  · rename_i k a k' b
    cases hx; cases hy
    have g : ∀ w', (eqGuard op t ox oy (.int k a) (.int k' b)).run P w' = .ok () w' := fun w' => eqGuard_cell (by simp) (by simp) w'
    simp only [Sem.run_bind, g, Result.andThen_ok]
    split at h
    · simp only [Tree.sel] at h
      cases hb : le 0 b <;> simp [hb] at h
      subst h
      have : ¬ b < 0 := by have := (le_iff 0 b).1 hb; omega
      exact ⟨_, CV.Rel.int _ _, fun w' => by simp [binOp, Op.shift, this, shlI]⟩
    · simp only [Tree.sel] at h
      cases hb : le 0 b <;> simp [hb] at h
      subst h
      have : ¬ b < 0 := by have := (le_iff 0 b).1 hb; omega
      exact ⟨_, CV.Rel.int _ _, fun w' => by simp [binOp, Op.shift, this, shrI]⟩
    · split at h
      · rename_i hk; subst hk
        exact evIntOp_ok h t
      · simp [Tree.sel] at h
  · rename_i a b
    cases hx; cases hy
    have g : ∀ w', (eqGuard op t ox oy (.string a) (.string b)).run P w' = .ok () w' := fun w' => eqGuard_cell (by simp) (by simp) w'
    simp only [Sem.run_bind, g, Result.andThen_ok]
    split at h
    · simp only [Tree.sel, Option.some.injEq] at h; subst h
      exact ⟨_, CV.Rel.bool _, fun w' => by simp [binOp, Op.stringOp]⟩
    · simp only [Tree.sel, Option.some.injEq] at h; subst h
      exact ⟨_, CV.Rel.bool _, fun w' => by simp [binOp, Op.stringOp]⟩
    · simp [Tree.sel] at h
  · rename_i a b
    split at h
    · split at h
      · rename_i e he
        simp only [Tree.sel, Option.some.injEq] at h; subst h
        obtain ⟨h1, _, h3⟩ := eqVal_ok he hx hy
        exact ⟨_, CV.Rel.bool _, fun w' => by simp only [Sem.run_bind, h1, Result.andThen_ok, (h3 _ w').1 rfl]⟩
      · simp [Tree.sel] at h
    · split at h
      · rename_i e he
        simp only [Tree.sel, Option.some.injEq] at h; subst h
        obtain ⟨h1, _, h3⟩ := eqVal_ok he hx hy
        exact ⟨_, CV.Rel.bool _, fun w' => by simp only [Sem.run_bind, h1, Result.andThen_ok, (h3 _ w').2 rfl]⟩
      · simp [Tree.sel] at h
    · simp [Tree.sel] at h
  · simp [Tree.sel] at h

theorem evUn_ok {op : UnOp} {x r : AV} (h : (evUn op x).sel = some r) {u : Value} (hx : x.Rel F w bs u) : ∃ z, r.Rel F w bs z ∧ ∀ w', (Op.unary op u).run P w' = .ok z w' := by
  unfold evUn at h
  split at h
  · rename_i b
    cases hx
    split at h
    · simp only [Tree.sel, Option.some.injEq] at h; subst h
      exact ⟨_, CV.Rel.bool _, fun w' => by simp [Op.unary]⟩
    · simp [Tree.sel] at h
  · rename_i k n
    cases hx
    split at h
    · simp only [Tree.sel, Option.some.injEq] at h; subst h
      exact ⟨_, CV.Rel.int _ _, fun w' => by simp [Op.unary, Op.intArith]⟩
    · simp [Tree.sel] at h
  · simp [Tree.sel] at h

theorem evLen_ok {t : TypeId} {x r : AV} (h : (evLen P t x).sel = some r) {u : Value} (hx : x.Rel F w bs u) (ty : TypeId) : ∃ z, r.Rel F w bs z ∧ ∀ w', (Builtin.len_ #[t] ty #[u]).run P w' = .ok z w' := by
  unfold evLen at h
  split at h
  · split at h
    · rename_i e hu
      simp only [Tree.sel, Option.some.injEq] at h; subst h
      cases hx
      · exact ⟨_, CV.Rel.int _ _, fun w' => by simp [Builtin.len_, run_underlying hu, goInt, toInt64]⟩
      · exact ⟨_, CV.Rel.int _ _, fun w' => by simp [Builtin.len_, run_underlying hu, goInt, toInt64]⟩
    · simp [Tree.sel] at h
  · split at h
    · rename_i e hu
      simp only [Tree.sel, Option.some.injEq] at h; subst h
      cases hx
      exact ⟨_, CV.Rel.int _ _, fun w' => by simp [Builtin.len_, run_underlying hu, goInt]⟩
    · simp [Tree.sel] at h
  · split at h
    · rename_i hu
      simp only [Tree.sel, Option.some.injEq] at h; subst h
      cases hx
      exact ⟨_, CV.Rel.int _ _, fun w' => by simp [Builtin.len_, run_underlying hu, goInt, toInt64]⟩
    · simp [Tree.sel] at h
  · simp [Tree.sel] at h

theorem evMaxFrom_ok {k : IntKind} : ∀ {l : List A1} {a n : Int} {vs : List Value}, evMaxFrom k a l = some n → All2 (A1.Rel F w bs) l vs → ∀ w', (vs.foldlM Builtin.max2 (Value.int k a)).run P w' = .ok (.int k n) w'
  | [], a, n, vs, h, hr, w' => by cases hr; simp [evMaxFrom] at h; subst h; simp
  | .c (.int k' b) :: r, a, n, vs, h, hr, w' => by
    cases hr with
    | cons h1 h2 =>
      cases h1
      simp only [evMaxFrom] at h
      have ih := evMaxFrom_ok h h2 w'
      simp only [List.foldlM_cons, Sem.run_bind, Builtin.max2, Sem.run_pure, Result.andThen_ok]
      rw [← ih]
      congr 3
      by_cases hlt : a < b <;> simp [imax, lt, hlt]
  | .agg _ :: _, _, _, _, h, _, _ => by simp [evMaxFrom] at h
  | .c .any :: _, _, _, _, h, _, _ => by simp [evMaxFrom] at h
  | .c (.bool _) :: _, _, _, _, h, _, _ => by simp [evMaxFrom] at h
  | .c (.str _) :: _, _, _, _, h, _, _ => by simp [evMaxFrom] at h
  | .c .nilp :: _, _, _, _, h, _, _ => by simp [evMaxFrom] at h
  | .c .nils :: _, _, _, _, h, _, _ => by simp [evMaxFrom] at h
  | .c .nilf :: _, _, _, _, h, _, _ => by simp [evMaxFrom] at h
  | .c .nili :: _, _, _, _, h, _, _ => by simp [evMaxFrom] at h
  | .c (.ptr _ _) :: _, _, _, _, h, _, _ => by simp [evMaxFrom] at h
  | .c (.rop _ _ _) :: _, _, _, _, h, _, _ => by simp [evMaxFrom] at h
  | .c (.sl _ _ _) :: _, _, _, _, h, _, _ => by simp [evMaxFrom] at h
  | .c (.fn _ _ _) :: _, _, _, _, h, _, _ => by simp [evMaxFrom] at h
  | .c (.iface _ _) :: _, _, _, _, h, _, _ => by simp [evMaxFrom] at h

theorem evMinFrom_ok {k : IntKind} : ∀ {l : List A1} {a n : Int} {vs : List Value}, evMinFrom k a l = some n → All2 (A1.Rel F w bs) l vs → ∀ w', (vs.foldlM Builtin.min2 (Value.int k a)).run P w' = .ok (.int k n) w'
  | [], a, n, vs, h, hr, w' => by cases hr; simp [evMinFrom] at h; subst h; simp
  | .c (.int k' b) :: r, a, n, vs, h, hr, w' => by
    cases hr with
    | cons h1 h2 =>
      cases h1
      simp only [evMinFrom] at h
      have ih := evMinFrom_ok h h2 w'
      simp only [List.foldlM_cons, Sem.run_bind, Builtin.min2, Sem.run_pure, Result.andThen_ok]
      rw [← ih]
      congr 3
      by_cases hlt : b < a <;> simp [imin, lt, hlt]
  | .agg _ :: _, _, _, _, h, _, _ => by simp [evMinFrom] at h
  | .c .any :: _, _, _, _, h, _, _ => by simp [evMinFrom] at h
  | .c (.bool _) :: _, _, _, _, h, _, _ => by simp [evMinFrom] at h
  | .c (.str _) :: _, _, _, _, h, _, _ => by simp [evMinFrom] at h
  | .c .nilp :: _, _, _, _, h, _, _ => by simp [evMinFrom] at h
  | .c .nils :: _, _, _, _, h, _, _ => by simp [evMinFrom] at h
  | .c .nilf :: _, _, _, _, h, _, _ => by simp [evMinFrom] at h
  | .c .nili :: _, _, _, _, h, _, _ => by simp [evMinFrom] at h
  | .c (.ptr _ _) :: _, _, _, _, h, _, _ => by simp [evMinFrom] at h
  | .c (.rop _ _ _) :: _, _, _, _, h, _, _ => by simp [evMinFrom] at h
  | .c (.sl _ _ _) :: _, _, _, _, h, _, _ => by simp [evMinFrom] at h
  | .c (.fn _ _ _) :: _, _, _, _, h, _, _ => by simp [evMinFrom] at h
  | .c (.iface _ _) :: _, _, _, _, h, _, _ => by simp [evMinFrom] at h

theorem evMM_ok {mx : Bool} {l : List A1} {r : AV} (h : (evMM mx l).sel = some r) {vs : List Value} (hr : All2 (A1.Rel F w bs) l vs) (ts : Array TypeId) (t : TypeId) :
    ∃ z, r.Rel F w bs z ∧ ∀ w', (if mx then Builtin.max_ ts t vs.toArray else Builtin.min_ ts t vs.toArray).run P w' = .ok z w' := by
  unfold evMM at h
  split at h
  · rename_i k a r'
    split at h
    · rename_i n hn
      simp only [Tree.sel, Option.some.injEq] at h; subst h
      cases hr with
      | cons h1 h2 =>
        cases h1
        refine ⟨_, CV.Rel.int _ _, fun w' => ?_⟩
        cases mx
        · simp only [Bool.false_eq_true, if_false] at hn ⊢
          simp only [Builtin.min_]
          exact evMinFrom_ok hn h2 w'
        · simp only [if_true] at hn ⊢
          simp only [Builtin.max_]
          exact evMaxFrom_ok hn h2 w'
    · simp [Tree.sel] at h
  · simp [Tree.sel] at h

theorem evArgs_ok {ρ : Operand → Option AV} {ρc : Operand → Value} (hρ : ∀ x av, ρ x = some av → av.Rel F w bs (ρc x)) : ∀ {args : List Operand} {l : List A1}, evArgs ρ args = some l → All2 (A1.Rel F w bs) l (args.map ρc)
  | [], l, h => by simp [evArgs] at h; subst h; exact .nil
  | x :: r, l, h => by
    simp only [evArgs] at h
    split at h
    · rename_i a l' ha hl
      simp at h; subst h
      exact .cons (hρ _ _ ha) (evArgs_ok hρ hl)
    · simp at h

end
end Go.Sx
/-
  The evaluator's soundness (part E): indexes, addresses, loads; every operation without an effect.
-/
namespace Go.Sx
open Go

section
variable {P : Program} {F : Nat → Prop} {w : World} {bs : List BI}

theorem sel_bind {α β : Type} {t : Tree α} {f : α → Tree β} {b : β} (h : (t.bind f).sel = some b) : ∃ a, t.sel = some a ∧ (f a).sel = some b := by
  induction t with
  | leaf a => exact ⟨a, rfl, h⟩
  | br c t e iht ihe =>
    simp only [Tree.bind, Tree.sel] at h ⊢
    cases c
    · exact ihe h
    · exact iht h
  | need c t ih =>
    simp only [Tree.bind, Tree.sel] at h ⊢
    cases c
    · simp at h
    · exact ih h
  | fail => simp [Tree.bind, Tree.sel] at h

theorem sel_ofOpt {α : Type} {o : Option α} {a : α} (h : (Tree.ofOpt o).sel = some a) : o = some a := by
  cases o with
  | none => simp [Tree.ofOpt, Tree.sel] at h
  | some x => simpa [Tree.ofOpt, Tree.sel] using h

theorem pickAt_sel {α : Type} (i : Int) : ∀ (l : List α) (j : Int) (a : α), (pickAt i j l).sel = some a → j ≤ i → i < j + l.length → nth l (i - j).toNat = some a
  | [], _, _, h, _, _ => by simp [pickAt, Tree.sel] at h
  | [x], j, a, h, h1, h2 => by
    simp only [pickAt, Tree.sel, Option.some.injEq] at h
    subst h
    have : (i - j).toNat = 0 := by simp at h2; omega
    rw [this]; rfl
  | x :: y :: r, j, a, h, h1, h2 => by
    simp only [pickAt, Tree.sel] at h
    cases hij : (i == j)
    · simp only [hij, cond_false] at h
      have hne : i ≠ j := by simpa using hij
      have := pickAt_sel i (y :: r) (j + 1) a h (by omega) (by simp at h2 ⊢; omega)
      have e : (i - j).toNat = (i - (j + 1)).toNat + 1 := by omega
      rw [e]
      exact this
    · simp only [hij, cond_true, Option.some.injEq] at h
      subst h
      have hne : i = j := by simpa using hij
      have : (i - j).toNat = 0 := by omega
      rw [this]; rfl

theorem mergeAt_ok (i : Int) {v : Value} : ∀ (l : List A1) (j : Int), (∀ a, nth l (i - j).toNat = some a → a.Rel F w bs v) → j ≤ i → i < j + l.length → (mergeAt i j l).Rel F w bs v
  | [], _, _, _, _ => trivial
  | [x], j, h, h1, h2 => by
    have e : (i - j).toNat = 0 := by simp at h2; omega
    exact h x (by rw [e]; rfl)
  | x :: y :: r, j, h, h1, h2 => by
    simp only [mergeAt]
    refine mergeA_ok (fun e => ?_) (fun e => ?_)
    · have hne : i = j := by simpa using e
      exact h x (by have : (i - j).toNat = 0 := by omega
                    rw [this]; rfl)
    · have hne : i ≠ j := by simpa using e
      refine mergeAt_ok i (y :: r) (j + 1) (fun a ha => h a ?_) (by omega) (by simp at h2 ⊢; omega)
      have e2 : (i - j).toNat = (i - (j + 1)).toNat + 1 := by omega
      rw [e2]
      exact ha

theorem partsOf_ok {e : TypeId} {cs : List CV} {step : Nat} : ∀ {n off : Nat} {l : List A1}, partsOf P e cs n off step = some l → l.length = n ∧ ∀ k a, nth l k = some a → partOf P e cs (off + k * step) = some a
  | 0, off, l, h => by simp [partsOf] at h; subst h; exact ⟨rfl, fun k a h => by simp [nth] at h⟩
  | n + 1, off, l, h => by
    simp only [partsOf] at h
    split at h
    · rename_i a l' ha hl
      simp at h; subst h
      obtain ⟨h1, h2⟩ := partsOf_ok hl
      refine ⟨by simp [h1], fun k b hb => ?_⟩
      cases k with
      | zero => simp [nth] at hb; subst hb; simpa using ha
      | succ k =>
        have := h2 k b (by simpa [nth] using hb)
        rw [← this]; congr 1
        rw [Nat.succ_mul]; omega
    · simp at h

theorem inRange_iff {i : Int} {n : Nat} : inRange i n = true ↔ 0 ≤ i ∧ i < n := by
  simp only [inRange, Bool.and_eq_true, le_iff, lt_iff, toInt64]
  exact Iff.rfl

theorem evIndex_ok {t : TypeId} {x y r : AV} (h : (evIndex P t x y).sel = some r) {u v : Value} (hx : x.Rel F w bs u) (hy : y.Rel F w bs v) :
    ∃ z, r.Rel F w bs z ∧ ∀ w', (Instr.index t u v).run P w' = .ok z w' := by
  unfold evIndex at h
  split at h
  · rename_i cs k i
    split at h
    · rename_i len e hu
      split at h
      · rename_i j hj
        split at h
        · simp [Tree.sel] at h
        · rename_i p ps hps
          obtain ⟨hl, hp⟩ := partsOf_ok hps
          obtain ⟨vs, rfl, hcs⟩ := hx
          cases hy
          simp only [Tree.sel] at h
          cases hr : inRange i len <;> simp [hr] at h
          obtain ⟨hr1, hr2⟩ := inRange_iff.1 hr
          have run : ∀ z, (∀ w', (part e vs.toArray (i.toNat * j.size)).run P w' = .ok z w') → ∀ w', (Instr.index t (.agg vs.toArray) (.int k i)).run P w' = .ok z w' := by
            intro z hz w'
            unfold Instr.index
            simp only [asIntOf, Sem.run_bind, Sem.run_pure, Result.andThen_ok, run_underlying hu]
            rw [if_pos ⟨hr1, hr2⟩]
            simp only [Sem.run_bind, run_sizeOf' hj, Result.andThen_ok, hz]
          split at h
          · obtain ⟨a, ha, hb⟩ := sel_bind h
            simp only [Tree.sel, Option.some.injEq] at hb
            subst hb
            have := pickAt_sel i _ 0 a ha hr1 (by rw [hl]; omega)
            have hpart := hp _ _ this
            obtain ⟨z, hz, hrun⟩ := partOf_ok hpart hcs
            refine ⟨z, hz, run z fun w' => ?_⟩
            have e2 : 0 + (i - 0).toNat * j.size = i.toNat * j.size := by simp
            rw [← e2]; exact hrun w'
          · simp only [Tree.sel, Option.some.injEq] at h
            subst h
            obtain ⟨a, ha⟩ : ∃ a, nth (p :: ps) (i - 0).toNat = some a := by
              rw [nth_eq]
              refine ⟨_, List.getElem?_eq_getElem (by rw [hl]; omega)⟩
            have hpart := hp _ _ ha
            obtain ⟨z, hz, hrun⟩ := partOf_ok hpart hcs
            refine ⟨z, mergeAt_ok i _ 0 (fun b hb => ?_) hr1 (by rw [hl]; omega), run z fun w' => ?_⟩
            · rw [ha] at hb; simp at hb; subst hb; exact hz
            · have e2 : 0 + (i - 0).toNat * j.size = i.toNat * j.size := by simp
              rw [← e2]; exact hrun w'
        · simp [Tree.sel] at h
      · simp [Tree.sel] at h
    · simp [Tree.sel] at h
  · simp [Tree.sel] at h

theorem addr_add (p o n : Nat) : (⟨p, o, none⟩ : Addr).add n = ⟨p, o + n, none⟩ := by
  unfold Addr.add
  split
  · rename_i h; subst h; rfl
  · rfl

theorem run_indexAt_slice {t e : TypeId} {j : TypeInfo} {k : IntKind} {i : Int} {p o n cap : Nat} (hu : P.underlying t = some (.slice e)) (hj : P.info? e = some j) (h1 : 0 ≤ i) (h2 : i < n) (w' : World) :
    (Instr.indexAt t (.slice (some ⟨p, o, none⟩) n cap) (.int k i)).run P w' = .ok (.pointer (some ⟨p, o + i.toNat * j.size, none⟩)) w' := by
  unfold Instr.indexAt
  simp [asIntOf, run_underlying hu, h1, h2, run_sizeOf' hj, addr_add]

theorem run_indexAt_array {t e : TypeId} {j : TypeInfo} {k : IntKind} {i : Int} {p o n : Nat} (hu : P.underlying t = some (.array n e)) (hj : P.info? e = some j) (h1 : 0 ≤ i) (h2 : i < n) (w' : World) :
    (Instr.indexAt t (.pointer (some ⟨p, o, none⟩)) (.int k i)).run P w' = .ok (.pointer (some ⟨p, o + i.toNat * j.size, none⟩)) w' := by
  unfold Instr.indexAt
  simp [asIntOf, run_underlying hu, h1, h2, run_sizeOf' hj, addr_add, Instr.sureAddr]

def KH (a : Act) (K : List (Nat × Bool)) : Prop := ∀ p ∈ K, a.tmps[p.1]? = some (.bool p.2)

theorem eval_tmp_bool {a : Act} {t : Nat} {c : Bool} (h : a.eval (.tmp t) = .bool c) : a.tmps[t]? = some (.bool c) := by
  simp only [Act.eval, Array.getD_eq_getD_getElem?] at h
  cases hh : a.tmps[t]? with
  | none => simp [hh, undef] at h
  | some v => simp [hh] at h; rw [h]

theorem cellsOnly_ok : ∀ {l : List A1} {cs : List CV} {vs : List Value}, evPure0.cellsOnly l = some cs → All2 (A1.Rel F w bs) l vs → All2 (CV.Rel F w bs) cs vs
  | [], cs, vs, h, hr => by cases hr; simp [evPure0.cellsOnly] at h; subst h; exact .nil
  | .c x :: r, cs, vs, h, hr => by
    simp only [evPure0.cellsOnly] at h
    split at h
    · rename_i l hl
      simp at h; subst h
      cases hr with
      | cons h1 h2 => exact .cons h1 (cellsOnly_ok hl h2)
    · simp at h
  | .agg _ :: _, _, _, h, _ => by simp [evPure0.cellsOnly] at h

theorem map_toArray {α β : Type} (f : α → β) (l : Array α) : l.map f = (l.toList.map f).toArray := by
  apply Array.ext'
  simp

theorem rels_nth {l : List CV} {vs : List Value} (h : All2 (CV.Rel F w bs) l vs) : ∀ i x v, nth l i = some x → nth vs i = some v → CV.Rel F w bs x v := by
  intro i x v hx hv
  obtain ⟨v', hv', hr⟩ := h.nth hx
  rw [nth_eq] at hv
  rw [hv'] at hv
  simp at hv; subst hv
  exact hr

theorem evPure0_ok {ρ : List (Nat × Bool) → Operand → Option AV} {a : Act} (hρ : ∀ K x av, KH a K → ρ K x = some av → av.Rel F w bs (a.eval x)) {o : Oper} {r : AV}
    (h : (evPure0 P ρ o.op).sel = some r) : ∃ v, r.Rel F w bs v ∧ ∀ w', (execOp a.eval o).run P w' = .ok (.value v) w' := by
  have h0 : ∀ x av, ρ [] x = some av → av.Rel F w bs (a.eval x) := fun x av => hρ [] x av (fun _ h => by cases h)
  have lift : ∀ {s : Sem Value} {r : AV}, (∃ v, r.Rel F w bs v ∧ ∀ w', s.run P w' = .ok v w') → ∃ v, r.Rel F w bs v ∧ ∀ w', ((do pure (Next.value (← s)) : Sem Next)).run P w' = .ok (.value v) w' := by
    rintro s r ⟨v, h1, h2⟩
    exact ⟨v, h1, fun w' => by simp [h2]⟩
  unfold evPure0 at h
  unfold execOp
  split at h
  · rename_i x ho
    rw [ho]
    exact ⟨_, h0 _ _ (sel_ofOpt h), fun w' => by simp⟩
  · rename_i x ho
    rw [ho]
    exact ⟨_, h0 _ _ (sel_ofOpt h), fun w' => by simp⟩
  · rename_i t x y ho
    rw [ho]
    split at h
    · rename_i c va vb hc ha hb
      simp only [Tree.sel, Option.some.injEq] at h
      subst h
      have hcr := h0 _ _ hc
      have hce : a.eval (.tmp t) = .bool c := by
        generalize a.eval (.tmp t) = z at hcr ⊢
        cases hcr; rfl
      have ht := eval_tmp_bool hce
      simp only [hce, asBool]
      refine ⟨if c then a.eval x else a.eval y, mergeA_ok (fun e => ?_) (fun e => ?_), fun w' => by simp⟩
      · subst e
        exact hρ [(t, true)] x va (fun p hp => by simp at hp; subst hp; exact ht) ha
      · subst e
        exact hρ [(t, false)] y vb (fun p hp => by simp at hp; subst hp; exact ht) hb
    · simp [Tree.sel] at h
  · rename_i t parts ho
    rw [ho]
    split at h
    · rename_i l hl
      exact lift (evBuild_ok (sel_ofOpt h) (by simpa using evParts_ok h0 hl))
    · simp [Tree.sel] at h
  · rename_i op t x y ty ho
    rw [ho]
    split at h
    · rename_i u v hu hv
      exact lift (evBin_ok h (h0 _ _ hu) (h0 _ _ hv) x y)
    · simp [Tree.sel] at h
  · rename_i op t x ho
    rw [ho]
    split at h
    · rename_i u hu
      exact lift (evUn_ok h (h0 _ _ hu))
    · simp [Tree.sel] at h
  · rename_i s d x ho
    rw [ho]
    split at h
    · rename_i ds k k' n hs hd hx
      simp only [Tree.sel, Option.some.injEq] at h; subst h
      have hz : a.eval x = .int k' n := by
        have hxr := h0 _ _ hx
        generalize a.eval x = z at hxr ⊢
        cases hxr; rfl
      refine lift ⟨_, CV.Rel.int k _, fun w' => ?_⟩
      simp [convert, run_underlying hs, run_underlying hd, Conv.intToInt, hz]
    · simp [Tree.sel] at h
  · rename_i x i ho
    rw [ho]
    split at h
    · rename_i l hl
      split at h
      · rename_i y hy
        simp only [Tree.sel, Option.some.injEq] at h; subst h
        obtain ⟨vs, he, hr⟩ := h0 _ _ hl
        obtain ⟨v, hv, hrel⟩ := hr.nth hy
        exact lift ⟨v, hrel, fun w' => by simp [Instr.extract, he, hv]⟩
      · simp [Tree.sel] at h
    · simp [Tree.sel] at h
  · rename_i t x i ho
    rw [ho]
    split at h
    · rename_i fs cs hu hx
      split at h
      · rename_i f hf
        split at h
        · rename_i y hy
          simp only [Tree.sel, Option.some.injEq] at h; subst h
          obtain ⟨vs, he, hr⟩ := h0 _ _ hx
          obtain ⟨v, hv, hrun⟩ := partOf_ok hy hr
          rw [nth_eq] at hf
          simp only [Array.getElem?_toList] at hf
          exact lift ⟨v, hv, fun w' => by simp [Instr.field, run_underlying hu, hf, he, asAgg, hrun]⟩
        · simp [Tree.sel] at h
      · simp [Tree.sel] at h
    · simp [Tree.sel] at h
  · rename_i t x i ho
    rw [ho]
    split at h
    · rename_i fs b off hu hx
      split at h
      · rename_i f hf
        split at h
        · rename_i j hj
          split at h
          · simp [Tree.sel] at h
          · rename_i hz
            simp only [Tree.sel, Option.some.injEq] at h; subst h
            obtain ⟨p, hb, he⟩ : ∃ p, nth bs b = some p ∧ a.eval x = .pointer (some ⟨p.p, off, none⟩) := by
              have hxr := h0 _ _ hx
              generalize a.eval x = z at hxr ⊢
              cases hxr with
              | ptr hb => exact ⟨_, hb, rfl⟩
            rw [nth_eq] at hf
            simp only [Array.getElem?_toList] at hf
            have hz' : j.size ≠ 0 := by simpa using hz
            exact lift ⟨_, CV.Rel.ptr hb, fun w' => by simp [Instr.fieldAt, run_underlying hu, hf, Instr.sureAddr, fieldPlace, run_sizeOf' hj, hz', addr_add, he]⟩
        · simp [Tree.sel] at h
      · simp [Tree.sel] at h
    · rename_i fs es off ρ0 hu hx
      split at h
      · rename_i f hf
        split at h
        · rename_i j hj
          split at h
          · simp [Tree.sel] at h
          · rename_i hz
            simp only [Tree.sel, Option.some.injEq] at h; subst h
            have hxr := h0 _ _ hx
            generalize he : a.eval x = z at hxr
            cases hxr with
            | rop val hb hF hc hr =>
              rename_i p o'
              rw [nth_eq] at hf
              simp only [Array.getElem?_toList] at hf
              have hz' : j.size ≠ 0 := by simpa using hz
              refine lift ⟨.pointer (some ⟨p, o' + (off + f.offset), none⟩), CV.Rel.rop val hb hF hc hr, fun w' => by simp [Instr.fieldAt, run_underlying hu, hf, Instr.sureAddr, fieldPlace, run_sizeOf' hj, hz', addr_add, he, Nat.add_assoc]⟩
        · simp [Tree.sel] at h
      · simp [Tree.sel] at h
    · rename_i fs b sz i' off hu hx
      split at h
      · rename_i f hf
        split at h
        · rename_i j hj
          split at h
          · simp [Tree.sel] at h
          · rename_i hz
            simp only [Tree.sel, Option.some.injEq] at h; subst h
            have hxr := h0 _ _ hx
            generalize he : a.eval x = z at hxr
            cases hxr with
            | rowp hb hi =>
              rename_i xx
              rw [nth_eq] at hf
              simp only [Array.getElem?_toList] at hf
              have hz' : j.size ≠ 0 := by simpa using hz
              refine lift ⟨.pointer (some ⟨xx.p, i' * sz + (off + f.offset), none⟩), CV.Rel.rowp hb hi, fun w' => by simp [Instr.fieldAt, run_underlying hu, hf, Instr.sureAddr, fieldPlace, run_sizeOf' hj, hz', addr_add, he, Nat.add_assoc]⟩
        · simp [Tree.sel] at h
      · simp [Tree.sel] at h
    · simp [Tree.sel] at h
  · rename_i t x y ho
    rw [ho]
    split at h
    · rename_i e es n ρ0 k i hu hx hy
      split at h
      · rename_i j hj
        split at h
        · rename_i hsz
          simp only [Tree.sel] at h
          cases hr : inRange i n <;> simp [hr] at h
          subst h
          obtain ⟨hr1, hr2⟩ := inRange_iff.1 hr
          have hsz : j.size = es.length := by simpa using hsz
          have hxr := h0 _ _ hx
          have hyr := h0 _ _ hy
          generalize he : a.eval x = z at hxr
          generalize he2 : a.eval y = z' at hyr
          cases hyr
          cases hxr with
          | slnil => omega
          | sl val hn h0' hc hrr =>
            rename_i cap ad
            obtain ⟨hsp, hb, hF⟩ := h0' (by omega)
            obtain ⟨p, off, sp⟩ := ad
            simp only at hsp hb hF hc
            subst hsp
            refine lift ⟨.pointer (some ⟨p, off + i.toNat * j.size + 0, none⟩), CV.Rel.rop (fun f => val i.toNat f) hb hF (fun f hf => ?_) (fun f s hf => hrr _ _ s (by omega) hf), fun w' => ?_⟩
            · rw [Nat.add_assoc, hsz]; exact hc i.toNat f (by omega) hf
            · show (Instr.indexAt t (a.eval x) (a.eval y)).run P w' = _
              rw [he, he2]
              exact run_indexAt_slice hu hj hr1 hr2 w'
        · simp [Tree.sel] at h
      · simp [Tree.sel] at h
    · rename_i len e b off k i hu hx hy
      split at h
      · rename_i j hj
        simp only [Tree.sel] at h
        cases hr : inRange i len <;> simp [hr] at h
        obtain ⟨hr1, hr2⟩ := inRange_iff.1 hr
        obtain ⟨q, hq, hb⟩ := sel_bind h
        simp only [Tree.sel, Option.some.injEq] at hb
        subst hb
        have hq := pickAt_sel i _ 0 q hq hr1 (by simp; omega)
        rw [nth_eq, List.getElem?_range (by omega)] at hq
        simp at hq
        have hxr := h0 _ _ hx
        have hyr := h0 _ _ hy
        generalize he : a.eval x = z at hxr
        generalize he2 : a.eval y = z' at hyr
        cases hyr
        cases hxr with
        | ptr hb =>
          refine lift ⟨_, CV.Rel.ptr hb, fun w' => ?_⟩
          show (Instr.indexAt t (a.eval x) (a.eval y)).run P w' = _
          rw [he, he2, ← hq]
          exact run_indexAt_array hu hj hr1 hr2 w'
      · simp [Tree.sel] at h
    · simp [Tree.sel] at h
  · rename_i t x y ho
    rw [ho]
    split at h
    · rename_i u v hu hv
      exact lift (evIndex_ok h (h0 _ _ hu) (h0 _ _ hv))
    · simp [Tree.sel] at h
  · rename_i f first cap ho
    rw [ho]
    split at h
    · rename_i la lb hla hlb
      split at h
      · rename_i x y hx hy
        simp only [Tree.sel, Option.some.injEq] at h; subst h
        have h1 := cellsOnly_ok hx (evArgs_ok h0 hla)
        have h2 := cellsOnly_ok hy (evArgs_ok h0 hlb)
        refine lift ⟨.func f (first.toList.map a.eval).toArray (cap.toList.map a.eval).toArray, CV.Rel.fn h1.length h2.length (rels_nth h1) (rels_nth h2), fun w' => ?_⟩
        simp only [Instr.makeFunc, Sem.run_pure, map_toArray]
      · simp [Tree.sel] at h
    · simp [Tree.sel] at h
  · rename_i x ho
    rw [ho]
    split at h
    · rename_i b off hx
      simp only [Tree.sel, Option.some.injEq] at h; subst h
      have hxr := h0 _ _ hx
      generalize he : a.eval x = z at hxr
      refine ⟨z, hxr, fun w' => ?_⟩
      simp only [he]
      cases hxr; rfl
    · rename_i es off ρ0 hx
      simp only [Tree.sel, Option.some.injEq] at h; subst h
      have hxr := h0 _ _ hx
      generalize he : a.eval x = z at hxr
      refine ⟨z, hxr, fun w' => ?_⟩
      simp only [he]
      cases hxr; rfl
    · rename_i b sz i off hx
      simp only [Tree.sel, Option.some.injEq] at h; subst h
      have hxr := h0 _ _ hx
      generalize he : a.eval x = z at hxr
      refine ⟨z, hxr, fun w' => ?_⟩
      simp only [he]
      cases hxr; rfl
    · rename_i f u v hx
      simp only [Tree.sel, Option.some.injEq] at h; subst h
      have hxr := h0 _ _ hx
      generalize he : a.eval x = z at hxr
      refine ⟨z, hxr, fun w' => ?_⟩
      simp only [he]
      cases hxr; rfl
    · simp [Tree.sel] at h
  · rename_i args argTypes ho
    rw [ho]
    split at h
    · rename_i x t hx ht
      have hargs := evArgs_ok h0 hx
      have ht' : argTypes = #[t] := by rw [← Array.toArray_toList (xs := argTypes), ht]
      obtain ⟨v, hv⟩ : ∃ v, args.map a.eval = #[v] := by
        have hl := hargs.length
        simp at hl
        have : (args.map a.eval).size = 1 := by simp [← hl]
        exact Array.size_eq_one_iff.1 this
      have hx1 : A1.Rel F w bs x v := by
        have : args.toList.map a.eval = [v] := by rw [← Array.toList_map, hv]
        rw [this] at hargs
        cases hargs; assumption
      subst ht'
      obtain ⟨z, hz, hrun⟩ := evLen_ok (x := .one x) h hx1 o.type
      refine ⟨z, hz, fun w' => ?_⟩
      simp [resolve, invoke, builtin, hv, hrun]
    · simp [Tree.sel] at h
  · rename_i args argTypes ho
    rw [ho]
    split at h
    · rename_i l hl
      have hargs := evArgs_ok h0 hl
      obtain ⟨z, hz, hrun⟩ := evMM_ok (P := P) h hargs argTypes o.type
      refine ⟨z, hz, fun w' => ?_⟩
      have := hrun w'
      simp only [if_true, ← map_toArray] at this
      simp [resolve, invoke, builtin, this]
    · simp [Tree.sel] at h
  · rename_i args argTypes ho
    rw [ho]
    split at h
    · rename_i l hl
      have hargs := evArgs_ok h0 hl
      obtain ⟨z, hz, hrun⟩ := evMM_ok (P := P) h hargs argTypes o.type
      refine ⟨z, hz, fun w' => ?_⟩
      have := hrun w'
      simp only [Bool.false_eq_true, if_false, ← map_toArray] at this
      simp [resolve, invoke, builtin, this]
    · simp [Tree.sel] at h
  · simp [Tree.sel] at h

theorem evStr_ok {s d : TypeId} {x r : AV} (h : evStr P s d (some x) = some r) {u : Value} (hx : x.Rel F w bs u) : ∃ z, r.Rel F w bs z ∧ ∀ w', RowKit.Below w.heap.size w w' → (convert s d u).run P w' = .ok z w' := by
  unfold evStr at h
  split at h
  · rename_i n ρ heq
    simp at heq; subst heq
    split at h
    · rename_i e hs hd
      split at h
      · rename_i he
        simp at h; subst h
        cases hx with
        | slnil => exact ⟨_, CV.Rel.str _, fun w' _ => by rw [run_convert_bytes_string w' s d e none 0 0 hs he hd]; simp [Conv.bytesToString, bytesV]⟩
        | sl val hn h0 hc hr =>
          rename_i cap a
          refine ⟨_, CV.Rel.str _, fun w' hw' => ?_⟩
          rw [run_convert_bytes_string w' s d e (some a) n cap hs he hd]
          refine run_bytesToString w' a n cap ((List.range n).map fun i => ((ρ.at i).at 0).N []) ?_
          have := run_loadCells (P := P) w' a n (fun i => Value.int .u8 (((ρ.at i).at 0).N [])) fun j hj => by
            obtain ⟨h1, h2, _⟩ := h0 (by omega)
            have hcell := hc j 0 hj (by simp)
            have hrel := hr j 0 (.int .u8) hj rfl
            simp only [cellOf] at hrel
            generalize val j 0 = z at hcell hrel
            cases hrel
            obtain ⟨p, o, sp⟩ := a
            simp only at h1 h2 hcell
            subst h1
            rw [addr_add]
            simp only [List.length_cons, List.length_nil, Nat.zero_add, Nat.mul_one, Nat.add_zero] at hcell
            rw [World.cell?_of_block (hw'.block p h2)]
            exact hcell
          rw [List.map_map]
          exact this
      · simp at h
    · simp at h
  · rename_i heq
    simp at heq; subst heq
    split at h
    · rename_i e hs hd
      split at h
      · rename_i he
        simp at h; subst h
        cases hx
        exact ⟨_, CV.Rel.str _, fun w' _ => by rw [run_convert_bytes_string w' s d e none 0 0 hs he hd]; simp [Conv.bytesToString]⟩
      · simp at h
    · simp at h
  · simp at h

theorem evPure_ok {ρ : List (Nat × Bool) → Operand → Option AV} {a : Act} (hρ : ∀ K x av, KH a K → ρ K x = some av → av.Rel F w bs (a.eval x)) {o : Oper} {r : AV}
    {cc : Bool} (h : (evPure P cc ρ o.op).sel = some r) : ∃ v, r.Rel F w bs v ∧ ∀ w', RowKit.Below w.heap.size w w' → (execOp a.eval o).run P w' = .ok (.value v) w' := by
  have old : (evPure0 P ρ o.op).sel = some r → ∃ v, r.Rel F w bs v ∧ ∀ w', RowKit.Below w.heap.size w w' → (execOp a.eval o).run P w' = .ok (.value v) w' := fun h => by
    obtain ⟨v, hv, hrun⟩ := evPure0_ok hρ h
    exact ⟨v, hv, fun w' _ => hrun w'⟩
  unfold evPure at h
  split at h
  · rename_i t x y ho
    split at h
    · rename_i u hu
      have ha : arrAt P t (ρ [] x) (ρ [] y) = some u := by
        cases cc
        · simp at hu
        · simpa using hu
      unfold arrAt at ha
      split at ha
      · rename_i b off k i hx hy
        split at ha
        · rename_i len e hu'
          split at ha
          · rename_i j hj
            simp only [Option.some.injEq] at ha
            subst ha
            cases hr : inRange i len <;> simp [hr, Tree.sel] at h
            subst h
            obtain ⟨hr1, hr2⟩ := inRange_iff.1 hr
            have hxr := hρ [] x _ (fun _ h => by cases h) hx
            have hyr := hρ [] y _ (fun _ h => by cases h) hy
            generalize he : a.eval x = z at hxr
            generalize he2 : a.eval y = z' at hyr
            cases hyr
            cases hxr with
            | ptr hb =>
              rename_i q
              refine ⟨_, CV.Rel.ptr hb, fun w' _ => ?_⟩
              have hrun : (Instr.indexAt t (a.eval x) (a.eval y)).run P w' = .ok (.pointer (some ⟨q.p, off + i.toNat * j.size, none⟩)) w' := by
                rw [he, he2]
                exact run_indexAt_array hu' hj hr1 hr2 w'
              unfold execOp
              rw [ho]
              simp [hrun]
          · cases ha
        · cases ha
      · cases ha
    · rw [← ho] at h
      exact old h
  · rename_i s d x ho
    split at h
    · rename_i v hv
      simp only [Tree.sel, Option.some.injEq] at h
      subst h
      cases hx : ρ [] x with
      | none => rw [hx] at hv; simp [evStr] at hv
      | some y =>
        rw [hx] at hv
        obtain ⟨z, hz, hrun⟩ := evStr_ok hv (hρ [] x y (fun _ h => by cases h) hx)
        refine ⟨z, hz, fun w' hw' => ?_⟩
        unfold execOp
        rw [ho]
        simp [hrun w' hw']
    · rw [← ho] at h
      exact old h
  · exact old h

end
end Go.Sx
/-
  The evaluator's soundness (part F): memory, calls, regions.
-/
namespace Go.Sx
open Go Go.RowKit

section
variable {P : Program}

/-- is the block one that may still be written? -/
def liveL (x : BI) : List CV → Prop
  | [.row fz _ _ _] => fz = false ∧ 0 < x.cap
  | _ => True

/-- a row: a slice's block -/
structure RowOk (F : Nat → Prop) (w : World) (x : BI) (T : TypeId) (fz : Bool) (es : List Sh) (n : Nat) (ρ : Val) : Prop where
  len : x.n = n
  le : n ≤ x.cap
  mx : x.cap ≤ maxLen
  blk : 0 < x.cap → ∃ arr : Array Value, w.heap[x.p]? = some (.cells arr T (0, 0)) ∧ arr.size = x.cap * es.length ∧ ∃ val : Nat → Nat → Value, (∀ i f, i < n → f < es.length → arr[i * es.length + f]? = some (val i f)) ∧
    (∀ i f s, i < n → nth es f = some s → CV.Rel F w [] (cellOf s ((ρ.at i).at f)) (val i f))
  frz : 0 < x.cap → fz = true → ¬ F x.p ∧ x.p < w.heap.size

theorem RowOk.room {F w x T fz es n ρ} (h : RowOk F w x T fz es n ρ) (h0 : 0 < n) : 0 < x.cap := Nat.lt_of_lt_of_le h0 h.le
theorem RowOk.cap {F w x T fz es n ρ} (h : RowOk F w x T fz es n ρ) (_ : 0 < n) : n ≤ x.cap ∧ x.cap ≤ maxLen := ⟨h.le, h.mx⟩
theorem RowOk.block {F w x T fz es n ρ} (h : RowOk F w x T fz es n ρ) (h0 : 0 < n) : ∃ arr : Array Value, w.heap[x.p]? = some (.cells arr T (0, 0)) ∧ arr.size = x.cap * es.length ∧ ∃ val : Nat → Nat → Value, (∀ i f, i < n → f < es.length → arr[i * es.length + f]? = some (val i f)) ∧
    (∀ i f s, i < n → nth es f = some s → CV.Rel F w [] (cellOf s ((ρ.at i).at f)) (val i f)) := h.blk (h.room h0)
theorem RowOk.frozen {F w x T fz es n ρ} (h : RowOk F w x T fz es n ρ) (h0 : 0 < n) (hz : fz = true) : ¬ F x.p ∧ x.p < w.heap.size := h.frz (h.room h0) hz

/-- what a record does next -/
def jumpOf : Option Nat → Code
  | none => .ret
  | some e => .exit e

def stOk (R : Loop) : LpS → Prop
  | .ready => R.state = .ready ∧ R.pending = none
  | .busy => R.state = .busy
  | .done e => R.state = .done ∧ R.pending = some (jumpOf e)

/-- the record of a loop over a function -/
def LpOk (P : Program) (F : Nat → Prop) (w : World) (bs : List BI) (x : BI) (f i : Nat) (st : LpS) (cs : List CV) : Prop :=
  ∃ R : Loop, w.heap[x.p]? = some (.loop R) ∧ stOk R st ∧ (∃ rc, rcOf P f i = some rc ∧ R.params = rc.ps ∧ R.assign = rc.a ∧ R.body = rc.b) ∧
    R.tmps.size = cs.length ∧ ∀ j c v, nth cs j = some c → R.tmps[j]? = some v → isAny c = false → CV.Rel F w bs c v

theorem LpOk.grow {F F' w w' bs bs' x f i st cs} (h : LpOk P F w bs x f i st cs) (g : Grow F F' bs bs' w w') (hb : w'.heap[x.p]? = w.heap[x.p]?) : LpOk P F' w' bs' x f i st cs := by
  obtain ⟨R, h1, h2, h4, h5, h6⟩ := h
  exact ⟨R, by rw [hb]; exact h1, h2, h4, h5, fun j c v hc hv ha => (h6 j c v hc hv ha).grow g⟩

structure MemRel (P : Program) (F : Nat → Prop) (w : World) (bs : List BI) (mem : Mem) : Prop where
  len : bs.length = mem.length
  loc : ∀ k x T cs, nth bs k = some x → nth mem k = some (some (T, cs)) → liveL x cs → F x.p ∧ x.p < w.heap.size
  inj : ∀ k k' x x' T cs T' cs', nth bs k = some x → nth bs k' = some x' → nth mem k = some (some (T, cs)) → nth mem k' = some (some (T', cs')) → liveL x cs → liveL x' cs' → x.p = x'.p → k = k'
  cont : ∀ k T cs x, nth mem k = some (some (T, cs)) → isRowL cs = false → nth bs k = some x → ∃ vs : List Value, w.heap[x.p]? = some (.cells vs.toArray T (0, 0)) ∧ All2 (CV.Rel F w bs) cs vs
  row : ∀ k T fz es n ρ x, nth mem k = some (some (T, [.row fz es n ρ])) → nth bs k = some x → RowOk F w x T fz es n ρ
  lp : ∀ k T f i st cs x, nth mem k = some (some (T, .lp f i st :: cs)) → nth bs k = some x → LpOk P F w bs x f i st cs

theorem liveL_lp {x : BI} {f i : Nat} {st : LpS} {cs : List CV} : liveL x (.lp f i st :: cs) := by
  unfold liveL
  split
  · simp_all
  · trivial

theorem liveL_of {x : BI} {cs : List CV} (h : isRowL cs = false) : liveL x cs := by
  unfold liveL
  split
  · simp [isRowL] at h
  · trivial

/-- how far a world and what is known of it may have gone on; the first K blocks are where they were -/
structure Ext (K : Nat) (F : Nat → Prop) (w : World) (bs : List BI) (F' : Nat → Prop) (w' : World) (bs' : List BI) : Prop where
  size : w.heap.size ≤ w'.heap.size
  F1 : ∀ p, p < w.heap.size → F' p → F p
  F2 : ∀ p, F p → p < w.heap.size → (∀ x ∈ bs, x.p ≠ p) → F' p
  same : ∀ p, p < w.heap.size → (¬ F p ∨ ∀ x ∈ bs, x.p ≠ p) → w'.heap[p]? = w.heap[p]?
  os : w'.os = w.os
  tape : w'.tape = w.tape
  output : w'.output = w.output
  pre : ∀ k x, k < K → nth bs k = some x → nth bs' k = some x
  mem : ∀ x ∈ bs', (∃ y ∈ bs, y.p = x.p) ∨ w.heap.size ≤ x.p

theorem nth_append {α : Type} {l r : List α} {k : Nat} {p : α} (h : nth l k = some p) : nth (l ++ r) k = some p := by
  rw [nth_eq] at h ⊢
  rw [List.getElem?_append_left (by rcases Nat.lt_or_ge k l.length with h' | h'; exact h'; simp [List.getElem?_eq_none h'] at h)]
  exact h

theorem nth_mem {α : Type} {l : List α} {k : Nat} {p : α} (h : nth l k = some p) : p ∈ l := by
  rw [nth_eq] at h
  exact List.mem_of_getElem? h

theorem mem_nth {α : Type} {l : List α} {p : α} (h : p ∈ l) : ∃ k, nth l k = some p := by
  obtain ⟨k, hk⟩ := List.getElem?_of_mem h
  exact ⟨k, by rw [nth_eq]; exact hk⟩

theorem nth_lt {α : Type} {l : List α} {k : Nat} {p : α} (h : nth l k = some p) : k < l.length := by
  rw [nth_eq] at h
  rcases Nat.lt_or_ge k l.length with h' | h'
  · exact h'
  · simp [List.getElem?_eq_none h'] at h

theorem Ext.refl {K F w bs} : Ext K F w bs F w bs := ⟨Nat.le_refl _, fun _ _ h => h, fun _ h _ _ => h, fun _ _ _ => rfl, rfl, rfl, rfl, fun _ _ _ h => h, fun x h => .inl ⟨x, h, rfl⟩⟩

theorem Ext.weak {K K' F w bs F' w' bs'} (h : Ext K F w bs F' w' bs') (hK : K' ≤ K) : Ext K' F w bs F' w' bs' :=
  ⟨h.size, h.F1, h.F2, h.same, h.os, h.tape, h.output, fun k x hk => h.pre k x (by omega), h.mem⟩

theorem Ext.away {K F w bs F' w' bs'} (h : Ext K F w bs F' w' bs') {p : Nat} (hp : p < w.heap.size) (hb : ∀ x ∈ bs, x.p ≠ p) : ∀ x ∈ bs', x.p ≠ p := by
  intro x hx e
  rcases h.mem x hx with ⟨y, hy, he⟩ | hs
  · exact hb y hy (he.trans e)
  · omega

theorem Ext.trans {K K' F w bs F' w' bs' F'' w'' bs''} (h : Ext K F w bs F' w' bs') (g : Ext K' F' w' bs' F'' w'' bs'') (hK : K ≤ K') : Ext K F w bs F'' w'' bs'' := by
  refine ⟨Nat.le_trans h.size g.size, fun p hp hf => h.F1 p hp (g.F1 p (Nat.lt_of_lt_of_le hp h.size) hf), fun p hp hps hb => g.F2 p (h.F2 p hp hps hb) (Nat.lt_of_lt_of_le hps h.size) (h.away hps hb), fun p hp hb => ?_,
    g.os.trans h.os, g.tape.trans h.tape, g.output.trans h.output, fun k x hk hx => g.pre k x (by omega) (h.pre k x hk hx), fun x hx => ?_⟩
  · rw [g.same p (Nat.lt_of_lt_of_le hp h.size) (hb.imp (fun hn hf => hn (h.F1 p hp hf)) (h.away hp))]
    exact h.same p hp hb
  · rcases g.mem x hx with ⟨y, hy, he⟩ | hs
    · rcases h.mem y hy with ⟨z, hz, he'⟩ | hs'
      · exact .inl ⟨z, hz, he'.trans he⟩
      · exact .inr (by omega)
    · exact .inr (Nat.le_trans h.size hs)

theorem Ext.grow {F w bs F' w' bs'} (h : Ext bs.length F w bs F' w' bs') : Grow F F' bs bs' w w' :=
  ⟨h.size, h.F1, fun p hp hF => h.same p hp (.inl hF), fun k p hk => h.pre k p (nth_lt hk) hk⟩

/-- what holds of plain data goes on holding -/
theorem Ext.grow0 {K F w bs F' w' bs'} (h : Ext K F w bs F' w' bs') : Grow F F' [] [] w w' :=
  ⟨h.size, h.F1, fun p hp hF => h.same p hp (.inl hF), fun k p hk => by simp [nth] at hk⟩

theorem Ext.below {K F w F' w' bs'} (h : Ext K F w [] F' w' bs') : Below w.heap.size w w' :=
  ⟨h.os, h.tape, h.output, h.size, fun p hp => h.same p hp (.inr (by simp))⟩

/-- a growth that keeps all the blocks that there are -/
theorem Ext.of_below {K F w bs w'} (h : Below w.heap.size w w') : Ext K F w bs F w' bs :=
  ⟨h.size, fun _ _ h => h, fun _ h _ _ => h, fun p hp _ => h.block p hp, h.os, h.tape, h.output, fun _ _ _ h => h, fun x h => .inl ⟨x, h, rfl⟩⟩

theorem RowOk.grow {F F' w w' x T fz es n ρ} (h : RowOk F w x T fz es n ρ) (g : Grow F F' [] [] w w') (hb : 0 < x.cap → w'.heap[x.p]? = w.heap[x.p]?) : RowOk F' w' x T fz es n ρ := by
  refine ⟨h.len, h.le, h.mx, fun hn => ?_, fun hn hz => ⟨fun hF => (h.frz hn hz).1 (g.F1 _ (h.frz hn hz).2 hF), Nat.lt_of_lt_of_le (h.frz hn hz).2 g.size⟩⟩
  obtain ⟨arr, h1, h2, val, h3, h4⟩ := h.blk hn
  exact ⟨arr, by rw [hb hn]; exact h1, h2, val, h3, fun i f s hi hf => (h4 i f s hi hf).grow g⟩

theorem MemRel.below {F w bs mem w'} (hm : MemRel P F w bs mem) (h : Below w.heap.size w w') : MemRel P F w' bs mem := by
  have g := (Ext.of_below (F := F) (bs := bs) (K := bs.length) h).grow
  refine ⟨hm.len, fun k x T cs hk hc hl => ⟨(hm.loc k x T cs hk hc hl).1, Nat.lt_of_lt_of_le (hm.loc k x T cs hk hc hl).2 h.size⟩, hm.inj, fun k T cs x hc hr hp => ?_, fun k T fz es n ρ x hc hp => ?_, fun k T f i st cs x hc hp => (hm.lp k T f i st cs x hc hp).grow g (h.block x.p (hm.loc k x T _ hp hc liveL_lp).2)⟩
  · obtain ⟨vs, hv, hr'⟩ := hm.cont k T cs x hc hr hp
    exact ⟨vs, by rw [h.block x.p (hm.loc k x T cs hp hc (liveL_of hr)).2]; exact hv, hr'.imp fun _ _ hx => hx.grow g⟩
  · have hr := hm.row k T fz es n ρ x hc hp
    refine hr.grow (Ext.of_below (F := F) (bs := bs) (K := bs.length) h).grow0 fun hn => ?_
    obtain ⟨arr, h1, _⟩ := hr.blk hn
    exact h.block _ (Array.getElem?_eq_some_iff.1 h1).1

theorem cellsOfL_nth : ∀ (es : List Sh) (i k : Nat) (ρ : Val), nth (cellsOfL es i ρ) k = match nth es k with | some s => some (cellOf s (ρ.at (i + k))) | none => none
  | [], _, _, _ => by simp [cellsOfL, nth]
  | s :: r, i, 0, ρ => by simp [cellsOfL, nth]
  | s :: r, i, k + 1, ρ => by
    simp only [cellsOfL, nth]
    rw [cellsOfL_nth r (i + 1) k ρ, show i + 1 + k = i + (k + 1) by omega]

theorem cellsOfL_length : ∀ (es : List Sh) (i : Nat) (ρ : Val), (cellsOfL es i ρ).length = es.length
  | [], _, _ => rfl
  | _ :: r, i, ρ => by simp [cellsOfL, cellsOfL_length r (i + 1) ρ]

/-- what a load reads -/
theorem loadVar_ok {F : Nat → Prop} {w : World} {bs : List BI} {t : TypeId} {cs : List CV} {o : Nat} {a : A1} {vs : List Value} (h : partOf P t cs o = some a) (hr : All2 (CV.Rel F w bs) cs vs) (p q : Nat) :
    ∃ z, a.Rel F w bs z ∧ ∀ w' : World, (∀ j v, vs[j]? = some v → w'.cell? ⟨p, q + j, none⟩ = some v) → (loadVar t ⟨p, q + o, none⟩).run P w' = .ok z w' := by
  unfold partOf at h
  split at h
  · rename_i hi
    split at h
    · rename_i l hl
      simp at h; subst h
      rw [dropN_eq] at hl
      obtain ⟨hl, hlen⟩ := takeN_some hl
      obtain ⟨j, hj⟩ := info_of_isAggT hi
      rw [cellsOf_eq hj] at hl hlen
      refine ⟨.agg ((vs.drop o).take j.size).toArray, ⟨_, rfl, by rw [hl]; exact (hr.drop o).take _⟩, fun w' hw' => ?_⟩
      have hlen2 : ((vs.drop o).take j.size).length = j.size := by
        have := hr.length
        simp at hlen ⊢
        omega
      have hload := run_loadCells_list (P := P) w' ⟨p, q + o, none⟩ ((vs.drop o).take j.size) (fun k v hk => by
        rw [addr_add, Nat.add_assoc]
        refine hw' (o + k) v ?_
        rw [List.getElem?_take] at hk
        split at hk
        · simpa [List.getElem?_drop] using hk
        · simp at hk)
      rw [hlen2] at hload
      unfold loadVar
      simp only [Sem.run_bind, isAggT_ok hi, Result.andThen_ok, if_true, run_sizeOf' hj, hload, Sem.run_pure]
    · simp at h
  · rename_i hi
    split at h
    · rename_i x hx
      simp at h; subst h
      obtain ⟨v, hv, hrel⟩ := hr.nth hx
      refine ⟨v, hrel, fun w' hw' => ?_⟩
      unfold loadVar
      simp only [Sem.run_bind, isAggT_ok hi, Result.andThen_ok, Bool.false_eq_true, if_false, run_load, hw' o v hv]
    · simp at h
  · simp at h

theorem evLoad_ok {F : Nat → Prop} {w : World} {bs : List BI} {mem : Mem} {t : TypeId} {x r : AV} (h : evLoad P mem t x = some r) (hm : MemRel P F w bs mem) {v : Value} (hx : x.Rel F w bs v) :
    ∃ a p o z, r = .one a ∧ v = .pointer (some ⟨p, o, none⟩) ∧ a.Rel F w bs z ∧ ∀ w', Below w.heap.size w w' → (loadVar t ⟨p, o, none⟩).run P w' = .ok z w' := by
  unfold evLoad at h
  split at h
  · rename_i b o
    split at h
    · rename_i T cs hmem
      split at h
      · simp at h
      · rename_i hrow
        split at h
        · rename_i a ha
          simp at h; subst h
          cases hx with
          | ptr hb =>
            rename_i p
            have hrow : isRowL cs = false := by simpa using hrow
            obtain ⟨vs, hheap, hr⟩ := hm.cont b T cs p hmem hrow hb
            obtain ⟨z, hz, hrun⟩ := loadVar_ok ha hr p.p 0
            refine ⟨a, p.p, o, z, rfl, rfl, hz, fun w' hw' => ?_⟩
            have := hrun w' (fun j v hv => by
              have hb2 : w'.heap[p.p]? = some (.cells vs.toArray T (0, 0)) := by rw [hw'.block p.p (hm.loc b p T cs hb hmem (liveL_of hrow)).2]; exact hheap
              rw [cell_of_row w' p.p (0 + j) _ _ _ hb2]
              simpa using hv)
            rwa [Nat.zero_add] at this
        · simp at h
    · simp at h
  · rename_i es off ρ0
    split at h
    · rename_i a ha
      simp at h; subst h
      cases hx with
      | rop val hb hF hc hr =>
        rename_i p o
        have hrel : All2 (CV.Rel F w bs) (cellsOfL es 0 ρ0) ((List.range es.length).map val) := by
          refine All2.of_nth (by simp [cellsOfL_length]) fun i x v hx hv => ?_
          rw [cellsOfL_nth] at hx
          split at hx
          · rename_i s hs
            simp at hx; subst hx
            have him : i < es.length := by
              rw [nth_eq] at hs
              rcases Nat.lt_or_ge i es.length with h' | h'
              · exact h'
              · simp [List.getElem?_eq_none h'] at hs
            rw [nth_eq] at hv
            simp only [List.getElem?_map] at hv
            rw [List.getElem?_range him] at hv
            simp at hv; subst hv
            exact (hr i s hs).mono (Nat.le_refl _) (fun _ _ h => h) (fun _ _ _ => rfl) (fun k p h => by simp [nth] at h)
          · simp at hx
        obtain ⟨z, hz, hrun⟩ := loadVar_ok ha hrel p o
        refine ⟨a, p, o + off, z, rfl, rfl, hz, fun w' hw' => ?_⟩
        refine hrun w' (fun j v hv => ?_)
        simp only [List.getElem?_map] at hv
        rcases Nat.lt_or_ge j es.length with hjm | hjm
        · rw [List.getElem?_range hjm] at hv
          simp at hv; subst hv
          rw [hw'.cell hb]
          exact hc j hjm
        · rw [List.getElem?_eq_none (by simpa using hjm)] at hv
          simp at hv
    · simp at h
  · simp at h

theorem putCells_at {F : Nat → Prop} {w : World} {bs : List BI} : ∀ {news cs : List CV} {o : Nat} {vs nv : List Value}, All2 (CV.Rel F w bs) cs vs → All2 (CV.Rel F w bs) news nv → o + nv.length ≤ vs.length →
    All2 (CV.Rel F w bs) (putCells cs o news) (vs.take o ++ nv ++ vs.drop (o + nv.length))
  | [], cs, o, vs, nv, h, hn, hl => by cases hn; simpa [putCells] using h
  | x :: r, cs, o, vs, nv, h, hn, hl => by
    cases hn with
    | cons hx hr =>
      rename_i y nv
      have := putCells_at (o := o + 1) (h.set o hx) hr (by simp at hl ⊢; omega)
      simp only [putCells]
      have e : (vs.set o y).take (o + 1) ++ nv ++ (vs.set o y).drop (o + 1 + nv.length) = vs.take o ++ y :: nv ++ vs.drop (o + (y :: nv).length) := by
        have ho : o < vs.length := by simp at hl; omega
        rw [List.take_set, List.drop_set_of_lt (by omega)]
        rw [List.take_succ_eq_append_getElem ho]
        rw [List.set_append_right _ _ (by simp; omega)]
        simp [Nat.min_eq_left (Nat.le_of_lt ho), Nat.add_assoc, Nat.add_comm 1]
      rwa [e] at this

def SlotRel (F : Nat → Prop) (w : World) (bs : List BI) (a : Act) (s : Slot) (x : Value) : Prop := (KH a s.keys → s.v.Rel F w bs x) ∧ (¬ KH a s.keys → x = undef)

structure StRel (P : Program) (D : List Deferred) (F : Nat → Prop) (w : World) (bs : List BI) (s : St) (a : Act) : Prop where
  defers : a.defers = D
  len : s.tmps.length = a.tmps.size
  slots : ∀ i sl x, nth s.tmps i = some sl → a.tmps[i]? = some x → SlotRel F w bs a sl x
  mem : MemRel P F w bs s.mem

variable {D : List Deferred}

theorem KH_nil {a : Act} : KH a [] := fun _ h => by cases h

theorem keyIn_ok {K : List (Nat × Bool)} {p : Nat × Bool} (h : keyIn K p = true) : p ∈ K := by
  simp only [keyIn, List.any_eq_true, Bool.and_eq_true, beq_iff_eq] at h
  obtain ⟨q, hq, h1, h2⟩ := h
  obtain ⟨a, b⟩ := q
  obtain ⟨c, d⟩ := p
  simp at h1 h2
  subst h1; subst h2
  exact hq

theorem opnd_ok {F w bs s} {a : Act} (hs : StRel P D F w bs s a) {K : List (Nat × Bool)} (hK : KH a K) {x : Operand} {av : AV} (h : opnd s K x = some av) : av.Rel F w bs (a.eval x) := by
  unfold opnd at h
  split at h
  · rename_i t
    split at h
    · rename_i ks v hn
      split at h
      · rename_i hall
        simp at h; subst h
        have hi : t < a.tmps.size := by
          rw [← hs.len]
          rw [nth_eq] at hn
          rcases Nat.lt_or_ge t s.tmps.length with h' | h'
          · exact h'
          · simp [List.getElem?_eq_none h'] at hn
        have hx : a.tmps[t]? = some a.tmps[t] := Array.getElem?_eq_getElem hi
        have := (hs.slots t _ _ hn hx).1 (fun p hp => hK p (keyIn_ok (List.all_eq_true.1 hall p hp)))
        simpa [Act.eval, Array.getD_eq_getD_getElem?, hx] using this
      · simp at h
    · simp at h
  · exact liftV_ok h
  · rename_i f
    simp at h; subst h
    exact CV.Rel.fn (vf := []) (vc := []) rfl rfl (fun i x v h => by simp [nth] at h) (fun i x v h => by simp [nth] at h)
  · simp at h

/-- the state behind an operation -/
theorem StRel.put {F w bs s} {a : Act} (hs : StRel P D F w bs s a) {dst : Option Tmp} {ks : List (Nat × Bool)} {v : AV} {x : Value} (hd : ∀ p ∈ ks, some p.1 ≠ dst) (h1 : KH a ks → v.Rel F w bs x) (h2 : ¬ KH a ks → x = undef) :
    StRel P D F w bs (s.put dst ks v) (a.put dst x) := by
  cases dst with
  | none => exact hs
  | some d =>
    refine ⟨hs.defers, ?_, fun i sl y hsl hy => ?_, hs.mem⟩
    · simp [St.put, Act.put, setN_eq, hs.len]
    · simp only [St.put, Act.put] at hsl hy ⊢
      rw [setN_eq, nth_eq, List.getElem?_set] at hsl
      rw [Array.getElem?_setIfInBounds] at hy
      have kh : ∀ K : List (Nat × Bool), (∀ p ∈ K, p.1 ≠ d) → (KH { a with tmps := a.tmps.setIfInBounds d x } K ↔ KH a K) := by
        intro K hK
        constructor
        · intro h p hp
          have := h p hp
          simp only [Array.getElem?_setIfInBounds] at this
          rw [if_neg (fun e => hK p hp e.symm)] at this
          exact this
        · intro h p hp
          simp only [Array.getElem?_setIfInBounds]
          rw [if_neg (fun e => hK p hp e.symm)]
          exact h p hp
      by_cases hid : d = i
      · subst hid
        simp only [if_true] at hsl hy
        split at hsl
        · simp at hsl; subst hsl
          split at hy
          · simp at hy; subst hy
            have hk := kh ks (fun p hp e => hd p hp (by rw [e]))
            exact ⟨fun h => h1 (hk.1 h), fun h => h2 (fun h' => h (hk.2 h'))⟩
          · simp at hy
        · simp at hsl
      · rw [if_neg hid] at hsl hy
        simp only [List.getElem?_map, Option.map_eq_some_iff] at hsl
        obtain ⟨sl0, hsl0, rfl⟩ := hsl
        have h0 := hs.slots i sl0 y (by rw [nth_eq]; exact hsl0) hy
        unfold dropKey
        split
        · exact ⟨fun _ => trivial, fun h => (h KH_nil).elim⟩
        · rename_i hany
          have hno : ∀ p ∈ sl0.keys, p.1 ≠ d := fun p hp e => hany (List.any_eq_true.2 ⟨p, hp, by simp [e]⟩)
          have hk := kh sl0.keys hno
          exact ⟨fun h => h0.1 (hk.1 h), fun h => h0.2 (fun h' => h (hk.2 h'))⟩

theorem StRel.ext {F w bs F' w' bs' s mem'} {a : Act} (hs : StRel P D F w bs s a) (he : Ext bs.length F w bs F' w' bs') (hm : MemRel P F' w' bs' mem') : StRel P D F' w' bs' { s with mem := mem' } a :=
  ⟨hs.defers, hs.len, fun i sl x h1 h2 => ⟨fun hk => AV.Rel.grow he.grow ((hs.slots i sl x h1 h2).1 hk), (hs.slots i sl x h1 h2).2⟩, hm⟩

end
end Go.Sx
