/-
  A symbolic evaluator for the code of this model, with its proof of soundness (part A: the evaluator).
  Own work of this claim; nothing is trusted: part B proves that what it says holds of every run.
-/
import Derived.WalkKit
import Derived.WalkSpells
import Derived.WalkLawsBesides
import Derived.Deep.Quiet
import Derived.KernelRfl
namespace Go.Sx

/-- the shape of one cell of data -/
inductive Sh where
  | bool
  | int (k : IntKind)
  | str
  | sl (es : List Sh)

/-- what stands at each place of a datum: a place is a path of numbers -/
structure Val where
  B : List Nat → Bool
  N : List Nat → Int
  S : List Nat → ByteArray
  L : List Nat → Nat

def Val.at (ρ : Val) (i : Nat) : Val := ⟨fun p => ρ.B (i :: p), fun p => ρ.N (i :: p), fun p => ρ.S (i :: p), fun p => ρ.L (i :: p)⟩

/-- the elements from a number on -/
def Val.from (ρ : Val) (lo : Nat) : Val where
  B := fun | [] => false | i :: p => ρ.B ((lo + i) :: p)
  N := fun | [] => 0 | i :: p => ρ.N ((lo + i) :: p)
  S := fun | [] => .empty | i :: p => ρ.S ((lo + i) :: p)
  L := fun | [] => 0 | i :: p => ρ.L ((lo + i) :: p)

/-- The abstract value of one cell. -/
inductive CV where
  | any
  | bool (b : Bool)
  | int (k : IntKind) (n : Int)
  | str (s : ByteArray)
  | nilp
  | ptr (b o : Nat)
  | rop (es : List Sh) (off : Nat) (ρ : Val)
  | nils
  | sl (es : List Sh) (n : Nat) (ρ : Val)
  | fn (f : Fn) (first cap : List CV)
  | nilf
  | nili
  | iface (t : TypeId) (v : CV)

def cellOf : Sh → Val → CV
  | .bool, ρ => .bool (ρ.B [])
  | .int k, ρ => .int k (ρ.N [])
  | .str, ρ => .str (ρ.S [])
  | .sl es, ρ => .sl es (ρ.L []) ρ

def cellsOfL : List Sh → Nat → Val → List CV
  | [], _, _ => []
  | s :: r, i, ρ => cellOf s (ρ.at i) :: cellsOfL r (i + 1) ρ

inductive A1 where
  | c (x : CV)
  | agg (l : List CV)

inductive AV where
  | any
  | one (x : A1)
  | tup (l : List A1)

inductive Tree (α : Type) where
  | leaf (a : α)
  | br (c : Bool) (t e : Tree α)
  | need (c : Bool) (t : Tree α)
  | fail

def Tree.bind {α β : Type} : Tree α → (α → Tree β) → Tree β
  | .leaf a, f => f a
  | .br c t e, f => .br c (t.bind f) (e.bind f)
  | .need c t, f => .need c (t.bind f)
  | .fail, _ => .fail

def Tree.sel {α : Type} : Tree α → Option α
  | .leaf a => some a
  | .br c t e => bif c then t.sel else e.sel
  | .need c t => bif c then t.sel else none
  | .fail => none

def Tree.ofOpt {α : Type} : Option α → Tree α
  | some a => .leaf a
  | none => .fail

def nth {α : Type} : List α → Nat → Option α
  | [], _ => none
  | a :: _, 0 => some a
  | _ :: l, n + 1 => nth l n

def setN {α : Type} : List α → Nat → α → List α
  | [], _, _ => []
  | _ :: l, 0, b => b :: l
  | a :: l, n + 1, b => a :: setN l n b

structure Slot where
  keys : List (Nat × Bool)
  v : AV

abbrev Mem := List (Option (TypeId × List CV))

structure St where
  tmps : List Slot
  mem : Mem

def aany : AV := .any

def liftV : Value → Option AV
  | .bool b => some (.one (.c (.bool b)))
  | .int k n => some (.one (.c (.int k n)))
  | .string s => some (.one (.c (.str s)))
  | .pointer none => some (.one (.c .nilp))
  | .slice none 0 0 => some (.one (.c .nils))
  | .nilFunc => some (.one (.c .nilf))
  | .nilIface => some (.one (.c .nili))
  | _ => none

def liftCell : Value → Option CV
  | .bool b => some (.bool b)
  | .int k n => some (.int k n)
  | .string s => some (.str s)
  | .pointer none => some .nilp
  | .slice none 0 0 => some .nils
  | .nilFunc => some .nilf
  | .nilIface => some .nili
  | _ => none

def liftCells : List Value → Option (List CV)
  | [] => some []
  | v :: r => match liftCell v, liftCells r with
    | some c, some l => some (c :: l)
    | _, _ => none

def keyIn (K : List (Nat × Bool)) (p : Nat × Bool) : Bool := K.any fun q => q.1 == p.1 && q.2 == p.2

def opnd (s : St) (K : List (Nat × Bool)) : Operand → Option AV
  | .tmp t => match nth s.tmps t with
    | some ⟨ks, v⟩ => if ks.all (keyIn K) then some v else none
    | none => none
  | .const v => liftV v
  | .func f => some (.one (.c (.fn (.func f) [] [])))
  | .global _ => none

def mergeC (c : Bool) : CV → CV → CV
  | .bool a, .bool b => .bool (bif c then a else b)
  | .int k a, .int k' b => if k = k' then .int k (bif c then a else b) else .any
  | .str a, .str b => .str (bif c then a else b)
  | .nilp, .nilp => .nilp
  | .nils, .nils => .nils
  | .nilf, .nilf => .nilf
  | .nili, .nili => .nili
  | _, _ => .any

def mergeCs (c : Bool) : List CV → List CV → Option (List CV)
  | [], [] => some []
  | a :: l, b :: r => match mergeCs c l r with
    | some m => some (mergeC c a b :: m)
    | none => none
  | _, _ => none

def merge1 (c : Bool) : A1 → A1 → Option A1
  | .c a, .c b => some (.c (mergeC c a b))
  | .agg a, .agg b => match mergeCs c a b with
    | some m => some (.agg m)
    | none => none
  | _, _ => none

def merge1s (c : Bool) : List A1 → List A1 → Option (List A1)
  | [], [] => some []
  | a :: l, b :: r => match merge1 c a b, merge1s c l r with
    | some x, some m => some (x :: m)
    | _, _ => none
  | _, _ => none

def mergeA (c : Bool) : AV → AV → AV
  | .tup a, .tup b => match merge1s c a b with
    | some m => .tup m
    | none => aany
  | .one (.c a), .one (.c b) => .one (.c (mergeC c a b))
  | .one (.agg a), .one (.agg b) => match mergeCs c a b with
    | some m => .one (.agg m)
    | none => aany
  | _, _ => aany

/-- Comparison of cells, one by one. -/
def eqC : CV → CV → Option Bool
  | .bool a, .bool b => some (a == b)
  | .int k a, .int k' b => if k = k' then some (a == b) else none
  | .str a, .str b => some (a == b)
  | _, _ => none

/-- the cells of each field of a struct whose fields are single cells of plain types -/
def plainField (P : Program) (f : Field) : Bool :=
  f.name != "_" && P.cellsOf f.type == 1 && (match P.underlying f.type with | some .bool | some (.int _) | some .string => true | _ => false)

def eqFields (P : Program) (xs ys : List CV) : List Field → Option Bool
  | [] => some true
  | f :: r =>
    if plainField P f then
      match nth xs f.offset, nth ys f.offset with
      | some a, some b => match P.underlying f.type, a, b, eqFields P xs ys r with
        | some .bool, .bool p, .bool q, some e => some ((p == q) && e)
        | some (.int _), .int k p, .int k' q, some e => if k = k' then some ((p == q) && e) else none
        | some .string, .str p, .str q, some e => some ((p == q) && e)
        | _, _, _, _ => none
      | _, _ => none
    else none

def eqVal (P : Program) (t : TypeId) : A1 → A1 → Option Bool
  | .c (.bool a), .c (.bool b) => match P.underlying t with
    | some .bool => some (a == b)
    | _ => none
  | .agg xs, .agg ys => match P.underlying t with
    | some (.struct fs) => if P.stoodInHeld t || P.eqGuardType P.depth t then none else eqFields P xs ys fs.toList
    | _ => none
  | .c .nils, .c .nils => match P.underlying t with | some (.slice _) => some true | _ => none
  | .c .nilp, .c .nilp => match P.underlying t with | some (.pointer _) => some true | _ => none
  | .c (.ptr _ _), .c .nilp => match P.underlying t with | some (.pointer _) => some false | _ => none
  | _, _ => none

def lt (a b : Int) : Bool := decide (a < b)
def le (a b : Int) : Bool := decide (a ≤ b)

def imax (a b : Int) : Int := bif lt a b then b else a
def imin (a b : Int) : Int := bif lt b a then b else a
def shlI (k : IntKind) (a b : Int) : Int := k.wrap (a * 2 ^ (min b.toNat k.bits))
def shrI (k : IntKind) (a b : Int) : Int := a.fdiv (2 ^ (min b.toNat k.bits))

def evIntOp (op : BinOp) (k : IntKind) (a b : Int) : Tree AV :=
  let i (n : Int) : Tree AV := .leaf (.one (.c (.int k n)))
  let b' (x : Bool) : Tree AV := .leaf (.one (.c (.bool x)))
  match op with
  | .add => i (k.wrap (a + b))
  | .sub => i (k.wrap (a - b))
  | .mul => i (k.wrap (a * b))
  | .quo => .need (!(b == 0)) (i (k.wrap (a.tdiv b)))
  | .rem => .need (!(b == 0)) (i (a.tmod b))
  | .eql => b' (a == b)
  | .neq => b' (a != b)
  | .lss => b' (lt a b)
  | .leq => b' (le a b)
  | .gtr => b' (lt b a)
  | .geq => b' (le b a)
  | _ => .fail

def evBin (P : Program) (op : BinOp) (t : TypeId) : AV → AV → Tree AV
  | .one (.c (.int k a)), .one (.c (.int k' b)) =>
    match op with
    | .shl => .need (le 0 b) (.leaf (.one (.c (.int k (shlI k a b)))))
    | .shr => .need (le 0 b) (.leaf (.one (.c (.int k (shrI k a b)))))
    | _ => if k = k' then evIntOp op k a b else .fail
  | .one (.c (.str a)), .one (.c (.str b)) =>
    match op with
    | .eql => .leaf (.one (.c (.bool (a.toList == b.toList))))
    | .neq => .leaf (.one (.c (.bool (!(a.toList == b.toList)))))
    | _ => .fail
  | .one a, .one b =>
    match op with
    | .eql => match eqVal P t a b with
      | some e => .leaf (.one (.c (.bool e)))
      | none => .fail
    | .neq => match eqVal P t a b with
      | some e => .leaf (.one (.c (.bool (!e))))
      | none => .fail
    | _ => .fail
  | _, _ => .fail

def evUn (op : UnOp) : AV → Tree AV
  | .one (.c (.bool b)) => match op with
    | .not => .leaf (.one (.c (.bool (!b))))
    | _ => .fail
  | .one (.c (.int k n)) => match op with
    | .neg => .leaf (.one (.c (.int k (k.wrap (0 - n)))))
    | _ => .fail
  | _ => .fail

/-- the part of an aggregate -/
def takeN {α : Type} : List α → Nat → Option (List α)
  | _, 0 => some []
  | [], _ + 1 => none
  | a :: l, n + 1 => match takeN l n with | some r => some (a :: r) | none => none

def dropN {α : Type} : List α → Nat → List α
  | l, 0 => l
  | [], _ + 1 => []
  | _ :: l, n + 1 => dropN l n

def isAggT (P : Program) (t : TypeId) : Option Bool :=
  match P.underlying t with
  | some (.struct _) | some (.array _ _) => some true
  | some _ => some false
  | none => none

def partOf (P : Program) (t : TypeId) (cs : List CV) (off : Nat) : Option A1 :=
  match isAggT P t with
  | some true => match takeN (dropN cs off) (P.cellsOf t) with | some l => some (.agg l) | none => none
  | some false => match nth cs off with | some x => some (.c x) | none => none
  | none => none

def A1.cells : A1 → List CV
  | .agg l => l
  | .c x => [x]

/-- writing cells from an offset on -/
def putCells : List CV → Nat → List CV → List CV
  | cs, _, [] => cs
  | cs, o, x :: r => putCells (setN cs o x) (o + 1) r

/-- struct and array literals -/
def evFill (places : Nat → Option (Nat × Nat)) : List CV → List (Nat × A1) → Option (List CV)
  | cs, [] => some cs
  | cs, (i, v) :: r => match places i with
    | none => none
    | some (off, size) =>
      if v.cells.length == size && Nat.ble (off + v.cells.length) cs.length then evFill places (putCells cs off v.cells) r else none

def evParts (ρ : Operand → Option AV) : List (Nat × Operand) → Option (List (Nat × A1))
  | [] => some []
  | (i, x) :: r => match ρ x, evParts ρ r with
    | some (.one a), some l => some ((i, a) :: l)
    | _, _ => none

def zeroCellsOf (P : Program) (t : TypeId) : Option (List CV) :=
  match P.info? t with
  | some i => match i.zero with
    | some z => liftCells z.cells.toList
    | none => none
  | none => none

def evBuild (P : Program) (t : TypeId) (parts : List (Nat × A1)) : Option AV :=
  match zeroCellsOf P t, P.underlying t with
  | some z, some (.struct fs) => match evFill (fun i => match nth fs.toList i with | some f => (match P.info? f.type with | some j => some (f.offset, j.size) | none => none) | none => none) z parts with
    | some cs => if fs.toList.all (fun f => (P.info? f.type).isSome) then some (.one (.agg cs)) else none
    | none => none
  | some z, some (.array _ e) => match P.info? e with
    | some j => match evFill (fun i => some (i * j.size, j.size)) z parts with
      | some cs => some (.one (.agg cs))
      | none => none
    | none => none
  | _, _ => none

def toInt64 (n : Nat) : Int := Int.ofNat n

def evLen (P : Program) (t : TypeId) : AV → Tree AV
  | .one (.c (.sl _ n _)) => match P.underlying t with
    | some (.slice _) => .leaf (.one (.c (.int .i64 (toInt64 n))))
    | _ => .fail
  | .one (.c .nils) => match P.underlying t with
    | some (.slice _) => .leaf (.one (.c (.int .i64 0)))
    | _ => .fail
  | .one (.c (.str s)) => match P.underlying t with
    | some .string => .leaf (.one (.c (.int .i64 (toInt64 s.size))))
    | _ => .fail
  | _ => .fail

def evMaxFrom (k : IntKind) : Int → List A1 → Option Int
  | a, [] => some a
  | a, .c (.int _ b) :: r => evMaxFrom k (imax a b) r
  | _, _ => none

def evMinFrom (k : IntKind) : Int → List A1 → Option Int
  | a, [] => some a
  | a, .c (.int _ b) :: r => evMinFrom k (imin a b) r
  | _, _ => none

def evMM (mx : Bool) : List A1 → Tree AV
  | .c (.int k a) :: r => match (if mx then evMaxFrom k a r else evMinFrom k a r) with
    | some n => .leaf (.one (.c (.int k n)))
    | none => .fail
  | _ => .fail

def evArgs (ρ : Operand → Option AV) : List Operand → Option (List A1)
  | [] => some []
  | x :: r => match ρ x, evArgs ρ r with
    | some (.one a), some l => some (a :: l)
    | _, _ => none

/-- a choice by a number among a list -/
def pickAt {α : Type} (i : Int) : Int → List α → Tree α
  | _, [] => .fail
  | _, [a] => .leaf a
  | j, a :: r => .br (i == j) (.leaf a) (pickAt i (j + 1) r)

def isFn : A1 → Bool
  | .c (.fn _ _ _) => true
  | _ => false

def mergeAt (i : Int) : Int → List A1 → AV
  | _, [] => .any
  | _, [a] => .one a
  | j, a :: r => mergeA (i == j) (.one a) (mergeAt i (j + 1) r)

def partsOf (P : Program) (e : TypeId) (cs : List CV) : (count off step : Nat) → Option (List A1)
  | 0, _, _ => some []
  | n + 1, off, step => match partOf P e cs off, partsOf P e cs n (off + step) step with
    | some a, some l => some (a :: l)
    | _, _ => none

def inRange (i : Int) (n : Nat) : Bool := le 0 i && lt i (toInt64 n)

def evIndex (P : Program) (t : TypeId) : AV → AV → Tree AV
  | .one (.agg cs), .one (.c (.int _ i)) => match P.underlying t with
    | some (.array len e) => match P.info? e with
      | some j => match partsOf P e cs len 0 j.size with
        | some [] => .fail
        | some (p :: ps) => .need (inRange i len) (if isFn p then (pickAt i 0 (p :: ps)).bind fun a => .leaf (.one a) else .leaf (mergeAt i 0 (p :: ps)))
        | none => .fail
      | none => .fail
    | _ => .fail
  | _, _ => .fail

/-- the operations that neither read nor write memory -/
def evPure (P : Program) (ρ : List (Nat × Bool) → Operand → Option AV) : Op → Tree AV
  | .move x | .assign x => .ofOpt (ρ [] x)
  | .pick (.tmp t) a b => match ρ [] (.tmp t), ρ [(t, true)] a, ρ [(t, false)] b with
    | some (.one (.c (.bool c))), some va, some vb => .leaf (mergeA c va vb)
    | _, _, _ => .fail
  | .build t parts => match evParts (ρ []) parts.toList with
    | some l => .ofOpt (evBuild P t l)
    | none => .fail
  | .binOp op t x y _ => match ρ [] x, ρ [] y with
    | some a, some b => evBin P op t a b
    | _, _ => .fail
  | .unOp op _ x => match ρ [] x with
    | some a => evUn op a
    | none => .fail
  | .convert s d x => match P.underlying s, P.underlying d, ρ [] x with
    | some _, some (.int k), some (.one (.c (.int _ n))) => .leaf (.one (.c (.int k (k.wrap n))))
    | _, _, _ => .fail
  | .extract x i => match ρ [] x with
    | some (.tup l) => match nth l i with
      | some a => .leaf (.one a)
      | none => .fail
    | _ => .fail
  | .field t x i => match P.underlying t, ρ [] x with
    | some (.struct fs), some (.one (.agg cs)) => match nth fs.toList i with
      | some f => match partOf P f.type cs f.offset with
        | some a => .leaf (.one a)
        | none => .fail
      | none => .fail
    | _, _ => .fail
  | .fieldAddr t x i => match P.underlying t, ρ [] x with
    | some (.struct fs), some (.one (.c (.ptr b o))) => match nth fs.toList i with
      | some f => match P.info? f.type with
        | some j => if j.size == 0 then .fail else .leaf (.one (.c (.ptr b (o + f.offset))))
        | none => .fail
      | none => .fail
    | some (.struct fs), some (.one (.c (.rop es off ρ))) => match nth fs.toList i with
      | some f => match P.info? f.type with
        | some j => if j.size == 0 then .fail else .leaf (.one (.c (.rop es (off + f.offset) ρ)))
        | none => .fail
      | none => .fail
    | _, _ => .fail
  | .indexAddr t x i => match P.underlying t, ρ [] x, ρ [] i with
    | some (.slice e), some (.one (.c (.sl es n ρ))), some (.one (.c (.int _ i))) => match P.info? e with
      | some j => if j.size == es.length then .need (inRange i n) (.leaf (.one (.c (.rop es 0 (ρ.at i.toNat))))) else .fail
      | none => .fail
    | some (.array len e), some (.one (.c (.ptr b o))), some (.one (.c (.int _ i))) => match P.info? e with
      | some j => .need (inRange i len) ((pickAt i 0 (List.range len)).bind fun k => .leaf (.one (.c (.ptr b (o + k * j.size)))))
      | none => .fail
    | _, _, _ => .fail
  | .index t x i => match ρ [] x, ρ [] i with
    | some a, some b => evIndex P t a b
    | _, _ => .fail
  | .makeFunc f first cap => match evArgs (ρ []) first.toList, evArgs (ρ []) cap.toList with
    | some a, some b => match cellsOnly a, cellsOnly b with
      | some x, some y => .leaf (.one (.c (.fn f x y)))
      | _, _ => .fail
    | _, _ => .fail
  | .nilCheck x => match ρ [] x with
    | some (.one (.c (.ptr b o))) => .leaf (.one (.c (.ptr b o)))
    | some (.one (.c (.rop es off ρ))) => .leaf (.one (.c (.rop es off ρ)))
    | some (.one (.c (.fn (.func f) a b))) => .leaf (.one (.c (.fn (.func f) a b)))
    | _ => .fail
  | .call { callee := .builtin .len, args, argTypes } => match evArgs (ρ []) args.toList, argTypes.toList with
    | some [a], [t] => evLen P t (.one a)
    | _, _ => .fail
  | .call { callee := .builtin .max, args, .. } => match evArgs (ρ []) args.toList with
    | some l => evMM true l
    | none => .fail
  | .call { callee := .builtin .min, args, .. } => match evArgs (ρ []) args.toList with
    | some l => evMM false l
    | none => .fail
  | _ => .fail
 where
  cellsOnly : List A1 → Option (List CV)
  | [] => some []
  | .c x :: r => match cellsOnly r with | some l => some (x :: l) | none => none
  | _ => none

inductive XE where
  | normal
  | exit (id : Nat)
  | ret

structure Hd where
  pc : List (Nat × (List A1 → Option AV))
  lh : List ((Nat × Nat) × (St → Tree (XE × St)))

def lookPc : List (Nat × (List A1 → Option AV)) → Nat → Option (List A1 → Option AV)
  | [], _ => none
  | (k, F) :: r, f => if k == f then some F else lookPc r f

def lookLh : List ((Nat × Nat) × (St → Tree (XE × St))) → Nat → Nat → Option (St → Tree (XE × St))
  | [], _, _ => none
  | (k, F) :: r, f, i => if k.1 == f && k.2 == i then some F else lookLh r f i

/-- a call's target and arguments -/
def evTarget (ρ : Operand → Option AV) (c : Call) : Option (Nat × List A1) :=
  match c.callee with
  | .value x => match ρ x, evArgs ρ c.args.toList with
    | some (.one (.c (.fn (.func f) first cap))), some l => some (f, first.map .c ++ l ++ cap.map .c)
    | _, _ => none
  | _ => none

def closedC : CV → Bool
  | .ptr _ _ => false
  | .fn _ a b => closedCs a && closedCs b
  | .iface _ v => closedC v
  | _ => true
 where closedCs : List CV → Bool
  | [] => true
  | a :: l => closedC a && closedCs l

def closedA : A1 → Bool
  | .c x => closedC x
  | .agg l => l.all closedC

def callable (P : Program) (f : Nat) : Bool :=
  match nth P.funcs.toList f with
  | some fn => fn.name != "runtime.NumGoroutine" && fn.body.isSome
  | none => false

abbrev CallH := Nat → List A1 → Mem → Tree (AV × Mem)

def evLoad (P : Program) (mem : Mem) (t : TypeId) : AV → Option AV
  | .one (.c (.ptr b o)) => match nth mem b with
    | some (some (_, cs)) => match partOf P t cs o with
      | some a => some (.one a)
      | none => none
    | _ => none
  | .one (.c (.rop es off ρ)) => match partOf P t (cellsOfL es 0 ρ) off with
    | some a => some (.one a)
    | none => none
  | _ => none

/-- every operation: its value, and the memory behind it -/
def evOp (P : Program) (H : Hd) (call : CallH) (mem : Mem) (ρ : List (Nat × Bool) → Operand → Option AV) : Op → Tree (AV × Mem)
  | .alloc e => match zeroCellsOf P e with
    | some z => .leaf (.one (.c (.ptr mem.length 0)), mem ++ [some (e, z)])
    | none => .fail
  | .box e x => match ρ [] x with
    | some (.one a) => .leaf (.one (.c (.ptr mem.length 0)), mem ++ [some (e, a.cells)])
    | _ => .fail
  | .load t x => match ρ [] x with
    | some a => match evLoad P mem t a with
      | some v => .leaf (v, mem)
      | none => .fail
    | none => .fail
  | .store t x y => match ρ [] x, ρ [] y with
    | some (.one (.c (.ptr b o))), some (.one v) => match nth mem b, P.info? t with
      | some (some (T, cs)), some i => if v.cells.length == i.size && Nat.ble (o + i.size) cs.length then .leaf (.any, setN mem b (some (T, putCells cs o v.cells))) else .fail
      | _, _ => .fail
    | _, _ => .fail
  | .call c => match c.callee with
    | .value _ => match evTarget (ρ []) c with
      | some (f, args) => if callable P f then (match lookPc H.pc f with
        | some F => if args.all closedA then (match F args with
          | some r => .leaf (r, mem)
          | none => .fail) else .fail
        | none => call f args mem) else .fail
      | none => .fail
    | _ => (evPure P ρ (.call c)).bind fun v => .leaf (v, mem)
  | op => (evPure P ρ op).bind fun v => .leaf (v, mem)

def dropKey (d : Nat) (s : Slot) : Slot := if s.keys.any (fun p => p.1 == d) then ⟨[], .any⟩ else s

def St.put (s : St) (dst : Option Tmp) (ks : List (Nat × Bool)) (v : AV) : St :=
  match dst with
  | some d => { s with tmps := setN (s.tmps.map (dropKey d)) d ⟨ks, v⟩ }
  | none => s

/-- do the keys hold? -/
def gterm (s : St) : List (Nat × Bool) → Bool
  | [] => true
  | (d, b) :: r => (match nth s.tmps d with
    | some ⟨_, .one (.c (.bool c))⟩ => c == b
    | _ => true) && gterm s r

def Tree.toNeed {α : Type} (g : Bool) : Tree α → Tree α
  | .leaf a => .leaf a
  | .need c t => .need (!g || c) (t.toNeed g)
  | _ => .fail

/-- the keys of a guarded operation -/
def keysOf (ops : List Oper) (s : St) (j : Nat) (b : Bool) : Option (List (Nat × Bool)) :=
  match nth ops j with
  | some o => match o.dst with
    | some d => match nth s.tmps d with
      | some ⟨ks, .one (.c (.bool _))⟩ => some ((d, b) :: ks)
      | _ => none
    | none => none
  | none => none

def memOp : Op → Bool
  | .alloc _ | .box _ _ | .store _ _ _ => true
  | _ => false

/-- is the operation one that may be carried out in any order with its like? -/
def quietOp (H : Hd) (ρ : Operand → Option AV) : Op → Bool
  | .alloc _ | .box _ _ | .store _ _ _ => false
  | .call c => match c.callee with
    | .value _ => match evTarget ρ c with
      | some (f, _) => (lookPc H.pc f).isSome
      | none => false
    | _ => true
  | _ => true

def evOps (P : Program) (H : Hd) (call : CallH) (quiet : Bool) (all : List Oper) : List Oper → St → Tree St
  | [], s => .leaf s
  | o :: r, s => match o.guard with
    | none => if quiet && !quietOp H (opnd s []) o.op then .fail else
      (evOp P H call s.mem (fun K => opnd s K) o.op).bind fun x => evOps P H call quiet all r ({ s with mem := x.2 }.put o.dst [] x.1)
    | some (j, b) => match keysOf all s j b with
      | some K =>
        if !quietOp H (opnd s K) o.op || K.any (fun p => some p.1 == o.dst) then .fail else
        ((evOp P H call s.mem (fun K' => opnd s (K' ++ K)) o.op).toNeed (gterm s K)).bind fun x => evOps P H call quiet all r (s.put o.dst K x.1)
      | none => .fail

def unkey (s : Slot) : Slot := if s.keys.isEmpty then s else ⟨[], .any⟩

def nloops : Code → Nat
  | .seq a b => nloops a + nloops b
  | .cond _ a b => nloops a + nloops b
  | .block _ b => nloops b
  | .loop b => nloops b + 1
  | .scope b => nloops b
  | _ => 0

def nthLoop : Code → Nat → Option Code
  | .seq a b, i => if i < nloops a then nthLoop a i else nthLoop b (i - nloops a)
  | .cond _ a b, i => if i < nloops a then nthLoop a i else nthLoop b (i - nloops a)
  | .block _ b, i => nthLoop b i
  | .loop b, 0 => some b
  | .loop b, i + 1 => nthLoop b i
  | .scope b, i => nthLoop b i
  | _, _ => none

def evCode (P : Program) (H : Hd) (call : CallH) (f : Nat) : Nat → Code → St → Tree (XE × St)
  | _, .skip, s => .leaf (.normal, s)
  | _, .region _ ops draw, s => if draw && !(Region.lexB .any ops && P.follows .mixedOrders) then .fail else
    (evOps P H call draw ops.toList ops.toList s).bind fun s' => .leaf (.normal, { s' with tmps := s'.tmps.map unkey })
  | n, .seq a b, s => (evCode P H call f n a s).bind fun x => match x.1 with
    | .normal => evCode P H call f (n + nloops a) b x.2
    | e => .leaf (e, x.2)
  | n, .cond c a b, s => match opnd s [] c with
    | some (.one (.c (.bool t))) => .br t (evCode P H call f n a s) (evCode P H call f (n + nloops a) b s)
    | _ => .fail
  | n, .block id b, s => (evCode P H call f n b s).bind fun x => match x.1 with
    | .exit k => .leaf (if k = id then .normal else .exit k, x.2)
    | e => .leaf (e, x.2)
  | n, .loop _, s => match lookLh H.lh f n with
    | some h => h s
    | none => .fail
  | _, .exit id, s => .leaf (.exit id, s)
  | _, .ret, s => .leaf (.ret, s)
  | _, _, _ => .fail

def evResult (P : Program) (s : St) : ResultVar → Option A1
  | .tmp t => match nth s.tmps t with
    | some ⟨[], .one a⟩ => some a
    | _ => none
  | .cell a t => match nth s.tmps a with
    | some ⟨[], v⟩ => match evLoad P s.mem t v with
      | some (.one a) => some a
      | _ => none
    | _ => none

def evResults (P : Program) (s : St) : List ResultVar → Option (List A1)
  | [] => some []
  | x :: r => match evResult P s x, evResults P s r with
    | some a, some l => some (a :: l)
    | _, _ => none

def resOf : List A1 → AV
  | [a] => .one a
  | l => .tup l

def evFn (P : Program) (H : Hd) : Nat → CallH
  | 0, _, _, _ => .fail
  | n + 1, f, args, mem => match nth P.funcs.toList f with
    | some fn => match fn.body with
      | some c => if Nat.ble args.length fn.ntmps then
        (evCode P H (evFn P H n) f 0 c ⟨args.map (fun a => ⟨[], .one a⟩) ++ List.replicate (fn.ntmps - args.length) ⟨[], .any⟩, mem⟩).bind fun x => match x.1 with
          | .exit _ => .fail
          | _ => match evResults P x.2 fn.results.toList with
            | some l => .leaf (resOf l, x.2.mem)
            | none => .fail
        else .fail
      | none => .fail
    | none => .fail

end Go.Sx
