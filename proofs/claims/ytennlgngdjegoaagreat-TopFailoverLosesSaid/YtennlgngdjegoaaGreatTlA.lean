/-
  Part TlA of the proof: EngA.
-/
import Derived.WalkKit
import Derived.WalkSpells
import Derived.WalkLawsBesides
import Derived.Deep.Quiet
import Derived.KernelRfl
namespace Go.Sx
inductive Sh where
  | bool
  | int (k : IntKind)
  | str
  | sl (es : List Sh)
structure Val where
  B : List Nat → Bool
  N : List Nat → Int
  S : List Nat → ByteArray
  L : List Nat → Nat
def Val.at (ρ : Val) (i : Nat) : Val := ⟨fun p => ρ.B (i :: p), fun p => ρ.N (i :: p), fun p => ρ.S (i :: p), fun p => ρ.L (i :: p)⟩
def Val.from (ρ : Val) (lo : Nat) : Val where
  B := fun | [] => false | i :: p => ρ.B ((lo + i) :: p)
  N := fun | [] => 0 | i :: p => ρ.N ((lo + i) :: p)
  S := fun | [] => .empty | i :: p => ρ.S ((lo + i) :: p)
  L := fun | [] => 0 | i :: p => ρ.L ((lo + i) :: p)
inductive LpS where
  | ready
  | busy
  | done (e : Option Nat)
inductive CV where
  | any
  | bool (b : Bool)
  | int (k : IntKind) (n : Int)
  | str (s : ByteArray)
  | nilp
  | ptr (b o : Nat)
  | rop (es : List Sh) (off : Nat) (ρ : Val)
  | nils
  | sl (es : List Sh) (n : Nat) (ρ : Val)
  | fn (f : Fn) (first cap : List CV)
  | nilf
  | nili
  | iface (t : TypeId) (v : CV)
  | os (b sz : Nat)
  | rowp (b sz i off : Nat)
  | ost (b sz lo : Nat)
  | osh (b sz m : Nat)
  | oc (b m c : Nat)
  | row (fz : Bool) (es : List Sh) (n : Nat) (ρ : Val)
  | yld (b : Nat)
  | lp (f i : Nat) (st : LpS)
def cellOf : Sh → Val → CV
  | .bool, ρ => .bool (ρ.B [])
  | .int k, ρ => .int k (ρ.N [])
  | .str, ρ => .str (ρ.S [])
  | .sl es, ρ => .sl es (ρ.L []) ρ
def cellsOfL : List Sh → Nat → Val → List CV
  | [], _, _ => []
  | s :: r, i, ρ => cellOf s (ρ.at i) :: cellsOfL r (i + 1) ρ
inductive A1 where
  | c (x : CV)
  | agg (l : List CV)
inductive AV where
  | any
  | one (x : A1)
  | tup (l : List A1)
inductive Tree (α : Type) where
  | leaf (a : α)
  | br (c : Bool) (t e : Tree α)
  | need (c : Bool) (t : Tree α)
  | fail
def Tree.bind {α β : Type} : Tree α → (α → Tree β) → Tree β
  | .leaf a, f => f a
  | .br c t e, f => .br c (t.bind f) (e.bind f)
  | .need c t, f => .need c (t.bind f)
  | .fail, _ => .fail
def Tree.sel {α : Type} : Tree α → Option α
  | .leaf a => some a
  | .br c t e => bif c then t.sel else e.sel
  | .need c t => bif c then t.sel else none
  | .fail => none
def Tree.ofOpt {α : Type} : Option α → Tree α
  | some a => .leaf a
  | none => .fail
def shEq : Sh → Sh → Bool
  | .bool, .bool => true
  | .int k, .int k' => decide (k = k')
  | .str, .str => true
  | .sl a, .sl b => shsEq a b
  | _, _ => false
 where shsEq : List Sh → List Sh → Bool
  | [], [] => true
  | a :: l, b :: r => shEq a b && shsEq l r
  | _, _ => false
def Val.ofC : CV → Val
  | .bool b => ⟨fun _ => b, fun _ => 0, fun _ => .empty, fun _ => 0⟩
  | .int _ n => ⟨fun _ => false, fun _ => n, fun _ => .empty, fun _ => 0⟩
  | .str s => ⟨fun _ => false, fun _ => 0, fun _ => s, fun _ => 0⟩
  | .sl _ n σ => ⟨σ.B, σ.N, σ.S, fun p => match p with | [] => n | i :: q => σ.L (i :: q)⟩
  | _ => ⟨fun _ => false, fun _ => 0, fun _ => .empty, fun _ => 0⟩
def Val.zero : Val := ⟨fun _ => false, fun _ => 0, fun _ => .empty, fun _ => 0⟩
def fits : Sh → CV → Bool
  | .bool, .bool _ => true
  | .int k, .int k' _ => decide (k = k')
  | .str, .str _ => true
  | .sl es, .sl es' _ _ => shEq.shsEq es es'
  | .sl _, .nils => true
  | _, _ => false
def fitsL : List Sh → List CV → Bool
  | [], [] => true
  | s :: r, x :: l => fits s x && fitsL r l
  | _, _ => false
def Val.byFst (f : Nat → Val) : Val where
  B := fun | [] => false | i :: p => (f i).B p
  N := fun | [] => 0 | i :: p => (f i).N p
  S := fun | [] => .empty | i :: p => (f i).S p
  L := fun | [] => 0 | i :: p => (f i).L p
def Val.ofCs (l : List CV) : Val := .byFst fun i => match nthC l i with | some x => .ofC x | none => .zero
 where nthC : List CV → Nat → Option CV
  | [], _ => none
  | x :: _, 0 => some x
  | _ :: r, n + 1 => nthC r n
def pickV (c : Bool) (a b : Val) : Val := ⟨fun p => bif c then a.B p else b.B p, fun p => bif c then a.N p else b.N p, fun p => bif c then a.S p else b.S p, fun p => bif c then a.L p else b.L p⟩
def Val.cat (n : Nat) (a b : Val) : Val := .byFst fun i => pickV (Nat.blt i n) (a.at i) (b.at (i - n))
def Val.upd (a : Val) (i f : Nat) (x : CV) : Val := .byFst fun k => pickV (Nat.beq k i) (.byFst fun g => pickV (Nat.beq g f) (.ofC x) ((a.at k).at g)) (a.at k)
def Val.upds (a : Val) (i : Nat) : Nat → List CV → Val
  | _, [] => a
  | f, x :: r => (a.upd i f x).upds i (f + 1) r
def nth {α : Type} : List α → Nat → Option α
  | [], _ => none
  | a :: _, 0 => some a
  | _ :: l, n + 1 => nth l n
def setN {α : Type} : List α → Nat → α → List α
  | [], _, _ => []
  | _ :: l, 0, b => b :: l
  | a :: l, n + 1, b => a :: setN l n b
structure Slot where
  keys : List (Nat × Bool)
  v : AV
abbrev Mem := List (Option (TypeId × List CV))
structure St where
  tmps : List Slot
  mem : Mem
def aany : AV := .any
def liftV : Value → Option AV
  | .bool b => some (.one (.c (.bool b)))
  | .int k n => some (.one (.c (.int k n)))
  | .string s => some (.one (.c (.str s)))
  | .pointer none => some (.one (.c .nilp))
  | .slice none 0 0 => some (.one (.c .nils))
  | .nilFunc => some (.one (.c .nilf))
  | .nilIface => some (.one (.c .nili))
  | _ => none
def liftCell : Value → Option CV
  | .bool b => some (.bool b)
  | .int k n => some (.int k n)
  | .string s => some (.str s)
  | .pointer none => some .nilp
  | .slice none 0 0 => some .nils
  | .nilFunc => some .nilf
  | .nilIface => some .nili
  | _ => none
def liftCells : List Value → Option (List CV)
  | [] => some []
  | v :: r => match liftCell v, liftCells r with
    | some c, some l => some (c :: l)
    | _, _ => none
def keyIn (K : List (Nat × Bool)) (p : Nat × Bool) : Bool := K.any fun q => q.1 == p.1 && q.2 == p.2
def opnd (s : St) (K : List (Nat × Bool)) : Operand → Option AV
  | .tmp t => match nth s.tmps t with
    | some ⟨ks, v⟩ => if ks.all (keyIn K) then some v else none
    | none => none
  | .const v => liftV v
  | .func f => some (.one (.c (.fn (.func f) [] [])))
  | .global _ => none
def mergeC (c : Bool) : CV → CV → CV
  | .bool a, .bool b => .bool (bif c then a else b)
  | .int k a, .int k' b => if k = k' then .int k (bif c then a else b) else .any
  | .str a, .str b => .str (bif c then a else b)
  | .nilp, .nilp => .nilp
  | .nils, .nils => .nils
  | .nilf, .nilf => .nilf
  | .nili, .nili => .nili
  | .ptr a o, .ptr b o' => if a == b && o == o' then .ptr a o else .any
  | .os a z, .os b z' => if a == b && z == z' then .os a z else .any
  | .sl es n ρ, .sl es' m σ => if shEq.shsEq es es' then .sl es (bif c then n else m) (pickV c ρ σ) else .any
  | .sl es n ρ, .nils => .sl es (bif c then n else 0) ρ
  | .nils, .sl es n ρ => .sl es (bif c then 0 else n) ρ
  | _, _ => .any
def mergeCs (c : Bool) : List CV → List CV → Option (List CV)
  | [], [] => some []
  | a :: l, b :: r => match mergeCs c l r with
    | some m => some (mergeC c a b :: m)
    | none => none
  | _, _ => none
def merge1 (c : Bool) : A1 → A1 → Option A1
  | .c a, .c b => some (.c (mergeC c a b))
  | .agg a, .agg b => match mergeCs c a b with
    | some m => some (.agg m)
    | none => none
  | _, _ => none
def merge1s (c : Bool) : List A1 → List A1 → Option (List A1)
  | [], [] => some []
  | a :: l, b :: r => match merge1 c a b, merge1s c l r with
    | some x, some m => some (x :: m)
    | _, _ => none
  | _, _ => none
def mergeA (c : Bool) : AV → AV → AV
  | .tup a, .tup b => match merge1s c a b with
    | some m => .tup m
    | none => aany
  | .one (.c a), .one (.c b) => .one (.c (mergeC c a b))
  | .one (.agg a), .one (.agg b) => match mergeCs c a b with
    | some m => .one (.agg m)
    | none => aany
  | _, _ => aany
def plainField (P : Program) (f : Field) : Bool :=
  f.name != "_" && P.cellsOf f.type == 1 && (match P.underlying f.type with | some .bool | some (.int _) | some .string => true | _ => false)
def eqFields (P : Program) (xs ys : List CV) : List Field → Option Bool
  | [] => some true
  | f :: r =>
    if plainField P f then
      match nth xs f.offset, nth ys f.offset with
      | some a, some b => match P.underlying f.type, a, b, eqFields P xs ys r with
        | some .bool, .bool p, .bool q, some e => some ((p == q) && e)
        | some (.int _), .int k p, .int k' q, some e => if k = k' then some ((p == q) && e) else none
        | some .string, .str p, .str q, some e => some ((p == q) && e)
        | _, _, _, _ => none
      | _, _ => none
    else none
def plainT (P : Program) (e : TypeId) : Bool :=
  P.cellsOf e == 1 && (match P.underlying e with | some .bool | some (.int _) | some .string => true | _ => false)
def eqItems (P : Program) (e : TypeId) (xs ys : List CV) : List Nat → Option Bool
  | [] => some true
  | i :: r => match nth xs i, nth ys i with
      | some a, some b => match P.underlying e, a, b, eqItems P e xs ys r with
        | some .bool, .bool p, .bool q, some z => some ((p == q) && z)
        | some (.int _), .int k p, .int k' q, some z => if k = k' then some ((p == q) && z) else none
        | some .string, .str p, .str q, some z => some ((p == q) && z)
        | _, _, _, _ => none
      | _, _ => none
def eqVal (P : Program) (t : TypeId) : A1 → A1 → Option Bool
  | .c (.bool a), .c (.bool b) => match P.underlying t with
    | some .bool => some (a == b)
    | _ => none
  | .agg xs, .agg ys => match P.underlying t with
    | some (.struct fs) => if P.stoodInHeld t || P.eqGuardType P.depth t then none else eqFields P xs ys fs.toList
    | some (.array n e) => if P.eqGuardType P.depth t || !plainT P e || (P.info? e).isNone then none else eqItems P e xs ys (List.range n)
    | _ => none
  | .c .nils, .c .nils => match P.underlying t with | some (.slice _) => some true | _ => none
  | .c .nilp, .c .nilp => match P.underlying t with | some (.pointer _) => some true | _ => none
  | .c (.ptr _ _), .c .nilp => match P.underlying t with | some (.pointer _) => some false | _ => none
  | _, _ => none
def lt (a b : Int) : Bool := decide (a < b)
def le (a b : Int) : Bool := decide (a ≤ b)
def imax (a b : Int) : Int := bif lt a b then b else a
def imin (a b : Int) : Int := bif lt b a then b else a
def shlI (k : IntKind) (a b : Int) : Int := k.wrap (a * 2 ^ (min b.toNat k.bits))
def shrI (k : IntKind) (a b : Int) : Int := a.fdiv (2 ^ (min b.toNat k.bits))
def andI (k : IntKind) (a b : Int) : Int := k.wrap ((BitVec.ofInt k.bits a &&& BitVec.ofInt k.bits b).toNat : Nat)
def orI (k : IntKind) (a b : Int) : Int := k.wrap ((BitVec.ofInt k.bits a ||| BitVec.ofInt k.bits b).toNat : Nat)
def xorI (k : IntKind) (a b : Int) : Int := k.wrap ((BitVec.ofInt k.bits a ^^^ BitVec.ofInt k.bits b).toNat : Nat)
def andNotI (k : IntKind) (a b : Int) : Int := k.wrap ((BitVec.ofInt k.bits a &&& ~~~ BitVec.ofInt k.bits b).toNat : Nat)
def evIntOp (op : BinOp) (k : IntKind) (a b : Int) : Tree AV :=
  let i (n : Int) : Tree AV := .leaf (.one (.c (.int k n)))
  let b' (x : Bool) : Tree AV := .leaf (.one (.c (.bool x)))
  match op with
  | .add => i (k.wrap (a + b))
  | .sub => i (k.wrap (a - b))
  | .mul => i (k.wrap (a * b))
  | .quo => .need (!(b == 0)) (i (k.wrap (a.tdiv b)))
  | .rem => .need (!(b == 0)) (i (a.tmod b))
  | .eql => b' (a == b)
  | .neq => b' (a != b)
  | .lss => b' (lt a b)
  | .leq => b' (le a b)
  | .gtr => b' (lt b a)
  | .geq => b' (le b a)
  | .and => i (andI k a b)
  | .or => i (orI k a b)
  | .xor => i (xorI k a b)
  | .andNot => i (andNotI k a b)
  | _ => .fail
def evBin (P : Program) (op : BinOp) (t : TypeId) : AV → AV → Tree AV
  | .one (.c (.int k a)), .one (.c (.int k' b)) =>
    match op with
    | .shl => .need (le 0 b) (.leaf (.one (.c (.int k (shlI k a b)))))
    | .shr => .need (le 0 b) (.leaf (.one (.c (.int k (shrI k a b)))))
    | _ => if k = k' then evIntOp op k a b else .fail
  | .one (.c (.str a)), .one (.c (.str b)) =>
    match op with
    | .eql => .leaf (.one (.c (.bool (a.toList == b.toList))))
    | .neq => .leaf (.one (.c (.bool (!(a.toList == b.toList)))))
    | _ => .fail
  | .one a, .one b =>
    match op with
    | .eql => match eqVal P t a b with
      | some e => .leaf (.one (.c (.bool e)))
      | none => .fail
    | .neq => match eqVal P t a b with
      | some e => .leaf (.one (.c (.bool (!e))))
      | none => .fail
    | _ => .fail
  | _, _ => .fail
def evUn (op : UnOp) : AV → Tree AV
  | .one (.c (.bool b)) => match op with
    | .not => .leaf (.one (.c (.bool (!b))))
    | _ => .fail
  | .one (.c (.int k n)) => match op with
    | .neg => .leaf (.one (.c (.int k (k.wrap (0 - n)))))
    | _ => .fail
  | _ => .fail
def takeN {α : Type} : List α → Nat → Option (List α)
  | _, 0 => some []
  | [], _ + 1 => none
  | a :: l, n + 1 => match takeN l n with | some r => some (a :: r) | none => none
def dropN {α : Type} : List α → Nat → List α
  | l, 0 => l
  | [], _ + 1 => []
  | _ :: l, n + 1 => dropN l n
def isAggT (P : Program) (t : TypeId) : Option Bool :=
  match P.underlying t with
  | some (.struct _) | some (.array _ _) => some true
  | some _ => some false
  | none => none
def partOf (P : Program) (t : TypeId) (cs : List CV) (off : Nat) : Option A1 :=
  match isAggT P t with
  | some true => match takeN (dropN cs off) (P.cellsOf t) with | some l => some (.agg l) | none => none
  | some false => match nth cs off with | some x => some (.c x) | none => none
  | none => none
def A1.cells : A1 → List CV
  | .agg l => l
  | .c x => [x]
def putCells : List CV → Nat → List CV → List CV
  | cs, _, [] => cs
  | cs, o, x :: r => putCells (setN cs o x) (o + 1) r
def evFill (places : Nat → Option (Nat × Nat)) : List CV → List (Nat × A1) → Option (List CV)
  | cs, [] => some cs
  | cs, (i, v) :: r => match places i with
    | none => none
    | some (off, size) =>
      if v.cells.length == size && Nat.ble (off + v.cells.length) cs.length then evFill places (putCells cs off v.cells) r else none
def evParts (ρ : Operand → Option AV) : List (Nat × Operand) → Option (List (Nat × A1))
  | [] => some []
  | (i, x) :: r => match ρ x, evParts ρ r with
    | some (.one a), some l => some ((i, a) :: l)
    | _, _ => none
def zeroCellsOf (P : Program) (t : TypeId) : Option (List CV) :=
  match P.info? t with
  | some i => match i.zero with
    | some z => liftCells z.cells.toList
    | none => none
  | none => none
def evBuild (P : Program) (t : TypeId) (parts : List (Nat × A1)) : Option AV :=
  match zeroCellsOf P t, P.underlying t with
  | some z, some (.struct fs) => match evFill (fun i => match nth fs.toList i with | some f => (match P.info? f.type with | some j => some (f.offset, j.size) | none => none) | none => none) z parts with
    | some cs => if fs.toList.all (fun f => (P.info? f.type).isSome) then some (.one (.agg cs)) else none
    | none => none
  | some z, some (.array _ e) => match P.info? e with
    | some j => match evFill (fun i => some (i * j.size, j.size)) z parts with
      | some cs => some (.one (.agg cs))
      | none => none
    | none => none
  | _, _ => none
def shapesFields (sh : TypeId → Option (List Sh)) (P : Program) : Nat → List Field → Option (List Sh)
  | _, [] => some []
  | o, f :: r => if f.offset == o then (match sh f.type with
    | some a => if a.length == P.cellsOf f.type then (match shapesFields sh P (o + a.length) r with | some b => some (a ++ b) | none => none) else none
    | none => none) else none
def repL (l : List Sh) : Nat → List Sh
  | 0 => []
  | n + 1 => l ++ repL l n
def shapesOf (P : Program) : Nat → TypeId → Option (List Sh)
  | 0, _ => none
  | n + 1, t => match P.underlying t with
    | some .bool => some [.bool]
    | some (.int k) => some [.int k]
    | some .string => some [.str]
    | some (.slice e) => match shapesOf P n e with
      | some es => if es.length == P.cellsOf e && !es.isEmpty then some [.sl es] else none
      | none => none
    | some (.struct fs) => match shapesFields (shapesOf P n) P 0 fs.toList with
      | some l => if l.length == P.cellsOf t then some l else none
      | none => none
    | some (.array m e) => match shapesOf P n e with
      | some es => if es.length == P.cellsOf e && (repL es m).length == P.cellsOf t then some (repL es m) else none
      | none => none
    | _ => none
def toInt64 (n : Nat) : Int := Int.ofNat n
def evLen (P : Program) (t : TypeId) : AV → Tree AV
  | .one (.c (.sl _ n _)) => match P.underlying t with
    | some (.slice _) => .leaf (.one (.c (.int .i64 (toInt64 n))))
    | _ => .fail
  | .one (.c (.oc _ m _)) => match P.underlying t with
    | some (.slice _) => .leaf (.one (.c (.int .i64 (toInt64 m))))
    | _ => .fail
  | .one (.c .nils) => match P.underlying t with
    | some (.slice _) => .leaf (.one (.c (.int .i64 0)))
    | _ => .fail
  | .one (.c (.str s)) => match P.underlying t with
    | some .string => .leaf (.one (.c (.int .i64 (toInt64 s.size))))
    | _ => .fail
  | _ => .fail
def evMaxFrom (k : IntKind) : Int → List A1 → Option Int
  | a, [] => some a
  | a, .c (.int _ b) :: r => evMaxFrom k (imax a b) r
  | _, _ => none
def evMinFrom (k : IntKind) : Int → List A1 → Option Int
  | a, [] => some a
  | a, .c (.int _ b) :: r => evMinFrom k (imin a b) r
  | _, _ => none
def evMM (mx : Bool) : List A1 → Tree AV
  | .c (.int k a) :: r => match (if mx then evMaxFrom k a r else evMinFrom k a r) with
    | some n => .leaf (.one (.c (.int k n)))
    | none => .fail
  | _ => .fail
def evArgs (ρ : Operand → Option AV) : List Operand → Option (List A1)
  | [] => some []
  | x :: r => match ρ x, evArgs ρ r with
    | some (.one a), some l => some (a :: l)
    | _, _ => none
def pickAt {α : Type} (i : Int) : Int → List α → Tree α
  | _, [] => .fail
  | _, [a] => .leaf a
  | j, a :: r => .br (i == j) (.leaf a) (pickAt i (j + 1) r)
def isFn : A1 → Bool
  | .c (.fn _ _ _) => true
  | _ => false
def mergeAt (i : Int) : Int → List A1 → AV
  | _, [] => .any
  | _, [a] => .one a
  | j, a :: r => mergeA (i == j) (.one a) (mergeAt i (j + 1) r)
def partsOf (P : Program) (e : TypeId) (cs : List CV) : (count off step : Nat) → Option (List A1)
  | 0, _, _ => some []
  | n + 1, off, step => match partOf P e cs off, partsOf P e cs n (off + step) step with
    | some a, some l => some (a :: l)
    | _, _ => none
def inRange (i : Int) (n : Nat) : Bool := le 0 i && lt i (toInt64 n)
def evIndex (P : Program) (t : TypeId) : AV → AV → Tree AV
  | .one (.agg cs), .one (.c (.int _ i)) => match P.underlying t with
    | some (.array len e) => match P.info? e with
      | some j => match partsOf P e cs len 0 j.size with
        | some [] => .fail
        | some (p :: ps) => .need (inRange i len) (if isFn p then (pickAt i 0 (p :: ps)).bind fun a => .leaf (.one a) else .leaf (mergeAt i 0 (p :: ps)))
        | none => .fail
      | none => .fail
    | _ => .fail
  | _, _ => .fail
def bytesV (n : Nat) (ρ : Val) : ByteArray := ((List.range n).map fun i => ((ρ.at i).at 0).N []).foldl (fun r n => r.push (UInt8.ofNat n.toNat)) ByteArray.empty
def evStr (P : Program) (s d : TypeId) : Option AV → Option AV
  | some (.one (.c (.sl [.int .u8] n ρ))) => match P.underlying s, P.underlying d with
    | some (.slice e), some .string => match P.underlying e with
      | some (.int .u8) => some (.one (.c (.str (bytesV n ρ))))
      | _ => none
    | _, _ => none
  | some (.one (.c .nils)) => match P.underlying s, P.underlying d with
    | some (.slice e), some .string => match P.underlying e with
      | some (.int .u8) => some (.one (.c (.str ByteArray.empty)))
      | _ => none
    | _, _ => none
  | _ => none
def evPure0 (P : Program) (ρ : List (Nat × Bool) → Operand → Option AV) : Op → Tree AV
  | .move x | .assign x => .ofOpt (ρ [] x)
  | .pick (.tmp t) a b => match ρ [] (.tmp t), ρ [(t, true)] a, ρ [(t, false)] b with
    | some (.one (.c (.bool c))), some va, some vb => .leaf (mergeA c va vb)
    | _, _, _ => .fail
  | .build t parts => match evParts (ρ []) parts.toList with
    | some l => .ofOpt (evBuild P t l)
    | none => .fail
  | .binOp op t x y _ => match ρ [] x, ρ [] y with
    | some a, some b => evBin P op t a b
    | _, _ => .fail
  | .unOp op _ x => match ρ [] x with
    | some a => evUn op a
    | none => .fail
  | .convert s d x => match P.underlying s, P.underlying d, ρ [] x with
    | some _, some (.int k), some (.one (.c (.int _ n))) => .leaf (.one (.c (.int k (k.wrap n))))
    | _, _, _ => .fail
  | .extract x i => match ρ [] x with
    | some (.tup l) => match nth l i with
      | some a => .leaf (.one a)
      | none => .fail
    | _ => .fail
  | .field t x i => match P.underlying t, ρ [] x with
    | some (.struct fs), some (.one (.agg cs)) => match nth fs.toList i with
      | some f => match partOf P f.type cs f.offset with
        | some a => .leaf (.one a)
        | none => .fail
      | none => .fail
    | _, _ => .fail
  | .fieldAddr t x i => match P.underlying t, ρ [] x with
    | some (.struct fs), some (.one (.c (.ptr b o))) => match nth fs.toList i with
      | some f => match P.info? f.type with
        | some j => if j.size == 0 then .fail else .leaf (.one (.c (.ptr b (o + f.offset))))
        | none => .fail
      | none => .fail
    | some (.struct fs), some (.one (.c (.rop es off ρ))) => match nth fs.toList i with
      | some f => match P.info? f.type with
        | some j => if j.size == 0 then .fail else .leaf (.one (.c (.rop es (off + f.offset) ρ)))
        | none => .fail
      | none => .fail
    | some (.struct fs), some (.one (.c (.rowp b sz i' off))) => match nth fs.toList i with
      | some f => match P.info? f.type with
        | some j => if j.size == 0 then .fail else .leaf (.one (.c (.rowp b sz i' (off + f.offset))))
        | none => .fail
      | none => .fail
    | _, _ => .fail
  | .indexAddr t x i => match P.underlying t, ρ [] x, ρ [] i with
    | some (.slice e), some (.one (.c (.sl es n ρ))), some (.one (.c (.int _ i))) => match P.info? e with
      | some j => if j.size == es.length then .need (inRange i n) (.leaf (.one (.c (.rop es 0 (ρ.at i.toNat))))) else .fail
      | none => .fail
    | some (.array len e), some (.one (.c (.ptr b o))), some (.one (.c (.int _ i))) => match P.info? e with
      | some j => .need (inRange i len) ((pickAt i 0 (List.range len)).bind fun k => .leaf (.one (.c (.ptr b (o + k * j.size)))))
      | none => .fail
    | some (.slice e), some (.one (.c (.oc b m _))), some (.one (.c (.int _ i))) => match P.info? e with
      | some j => if j.size == 1 then .need (inRange i m) ((pickAt i 0 (List.range m)).bind fun k => .leaf (.one (.c (.ptr b k)))) else .fail
      | none => .fail
    | _, _, _ => .fail
  | .index t x i => match ρ [] x, ρ [] i with
    | some a, some b => evIndex P t a b
    | _, _ => .fail
  | .makeFunc f first cap => match evArgs (ρ []) first.toList, evArgs (ρ []) cap.toList with
    | some a, some b => match cellsOnly a, cellsOnly b with
      | some x, some y => .leaf (.one (.c (.fn f x y)))
      | _, _ => .fail
    | _, _ => .fail
  | .nilCheck x => match ρ [] x with
    | some (.one (.c (.ptr b o))) => .leaf (.one (.c (.ptr b o)))
    | some (.one (.c (.rop es off ρ))) => .leaf (.one (.c (.rop es off ρ)))
    | some (.one (.c (.rowp b sz i off))) => .leaf (.one (.c (.rowp b sz i off)))
    | some (.one (.c (.fn (.func f) a b))) => .leaf (.one (.c (.fn (.func f) a b)))
    | _ => .fail
  | .call { callee := .builtin .len, args, argTypes } => match evArgs (ρ []) args.toList, argTypes.toList with
    | some [a], [t] => evLen P t (.one a)
    | _, _ => .fail
  | .call { callee := .builtin .max, args, .. } => match evArgs (ρ []) args.toList with
    | some l => evMM true l
    | none => .fail
  | .call { callee := .builtin .min, args, .. } => match evArgs (ρ []) args.toList with
    | some l => evMM false l
    | none => .fail
  | _ => .fail
 where
  cellsOnly : List A1 → Option (List CV)
  | [] => some []
  | .c x :: r => match cellsOnly r with | some l => some (x :: l) | none => none
  | _ => none
def arrAt (P : Program) (t : TypeId) : Option AV → Option AV → Option (Tree AV)
  | some (.one (.c (.ptr b o))), some (.one (.c (.int _ i))) => match P.underlying t with
    | some (.array len e) => match P.info? e with
      | some j => some (cond (inRange i len) (.leaf (.one (.c (.ptr b (o + i.toNat * j.size))))) .fail)
      | none => none
    | _ => none
  | _, _ => none
def evPure (P : Program) (conc : Bool) (ρ : List (Nat × Bool) → Operand → Option AV) : Op → Tree AV
  | .indexAddr t x i => match (if conc then arrAt P t (ρ [] x) (ρ [] i) else none) with
    | some r => r
    | none => evPure0 P ρ (.indexAddr t x i)
  | .convert s d x => match evStr P s d (ρ [] x) with
    | some v => .leaf v
    | none => evPure0 P ρ (.convert s d x)
  | op => evPure0 P ρ op
inductive XE where
  | normal
  | exit (id : Nat)
  | ret
structure Hd where
  pc : List (Nat × (List A1 → Tree AV))
  hc : List (Nat × (List A1 → Tree AV)) := []
  lh : List ((Nat × Nat) × (Nat → St → Tree (XE × St)))
  mc : List (Nat × (List A1 → Mem → Tree (AV × Mem)))
def lookMc : List (Nat × (List A1 → Mem → Tree (AV × Mem))) → Nat → Option (List A1 → Mem → Tree (AV × Mem))
  | [], _ => none
  | (k, F) :: r, f => if k == f then some F else lookMc r f
def oG (G : List A1 → Option AV) (args : List A1) : Tree AV :=
  match G args with
  | some r => .leaf r
  | none => .fail
def lookPc : List (Nat × (List A1 → Tree AV)) → Nat → Option (List A1 → Tree AV)
  | [], _ => none
  | (k, F) :: r, f => if k == f then some F else lookPc r f
def lookLh : List ((Nat × Nat) × (Nat → St → Tree (XE × St))) → Nat → Nat → Option (Nat → St → Tree (XE × St))
  | [], _, _ => none
  | (k, F) :: r, f, i => if k.1 == f && k.2 == i then some F else lookLh r f i
def evTarget (ρ : Operand → Option AV) (c : Call) : Option (Nat × List A1) :=
  match c.callee with
  | .value x => match ρ x, evArgs ρ c.args.toList with
    | some (.one (.c (.fn (.func f) first cap))), some l => some (f, first.map .c ++ l ++ cap.map .c)
    | _, _ => none
  | _ => none
def closedC : CV → Bool
  | .ptr _ _ => false
  | .os _ _ => false
  | .ost _ _ _ => false
  | .osh _ _ _ => false
  | .oc _ _ _ => false
  | .rowp _ _ _ _ => false
  | .row _ _ _ _ => false
  | .yld _ => false
  | .lp _ _ _ => false
  | .fn _ a b => closedCs a && closedCs b
  | .iface _ v => closedC v
  | _ => true
 where closedCs : List CV → Bool
  | [] => true
  | a :: l => closedC a && closedCs l
def closedA : A1 → Bool
  | .c x => closedC x
  | .agg l => l.all closedC
def callable (P : Program) (f : Nat) : Bool :=
  match nth P.funcs.toList f with
  | some fn => (fn.name != "runtime.NumGoroutine" && fn.body.isSome) && Nat.blt f 1000000000
  | none => false
def conc (H : Hd) : Bool := (lookPc H.pc 4294967295).isSome
abbrev CallH := Nat → List A1 → Mem → Tree (AV × Mem)
def isRowL : List CV → Bool
  | [.row _ _ _ _] => true
  | .lp _ _ _ :: _ => true
  | _ => false
def evLoad (P : Program) (mem : Mem) (t : TypeId) : AV → Option AV
  | .one (.c (.ptr b o)) => match nth mem b with
    | some (some (_, cs)) => if isRowL cs then none else match partOf P t cs o with
      | some a => some (.one a)
      | none => none
    | _ => none
  | .one (.c (.rop es off ρ)) => match partOf P t (cellsOfL es 0 ρ) off with
    | some a => some (.one a)
    | none => none
  | _ => none
def imp' (c : Bool) : Bool → Bool
  | true => true
  | false => !c
def and' : Bool → Bool → Bool
  | true, y => y
  | false, _ => false
def rowAt (mem : Mem) (b : Nat) : Option (TypeId × Bool × List Sh × Nat × Val) :=
  match nth mem b with
  | some (some (T, [.row fz es n ρ])) => some (T, fz, es, n, ρ)
  | _ => none
def frzC (mem : Mem) : CV → Mem × CV
  | .os b sz => match rowAt mem b with
    | some (T, _, es, n, ρ) => if es.length == sz then (setN mem b (some (T, [.row true es n ρ])), .sl es n ρ) else (mem, .os b sz)
    | none => (mem, .os b sz)
  | x => (mem, x)
def frzCs : Mem → List CV → Mem × List CV
  | mem, [] => (mem, [])
  | mem, x :: r =>
    let y := frzC mem x
    let z := frzCs y.1 r
    (z.1, y.2 :: z.2)
def frz1 (mem : Mem) : A1 → Mem × A1
  | .c x => let y := frzC mem x; (y.1, .c y.2)
  | .agg l => let y := frzCs mem l; (y.1, .agg y.2)
def frz1s : Mem → List A1 → Mem × List A1
  | mem, [] => (mem, [])
  | mem, x :: r =>
    let y := frz1 mem x
    let z := frz1s y.1 r
    (z.1, y.2 :: z.2)
def hasOs : CV → Bool
  | .os _ _ => true
  | _ => false
def repC (l : List CV) : Nat → List CV
  | 0 => []
  | n + 1 => l ++ repC l n
def Val.ofFlat (sz : Nat) (cs : List CV) : Val := .byFst fun i => .byFst fun f => match nth cs (i * sz + f) with | some x => .ofC x | none => .zero
def fitsFlat (es : List Sh) : Nat → List CV → Bool
  | 0, [] => true
  | n + 1, cs => match takeN cs es.length with
    | some l => fitsL es l && fitsFlat es n (dropN cs es.length)
    | none => false
  | _, _ => false
def evBuildSlice (P : Program) (mem : Mem) (t : TypeId) (n : Nat) (parts : List (Nat × A1)) : Option (AV × Mem) :=
  match P.underlying t with
  | some (.slice e) => match P.info? e, shapesOf P 12 e, zeroCellsOf P e with
    | some j, some es, some z =>
      if es.length == j.size && Nat.blt 0 j.size && z.length == j.size && Nat.ble (n * j.size) 16777216 then
        match evFill (fun i => some (i * j.size, j.size)) (repC z n) parts with
        | some cs =>
          let y := frzCs mem cs
          if fitsFlat es n y.2 then some (.one (.c (.os y.1.length j.size)), y.1 ++ [some (e, [.row false es n (Val.ofFlat j.size y.2)])]) else none
        | none => none
      else none
    | _, _, _ => none
  | _ => none
def srcOf (mem : Mem) : A1 → Option (List Sh × Nat × Val)
  | .c (.sl es n ρ) => some (es, n, ρ)
  | .c (.os b sz) => match rowAt mem b with
    | some (_, _, es, n, ρ) => if es.length == sz then some (es, n, ρ) else none
    | none => none
  | _ => none
def notSame (b : Nat) : A1 → Bool
  | .c (.os b' _) => !(b' == b)
  | _ => true
def evAppend (P : Program) (mem : Mem) (t : TypeId) (a x : A1) : Tree (AV × Mem) :=
  match P.underlying t with
  | some (.slice e) => match P.info? e, zeroCellsOf P e with
    | some j, some z =>
      if !(Nat.blt 0 j.size && Nat.blt 0 j.bytes && z.length == j.size) then .fail else
      match a, x with
      | .c .nils, .c .nils => .leaf (.one (.c .nils), mem)
      | .c (.os b sz), .c .nils => match rowAt mem b with
        | some _ => .leaf (.one (.c (.os b sz)), mem)
        | none => .fail
      | .c .nils, x => match srcOf mem x with
        | some (es, m, σ) => if es.length == j.size then .need (Nat.ble (m * j.bytes) 140737488355328) (.leaf (.one (.c (.os mem.length j.size)), mem ++ [some (e, [.row false es m σ])])) else .fail
        | none => .fail
      | .c (.os b sz), x => match rowAt mem b, srcOf mem x with
        | some (T, false, es, n, ρ), some (es', m, σ) =>
          if T == e && es.length == j.size && sz == j.size && shEq.shsEq es es' && notSame b x then
            .need (Nat.ble ((n + m) * j.bytes) 140737488355328) (.leaf (.one (.c (.os mem.length j.size)), setN mem b none ++ [some (e, [.row false es (n + m) (Val.cat n ρ σ)])]))
          else .fail
        | _, _ => .fail
      | _, _ => .fail
    | _, _ => .fail
  | _ => .fail
def isOsh : A1 → Bool
  | .c (.osh _ _ _) => true
  | _ => false
def evAppO (P : Program) (mem : Mem) (t : TypeId) (a x : A1) : Tree (AV × Mem) :=
  match a with
  | .c (.osh b sz m) => match nth mem b with
    | some (some (T, [.row false es n ρ])) => if Nat.ble m n then evAppend P (setN mem b none ++ [some (T, [.row false es m ρ])]) t (.c (.os mem.length sz)) x else .fail
    | _ => .fail
  | a => evAppend P mem t a x
def boundOf (ρ : Operand → Option AV) : Option Operand → Option (Option Int)
  | none => some none
  | some x => match ρ x with
    | some (.one (.c (.int _ i))) => some (some i)
    | _ => none
def cutSl (es : List Sh) (n : Nat) (ρ : Val) (lo hi : Option Int) (mem : Mem) : Tree (AV × Mem) :=
  match lo, hi with
  | none, none => .leaf (.one (.c (.sl es n ρ)), mem)
  | none, some h => .need (le 0 h && le h (toInt64 n)) (.leaf (.one (.c (.sl es h.toNat ρ)), mem))
  | some l, none => .need (le 0 l && le l (toInt64 n)) (.leaf (.one (.c (.sl es (n - l.toNat) (ρ.from l.toNat))), mem))
  | some l, some h => .need (le 0 l && le l h && le h (toInt64 n)) (.leaf (.one (.c (.sl es (h.toNat - l.toNat) (ρ.from l.toNat))), mem))
def isZero : Option Int → Bool
  | none => true
  | some i => i == 0
def isZero0 : Option Int → Bool
  | none => false
  | some i => i == 0
def evSlice (P : Program) (mem : Mem) (t : TypeId) (a : A1) (lo hi mx : Option Int) : Tree (AV × Mem) :=
  match P.underlying t with
  | some (.slice e) => match P.info? e with
    | some j => match mx with
      | some m => if m == 0 && isZero lo && isZero0 hi then
          (match a with
            | .c .nils => .leaf (.one (.c .nils), mem)
            | .c (.sl es _ ρ) => if es.length == j.size then .leaf (.one (.c (.os mem.length j.size)), mem ++ [some (e, [.row false es 0 ρ])]) else .fail
            | .c (.os b sz) => match rowAt mem b with
              | some (_, _, es, _, ρ) => if es.length == j.size && sz == j.size then .leaf (.one (.c (.os mem.length j.size)), mem ++ [some (e, [.row false es 0 ρ])]) else .fail
              | none => .fail
            | _ => .fail)
        else .fail
      | none => match a with
        | .c (.sl es n ρ) => if es.length == j.size then cutSl es n ρ lo hi mem else .fail
        | .c .nils => if isZero lo && isZero hi then .leaf (.one (.c .nils), mem) else .fail
        | .c (.os b sz) => match rowAt mem b with
          | some (T, fz, es, n, ρ) =>
            if es.length == j.size && sz == j.size && T == e then
              (match fz, lo, hi with
                | false, none, some h => .need (lt 0 h && le h (toInt64 n)) (.leaf (.one (.c (.os mem.length j.size)), setN mem b none ++ [some (e, [.row false es h.toNat ρ])]))
                | _, _, _ => cutSl es n ρ lo hi (setN mem b (some (T, [.row true es n ρ]))))
            else .fail
          | none => .fail
        | _ => .fail
    | none => .fail
  | _ => .fail
def evLoadRow (P : Program) (mem : Mem) (t : TypeId) (b sz i off : Nat) : Option AV :=
  match rowAt mem b with
  | some (_, _, es, _, ρ) => if es.length == sz then (match partOf P t (cellsOfL es 0 (ρ.at i)) off with
    | some a => some (.one a)
    | none => none) else none
  | none => none
def evStoreRow (P : Program) (mem : Mem) (t : TypeId) (b sz i off : Nat) (v : A1) : Option Mem :=
  match P.info? t with
  | some j =>
    let y := frzCs mem v.cells
    match rowAt y.1 b with
    | some (T, false, es, n, ρ) =>
      if es.length == sz && y.2.length == j.size && Nat.blt 0 j.size then (match takeN (dropN es off) j.size with
        | some es' => if fitsL es' y.2 then some (setN y.1 b (some (T, [.row false es n (ρ.upds i off y.2)]))) else none
        | none => none) else none
    | _ => none
  | none => none
def flatC : CV → Bool
  | .bool _ | .int _ _ | .str _ => true
  | _ => false
def flat1 : A1 → Bool
  | .c x => flatC x
  | .agg l => l.all flatC
def flatA : AV → Bool
  | .any => false
  | .one x => flat1 x
  | .tup l => l.all flat1
def viewO (mem : Mem) : CV → CV
  | .os b sz => match rowAt mem b with
    | some (_, _, es, n, ρ) => if es.length == sz then .sl es n ρ else .os b sz
    | none => .os b sz
  | x => x
def shOf : List CV → Option (List Sh)
  | .sl es _ _ :: _ => some es
  | _ => none
def viewN (mem : Mem) (b m : Nat) : Option CV :=
  match nth mem b with
  | some (some (_, cs)) => if isRowL cs then none else match takeN cs m with
    | some l => match shOf (l.map (viewO mem)) with
      | some es => if fitsFlat [.sl es] m (l.map (viewO mem)) then some (.sl [.sl es] m (Val.ofFlat 1 (l.map (viewO mem)))) else none
      | none => none
    | none => none
  | _ => none
def viewC (mem : Mem) : CV → CV
  | .os b sz => match rowAt mem b with
    | some (_, _, es, n, ρ) => if es.length == sz then .sl es n ρ else .os b sz
    | none => .os b sz
  | .oc b m c => match viewN mem b m with
    | some x => x
    | none => .oc b m c
  | x => x
def view1 (mem : Mem) : A1 → A1
  | .c x => .c (viewC mem x)
  | .agg l => .agg (l.map (viewC mem))
def noOc : CV → Bool
  | .oc _ _ _ => false
  | _ => true
def tails (H : Hd) : Bool := (lookPc H.pc 4294967293).isSome
def evTail (P : Program) (mem : Mem) (t : TypeId) : A1 → Option Int → Option Int → Option Int → Option (Tree (AV × Mem))
  | .c (.os b sz), some l, none, none => match P.underlying t, rowAt mem b with
    | some (.slice e), some (T, false, es, n, _) => match P.info? e with
      | some j => if es.length == j.size && sz == j.size && T == e then some (.need (le 0 l && lt l (toInt64 n)) (.leaf (.one (.c (.ost b sz l.toNat)), mem))) else none
      | none => none
    | _, _ => none
  | _, _, _, _ => none
def heads (H : Hd) : Bool := (lookPc H.pc 4294967291).isSome
def evHead (P : Program) (mem : Mem) (t : TypeId) : A1 → Option Int → Option Int → Option Int → Option (Tree (AV × Mem))
  | .c (.os b sz), none, some h, none => match P.underlying t, rowAt mem b with
    | some (.slice e), some (T, false, es, n, _) => match P.info? e with
      | some j => if es.length == j.size && sz == j.size && T == e then some (.need (le 0 h && le h (toInt64 n)) (.leaf (.one (.c (.osh b sz h.toNat)), mem))) else none
      | none => none
    | _, _ => none
  | _, _, _, _ => none
def isOsA : A1 → Bool
  | .c (.os _ _) => true
  | _ => false
def dstOf : A1 → Option (Nat × Nat × Nat)
  | .c (.os b sz) => some (b, sz, 0)
  | .c (.ost b sz lo) => some (b, sz, lo)
  | _ => none
def cpOf (mem : Mem) : A1 → Option (List Sh × Nat × Val)
  | .c (.sl es n ρ) => some (es, n, ρ)
  | .c (.osh b sz m) => match rowAt mem b with
    | some (_, _, es, _, ρ) => if es.length == sz then some (es, m, ρ) else none
    | none => none
  | _ => none
def splice (lo k : Nat) (ρ σ : Val) : Val := .byFst fun i => pickV (Nat.blt i lo) (ρ.at i) (pickV (Nat.blt i (lo + k)) (σ.at (i - lo)) (ρ.at i))
def evCopy (P : Program) (mem : Mem) (t : TypeId) (a x : A1) : Tree (AV × Mem) :=
  match dstOf a, cpOf mem x with
  | some (b, sz, lo), some (es', m, σ) => match P.underlying t, rowAt mem b with
    | some (.slice e), some (T, false, es, n, ρ) => match P.info? e with
      | some j => if shEq.shsEq es' es && es.length == j.size && sz == j.size && T == e && Nat.blt 0 sz then
          .leaf (.one (.c (.int .i64 (toInt64 (Nat.min m (n - lo))))), setN mem b (some (T, [.row false es n (splice lo (Nat.min m (n - lo)) ρ σ)]))) else .fail
      | none => .fail
    | _, _ => .fail
  | _, _ => .fail
def lits (H : Hd) : Bool := (lookPc H.pc 4294967292).isSome
def evLit (P : Program) (t : TypeId) (n : Nat) (parts : List (Nat × A1)) : Option AV :=
  match P.underlying t with
  | some (.slice e) => match P.info? e, shapesOf P 12 e, zeroCellsOf P e with
    | some j, some es, some z =>
      if es.length == j.size && Nat.blt 0 j.size && z.length == j.size && Nat.ble (n * j.size) 16777216 then
        match evFill (fun i => some (i * j.size, j.size)) (repC z n) parts with
        | some cs => if cs.all closedC && fitsFlat es n cs then some (.one (.c (.sl es n (Val.ofFlat j.size cs)))) else none
        | none => none
      else none
    | _, _, _ => none
  | _ => none
def litOp (H : Hd) (ρ : Operand → Option AV) : Op → Bool
  | .buildSlice _ _ parts => lits H && (match evParts ρ parts.toList with
    | some l => l.all (fun p => closedA p.2)
    | none => false)
  | _ => false
def evClear (P : Program) (mem : Mem) (t : TypeId) : A1 → Tree (AV × Mem)
  | .c (.ost b sz lo) => match P.underlying t, rowAt mem b with
    | some (.slice e), some (T, false, es, n, ρ) => match zeroCellsOf P e with
      | some z => if es.length == sz && z.length == sz && Nat.blt 0 sz && T == e && fitsL es z then .leaf (.any, setN mem b (some (T, [.row false es n (Val.cat lo ρ (.byFst fun _ => Val.ofCs z))]))) else .fail
      | none => .fail
    | _, _ => .fail
  | _ => .fail
def evMake (P : Program) (mem : Mem) (t : TypeId) : AV → AV → Tree (AV × Mem)
  | .one (.c (.int _ l)), .one (.c (.int _ c)) => match P.underlying t with
    | some (.slice e) => match P.info? e, shapesOf P 12 e, zeroCellsOf P e with
      | some j, some es, some z =>
        if es.length == j.size && Nat.blt 0 j.size && Nat.blt 0 j.bytes && z.length == j.size && fitsL es z then
          .need (le 0 l && le l c && le (c * toInt64 j.bytes) 140737488355328) (.leaf (.one (.c (.os mem.length j.size)), mem ++ [some (e, [.row false es l.toNat (.byFst fun _ => Val.ofCs z)])]))
        else .fail
      | _, _, _ => .fail
    | _ => .fail
  | _, _ => .fail
def rdAll (args : List A1) : Bool := args.all fun a => a.cells.all fun x => closedC x || hasOs x
def evOp (P : Program) (H : Hd) (call : CallH) (mem : Mem) (ρ : List (Nat × Bool) → Operand → Option AV) : Op → Tree (AV × Mem)
  | .alloc e => match zeroCellsOf P e with
    | some z => .leaf (.one (.c (.ptr mem.length 0)), mem ++ [some (e, z)])
    | none => .fail
  | .box e x => match ρ [] x with
    | some (.one a) => if isRowL a.cells then .fail else .leaf (.one (.c (.ptr mem.length 0)), mem ++ [some (e, a.cells)])
    | _ => .fail
  | .load t x => match ρ [] x with
    | some (.one (.c (.rowp b sz i off))) => match evLoadRow P mem t b sz i off with
      | some v => .leaf (v, mem)
      | none => .fail
    | some a => match evLoad P mem t a with
      | some v => .leaf (v, mem)
      | none => .fail
    | none => .fail
  | .store t x y => match ρ [] x, ρ [] y with
    | some (.one (.c (.rowp b sz i off))), some (.one v) => match evStoreRow P mem t b sz i off v with
      | some mem' => .leaf (.any, mem')
      | none => .fail
    | some (.one (.c (.ptr b o))), some (.one v) => match nth mem b, P.info? t with
      | some (some (T, cs)), some i => if !isRowL cs && v.cells.length == i.size && Nat.ble (o + i.size) cs.length && !isRowL v.cells then .leaf (.any, setN mem b (some (T, putCells cs o v.cells))) else .fail
      | _, _ => .fail
    | _, _ => .fail
  | .buildSlice t n parts => match evParts (ρ []) parts.toList with
    | some l => if lits H && l.all (fun p => closedA p.2) then (match evLit P t n l with
      | some v => .leaf (v, mem)
      | none => .fail)
      else match evBuildSlice P mem t n l with
      | some r => .leaf r
      | none => .fail
    | none => .fail
  | .makeSlice t x y => match ρ [] x, ρ [] y with
    | some l, some c => evMake P mem t l c
    | _, _ => .fail
  | .slice t x lo hi mx => match ρ [] x, boundOf (ρ []) lo, boundOf (ρ []) hi, boundOf (ρ []) mx with
    | some (.one a), some l, some h, some m => match (if tails H then evTail P mem t a l h m else none) with
      | some r => r
      | none => match (if heads H then evHead P mem t a l h m else none) with
        | some r => r
        | none => if heads H && isOsA a && m.isNone then .fail else evSlice P mem t a l h m
    | _, _, _, _ => .fail
  | .indexAddr t x i => match ρ [] x, ρ [] i with
    | some (.one (.c (.os b sz))), some (.one (.c (.int _ k))) => match P.underlying t, rowAt mem b with
      | some (.slice e), some (_, _, es, n, _) => match P.info? e with
        | some j => if j.size == sz && es.length == sz then .need (inRange k n) (.leaf (.one (.c (.rowp b sz k.toNat 0)), mem)) else .fail
        | none => .fail
      | _, _ => .fail
    | _, _ => (evPure P (conc H) ρ (.indexAddr t x i)).bind fun v => .leaf (v, mem)
  | .call c => match c.callee with
    | .value _ => match evTarget (ρ []) c with
      | some (f, args) => if callable P f then (match lookPc H.pc f with
        | some F => let l := args.map (view1 mem); if l.all closedA then (F l).bind (fun r => if args.all closedA || flatA r then .leaf (r, mem) else .fail) else if rdAll args then .fail else call f args mem
        | none => match lookPc H.hc f with
          | some F => let y := frz1s mem args; if y.2.all closedA then (F y.2).bind (fun r => .leaf (r, y.1)) else .fail
          | none => call f args mem) else .fail
      | none => .fail
    | .builtin .append => match evArgs (ρ []) c.args.toList, c.argTypes.toList with
      | some [a, x], [t, t'] => if t == t' then evAppO P mem t a x else .fail
      | _, _ => .fail
    | .builtin .clear => match evArgs (ρ []) c.args.toList, c.argTypes.toList with
      | some [a], [t] => evClear P mem t a
      | _, _ => .fail
    | .builtin .copy => match evArgs (ρ []) c.args.toList, c.argTypes.toList with
      | some [a, x], t :: _ => evCopy P mem t a x
      | _, _ => .fail
    | .builtin .len => match evArgs (ρ []) c.args.toList, c.argTypes.toList with
      | some [.c (.os b _)], [t] => match P.underlying t, rowAt mem b with
        | some (.slice _), some (_, _, _, n, _) => .leaf (.one (.c (.int .i64 (toInt64 n))), mem)
        | _, _ => .fail
      | _, _ => (evPure P (conc H) ρ (.call c)).bind fun v => .leaf (v, mem)
    | _ => (evPure P (conc H) ρ (.call c)).bind fun v => .leaf (v, mem)
  | op => (evPure P (conc H) ρ op).bind fun v => .leaf (v, mem)
def dropKey (d : Nat) (s : Slot) : Slot := if s.keys.any (fun p => p.1 == d) then ⟨[], .any⟩ else s
def St.put (s : St) (dst : Option Tmp) (ks : List (Nat × Bool)) (v : AV) : St :=
  match dst with
  | some d => { s with tmps := setN (s.tmps.map (dropKey d)) d ⟨ks, v⟩ }
  | none => s
def gterm (s : St) : List (Nat × Bool) → Bool
  | [] => true
  | (d, b) :: r => (match nth s.tmps d with
    | some ⟨_, .one (.c (.bool c))⟩ => c == b
    | _ => true) && gterm s r
def gdec (s : St) : List (Nat × Bool) → Option Bool
  | [] => some true
  | (d, b) :: r => match nth s.tmps d, gdec s r with
    | some ⟨ks, .one (.c (.bool c))⟩, some g => if ks.all (keyIn r) then some (and' g (c == b)) else none
    | _, _ => none
def Tree.toNeed {α : Type} (d : α) (g : Bool) : Tree α → Tree α
  | .leaf a => .leaf a
  | .need c t => .need (!g || c) (t.toNeed d g)
  | _ => .need (!g) (.leaf d)
def dGu : AV × Mem := (.one (.c (.bool false)), [])
def keysOf (ops : List Oper) (s : St) (j : Nat) (b : Bool) : Option (List (Nat × Bool)) :=
  match nth ops j with
  | some o => match o.dst with
    | some d => match nth s.tmps d with
      | some ⟨ks, .one (.c (.bool _))⟩ => some ((d, b) :: ks)
      | _ => none
    | none => none
  | none => none
def quietOp (H : Hd) (ρ : Operand → Option AV) : Op → Bool
  | .alloc _ | .box _ _ | .store _ _ _ | .buildSlice _ _ _ | .makeSlice _ _ _ => false
  | .slice _ _ _ _ _ => false
  | .indexAddr _ x _ => match ρ x with | some (.one (.c (.os _ _))) => false | _ => true
  | .load _ x => match ρ x with | some (.one (.c (.rowp _ _ _ _))) => false | _ => true
  | .call c => match c.callee with
    | .value _ => match evTarget ρ c with
      | some (f, args) => (lookPc H.pc f).isSome && args.all closedA
      | none => false
    | .builtin .append => false
    | .builtin .clear => false
    | .builtin .copy => false
    | .builtin .len => match evArgs ρ c.args.toList with
      | some [.c (.os _ _)] => false
      | _ => true
    | _ => true
  | _ => true
def laysOp (H : Hd) (ρ : Operand → Option AV) (c : Call) : Bool :=
  match c.callee with
  | .value _ => match evTarget ρ c with
    | some (f, args) => (lookPc H.pc f).isNone && (lookPc H.hc f).isSome && args.all closedA
    | none => false
  | _ => false
def stillOp (H : Hd) (ρ : Operand → Option AV) (op : Op) : Bool :=
  quietOp H ρ op || (match op with
    | .buildSlice t n parts => litOp H ρ (.buildSlice t n parts)
    | .load _ x => match ρ x with | some (.one (.c (.rowp _ _ _ _))) => true | _ => false
    | .indexAddr _ x _ => match ρ x with | some (.one (.c (.os _ _))) => true | _ => false
    | .call c => match c.callee with | .builtin .len => true | _ => laysOp H ρ c
    | _ => false)
def yldOf (ρ : Operand → Option AV) : Op → Option (Nat × List A1)
  | .call c => match c.callee with
    | .value x => match ρ x, evArgs ρ c.args.toList with
      | some (.one (.c (.yld b))), some l => some (b, l)
      | _, _ => none
    | _ => none
  | _ => none
def nests (H : Hd) : Bool := (lookPc H.pc 4294967290).isSome
def evBuildN (P : Program) (mem : Mem) (t : TypeId) (n : Nat) (parts : List (Nat × A1)) : Option (Tree (AV × Mem)) :=
  match P.underlying t with
  | some (.slice e) => match P.info? e, zeroCellsOf P e with
    | some j, some z =>
      if j.size == 1 && Nat.blt 0 n && z.length == 1 && Nat.ble n 16777216 then
        match evFill (fun i => some (i * j.size, j.size)) (repC z n) parts with
        | some cs => some (.leaf (.one (.c (.oc mem.length n n)), mem ++ [some (e, cs)]))
        | none => none
      else none
    | _, _ => none
  | _ => none
def evMakeN (P : Program) (mem : Mem) (t : TypeId) : AV → AV → Option (Tree (AV × Mem))
  | .one (.c (.int _ l)), .one (.c (.int _ c)) => match P.underlying t with
    | some (.slice e) => match P.info? e, zeroCellsOf P e, shapesOf P 12 e with
      | some j, some z, some [.sl _] =>
        if j.size == 1 && Nat.blt 0 j.bytes && z.length == 1 then
          some (.need (le 0 l && le l c && le (c * toInt64 j.bytes) 140737488355328) (.leaf (.one (.c (.oc mem.length l.toNat c.toNat)), mem ++ [some (e, repC z c.toNat)])))
        else none
      | _, _, _ => none
    | _ => none
  | _, _ => none
def evAppN (P : Program) (mem : Mem) (t : TypeId) : List A1 → Option (Tree (AV × Mem))
  | [.c (.oc b m c), .c (.oc b' 1 _)] => match P.underlying t with
    | some (.slice e) => match P.info? e, nth mem b, nth mem b' with
      | some j, some (some (T, cs)), some (some (T', [x])) =>
        if j.size == 1 && Nat.blt m c && cs.length == c && T == e && !isRowL cs && !isRowL [x] && T' == e then some (.leaf (.one (.c (.oc b (m + 1) c)), setN mem b (some (T, setN cs m x)))) else none
      | _, _, _ => none
    | _ => none
  | _ => none
def nestOp (P : Program) (H : Hd) (mem : Mem) (ρ : Operand → Option AV) : Op → Option (Tree (AV × Mem))
  | .makeSlice t x y => if nests H then (match ρ x, ρ y with
    | some l, some c => evMakeN P mem t l c
    | _, _ => none) else none
  | .buildSlice t n parts => if nests H then (match evParts ρ parts.toList with
    | some l => if l.any (fun p => p.2.cells.any hasOs) then evBuildN P mem t n l else none
    | none => none) else none
  | .call c => match c.callee with
    | .builtin .append => if nests H then (match evArgs ρ c.args.toList, c.argTypes.toList with
      | some l, [t, t'] => if t == t' then evAppN P mem t l else none
      | _, _ => none) else none
    | _ => none
  | _ => none
def evOpY (P : Program) (H : Hd) (call : CallH) (mem : Mem) (ρ : List (Nat × Bool) → Operand → Option AV) (op : Op) : Tree (AV × Mem) :=
  match yldOf (ρ []) op with
  | some (b, l) => call (1000000000 + b) l mem
  | none => match nestOp P H mem (ρ []) op with
    | some r => r
    | none => evOp P H call mem ρ op
def evOps (P : Program) (H : Hd) (call : CallH) (quiet : Bool) (all : List Oper) : List Oper → St → Tree St
  | [], s => .leaf s
  | o :: r, s => match o.guard with
    | none => if quiet && !quietOp H (opnd s []) o.op then .fail else
      (evOpY P H call s.mem (fun K => opnd s K) o.op).bind fun x => evOps P H call quiet all r ({ s with mem := x.2 }.put o.dst [] x.1)
    | some (j, b) => match keysOf all s j b with
      | some K =>
        if K.any (fun p => some p.1 == o.dst) then .fail else
        if stillOp H (opnd s K) o.op then
          ((evOp P H call s.mem (fun K' => opnd s (K' ++ K)) o.op).toNeed dGu (gterm s K)).bind fun x => evOps P H call quiet all r (s.put o.dst K x.1)
        else if quiet then .fail else match gdec s K with
          | some g => .br g ((evOpY P H call s.mem (fun K' => opnd s (K' ++ K)) o.op).bind fun x => evOps P H call quiet all r ({ s with mem := x.2 }.put o.dst [] x.1)) (evOps P H call quiet all r (s.put o.dst K dGu.1))
          | none => .fail
      | none => .fail
abbrev Touch := Option (List (Nat × Bool))
def osCells : List CV → List (Nat × Bool)
  | [] => []
  | .os b _ :: l => (b + 1, false) :: osCells l
  | _ :: l => osCells l
def osAll : List A1 → List (Nat × Bool)
  | [] => []
  | a :: l => osCells a.cells ++ osAll l
def readsOp (H : Hd) (ρ : Operand → Option AV) (c : Call) : Touch :=
  match c.callee with
  | .value _ => match evTarget ρ c with
    | some (f, args) => if (lookPc H.pc f).isSome && rdAll args then some (osAll args) else none
    | none => none
  | _ => none
def touchOf (H : Hd) (ρ : Operand → Option AV) (len : Nat) : Op → Touch
  | .load _ x => match ρ x with
    | some (.one (.c (.ptr b _))) => some [(b + 1, false)]
    | some (.one (.c (.rowp b _ _ _))) => some [(b + 1, false)]
    | some (.one (.c (.rop _ _ _))) => some []
    | _ => none
  | .store _ x y => match ρ x with
    | some (.one (.c (.ptr b _))) => some [(b + 1, true)]
    | some (.one (.c (.rowp b _ _ _))) => match ρ y with
      | some (.one v) => if v.cells.all (fun x => !hasOs x) then some [(b + 1, true)] else none
      | _ => none
    | _ => none
  | .alloc _ => some [(0, true), (len + 1, true)]
  | .box _ _ => some [(0, true), (len + 1, true)]
  | .buildSlice _ _ parts => match evParts ρ parts.toList with
    | some l => if lits H && l.all (fun p => closedA p.2) then some [] else if l.all (fun p => p.2.cells.all (fun x => !hasOs x)) then some [(0, true), (len + 1, true)] else none
    | none => none
  | .makeSlice _ _ _ => some [(0, true), (len + 1, true)]
  | .indexAddr t x i => match ρ x with
    | some (.one (.c (.os b _))) => some [(b + 1, false)]
    | _ => if quietOp H ρ (.indexAddr t x i) then some [] else none
  | .slice _ x _ _ mx => match ρ x, mx with
    | some (.one (.c (.sl _ _ _))), none => some []
    | some (.one (.c .nils)), none => some []
    | some (.one (.c (.os b _))), none => if heads H then some [(b + 1, false)] else none
    | _, _ => none
  | .call c => match c.callee with
    | .builtin .append => match evArgs ρ c.args.toList with
      | some [.c .nils, .c (.sl _ _ _)] => some [(0, true), (len + 1, true)]
      | some [.c .nils, .c (.os b _)] => some [(0, true), (len + 1, true), (b + 1, false)]
      | some [.c (.os b _), .c (.sl _ _ _)] => some [(0, true), (len + 1, true), (b + 1, true)]
      | some [.c (.os b _), .c (.os b' _)] => some [(0, true), (len + 1, true), (b + 1, true), (b' + 1, false)]
      | some [.c .nils, .c .nils] => some []
      | some [.c (.os b _), .c .nils] => some [(b + 1, false)]
      | _ => none
    | .builtin .len => match evArgs ρ c.args.toList with
      | some [.c (.os b _)] => some [(b + 1, false)]
      | _ => some []
    | .builtin .copy => match evArgs ρ c.args.toList with
      | some [.c (.os b _), .c (.sl _ _ _)] => some [(b + 1, true)]
      | some [.c (.ost b _ _), .c (.osh b' _ _)] => some [(b + 1, true), (b' + 1, false)]
      | some [.c (.ost b _ _), .c (.sl _ _ _)] => some [(b + 1, true)]
      | _ => none
    | _ => if quietOp H ρ (.call c) || laysOp H ρ c then some [] else readsOp H ρ c
  | op => if quietOp H ρ op then some [] else none
def tmpsIn : List Operand → List Nat
  | [] => []
  | .tmp t :: r => t :: tmpsIn r
  | _ :: r => tmpsIn r
def anyN (t : Nat) : List Nat → Bool
  | [] => false
  | u :: r => t == u || anyN t r
def limit (ts : List Nat) (ρ : Operand → Option AV) : Operand → Option AV
  | .tmp t => if anyN t ts then ρ (.tmp t) else none
  | x => ρ x
def lim (o : Oper) (s : St) (K : List (Nat × Bool)) : Operand → Option AV := limit (tmpsIn o.op.operands.toList) (opnd s K)
def St.put0 (s : St) (dst : Option Tmp) (ks : List (Nat × Bool)) (v : AV) : St :=
  match dst with
  | some d => { s with tmps := setN s.tmps d ⟨ks, v⟩ }
  | none => s
abbrev Info := Touch × List (Nat × Bool)
def evDraw (P : Program) (H : Hd) (call : CallH) (all : List Oper) : List Oper → St → Tree (St × List Info)
  | [], s => .leaf (s, [])
  | o :: r, s => match o.guard with
    | none =>
        (evOp P H call s.mem (fun K => lim o s K) o.op).bind fun x => (evDraw P H call all r ({ s with mem := x.2 }.put0 o.dst [] x.1)).bind fun y => .leaf (y.1, (touchOf H (lim o s []) s.mem.length o.op, []) :: y.2)
    | some (j, b) => match keysOf all s j b with
      | some K =>
        if !stillOp H (lim o s K) o.op || K.any (fun p => some p.1 == o.dst) then .fail else
        ((evOp P H call s.mem (fun K' => lim o s (K' ++ K)) o.op).toNeed dGu (gterm s K)).bind fun x => (evDraw P H call all r (s.put0 o.dst K x.1)).bind fun y => .leaf (y.1, (touchOf H (lim o s K) s.mem.length o.op, K) :: y.2)
      | none => .fail
def ancMask (masks : List Nat) : List Edge → Nat
  | [] => 0
  | e :: r => (match nth masks e.on with | some m => if Region.binds .any e then 2 ^ e.on ||| m else 0 | none => 0) ||| ancMask masks r
def ancMasks : List Oper → List Nat → List Nat
  | [], acc => acc
  | o :: r, acc => ancMasks r (acc ++ [ancMask acc o.after.toList])
def edgesOk : Nat → List Oper → Bool
  | _, [] => true
  | i, o :: r => o.after.toList.all (fun e => !Region.binds .any e || Nat.blt e.on i) && edgesOk (i + 1) r
def writerOf (t : Nat) : Nat → List Oper → Option Nat
  | _, [] => none
  | i, o :: r => if o.dst == some t then some i else writerOf t (i + 1) r
def dstsOk : List Oper → Bool
  | [] => true
  | o :: r => (match o.dst with | some t => r.all (fun o' => !(o'.dst == some t)) | none => true) && dstsOk r
def isAnc (masks : List Nat) (i j : Nat) : Bool := Nat.blt i j && match nth masks j with | some m => m.testBit i | none => false
def tmpOk (all : List Oper) (masks : List Nat) (j t : Nat) : Bool :=
  match writerOf t 0 all with
  | some i => isAnc masks i j || isAnc masks j i || i == j
  | none => true
def keyOk (all : List Oper) (masks : List Nat) (j t : Nat) : Bool :=
  match writerOf t 0 all with
  | some i => isAnc masks i j
  | none => false
def opsOk (all : List Oper) (masks : List Nat) : Nat → List Oper → List Info → Bool
  | j, o :: r, (_, K) :: q => (tmpsIn o.op.operands.toList).all (fun t => tmpOk all masks j t) &&
    (match o.guard with | some (g, _) => isAnc masks g j | none => true) && K.all (fun p => keyOk all masks j p.1) && opsOk all masks (j + 1) r q
  | _, _, _ => true
def clash (masks : List Nat) (i j : Nat) : Touch → Touch → Bool
  | some t, some u => t.all (fun p => u.all (fun q => !(p.1 == q.1) || !(p.2 || q.2) || isAnc masks i j))
  | some t, none => t.isEmpty || isAnc masks i j
  | none, some u => u.isEmpty || isAnc masks i j
  | none, none => isAnc masks i j
def touchRow (masks : List Nat) (i : Nat) (t : Touch) : Nat → List Info → Bool
  | _, [] => true
  | j, u :: r => clash masks i j t u.1 && touchRow masks i t (j + 1) r
def touchesOk (masks : List Nat) : Nat → List Info → Bool
  | _, [] => true
  | i, t :: r => touchRow masks i t.1 (i + 1) r && touchesOk masks (i + 1) r
def drawOk (ops : List Oper) (ts : List Info) : Bool :=
  let masks := ancMasks ops []
  edgesOk 0 ops && dstsOk ops && opsOk ops masks 0 ops ts && touchesOk masks 0 ts
def unkey (s : Slot) : Slot := if s.keys.isEmpty then s else ⟨[], .any⟩
def nloops : Code → Nat
  | .seq a b => nloops a + nloops b
  | .cond _ a b => nloops a + nloops b
  | .block _ b => nloops b
  | .loop b => nloops b + 1
  | .scope b => nloops b
  | .rangeFunc _ _ a b => nloops a + nloops b
  | _ => 0
def nranges : Code → Nat
  | .seq a b => nranges a + nranges b
  | .cond _ a b => nranges a + nranges b
  | .block _ b => nranges b
  | .loop b => nranges b
  | .scope b => nranges b
  | .rangeFunc _ _ a b => nranges a + nranges b + 1
  | _ => 0
structure RC where
  ps : Array Tmp
  a : Code
  b : Code
  n : Nat
def nthRange : Code → Nat → Nat → Option RC
  | .seq a b, i, n => if i < nranges a then nthRange a i n else nthRange b (i - nranges a) (n + nloops a)
  | .cond _ a b, i, n => if i < nranges a then nthRange a i n else nthRange b (i - nranges a) (n + nloops a)
  | .block _ b, i, n => nthRange b i n
  | .loop b, i, n => nthRange b i (n + 1)
  | .scope b, i, n => nthRange b i n
  | .rangeFunc _ ps a b, 0, n => some ⟨ps, a, b, n⟩
  | .rangeFunc _ _ a b, i + 1, n => if i < nranges a then nthRange a i n else nthRange b (i - nranges a) (n + nloops a)
  | _, _, _ => none
def rcOf (P : Program) (f i : Nat) : Option RC :=
  match nth P.funcs.toList f with
  | some fn => match fn.body with
    | some c => nthRange c i 0
    | none => none
  | none => none
def nthLoop : Code → Nat → Option Code
  | .seq a b, i => if i < nloops a then nthLoop a i else nthLoop b (i - nloops a)
  | .cond _ a b, i => if i < nloops a then nthLoop a i else nthLoop b (i - nloops a)
  | .block _ b, i => nthLoop b i
  | .loop b, 0 => some b
  | .loop b, i + 1 => nthLoop b i
  | .scope b, i => nthLoop b i
  | .rangeFunc _ _ a b, i => if i < nloops a then nthLoop a i else nthLoop b (i - nloops a)
  | _, _ => none
def lin {α : Type} : Tree α → Option (List Bool × α)
  | .leaf a => some ([], a)
  | .need c t => match lin t with
    | some (l, a) => some (c :: l, a)
    | none => none
  | _ => none
def needAll {α : Type} : List Bool → Tree α → Tree α
  | [], t => t
  | c :: l, t => .need c (needAll l t)
def needBoth (c : Bool) (l1 l2 : List Bool) : List Bool := l1.map (fun n => !c || n) ++ l2.map (fun n => c || n)
def isAny : CV → Bool
  | .any => true
  | _ => false
def keptL : List CV → List CV → Bool
  | [], _ => true
  | _, [] => true
  | a :: l, m :: r => (!isAny m || isAny a) && keptL l r
def mergeCells (c : Bool) (cs ds : List CV) : Option (List CV) :=
  match cs, ds with
  | [.row fz es n ρ], [.row fz' es' m σ] => if fz == fz' && shEq.shsEq es es' then some [.row fz es (bif c then n else m) (pickV c ρ σ)] else none
  | _, _ => if isRowL cs || isRowL ds then none else match mergeCs c cs ds with
    | some m => if keptL cs m && keptL ds m then some m else none
    | none => none
def mergeE (c : Bool) : Option (TypeId × List CV) → Option (TypeId × List CV) → Option (Option (TypeId × List CV))
  | none, none => some none
  | some (T, cs), some (T', ds) => if T == T' then (match mergeCells c cs ds with
    | some m => some (some (T, m))
    | none => none) else none
  | _, _ => none
def restM (K : Nat) : Nat → Mem → Option Mem
  | _, [] => some []
  | k, _ :: l => if Nat.blt k K then none else match restM K (k + 1) l with
    | some m => some (none :: m)
    | none => none
def mergeMem (c : Bool) (K : Nat) : Nat → Mem → Mem → Option Mem
  | k, [], r => restM K k r
  | k, a :: l, [] => restM K k (a :: l)
  | k, a :: l, b :: r => match mergeE c a b, mergeMem c K (k + 1) l r with
    | some e, some m => some (e :: m)
    | none, some m => if Nat.blt k K then none else some (none :: m)
    | _, none => none
def mergeSlot (c : Bool) (a b : Slot) : Slot :=
  match a.keys, b.keys with
  | [], [] => ⟨[], mergeA c a.v b.v⟩
  | _, _ => ⟨[], .any⟩
def mergeSlots (c : Bool) : List Slot → List Slot → Option (List Slot)
  | [], [] => some []
  | a :: l, b :: r => match mergeSlots c l r with
    | some m => some (mergeSlot c a b :: m)
    | none => none
  | _, _ => none
def mergeSt (c : Bool) (K : Nat) (a b : St) : Option St :=
  match mergeSlots c a.tmps b.tmps, mergeMem c K 0 a.mem b.mem with
  | some t, some m => some ⟨t, m⟩
  | _, _ => none
def joinC (j : Bool) (c : Bool) (K : Nat) (t e : Tree (XE × St)) : Tree (XE × St) :=
  if j then match lin t, lin e with
    | some (l1, (.normal, s1)), some (l2, (.normal, s2)) => match mergeSt c K s1 s2 with
      | some s => needAll (needBoth c l1 l2) (.leaf (.normal, s))
      | none => .br c t e
    | _, _ => .br c t e
  else .br c t e
def isAnyA : AV → Bool
  | .any => true
  | _ => false
def joinT (K : Nat) : Tree (AV × Mem) → Tree (AV × Mem)
  | .br c t e => match lin (joinT K t), lin (joinT K e) with
    | some (l1, (r1, m1)), some (l2, (r2, m2)) => match mergeMem c K 0 m1 m2 with
      | some m => if isAnyA (mergeA c r1 r2) then .br c (joinT K t) (joinT K e) else needAll (needBoth c l1 l2) (.leaf (mergeA c r1 r2, m))
      | none => .br c (joinT K t) (joinT K e)
    | _, _ => .br c (joinT K t) (joinT K e)
  | .need c t => .need c (joinT K t)
  | x => x
def frzA (mem : Mem) : AV → Mem × AV
  | .any => (mem, .any)
  | .one a => let y := frz1 mem a; (y.1, .one y.2)
  | .tup l => let y := frz1s mem l; (y.1, .tup y.2)
def closedAV : AV → Bool
  | .any => false
  | .one a => closedA a
  | .tup l => l.all closedA
def underC (K : Nat) : CV → Bool
  | .ptr b _ => Nat.blt b K
  | .os b _ => Nat.blt b K
  | .rowp b _ _ _ => Nat.blt b K
  | .row _ _ _ _ => true
  | .yld b => Nat.blt b K
  | .lp _ _ _ => true
  | x => closedC x
def underE (K : Nat) : Option (TypeId × List CV) → Bool
  | none => true
  | some (_, cs) => cs.all (underC K)
def closeR (K : Nat) (y : AV × Mem) : AV × Mem :=
  let z := frzA y.2 y.1
  match takeN z.1 K with
  | some m => if closedAV z.2 && m.all (underE K) then (z.2, m) else y
  | none => y
def joinF (H : Hd) (f : Nat) : Bool := (lookPc H.pc (4294967296 + f)).isSome
def joinI (H : Hd) (f : Nat) : Bool := (lookPc H.pc (8589934592 + f)).isSome
def joined (j : Bool) (K : Nat) (t : Tree (AV × Mem)) : Tree (AV × Mem) :=
  if j then joinT K (t.bind fun y => .leaf (closeR K y)) else t
def notDefer : Op → Bool
  | .defer _ => false
  | _ => true
def evCode (P : Program) (H : Hd) (call : CallH) (f K : Nat) : Nat → Code → St → Tree (XE × St)
  | _, .skip, s => .leaf (.normal, s)
  | _, .region _ ops draw, s => if !ops.toList.all (fun o => notDefer o.op) then .fail else if draw then
      (if P.follows .mixedOrders then (evDraw P H call ops.toList ops.toList { s with tmps := s.tmps.map unkey }).bind fun y =>
        if drawOk ops.toList y.2 then .leaf (.normal, { y.1 with tmps := y.1.tmps.map unkey }) else .fail
      else .fail)
    else (evOps P H call false ops.toList ops.toList s).bind fun s' => .leaf (.normal, { s' with tmps := s'.tmps.map unkey })
  | n, .seq a b, s => (evCode P H call f K n a s).bind fun x => match x.1 with
    | .normal => evCode P H call f K (n + nloops a) b x.2
    | e => .leaf (e, x.2)
  | n, .cond c a b, s => match opnd s [] c with
    | some (.one (.c (.bool t))) => joinC (joinI H f) t s.mem.length (evCode P H call f K n a s) (evCode P H call f K (n + nloops a) b s)
    | _ => .fail
  | n, .block id b, s => (evCode P H call f K n b s).bind fun x => match x.1 with
    | .exit k => .leaf (if k = id then .normal else .exit k, x.2)
    | e => .leaf (e, x.2)
  | n, .loop _, s => match lookLh H.lh f n with
    | some h => h K s
    | none => .fail
  | _, .exit id, s => .leaf (.exit id, s)
  | _, .ret, s => .leaf (.ret, s)
  | _, _, _ => .fail
def evResult (P : Program) (s : St) : ResultVar → Option A1
  | .tmp t => match nth s.tmps t with
    | some ⟨[], .one a⟩ => some a
    | _ => none
  | .cell a t => match nth s.tmps a with
    | some ⟨[], v⟩ => match evLoad P s.mem t v with
      | some (.one a) => some a
      | _ => none
    | _ => none
def evResults (P : Program) (s : St) : List ResultVar → Option (List A1)
  | [] => some []
  | x :: r => match evResult P s x, evResults P s r with
    | some a, some l => some (a :: l)
    | _, _ => none
def resOf : List A1 → AV
  | [a] => .one a
  | l => .tup l
def slotC : CV → AV
  | .any => .any
  | x => .one (.c x)
def cellS : Slot → CV
  | ⟨[], .one (.c x)⟩ => x
  | _ => .any
def setArgs : List Tmp → List A1 → List Slot → List Slot
  | t :: ts, a :: as, l => setArgs ts as (setN l t ⟨[], .one a⟩)
  | _, _, l => l
def setSt (mem : Mem) (b : Nat) (st : LpS) : Option Mem :=
  match nth mem b with
  | some (some (T, .lp f i _ :: cs)) => some (setN mem b (some (T, .lp f i st :: cs)))
  | _ => none
def setBusy (mem : Mem) (b : Nat) : Option Mem :=
  match nth mem b with
  | some (some (T, .lp f i .ready :: cs)) => some (setN mem b (some (T, .lp f i .busy :: cs)))
  | _ => none
def roundEnd (b : Nat) (y : XE × St) : Tree (AV × Mem) :=
  match y.1 with
  | .normal => match setSt y.2.mem b .ready with
    | some m => .leaf (.one (.c (.bool true)), m)
    | none => .fail
  | .ret => match setSt y.2.mem b (.done none) with
    | some m => .leaf (.one (.c (.bool false)), m)
    | none => .fail
  | .exit e => match setSt y.2.mem b (.done (some e)) with
    | some m => .leaf (.one (.c (.bool false)), m)
    | none => .fail
def evRound (P : Program) (H : Hd) (call : CallH) (b : Nat) (args : List A1) (mem : Mem) : Tree (AV × Mem) :=
  match nth mem b with
  | some (some (_, .lp f i .ready :: cs)) => match rcOf P f i with
    | some rc => if args.length == rc.ps.size then
        (evCode P H call f mem.length rc.n rc.a ⟨setArgs rc.ps.toList args (cs.map fun c => ⟨[], slotC c⟩), mem⟩).bind fun x => match x.1 with
          | .normal => match setBusy x.2.mem b with
            | some m => (evCode P H call f mem.length (rc.n + nloops rc.a) rc.b ⟨x.2.tmps, m⟩).bind fun y => roundEnd b y
            | none => .fail
          | _ => .fail
      else .fail
    | none => .fail
  | _ => .fail
def noRange : Code → Bool
  | .seq a b => noRange a && noRange b
  | .cond _ a b => noRange a && noRange b
  | .block _ b => noRange b
  | .loop b => noRange b
  | .scope b => noRange b
  | .rangeFunc _ _ _ _ => false
  | _ => true
def rangeEnd (b0 : Nat) (tmps : List Slot) (mem : Mem) : Tree (XE × St) :=
  match nth mem b0 with
  | some (some (_, .lp _ _ .ready :: _)) => .leaf (.normal, ⟨tmps, setN mem b0 none⟩)
  | some (some (_, .lp _ _ (.done none) :: _)) => .leaf (.ret, ⟨tmps, setN mem b0 none⟩)
  | some (some (_, .lp _ _ (.done (some e)) :: _)) => .leaf (.exit e, ⟨tmps, setN mem b0 none⟩)
  | _ => .fail
def evCodeM (P : Program) (H : Hd) (call : CallH) (f K : Nat) : Nat → Nat → Code → St → Tree (XE × St)
  | n, m, .seq a b, s => if noRange (.seq a b) then evCode P H call f K n (.seq a b) s else
      (evCodeM P H call f K n m a s).bind fun x => match x.1 with
        | .normal => evCodeM P H call f K (n + nloops a) (m + nranges a) b x.2
        | e => .leaf (e, x.2)
  | n, m, .cond c a b, s => if noRange (.cond c a b) then evCode P H call f K n (.cond c a b) s else
      match opnd s [] c with
      | some (.one (.c (.bool t))) => .br t (evCodeM P H call f K n m a s) (evCodeM P H call f K (n + nloops a) (m + nranges a) b s)
      | _ => .fail
  | n, m, .block id b, s => if noRange (.block id b) then evCode P H call f K n (.block id b) s else
      (evCodeM P H call f K n m b s).bind fun x => match x.1 with
        | .exit k => .leaf (if k = id then .normal else .exit k, x.2)
        | e => .leaf (e, x.2)
  | _, m, .rangeFunc g _ _ _, s => match opnd s [] g with
    | some (.one (.c (.fn (.func gf) first cap))) => if callable P gf then
        (call gf (first.map .c ++ (.c (.yld s.mem.length) :: cap.map .c)) (s.mem ++ [some (0, .lp f m .ready :: s.tmps.map cellS)])).bind fun x => rangeEnd s.mem.length s.tmps x.2
      else .fail
    | _ => .fail
  | n, _, c, s => evCode P H call f K n c s
def evFn (P : Program) (H : Hd) : Nat → CallH
  | 0, _, _, _ => .fail
  | n + 1, f, args, mem => if Nat.ble 1000000000 f then evRound P H (evFn P H n) (f - 1000000000) args mem else match lookMc H.mc f with
   | some G => G args mem
   | none => match nth P.funcs.toList f with
    | some fn => match fn.body with
      | some c => if Nat.ble args.length fn.ntmps then
        joined (joinF H f) mem.length ((evCodeM P H (evFn P H n) f mem.length 0 0 c ⟨args.map (fun a => ⟨[], .one a⟩) ++ List.replicate (fn.ntmps - args.length) ⟨[], .any⟩, mem⟩).bind fun x => match x.1 with
          | .exit _ => .fail
          | _ => match evResults P x.2 fn.results.toList with
            | some l => .leaf (resOf l, x.2.mem)
            | none => .fail)
        else .fail
      | none => .fail
    | none => .fail
end Go.Sx
