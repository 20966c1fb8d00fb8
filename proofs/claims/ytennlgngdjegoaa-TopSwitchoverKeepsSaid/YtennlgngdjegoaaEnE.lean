/-
  The evaluator with panics, deferred calls and recover (part Pa): what it computes.
-/
import Derived.Test.YtennlgngdjegoaaEnD
import Derived.Recover
namespace Go.Sx
open Go Go.RowKit

/-- how a call ends -/
inductive Out where
  | ret (a : AV)
  | pan (x : CV)

inductive XP where
  | normal
  | exit (id : Nat)
  | ret
  | pan (x : CV)

/-- a state, with the deferred closures that stand -/
structure StP where
  s : St
  dl : List CV

abbrev CallP := Nat → List A1 → Mem → Tree (Out × Mem)

/-- the key that says that a function may panic -/
def pF (f : Nat) : Nat × (List A1 → Tree AV) := (12884901888 + f, fun _ => .fail)
def panics (H : Hd) (f : Nat) : Bool := (lookPc H.pc (12884901888 + f)).isSome

/-- operations of interfaces -/
def evIf (P : Program) (ρ : Operand → Option AV) : Op → Option AV
  | .makeInterface t x => match P.underlying t with
    | some (.interface _) => none
    | some _ => match ρ x with
      | some (.one (.c y)) => if closedC y then some (.one (.c (.iface t y))) else none
      | _ => none
    | none => none
  | .typeAssert x _ a true => match P.underlying a with
    | some (.interface _) => none
    | some _ => match ρ x with
      | some (.one (.c (.iface t y))) => if t == a then some (.tup [.c y, .c (.bool true)]) else none
      | _ => none
    | none => none
  | .binOp .neq t x (.const .nilIface) _ => match P.underlying t, ρ x with
    | some (.interface _), some (.one (.c .nili)) => some (.one (.c (.bool false)))
    | some (.interface _), some (.one (.c (.iface _ _))) => some (.one (.c (.bool true)))
    | _, _ => none
  | _ => none

def isIface : CV → Bool
  | .iface _ _ => true
  | _ => false

/-- summaries of functions that may panic: what they do to the memory; and those that read their arguments alone -/
structure HdP where
  px : List (Nat × (List A1 → Mem → Tree (Out × Mem)))
  rx : List (Nat × (List A1 → List A1 → Tree Out))
  nc : List (Nat × (List A1 → Tree (AV × Mem)))

def lookNc : List (Nat × (List A1 → Tree (AV × Mem))) → Nat → Option (List A1 → Tree (AV × Mem))
  | [], _ => none
  | (k, F) :: r, f => if k == f then some F else lookNc r f

def lookPx : List (Nat × (List A1 → Mem → Tree (Out × Mem))) → Nat → Option (List A1 → Mem → Tree (Out × Mem))
  | [], _ => none
  | (k, F) :: r, f => if k == f then some F else lookPx r f

def lookRx : List (Nat × (List A1 → List A1 → Tree Out)) → Nat → Option (List A1 → List A1 → Tree Out)
  | [], _ => none
  | (k, F) :: r, f => if k == f then some F else lookRx r f

/-- an operation that may end in a panic -/
def evOpQ (P : Program) (H : Hd) (X : HdP) (call : CallH) (callP : CallP) (mem : Mem) (ρ : List (Nat × Bool) → Operand → Option AV) (op : Op) : Tree (Out × Mem) :=
  let plain := (evOp P H call mem ρ op).bind fun y => .leaf (.ret y.1, y.2)
  match evIf P (ρ []) op with
  | some v => .leaf (.ret v, mem)
  | none => match op with
    | .call c => match c.callee with
      | .value _ => match evTarget (ρ []) c with
        | some (f, args) => if callable P f then (match lookRx X.rx f with
          | some F => if (args.map (view1 mem)).all closedA then (F args (args.map (view1 mem))).bind fun r => .leaf (r, mem) else .fail
          | none => if panics H f then callP f args mem else plain) else .fail
        | none => .fail
      | _ => plain
    | _ => plain

def evOpP (P : Program) (H : Hd) (X : HdP) (call : CallH) (callP : CallP) (s : StP) (op : Op) : Tree (Out × Mem × List CV) :=
  let plain := (evOpQ P H X call callP s.s.mem (fun K => opnd s.s K) op).bind fun y => .leaf (y.1, y.2, s.dl)
  match op with
    | .panic x => match opnd s.s [] x with
      | some (.one (.c y)) => if isIface y && closedC y then .leaf (.pan y, s.s.mem, s.dl) else .fail
      | _ => .fail
    | .defer c => match c.callee, c.args.toList with
      | .value x, [] => match opnd s.s [] x with
        | some (.one (.c (.fn (.func g) [] cap))) => .leaf (.ret .any, s.s.mem, .fn (.func g) [] cap :: s.dl)
        | _ => .fail
      | _, _ => .fail
    | _ => plain

def evOpsP (P : Program) (H : Hd) (X : HdP) (call : CallH) (callP : CallP) (all : List Oper) : List Oper → StP → Tree (XP × StP)
  | [], s => .leaf (.normal, s)
  | o :: r, s => match o.guard with
    | none => (evOpP P H X call callP s o.op).bind fun x => match x.1 with
      | .ret v => evOpsP P H X call callP all r ⟨{ s.s with mem := x.2.1 }.put o.dst [] v, x.2.2⟩
      | .pan y => .leaf (.pan y, ⟨{ s.s with mem := x.2.1 }, x.2.2⟩)
    | some (j, b) => match keysOf all s.s j b with
      | some K =>
        if K.any (fun p => some p.1 == o.dst) then .fail else
        if stillOp H (opnd s.s K) o.op then
          ((evOp P H call s.s.mem (fun K' => opnd s.s (K' ++ K)) o.op).toNeed dGu (gterm s.s K)).bind fun x => evOpsP P H X call callP all r ⟨s.s.put o.dst K x.1, s.dl⟩
        else match gdec s.s K with
          | some g => .br g ((evOp P H call s.s.mem (fun K' => opnd s.s (K' ++ K)) o.op).bind fun x => evOpsP P H X call callP all r ⟨{ s.s with mem := x.2 }.put o.dst [] x.1, s.dl⟩) (evOpsP P H X call callP all r ⟨s.s.put o.dst K dGu.1, s.dl⟩)
          | none => .fail
      | none => .fail

def XE.toP : XE → XP
  | .normal => .normal
  | .exit k => .exit k
  | .ret => .ret

/-- what an operation that may panic touches -/
def touchQ (P : Program) (H : Hd) (X : HdP) (ρ : Operand → Option AV) (len : Nat) (op : Op) : Touch :=
  match evIf P ρ op with
  | some _ => some []
  | none => match op with
    | .call c => match c.callee with
      | .value _ => match evTarget ρ c with
        | some (f, args) => if (lookRx X.rx f).isSome then some (osAll args) else if panics H f then none else touchOf H ρ len op
        | none => none
      | _ => touchOf H ρ len op
    | _ => touchOf H ρ len op

/-- … and, where it panics, the blocks that were there -/
def panTouch (K0 : Nat) : Touch → Touch
  | none => none
  | some t => some (t ++ (upto K0).map fun b => (b + 1, false))

/-- does the operation hang on the one that has panicked? -/
def deadQ (masks : List Nat) (pn : Option (Nat × CV × Mem)) (n : Nat) : Bool :=
  match pn with
  | some (j, _, _) => isAnc masks j n
  | none => false

def evDrawP (P : Program) (H : Hd) (X : HdP) (call : CallH) (callP : CallP) (all : List Oper) (masks : List Nat) (K0 : Nat) : Nat → List Oper → St → Option (Nat × CV × Mem) → Tree (St × List Info × Option (Nat × CV × Mem))
  | _, [], s, pn => .leaf (s, [], pn)
  | n, o :: r, s, pn =>
    if deadQ masks pn n then (evDrawP P H X call callP all masks K0 (n + 1) r (s.put0 o.dst [] .any) pn).bind fun y => .leaf (y.1, (some [], []) :: y.2.1, y.2.2)
    else match o.guard with
    | none => (evOpQ P H X call callP s.mem (fun K => lim o s K) o.op).bind fun x => match x.1 with
      | .ret v => (evDrawP P H X call callP all masks K0 (n + 1) r ({ s with mem := x.2 }.put0 o.dst [] v) pn).bind fun y => .leaf (y.1, (touchQ P H X (lim o s []) s.mem.length o.op, []) :: y.2.1, y.2.2)
      | .pan z => if pn.isSome then .fail else (evDrawP P H X call callP all masks K0 (n + 1) r (s.put0 o.dst [] .any) (some (n, z, x.2))).bind fun y => .leaf (y.1, (panTouch K0 (touchQ P H X (lim o s []) s.mem.length o.op), []) :: y.2.1, y.2.2)
    | some (j, b) => match keysOf all s j b with
      | some K =>
        if !stillOp H (lim o s K) o.op || K.any (fun p => some p.1 == o.dst) then .fail else
        ((evOp P H call s.mem (fun K' => lim o s (K' ++ K)) o.op).toNeed dGu (gterm s K)).bind fun x => (evDrawP P H X call callP all masks K0 (n + 1) r (s.put0 o.dst K x.1) pn).bind fun y => .leaf (y.1, (touchOf H (lim o s K) s.mem.length o.op, K) :: y.2.1, y.2.2)
      | none => .fail

/-- the slots that a region writes are forgotten -/
def St.forget (s : St) : List Oper → St
  | [] => s
  | o :: r => (s.put0 o.dst [] .any).forget r

def underA1 (K : Nat) : A1 → Bool
  | .c x => underC K x
  | .agg l => l.all (underC K)

def underAV (K : Nat) : AV → Bool
  | .any => true
  | .one a => underA1 K a
  | .tup l => l.all (underA1 K)

/-- an operation that lays a block -/
def layOf (P : Program) (o : Oper) : Option (TypeId × List CV) :=
  match o.guard, o.dst, o.op with
  | none, some _, .alloc e => (match zeroCellsOf P e with | some z => some (e, z) | none => none)
  | _, _, _ => none

/-- names blocks alone that are allowed -/
def namesC (ok : Nat → Bool) : CV → Bool
  | .ptr b _ => ok b
  | .os b _ => ok b
  | .rowp b _ _ _ => ok b
  | .row _ _ _ _ => true
  | .yld b => ok b
  | .lp _ _ _ => true
  | x => closedC x

def namesE (ok : Nat → Bool) : Option (TypeId × List CV) → Bool
  | none => true
  | some (_, cs) => cs.all (namesC ok)

def namesA1 (ok : Nat → Bool) : A1 → Bool
  | .c x => namesC ok x
  | .agg l => l.all (namesC ok)

def namesAV (ok : Nat → Bool) : AV → Bool
  | .any => true
  | .one a => namesA1 ok a
  | .tup l => l.all (namesA1 ok)

/-- what operation i may name: blocks that were there, its own, and those of its ancestors -/
def okAt (masks : List Nat) (K0 i b : Nat) : Bool := Nat.blt b K0 || isAnc masks (b - K0) i || b == K0 + i

/-- what has been written names what it may -/
def wrOk (ok : Nat → Bool) (mem : Mem) : Touch → Bool
  | none => mem.all (namesE ok)
  | some t => t.all fun p => match p with
    | (b + 1, true) => (match nth mem b with | some e => namesE ok e | none => true)
    | _ => true

/-- a call of a function that lays one slice of one's own -/
def ncOf (P : Program) (X : HdP) (ρ : Operand → Option AV) (o : Oper) : Option (Tree (AV × Mem)) :=
  match o.guard, o.dst, o.op with
  | none, some _, .call c => match c.callee with
    | .value _ => match evTarget ρ c with
      | some (f, args) => match lookNc X.nc f with
        | some G => if callable P f && args.all closedA then some (G args) else none
        | none => none
      | none => none
    | _ => none
  | _, _, _ => none

/-- in the order of the text; operation i lays its block in the place K0 + i, that has been kept for it -/
def evDrawL (P : Program) (H : Hd) (X : HdP) (call : CallH) (all : List Oper) (masks : List Nat) (K0 : Nat) : Nat → List Oper → St → Tree (St × List Info)
  | _, [], s => .leaf (s, [])
  | n, o :: r, s => match layOf P o with
    | some (e, z) => (match nth s.mem (K0 + n) with
      | some none => if z.all closedC then
          (evDrawL P H X call all masks K0 (n + 1) r ({ s with mem := setN s.mem (K0 + n) (some (e, z)) }.put0 o.dst [] (.one (.c (.ptr (K0 + n) 0))))).bind fun y => .leaf (y.1, (some [(K0 + n + 1, true)], []) :: y.2) else .fail
      | _ => .fail)
    | none => match ncOf P X (lim o s []) o with
      | some g => (match nth s.mem (K0 + n) with
        | some none => g.bind fun z => match z with
          | (.one (.c (.os 0 sz)), [some (T, [.row false es m ρ])]) =>
            (evDrawL P H X call all masks K0 (n + 1) r ({ s with mem := setN s.mem (K0 + n) (some (T, [.row false es m ρ])) }.put0 o.dst [] (.one (.c (.os (K0 + n) sz))))).bind fun y => .leaf (y.1, (some [(K0 + n + 1, true)], []) :: y.2)
          | _ => .fail
        | _ => .fail)
      | none => match o.guard with
        | none =>
          (evOp P H call s.mem (fun K => lim o s K) o.op).bind fun x => if namesAV (okAt masks K0 n) x.1 && wrOk (okAt masks K0 n) x.2 (touchOf H (lim o s []) s.mem.length o.op) then
            (evDrawL P H X call all masks K0 (n + 1) r ({ s with mem := x.2 }.put0 o.dst [] x.1)).bind fun y => .leaf (y.1, (touchOf H (lim o s []) s.mem.length o.op, []) :: y.2) else .fail
        | some (j, b) => match keysOf all s j b with
          | some K =>
            if !stillOp H (lim o s K) o.op || K.any (fun p => some p.1 == o.dst) then .fail else
            ((evOp P H call s.mem (fun K' => lim o s (K' ++ K)) o.op).toNeed dGu (gterm s K)).bind fun x => if namesAV (okAt masks K0 n) x.1 then (evDrawL P H X call all masks K0 (n + 1) r (s.put0 o.dst K x.1)).bind fun y => .leaf (y.1, (touchOf H (lim o s K) s.mem.length o.op, K) :: y.2) else .fail
          | none => .fail

/-- a drawn region that lays several blocks -/
def evRegL (P : Program) (H : Hd) (X : HdP) (call : CallH) (ops : List Oper) (s : StP) : Tree (XP × StP) :=
  if P.follows .mixedOrders && s.s.mem.all (underE s.s.mem.length) && s.s.tmps.all (fun sl => underAV s.s.mem.length (unkey sl).v) then
    (evDrawL P H X call ops (ancMasks ops []) s.s.mem.length 0 ops { tmps := s.s.tmps.map unkey, mem := s.s.mem ++ ops.map fun _ => none }).bind fun y =>
      if drawOk ops y.2 then .leaf (.normal, ⟨{ y.1 with tmps := y.1.tmps.map unkey }, s.dl⟩) else .fail
  else .fail

def allocIx (X : HdP) : Nat → List Oper → List Nat
  | _, [] => []
  | n, o :: r => match o.op with
    | .alloc _ => n :: allocIx X (n + 1) r
    | .call c => (match c.callee with
      | .value (.func f) => if (lookNc X.nc f).isSome then n :: allocIx X (n + 1) r else allocIx X (n + 1) r
      | _ => allocIx X (n + 1) r)
    | _ => allocIx X (n + 1) r

def openPair (masks : List Nat) : List Nat → Bool
  | i :: j :: r => !isAnc masks i j || openPair masks (j :: r)
  | _ => false

/-- two blocks are laid, and none of the two must be the first -/
def openAllocs (X : HdP) (ops : List Oper) : Bool := match allocIx X 0 ops with
  | i :: j :: r => openPair (ancMasks ops []) (i :: j :: r)
  | _ => false

/-- a drawn region -/
def evRegP (P : Program) (H : Hd) (X : HdP) (call : CallH) (callP : CallP) (ops : List Oper) (s : StP) : Tree (XP × StP) :=
  if P.follows .mixedOrders then
    (evDrawP P H X call callP ops (ancMasks ops []) s.s.mem.length 0 ops { s.s with tmps := s.s.tmps.map unkey } none).bind fun y =>
      if drawOk ops y.2.1 then (match y.2.2 with
        | none => .leaf (.normal, ⟨{ y.1 with tmps := y.1.tmps.map unkey }, s.dl⟩)
        | some (_, z, m) => match takeN m s.s.mem.length with
          | some m0 => if m0.all (underE s.s.mem.length) && closedC z then .leaf (.pan z, ⟨({ tmps := s.s.tmps.map unkey, mem := m0 } : St).forget ops, s.dl⟩) else .fail
          | none => .fail) else .fail
  else .fail

def evCodeP (P : Program) (H : Hd) (X : HdP) (call : CallH) (callP : CallP) (f K : Nat) : Nat → Code → StP → Tree (XP × StP)
  | _, .skip, s => .leaf (.normal, s)
  | _, .region _ ops draw, s => if draw then (if openAllocs X ops.toList then evRegL P H X call ops.toList s else evRegP P H X call callP ops.toList s)
    else (evOpsP P H X call callP ops.toList ops.toList s).bind fun x => .leaf (x.1, ⟨{ x.2.s with tmps := x.2.s.tmps.map unkey }, x.2.dl⟩)
  | n, .seq a b, s => (evCodeP P H X call callP f K n a s).bind fun x => match x.1 with
    | .normal => evCodeP P H X call callP f K (n + nloops a) b x.2
    | e => .leaf (e, x.2)
  | n, .cond c a b, s => match opnd s.s [] c with
    | some (.one (.c (.bool t))) => .br t (evCodeP P H X call callP f K n a s) (evCodeP P H X call callP f K (n + nloops a) b s)
    | _ => .fail
  | n, .block id b, s => (evCodeP P H X call callP f K n b s).bind fun x => match x.1 with
    | .exit k => .leaf (if k = id then .normal else .exit k, x.2)
    | e => .leaf (e, x.2)
  | n, .loop _, s => match lookLh H.lh f n with
    | some h => if s.dl.isEmpty then (h K s.s).bind fun x => .leaf (x.1.toP, ⟨x.2, []⟩) else .fail
    | none => .fail
  | _, .exit id, s => .leaf (.exit id, s)
  | _, .ret, s => .leaf (.ret, s)
  | _, _, _ => .fail

/-- the operation that recovers, at the head of a region -/
def recHead : Code → Option (Oper × List Oper × Code)
  | .seq (.region _ ops false) x => match ops.toList with
    | o :: r => match o.guard, o.op with
      | none, .call c => match c.callee with
        | .builtin .recover => some (o, r, x)
        | _ => none
      | _, _ => none
    | [] => none
  | _ => none

/-- what recover finds -/
def recC : Option CV → CV
  | none => .nili
  | some y => y

/-- a deferred closure: how its caller goes on (none: it returns; some: the panic), and the memory -/
def evDef (P : Program) (H : Hd) (X : HdP) (call : CallH) (callP : CallP) (g : Nat) (cap : List CV) (pan : Option CV) (mem : Mem) : Tree (Option CV × Mem) :=
  match nth P.funcs.toList g with
  | some fn => match fn.body with
    | some c => match recHead c with
      | some (o, r, x) => if Nat.ble cap.length fn.ntmps && callable P g then
        let s0 : St := ⟨cap.map (fun a => ⟨[], .one (.c a)⟩) ++ List.replicate (fn.ntmps - cap.length) ⟨[], .any⟩, mem⟩
        (evOpsP P H X call callP (o :: r) r ⟨s0.put o.dst [] (.one (.c (recC pan))), []⟩).bind fun y => match y.1 with
          | .normal => (evCodeP P H X call callP g mem.length 0 x ⟨{ y.2.s with tmps := y.2.s.tmps.map unkey }, y.2.dl⟩).bind fun z => match z.1, z.2.dl with
            | .normal, [] => if (evResults P z.2.s fn.results.toList).isSome then .leaf (none, z.2.s.mem) else .fail
            | .ret, [] => if (evResults P z.2.s fn.results.toList).isSome then .leaf (none, z.2.s.mem) else .fail
            | _, _ => .fail
          | _ => .fail
        else .fail
      | none => .fail
    | none => .fail
  | none => .fail

def leaveP (P : Program) (H : Hd) (X : HdP) (call : CallH) (callP : CallP) (fn : Func) (s : St) : List CV → Option CV → Mem → Tree (Out × Mem)
  | [], none, mem => match evResults P { s with mem := mem } fn.results.toList with
    | some l => .leaf (.ret (resOf l), mem)
    | none => .fail
  | [], some y, mem => .leaf (.pan y, mem)
  | d :: dl, u, mem => match d with
    | .fn (.func g) [] cap => (evDef P H X call callP g cap u mem).bind fun y => leaveP P H X call callP fn s dl y.1 y.2
    | _ => .fail

def evFnP (P : Program) (H : Hd) (X : HdP) : Nat → CallP
  | 0, _, _, _ => .fail
  | n + 1, f, args, mem => match lookPx X.px f with
   | some G => G args mem
   | none => match nth P.funcs.toList f with
    | some fn => match fn.body with
      | some c => if Nat.ble args.length fn.ntmps then
        (evCodeP P H X (evFn P H n) (evFnP P H X n) f mem.length 0 c ⟨⟨args.map (fun a => ⟨[], .one a⟩) ++ List.replicate (fn.ntmps - args.length) ⟨[], .any⟩, mem⟩, []⟩).bind fun x => match x.1 with
          | .exit _ => .fail
          | .pan y => leaveP P H X (evFn P H n) (evFnP P H X n) fn x.2.s x.2.dl (some y) x.2.s.mem
          | _ => leaveP P H X (evFn P H n) (evFnP P H X n) fn x.2.s x.2.dl none x.2.s.mem
        else .fail
      | none => .fail
    | none => .fail

end Go.Sx
/-
  The evaluator with panics, deferred calls and recover (part Pb): operations.
-/
namespace Go.Sx
open Go Go.RowKit

/-- how a call has ended -/
def Out.Ends (F : Nat → Prop) (w : World) (bs : List BI) : Out → Ending → Prop
  | .ret a, e => ∃ v, e = .returned v ∧ a.Rel F w bs v
  | .pan x, e => ∃ v, e = .panicked [{ v, recovered := false }] ∧ x.Rel F w bs v

def CallPOk (P : Program) (callP : CallP) : Prop :=
  ∀ f args mem r mem', (callP f args mem).sel = some (r, mem') → ∀ F w bs vs, MemRel P F w bs mem → All2 (A1.Rel F w bs) args vs →
    Calls P f vs.toArray w (fun e w' => ∃ F' bs', Ext bs.length F w bs F' w' bs' ∧ MemRel P F' w' bs' mem' ∧ r.Ends F' w' bs' e)

/-- a summary of a function that may panic, and reads its arguments alone -/
def RxOne (P : Program) (f : Nat) (G : List A1 → List A1 → Tree Out) : Prop :=
  ∀ args mem r, (args.map (view1 mem)).all closedA = true → (G args (args.map (view1 mem))).sel = some r → ∀ F w bs vs, MemRel P F w bs mem → All2 (A1.Rel F w bs) args vs →
    Calls P f vs.toArray w (fun e w' => Below w.heap.size w w' ∧ r.Ends F w' bs e)

def RxOk (P : Program) (rx : List (Nat × (List A1 → List A1 → Tree Out))) : Prop := ∀ f G, lookRx rx f = some G → RxOne P f G

/-- a deferred closure -/
def DRel (F : Nat → Prop) (w : World) (bs : List BI) (c : CV) (d : Deferred) : Prop :=
  ∃ g cap vs, c = .fn (.func g) [] cap ∧ d = { target := .fn (.func g) vs.toArray, args := #[] } ∧ All2 (CV.Rel F w bs) cap vs

theorem All2.grow {F F' bs bs' w w'} (g : Grow F F' bs bs' w w') : ∀ {l : List CV} {vs : List Value}, All2 (CV.Rel F w bs) l vs → All2 (CV.Rel F' w' bs') l vs
  | _, _, .nil => .nil
  | _, _, .cons h r => .cons (h.grow g) (All2.grow g r)

theorem DRel.grow {F F' bs bs' w w' c d} (g : Grow F F' bs bs' w w') (h : DRel F w bs c d) : DRel F' w' bs' c d :=
  let ⟨f, cap, vs, h1, h2, h3⟩ := h
  ⟨f, cap, vs, h1, h2, h3.grow g⟩

def DsRel (F : Nat → Prop) (w : World) (bs : List BI) (dl : List CV) (D : List Deferred) : Prop := All2 (DRel F w bs) dl D
theorem DsRel.grow {F F' bs bs' w w'} (g : Grow F F' bs bs' w w') : ∀ {dl D}, DsRel F w bs dl D → DsRel F' w' bs' dl D
  | _, _, .nil => .nil
  | _, _, .cons h r => .cons (h.grow g) (DsRel.grow g r)

variable {P : Program}

theorem run_neq_nili {a : Act} {t : TypeId} {x : Operand} {ms : Array (String × TypeId)} (hz : a.eval x = .nilIface) (hu : P.underlying t = some (.interface ms)) (w : World) :
    (do eqGuard .neq t x (.const .nilIface) (a.eval x) (a.eval (.const .nilIface)); binOp .neq t (a.eval x) (a.eval (.const .nilIface)) : Sem Value).run P w = .ok (.bool false) w := by
  rw [hz]
  have e1 : eqGuard .neq t x (.const .nilIface) .nilIface (a.eval (.const .nilIface)) = (pure () : Sem Unit) := by
    show eqGuard .neq t x (.const .nilIface) .nilIface .nilIface = _
    cases x <;> rfl
  have e2 : binOp .neq t .nilIface (a.eval (.const .nilIface)) = (do pure (.bool (!(← Op.equal t .nilIface .nilIface))) : Sem Value) := rfl
  have e3 : (Op.equal t .nilIface .nilIface).run P w = .ok true w := by
    have h : ∀ d, (Op.equalIn (d + 1) t .nilIface .nilIface).run P w = .ok true w := fun d => by simp [Op.equalIn, run_underlying hu]
    exact h 9999
  rw [e1, e2]
  simp [e3]

theorem run_neq_iface {a : Act} {t t' : TypeId} {v : Value} {x : Operand} {ms : Array (String × TypeId)} (hz : a.eval x = .iface t' v) (hu : P.underlying t = some (.interface ms)) (w : World) :
    (do eqGuard .neq t x (.const .nilIface) (a.eval x) (a.eval (.const .nilIface)); binOp .neq t (a.eval x) (a.eval (.const .nilIface)) : Sem Value).run P w = .ok (.bool true) w := by
  rw [hz]
  have e1 : eqGuard .neq t x (.const .nilIface) (.iface t' v) (a.eval (.const .nilIface)) = (pure () : Sem Unit) := by
    show eqGuard .neq t x (.const .nilIface) (.iface t' v) .nilIface = _
    rfl
  have e2 : binOp .neq t (.iface t' v) (a.eval (.const .nilIface)) = (do pure (.bool (!(← Op.equal t (.iface t' v) .nilIface))) : Sem Value) := rfl
  have e3 : (Op.equal t (.iface t' v) .nilIface).run P w = .ok false w := by
    have h : ∀ d, (Op.equalIn (d + 1) t (.iface t' v) .nilIface).run P w = .ok false w := fun d => by simp [Op.equalIn, run_underlying hu]
    exact h 9999
  rw [e1, e2]
  simp [e3]

theorem evIf_ok {F : Nat → Prop} {w : World} {bs : List BI} {ρ : Operand → Option AV} {a : Act} (hρ : ∀ x av, ρ x = some av → av.Rel F w bs (a.eval x)) {o : Oper} {r : AV} (h : evIf P ρ o.op = some r) :
    ∃ v, r.Rel F w bs v ∧ (execOp a.eval o).run P w = .ok (.value v) w := by
  unfold evIf at h
  split at h
  · rename_i t x ho
    split at h
    · simp at h
    · rename_i d hd hne
      split at h
      · rename_i y hy
        split at h
        · simp at h; subst h
          have hr := hρ _ _ hy
          refine ⟨.iface t (a.eval x), CV.Rel.iface hr, ?_⟩
          unfold execOp
          rw [ho]
          simp only [Instr.makeInterface, Sem.run_bind, run_underlying hne]
          cases d <;> first | rfl | (exact absurd rfl (hd _))
        · simp at h
      · simp at h
    · simp at h
  · rename_i x t0 a0 ho
    split at h
    · simp at h
    · rename_i d hd hne
      split at h
      · rename_i t y hy
        split at h
        · rename_i ht
          have ht := eq_of_beq ht
          subst ht
          simp at h; subst h
          have hr := hρ _ _ hy
          generalize hz : a.eval x = z at hr
          cases hr with
          | iface hv =>
            rename_i v
            refine ⟨.tuple #[v, .bool true], ⟨[v, .bool true], rfl, .cons hv (.cons (CV.Rel.bool _) .nil)⟩, ?_⟩
            unfold execOp
            rw [ho]
            simp only [Instr.typeAssert, Sem.run_bind, run_underlying hne, hz]
            cases d <;> first | exact (hd _ rfl).elim | simp
        · simp at h
      · simp at h
    · simp at h
  · rename_i t x z ho
    split at h
    · rename_i ms hu hy
      simp at h; subst h
      have hr := hρ _ _ hy
      generalize hz : a.eval x = y at hr
      cases hr
      refine ⟨.bool false, CV.Rel.bool _, ?_⟩
      unfold execOp
      rw [ho]
      simp only [Sem.run_bind, run_neq_nili hz hu w, Result.andThen_ok, Sem.run_pure]
    · rename_i ms hu hy
      simp at h; subst h
      have hr := hρ _ _ hy
      generalize hz : a.eval x = y at hr
      cases hr
      refine ⟨.bool true, CV.Rel.bool _, ?_⟩
      unfold execOp
      rw [ho]
      simp only [Sem.run_bind, run_neq_iface hz hu w, Result.andThen_ok, Sem.run_pure]
    · simp at h
  · simp at h

theorem evOpQ_at {H : Hd} (hpc : SumOk P H) {X : HdP} (hrx : RxOk P X.rx) {call : CallH} (hcall : CallOk P call) {callP : CallP} (hcallP : CallPOk P callP) {mem : Mem} {F : Nat → Prop} {w : World} {bs : List BI} {a : Act} (hm : MemRel P F w bs mem) {ρ : List (Nat × Bool) → Operand → Option AV}
    (hρ : ∀ K x av, KH a K → ρ K x = some av → av.Rel F w bs (a.eval x)) {o : Oper} {r : Out} {mem' : Mem}
    (h : (evOpQ P H X call callP mem ρ o.op).sel = some (r, mem')) {K : Act → World → Prop} {Q : Exit → Act → World → Prop}
    (hK : ∀ F' w' bs' v av, r = .ret av → Ext bs.length F w bs F' w' bs' → MemRel P F' w' bs' mem' → av.Rel F' w' bs' v → K (a.put o.dst v) w')
    (hP : ∀ F' w' bs' v x, r = .pan x → Ext bs.length F w bs F' w' bs' → MemRel P F' w' bs' mem' → x.Rel F' w' bs' v → Q (.panic [{ v, recovered := false }]) a w') : o.wp P a w K Q := by
  have h0 : ∀ x av, ρ [] x = some av → av.Rel F w bs (a.eval x) := fun x av hh => hρ [] x av KH_nil hh
  have plain : ((evOp P H call mem ρ o.op).bind fun y => (.leaf (.ret y.1, y.2) : Tree (Out × Mem))).sel = some (r, mem') → o.wp P a w K Q := fun h => by
    obtain ⟨⟨rv, m⟩, h1, h2⟩ := sel_bind h
    simp only [Tree.sel, Option.some.injEq, Prod.mk.injEq] at h2
    obtain ⟨rfl, rfl⟩ := h2
    exact evOp_at hpc hcall hm hρ h1 fun F' w' bs' v hext hm hr => hK F' w' bs' v rv rfl hext hm hr
  unfold evOpQ at h
  split at h
  · rename_i v0 hv0
    simp only [Tree.sel, Option.some.injEq, Prod.mk.injEq] at h
    obtain ⟨rfl, rfl⟩ := h
    obtain ⟨v, hr, hrun⟩ := evIf_ok h0 hv0
    unfold Oper.wp
    rw [hrun]
    exact hK F w bs v v0 rfl Ext.refl hm hr
  · split at h
    · rename_i c ho
      split at h
      · split at h
        · rename_i f args ht
          split at h
          · rename_i hc
            obtain ⟨vs, hvs, hrun⟩ := evTarget_ok h0 ho ht hc
            split at h
            · rename_i G hG
              split at h
              · rename_i hcl
                obtain ⟨r0, h1, h2⟩ := sel_bind h
                simp only [Tree.sel, Option.some.injEq, Prod.mk.injEq] at h2
                obtain ⟨rfl, rfl⟩ := h2
                unfold Oper.wp
                rw [hrun]
                refine (hrx f G hG args mem r0 hcl h1 F w bs vs hm hvs).mono fun e w' ⟨hb, hr⟩ => ?_
                cases r0 with
                | ret av =>
                  obtain ⟨v, rfl, hv⟩ := hr
                  exact hK F w' bs v av rfl (Ext.of_below hb) (hm.below hb) hv
                | pan x =>
                  obtain ⟨v, rfl, hv⟩ := hr
                  exact hP F w' bs v x rfl (Ext.of_below hb) (hm.below hb) hv
              · simp [Tree.sel] at h
            · split at h
              · unfold Oper.wp
                rw [hrun]
                refine (hcallP f args _ _ _ h F w bs vs hm hvs).mono fun e w' ⟨F', bs', hext, hm', hr⟩ => ?_
                cases r with
                | ret av =>
                  obtain ⟨v, rfl, hv⟩ := hr
                  exact hK F' w' bs' v av rfl hext hm' hv
                | pan x =>
                  obtain ⟨v, rfl, hv⟩ := hr
                  exact hP F' w' bs' v x rfl hext hm' hv
              · exact plain h
          · simp [Tree.sel] at h
        · simp [Tree.sel] at h
      · exact plain h
    · exact plain h

theorem evOpP_ok {H : Hd} (hpc : SumOk P H) {X : HdP} (hrx : RxOk P X.rx) {call : CallH} (hcall : CallOk P call) {callP : CallP} (hcallP : CallPOk P callP) {s : StP} {F : Nat → Prop} {w : World} {bs : List BI} {a : Act} (hs : StRel P a.defers F w bs s.s a) (hd : DsRel F w bs s.dl a.defers) {o : Oper} {r : Out} {mem' : Mem} {dl' : List CV}
    (h : (evOpP P H X call callP s o.op).sel = some (r, mem', dl')) {K : Act → World → Prop} {Q : Exit → Act → World → Prop}
    (hK : ∀ F' w' bs' v av D', r = .ret av → Ext bs.length F w bs F' w' bs' → MemRel P F' w' bs' mem' → av.Rel F' w' bs' v → DsRel F' w' bs' dl' D' → K ({ a with defers := D' }.put o.dst v) w')
    (hP : ∀ F' w' bs' v x, r = .pan x → Ext bs.length F w bs F' w' bs' → MemRel P F' w' bs' mem' → x.Rel F' w' bs' v → DsRel F' w' bs' dl' a.defers → Q (.panic [{ v, recovered := false }]) a w') : o.wp P a w K Q := by
  have h0 : ∀ x av, opnd s.s [] x = some av → av.Rel F w bs (a.eval x) := fun x av hh => opnd_ok hs KH_nil hh
  have plain : ((evOpQ P H X call callP s.s.mem (fun K => opnd s.s K) o.op).bind fun y => (.leaf (y.1, y.2, s.dl) : Tree (Out × Mem × List CV))).sel = some (r, mem', dl') → o.wp P a w K Q := fun h => by
    obtain ⟨⟨rv, m⟩, h1, h2⟩ := sel_bind h
    simp only [Tree.sel, Option.some.injEq, Prod.mk.injEq] at h2
    obtain ⟨rfl, rfl, rfl⟩ := h2
    exact evOpQ_at hpc hrx hcall hcallP hs.mem (fun K x av hk hh => opnd_ok hs hk hh) h1 (fun F' w' bs' v av e hext hm hr => hK F' w' bs' v av a.defers e hext hm hr (hd.grow hext.grow)) fun F' w' bs' v x e hext hm hr => hP F' w' bs' v x e hext hm hr (hd.grow hext.grow)
  unfold evOpP at h
  split at h
  · rename_i x ho
    split at h
    · rename_i y hy
      split at h
      · rename_i hc
        simp only [Tree.sel, Option.some.injEq, Prod.mk.injEq] at h
        obtain ⟨rfl, rfl, rfl⟩ := h
        have hr := h0 _ _ hy
        have hr : y.Rel F w bs (a.eval x) := hr
        generalize hz : a.eval x = z at hr
        rw [Bool.and_eq_true] at hc
        cases hr <;> first | (simp [isIface] at hc; done) | skip
        rename_i t y v hv
        unfold Oper.wp
        have hrun : (execOp a.eval o).run P w = .halt (.panic (.iface t v)) w := by
          unfold execOp
          rw [ho]
          simp [hz, Instr.panic, goPanic]
        rw [hrun]
        exact hP F w bs _ _ rfl Ext.refl hs.mem (.iface hv) hd
      · simp [Tree.sel] at h
    · simp [Tree.sel] at h
  · rename_i c ho
    split at h
    · rename_i x hcal harg
      split at h
      · rename_i g cap hx
        simp only [Tree.sel, Option.some.injEq, Prod.mk.injEq] at h
        obtain ⟨rfl, rfl, rfl⟩ := h
        have hr := h0 _ _ hx
        generalize hz : a.eval x = z at hr
        cases hr with
        | fn l1 l2 r1 r2 =>
          rename_i vf vc
          have hvf : vf = [] := List.length_eq_zero_iff.1 l1.symm
          subst hvf
          have hrun : (execOp a.eval o).run P w = .ok (.defer { target := .fn (.func g) vc.toArray, args := #[] }) w := by
            have ha : c.args = #[] := by rw [← Array.toArray_toList (xs := c.args), harg]
            unfold execOp
            rw [ho]
            simp [resolve, hcal, hz, Deferred.ofValue, ha]
          unfold Oper.wp
          rw [hrun]
          refine hK F w bs undef .any ({ target := .fn (.func g) vc.toArray, args := #[] } :: a.defers) rfl Ext.refl hs.mem trivial (.cons ⟨g, cap, vc, rfl, rfl, All2.of_nth l2 r2⟩ hd)
      · simp [Tree.sel] at h
    · simp [Tree.sel] at h
  · exact plain h

end Go.Sx
/-
  The evaluator with panics, deferred calls and recover (part Pc): regions.
-/
namespace Go.Sx
open Go Go.RowKit

variable {P : Program}

structure PRel (P : Program) (F : Nat → Prop) (w : World) (bs : List BI) (s : StP) (a : Act) : Prop where
  st : StRel P a.defers F w bs s.s a
  ds : DsRel F w bs s.dl a.defers

/-- how code has ended -/
def XRel (F : Nat → Prop) (w : World) (bs : List BI) : XP → Exit → Prop
  | .normal, e => e = .normal
  | .exit k, e => e = .exit k
  | .ret, e => e = .ret
  | .pan x, e => ∃ v, e = .panic [{ v, recovered := false }] ∧ x.Rel F w bs v

theorem StRel.setD {D D' F w bs s} {a : Act} (h : StRel P D F w bs s a) : StRel P D' F w bs s { a with defers := D' } := ⟨rfl, h.len, h.slots, h.mem⟩
theorem StRel.toP {D F w bs} {s : St} {dl : List CV} {a : Act} (h : StRel P D F w bs s a) (hd : DsRel F w bs dl D) : PRel P F w bs ⟨s, dl⟩ a := by
  have e := h.defers
  subst e
  exact ⟨h, hd⟩

theorem evOpsP_ok {H : Hd} (hpc : SumOk P H) {X : HdP} (hrx : RxOk P X.rx) {call : CallH} (hcall : CallOk P call) {callP : CallP} (hcallP : CallPOk P callP) {ops : Array Oper} {Q : Exit → Act → World → Prop} {x : XP} {s' : StP} : ∀ (l : List Oper) (s : StP) {F : Nat → Prop} {w : World} {bs : List BI} {a : Act},
    (evOpsP P H X call callP ops.toList l s).sel = some (x, s') → PRel P F w bs s a → (∀ F' w' bs' a' e, Ext bs.length F w bs F' w' bs' → PRel P F' w' bs' s' a' → XRel F' w' bs' x e → Q e a' w') → wpList P ops Q l a w
  | [], s, F, w, bs, a, h, hs, hQ => by
    simp only [evOpsP, Tree.sel, Option.some.injEq, Prod.mk.injEq] at h
    obtain ⟨rfl, rfl⟩ := h
    exact wpList_nil (hQ F w bs a _ Ext.refl hs rfl)
  | o :: r, s, F, w, bs, a, h, hs, hQ => by
    simp only [evOpsP] at h
    split at h
    · rename_i hg
      obtain ⟨⟨rv, mem', dl'⟩, h1, h2⟩ := sel_bind h
      refine wpList_plain hg fun K hK => evOpP_ok hpc hrx hcall hcallP hs.st hs.ds h1 (fun F' w' bs' v av D' hrv hext hm hr hd => hK _ _ ?_) (fun F' w' bs' v y hrv hext hm hr hd => ?_)
      · subst hrv
        have hst : StRel P D' F' w' bs' { s.s with mem := mem' } { a with defers := D' } := (hs.st.ext hext hm).setD
        exact evOpsP_ok hpc hrx hcall hcallP r _ h2 ((StRel.put hst (ks := []) (fun _ hp => by cases hp) (fun _ => hr) (fun h => (h KH_nil).elim)).toP hd) fun F'' w'' bs'' a'' e he hs'' hx => hQ _ _ _ _ _ (hext.trans he hext.le) hs'' hx
      · subst hrv
        simp only [Tree.sel, Option.some.injEq, Prod.mk.injEq] at h2
        obtain ⟨rfl, rfl⟩ := h2
        exact hQ F' w' bs' a _ hext ⟨hs.st.ext hext hm, hd⟩ ⟨v, rfl, hr⟩
    · rename_i j b hg
      split at h
      · rename_i K hkeys
        split at h
        · simp [Tree.sel] at h
        rename_i hdst
        simp only [Bool.not_eq_true] at hdst
        have hkd : ∀ p ∈ K, some p.1 ≠ o.dst := by
          intro p hp e
          rw [List.any_eq_false] at hdst
          exact hdst p hp (by simp [e])
        have hiff := keys_ok hs.st hkeys
        split at h
        · rename_i hq
          obtain ⟨⟨rv, mem'⟩, h1, h2⟩ := sel_bind h
          refine wpList_step fun KK hKK => ?_
          by_cases hk : KH a K
          · have hw : Region.wanted o (yielded ops a.tmps) = true := (wanted_iff hg _).2 (hiff.1 hk)
            rw [if_pos hw]
            have h1' := toNeed_sel h1 (gterm_ok hs.st hk)
            have hρ : ∀ K' x av, KH a K' → opnd s.s (K' ++ K) x = some av → av.Rel F w bs (a.eval x) := fun K' x av hk' hh => opnd_ok hs.st (fun p hp => (List.mem_append.1 hp).elim (hk' p) (hk p)) hh
            have hme := still_mem (ρ := fun K' => opnd s.s (K' ++ K)) hpc hs.st.mem hρ hq h1'
            subst hme
            refine evOp_at hpc hcall hs.st.mem hρ h1' fun F' w' bs' v hext hm hr => hKK _ _ ?_
            exact evOpsP_ok hpc hrx hcall hcallP r _ h2 ((StRel.put (hs.st.ext hext hm) hkd (fun _ => hr) (fun h => (h hk).elim)).toP (hs.ds.grow hext.grow)) fun F'' w'' bs'' a'' e he hs'' hx => hQ _ _ _ _ _ (hext.trans he hext.le) hs'' hx
          · have hw : ¬ Region.wanted o (yielded ops a.tmps) = true := fun h => hk (hiff.2 ((wanted_iff hg _).1 h))
            rw [if_neg hw]
            exact hKK _ _ (evOpsP_ok hpc hrx hcall hcallP r _ h2 ((StRel.put hs.st hkd (fun h => (hk h).elim) (fun _ => rfl)).toP hs.ds) hQ)
        · split at h
          · rename_i g hgd
            have hgk := gdec_ok hs.st hgd
            simp only [Tree.sel] at h
            refine wpList_step fun KK hKK => ?_
            by_cases hk : KH a K
            · have hw : Region.wanted o (yielded ops a.tmps) = true := (wanted_iff hg _).2 (hiff.1 hk)
              rw [if_pos hw]
              rw [hgk.2 hk, cond_true] at h
              obtain ⟨⟨rv, mem'⟩, h1, h2⟩ := sel_bind h
              have hρ : ∀ K' x av, KH a K' → opnd s.s (K' ++ K) x = some av → av.Rel F w bs (a.eval x) := fun K' x av hk' hh => opnd_ok hs.st (fun p hp => (List.mem_append.1 hp).elim (hk' p) (hk p)) hh
              refine evOp_at hpc hcall hs.st.mem hρ h1 fun F' w' bs' v hext hm hr => hKK _ _ ?_
              exact evOpsP_ok hpc hrx hcall hcallP r _ h2 ((StRel.put (hs.st.ext hext hm) (fun _ hp => by cases hp) (fun _ => hr) (fun h => (h KH_nil).elim)).toP (hs.ds.grow hext.grow)) fun F'' w'' bs'' a'' e he hs'' hx => hQ _ _ _ _ _ (hext.trans he hext.le) hs'' hx
            · have hw : ¬ Region.wanted o (yielded ops a.tmps) = true := fun h => hk (hiff.2 ((wanted_iff hg _).1 h))
              rw [if_neg hw]
              have hg0 : g = false := by cases hgv : g; rfl; exact (hk (hgk.1 hgv)).elim
              rw [hg0, cond_false] at h
              exact hKK _ _ (evOpsP_ok hpc hrx hcall hcallP r _ h ((StRel.put hs.st hkd (fun h => (hk h).elim) (fun _ => rfl)).toP hs.ds) hQ)
          · simp [Tree.sel] at h
      · simp [Tree.sel] at h

end Go.Sx
/-
  The evaluator with panics (part Pp): the plan of a drawn region, told by what its steps leave behind.
-/
namespace Go.Sx
open Go Go.RowKit

/-- the run in the order of the text, and what it says of all orders -/
structure APlan (all : List Oper) where
  st : Nat → St
  rs : Nat → AV
  T : Nat → Touch
  K : Nat → List (Nat × Bool)
  anc : Nat → Nat → Prop
  put : ∀ i o, all[i]? = some o → (st (i + 1)).tmps = ((st i).put0 o.dst (K i) (rs i)).tmps
  same1 : ∀ i l, i < all.length → ¬ (T i).wr l → obs (st (i + 1)).mem l = obs (st i).mem l
  start : ∀ sl ∈ (st 0).tmps, sl.keys = []
  edges : ∀ i o, all[i]? = some o → ∀ e ∈ o.after, Region.binds .any e = true → e.on < i
  dsts : ∀ (i j : Nat) (o o' : Oper) (d : Tmp), all[i]? = some o → all[j]? = some o' → o.dst = some d → o'.dst = some d → i = j
  tmps : ∀ (j : Nat) (o : Oper) (t : Tmp), all[j]? = some o → t ∈ tmpsIn o.op.operands.toList → (∃ (i : Nat) (oi : Oper), all[i]? = some oi ∧ oi.dst = some t ∧ (anc i j ∨ anc j i ∨ i = j)) ∨ (∀ (i : Nat) (oi : Oper), all[i]? = some oi → oi.dst ≠ some t)
  guards : ∀ (j : Nat) (o : Oper) (g : Nat) (b : Bool), all[j]? = some o → o.guard = some (g, b) → anc g j
  keys : ∀ (j : Nat) (o : Oper) p, all[j]? = some o → p ∈ K j → ∃ (i : Nat) (oi : Oper), all[i]? = some oi ∧ oi.dst = some p.1 ∧ anc i j
  touch : ∀ i j l, i < j → j < all.length → (T i).wr l ∧ (T j).at l ∨ (T i).at l ∧ (T j).wr l → anc i j
  lt : ∀ i j, anc i j → i < j
  down : ∀ (L N : Nat → Prop), (∀ j o, all[j]? = some o → N j → ∀ e ∈ o.after, Region.binds .any e = true → L e.on) → (∀ j, L j → N j) → ∀ i j, anc i j → N j → L i

variable {all : List Oper}

structure JA (p : APlan all) (L : Nat → Prop) (s : St) : Prop where
  len : s.tmps.length = (p.st 0).tmps.length
  slots : ∀ (i : Nat) (o : Oper) (d : Tmp), all[i]? = some o → o.dst = some d → (L i → nth s.tmps d = nth (setN (p.st 0).tmps d ⟨p.K i, p.rs i⟩) d) ∧ (¬ L i → nth s.tmps d = nth (p.st 0).tmps d)
  free : ∀ d : Nat, (∀ (i : Nat) (o : Oper), all[i]? = some o → o.dst ≠ some d) → nth s.tmps d = nth (p.st 0).tmps d
  mem : ∀ l, ∃ i, i ≤ all.length ∧ obs s.mem l = obs (p.st i).mem l ∧ ∀ k, k < all.length → (p.T k).wr l → (L k ↔ k < i)

theorem JA.put {p : APlan all} {L : Nat → Prop} {s s1 : St} (h : JA p L s) {j : Nat} {o : Oper} (ho : all[j]? = some o) (ht : s1.tmps = (s.put0 o.dst (p.K j) (p.rs j)).tmps)
    (hm : ∀ l, ∃ i, i ≤ all.length ∧ obs s1.mem l = obs (p.st i).mem l ∧ ∀ k, k < all.length → (p.T k).wr l → ((L k ∨ k = j) ↔ k < i)) : JA p (fun k => L k ∨ k = j) s1 := by
  refine ⟨?_, fun i oi d hi hd => ?_, fun d hd => ?_, hm⟩
  · rw [ht, ← h.len]
    cases o.dst <;> simp [St.put0, setN_eq]
  · by_cases hij : i = j
    · subst hij
      rw [ho] at hi
      simp at hi; subst hi
      refine ⟨fun _ => ?_, fun hn => (hn (.inr rfl)).elim⟩
      rw [ht, hd]
      exact nth_set_congr h.len
    · have hne : o.dst ≠ some d := fun e => hij (p.dsts i j oi o d hi ho hd e)
      rw [ht, put0_ne hne]
      exact ⟨fun hl => (h.slots i oi d hi hd).1 (hl.resolve_right hij), fun hn => (h.slots i oi d hi hd).2 fun hl => hn (.inl hl)⟩
  · rw [ht, put0_ne (hd j o ho)]
    exact h.free d hd

theorem JA.congr {p : APlan all} {L L' : Nat → Prop} {s : St} (h : JA p L s) (hl : ∀ k, k < all.length → (L k ↔ L' k)) : JA p L' s := by
  refine ⟨h.len, fun i o d hi hd => ?_, h.free, fun l => ?_⟩
  · have := hl i (lt_of_get hi)
    exact ⟨fun x => (h.slots i o d hi hd).1 (this.2 x), fun x => (h.slots i o d hi hd).2 fun y => x (this.1 y)⟩
  · obtain ⟨i, h1, h2, h3⟩ := h.mem l
    exact ⟨i, h1, h2, fun k hk hw => (hl k hk).symm.trans (h3 k hk hw)⟩

theorem asame_between {p : APlan all} {l i : Nat} : ∀ (d : Nat), i + d ≤ all.length → (∀ k, i ≤ k → k < i + d → ¬ (p.T k).wr l) → obs (p.st (i + d)).mem l = obs (p.st i).mem l
  | 0, _, _ => rfl
  | d + 1, hd, h => by
    rw [← Nat.add_assoc, p.same1 _ _ (by omega) (h (i + d) (by omega) (by omega))]
    exact asame_between d (by omega) fun k h1 h2 => h k h1 (by omega)

theorem text_JA (p : APlan all) : ∀ j, j ≤ all.length → JA p (fun k => k < j) (p.st j)
  | 0, _ => ⟨rfl, fun i o d _ _ => ⟨fun h => by omega, fun _ => rfl⟩, fun _ _ => rfl, fun l => ⟨0, by omega, rfl, fun k _ _ => by simp⟩⟩
  | j + 1, hj => by
    have ho : all[j]? = some all[j] := List.getElem?_eq_getElem (by omega)
    have hs := p.put j _ ho
    have h := text_JA p j (by omega)
    have := h.put ho (s1 := p.st (j + 1)) hs fun l => ⟨j + 1, hj, rfl, fun k _ _ => by omega⟩
    exact this.congr fun k hk => by omega

/-- all that an operation sees is as it was in the order of the text -/
theorem JA.same {p : APlan all} {L : Nat → Prop} {s : St} (h : JA p L s) {j : Nat} {o : Oper} (ho : all[j]? = some o) (hd : ∀ i, p.anc i j → L i) (hL : ∀ i k, p.anc i k → L k → L i) (hj : ¬ L j) :
    (∀ t ∈ tmpsIn o.op.operands.toList, nth s.tmps t = nth (p.st j).tmps t) ∧ (∀ (i : Nat) (oi : Oper) (d : Tmp), all[i]? = some oi → oi.dst = some d → p.anc i j → nth s.tmps d = nth (p.st j).tmps d) ∧
    (∀ l, (p.T j).at l → obs s.mem l = obs (p.st j).mem l) := by
  have hjl := lt_of_get ho
  have ht := text_JA p j (by omega)
  have hs : ∀ (i : Nat) (oi : Oper) (d : Tmp), all[i]? = some oi → oi.dst = some d → p.anc i j → nth s.tmps d = nth (p.st j).tmps d := by
    intro i oi d hi hdd ha
    rw [(h.slots i oi d hi hdd).1 (hd i ha), (ht.slots i oi d hi hdd).1 (p.lt i j ha)]
  refine ⟨fun t htt => ?_, hs, fun l hl => ?_⟩
  · rcases p.tmps j o t ho htt with ⟨i, oi, hi, hdd, ha | ha | rfl⟩ | hf
    · exact hs i oi t hi hdd ha
    · rw [(h.slots i oi t hi hdd).2 (fun hl => hj (hL _ _ ha hl)), (ht.slots i oi t hi hdd).2 (by have := p.lt j i ha; omega)]
    · rw [(h.slots i oi t hi hdd).2 hj, (ht.slots i oi t hi hdd).2 (by omega)]
    · rw [h.free t hf, ht.free t hf]
  · obtain ⟨i, hi, hob, hth⟩ := h.mem l
    rw [hob]
    rcases Nat.le_total i j with hij | hij
    · have := asame_between (p := p) (l := l) (i := i) (j - i) (by omega) fun k h1 h2 hw => by
        have hk : k < j := by omega
        have ha := p.touch k j l hk hjl (.inl ⟨hw, hl⟩)
        have := (hth k (by omega) hw).1 (hd k ha)
        omega
      rw [show i + (j - i) = j by omega] at this
      exact this.symm
    · have := asame_between (p := p) (l := l) (i := j) (i - j) (by omega) fun k h1 h2 hw => by
        have hlk := (hth k (by omega) hw).2 (by omega)
        rcases Nat.lt_or_eq_of_le h1 with hlt | rfl
        · exact hj (hL j k (p.touch j k l hlt (by omega) (.inr ⟨hl, hw⟩)) hlk)
        · exact hj hlk
      rw [show j + (i - j) = i by omega] at this
      exact this

theorem JA.eq {p : APlan all} {L : Nat → Prop} {s : St} (h : JA p L s) (hall : ∀ k, k < all.length → L k) : s = p.st all.length := by
  have ht := (text_JA p all.length (Nat.le_refl _)).congr (L' := L) fun k hk => ⟨fun _ => hall k hk, fun _ => hk⟩
  have h1 : s.tmps = (p.st all.length).tmps := by
    apply List.ext_getElem?
    intro d
    rw [← nth_eq, ← nth_eq]
    by_cases hf : ∀ (i : Nat) (o : Oper), all[i]? = some o → o.dst ≠ some d
    · rw [h.free d hf, ht.free d hf]
    · have : ∃ (i : Nat) (o : Oper), all[i]? = some o ∧ o.dst = some d := by
        apply Classical.byContradiction
        intro hn
        exact hf fun i o hi hd => hn ⟨i, o, hi, hd⟩
      obtain ⟨i, o, hi, hd⟩ := this
      rw [(h.slots i o d hi hd).1 (hall i (lt_of_get hi)), (ht.slots i o d hi hd).1 (hall i (lt_of_get hi))]
  have h2 : s.mem = (p.st all.length).mem := by
    refine obs_ext fun l => ?_
    obtain ⟨i, hi, hob, hth⟩ := h.mem l
    rw [hob]
    have := asame_between (p := p) (l := l) (i := i) (all.length - i) (by omega) fun k h1 h2 hw => by
      have := (hth k (by omega) hw).1 (hall k (by omega))
      omega
    rw [show i + (all.length - i) = all.length by omega] at this
    exact this.symm
  cases s
  cases hh : p.st all.length
  simp_all

/-- no slot that is there hangs on the one that is written -/
theorem JA.put_eq {p : APlan all} {L : Nat → Prop} {s : St} (h : JA p L s) {j : Nat} {o : Oper} (ho : all[j]? = some o) (hL : ∀ i k, p.anc i k → L k → L i) (hj : ¬ L j) (K : List (Nat × Bool)) (v : AV) :
    s.put o.dst K v = s.put0 o.dst K v := by
  cases hd : o.dst with
  | none => rfl
  | some d =>
    have : s.tmps.map (dropKey d) = s.tmps := by
      refine (List.map_congr_left fun sl hsl => ?_).trans (List.map_id _)
      simp only [id, dropKey]
      rw [if_neg]
      intro hany
      obtain ⟨q, hq, hqd⟩ := List.any_eq_true.1 hany
      obtain ⟨t, hn⟩ := mem_nth hsl
      have hstart : nth (p.st 0).tmps t = some sl → False := fun hx => by
        have := p.start sl (nth_mem hx)
        rw [this] at hq
        cases hq
      by_cases hf : ∀ (i : Nat) (o : Oper), all[i]? = some o → o.dst ≠ some t
      · exact hstart (by rw [← h.free t hf]; exact hn)
      · have : ∃ (i : Nat) (o : Oper), all[i]? = some o ∧ o.dst = some t := by
          apply Classical.byContradiction
          intro hn
          exact hf fun i o hi hd => hn ⟨i, o, hi, hd⟩
        obtain ⟨i, oi, hi, hdi⟩ := this
        by_cases hl : L i
        · rw [(h.slots i oi t hi hdi).1 hl, setN_eq, nth_eq, List.getElem?_set_self'] at hn
          cases hx : (p.st 0).tmps[t]? with
          | none => rw [hx] at hn; simp at hn
          | some y =>
            rw [hx] at hn
            simp at hn
            subst hn
            obtain ⟨i', oi', hi', hdi', ha⟩ := p.keys i oi q hi hq
            have : q.1 = d := by simpa using hqd
            rw [this] at hdi'
            have := p.dsts i' j oi' o d hi' ho hdi' hd
            subst this
            exact hj (hL _ _ ha hl)
        · exact hstart (by rw [← (h.slots i oi t hi hdi).2 hl]; exact hn)
    simp only [St.put, St.put0, this]

/-- the memory behind a further operation -/
theorem JA.mem_step {p : APlan all} {L : Nat → Prop} {s : St} (h : JA p L s) {j : Nat} {o : Oper} (ho : all[j]? = some o) (hd : ∀ i, p.anc i j → L i) (hL : ∀ i k, p.anc i k → L k → L i) (hj : ¬ L j) {mem' : Mem}
    (hm : ∀ l, ((p.T j).wr l → obs mem' l = obs (p.st (j + 1)).mem l) ∧ (¬ (p.T j).wr l → obs mem' l = obs s.mem l)) :
    ∀ l, ∃ i, i ≤ all.length ∧ obs mem' l = obs (p.st i).mem l ∧ ∀ k, k < all.length → (p.T k).wr l → ((L k ∨ k = j) ↔ k < i) := by
  intro l
  have hjl := lt_of_get ho
  by_cases hw : (p.T j).wr l
  · refine ⟨j + 1, by omega, (hm l).1 hw, fun k hk hwk => ⟨fun hx => ?_, fun hx => ?_⟩⟩
    · rcases hx with hx | rfl
      · rcases Nat.lt_or_ge j k with hjk | hjk
        · exact (hj (hL j k (p.touch j k l hjk hk (.inl ⟨hw, (Touch.wr_at hwk)⟩)) hx)).elim
        · omega
      · omega
    · rcases Nat.lt_or_eq_of_le (Nat.le_of_lt_succ hx) with hlt | rfl
      · exact .inl (hd k (p.touch k j l hlt hjl (.inl ⟨hwk, (Touch.wr_at hw)⟩)))
      · exact .inr rfl
  · obtain ⟨i, hi, hob, hth⟩ := h.mem l
    refine ⟨i, hi, by rw [(hm l).2 hw, hob], fun k hk hwk => ?_⟩
    have : k ≠ j := fun e => hw (e ▸ hwk)
    rw [← hth k hk hwk]
    simp [this]
end Go.Sx
/-
  The evaluator with panics (part Pq): drawn regions, in the order of the text.
-/
namespace Go.Sx
open Go Go.RowKit

variable {P : Program}

theorem evOpQ_other {H : Hd} {X : HdP} {call : CallH} {callP : CallP} {m : Mem} {ρ : List (Nat × Bool) → Operand → Option AV} {op : Op} (hv : evIf P (ρ []) op = none) (hop : ¬ ∃ c x, op = .call c ∧ c.callee = .value x) :
    evOpQ P H X call callP m ρ op = (evOp P H call m ρ op).bind fun y => .leaf (.ret y.1, y.2) := by
  unfold evOpQ
  simp only [hv]
  split
  · rename_i c
    split
    · rename_i x hx; exact (hop ⟨c, x, rfl, hx⟩).elim
    · rfl
  · rfl

theorem touchQ_other {H : Hd} {X : HdP} {ρ : Operand → Option AV} {n : Nat} {op : Op} (hv : evIf P ρ op = none) (hop : ¬ ∃ c x, op = .call c ∧ c.callee = .value x) : touchQ P H X ρ n op = touchOf H ρ n op := by
  unfold touchQ
  simp only [hv]
  split
  · rename_i c
    split
    · rename_i x hx; exact (hop ⟨c, x, rfl, hx⟩).elim
    · rfl
  · rfl

theorem evOpQ_mem {H : Hd} {X : HdP} {call : CallH} {callP : CallP} {M M' mem : Mem} {ρ : List (Nat × Bool) → Operand → Option AV} {op : Op} {r : Out} (h : (evOpQ P H X call callP M ρ op).sel = some (r, M'))
    (hat : ∀ l, (touchQ P H X (ρ []) M.length op).at l → obs mem l = obs M l) :
    ∃ mem', (evOpQ P H X call callP mem ρ op).sel = some (r, mem') ∧ ∀ l, ((touchQ P H X (ρ []) M.length op).wr l → obs mem' l = obs M' l) ∧ (¬ (touchQ P H X (ρ []) M.length op).wr l → obs mem' l = obs mem l ∧ obs M' l = obs M l) := by
  have plain : ∀ {T : Touch}, T = touchOf H (ρ []) M.length op → (∀ l, T.at l → obs mem l = obs M l) → ((evOp P H call M ρ op).bind fun y => (.leaf (.ret y.1, y.2) : Tree (Out × Mem))).sel = some (r, M') →
      ∃ mem', ((evOp P H call mem ρ op).bind fun y => (.leaf (.ret y.1, y.2) : Tree (Out × Mem))).sel = some (r, mem') ∧ ∀ l, (T.wr l → obs mem' l = obs M' l) ∧ (¬ T.wr l → obs mem' l = obs mem l ∧ obs M' l = obs M l) := fun hT hat h => by
    subst hT
    obtain ⟨⟨rv, m⟩, h1, h2⟩ := sel_bind h
    simp only [Tree.sel, Option.some.injEq, Prod.mk.injEq] at h2
    obtain ⟨rfl, rfl⟩ := h2
    obtain ⟨m2, h3, h4⟩ := evOp_mem h1 hat
    exact ⟨m2, by rw [bind_sel h3]; rfl, h4⟩
  cases hv : evIf P (ρ []) op with
  | some v0 =>
    unfold evOpQ at h ⊢
    unfold touchQ at hat ⊢
    simp only [hv] at h hat ⊢
    simp only [Tree.sel, Option.some.injEq, Prod.mk.injEq] at h
    obtain ⟨rfl, rfl⟩ := h
    exact ⟨mem, rfl, fun l => ⟨fun hw => by simp [Touch.wr] at hw, fun _ => ⟨rfl, rfl⟩⟩⟩
  | none =>
    by_cases hop : ∃ c x, op = .call c ∧ c.callee = .value x
    · obtain ⟨c, x, rfl, hx⟩ := hop
      unfold evOpQ at h ⊢
      unfold touchQ at hat ⊢
      simp only [hv, hx] at h hat ⊢
      cases ht : evTarget (ρ []) c with
      | none => simp only [ht] at h; simp [Tree.sel] at h
      | some p =>
        obtain ⟨f, args⟩ := p
        simp only [ht] at h hat ⊢
        by_cases hc : callable P f = true
        · simp only [hc, if_true] at h hat ⊢
          cases hG : lookRx X.rx f with
          | some G =>
            simp only [hG, Option.isSome_some, if_true] at h hat ⊢
            have hv : args.map (view1 mem) = args.map (view1 M) := List.map_congr_left fun x hx => view1_congr fun b sz hb => by
              have := hat (b + 1) ⟨false, osAll_mem hx hb⟩
              simpa [obs] using this
            rw [hv]
            split at h
            · rename_i hcl
              obtain ⟨r0, h1, h2⟩ := sel_bind h
              simp only [Tree.sel, Option.some.injEq, Prod.mk.injEq] at h2
              obtain ⟨rfl, rfl⟩ := h2
              refine ⟨mem, by rw [if_pos hcl, bind_sel h1]; rfl, fun l => ⟨fun hw => ?_, fun _ => ⟨rfl, rfl⟩⟩⟩
              have := osAll_rd hw
              simp at this
            · simp [Tree.sel] at h
          | none =>
            simp only [hG, Option.isSome_none, Bool.false_eq_true, if_false] at h hat ⊢
            by_cases hp : panics H f = true
            · simp only [hp, if_true] at h hat ⊢
              obtain rfl : mem = M := obs_ext fun l => hat l trivial
              exact ⟨M', h, fun l => ⟨fun _ => rfl, fun hn => (hn trivial).elim⟩⟩
            · simp only [hp] at h hat ⊢
              exact plain rfl hat h
        · simp only [hc] at h; simp [Tree.sel] at h
    · rw [touchQ_other hv hop] at hat ⊢
      rw [evOpQ_other hv hop] at h ⊢
      exact plain rfl hat h

end Go.Sx
/-
  The evaluator with panics (part Pr): drawn regions, the run in the order of the text as a plan.
-/
namespace Go.Sx
open Go Go.RowKit

variable {P : Program}

/-- a step in the order of the text; 'pn': the operation that panics -/
inductive StepQ (P : Program) (H : Hd) (X : HdP) (call : CallH) (callP : CallP) (all : List Oper) (masks : List Nat) (K0 : Nat) (pn : Option (Nat × CV × Mem)) (i : Nat) (s s1 : St) (o : Oper) (T : Touch) (K : List (Nat × Bool)) (r : AV) : Prop where
  | dead (h : deadQ masks pn i = true) (hT : T = some []) (hK : K = []) (hr : r = .any) (hs : s1 = s.put0 o.dst [] .any)
  | pan (z : CV) (m : Mem) (h : pn = some (i, z, m)) (hg : o.guard = none) (hT : T = panTouch K0 (touchQ P H X (lim o s []) s.mem.length o.op)) (hK : K = []) (hr : r = .any) (hs : s1 = s.put0 o.dst [] .any)
      (he : (evOpQ P H X call callP s.mem (fun K' => lim o s K') o.op).sel = some (.pan z, m))
  | ret (h : ∀ j z m, pn = some (j, z, m) → j ≠ i) (hg : o.guard = none) (hT : T = touchQ P H X (lim o s []) s.mem.length o.op) (hK : K = []) (hs : s1.tmps = (s.put0 o.dst [] r).tmps)
      (he : (evOpQ P H X call callP s.mem (fun K' => lim o s K') o.op).sel = some (.ret r, s1.mem))
  | guarded (h : ∀ j z m, pn = some (j, z, m) → j ≠ i) (j : Nat) (b : Bool) (m' : Mem) (hg : o.guard = some (j, b)) (hT : T = touchOf H (lim o s K) s.mem.length o.op) (hk : keysOf all s j b = some K) (hq : stillOp H (lim o s K) o.op = true) (hd : ∀ p ∈ K, some p.1 ≠ o.dst)
      (hs : s1.tmps = (s.put0 o.dst K r).tmps) (hm : s1.mem = s.mem) (he : ((evOp P H call s.mem (fun K' => lim o s (K' ++ K)) o.op).toNeed dGu (gterm s K)).sel = some (r, m'))

theorem evDrawP_runs {H : Hd} {X : HdP} {call : CallH} {callP : CallP} {all : List Oper} {masks : List Nat} {K0 : Nat} : ∀ (l : List Oper) (n : Nat) (s : St) (pn : Option (Nat × CV × Mem)) {s' : St} {is : List Info} {pn' : Option (Nat × CV × Mem)}, (∀ j z m, pn = some (j, z, m) → j < n) →
    (evDrawP P H X call callP all masks K0 n l s pn).sel = some (s', is, pn') →
    (pn.isSome = true → pn' = pn) ∧ (∀ j z m, pn = none → pn' = some (j, z, m) → n ≤ j ∧ j < n + l.length) ∧ ∃ (st : Nat → St) (rs : Nat → AV), st 0 = s ∧ st l.length = s' ∧ is.length = l.length ∧ ∀ i o, l[i]? = some o → ∃ T K, is[i]? = some (T, K) ∧ StepQ P H X call callP all masks K0 pn' (n + i) (st i) (st (i + 1)) o T K (rs i)
  | [], n, s, pn, s', is, pn', hlt, h => by
    simp only [evDrawP, Tree.sel, Option.some.injEq, Prod.mk.injEq] at h
    obtain ⟨rfl, rfl, rfl⟩ := h
    exact ⟨fun _ => rfl, fun j z m h1 h2 => (by rw [h1] at h2; cases h2), fun _ => s, fun _ => .any, rfl, rfl, rfl, fun i o h => by simp at h⟩
  | o :: r, n, s, pn, s', is, pn', hlt, h => by
    have key : ∀ (s1 : St) (T : Touch) (K : List (Nat × Bool)) (v : AV) (is' : List Info) (pn1 : Option (Nat × CV × Mem)), (∀ j z m, pn1 = some (j, z, m) → j < n + 1) → (evDrawP P H X call callP all masks K0 (n + 1) r s1 pn1).sel = some (s', is', pn') → is = (T, K) :: is' →
        ((pn1 = pn ∨ (pn = none ∧ ∃ z m, pn1 = some (n, z, m)))) → (pn1.isSome = true → pn' = pn1) → StepQ P H X call callP all masks K0 pn' n s s1 o T K v →
        (pn.isSome = true → pn' = pn) ∧ (∀ j z m, pn = none → pn' = some (j, z, m) → n ≤ j ∧ j < n + (o :: r).length) ∧ ∃ (st : Nat → St) (rs : Nat → AV), st 0 = s ∧ st (o :: r).length = s' ∧ is.length = (o :: r).length ∧ ∀ i o', (o :: r)[i]? = some o' → ∃ T K, is[i]? = some (T, K) ∧ StepQ P H X call callP all masks K0 pn' (n + i) (st i) (st (i + 1)) o' T K (rs i) := by
      intro s1 T K v is' pn1 hlt1 h1 hi hpn hsome hs
      obtain ⟨hsm, hge, st, rs, h0, hn, hl, hstep⟩ := evDrawP_runs r (n + 1) s1 pn1 hlt1 h1
      subst hi
      refine ⟨fun h => ?_, fun j z m hn0 hj => ?_, fun i => match i with | 0 => s | i + 1 => st i, fun i => match i with | 0 => v | i + 1 => rs i, rfl, hn, by simp [hl], fun i o' hi => ?_⟩
      · rcases hpn with rfl | ⟨rfl, _⟩
        · exact hsm h
        · cases h
      · rcases hpn with rfl | ⟨_, z', m', rfl⟩
        · have := hge j z m hn0 hj
          simp only [List.length_cons]
          omega
        · have := hsm rfl
          rw [this] at hj
          simp only [Option.some.injEq, Prod.mk.injEq] at hj
          simp only [List.length_cons]
          omega
      · cases i with
        | zero =>
          simp at hi; subst hi
          exact ⟨T, K, rfl, by simpa [h0] using hs⟩
        | succ i =>
          simp at hi
          obtain ⟨T', K', h1, h2⟩ := hstep i o' hi
          refine ⟨T', K', by simpa using h1, ?_⟩
          rw [show n + (i + 1) = n + 1 + i by omega]
          exact h2
    -- what the rest says of the one that panics
    have rest : ∀ {s1 : St} {is' : List Info}, (evDrawP P H X call callP all masks K0 (n + 1) r s1 pn).sel = some (s', is', pn') → (pn.isSome = true → pn' = pn) ∧ (∀ j z m, pn' = some (j, z, m) → j ≠ n) := fun h1 => by
      obtain ⟨hsm, hge, _⟩ := evDrawP_runs r (n + 1) _ pn (fun j z m e => Nat.lt_succ_of_lt (hlt j z m e)) h1
      refine ⟨hsm, fun j z m hj e => ?_⟩
      cases hp : pn with
      | none => have := (hge j z m hp hj).1; omega
      | some q =>
        have e2 := hsm (by rw [hp]; rfl)
        rw [e2] at hj
        have := hlt j z m hj
        omega
    have up : ∀ j z m, pn = some (j, z, m) → j < n + 1 := fun j z m e => Nat.lt_succ_of_lt (hlt j z m e)
    simp only [evDrawP] at h
    split at h
    · rename_i hdd
      obtain ⟨⟨s2, is', pn2⟩, h3, h4⟩ := sel_bind h
      simp only [Tree.sel, Option.some.injEq, Prod.mk.injEq] at h4
      obtain ⟨rfl, rfl, rfl⟩ := h4
      have hps : pn.isSome = true := by
        unfold deadQ at hdd
        split at hdd
        · rfl
        · cases hdd
      exact key _ _ _ .any _ pn up h3 rfl (.inl rfl) (rest h3).1 (.dead (by rw [(rest h3).1 hps]; exact hdd) rfl rfl rfl rfl)
    · split at h
      · rename_i hg
        obtain ⟨⟨rv, mem'⟩, h1, h2⟩ := sel_bind h
        cases rv with
        | ret v =>
          simp only at h2
          obtain ⟨⟨s2, is', pn2⟩, h3, h4⟩ := sel_bind h2
          simp only [Tree.sel, Option.some.injEq, Prod.mk.injEq] at h4
          obtain ⟨rfl, rfl, rfl⟩ := h4
          refine key _ _ _ v _ pn up h3 rfl (.inl rfl) (rest h3).1 (.ret (fun j z m hj => (rest h3).2 j z m hj) hg rfl rfl ?_ ?_)
          · cases o.dst <;> rfl
          · rw [put0_mem]; exact h1
        | pan z =>
          simp only at h2
          split at h2
          · simp [Tree.sel] at h2
          · rename_i hns
            have hnone : pn = none := by cases pn with | none => rfl | some _ => simp at hns
            obtain ⟨⟨s2, is', pn2⟩, h3, h4⟩ := sel_bind h2
            simp only [Tree.sel, Option.some.injEq, Prod.mk.injEq] at h4
            obtain ⟨rfl, rfl, rfl⟩ := h4
            have up1 : ∀ j z' m, some (n, z, mem') = some (j, z', m) → j < n + 1 := fun j z' m e => by
              simp only [Option.some.injEq, Prod.mk.injEq] at e
              omega
            have hsm := (evDrawP_runs r (n + 1) _ _ up1 h3).1
            exact key _ _ _ .any _ _ up1 h3 rfl (.inr ⟨hnone, z, mem', rfl⟩) hsm (.pan z mem' (hsm rfl) hg rfl rfl rfl rfl h1)
      · rename_i j b hg
        split at h
        · rename_i K hK
          split at h
          · simp [Tree.sel] at h
          · rename_i hcond
            simp only [Bool.or_eq_true, Bool.not_eq_true', not_or, Bool.not_eq_false, Bool.not_eq_true] at hcond
            obtain ⟨hq, hdst⟩ := hcond
            obtain ⟨⟨rv, mem'⟩, h1, h2⟩ := sel_bind h
            obtain ⟨⟨s2, is', pn2⟩, h3, h4⟩ := sel_bind h2
            simp only [Tree.sel, Option.some.injEq, Prod.mk.injEq] at h4
            obtain ⟨rfl, rfl, rfl⟩ := h4
            have hkd : ∀ p ∈ K, some p.1 ≠ o.dst := by
              intro p hp e
              rw [List.any_eq_false] at hdst
              exact hdst p hp (by simp [e])
            exact key _ _ _ rv _ pn up h3 rfl (.inl rfl) (rest h3).1 (.guarded (fun j z m hj => (rest h3).2 j z m hj) j b mem' hg rfl hK hq hkd rfl (put0_mem _ _ _ _) h1)
        · simp [Tree.sel] at h

theorem obs_same {m m' : Mem} (h : m = m') (l : Nat) : obs m l = obs m' l := h ▸ rfl

theorem StepQ.same {H : Hd} {X : HdP} {call : CallH} {callP : CallP} {all : List Oper} {masks : List Nat} {K0 : Nat} {pn : Option (Nat × CV × Mem)} {i : Nat} {s s1 : St} {o : Oper} {T : Touch} {K : List (Nat × Bool)} {r : AV}
    (h : StepQ P H X call callP all masks K0 pn i s s1 o T K r) : s1.tmps = (s.put0 o.dst K r).tmps ∧ ∀ l, ¬ T.wr l → obs s1.mem l = obs s.mem l := by
  cases h with
  | dead h hT hK hr hs =>
    subst hK; subst hr; subst hs
    exact ⟨rfl, fun l _ => obs_same (put0_mem _ _ _ _) l⟩
  | pan z m h hg hT hK hr hs he =>
    subst hK; subst hr; subst hs
    exact ⟨rfl, fun l _ => obs_same (put0_mem _ _ _ _) l⟩
  | ret h hg hT hK hs he =>
    subst hK
    refine ⟨hs, fun l hn => ?_⟩
    obtain ⟨m, h1, h2⟩ := evOpQ_mem (mem := s.mem) he (fun _ _ => rfl)
    rw [← hT] at h2
    exact ((h2 l).2 hn).2
  | guarded h j b m' hg hT hk hq hd hs hm he => exact ⟨hs, fun l _ => by rw [hm]⟩

theorem aplan_of {H : Hd} {X : HdP} {call : CallH} {callP : CallP} {all : List Oper} {K0 : Nat} {s s' : St} {is : List Info} {pn : Option (Nat × CV × Mem)} (h : (evDrawP P H X call callP all (ancMasks all []) K0 0 all s none).sel = some (s', is, pn)) (hd : drawOk all is = true) (h0 : ∀ sl ∈ s.tmps, sl.keys = []) :
    ∃ p : APlan all, p.st 0 = s ∧ p.st all.length = s' ∧ (∀ i j, p.anc i j ↔ isAnc (ancMasks all []) i j = true) ∧ (∀ j z m, pn = some (j, z, m) → j < all.length) ∧ ∀ i o, all[i]? = some o → StepQ P H X call callP all (ancMasks all []) K0 pn i (p.st i) (p.st (i + 1)) o (p.T i) (p.K i) (p.rs i) := by
  obtain ⟨_, hge, st, rs, e0, en, hl, hstep⟩ := evDrawP_runs all 0 s none (fun _ _ _ h => by cases h) h
  simp only [drawOk, Bool.and_eq_true] at hd
  obtain ⟨⟨⟨h1, h2⟩, h3⟩, h4⟩ := hd
  have hi : ∀ i, i < all.length → is[i]? = some ((is[i]?.getD (none, [])).1, (is[i]?.getD (none, [])).2) := by
    intro i hi
    rw [List.getElem?_eq_getElem (by omega)]
    simp
  have hlt : ∀ {i : Nat} {o : Oper}, all[i]? = some o → i < all.length := fun h => lt_of_get h
  have hst : ∀ i o, all[i]? = some o → StepQ P H X call callP all (ancMasks all []) K0 pn i (st i) (st (i + 1)) o (is[i]?.getD (none, [])).1 (is[i]?.getD (none, [])).2 (rs i) := by
    intro i o ho
    obtain ⟨T, K, h1, h2⟩ := hstep i o ho
    rw [Nat.zero_add] at h2
    simpa [h1] using h2
  refine ⟨{ st := st, rs := rs, T := fun i => (is[i]?.getD (none, [])).1, K := fun i => (is[i]?.getD (none, [])).2, anc := fun i j => isAnc (ancMasks all []) i j = true, put := ?_, same1 := ?_, start := ?_, edges := ?_, dsts := dsts_spec h2, tmps := ?_, guards := ?_, keys := ?_, touch := ?_, lt := ?_, down := ?_ }, e0, en, fun _ _ => Iff.rfl, fun j z m hj => by have := (hge j z m rfl hj).2; omega, hst⟩
  · intro i o ho
    exact (hst i o ho).same.1
  · intro i l hil hn
    exact (hst i _ (List.getElem?_eq_getElem hil)).same.2 l hn
  · rw [e0]; exact h0
  · intro i o ho e he hb
    have := edges_spec h1 i o ho e he hb
    omega
  · intro j o t ho ht
    have := (ops_spec h3 j o _ _ ho (hi j (hlt ho))).1 t ht
    rw [Nat.zero_add] at this
    unfold tmpOk at this
    split at this
    · rename_i i hw
      obtain ⟨j', o', h1, h2, h3⟩ := writer_some hw
      left
      rw [Bool.or_eq_true, Bool.or_eq_true, beq_iff_eq] at this
      rw [show i = j' by omega] at this
      exact ⟨j', o', h2, h3, this.elim (fun h => h.elim .inl fun h => .inr (.inl h)) fun h => .inr (.inr h)⟩
    · rename_i hw
      right
      exact writer_none hw
  · intro j o g b ho hg
    have := (ops_spec h3 j o _ _ ho (hi j (hlt ho))).2.1 g b hg
    rwa [Nat.zero_add] at this
  · intro j o p ho hp
    have := (ops_spec h3 j o _ _ ho (hi j (hlt ho))).2.2 p hp
    rw [Nat.zero_add] at this
    unfold keyOk at this
    split at this
    · rename_i i hw
      obtain ⟨j', o', h1, h2, h3⟩ := writer_some hw
      exact ⟨j', o', h2, h3, by rw [show j' = i by omega]; exact this⟩
    · simp at this
  · intro i j l hij hj hl'
    have := touches_spec h4 i j _ _ _ _ hij (hi i (by omega)) (hi j hj)
    rw [Nat.zero_add, Nat.zero_add] at this
    exact clash_spec this hl'
  · intro i j h
    unfold isAnc at h
    rw [Bool.and_eq_true] at h
    simpa using h.1
  · intro L N hd hLN i j h hN
    unfold isAnc at h
    rw [Bool.and_eq_true] at h
    obtain ⟨_, h⟩ := h
    split at h
    · rename_i m hm
      exact anc_listed hd hLN all [] (by simp) (fun j m h => by simp [nth] at h) j m hm i h hN
    · simp at h

end Go.Sx
/-
  The evaluator with panics (part Ps): drawn regions, in any order.
-/
namespace Go.Sx
open Go Go.RowKit

variable {P : Program} {D : List Deferred} {all : List Oper}

theorem touch_pan_at {K0 : Nat} {T : Touch} {l : Nat} (h : T.at l) : (panTouch K0 T).at l := by
  cases T with
  | none => trivial
  | some t =>
    obtain ⟨b, hb⟩ := h
    exact ⟨b, List.mem_append_left _ hb⟩

theorem upto_mem {b : Nat} : ∀ {k : Nat}, b < k → b ∈ upto k
  | k + 1, h => by
    unfold upto
    rcases Nat.lt_or_eq_of_le (Nat.le_of_lt_succ h) with h | rfl
    · exact List.mem_append_left _ (upto_mem h)
    · exact List.mem_append_right _ (by simp)

theorem touch_pan_old {K0 : Nat} {T : Touch} {b : Nat} (h : b < K0) : (panTouch K0 T).at (b + 1) := by
  cases T with
  | none => trivial
  | some t => exact ⟨false, List.mem_append_right _ (List.mem_map.2 ⟨b, upto_mem h, rfl⟩)⟩

theorem touch_pan_wr {K0 : Nat} {T : Touch} {l : Nat} : (panTouch K0 T).wr l ↔ T.wr l := by
  cases T with
  | none => exact Iff.rfl
  | some t =>
    constructor
    · intro h
      rcases List.mem_append.1 h with h | h
      · exact h
      · obtain ⟨b, _, hb⟩ := List.mem_map.1 h
        simp at hb
    · exact fun h => List.mem_append_left _ h

theorem drawP_any {H : Hd} (hpc : SumOk P H) {X : HdP} (hrx : RxOk P X.rx) {call : CallH} (hcall : CallOk P call) {callP : CallP} (hcallP : CallPOk P callP) {K0 : Nat} {pn : Option (Nat × CV × Mem)} {ops : Array Oper} (hops : ops.toList = all) (p : APlan all)
    (hanc : ∀ i j, p.anc i j ↔ isAnc (ancMasks all []) i j = true) (hpl : ∀ j z m, pn = some (j, z, m) → j < all.length)
    (hstep : ∀ i o, all[i]? = some o → StepQ P H X call callP all (ancMasks all []) K0 pn i (p.st i) (p.st (i + 1)) o (p.T i) (p.K i) (p.rs i)) {Q : Exit → Act → World → Prop} {F0 : Nat → Prop} {w0 : World} {bs0 : List BI}
    (hQ : pn = none → ∀ F' w' bs' a', Ext bs0.length F0 w0 bs0 F' w' bs' → StRel P D F' w' bs' (p.st all.length) a' → Q .normal a' w')
    (hP : ∀ j z m, pn = some (j, z, m) → ∀ F1 w1 bs1 s a' F' w' bs' v m2, Ext bs0.length F0 w0 bs0 F1 w1 bs1 → bs0.length ≤ bs1.length → StRel P D F1 w1 bs1 s a' → s.tmps.length = (p.st 0).tmps.length → (∀ d : Nat, (∀ (i : Nat) (o : Oper), all[i]? = some o → o.dst ≠ some d) → nth s.tmps d = nth (p.st 0).tmps d) →
      Ext bs1.length F1 w1 bs1 F' w' bs' → MemRel P F' w' bs' m2 → (∀ b, b < K0 → nth m2 b = nth m b) → z.Rel F' w' bs' v → Q (.panic [{ v, recovered := false }]) a' w') :
    ∀ (fuel : Nat) (listed : Array Bool) (a : Act) (w : World) (s : St) (F : Nat → Prop) (bs : List BI), listed.size = all.length → listed.toList.countP (fun b => !b) ≤ fuel →
      (∀ j o, all[j]? = some o → Lof listed j → ∀ e ∈ o.after, Region.binds .any e = true → Lof listed e.on) → (∀ j z m, pn = some (j, z, m) → ¬ Lof listed j) → JA p (Lof listed) s → Ext bs0.length F0 w0 bs0 F w bs → bs0.length ≤ bs.length → StRel P D F w bs s a → wpAny P .any ops Q fuel listed a w := by
  have hget : ∀ i, ops[i]? = all[i]? := fun i => by rw [← hops, Array.getElem?_toList]
  have hready : ∀ listed : Array Bool, listed.size = all.length → Region.ready .any ops listed = [] → ∀ k, k < all.length → Lof listed k := by
    intro listed hsz hr k
    induction k using Nat.strongRecOn with
    | ind k ih =>
      intro hk
      apply Classical.byContradiction
      intro hn
      have : k ∈ Region.ready .any ops listed := by
        rw [mem_ready]
        refine ⟨?_, all[k], by rw [hget]; exact List.getElem?_eq_getElem hk, fun e he hb => ?_⟩
        · unfold Lof at hn
          have hk' : k < listed.size := by omega
          simp only [Array.getD_eq_getD_getElem?, Array.getElem?_eq_getElem hk', Option.getD_some] at hn ⊢
          simpa using hn
        · have hlt := p.edges k _ (List.getElem?_eq_getElem hk) e he hb
          exact ih e.on hlt (by omega)
      rw [hr] at this
      cases this
  have hnone : ∀ listed : Array Bool, (∀ j z m, pn = some (j, z, m) → ¬ Lof listed j) → (∀ k, k < all.length → Lof listed k) → pn = none := by
    intro listed h1 h2
    cases hp : pn with
    | none => rfl
    | some q =>
      obtain ⟨j, z, m⟩ := q
      exact (h1 j z m hp (h2 j (hpl j z m hp))).elim
  intro fuel
  induction fuel with
  | zero =>
    intro listed a w s F bs hsz hc hdn hpn hJ hext hK0 hs
    have hnil : Region.ready .any ops listed = [] := by
      rw [List.eq_nil_iff_forall_not_mem]
      intro j hj
      obtain ⟨h0, o, ho, _⟩ := mem_ready.1 hj
      rw [hget] at ho
      have hjl := lt_of_get ho
      have hj' : j < listed.size := by omega
      have := List.countP_eq_zero.1 (Nat.le_zero.1 hc) listed[j] (by simp)
      simp only [Array.getD_eq_getD_getElem?, Array.getElem?_eq_getElem hj', Option.getD_some] at h0
      simp [h0] at this
    have hall := hready listed hsz hnil
    have := hJ.eq hall
    subst this
    exact ⟨hnil, hQ (hnone listed hpn hall) F w bs a hext hs⟩
  | succ fuel ih =>
    intro listed a w s F bs hsz hc hdn hpn hJ hext hK0 hs
    refine ⟨fun hnil => ?_, fun j hj => ?_⟩
    · have hall := hready listed hsz hnil
      have := hJ.eq hall
      subst this
      exact hQ (hnone listed hpn hall) F w bs a hext hs
    · obtain ⟨h0, o, ho, hed⟩ := mem_ready.1 hj
      have ho' := ho
      rw [hget] at ho'
      have hjl := lt_of_get ho'
      have hj' : j < listed.size := by omega
      have hjf : listed[j] = false := by simpa only [Array.getD_eq_getD_getElem?, Array.getElem?_eq_getElem hj', Option.getD_some] using h0
      have hnl : ¬ Lof listed j := by
        unfold Lof
        simp [Array.getElem?_eq_getElem hj', hjf]
      have hL : ∀ i k, p.anc i k → Lof listed k → Lof listed i := p.down _ _ hdn fun _ h => h
      have hd : ∀ i, p.anc i j → Lof listed i := fun i hi => p.down (Lof listed) (fun k => Lof listed k ∨ k = j) (fun k ok hk hN e he hb => by
        rcases hN with hN | rfl
        · exact hdn k ok hk hN e he hb
        · rw [ho'] at hk
          simp at hk; subst hk
          exact hed e he hb) (fun _ h => .inl h) i j hi (.inr rfl)
      obtain ⟨hsame, hkeys, hmem⟩ := hJ.same ho' hd hL hnl
      have hset : ∀ k, Lof (listed.setIfInBounds j true) k ↔ (Lof listed k ∨ k = j) := Lof_set hj'
      -- the rest, behind this operation
      have next : (∀ j' z m, pn = some (j', z, m) → j' ≠ j) → ∀ (a' : Act) (w' : World) (s' : St) (F' : Nat → Prop) (bs' : List BI), JA p (fun k => Lof listed k ∨ k = j) s' → Ext bs.length F w bs F' w' bs' → StRel P D F' w' bs' s' a' → wpAny P .any ops Q fuel (listed.setIfInBounds j true) a' w' := by
        intro hne a' w' s' F' bs' hJ' he hs'
        refine ih _ a' w' s' F' bs' (by simpa using hsz) ?_ (fun k ok hk hl e hee hb => ?_) (fun j' z m hp hl => ?_) (hJ'.congr fun k _ => (hset k).symm) (hext.trans he hext.le) (Nat.le_trans hK0 he.le) hs'
        · simp only [Array.toList_setIfInBounds]
          rw [List.countP_set (by simpa using hj')]
          have : 0 < listed.toList.countP (fun b => !b) := List.countP_pos_iff.2 ⟨listed[j], by simp, by simp [hjf]⟩
          have e1 : ((!listed.toList[j]) = true) = True := by simp [hjf]
          simp only [e1, if_true, Bool.not_true, Bool.false_eq_true, if_false]
          omega
        · rw [hset] at hl ⊢
          rcases hl with hl | rfl
          · exact .inl (hdn k ok hk hl e hee hb)
          · rw [ho'] at hk
            simp at hk; subst hk
            exact .inl (hed e hee hb)
        · rw [hset] at hl
          rcases hl with hl | hl
          · exact hpn j' z m hp hl
          · exact hne j' z m hp hl
      have hlim : ∀ K, lim o s K = lim o (p.st j) K := fun K => lim_congr hsame
      have e1 : (fun K' => lim o (p.st j) K') = fun K' => lim o s K' := funext fun K => (hlim K).symm
      unfold wpOp
      simp only [ho]
      cases hstep j o ho' with
      | dead hdd hT hK hr hs1 =>
        exfalso
        unfold deadQ at hdd
        split at hdd
        · rename_i i z m
          exact hpn i z m rfl (hd i ((hanc i j).2 hdd))
        · cases hdd
      | pan z m hp hg hT hK hr hs1 he =>
        simp only [Region.wanted, hg, if_true]
        left
        obtain ⟨m2, h1, h2⟩ := evOpQ_mem (mem := s.mem) he (fun l hl => hmem l (by rw [hT]; exact touch_pan_at hl))
        rw [e1] at h1
        refine evOpQ_at hpc hrx hcall hcallP hs.mem (fun K x av hk hh => opnd_ok hs hk (limit_le hh)) h1 (fun F' w' bs' v av e => by cases e) fun F' w' bs' v x e hext' hm' hr' => ?_
        cases e
        refine hP j z m hp F w bs s a F' w' bs' v m2 hext hK0 hs hJ.len hJ.free hext' hm' (fun b hb => ?_) hr'
        have hat := hmem (b + 1) (by rw [hT]; exact touch_pan_old hb)
        have h3 := h2 (b + 1)
        have : obs m2 (b + 1) = obs m (b + 1) := by
          by_cases hw : (touchQ P H X (lim o (p.st j) []) (p.st j).mem.length o.op).wr (b + 1)
          · exact h3.1 hw
          · rw [(h3.2 hw).1, (h3.2 hw).2, hat]
        simpa [obs] using this
      | ret hne hg hT hK hs1 he =>
        simp only [Region.wanted, hg, if_true]
        left
        obtain ⟨mem', h1, h2⟩ := evOpQ_mem (mem := s.mem) he (fun l hl => hmem l (by rw [hT]; exact hl))
        rw [← hT] at h2
        rw [e1] at h1
        refine evOpQ_at hpc hrx hcall hcallP hs.mem (fun K x av hk hh => opnd_ok hs hk (limit_le hh)) h1 (fun F' w' bs' v av e he hm' hr => ?_) (fun F' w' bs' v x e => by cases e)
        simp only [Out.ret.injEq] at e
        subst e
        refine next hne _ w' ({ s with mem := mem' }.put o.dst [] (p.rs j)) F' bs' ?_ he (StRel.put (hs.ext he hm') (fun _ hp => by cases hp) (fun _ => hr) (fun h => (h KH_nil).elim))
        have hmem' := hJ.mem_step ho' hd hL hnl (mem' := mem') fun l => ⟨(h2 l).1, fun hn => ((h2 l).2 hn).1⟩
        refine hJ.put ho' ?_ ?_
        · have := hJ.put_eq ho' hL hnl [] (p.rs j)
          rw [hK, ← this]
          cases o.dst <;> rfl
        · intro l
          have : ({ s with mem := mem' }.put o.dst [] (p.rs j)).mem = mem' := by cases o.dst <;> rfl
          rw [this]
          exact hmem' l
      | guarded hne g b m' hg hT hK hq hkd hs1 hm h =>
        have hga := p.guards j o g b ho' hg
        have hkeq : keysOf ops.toList s g b = some (p.K j) := by
          rw [hops, ← hK]
          unfold keysOf
          split
          · rename_i og hog
            split
            · rename_i d hdg
              rw [nth_eq] at hog
              rw [hkeys g og d hog hdg hga]
            · rfl
          · rfl
        have hiff := keys_ok hs hkeq
        have hgt : gterm s (p.K j) = gterm (p.st j) (p.K j) := gterm_congr fun q hq => by
          obtain ⟨i, oi, hi, hdi, ha⟩ := p.keys j o q ho' hq
          exact hkeys i oi q.1 hi hdi ha
        have hmem' : ∀ l, ∃ i, i ≤ all.length ∧ obs s.mem l = obs (p.st i).mem l ∧ ∀ k, k < all.length → (p.T k).wr l → ((Lof listed k ∨ k = j) ↔ k < i) :=
          hJ.mem_step ho' hd hL hnl (mem' := s.mem) fun l => ⟨fun hw => by rw [hm]; exact hmem l (Touch.wr_at hw), fun _ => rfl⟩
        have hput : JA p (fun k => Lof listed k ∨ k = j) (s.put o.dst (p.K j) (p.rs j)) := by
          refine hJ.put ho' ?_ ?_
          · rw [hJ.put_eq ho' hL hnl]
          · have : (s.put o.dst (p.K j) (p.rs j)).mem = s.mem := by cases o.dst <;> rfl
            rw [this]
            exact hmem'
        by_cases hk : KH a (p.K j)
        · have hw : Region.wanted o (yielded ops a.tmps) = true := (wanted_iff hg _).2 (hiff.1 hk)
          rw [if_pos hw]
          left
          have h1 := toNeed_sel h (by rw [← hgt]; exact gterm_ok hs hk)
          have e1 : (fun K' => lim o (p.st j) (K' ++ p.K j)) = fun K' => lim o s (K' ++ p.K j) := funext fun K => (hlim _).symm
          rw [e1] at h1
          have e2 : lim o (p.st j) (p.K j) = lim o s (p.K j) := (hlim _).symm
          rw [e2] at hq
          obtain ⟨m2, h3, _⟩ := evOp_mem (mem := s.mem) h1 (fun l hl => by
            refine (hmem l ?_).trans rfl
            rw [hT, e2]; exact hl)
          have hρ : ∀ K' x av, KH a K' → lim o s (K' ++ p.K j) x = some av → av.Rel F w bs (a.eval x) := fun K' x av hk' hh => opnd_ok hs (fun q hq => (List.mem_append.1 hq).elim (hk' q) (hk q)) (limit_le hh)
          have hme := still_mem (ρ := fun K' => lim o s (K' ++ p.K j)) hpc hs.mem hρ hq h3
          subst hme
          refine evOp_at hpc hcall hs.mem hρ h3 fun F' w' bs' v he hm' hr => ?_
          exact next hne _ w' _ F' bs' hput he (StRel.put (hs.ext he hm') hkd (fun _ => hr) (fun h => (h hk).elim))
        · have hw : ¬ Region.wanted o (yielded ops a.tmps) = true := fun h => hk (hiff.2 ((wanted_iff hg _).1 h))
          rw [if_neg hw]
          exact next hne _ w _ F bs hput Ext.refl (StRel.put hs hkd (fun h => (hk h).elim) (fun _ => rfl))

end Go.Sx
/-
  The evaluator with panics (part Pt): drawn regions, sound.
-/
namespace Go.Sx
open Go Go.RowKit

variable {P : Program}

/-- a value that has been there names old blocks alone -/
theorem CV.Rel.cut {F w bs F1 w1 bs1 c x} (h : CV.Rel F1 w1 bs1 c x) : ∀ {v0 : Value}, CV.Rel F w bs c v0 → CV.Rel F1 w1 (bs1.take bs.length) c x := by
  induction h with
  | any h => exact fun _ => .any h
  | bool b => exact fun _ => .bool b
  | int k n => exact fun _ => .int k n
  | str s => exact fun _ => .str s
  | nilp => exact fun _ => .nilp
  | nils => exact fun _ => .nils
  | nilf => exact fun _ => .nilf
  | nili => exact fun _ => .nili
  | ptr h => exact fun h0 => by cases h0 with | ptr g => exact .ptr (nth_take' (nth_lt g) h)
  | os h hb => exact fun h0 => by cases h0 with | os g _ => exact .os (nth_take' (nth_lt g) h) hb
  | ost h hl => exact fun h0 => by cases h0 with | ost g _ => exact .ost (nth_take' (nth_lt g) h) hl
  | osh h hl h1 => exact fun h0 => by cases h0 with | osh g _ _ => exact .osh (nth_take' (nth_lt g) h) hl h1
  | rowp h hi => exact fun h0 => by cases h0 with | rowp g _ => exact .rowp (nth_take' (nth_lt g) h) hi
  | rop val hb hF hc hr _ => exact fun _ => .rop val hb hF hc hr
  | slnil => exact fun _ => .slnil
  | sl val hn h0 hc hr _ => exact fun _ => .sl val hn h0 hc hr
  | fn l1 l2 r1 r2 ih1 ih2 =>
    intro v0 h0
    cases h0 with
    | fn k1 k2 g1 g2 =>
      refine .fn l1 l2 (fun i x v hx hv => ?_) (fun i x v hx hv => ?_)
      · have hlt := nth_lt hx
        rw [k1] at hlt
        exact ih1 i x v hx hv (g1 i x _ hx (by rw [nth_eq]; exact List.getElem?_eq_getElem hlt))
      · have hlt := nth_lt hx
        rw [k2] at hlt
        exact ih2 i x v hx hv (g2 i x _ hx (by rw [nth_eq]; exact List.getElem?_eq_getElem hlt))
  | iface h ih => exact fun h0 => by cases h0 with | iface g => exact .iface (ih g)
  | yld h => exact fun h0 => by cases h0 with | yld g => exact .yld (nth_take' (nth_lt g) h)

theorem All2.cut {F w bs F1 w1 bs1} : ∀ {l : List CV} {vs vs0 : List Value}, All2 (CV.Rel F1 w1 bs1) l vs → All2 (CV.Rel F w bs) l vs0 → All2 (CV.Rel F1 w1 (bs1.take bs.length)) l vs
  | _, _, _, .nil, _ => .nil
  | _, _, _, .cons h r, h0 => by cases h0 with | cons g s => exact .cons (h.cut g) (All2.cut r s)

theorem A1.Rel.cut {F w bs F1 w1 bs1} {c : A1} {x v0 : Value} (h : A1.Rel F1 w1 bs1 c x) (h0 : A1.Rel F w bs c v0) : A1.Rel F1 w1 (bs1.take bs.length) c x := by
  cases c with
  | c c => exact CV.Rel.cut h h0
  | agg l =>
    obtain ⟨vs, rfl, h⟩ := h
    obtain ⟨vs0, _, h0⟩ := h0
    exact ⟨vs, rfl, h.cut h0⟩

theorem All2.cut1 {F w bs F1 w1 bs1} : ∀ {l : List A1} {vs vs0 : List Value}, All2 (A1.Rel F1 w1 bs1) l vs → All2 (A1.Rel F w bs) l vs0 → All2 (A1.Rel F1 w1 (bs1.take bs.length)) l vs
  | _, _, _, .nil, _ => .nil
  | _, _, _, .cons h r, h0 => by cases h0 with | cons g s => exact .cons (A1.Rel.cut h g) (All2.cut1 r s)

theorem AV.Rel.cut {F w bs F1 w1 bs1} {c : AV} {x v0 : Value} (h : AV.Rel F1 w1 bs1 c x) (h0 : AV.Rel F w bs c v0) : AV.Rel F1 w1 (bs1.take bs.length) c x := by
  cases c with
  | any => trivial
  | one a => exact A1.Rel.cut h h0
  | tup l =>
    obtain ⟨vs, rfl, h⟩ := h
    obtain ⟨vs0, _, h0⟩ := h0
    exact ⟨vs, rfl, All2.cut1 h h0⟩

theorem forget_len : ∀ (l : List Oper) (s : St), (s.forget l).tmps.length = s.tmps.length
  | [], _ => rfl
  | o :: r, s => by
    show ((s.put0 o.dst [] .any).forget r).tmps.length = _
    rw [forget_len r]
    cases o.dst <;> simp [St.put0, setN_eq]

theorem forget_mem : ∀ (l : List Oper) (s : St), (s.forget l).mem = s.mem
  | [], _ => rfl
  | o :: r, s => by
    show ((s.put0 o.dst [] .any).forget r).mem = _
    rw [forget_mem r, put0_mem]

theorem forget_free : ∀ (l : List Oper) (s : St) (d : Nat), (∀ o ∈ l, o.dst ≠ some d) → nth (s.forget l).tmps d = nth s.tmps d
  | [], _, _, _ => rfl
  | o :: r, s, d, h => by
    show nth ((s.put0 o.dst [] .any).forget r).tmps d = _
    rw [forget_free r _ d fun o' ho => h o' (List.mem_cons_of_mem _ ho), put0_ne (h o List.mem_cons_self)]

theorem forget_any : ∀ (l : List Oper) (s : St) (d : Nat) (sl : Slot), (nth s.tmps d = some ⟨[], .any⟩ ∨ ∃ o ∈ l, o.dst = some d) → nth (s.forget l).tmps d = some sl → sl = ⟨[], .any⟩
  | [], s, d, sl, h, hs => by
    rcases h with h | ⟨o, ho, _⟩
    · have hs : nth s.tmps d = some sl := hs
      rw [h] at hs
      simp at hs; exact hs.symm
    · cases ho
  | o :: r, s, d, sl, h, hs => by
    have hs : nth ((s.put0 o.dst [] .any).forget r).tmps d = some sl := hs
    refine forget_any r _ d sl ?_ hs
    by_cases hd : o.dst = some d
    · left
      have hlt := nth_lt hs
      rw [forget_len] at hlt
      have hlt : d < s.tmps.length := by
        have e : (s.put0 o.dst [] .any).tmps.length = s.tmps.length := by cases o.dst <;> simp [St.put0, setN_eq]
        rw [e] at hlt; exact hlt
      rw [hd]
      exact nth_set_self hlt
    · rcases h with h | ⟨o', ho', hd'⟩
      · left
        rw [put0_ne hd]; exact h
      · rcases List.mem_cons.1 ho' with rfl | ho'
        · exact (hd hd').elim
        · exact .inr ⟨o', ho', hd'⟩

theorem evRegP_ok {H : Hd} (hpc : SumOk P H) {X : HdP} (hrx : RxOk P X.rx) {call : CallH} (hcall : CallOk P call) {callP : CallP} (hcallP : CallPOk P callP) {id : Nat} {ops : Array Oper} {s s' : StP} {x : XP} (h : (evRegP P H X call callP ops.toList s).sel = some (x, s'))
    {F : Nat → Prop} {w : World} {bs : List BI} {a : Act} (hs : PRel P F w bs s a) {Q : Exit → Act → World → Prop}
    (hQ : ∀ F' w' bs' a' e, Ext bs.length F w bs F' w' bs' → PRel P F' w' bs' s' a' → XRel F' w' bs' x e → Q e a' w') : (Code.region id ops true).wp P Q a w := by
  unfold evRegP at h
  split at h
  · rename_i hm
    obtain ⟨⟨y, is, pn⟩, h1, h2⟩ := sel_bind h
    simp only at h2
    split at h2
    · rename_i hd
      have hs0 : StRel P a.defers F w bs { s.s with tmps := s.s.tmps.map unkey } a := hs.st.unkey
      have h0 : ∀ sl ∈ ({ s.s with tmps := s.s.tmps.map unkey } : St).tmps, sl.keys = [] := by
        intro sl hsl
        simp only [List.mem_map] at hsl
        obtain ⟨sl0, _, rfl⟩ := hsl
        unfold unkey
        split
        · rename_i he; exact List.isEmpty_iff.1 he
        · rfl
      obtain ⟨p, e0, en, hanc, hpl, hstep⟩ := aplan_of h1 hd h0
      have hb : Below w.heap.size w { w with drawn := w.drawn + 1 } := Below.drew (Below.refl _ _)
      have hlen : bs.length = s.s.mem.length := hs.st.mem.len
      refine wp_region_any hm (drawP_any (F0 := F) (w0 := w) (bs0 := bs) (D := a.defers) hpc hrx hcall hcallP rfl p hanc hpl hstep (fun hn F' w' bs' a' he hs' => ?_) (fun j z m hp F1 w1 bs1 s1 a' F' w' bs' v m2 he1 hK1 hs1 hl1 hfree he2 hm2 hob hz => ?_) _ _ _ _ _ F bs (by simp) ?_ ?_ (fun j z m _ hl => ?_) ?_ (Ext.of_below hb) (Nat.le_refl _) (hs0.below hb))
      · subst hn
        simp only [Tree.sel, Option.some.injEq, Prod.mk.injEq] at h2
        obtain ⟨rfl, rfl⟩ := h2
        exact hQ F' w' bs' a' _ he ((StRel.unkey (en ▸ hs')).toP (hs.ds.grow he.grow)) rfl
      · subst hp
        simp only at h2
        split at h2
        · rename_i m0 ht
          split at h2
          · rename_i hc
            simp only [Tree.sel, Option.some.injEq, Prod.mk.injEq] at h2
            obtain ⟨rfl, rfl⟩ := h2
            rw [Bool.and_eq_true, List.all_eq_true] at hc
            obtain ⟨hu, hcz⟩ := hc
            obtain ⟨rfl, hml⟩ := takeN_some ht
            have he := he1.trans he2 hK1
            have hg := he.grow
            have ex : Ext bs.length F w bs F' w' (bs'.take bs.length) := he.trans (K' := bs.length) ⟨Nat.le_refl _, fun _ _ h => h, fun _ h _ _ => h, fun _ _ _ => rfl, rfl, rfl, rfl, fun k x hk hx => nth_take' hk hx, fun x hx => .inl ⟨x, List.mem_of_mem_take hx, rfl⟩⟩ (Nat.le_refl _)
            have hme : m2.take s.s.mem.length = m.take s.s.mem.length := by
              apply List.ext_getElem?
              intro k
              rw [List.getElem?_take, List.getElem?_take]
              split
              · rename_i hk
                have := hob k hk
                rwa [nth_eq, nth_eq] at this
              · rfl
            have hmt : MemRel P F' w' (bs'.take bs.length) (m.take s.s.mem.length) := by
              rw [← hme, hlen]
              refine hm2.take fun k T cs hk hn => ?_
              have hn' : nth (m.take s.s.mem.length) k = some (some (T, cs)) := by
                rw [← hme]; exact nth_take' hk hn
              have := hu (some (T, cs)) (nth_mem hn')
              simpa [underE] using this
            refine hQ F' w' (bs'.take bs.length) a' _ ex ⟨⟨rfl, ?_, fun d sl x hd' hx => ?_, ?_⟩, ?_⟩ ⟨v, rfl, hz.closed hcz⟩
            · have l1 := hs1.len
              rw [forget_len]
              simp only [List.length_map]
              rw [← l1, hl1, e0]
              simp
            · by_cases hdd : ∃ o ∈ ops.toList, o.dst = some d
              · have := forget_any _ _ _ _ (.inr hdd) hd'
                subst this
                exact ⟨fun _ => trivial, fun h => (h KH_nil).elim⟩
              · have hfr : ∀ o ∈ ops.toList, o.dst ≠ some d := fun o ho e => hdd ⟨o, ho, e⟩
                rw [forget_free _ _ _ hfr] at hd'
                have hs1d : nth s1.tmps d = some sl := by
                  rw [hfree d fun i o hi => hfr o (List.mem_of_getElem? hi), e0]
                  exact hd'
                have r1 := hs1.slots d sl x hs1d hx
                have hk0 : sl.keys = [] := h0 sl (nth_mem hd')
                refine ⟨fun hk => ?_, fun hn => (hn (by rw [hk0]; exact KH_nil)).elim⟩
                have r1' := r1.1 hk
                have hlt : d < a.tmps.size := by
                  have h3 : d < (s.s.tmps.map unkey).length := nth_lt hd'
                  have l2 : (s.s.tmps.map unkey).length = a.tmps.size := hs0.len
                  omega
                have r0 := (hs0.slots d sl _ hd' (Array.getElem?_eq_getElem hlt)).1 (by rw [hk0]; exact KH_nil)
                exact (r1'.grow he2.grow).cut r0
            · rw [forget_mem]
              exact hmt
            · rw [hs1.defers]
              exact hs.ds.grow ex.grow
          · simp [Tree.sel] at h2
        · simp [Tree.sel] at h2
      · simpa using List.countP_le_length (p := fun b => !b) (l := List.replicate ops.size false)
      · intro j o _ hl
        unfold Lof at hl
        simp [Array.getElem?_replicate] at hl
        split at hl <;> simp at hl
      · unfold Lof at hl
        simp [Array.getElem?_replicate] at hl
        split at hl <;> simp at hl
      · have := text_JA p 0 (Nat.zero_le _)
        rw [e0] at this
        refine this.congr fun k hk => ⟨fun h => by omega, fun hl => ?_⟩
        unfold Lof at hl
        simp [Array.getElem?_replicate] at hl
        split at hl <;> simp at hl
    · simp [Tree.sel] at h2
  · simp [Tree.sel] at h

end Go.Sx
/-
  The evaluator with panics (part Pu): drawn regions that lay several blocks in an order that is open.
-/
namespace Go.Sx
open Go Go.RowKit

variable {P : Program} {D : List Deferred} {all : List Oper}

/-- One summary of each function that lays one slice of its own. -/
def NcsOk (P : Program) (nc : List (Nat × (List A1 → Tree (AV × Mem)))) : Prop := ∀ f G, lookNc nc f = some G → NcOne P f G

theorem nth_reset {bs : List BI} {b k : Nat} {x y : BI} (hb : k ≠ b) (h : nth bs k = some y) : nth (setN bs b x) k = some y := by
  rw [nth_set_ne' hb]; exact h

theorem namesC_mono {ok ok' : Nat → Bool} (h : ∀ b, ok b = true → ok' b = true) {c : CV} (hc : namesC ok c = true) : namesC ok' c = true := by
  cases c <;> first | exact h _ hc | exact hc

theorem namesA1_mono {ok ok' : Nat → Bool} (h : ∀ b, ok b = true → ok' b = true) {c : A1} (hc : namesA1 ok c = true) : namesA1 ok' c = true := by
  cases c with
  | c c => exact namesC_mono h hc
  | agg l => simp only [namesA1, List.all_eq_true] at hc ⊢; exact fun x hx => namesC_mono h (hc x hx)

theorem namesAV_mono {ok ok' : Nat → Bool} (h : ∀ b, ok b = true → ok' b = true) {c : AV} (hc : namesAV ok c = true) : namesAV ok' c = true := by
  cases c with
  | any => rfl
  | one a => exact namesA1_mono h hc
  | tup l => simp only [namesAV, List.all_eq_true] at hc ⊢; exact fun x hx => namesA1_mono h (hc x hx)

theorem namesE_mono {ok ok' : Nat → Bool} (h : ∀ b, ok b = true → ok' b = true) {e : Option (TypeId × List CV)} (hc : namesE ok e = true) : namesE ok' e = true := by
  cases e with
  | none => rfl
  | some p => obtain ⟨T, cs⟩ := p; simp only [namesE, List.all_eq_true] at hc ⊢; exact fun x hx => namesC_mono h (hc x hx)

theorem closed_names {ok : Nat → Bool} {c : CV} (h : closedC c = true) : namesC ok c = true := by
  cases c <;> first | exact h | (simp [closedC] at h; done)

/-- all blocks but one -/
def avoid (b k : Nat) : Bool := !(k == b)

theorem under_names {K : Nat} {c : CV} (h : underC K c = true) : namesC (fun b => Nat.blt b K) c = true := by
  cases c <;> exact h
theorem underE_names {K : Nat} {e : Option (TypeId × List CV)} (h : underE K e = true) : namesE (fun b => Nat.blt b K) e = true := by
  cases e with
  | none => rfl
  | some p => obtain ⟨T, cs⟩ := p; simp only [underE, namesE, List.all_eq_true] at h ⊢; exact fun x hx => under_names (h x hx)
theorem underA1_names {K : Nat} {c : A1} (h : underA1 K c = true) : namesA1 (fun b => Nat.blt b K) c = true := by
  cases c with
  | c c => exact under_names h
  | agg l => simp only [underA1, namesA1, List.all_eq_true] at h ⊢; exact fun x hx => under_names (h x hx)
theorem underAV_names {K : Nat} {c : AV} (h : underAV K c = true) : namesAV (fun b => Nat.blt b K) c = true := by
  cases c with
  | any => rfl
  | one a => exact underA1_names h
  | tup l => simp only [underAV, namesAV, List.all_eq_true] at h ⊢; exact fun x hx => underA1_names (h x hx)

theorem avoid_ne {b k : Nat} (h : avoid b k = true) : k ≠ b := by
  intro e; subst e; simp [avoid] at h

theorem CV.Rel.reset {F w bs c v} (h : CV.Rel F w bs c v) {b : Nat} {x : BI} (hu : namesC (avoid b) c = true) : CV.Rel F w (setN bs b x) c v := by
  cases c with
  | ptr b' o =>
    cases h with
    | ptr h => exact .ptr (nth_reset (avoid_ne hu) h)
  | os b' sz =>
    cases h with
    | os h h0 => exact .os (nth_reset (avoid_ne hu) h) h0
  | rowp b' sz i off =>
    cases h with
    | rowp h h0 => exact .rowp (nth_reset (avoid_ne hu) h) h0
  | yld b' =>
    cases h with
    | yld h => exact .yld (nth_reset (avoid_ne hu) h)
  | row _ _ _ _ => cases h
  | lp _ _ _ => cases h
  | ost _ _ _ => simp [namesC, closedC] at hu
  | osh _ _ _ => simp [namesC, closedC] at hu
  | any => exact h.closed hu
  | bool _ => exact h.closed hu
  | int _ _ => exact h.closed hu
  | str _ => exact h.closed hu
  | nilp => exact h.closed hu
  | rop _ _ _ => exact h.closed hu
  | nils => exact h.closed hu
  | sl _ _ _ => exact h.closed hu
  | fn _ _ _ => exact h.closed hu
  | nilf => exact h.closed hu
  | nili => exact h.closed hu
  | iface _ _ => exact h.closed hu

theorem All2.reset {F w bs b} {x : BI} : ∀ {l : List CV} {vs : List Value}, All2 (CV.Rel F w bs) l vs → l.all (namesC (avoid b)) = true → All2 (CV.Rel F w (setN bs b x)) l vs
  | _, _, .nil, _ => .nil
  | _, _, .cons h r, hu => by
    simp only [List.all_cons, Bool.and_eq_true] at hu
    exact .cons (h.reset hu.1) (All2.reset r hu.2)

theorem A1.Rel.reset {F w bs} {c : A1} {v : Value} (h : A1.Rel F w bs c v) {b : Nat} {x : BI} (hu : namesA1 (avoid b) c = true) : A1.Rel F w (setN bs b x) c v := by
  cases c with
  | c c => exact CV.Rel.reset h hu
  | agg l =>
    obtain ⟨vs, rfl, h⟩ := h
    exact ⟨vs, rfl, All2.reset h hu⟩

theorem All2.reset1 {F w bs b} {x : BI} : ∀ {l : List A1} {vs : List Value}, All2 (A1.Rel F w bs) l vs → l.all (namesA1 (avoid b)) = true → All2 (A1.Rel F w (setN bs b x)) l vs
  | _, _, .nil, _ => .nil
  | _, _, .cons h r, hu => by
    simp only [List.all_cons, Bool.and_eq_true] at hu
    exact .cons (A1.Rel.reset h hu.1) (All2.reset1 r hu.2)

theorem AV.Rel.reset {F w bs} {c : AV} {v : Value} (h : AV.Rel F w bs c v) {b : Nat} {x : BI} (hu : namesAV (avoid b) c = true) : AV.Rel F w (setN bs b x) c v := by
  cases c with
  | any => trivial
  | one a => exact A1.Rel.reset h hu
  | tup l =>
    obtain ⟨vs, rfl, h⟩ := h
    exact ⟨vs, rfl, All2.reset1 h hu⟩

/-- the place of a dead entry may be told anew -/
theorem MemRel.reset {F w bs mem} (hm : MemRel P F w bs mem) {b : Nat} (x : BI) (hd : ∀ T cs, nth mem b ≠ some (some (T, cs))) (hu : ∀ k T cs, nth mem k = some (some (T, cs)) → cs.all (namesC (avoid b)) = true) : MemRel P F w (setN bs b x) mem := by
  have key : ∀ {k y T cs}, nth mem k = some (some (T, cs)) → nth (setN bs b x) k = some y → nth bs k = some y := by
    intro k y T cs h hk
    by_cases e : k = b
    · subst e; exact (hd T cs h).elim
    · rwa [nth_set_ne' e] at hk
  refine ⟨by rw [setN_length]; exact hm.len, fun k y T cs hk hc hv => hm.loc k y T cs (key hc hk) hc hv, fun k k' y y' T cs T' cs' h1 h2 h3 h4 => hm.inj k k' y y' T cs T' cs' (key h3 h1) (key h4 h2) h3 h4, fun k T cs y hc hr hp => ?_, fun k T fz es n ρ y hc hp => hm.row k T fz es n ρ y hc (key hc hp), fun k T f i st cs y hc hp => by
    obtain ⟨R, h1, h2, h4, h5, h6⟩ := hm.lp k T f i st cs y hc (key hc hp)
    have hu' := hu k T _ hc
    simp only [List.all_cons, Bool.and_eq_true, List.all_eq_true] at hu'
    exact ⟨R, h1, h2, h4, h5, fun j c v hj hv ha => (h6 j c v hj hv ha).reset (hu'.2 c (nth_mem hj))⟩⟩
  obtain ⟨vs, h1, h2⟩ := hm.cont k T cs y hc hr (key hc hp)
  exact ⟨vs, h1, All2.reset h2 (hu k T cs hc)⟩

theorem layOf_some {o : Oper} {e : TypeId} {z : List CV} (h : layOf P o = some (e, z)) : o.guard = none ∧ (∃ d, o.dst = some d) ∧ o.op = .alloc e ∧ zeroCellsOf P e = some z := by
  unfold layOf at h
  split at h
  · rename_i hg hd ho
    split at h
    · rename_i z' hz
      simp only [Option.some.injEq, Prod.mk.injEq] at h
      obtain ⟨rfl, rfl⟩ := h
      exact ⟨hg, ⟨_, hd⟩, ho, hz⟩
    · cases h
  · cases h

theorem ncOf_some {X : HdP} {ρ : Operand → Option AV} {o : Oper} {g : Tree (AV × Mem)} (h : ncOf P X ρ o = some g) : o.guard = none ∧ (∃ d, o.dst = some d) ∧ ∃ c f args G, o.op = .call c ∧ evTarget ρ c = some (f, args) ∧ lookNc X.nc f = some G ∧ callable P f = true ∧ args.all closedA = true ∧ g = G args := by
  unfold ncOf at h
  split at h
  · rename_i c hg hd ho
    split at h
    · split at h
      · rename_i f args ht
        split at h
        · rename_i G hG
          split at h
          · rename_i hc
            rw [Bool.and_eq_true] at hc
            simp only [Option.some.injEq] at h
            exact ⟨hg, ⟨_, hd⟩, c, f, args, G, ho, ht, hG, hc.1, hc.2, h.symm⟩
          · cases h
        · cases h
      · cases h
    · cases h
  · cases h

inductive StepL (P : Program) (H : Hd) (X : HdP) (call : CallH) (all : List Oper) (masks : List Nat) (K0 : Nat) (i : Nat) (s s1 : St) (o : Oper) (T : Touch) (K : List (Nat × Bool)) (r : AV) : Prop where
  | lay (e : TypeId) (z : List CV) (h : layOf P o = some (e, z)) (hn : nth s.mem (K0 + i) = some none) (hz : z.all closedC = true) (hT : T = some [(K0 + i + 1, true)]) (hK : K = []) (hr : r = .one (.c (.ptr (K0 + i) 0))) (hs : s1.tmps = (s.put0 o.dst [] r).tmps) (hm : s1.mem = setN s.mem (K0 + i) (some (e, z)))
  | nc (g : Tree (AV × Mem)) (sz : Nat) (U : TypeId) (es : List Sh) (m : Nat) (ρ : Val) (h : ncOf P X (lim o s []) o = some g) (hg : g.sel = some (.one (.c (.os 0 sz)), [some (U, [.row false es m ρ])])) (hn : nth s.mem (K0 + i) = some none) (hT : T = some [(K0 + i + 1, true)]) (hK : K = [])
      (hr : r = .one (.c (.os (K0 + i) sz))) (hs : s1.tmps = (s.put0 o.dst [] r).tmps) (hm : s1.mem = setN s.mem (K0 + i) (some (U, [.row false es m ρ])))
  | old (h : StepOk P H call all s s1 o T K r) (hu : namesAV (okAt masks K0 i) r = true) (hm : s1.mem = s.mem ∨ wrOk (okAt masks K0 i) s1.mem T = true)

theorem evDrawL_runs {H : Hd} {X : HdP} {call : CallH} {all : List Oper} {masks : List Nat} {K0 : Nat} : ∀ (l : List Oper) (n : Nat) (s : St) {s' : St} {is : List Info}, (evDrawL P H X call all masks K0 n l s).sel = some (s', is) →
    ∃ (st : Nat → St) (rs : Nat → AV), st 0 = s ∧ st l.length = s' ∧ is.length = l.length ∧ ∀ i o, l[i]? = some o → ∃ T K, is[i]? = some (T, K) ∧ StepL P H X call all masks K0 (n + i) (st i) (st (i + 1)) o T K (rs i)
  | [], n, s, s', is, h => by
    simp only [evDrawL, Tree.sel, Option.some.injEq, Prod.mk.injEq] at h
    obtain ⟨rfl, rfl⟩ := h
    exact ⟨fun _ => s, fun _ => .any, rfl, rfl, rfl, fun i o h => by simp at h⟩
  | o :: r, n, s, s', is, h => by
    have key : ∀ (s1 : St) (T : Touch) (K : List (Nat × Bool)) (v : AV) (is' : List Info), (evDrawL P H X call all masks K0 (n + 1) r s1).sel = some (s', is') → is = (T, K) :: is' → StepL P H X call all masks K0 n s s1 o T K v →
        ∃ (st : Nat → St) (rs : Nat → AV), st 0 = s ∧ st (o :: r).length = s' ∧ is.length = (o :: r).length ∧ ∀ i o', (o :: r)[i]? = some o' → ∃ T K, is[i]? = some (T, K) ∧ StepL P H X call all masks K0 (n + i) (st i) (st (i + 1)) o' T K (rs i) := by
      intro s1 T K v is' h1 hi hs
      obtain ⟨st, rs, h0, hn, hl, hstep⟩ := evDrawL_runs r (n + 1) s1 h1
      subst hi
      refine ⟨fun i => match i with | 0 => s | i + 1 => st i, fun i => match i with | 0 => v | i + 1 => rs i, rfl, hn, by simp [hl], fun i o' hi => ?_⟩
      cases i with
      | zero =>
        simp at hi; subst hi
        exact ⟨T, K, rfl, by simpa [h0] using hs⟩
      | succ i =>
        simp at hi
        obtain ⟨T', K', h1, h2⟩ := hstep i o' hi
        refine ⟨T', K', by simpa using h1, ?_⟩
        rw [show n + (i + 1) = n + 1 + i by omega]
        exact h2
    simp only [evDrawL] at h
    split at h
    · rename_i e z hlay
      split at h
      · rename_i hdead
        split at h
        · rename_i hz
          obtain ⟨⟨s2, is'⟩, h3, h4⟩ := sel_bind h
          simp only [Tree.sel, Option.some.injEq, Prod.mk.injEq] at h4
          obtain ⟨rfl, rfl⟩ := h4
          refine key _ _ _ _ _ h3 rfl (.lay e z hlay hdead hz rfl rfl rfl ?_ ?_)
          · cases o.dst <;> rfl
          · rw [put0_mem]
        · simp [Tree.sel] at h
      · simp [Tree.sel] at h
    · split at h
      · rename_i g hnc
        split at h
        · rename_i hdead
          obtain ⟨zz, hz, h2⟩ := sel_bind h
          split at h2
          · rename_i sz U es m ρ
            obtain ⟨⟨s2, is'⟩, h3, h4⟩ := sel_bind h2
            simp only [Tree.sel, Option.some.injEq, Prod.mk.injEq] at h4
            obtain ⟨rfl, rfl⟩ := h4
            refine key _ _ _ _ _ h3 rfl (.nc g sz U es m ρ hnc hz hdead rfl rfl rfl ?_ ?_)
            · cases o.dst <;> rfl
            · rw [put0_mem]
          · simp [Tree.sel] at h2
        · simp [Tree.sel] at h
      · split at h
        · rename_i hg
          obtain ⟨⟨rv, mem'⟩, h1, h2⟩ := sel_bind h
          split at h2
          · rename_i hu
            rw [Bool.and_eq_true] at hu
            obtain ⟨⟨s2, is'⟩, h3, h4⟩ := sel_bind h2
            simp only [Tree.sel, Option.some.injEq, Prod.mk.injEq] at h4
            obtain ⟨rfl, rfl⟩ := h4
            refine key _ _ _ rv _ h3 rfl (.old ⟨rfl, ?_, .inl ⟨hg, rfl, ?_⟩⟩ hu.1 (.inr ?_))
            · cases o.dst <;> rfl
            · rw [put0_mem]; exact h1
            · rw [put0_mem]; exact hu.2
          · simp [Tree.sel] at h2
        · rename_i j b hg
          split at h
          · rename_i K hK
            split at h
            · simp [Tree.sel] at h
            · rename_i hcond
              simp only [Bool.or_eq_true, Bool.not_eq_true', not_or, Bool.not_eq_false, Bool.not_eq_true] at hcond
              obtain ⟨hq, hdst⟩ := hcond
              obtain ⟨⟨rv, mem'⟩, h1, h2⟩ := sel_bind h
              split at h2
              · rename_i hu
                obtain ⟨⟨s2, is'⟩, h3, h4⟩ := sel_bind h2
                simp only [Tree.sel, Option.some.injEq, Prod.mk.injEq] at h4
                obtain ⟨rfl, rfl⟩ := h4
                have hkd : ∀ p ∈ K, some p.1 ≠ o.dst := by
                  intro p hp e
                  rw [List.any_eq_false] at hdst
                  exact hdst p hp (by simp [e])
                exact key _ _ _ rv _ h3 rfl (.old ⟨rfl, rfl, .inr ⟨j, b, mem', hg, hK, hq, hkd, put0_mem _ _ _ _, h1⟩⟩ hu (.inl (put0_mem _ _ _ _)))
              · simp [Tree.sel] at h2
          · simp [Tree.sel] at h

theorem StepL.same {H : Hd} {X : HdP} {call : CallH} {all : List Oper} {masks : List Nat} {K0 i : Nat} {s s1 : St} {o : Oper} {T : Touch} {K : List (Nat × Bool)} {r : AV}
    (h : StepL P H X call all masks K0 i s s1 o T K r) : s1.tmps = (s.put0 o.dst K r).tmps ∧ ∀ l, ¬ T.wr l → obs s1.mem l = obs s.mem l := by
  have one : ∀ e, s1.mem = setN s.mem (K0 + i) e → T = some [(K0 + i + 1, true)] → ∀ l, ¬ T.wr l → obs s1.mem l = obs s.mem l := by
    intro e hm hT l hw
    subst hT
    rw [hm]
    cases l with
    | zero => simp [obs, setN_length]
    | succ k =>
      have hk : k ≠ K0 + i := fun e => hw (by subst e; simp [Touch.wr])
      simp only [obs, Sum.inr.injEq]
      exact nth_set_ne' hk
  cases h with
  | lay e z h hn hz hT hK hr hs hm => subst hK; exact ⟨hs, one _ hm hT⟩
  | nc g sz U es m ρ h hg hn hT hK hr hs hm => subst hK; exact ⟨hs, one _ hm hT⟩
  | old h hu hm =>
    refine ⟨h.put, fun l hn => ?_⟩
    rcases h.step with ⟨hg, hK, h1⟩ | ⟨j, b, m', hg, hK, hq, hkd, hm', h1⟩
    · obtain ⟨m, h2, h3⟩ := evOp_mem (mem := s.mem) h1 (fun _ _ => rfl)
      have hT := h.touch
      rw [hK] at hT
      rw [← hT] at h3
      exact ((h3 l).2 hn).2
    · rw [hm']

/-- what is named in what a step has written -/
theorem StepL.wrote {H : Hd} {X : HdP} {call : CallH} {all : List Oper} {masks : List Nat} {K0 i : Nat} {s s1 : St} {o : Oper} {T : Touch} {K : List (Nat × Bool)} {r : AV}
    (h : StepL P H X call all masks K0 i s s1 o T K r) {k : Nat} {e : Option (TypeId × List CV)} (hk : nth s1.mem k = some e) : nth s.mem k = some e ∨ (T.wr (k + 1) ∧ namesE (okAt masks K0 i) e = true) := by
  by_cases hw : T.wr (k + 1)
  · have one : ∀ e0, s1.mem = setN s.mem (K0 + i) e0 → namesE (okAt masks K0 i) e0 = true → nth s.mem k = some e ∨ (T.wr (k + 1) ∧ namesE (okAt masks K0 i) e = true) := by
      intro e0 hm h0
      rw [hm] at hk
      rcases nth_setN hk with ⟨_, rfl⟩ | ⟨_, hk⟩
      · exact .inr ⟨hw, h0⟩
      · exact .inl hk
    cases h with
    | lay e z h hn hz hT hK hr hs hm => exact one _ hm (by simp only [namesE, List.all_eq_true] at hz ⊢; exact fun x hx => closed_names (hz x hx))
    | nc g sz U es m ρ h hg hn hT hK hr hs hm => exact one _ hm rfl
    | old h hu hm =>
      rcases hm with hm | hm
      · rw [hm] at hk; exact .inl hk
      · refine .inr ⟨hw, ?_⟩
        cases T with
        | none => exact List.all_eq_true.1 hm _ (nth_mem hk)
        | some t =>
          have := List.all_eq_true.1 hm (k + 1, true) hw
          simp only [hk] at this
          exact this
  · have := h.same.2 (k + 1) hw
    left
    have e2 : nth s1.mem k = nth s.mem k := by simpa [obs] using this
    rw [← e2]; exact hk

theorem lplan_of {H : Hd} {X : HdP} {call : CallH} {all : List Oper} {K0 : Nat} {s s' : St} {is : List Info} (h : (evDrawL P H X call all (ancMasks all []) K0 0 all s).sel = some (s', is)) (hd : drawOk all is = true) (h0 : ∀ sl ∈ s.tmps, sl.keys = []) :
    ∃ p : APlan all, p.st 0 = s ∧ p.st all.length = s' ∧ (∀ i j, p.anc i j ↔ isAnc (ancMasks all []) i j = true) ∧ ∀ i o, all[i]? = some o → StepL P H X call all (ancMasks all []) K0 i (p.st i) (p.st (i + 1)) o (p.T i) (p.K i) (p.rs i) := by
  obtain ⟨st, rs, e0, en, hl, hstep⟩ := evDrawL_runs all 0 s h
  simp only [drawOk, Bool.and_eq_true] at hd
  obtain ⟨⟨⟨h1, h2⟩, h3⟩, h4⟩ := hd
  have hi : ∀ i, i < all.length → is[i]? = some ((is[i]?.getD (none, [])).1, (is[i]?.getD (none, [])).2) := by
    intro i hi
    rw [List.getElem?_eq_getElem (by omega)]
    simp
  have hlt : ∀ {i : Nat} {o : Oper}, all[i]? = some o → i < all.length := fun h => lt_of_get h
  have hst : ∀ i o, all[i]? = some o → StepL P H X call all (ancMasks all []) K0 i (st i) (st (i + 1)) o (is[i]?.getD (none, [])).1 (is[i]?.getD (none, [])).2 (rs i) := by
    intro i o ho
    obtain ⟨T, K, h1, h2⟩ := hstep i o ho
    rw [Nat.zero_add] at h2
    simpa [h1] using h2
  refine ⟨{ st := st, rs := rs, T := fun i => (is[i]?.getD (none, [])).1, K := fun i => (is[i]?.getD (none, [])).2, anc := fun i j => isAnc (ancMasks all []) i j = true, put := ?_, same1 := ?_, start := ?_, edges := ?_, dsts := dsts_spec h2, tmps := ?_, guards := ?_, keys := ?_, touch := ?_, lt := ?_, down := ?_ }, e0, en, fun _ _ => Iff.rfl, hst⟩
  · intro i o ho
    exact (hst i o ho).same.1
  · intro i l hil hn
    exact (hst i _ (List.getElem?_eq_getElem hil)).same.2 l hn
  · rw [e0]; exact h0
  · intro i o ho e he hb
    have := edges_spec h1 i o ho e he hb
    omega
  · intro j o t ho ht
    have := (ops_spec h3 j o _ _ ho (hi j (hlt ho))).1 t ht
    rw [Nat.zero_add] at this
    unfold tmpOk at this
    split at this
    · rename_i i hw
      obtain ⟨j', o', h1, h2, h3⟩ := writer_some hw
      left
      rw [Bool.or_eq_true, Bool.or_eq_true, beq_iff_eq] at this
      rw [show i = j' by omega] at this
      exact ⟨j', o', h2, h3, this.elim (fun h => h.elim .inl fun h => .inr (.inl h)) fun h => .inr (.inr h)⟩
    · rename_i hw
      right
      exact writer_none hw
  · intro j o g b ho hg
    have := (ops_spec h3 j o _ _ ho (hi j (hlt ho))).2.1 g b hg
    rwa [Nat.zero_add] at this
  · intro j o p ho hp
    have := (ops_spec h3 j o _ _ ho (hi j (hlt ho))).2.2 p hp
    rw [Nat.zero_add] at this
    unfold keyOk at this
    split at this
    · rename_i i hw
      obtain ⟨j', o', h1, h2, h3⟩ := writer_some hw
      exact ⟨j', o', h2, h3, by rw [show j' = i by omega]; exact this⟩
    · simp at this
  · intro i j l hij hj hl'
    have := touches_spec h4 i j _ _ _ _ hij (hi i (by omega)) (hi j hj)
    rw [Nat.zero_add, Nat.zero_add] at this
    exact clash_spec this hl'
  · intro i j h
    unfold isAnc at h
    rw [Bool.and_eq_true] at h
    simpa using h.1
  · intro L N hd hLN i j h hN
    unfold isAnc at h
    rw [Bool.and_eq_true] at h
    obtain ⟨_, h⟩ := h
    split at h
    · rename_i m hm
      exact anc_listed hd hLN all [] (by simp) (fun j m h => by simp [nth] at h) j m hm i h hN
    · simp at h

theorem mem_setN2 {α : Type} {l : List α} {b : Nat} {y x : α} (h : x ∈ setN l b y) : x ∈ l ∨ x = y := by
  rw [setN_eq] at h
  rcases List.mem_or_eq_of_mem_set h with h | h
  · exact .inl h
  · exact .inr h

theorem JA.slot {p : APlan all} {L : Nat → Prop} {s : St} (h : JA p L s) {d : Nat} {sl : Slot} (hn : nth s.tmps d = some sl) : nth (p.st 0).tmps d = some sl ∨ ∃ (i : Nat) (o : Oper), all[i]? = some o ∧ L i ∧ sl = ⟨p.K i, p.rs i⟩ := by
  by_cases hf : ∀ (i : Nat) (o : Oper), all[i]? = some o → o.dst ≠ some d
  · left; rw [← h.free d hf]; exact hn
  · have : ∃ (i : Nat) (o : Oper), all[i]? = some o ∧ o.dst = some d := by
      apply Classical.byContradiction
      intro hn
      exact hf fun i o hi hd => hn ⟨i, o, hi, hd⟩
    obtain ⟨i, o, hi, hd⟩ := this
    by_cases hl : L i
    · right
      refine ⟨i, o, hi, hl, ?_⟩
      have e := (h.slots i o d hi hd).1 hl
      rw [hn] at e
      rcases nth_setN e.symm with ⟨_, h2⟩ | ⟨h2, _⟩
      · exact h2
      · exact (h2 rfl).elim
    · left
      rw [← (h.slots i o d hi hd).2 hl]; exact hn

theorem lay_step {F : Nat → Prop} {w : World} {bs : List BI} {s : St} {a : Act} (hs : StRel P D F w bs s a) {K0 b : Nat} (hb : K0 ≤ b) (hn : nth s.mem b = some none) (hu : ∀ k T cs, nth s.mem k = some (some (T, cs)) → cs.all (namesC (avoid b)) = true)
    (hsl : ∀ d sl, nth s.tmps d = some sl → namesAV (avoid b) sl.v = true) {e : TypeId} {z : List CV} {v : Value} (hr : All2 (CV.Rel F w bs) z v.cells.toList) (hz : z.all closedC = true) :
    ∃ F' bs', (∀ K, K ≤ K0 → Ext K F w bs F' (w.alloc (.cells v.cells e)) bs') ∧ StRel P D F' (w.alloc (.cells v.cells e)) bs' { s with mem := setN s.mem b (some (e, z)) } a ∧ nth bs' b = some ⟨w.heap.size, 0, 0⟩ ∧ bs'.length = bs.length := by
  have hbl : b < bs.length := by rw [hs.mem.len]; exact nth_lt hn
  have hdead : ∀ T cs, nth s.mem b ≠ some (some (T, cs)) := fun T cs h => by rw [hn] at h; cases h
  have he0 := Ext.alloc (F := F) (bs := bs) bs.length (.cells v.cells e : Obj) (w := w)
  have hm1 := hs.mem.alloc (.cells v.cells e)
  have hm2 := hm1.reset ⟨w.heap.size, 0, 0⟩ hdead hu
  have hx : nth (setN bs b ⟨w.heap.size, 0, 0⟩) b = some ⟨w.heap.size, 0, 0⟩ := nth_set_self hbl
  have hm3 := hm2.put (T := e) (cs := z) hx hdead (fun _ => ⟨.inr rfl, by simp⟩) (fun _ k y T' cs' hk hc hv => ?_) (fun _ => ⟨v.cells.toList, ?_, ?_⟩) (fun fz es n ρ h => by have := hr.noRow; subst h; simp [isRowL] at this) (fun f i st cs' h => by have := hr.noRow; subst h; simp [isRowL] at this)
  · refine ⟨_, setN bs b ⟨w.heap.size, 0, 0⟩, fun K hK => ⟨he0.size, he0.F1, he0.F2, he0.same, rfl, rfl, rfl, fun k y hk hy => nth_reset (by omega) hy, fun y hy => ?_⟩, ⟨hs.defers, hs.len, fun d sl y h1 h2 => ?_, hm3⟩, hx, setN_length _ _ _⟩
    · rcases mem_setN2 hy with hy | rfl
      · exact .inl ⟨y, hy, rfl⟩
      · exact .inr (Nat.le_refl _)
    · refine ⟨fun hk => ?_, (hs.slots d sl y h1 h2).2⟩
      exact (AV.Rel.grow he0.grow ((hs.slots d sl y h1 h2).1 hk)).reset (hsl d sl h1)
  · by_cases ek : k = b
    · subst ek; exact (hdead _ _ hc).elim
    · rw [nth_set_ne' ek] at hk
      have := (hs.mem.loc k y T' cs' hk hc hv).2
      simp only; omega
  · rw [Array.toArray_toList]
    show (w.heap.push _)[_]? = _
    simp
  · exact All2.reset (hr.imp fun _ _ h => h.grow he0.grow) (by simp only [List.all_eq_true] at hz ⊢; exact fun x hx => closed_names (hz x hx))

/-- what a function has laid of its own stands in the place that was kept -/
theorem nc_step {F : Nat → Prop} {w w2 : World} {bs : List BI} {s : St} {a : Act} (hs : StRel P D F w bs s a) {K0 b : Nat} (hb : K0 ≤ b) (hn : nth s.mem b = some none) (hu : ∀ k T cs, nth s.mem k = some (some (T, cs)) → cs.all (namesC (avoid b)) = true)
    (hsl : ∀ d sl, nth s.tmps d = some sl → namesAV (avoid b) sl.v = true) {F' : Nat → Prop} {bs' : List BI} {U : TypeId} {es : List Sh} {m sz : Nat} {ρ : Val} {v : Value} (hx : Ext 0 F w [] F' w2 bs') (hmm : MemRel P F' w2 bs' [some (U, [.row false es m ρ])]) (hv : CV.Rel F' w2 bs' (.os 0 sz) v) :
    ∃ F2 bs2, (∀ K, K ≤ K0 → Ext K F w bs F2 w2 bs2) ∧ StRel P D F2 w2 bs2 { s with mem := setN s.mem b (some (U, [.row false es m ρ])) } a ∧ CV.Rel F2 w2 bs2 (.os b sz) v ∧ bs2.length = bs.length := by
  have hbl : b < bs.length := by rw [hs.mem.len]; exact nth_lt hn
  have hdead : ∀ T cs, nth s.mem b ≠ some (some (T, cs)) := fun T cs h => by rw [hn] at h; cases h
  cases hv with
  | os hx0 hbase =>
    rename_i x base
    let F2 : Nat → Prop := fun p => (p < w.heap.size ∧ F p) ∨ (w.heap.size ≤ p ∧ F' p)
    have hge : w.heap.size ≤ x.p := by
      rcases hx.mem x (nth_mem hx0) with ⟨y, hy, _⟩ | h
      · cases hy
      · exact h
    have e2 : ∀ K, Ext K F w bs F2 w2 bs := fun K => ⟨hx.size, fun p hp h => h.elim (fun h => h.2) (fun h => by omega), fun p h hp _ => .inl ⟨hp, h⟩, fun p hp _ => hx.same p hp (.inr fun x hx => by cases hx), hx.os, hx.tape, hx.output, fun _ _ _ h => h, fun x h => .inl ⟨x, h, rfl⟩⟩
    have m1 : MemRel P F2 w2 bs s.mem := hs.mem.move (e2 _) fun k y T cs hk hc hv => by
      have hl := hs.mem.loc k y T cs hk hc hv
      exact ⟨.inl ⟨hl.2, hl.1⟩, hx.same _ hl.2 (.inr fun x hx => by cases hx)⟩
    have m2 := m1.reset x hdead hu
    have hxb : nth (setN bs b x) b = some x := nth_set_self hbl
    have hr := hmm.row 0 U false es m ρ x rfl hx0
    have g0 : Grow F' F2 [] [] w2 w2 := ⟨Nat.le_refl _, fun p _ h => h.elim (fun h => hx.F2 p h.2 h.1 (fun x hx => by cases hx)) (fun h => h.2), fun _ _ _ => rfl, fun _ _ h => h⟩
    have m3 := m2.put (T := U) (cs := [.row false es m ρ]) hxb hdead (fun hl => ?_) (fun hl k y T' cs' hk hc hv => ?_) (fun h => by simp [isRowL] at h) (fun fz' es' n' ρ' h => ?_)
    · refine ⟨F2, setN bs b x, fun K hK => ⟨(e2 K).size, (e2 K).F1, (e2 K).F2, (e2 K).same, (e2 K).os, (e2 K).tape, (e2 K).output, fun k y hk hy => nth_reset (by omega) hy, fun y hy => ?_⟩, ⟨hs.defers, hs.len, fun d sl y h1 h2 => ?_, m3⟩, CV.Rel.os hxb hbase, setN_length _ _ _⟩
      · rcases mem_setN2 hy with hy | rfl
        · exact .inl ⟨y, hy, rfl⟩
        · exact .inr hge
      · refine ⟨fun hk => ?_, (hs.slots d sl y h1 h2).2⟩
        exact (AV.Rel.grow (e2 bs.length).grow ((hs.slots d sl y h1 h2).1 hk)).reset (hsl d sl h1)
    · have := hmm.loc 0 x U _ hx0 rfl hl
      exact ⟨.inr ⟨hge, this.1⟩, this.2⟩
    · by_cases ek : k = b
      · subst ek; exact (hdead _ _ hc).elim
      · rw [nth_set_ne' ek] at hk
        have := (hs.mem.loc k y T' cs' hk hc hv).2
        omega
    · simp only [List.cons.injEq, CV.row.injEq, and_true] at h
      obtain ⟨rfl, rfl, rfl, rfl⟩ := h
      refine ⟨hr.len, hr.le, hr.mx, fun h0 => ?_, fun _ h => by cases h⟩
      obtain ⟨arr, a1, a2, val, a3, a4⟩ := hr.blk h0
      exact ⟨arr, a1, a2, val, a3, fun i f s hi hs => (a4 i f s hi hs).grow g0⟩

theorem drawL_any {H : Hd} (hpc : SumOk P H) {X : HdP} (hnc : NcsOk P X.nc) {call : CallH} (hcall : CallOk P call) {masks : List Nat} {K0 : Nat} {ops : Array Oper} (hops : ops.toList = all) (p : APlan all)
    (hanc : ∀ i j, p.anc i j ↔ isAnc masks i j = true) (hstep : ∀ i o, all[i]? = some o → StepL P H X call all masks K0 i (p.st i) (p.st (i + 1)) o (p.T i) (p.K i) (p.rs i)) (hmu : (p.st 0).mem.all (underE K0) = true) (hsu : ∀ sl ∈ (p.st 0).tmps, underAV K0 sl.v = true) {Q : Exit → Act → World → Prop} {F0 : Nat → Prop} {w0 : World} {bs0 : List BI} (hb0 : bs0.length = K0)
    (hQ : ∀ F' w' bs' a', Ext bs0.length F0 w0 bs0 F' w' bs' → StRel P D F' w' bs' (p.st all.length) a' → Q .normal a' w') :
    ∀ (fuel : Nat) (listed : Array Bool) (a : Act) (w : World) (s : St) (F : Nat → Prop) (bs : List BI), listed.size = all.length → listed.toList.countP (fun b => !b) ≤ fuel →
      (∀ j o, all[j]? = some o → Lof listed j → ∀ e ∈ o.after, Region.binds .any e = true → Lof listed e.on) → JA p (Lof listed) s → Ext bs0.length F0 w0 bs0 F w bs → bs0.length ≤ bs.length → StRel P D F w bs s a → wpAny P .any ops Q fuel listed a w := by
  -- what an entry names
  have hmU : ∀ i, i ≤ all.length → ∀ k e, nth (p.st i).mem k = some e → namesE (fun b => Nat.blt b K0) e = true ∨ ∃ i1, i1 < i ∧ (p.T i1).wr (k + 1) ∧ namesE (okAt masks K0 i1) e = true := by
    intro i
    induction i with
    | zero => exact fun _ k e hk => .inl (underE_names (List.all_eq_true.1 hmu _ (nth_mem hk)))
    | succ i ih =>
      intro hi k e hk
      rcases (hstep i _ (List.getElem?_eq_getElem hi)).wrote hk with h | ⟨h1, h2⟩
      · rcases ih (by omega) k e h with h | ⟨i1, h1, h2⟩
        · exact .inl h
        · exact .inr ⟨i1, by omega, h2⟩
      · exact .inr ⟨i, by omega, h1, h2⟩
  have hget : ∀ i, ops[i]? = all[i]? := fun i => by rw [← hops, Array.getElem?_toList]
  have hready : ∀ listed : Array Bool, listed.size = all.length → Region.ready .any ops listed = [] → ∀ k, k < all.length → Lof listed k := by
    intro listed hsz hr k
    induction k using Nat.strongRecOn with
    | ind k ih =>
      intro hk
      apply Classical.byContradiction
      intro hn
      have : k ∈ Region.ready .any ops listed := by
        rw [mem_ready]
        refine ⟨?_, all[k], by rw [hget]; exact List.getElem?_eq_getElem hk, fun e he hb => ?_⟩
        · unfold Lof at hn
          have hk' : k < listed.size := by omega
          simp only [Array.getD_eq_getD_getElem?, Array.getElem?_eq_getElem hk', Option.getD_some] at hn ⊢
          simpa using hn
        · have hlt := p.edges k _ (List.getElem?_eq_getElem hk) e he hb
          exact ih e.on hlt (by omega)
      rw [hr] at this
      cases this
  intro fuel
  induction fuel with
  | zero =>
    intro listed a w s F bs hsz hc hdn hJ hext hK0 hs
    have hnil : Region.ready .any ops listed = [] := by
      rw [List.eq_nil_iff_forall_not_mem]
      intro j hj
      obtain ⟨h0, o, ho, _⟩ := mem_ready.1 hj
      rw [hget] at ho
      have hjl := lt_of_get ho
      have hj' : j < listed.size := by omega
      have := List.countP_eq_zero.1 (Nat.le_zero.1 hc) listed[j] (by simp)
      simp only [Array.getD_eq_getD_getElem?, Array.getElem?_eq_getElem hj', Option.getD_some] at h0
      simp [h0] at this
    have hall := hready listed hsz hnil
    have := hJ.eq hall
    subst this
    exact ⟨hnil, hQ F w bs a hext hs⟩
  | succ fuel ih =>
    intro listed a w s F bs hsz hc hdn hJ hext hK0 hs
    refine ⟨fun hnil => ?_, fun j hj => ?_⟩
    · have hall := hready listed hsz hnil
      have := hJ.eq hall
      subst this
      exact hQ F w bs a hext hs
    · obtain ⟨h0, o, ho, hed⟩ := mem_ready.1 hj
      have ho' := ho
      rw [hget] at ho'
      have hjl := lt_of_get ho'
      have hj' : j < listed.size := by omega
      have hjf : listed[j] = false := by simpa only [Array.getD_eq_getD_getElem?, Array.getElem?_eq_getElem hj', Option.getD_some] using h0
      have hnl : ¬ Lof listed j := by
        unfold Lof
        simp [Array.getElem?_eq_getElem hj', hjf]
      have hL : ∀ i k, p.anc i k → Lof listed k → Lof listed i := p.down _ _ hdn fun _ h => h
      have hd : ∀ i, p.anc i j → Lof listed i := fun i hi => p.down (Lof listed) (fun k => Lof listed k ∨ k = j) (fun k ok hk hN e he hb => by
        rcases hN with hN | rfl
        · exact hdn k ok hk hN e he hb
        · rw [ho'] at hk
          simp at hk; subst hk
          exact hed e he hb) (fun _ h => .inl h) i j hi (.inr rfl)
      obtain ⟨hsame, hkeys, hmem⟩ := hJ.same ho' hd hL hnl
      have hset : ∀ k, Lof (listed.setIfInBounds j true) k ↔ (Lof listed k ∨ k = j) := Lof_set hj'
      -- the rest, behind this operation
      have next : ∀ (a' : Act) (w' : World) (s' : St) (F' : Nat → Prop) (bs' : List BI), JA p (fun k => Lof listed k ∨ k = j) s' → Ext bs0.length F w bs F' w' bs' → bs0.length ≤ bs'.length → StRel P D F' w' bs' s' a' → wpAny P .any ops Q fuel (listed.setIfInBounds j true) a' w' := by
        intro a' w' s' F' bs' hJ' he hle hs'
        refine ih _ a' w' s' F' bs' (by simpa using hsz) ?_ (fun k ok hk hl e hee hb => ?_) (hJ'.congr fun k _ => (hset k).symm) (hext.trans he (Nat.le_refl _)) hle hs'
        · simp only [Array.toList_setIfInBounds]
          rw [List.countP_set (by simpa using hj')]
          have : 0 < listed.toList.countP (fun b => !b) := List.countP_pos_iff.2 ⟨listed[j], by simp, by simp [hjf]⟩
          have e1 : ((!listed.toList[j]) = true) = True := by simp [hjf]
          simp only [e1, if_true, Bool.not_true, Bool.false_eq_true, if_false]
          omega
        · rw [hset] at hl ⊢
          rcases hl with hl | rfl
          · exact .inl (hdn k ok hk hl e hee hb)
          · rw [ho'] at hk
            simp at hk; subst hk
            exact .inl (hed e hee hb)
      have hlim : ∀ K, lim o s K = lim o (p.st j) K := fun K => lim_congr hsame
      have e1 : (fun K' => lim o (p.st j) K') = fun K' => lim o s K' := funext fun K => (hlim K).symm
      unfold wpOp
      simp only [ho]
      cases hstep j o ho' with
      | lay e z hlay hn hz hT hK hr hs1 hm1 =>
        obtain ⟨hg, ⟨d, hd'⟩, hop, hzc⟩ := layOf_some hlay
        simp only [Region.wanted, hg, if_true]
        left
        obtain ⟨v, hzv, hrv⟩ := zeroCellsOf_ok (F := F) (w := w) (bs := bs) hzc
        have hobj := hmem (K0 + j + 1) (by rw [hT]; exact ⟨true, by simp⟩)
        have hdead : nth s.mem (K0 + j) = some none := by
          have : nth s.mem (K0 + j) = nth (p.st j).mem (K0 + j) := by simpa [obs] using hobj
          rw [this]; exact hn
        have hav0 : ∀ b, Nat.blt b K0 = true → avoid (K0 + j) b = true := fun b hb => by
          have : b < K0 := by simpa using hb
          have : b ≠ K0 + j := by omega
          simpa [avoid] using this
        have havI : ∀ i, Lof listed i → ∀ b, okAt masks K0 i b = true → avoid (K0 + j) b = true := fun i hi b hb => by
          suffices b ≠ K0 + j by simpa [avoid] using this
          intro e
          subst e
          unfold okAt at hb
          rw [Bool.or_eq_true, Bool.or_eq_true, Nat.add_sub_cancel_left] at hb
          rcases hb with (hb | hb) | hb
          · have : K0 + j < K0 := by simpa using hb
            omega
          · exact hnl (hL j i ((hanc j i).2 hb) hi)
          · have : K0 + j = K0 + i := by simpa using hb
            exact hnl (by rw [show j = i by omega]; exact hi)
        have hu : ∀ k T cs, nth s.mem k = some (some (T, cs)) → cs.all (namesC (avoid (K0 + j))) = true := by
          intro k T cs hk
          obtain ⟨i, hi, hob, hwr⟩ := hJ.mem (k + 1)
          have e2 : nth s.mem k = nth (p.st i).mem k := by simpa [obs] using hob
          rw [e2] at hk
          rcases hmU i hi k _ hk with h | ⟨i1, h1, h2, h3⟩
          · exact namesE_mono hav0 h
          · exact namesE_mono (havI i1 ((hwr i1 (by omega) h2).2 h1)) h3
        have hsl : ∀ d sl, nth s.tmps d = some sl → namesAV (avoid (K0 + j)) sl.v = true := by
          intro d sl hds
          rcases hJ.slot hds with h | ⟨i, oi, hi, hl, rfl⟩
          · exact namesAV_mono hav0 (underAV_names (hsu sl (nth_mem h)))
          · have hown : okAt masks K0 i (K0 + i) = true := by simp [okAt]
            cases hstep i oi hi with
            | lay e' z' _ _ _ _ _ hr' _ _ => rw [hr']; exact havI i hl _ hown
            | nc _ _ _ _ _ _ _ _ _ _ _ hr' _ _ => rw [hr']; exact havI i hl _ hown
            | old _ hu _ => exact namesAV_mono (havI i hl) hu
        obtain ⟨F', bs', hext', hs2, hnb, hlen⟩ := lay_step hs (Nat.le_add_right K0 j) hdead hu hsl hrv hz (e := e)
        refine wp_value (w' := w.alloc (.cells v.cells e)) (v := .pointer (some ⟨w.heap.size, 0, none⟩)) ?_ ?_
        · unfold execOp
          simp [hop, Instr.alloc, hzv, newVar, newRow]
        · refine next _ _ ({ s with mem := setN s.mem (K0 + j) (some (e, z)) }.put o.dst [] (p.rs j)) F' bs' ?_ (hext' _ (by omega)) (by omega) (StRel.put hs2 (fun _ hp => by cases hp) (fun _ => by rw [hr]; exact CV.Rel.ptr hnb) (fun h => (h KH_nil).elim))
          have hmem' := hJ.mem_step ho' hd hL hnl (mem' := setN s.mem (K0 + j) (some (e, z))) fun l => ⟨fun hw => ?_, fun hn => ?_⟩
          · refine hJ.put ho' ?_ ?_
            · have := hJ.put_eq ho' hL hnl [] (p.rs j)
              rw [hK, ← this]
              cases o.dst <;> rfl
            · intro l
              have : ({ s with mem := setN s.mem (K0 + j) (some (e, z)) }.put o.dst [] (p.rs j)).mem = setN s.mem (K0 + j) (some (e, z)) := by cases o.dst <;> rfl
              rw [this]
              exact hmem' l
          · rw [hT] at hw
            simp [Touch.wr] at hw
            subst hw
            rw [hm1]
            simp only [obs, Sum.inr.injEq]
            rw [nth_set_self (nth_lt hdead), nth_set_self (nth_lt hn)]
          · rw [hT] at hn
            cases l with
            | zero => simp [obs, setN_length]
            | succ k =>
              have hk : k ≠ K0 + j := fun e => hn (by subst e; simp [Touch.wr])
              simp only [obs, Sum.inr.injEq]
              exact nth_set_ne' hk
      | nc g sz U es m ρ hncO hgs hn hT hK hr hs1 hm1 =>
        rw [← hlim] at hncO
        obtain ⟨hg, ⟨d, hd'⟩, c, f, args, G, hop, htar, hG, hcl, hclosed, rfl⟩ := ncOf_some hncO
        simp only [Region.wanted, hg, if_true]
        left
        have hobj := hmem (K0 + j + 1) (by rw [hT]; exact ⟨true, by simp⟩)
        have hdead : nth s.mem (K0 + j) = some none := by
          have : nth s.mem (K0 + j) = nth (p.st j).mem (K0 + j) := by simpa [obs] using hobj
          rw [this]; exact hn
        have hav0 : ∀ b, Nat.blt b K0 = true → avoid (K0 + j) b = true := fun b hb => by
          have : b < K0 := by simpa using hb
          have : b ≠ K0 + j := by omega
          simpa [avoid] using this
        have havI : ∀ i, Lof listed i → ∀ b, okAt masks K0 i b = true → avoid (K0 + j) b = true := fun i hi b hb => by
          suffices b ≠ K0 + j by simpa [avoid] using this
          intro e
          subst e
          unfold okAt at hb
          rw [Bool.or_eq_true, Bool.or_eq_true, Nat.add_sub_cancel_left] at hb
          rcases hb with (hb | hb) | hb
          · have : K0 + j < K0 := by simpa using hb
            omega
          · exact hnl (hL j i ((hanc j i).2 hb) hi)
          · have : K0 + j = K0 + i := by simpa using hb
            exact hnl (by rw [show j = i by omega]; exact hi)
        have hu : ∀ k T cs, nth s.mem k = some (some (T, cs)) → cs.all (namesC (avoid (K0 + j))) = true := by
          intro k T cs hk
          obtain ⟨i, hi, hob, hwr⟩ := hJ.mem (k + 1)
          have e2 : nth s.mem k = nth (p.st i).mem k := by simpa [obs] using hob
          rw [e2] at hk
          rcases hmU i hi k _ hk with h | ⟨i1, h1, h2, h3⟩
          · exact namesE_mono hav0 h
          · exact namesE_mono (havI i1 ((hwr i1 (by omega) h2).2 h1)) h3
        have hsl : ∀ d sl, nth s.tmps d = some sl → namesAV (avoid (K0 + j)) sl.v = true := by
          intro d sl hds
          rcases hJ.slot hds with h | ⟨i, oi, hi, hl, rfl⟩
          · exact namesAV_mono hav0 (underAV_names (hsu sl (nth_mem h)))
          · have hown : okAt masks K0 i (K0 + i) = true := by simp [okAt]
            cases hstep i oi hi with
            | lay e' z' _ _ _ _ _ hr' _ _ => rw [hr']; exact havI i hl _ hown
            | nc _ _ _ _ _ _ _ _ _ _ _ hr' _ _ => rw [hr']; exact havI i hl _ hown
            | old _ hu _ => exact namesAV_mono (havI i hl) hu
        obtain ⟨vs, hvs, hrun⟩ := evTarget_ok (P := P) (fun x av hh => opnd_ok hs KH_nil (limit_le hh)) hop htar hcl
        have hvs' : All2 (A1.Rel F w []) args vs := by
          clear hgs hncO htar hrun
          induction hvs with
          | nil => exact .nil
          | cons ha _ ih =>
            simp only [List.all_cons, Bool.and_eq_true] at hclosed
            exact .cons (ha.closed hclosed.1) (ih hclosed.2)
        unfold Oper.wp
        rw [hrun]
        refine (hnc f G hG args _ _ hgs hclosed F w vs hvs').mono fun ee w2 ⟨v, F', bs', he, hx, hmm, hv⟩ => ?_
        subst he
        obtain ⟨F2, bs2, hext', hs2, hrel, hlen⟩ := nc_step hs (Nat.le_add_right K0 j) hdead hu hsl hx hmm hv
        refine next _ _ ({ s with mem := setN s.mem (K0 + j) (some (U, [.row false es m ρ])) }.put o.dst [] (p.rs j)) F2 bs2 ?_ (hext' _ (by omega)) (by omega) (StRel.put hs2 (fun _ hp => by cases hp) (fun _ => by rw [hr]; exact hrel) (fun h => (h KH_nil).elim))
        have hmem' := hJ.mem_step ho' hd hL hnl (mem' := setN s.mem (K0 + j) (some (U, [.row false es m ρ]))) fun l => ⟨fun hw => ?_, fun hn => ?_⟩
        · refine hJ.put ho' ?_ ?_
          · have := hJ.put_eq ho' hL hnl [] (p.rs j)
            rw [hK, ← this]
            cases o.dst <;> rfl
          · intro l
            have : ({ s with mem := setN s.mem (K0 + j) (some (U, [.row false es m ρ])) }.put o.dst [] (p.rs j)).mem = setN s.mem (K0 + j) (some (U, [.row false es m ρ])) := by cases o.dst <;> rfl
            rw [this]
            exact hmem' l
        · rw [hT] at hw
          simp [Touch.wr] at hw
          subst hw
          rw [hm1]
          simp only [obs, Sum.inr.injEq]
          rw [nth_set_self (nth_lt hdead), nth_set_self (nth_lt hn)]
        · rw [hT] at hn
          cases l with
          | zero => simp [obs, setN_length]
          | succ k =>
            have hk : k ≠ K0 + j := fun e => hn (by subst e; simp [Touch.wr])
            simp only [obs, Sum.inr.injEq]
            exact nth_set_ne' hk
      | old hst hru hmu' =>
        rcases hst.step with ⟨hg, hK, h⟩ | ⟨g, b, m', hg, hK, hq, hkd, hm, h⟩
        · simp only [Region.wanted, hg, if_true]
          left
          have hT := hst.touch
          rw [hK] at hT
          obtain ⟨mem', h1, h2⟩ := evOp_mem (mem := s.mem) h (fun l hl => hmem l (by rw [hT]; exact hl))
          rw [← hT] at h2
          rw [e1] at h1
          refine evOp_at hpc hcall hs.mem (fun K x av hk hh => opnd_ok hs hk (limit_le hh)) h1 fun F' w' bs' v he hm' hr => ?_
          refine next _ w' ({ s with mem := mem' }.put o.dst [] (p.rs j)) F' bs' ?_ (he.weak hK0) (Nat.le_trans hK0 he.le) (StRel.put (hs.ext he hm') (fun _ hp => by cases hp) (fun _ => hr) (fun h => (h KH_nil).elim))
          have hmem' := hJ.mem_step ho' hd hL hnl (mem' := mem') fun l => ⟨(h2 l).1, fun hn => ((h2 l).2 hn).1⟩
          refine hJ.put ho' ?_ ?_
          · have := hJ.put_eq ho' hL hnl [] (p.rs j)
            rw [hK, ← this]
            cases o.dst <;> rfl
          · intro l
            have : ({ s with mem := mem' }.put o.dst [] (p.rs j)).mem = mem' := by cases o.dst <;> rfl
            rw [this]
            exact hmem' l
        · have hT := hst.touch
          have he := h
          have hga := p.guards j o g b ho' hg
          have hkeq : keysOf ops.toList s g b = some (p.K j) := by
            rw [hops, ← hK]
            unfold keysOf
            split
            · rename_i og hog
              split
              · rename_i d hdg
                rw [nth_eq] at hog
                rw [hkeys g og d hog hdg hga]
              · rfl
            · rfl
          have hiff := keys_ok hs hkeq
          have hgt : gterm s (p.K j) = gterm (p.st j) (p.K j) := gterm_congr fun q hq => by
            obtain ⟨i, oi, hi, hdi, ha⟩ := p.keys j o q ho' hq
            exact hkeys i oi q.1 hi hdi ha
          have hmem' : ∀ l, ∃ i, i ≤ all.length ∧ obs s.mem l = obs (p.st i).mem l ∧ ∀ k, k < all.length → (p.T k).wr l → ((Lof listed k ∨ k = j) ↔ k < i) :=
            hJ.mem_step ho' hd hL hnl (mem' := s.mem) fun l => ⟨fun hw => by rw [hm]; exact hmem l (Touch.wr_at hw), fun _ => rfl⟩
          have hput : JA p (fun k => Lof listed k ∨ k = j) (s.put o.dst (p.K j) (p.rs j)) := by
            refine hJ.put ho' ?_ ?_
            · rw [hJ.put_eq ho' hL hnl]
            · have : (s.put o.dst (p.K j) (p.rs j)).mem = s.mem := by cases o.dst <;> rfl
              rw [this]
              exact hmem'
          by_cases hk : KH a (p.K j)
          · have hw : Region.wanted o (yielded ops a.tmps) = true := (wanted_iff hg _).2 (hiff.1 hk)
            rw [if_pos hw]
            left
            have h1 := toNeed_sel h (by rw [← hgt]; exact gterm_ok hs hk)
            have e1 : (fun K' => lim o (p.st j) (K' ++ p.K j)) = fun K' => lim o s (K' ++ p.K j) := funext fun K => (hlim _).symm
            rw [e1] at h1
            have e2 : lim o (p.st j) (p.K j) = lim o s (p.K j) := (hlim _).symm
            rw [e2] at hq
            obtain ⟨m2, h3, _⟩ := evOp_mem (mem := s.mem) h1 (fun l hl => by
              refine (hmem l ?_).trans rfl
              rw [hT, e2]; exact hl)
            have hρ : ∀ K' x av, KH a K' → lim o s (K' ++ p.K j) x = some av → av.Rel F w bs (a.eval x) := fun K' x av hk' hh => opnd_ok hs (fun q hq => (List.mem_append.1 hq).elim (hk' q) (hk q)) (limit_le hh)
            have hme := still_mem (ρ := fun K' => lim o s (K' ++ p.K j)) hpc hs.mem hρ hq h3
            subst hme
            refine evOp_at hpc hcall hs.mem hρ h3 fun F' w' bs' v he hm' hr => ?_
            exact next _ w' _ F' bs' hput (he.weak hK0) (Nat.le_trans hK0 he.le) (StRel.put (hs.ext he hm') hkd (fun _ => hr) (fun h => (h hk).elim))
          · have hw : ¬ Region.wanted o (yielded ops a.tmps) = true := fun h => hk (hiff.2 ((wanted_iff hg _).1 h))
            rw [if_neg hw]
            exact next _ w _ F bs hput Ext.refl hK0 (StRel.put hs hkd (fun h => (hk h).elim) (fun _ => rfl))

theorem evRegL_ok {H : Hd} (hpc : SumOk P H) {X : HdP} (hnc : NcsOk P X.nc) {call : CallH} (hcall : CallOk P call) {id : Nat} {ops : Array Oper} {s s' : StP} {x : XP} (h : (evRegL P H X call ops.toList s).sel = some (x, s'))
    {F : Nat → Prop} {w : World} {bs : List BI} {a : Act} (hs : PRel P F w bs s a) {Q : Exit → Act → World → Prop}
    (hQ : ∀ F' w' bs' a' e, Ext bs.length F w bs F' w' bs' → PRel P F' w' bs' s' a' → XRel F' w' bs' x e → Q e a' w') : (Code.region id ops true).wp P Q a w := by
  unfold evRegL at h
  split at h
  · rename_i hc
    rw [Bool.and_eq_true, Bool.and_eq_true] at hc
    obtain ⟨⟨hm, hmu⟩, hsu⟩ := hc
    obtain ⟨⟨y, is⟩, h1, h2⟩ := sel_bind h
    simp only at h2
    split at h2
    · rename_i hd
      simp only [Tree.sel, Option.some.injEq, Prod.mk.injEq] at h2
      obtain ⟨rfl, rfl⟩ := h2
      have hlen : bs.length = s.s.mem.length := hs.st.mem.len
      have hs0 : StRel P a.defers F w bs { s.s with tmps := s.s.tmps.map unkey } a := hs.st.unkey
      have h0 : ∀ sl ∈ s.s.tmps.map unkey, sl.keys = [] := by
        intro sl hsl
        simp only [List.mem_map] at hsl
        obtain ⟨sl0, _, rfl⟩ := hsl
        unfold unkey
        split
        · rename_i he; exact List.isEmpty_iff.1 he
        · rfl
      obtain ⟨p, e0, en, hanc, hstep⟩ := lplan_of h1 hd h0
      have hb : Below w.heap.size w { w with drawn := w.drawn + 1 } := Below.drew (Below.refl _ _)
      -- the places that are kept
      have hwk : MemWk s.s.mem (s.s.mem ++ ops.toList.map fun _ => none) := by
        refine ⟨by simp, fun k T cs' hk => ⟨cs', ?_, fun _ => rfl, fun hr => ⟨hr, fun _ _ _ _ h => h⟩⟩⟩
        rw [nth_eq, List.getElem?_append] at hk
        split at hk
        · rw [nth_eq]; exact hk
        · rw [List.getElem?_map] at hk
          simp only [Option.map_eq_some_iff] at hk
          obtain ⟨_, _, hk⟩ := hk
          cases hk
      have hs1 := (hs0.below hb)
      have hm1 := hs1.mem.weak hwk
      have hx1 := Ext.dummies (K := bs.length) (F := F) (w := { w with drawn := w.drawn + 1 }) (bs := bs) ((s.s.mem ++ ops.toList.map fun _ => none).length - s.s.mem.length)
      have hs2 := hs1.ext hx1 hm1
      have hext := (Ext.of_below hb (K := bs.length) (F := F) (bs := bs)).trans hx1 (Nat.le_refl _)
      refine wp_region_any hm (drawL_any (F0 := F) (w0 := w) (bs0 := bs) (D := a.defers) hpc hnc hcall rfl p hanc hstep ?_ ?_ hlen (fun F' w' bs' a' he hs' => ?_) _ _ _ _ _ F _ (by simp) ?_ ?_ ?_ hext (by simp) hs2)
      · rw [e0, List.all_append, hmu, Bool.true_and, List.all_map]
        exact List.all_eq_true.2 fun _ _ => rfl
      · rw [e0]
        intro sl hsl
        obtain ⟨sl0, h3, rfl⟩ := List.mem_map.1 hsl
        exact List.all_eq_true.1 hsu sl0 h3
      · exact hQ F' w' bs' a' _ he ((StRel.unkey (en ▸ hs')).toP (hs.ds.grow he.grow)) rfl
      · simpa using List.countP_le_length (p := fun b => !b) (l := List.replicate ops.size false)
      · intro j o _ hl
        unfold Lof at hl
        simp [Array.getElem?_replicate] at hl
        split at hl <;> simp at hl
      · have := text_JA p 0 (Nat.zero_le _)
        rw [e0] at this
        refine this.congr fun k hk => ⟨fun h => by omega, fun hl => ?_⟩
        unfold Lof at hl
        simp [Array.getElem?_replicate] at hl
        split at hl <;> simp at hl
    · simp [Tree.sel] at h2
  · simp [Tree.sel] at h

end Go.Sx
/-
  The evaluator with panics, deferred calls and recover (part Pd): code.
-/
namespace Go.Sx
open Go Go.RowKit

variable {P : Program}

theorem toP_rel {F w bs} (e : XE) : XRel F w bs e.toP (xe e) := by cases e <;> rfl

theorem PRel.unkey {F w bs s} {a : Act} (hs : PRel P F w bs s a) : PRel P F w bs ⟨{ s.s with tmps := s.s.tmps.map Sx.unkey }, s.dl⟩ a := ⟨hs.st.unkey, hs.ds⟩

theorem evCodeP_ok {H : Hd} (hpc : SumOk P H) {X : HdP} (hrx : RxOk P X.rx) (hnc : NcsOk P X.nc) {call : CallH} (hcall : CallOk P call) {callP : CallP} (hcallP : CallPOk P callP) (f K : Nat) : ∀ (c : Code) (n : Nat) (s : StP) {x : XP × StP},
    (evCodeP P H X call callP f K n c s).sel = some x → (∀ i b h, nthLoop c i = some b → lookLh H.lh f (n + i) = some h → LoopOk P b h) → ∀ {F : Nat → Prop} {w : World} {bs : List BI} {a : Act}, K ≤ bs.length → PRel P F w bs s a → ∀ {Q : Exit → Act → World → Prop},
    (∀ F' w' bs' a' e, Ext K F w bs F' w' bs' → PRel P F' w' bs' x.2 a' → XRel F' w' bs' x.1 e → Q e a' w') → c.wp P Q a w := by
  intro c
  induction c with
  | skip =>
    intro n s x h _ F w bs a hK hs Q hQ
    simp only [evCodeP, Tree.sel, Option.some.injEq] at h
    subst h
    exact wp_skip (hQ F w bs a _ Ext.refl hs rfl)
  | region id ops draw =>
    intro n s x h _ F w bs a hK hs Q hQ
    simp only [evCodeP] at h
    cases draw
    · simp only [Bool.false_eq_true, if_false] at h
      obtain ⟨⟨y, s'⟩, h1, h2⟩ := sel_bind h
      simp only [Tree.sel, Option.some.injEq] at h2
      subst h2
      exact wp_region_list (evOpsP_ok hpc hrx hcall hcallP _ _ h1 hs fun F' w' bs' a' e he hs' hx => hQ F' w' bs' a' e (he.weak hK) hs'.unkey hx)
    · simp only [if_true] at h
      obtain ⟨y, s'⟩ := x
      split at h
      · exact evRegL_ok hpc hnc hcall h hs fun F' w' bs' a' e he hs' hx => hQ F' w' bs' a' e (he.weak hK) hs' hx
      exact evRegP_ok hpc hrx hcall hcallP h hs fun F' w' bs' a' e he hs' hx => hQ F' w' bs' a' e (he.weak hK) hs' hx
  | seq a b iha ihb =>
    intro n s x h hl F w bs a' hK hs Q hQ
    simp only [evCodeP] at h
    obtain ⟨y, h1, h2⟩ := sel_bind h
    refine wp_seq (iha n s h1 (fun i bb hh hi hk => hl i bb hh (by
      simp only [nthLoop]
      have : i < nloops a := by
        rcases Nat.lt_or_ge i (nloops a) with h' | h'
        · exact h'
        · exact absurd hi (by rw [evCode_ok.nthLoop_none a i h']; simp)
      rw [if_pos this]; exact hi) hk) hK hs fun F' w' bs' a'' e he hs' hx => ?_)
    obtain ⟨xp, s'⟩ := y
    cases xp with
    | normal =>
      cases hx
      simp only [Exit.then]
      refine ihb (n + nloops a) s' h2 (fun i bb hh hi hk => hl (nloops a + i) bb hh (by
        simp only [nthLoop]
        rw [if_neg (by omega)]
        rw [show nloops a + i - nloops a = i by omega]; exact hi) (by rw [← Nat.add_assoc]; exact hk)) (he.le hK) hs' fun F'' w'' bs'' a3 e' he' hs'' hx' => hQ _ _ _ _ _ (he.trans he' (Nat.le_refl _)) hs'' hx'
    | exit k =>
      cases hx
      simp only [Tree.sel, Option.some.injEq] at h2
      subst h2
      exact hQ _ _ _ _ _ he hs' rfl
    | ret =>
      cases hx
      simp only [Tree.sel, Option.some.injEq] at h2
      subst h2
      exact hQ _ _ _ _ _ he hs' rfl
    | pan z =>
      obtain ⟨v, rfl, hv⟩ := hx
      simp only [Tree.sel, Option.some.injEq] at h2
      subst h2
      exact hQ _ _ _ _ _ he hs' ⟨v, rfl, hv⟩
  | cond c a b iha ihb =>
    intro n s x h hl F w bs a' hK hs Q hQ
    simp only [evCodeP] at h
    split at h
    · rename_i t ht
      have hr := opnd_ok hs.st KH_nil ht
      have hc : a'.eval c = .bool t := by
        generalize a'.eval c = z at hr ⊢
        cases hr; rfl
      simp only [Tree.sel] at h
      cases t
      · simp only [cond_false] at h
        refine wp_cond_false hc (ihb (n + nloops a) s h (fun i bb hh hi hk => hl (nloops a + i) bb hh (by
          simp only [nthLoop]
          rw [if_neg (by omega)]
          rw [show nloops a + i - nloops a = i by omega]; exact hi) (by rw [← Nat.add_assoc]; exact hk)) hK hs hQ)
      · simp only [cond_true] at h
        refine wp_cond_true hc (iha n s h (fun i bb hh hi hk => hl i bb hh (by
          simp only [nthLoop]
          have : i < nloops a := by
            rcases Nat.lt_or_ge i (nloops a) with h' | h'
            · exact h'
            · exact absurd hi (by rw [evCode_ok.nthLoop_none a i h']; simp)
          rw [if_pos this]; exact hi) hk) hK hs hQ)
    · simp [Tree.sel] at h
  | block id b ih =>
    intro n s x h hl F w bs a' hK hs Q hQ
    simp only [evCodeP] at h
    obtain ⟨y, h1, h2⟩ := sel_bind h
    refine wp_block (ih n s h1 (fun i bb hh hi hk => hl i bb hh hi hk) hK hs fun F' w' bs' a'' e he hs' hx => ?_)
    obtain ⟨xp, s'⟩ := y
    cases xp with
    | normal =>
      cases hx
      simp only [Tree.sel, Option.some.injEq] at h2
      subst h2
      exact hQ _ _ _ _ _ he hs' rfl
    | exit k =>
      cases hx
      simp only [Tree.sel, Option.some.injEq] at h2
      subst h2
      simp only [Exit.inBlock]
      by_cases hk : k = id
      · simp only [hk, if_true] at hQ ⊢
        exact hQ _ _ _ _ _ he hs' rfl
      · simp only [hk, if_false] at hQ ⊢
        exact hQ _ _ _ _ _ he hs' rfl
    | ret =>
      cases hx
      simp only [Tree.sel, Option.some.injEq] at h2
      subst h2
      exact hQ _ _ _ _ _ he hs' rfl
    | pan z =>
      obtain ⟨v, rfl, hv⟩ := hx
      simp only [Tree.sel, Option.some.injEq] at h2
      subst h2
      exact hQ _ _ _ _ _ he hs' ⟨v, rfl, hv⟩
  | loop b _ =>
    intro n s x h hl F w bs a' hK hs Q hQ
    simp only [evCodeP] at h
    split at h
    · rename_i hh hk
      split at h
      · rename_i hdl
        obtain ⟨⟨y, s'⟩, h1, h2⟩ := sel_bind h
        simp only [Tree.sel, Option.some.injEq] at h2
        subst h2
        have hd0 : a'.defers = [] := by
          have := hs.ds
          rw [List.isEmpty_iff.1 hdl] at this
          cases hD : a'.defers with
          | nil => rfl
          | cons d r => rw [hD] at this; cases this
        exact (wpIn_wide (n := 0)).1 (hl 0 b hh rfl (by simpa using hk) K s.s (y, s') h1 none 0 _ F w bs a' hK hs.st Q fun F' w' bs' a'' he hs' => hQ F' w' bs' a'' _ he (hs'.toP (by rw [hd0]; exact .nil)) (toP_rel _))
      · simp [Tree.sel] at h
    · simp [Tree.sel] at h
  | exit id =>
    intro n s x h _ F w bs a hK hs Q hQ
    simp only [evCodeP, Tree.sel, Option.some.injEq] at h
    subst h
    exact wp_exit (hQ F w bs a _ Ext.refl hs rfl)
  | ret =>
    intro n s x h _ F w bs a hK hs Q hQ
    simp only [evCodeP, Tree.sel, Option.some.injEq] at h
    subst h
    exact wp_ret (hQ F w bs a _ Ext.refl hs rfl)
  | rangeFunc _ _ _ _ _ _ => intro n s x h; simp [evCodeP, Tree.sel] at h
  | scope _ _ => intro n s x h; simp [evCodeP, Tree.sel] at h
  | label _ => intro n s x h; simp [evCodeP, Tree.sel] at h
  | goto _ => intro n s x h; simp [evCodeP, Tree.sel] at h
  | refuse _ => intro n s x h; simp [evCodeP, Tree.sel] at h

end Go.Sx
/-
  The evaluator with panics, deferred calls and recover (part Pe): functions.
-/
namespace Go.Sx
open Go Go.RowKit

variable {P : Program}

/-- the value that recover finds, and how the caller's frame goes on -/
def recV : FrameMode → Value × FrameMode
  | .panicking ({ v, recovered := false, goexit := false } :: older) => (v, .panicking ({ v, recovered := true } :: older))
  | m => (.nilIface, m)

theorem recoverD_eq (c : Frame) (cs : List Frame) : (match recoverD (c :: cs) with | some p => p | none => (.nilIface, c :: cs)) = ((recV c.mode).1, { c with mode := (recV c.mode).2 } :: cs) := by
  obtain ⟨fn, kind, mode, d⟩ := c
  unfold recoverD recV
  simp only
  split
  · rename_i p h
    split at h
    · rename_i e; simp at h; subst h; rfl
    · cases h
  · rename_i h
    split at h
    · cases h
    · rename_i hne
      split
      · rename_i e
        exact (hne _ _ rfl).elim
      · rfl

theorem wpS_rec {id : Nat} {ops : Array Oper} {o : Oper} {r : List Oper} {c : Go.Call} (ho : ops.toList = o :: r) (hg : o.guard = none) (hop : o.op = .call c) (hcal : c.callee = .builtin .recover) {Q : Exit → Act → List Frame → World → Prop} {a : Act} {c0 : Frame} {cs : List Frame} {w : World}
    (h : wpList P ops (fun e a' w' => Q e a' ({ c0 with mode := (recV c0.mode).2 } :: cs) w') r (a.put o.dst (recV c0.mode).1) w) : (Code.region id ops false).wpS P Q a (c0 :: cs) w := by
  intro b k hb hro
  have hsz : ops.size = r.length + 1 := by rw [← Array.length_toList, ho]; rfl
  have h0 : ops[0]? = some o := by rw [← Array.getElem?_toList, ho]; rfl
  have hlist : List.range ops.size = 0 :: List.range' 1 r.length := by
    rw [hsz, List.range_eq_range', List.range'_succ]
  have hs0 : step P (lone (b.at a (.code (.region id ops false) :: k)) (c0 :: cs) w) = .next (lone (b.at a (.inRegion ops (0 :: List.range' 1 r.length) :: k)) (c0 :: cs) w) := by
    rw [← hlist]; exact step_region
  have hw : Region.wanted o (yielded ops a.tmps) = true := by simp [Region.wanted, hg]
  have hrun : (execOp a.eval o).run P w = .ok .recover w := by
    unfold execOp
    rw [hop]
    simp only [resolve, hcal, Sem.run_bind, Sem.run_pure, Result.andThen_ok, invoke, builtin]
  have hgg := stepG_op (P := P) (b := b) (k := k) (cs := c0 :: cs) (w := w) (rest := List.range' 1 r.length) h0 hw
  have hfin : ∀ v, (b.at a (.inRegion ops (0 :: List.range' 1 r.length) :: k)).finish v = b.at (a.put o.dst v) (.inRegion ops (List.range' 1 r.length) :: k) := by
    intro v; rw [Frame.finish_at, h0]; rfl
  have hk : (b.at a (.inRegion ops (0 :: List.range' 1 r.length) :: k)).kind = .deferred := hb
  have htr := tryRecover_deferred hk (c0 :: cs)
  have hre := recoverD_eq c0 cs
  have hs1 : step P (lone (b.at a (.inRegion ops (0 :: List.range' 1 r.length) :: k)) (c0 :: cs) w) = .next (lone (b.at (a.put o.dst (recV c0.mode).1) (.inRegion ops (List.range' 1 r.length) :: k)) ({ c0 with mode := (recV c0.mode).2 } :: cs) w) := by
    refine step_lone_go ?_
    rw [hgg, ← hfin]
    simp only [Frame.at] at htr ⊢
    cases hrec : recoverD (c0 :: cs) with
    | some p =>
      rw [hrec] at hre
      simp only at hre
      subst hre
      simp [stepG.apply, hrun, htr, hrec]
    | none =>
      rw [hrec] at hre
      simp only at hre
      rw [Prod.mk.injEq] at hre
      rw [← hre.1, ← hre.2]
      simp [stepG.apply, hrun, htr, hrec]
  have hwp : wpOps P ops (fun e a' w' => Q e a' ({ c0 with mode := (recV c0.mode).2 } :: cs) w') (List.range' 1 r.length) (a.put o.dst (recV c0.mode).1) w := by
    rw [wpOps_eq_wpList r 1 (fun j => by rw [← Array.getElem?_toList, ho, Nat.add_comm]; rfl)]
    exact h
  obtain ⟨e, a', w', q, harr⟩ := wp_ops _ _ _ hwp b k ({ c0 with mode := (recV c0.mode).2 } :: cs)
  exact ⟨e, a', _, w', q, .of_steps (.head hs0 (.one hs1)) harr⟩

/-- the way in which a caller leaves -/
def UMode (F : Nat → Prop) (w : World) (bs : List BI) : Option CV → FrameMode → Prop
  | none, u => u = .returning
  | some y, u => ∃ v, u = .panicking [{ v, recovered := false }] ∧ y.Rel F w bs v

theorem UMode.rec {F w bs pan u} (h : UMode F w bs pan u) : settle (recV u).2 = .returning ∧ (recC pan).Rel F w bs (recV u).1 ∧ u ≠ .run := by
  cases pan with
  | none => cases h; exact ⟨rfl, .nili, by simp⟩
  | some y => obtain ⟨v, rfl, hv⟩ := h; exact ⟨rfl, hv, by simp⟩

theorem evDef_ok {H : Hd} (hH : HdOk P H) {X : HdP} (hrx : RxOk P X.rx) (hnc : NcsOk P X.nc) {call : CallH} (hcall : CallOk P call) {callP : CallP} (hcallP : CallPOk P callP) {g : Nat} {cap : List CV} {pan : Option CV} {mem : Mem} {res : Option CV} {mem2 : Mem}
    (h : (evDef P H X call callP g cap pan mem).sel = some (res, mem2)) {F : Nat → Prop} {w : World} {bs : List BI} (hm : MemRel P F w bs mem) {vs : List Value} (hcap : All2 (CV.Rel F w bs) cap vs) {u : FrameMode} (hu : UMode F w bs pan u) :
    callable P g = true ∧ CallsD P g vs.toArray u w (fun e u' w' => ∃ v, e = .returned v ∧ settle u' = .returning ∧ res = none ∧ ∃ F' bs', Ext bs.length F w bs F' w' bs' ∧ MemRel P F' w' bs' mem2) := by
  obtain ⟨hset, hrv, hrun⟩ := hu.rec
  unfold evDef at h
  split at h
  rotate_left
  · simp [Tree.sel] at h
  rename_i fn hfn
  split at h
  rotate_left
  · simp [Tree.sel] at h
  rename_i c hb
  split at h
  rotate_left
  · simp [Tree.sel] at h
  rename_i o' r x hrh
  split at h
  rotate_left
  · simp [Tree.sel] at h
  rename_i hle
  rw [Bool.and_eq_true] at hle
  obtain ⟨hle, hcb⟩ := hle
  refine ⟨hcb, ?_⟩
  rw [nth_eq, Array.getElem?_toList] at hfn
  obtain ⟨y, h1, h2⟩ := sel_bind h
  refine callsD_of_wpS hfn hb fun c0 cs hc0 => ?_
  -- the shape of the closure's code
  unfold recHead at hrh
  split at hrh
  rotate_left
  · simp at hrh
  rename_i id ops x0
  split at hrh
  rotate_left
  · simp at hrh
  rename_i o r0 hops
  split at hrh
  rotate_left
  · simp at hrh
  rename_i c1 hg hop
  split at hrh
  rotate_left
  · simp at hrh
  rename_i hcal
  simp only [Option.some.injEq, Prod.mk.injEq] at hrh
  obtain ⟨rfl, rfl, rfl⟩ := hrh
  have hargs : All2 (A1.Rel F w bs) (cap.map .c) vs := hcap.map_left fun _ _ h => h
  have hst := init_ok (nt := fn.ntmps) hm hargs (by simpa using hle)
  simp only [List.length_map, List.map_map] at hst
  subst hc0
  have hst1 := StRel.put (dst := o.dst) (ks := []) (v := .one (.c (recC pan))) (x := (recV c0.mode).1) hst (fun _ hp => by cases hp) (fun _ => hrv) (fun h => (h KH_nil).elim)
  refine wpS_seq (wpS_rec hops hg hop hcal ?_)
  rw [← hops] at h1
  refine evOpsP_ok hH.pc hrx hcall hcallP (x := y.1) (s' := y.2) _ _ h1 (hst1.toP .nil) fun F1 w1 bs1 a1 e1 he1 hs1 hx1 => ?_
  obtain ⟨xp, s1⟩ := y
  cases xp with
  | normal =>
    cases hx1
    simp only at h2
    obtain ⟨z, h3, h4⟩ := sel_bind h2
    refine wpS_of_wp (evCodeP_ok hH.pc hrx hnc hcall hcallP g mem.length _ 0 _ h3 (fun i b hh hi hk => hH.lh g fn _ i b hh hfn hb (by simpa [nthLoop, nloops] using hi) (by simpa using hk)) (by have := he1.le; have := hm.len; omega) hs1.unkey fun F2 w2 bs2 a2 e2 he2 hs2 hx2 => ?_)
    obtain ⟨zx, zs, zd⟩ := z
    have fin : zd = [] → (evResults P zs fn.results.toList).isSome = true → res = none → mem2 = zs.mem → a2.defers = [] ∧ ∃ u', ({ c0 with mode := (recV c0.mode).2 } :: cs : List Frame) = { c0 with mode := u' } :: cs ∧ ∃ v, (results fn a2.tmps).run P w2 = .ok v w2 ∧
        ∃ v', Ending.returned v = Ending.returned v' ∧ settle u' = .returning ∧ res = none ∧ ∃ F' bs', Ext bs.length F w bs F' w2 bs' ∧ MemRel P F' w2 bs' mem2 := by
      intro hz hr hres hmm
      subst hz
      have hd0 : a2.defers = [] := by
        have := hs2.ds
        cases hD : a2.defers with
        | nil => rfl
        | cons d r => rw [hD] at this; cases this
      obtain ⟨l, hl⟩ := Option.isSome_iff_exists.1 hr
      obtain ⟨v, _, hrun⟩ := run_results hs2.st hl
      refine ⟨hd0, _, rfl, v, hrun, v, rfl, hset, hres, F2, bs2, ?_, hmm ▸ hs2.st.mem⟩
      have e3 := he1.trans he2 (Nat.le_of_eq hm.len)
      exact e3
    cases zx with
    | normal =>
      cases hx2
      simp only at h4
      split at h4
      · rename_i hz; cases hz
        split at h4
        · rename_i hr
          simp only [Tree.sel, Option.some.injEq, Prod.mk.injEq] at h4
          exact fin rfl hr h4.1.symm h4.2.symm
        · simp [Tree.sel] at h4
      · rename_i hz; cases hz
      · simp [Tree.sel] at h4
    | ret =>
      cases hx2
      simp only at h4
      split at h4
      · rename_i hz; cases hz
      · rename_i hz; cases hz
        split at h4
        · rename_i hr
          simp only [Tree.sel, Option.some.injEq, Prod.mk.injEq] at h4
          exact fin rfl hr h4.1.symm h4.2.symm
        · simp [Tree.sel] at h4
      · simp [Tree.sel] at h4
    | exit k => simp [Tree.sel] at h4
    | pan q => simp [Tree.sel] at h4
  | exit k => simp [Tree.sel] at h2
  | ret => simp [Tree.sel] at h2
  | pan q => simp [Tree.sel] at h2

theorem invoke_func {g : Nat} {vs : List Value} (hc : callable P g = true) (w : World) : (invoke (.fn (.func g) vs.toArray) #[]).run P w = .ok (.enter g vs.toArray) w := by
  unfold callable at hc
  split at hc
  · rename_i fn hfn
    simp only [Bool.and_eq_true, bne_iff_ne, ne_eq] at hc
    obtain ⟨⟨hn, hb⟩, _⟩ := hc
    rw [nth_eq] at hfn
    simp only [Array.getElem?_toList] at hfn
    have hb' : fn.body.isNone = false := by cases hh : fn.body <;> simp [hh] at hb ⊢
    have hn' : (fn.name == "runtime.NumGoroutine") = false := by simpa using hn
    simp only [invoke, callFunc, Sem.run_bind, run_program, Result.andThen_ok, hfn, hn', Bool.false_eq_true, if_false, hb', Sem.run_pure]
    congr 2
    apply Array.ext'
    simp
  · simp at hc

theorem leaveP_ok {H : Hd} (hH : HdOk P H) {X : HdP} (hrx : RxOk P X.rx) (hnc : NcsOk P X.nc) {call : CallH} (hcall : CallOk P call) {callP : CallP} (hcallP : CallPOk P callP) {fn : Func} {s : St} : ∀ (dl : List CV) (pan : Option CV) (mem : Mem) {out : Out} {mem2 : Mem} {D : List Deferred} {D0 : List Deferred} {F : Nat → Prop} {w : World} {bs : List BI} {a : Act} {u : FrameMode},
    (leaveP P H X call callP fn s dl pan mem).sel = some (out, mem2) → StRel P D0 F w bs { s with mem := mem } a → DsRel F w bs dl D → UMode F w bs pan u →
    Leaves P fn a.tmps (fun e w' => ∃ F' bs', Ext bs.length F w bs F' w' bs' ∧ MemRel P F' w' bs' mem2 ∧ out.Ends F' w' bs' e) D u w
  | [], none, mem, out, mem2, D, D0, F, w, bs, a, u, h, hs, hd, hu => by
    cases hd
    cases hu
    simp only [leaveP] at h
    split at h
    · rename_i l hl
      simp only [Tree.sel, Option.some.injEq, Prod.mk.injEq] at h
      obtain ⟨rfl, rfl⟩ := h
      obtain ⟨v, hv, hrun⟩ := run_results hs hl
      exact ⟨v, hrun, F, bs, Ext.refl, hs.mem, v, rfl, hv⟩
    · simp [Tree.sel] at h
  | [], some y, mem, out, mem2, D, D0, F, w, bs, a, u, h, hs, hd, hu => by
    cases hd
    obtain ⟨v, rfl, hv⟩ := hu
    simp only [leaveP, Tree.sel, Option.some.injEq, Prod.mk.injEq] at h
    obtain ⟨rfl, rfl⟩ := h
    exact ⟨F, bs, Ext.refl, hs.mem, v, rfl, hv⟩
  | d :: dl, pan, mem, out, mem2, D, D0, F, w, bs, a, u, h, hs, hd, hu => by
    cases hd with
    | cons hd1 hdr =>
      rename_i d0 D1
      obtain ⟨g, cap, vs, rfl, rfl, hcap⟩ := hd1
      simp only [leaveP] at h
      obtain ⟨⟨res, m1⟩, h1, h2⟩ := sel_bind h
      obtain ⟨hcb, hcd⟩ := evDef_ok hH hrx hnc hcall hcallP h1 hs.mem hcap hu
      refine leaves_cons hu.rec.2.2 (invoke_func hcb w) (hcd.mono fun e u' w' ⟨v, he, hset, hres, F', bs', hext, hm'⟩ => ?_)
      subst he
      subst hres
      simp only
      rw [hset]
      have hs' : StRel P D0 F' w' bs' { s with mem := m1 } a := hs.ext hext hm'
      have := leaveP_ok hH hrx hnc hcall hcallP dl none m1 h2 hs' (DsRel.grow hext.grow hdr) rfl
      refine leaves_mono (fun e w2 ⟨F2, bs2, he2, hm2, hr2⟩ => ⟨F2, bs2, hext.trans he2 hext.le, hm2, hr2⟩) _ _ _ this
 where
  leaves_mono {fn : Func} {tmps : Array Value} {R R' : Ending → World → Prop} (hr : ∀ e w, R e w → R' e w) : ∀ (D : List Deferred) (u : FrameMode) (w : World), Leaves P fn tmps R D u w → Leaves P fn tmps R' D u w
    | [], .returning, _, h => let ⟨v, h1, h2⟩ := h; ⟨v, h1, hr _ _ h2⟩
    | [], .panicking _, _, h => hr _ _ h
    | [], .run, _, h => h
    | d :: ds, u, w, h => by
      obtain ⟨h1, fv, cap, f, args, h2, h3, h4⟩ := h
      refine ⟨h1, fv, cap, f, args, h2, h3, h4.mono fun e u' w' he => ?_⟩
      cases e with
      | returned v => exact leaves_mono hr ds _ _ he
      | panicked c => exact leaves_mono hr ds _ _ he
      | outgrown => exact hr _ _ he

/-- what is known of the summaries of functions that may panic -/
def PxOk (P : Program) (px : List (Nat × (List A1 → Mem → Tree (Out × Mem)))) : Prop :=
  ∀ f G, lookPx px f = some G → ∀ args mem r mem', (G args mem).sel = some (r, mem') → ∀ F w bs vs, MemRel P F w bs mem → All2 (A1.Rel F w bs) args vs →
    Calls P f vs.toArray w (fun e w' => ∃ F' bs', Ext bs.length F w bs F' w' bs' ∧ MemRel P F' w' bs' mem' ∧ r.Ends F' w' bs' e)

structure XOk (P : Program) (X : HdP) : Prop where
  px : PxOk P X.px
  rx : RxOk P X.rx
  nc : NcsOk P X.nc

/-- **What the evaluator with panics says of a function is so.** -/
theorem evFnP_ok {H : Hd} (hH : HdOk P H) {X : HdP} (hX : XOk P X) : ∀ n, CallPOk P (evFnP P H X n)
  | 0 => by intro f args mem r mem' h; simp [evFnP, Tree.sel] at h
  | n + 1 => by
    intro f args mem r mem' h F w bs vs hm hargs
    simp only [evFnP] at h
    split at h
    · rename_i G hG
      exact hX.px f G hG args mem r mem' h F w bs vs hm hargs
    · split at h
      rotate_left
      · simp [Tree.sel] at h
      rename_i fn hfn
      split at h
      rotate_left
      · simp [Tree.sel] at h
      rename_i c hb
      split at h
      rotate_left
      · simp [Tree.sel] at h
      rename_i hle
      obtain ⟨⟨x, s1⟩, h1, h2⟩ := sel_bind h
      rw [nth_eq, Array.getElem?_toList] at hfn
      have hst := init_ok (nt := fn.ntmps) hm hargs (by simpa using hle)
      refine calls_of_wp_defers hfn hb (evCodeP_ok hH.pc hX.rx hX.nc (evFn_ok hH n) (evFnP_ok hH hX n) f mem.length c 0 _ h1 (fun i b hh hi hk => hH.lh f fn c i b hh hfn hb hi (by simpa using hk)) (Nat.le_of_eq hm.len.symm) (hst.toP .nil) fun F' w' bs' a' e he hs' hx => ?_)
      have hext : Ext bs.length F w bs F' w' bs' := he.weak (Nat.le_of_eq hm.len)
      have key : ∀ (pan : Option CV) (u : FrameMode), (leaveP P H X (evFn P H n) (evFnP P H X n) fn s1.s s1.dl pan s1.s.mem).sel = some (r, mem') → UMode F' w' bs' pan u → Leaves P fn a'.tmps (fun e w' => ∃ F' bs', Ext bs.length F w bs F' w' bs' ∧ MemRel P F' w' bs' mem' ∧ r.Ends F' w' bs' e) a'.defers u w' := by
        intro pan u hl hu
        have := leaveP_ok hH hX.rx hX.nc (evFn_ok hH n) (evFnP_ok hH hX n) s1.dl pan s1.s.mem hl hs'.st hs'.ds hu
        exact leaveP_ok.leaves_mono (fun e w2 ⟨F2, bs2, he2, hm2, hr2⟩ => ⟨F2, bs2, hext.trans he2 hext.le, hm2, hr2⟩) _ _ _ this
      cases x with
      | normal => cases hx; exact key none .returning h2 rfl
      | ret => cases hx; exact key none .returning h2 rfl
      | pan y => obtain ⟨v, rfl, hv⟩ := hx; exact key (some y) _ h2 ⟨v, rfl, hv⟩
      | exit k => simp [Tree.sel] at h2

end Go.Sx
/-
  The evaluator with panics (part Pg): summaries out of it.
-/
namespace Go.Sx
open Go Go.RowKit

variable {P : Program}

theorem XOk.nil : XOk P ⟨[], [], []⟩ := ⟨fun f G h => by simp [lookPx] at h, fun f G h => by simp [lookRx] at h, fun f G h => by simp [lookNc] at h⟩

theorem XOk.ncCons {px rx nc} {f : Nat} {G : List A1 → Tree (AV × Mem)} (h : XOk P ⟨px, rx, nc⟩) (h1 : NcOne P f G) : XOk P ⟨px, rx, (f, G) :: nc⟩ := by
  refine ⟨h.px, h.rx, fun g G' hl => ?_⟩
  simp only [lookNc] at hl
  split at hl
  · rename_i e
    simp at hl; subst hl
    rw [← eq_of_beq e]; exact h1
  · exact h.nc g G' hl

theorem XOk.rxCons {px rx nc} {f : Nat} {G : List A1 → List A1 → Tree Out} (h : XOk P ⟨px, rx, nc⟩) (h1 : RxOne P f G) : XOk P ⟨px, (f, G) :: rx, nc⟩ := by
  refine ⟨h.px, fun g G' hl => ?_, h.nc⟩
  simp only [lookRx] at hl
  split at hl
  · rename_i e
    simp at hl; subst hl
    rw [← eq_of_beq e]; exact h1
  · exact h.rx g G' hl

/-- one summary of a function that may panic -/
def PxOne (P : Program) (f : Nat) (G : List A1 → Mem → Tree (Out × Mem)) : Prop :=
  ∀ args mem r mem', (G args mem).sel = some (r, mem') → ∀ F w bs vs, MemRel P F w bs mem → All2 (A1.Rel F w bs) args vs →
    Calls P f vs.toArray w (fun e w' => ∃ F' bs', Ext bs.length F w bs F' w' bs' ∧ MemRel P F' w' bs' mem' ∧ r.Ends F' w' bs' e)

theorem XOk.pxCons {px rx nc} {f : Nat} {G : List A1 → Mem → Tree (Out × Mem)} (h : XOk P ⟨px, rx, nc⟩) (h1 : PxOne P f G) : XOk P ⟨(f, G) :: px, rx, nc⟩ := by
  refine ⟨fun g G' hl => ?_, h.rx, h.nc⟩
  simp only [lookPx] at hl
  split at hl
  · rename_i e
    simp at hl; subst hl
    rw [← eq_of_beq e]; exact h1
  · exact h.px g G' hl

/-- the key that says that a function may panic -/
theorem HdOk.pF {pc hc lh mc} (h : HdOk P ⟨pc, hc, lh, mc⟩) (f : Nat) : HdOk P ⟨Sx.pF f :: pc, hc, lh, mc⟩ := h.tcCons (fun _ _ h => by simp [Tree.sel] at h)

/-! ### functions that recover, and return -/

def hcTreeP (P : Program) (H : Hd) (X : HdP) (n f : Nat) (args : List A1) : Tree AV := (evFnP P H X n f args []).bind fun y => match y.1 with
  | .ret a => Tree.ofOpt (outA y.2 a)
  | .pan _ => .fail

theorem ucOneP_of_all {H : Hd} (hH : HdOk P H) {X : HdP} (hX : XOk P X) (n f : Nat) {G : List A1 → Option (Bool × AV)}
    (h : ∀ args r, G args = some (true, r) → (hcTreeP P H X n f args).All (fun x => leA x r)) : UcOne P f (nG G) := by
  intro args r hG hcl F w vs hargs
  have hG := nG_sel hG
  obtain ⟨x, hsel, hle⟩ := all_sel (h args r hG)
  obtain ⟨⟨r', m⟩, h1, h2⟩ := sel_bind hsel
  cases r' with
  | pan _ => simp [Tree.sel] at h2
  | ret a =>
    have ho : outA m a = some x := by
      cases hx : outA m a with
      | none => simp only at h2; rw [hx] at h2; simp [Tree.ofOpt, Tree.sel] at h2
      | some y => simp only at h2; rw [hx] at h2; simpa [Tree.ofOpt, Tree.sel] using h2
    have hargs1 : All2 (A1.Rel (fun p => F p ∧ p < w.heap.size) w []) args vs := hargs.imp fun _ _ hx => A1.Rel.grow (bs := []) (bs' := []) ⟨Nat.le_refl _, fun _ _ h => h.1, fun _ _ _ => rfl, fun _ _ h => h⟩ hx
    refine (evFnP_ok hH hX n f args [] _ m h1 _ w [] vs MemRel.nil hargs1).mono fun e w2 ⟨F', bs', hext, hm, u, he, hu⟩ => ?_
    refine ⟨u, he, hext.below, hle _ _ _ (AV.Rel.grow (bs := []) (bs' := []) ⟨Nat.le_refl _, fun p _ hp => ?_, fun _ _ _ => rfl, fun _ _ h => h⟩ (outA_ok hm hu ho))⟩
    refine ⟨hext.F2 p hp hp.2 (by simp), fun y hy e => ?_⟩
    rcases hext.mem y hy with ⟨z, hz, _⟩ | hs
    · cases hz
    · have := hp.2; omega

theorem ucOneP_of_tree {H : Hd} (hH : HdOk P H) {X : HdP} (hX : XOk P X) (n f : Nat) {G : List A1 → Option (Bool × AV)}
    (h : ∀ args r, G args = some (true, r) → ∃ u, hcTreeP P H X n f args = u ∧ u.All (fun z => leA z r)) : UcOne P f (nG G) :=
  ucOneP_of_all hH hX n f fun args r hG => by
    obtain ⟨u, h2, h3⟩ := h args r hG
    exact h2 ▸ h3

/-! ### functions that lay memory of their own, or panic -/

def shO (k : Nat) : Out → Out
  | .ret a => .ret (shA k a)
  | .pan c => .pan (shC k c)

theorem shO_ok {F : Nat → Prop} {w : World} {bs bs' : List BI} {x : Out} {e : Ending} (h : x.Ends F w bs' e) : (shO bs.length x).Ends F w (bs ++ bs') e := by
  cases x with
  | ret a => obtain ⟨v, he, h⟩ := h; exact ⟨v, he, shA_ok h⟩
  | pan c => obtain ⟨v, he, h⟩ := h; exact ⟨v, he, shC_ok h⟩

theorem Out.Ends.grow {F F' bs bs' w w'} {x : Out} {e : Ending} (g : Grow F F' bs bs' w w') (h : x.Ends F w bs e) : x.Ends F' w' bs' e := by
  cases x with
  | ret a => obtain ⟨v, he, h⟩ := h; exact ⟨v, he, AV.Rel.grow g h⟩
  | pan c => obtain ⟨v, he, h⟩ := h; exact ⟨v, he, CV.Rel.grow g h⟩

def NcPOne (P : Program) (f : Nat) (G : List A1 → Tree (Out × Mem)) : Prop :=
  ∀ args r m, (G args).sel = some (r, m) → args.all closedA = true → ∀ F w vs, All2 (A1.Rel F w []) args vs →
    Calls P f vs.toArray w (fun e w2 => ∃ F' bs', Ext 0 F w [] F' w2 bs' ∧ MemRel P F' w2 bs' m ∧ r.Ends F' w2 bs' e)

def ncPG (G : List A1 → Tree (Out × Mem)) (args : List A1) (mem : Mem) : Tree (Out × Mem) :=
  let y := frz1s mem args
  if y.2.all closedA then (G y.2).bind fun z => .leaf (shO y.1.length z.1, y.1 ++ z.2.map (shE y.1.length)) else .fail

theorem NcPOne.px {f : Nat} {G : List A1 → Tree (Out × Mem)} (h : NcPOne P f G) : PxOne P f (ncPG G) := by
  intro args mem r mem' hs F w bs vs hm hargs
  unfold ncPG at hs
  simp only at hs
  split at hs
  · rename_i hcl
    obtain ⟨⟨r0, m0⟩, h1, h2⟩ := sel_bind hs
    simp only [Tree.sel, Option.some.injEq, Prod.mk.injEq] at h2
    obtain ⟨rfl, rfl⟩ := h2
    obtain ⟨F1, e1, m1, r1⟩ := frz1s_ok hm hargs
    have hvs' : All2 (A1.Rel F1 w []) (frz1s mem args).2 vs := by
      clear h1 hargs
      generalize (frz1s mem args).2 = l at r1 hcl
      induction r1 with
      | nil => exact .nil
      | cons ha _ ih =>
        simp only [List.all_cons, Bool.and_eq_true] at hcl
        exact .cons (ha.closed hcl.1) (ih hcl.2)
    refine (h _ _ _ h1 hcl F1 w vs hvs').mono fun e w2 ⟨F', bs', hx, hmm, hr⟩ => ?_
    have hlen : bs.length = (frz1s mem args).1.length := m1.len
    rw [← hlen]
    refine ⟨fun p => (p < w.heap.size ∧ F1 p) ∨ (w.heap.size ≤ p ∧ F' p), bs ++ bs', ?_, ?_, ?_⟩
    · have e2 : Ext bs.length F1 w bs (fun p => (p < w.heap.size ∧ F1 p) ∨ (w.heap.size ≤ p ∧ F' p)) w2 (bs ++ bs') :=
        ⟨hx.size, fun p hp h => h.elim (fun h => h.2) (fun h => by omega), fun p h hp _ => .inl ⟨hp, h⟩, fun p hp _ => hx.same p hp (.inr fun x hx => by cases hx), hx.os, hx.tape, hx.output, fun k x _ h => nth_append h, fun x hx' => by
          rcases List.mem_append.1 hx' with h | h
          · exact .inl ⟨x, h, rfl⟩
          · rcases hx.mem x h with ⟨y, hy, _⟩ | h
            · cases hy
            · exact .inr h⟩
      exact e1.trans e2 (Nat.le_refl _)
    · have hge : ∀ x ∈ bs', w.heap.size ≤ x.p := fun x h => by
        rcases hx.mem x h with ⟨y, hy, _⟩ | h
        · cases hy
        · exact h
      have hmA : MemRel P (fun p => (p < w.heap.size ∧ F1 p) ∨ (w.heap.size ≤ p ∧ F' p)) w2 bs (frz1s mem args).1 := by
        refine m1.move (F' := fun p => (p < w.heap.size ∧ F1 p) ∨ (w.heap.size ≤ p ∧ F' p)) ⟨hx.size, fun p hp h => h.elim (fun h => h.2) (fun h => by omega), fun p h hp _ => .inl ⟨hp, h⟩, fun p hp _ => hx.same p hp (.inr fun x hx => by cases hx), hx.os, hx.tape, hx.output, fun _ _ _ h => h, fun x h => .inl ⟨x, h, rfl⟩⟩ fun k x T cs hk hc hv => ?_
        have hl := m1.loc k x T cs hk hc hv
        exact ⟨.inl ⟨hl.2, hl.1⟩, hx.same _ hl.2 (.inr fun x hx => by cases hx)⟩
      have hmB : MemRel P (fun p => (p < w.heap.size ∧ F1 p) ∨ (w.heap.size ≤ p ∧ F' p)) w2 bs' m0 :=
        hmm.less (fun p h => h.elim (fun h => hx.F2 p h.2 h.1 (fun x hx => by cases hx)) (fun h => h.2)) fun x h hf => .inr ⟨hge x h, hf⟩
      refine hmA.join hmB fun k x T cs hk hc hv y hy e => ?_
      have hy' := hge y hy
      have := (m1.loc k x T cs hk hc hv).2
      omega
    · exact shO_ok (hr.grow ⟨Nat.le_refl _, fun p _ h => h.elim (fun h => hx.F2 p h.2 h.1 (fun x hx => by cases hx)) (fun h => h.2), fun _ _ _ => rfl, fun _ _ h => h⟩)
  · simp [Tree.sel] at hs

/-- what holds behind the one holds behind the other -/
def WkO (x y : Out × Mem) : Prop := ∀ (P : Program) F w bs e, MemRel P F w bs x.2 → x.1.Ends F w bs e → ∃ F' bs', Ext 0 F w bs F' w bs' ∧ MemRel P F' w bs' y.2 ∧ y.1.Ends F' w bs' e

theorem WkO.refl {x : Out × Mem} : WkO x x := fun _ F _ bs _ hm he => ⟨F, bs, Ext.refl, hm, he⟩

theorem ncPOne_of_all {H : Hd} (hH : HdOk P H) {X : HdP} (hX : XOk P X) (n f : Nat) {G : List A1 → Tree (Out × Mem)}
    (h : ∀ args r m, (G args).sel = some (r, m) → (evFnP P H X n f args []).All (fun y => WkO y (r, m))) : NcPOne P f G := by
  intro args r m hG _ F w vs hargs
  obtain ⟨y, hsel, hw⟩ := all_sel (h args r m hG)
  refine (evFnP_ok hH hX n f args [] y.1 y.2 hsel F w [] vs MemRel.nil hargs).mono fun e w2 ⟨F', bs', hext, hm', he⟩ => ?_
  obtain ⟨F2, bs2, e2, m2, r2⟩ := hw P F' w2 bs' e hm' he
  exact ⟨F2, bs2, hext.trans e2 (Nat.le_refl _), m2, r2⟩

theorem ncPOne_of_tree {H : Hd} (hH : HdOk P H) {X : HdP} (hX : XOk P X) (n f : Nat) {G : List A1 → Tree (Out × Mem)}
    (h : ∀ args r m, (G args).sel = some (r, m) → ∃ u, evFnP P H X n f args [] = u ∧ u.All (fun y => WkO y (r, m))) : NcPOne P f G :=
  ncPOne_of_all hH hX n f fun args r m hG => by
    obtain ⟨u, h2, h3⟩ := h args r m hG
    exact h2 ▸ h3

/-- a function that lays memory of its own, and returns, told by the evaluator with panics -/
theorem ncOne_of_treeP {H : Hd} (hH : HdOk P H) {X : HdP} (hX : XOk P X) (n f : Nat) {G : List A1 → Tree (AV × Mem)}
    (h : ∀ args r m, (G args).sel = some (r, m) → ∃ u, evFnP P H X n f args [] = u ∧ u.All (fun y => WkO y (.ret r, m))) : NcOne P f G := by
  intro args r m hG hcl F w vs hargs
  obtain ⟨u, hu, ha⟩ := h args r m hG
  rw [← hu] at ha
  obtain ⟨y, hsel, hw⟩ := all_sel ha
  refine (evFnP_ok hH hX n f args [] y.1 y.2 hsel F w [] vs MemRel.nil hargs).mono fun e w2 ⟨F', bs', hext, hm', he⟩ => ?_
  obtain ⟨F2, bs2, e2, m2, v, hv, r2⟩ := hw P F' w2 bs' e hm' he
  exact ⟨v, F2, bs2, hv, hext.trans e2 (Nat.le_refl _), m2, r2⟩

/-- a row that reads the same, alone in the memory -/
theorem MemRel.row1 {F w bs T es n} {ρ σ : Val} (h : MemRel P F w bs [some (T, [.row false es n ρ])]) (he : ∀ i f s, i < n → nth es f = some s → cellOf s ((ρ.at i).at f) = cellOf s ((σ.at i).at f)) : MemRel P F w bs [some (T, [.row false es n σ])] := by
  have key : ∀ k T' cs, nth [some (T, [CV.row false es n σ])] k = some (some (T', cs)) → k = 0 ∧ T' = T ∧ cs = [.row false es n σ] := by
    intro k T' cs hk
    match k, hk with
    | 0, hk => simp [nth] at hk; exact ⟨rfl, hk.1.symm, hk.2.symm⟩
    | k + 1, hk => simp [nth] at hk
  have old : nth [some (T, [CV.row false es n ρ])] 0 = some (some (T, [CV.row false es n ρ])) := rfl
  refine ⟨h.len, fun k x T' cs hk hc hv => ?_, fun k k' x x' T1 cs1 T2 cs2 _ _ h3 h4 _ _ _ => ?_, fun k T' cs x hc hr _ => ?_, fun k T' fz es' n' ρ' x hc hk => ?_, fun k T' f i st cs x hc _ => by have := (key k T' _ hc).2.2; simp at this⟩
  · obtain ⟨rfl, rfl, rfl⟩ := key k T' cs hc
    exact h.loc 0 x T' _ hk old hv
  · rw [(key k T1 cs1 h3).1, (key k' T2 cs2 h4).1]
  · obtain ⟨rfl, rfl, rfl⟩ := key k T' cs hc
    simp [isRowL] at hr
  · obtain ⟨rfl, rfl, hcs⟩ := key k T' _ hc
    simp only [List.cons.injEq, CV.row.injEq, and_true] at hcs
    obtain ⟨rfl, rfl, rfl, rfl⟩ := hcs
    have := h.row 0 T' false _ _ ρ x old hk
    refine ⟨this.len, this.le, this.mx, fun h0 => ?_, this.frz⟩
    obtain ⟨arr, a1, a2, val, a3, a4⟩ := this.blk h0
    exact ⟨arr, a1, a2, val, a3, fun i f s hi hs => he i f s hi hs ▸ a4 i f s hi hs⟩

/-- a slice of one's own, as the only one: what else was laid is forgotten -/
theorem WkO.row {mem : Mem} {b sz : Nat} {T : TypeId} {es : List Sh} {n : Nat} {ρ σ : Val} (hb : nth mem b = some (some (T, [.row false es n ρ]))) (he : ∀ i f s, i < n → nth es f = some s → cellOf s ((ρ.at i).at f) = cellOf s ((σ.at i).at f)) :
    WkO (.ret (.one (.c (.os b sz))), mem) (.ret (.one (.c (.os 0 sz))), [some (T, [.row false es n σ])]) := by
  intro P F w bs e hm hr
  obtain ⟨v, rfl, hv⟩ := hr
  have hbl : b < mem.length := nth_lt hb
  have hm1 := hm.ren (pm := [b]) rfl (fun x hx => by simp at hx; subst hx; exact hbl)
  have e1 : [b].map (renE [b] mem) = [some (T, [.row false es n ρ])] := by
    simp only [List.map_cons, List.map_nil, renE, hb, renC]
  rw [e1] at hm1
  refine ⟨F, renB [b] bs, ⟨Nat.le_refl _, fun _ _ h => h, fun p h _ _ => h, fun _ _ _ => rfl, rfl, rfl, rfl, fun k x hk _ => (by omega), fun x hx => ?_⟩, hm1.row1 he, v, rfl, ?_⟩
  · have : b < bs.length := by rw [hm.len]; exact hbl
    obtain ⟨y, hy⟩ : ∃ y, nth bs b = some y := ⟨bs[b], by rw [nth_eq]; exact List.getElem?_eq_getElem this⟩
    simp only [renB, List.map_cons, List.map_nil, List.mem_cons, List.not_mem_nil, or_false, hy] at hx
    subst hx
    exact .inl ⟨_, nth_mem hy, rfl⟩
  · have hv : CV.Rel F w bs (.os b sz) v := hv
    have := renC_ok (pm := [b]) hv
    show CV.Rel F w (renB [b] bs) (.os 0 sz) v
    simpa [renC, idx] using this

/-! ### rows that read the same -/

/-- a row that reads the same -/
theorem MemRel.rowEq {F w bs mem} (h : MemRel P F w bs mem) {b : Nat} {T : TypeId} {fz : Bool} {es : List Sh} {n : Nat} {ρ σ : Val} (hb : nth mem b = some (some (T, [.row fz es n ρ])))
    (he : ∀ i f s, i < n → nth es f = some s → cellOf s ((ρ.at i).at f) = cellOf s ((σ.at i).at f)) : MemRel P F w bs (setN mem b (some (T, [.row fz es n σ]))) := by
  have key : ∀ k T' cs, nth (setN mem b (some (T, [CV.row fz es n σ]))) k = some (some (T', cs)) → (k = b ∧ T' = T ∧ cs = [.row fz es n σ]) ∨ (k ≠ b ∧ nth mem k = some (some (T', cs))) := by
    intro k T' cs hk
    rcases nth_setN hk with ⟨rfl, e⟩ | ⟨hne, hk⟩
    · simp at e; exact .inl ⟨rfl, e.1, e.2⟩
    · exact .inr ⟨hne, hk⟩
  have live : ∀ k T' cs, nth (setN mem b (some (T, [CV.row fz es n σ]))) k = some (some (T', cs)) → ∀ x : BI, liveL x cs → ∃ T1 cs1, nth mem k = some (some (T1, cs1)) ∧ liveL x cs1 ∧ T' = T1 := by
    intro k T' cs hk x hv
    rcases key k T' cs hk with ⟨rfl, rfl, rfl⟩ | ⟨hne, hk⟩
    · exact ⟨_, _, hb, hv, rfl⟩
    · exact ⟨_, _, hk, hv, rfl⟩
  refine ⟨by rw [setN_length]; exact h.len, fun k x T' cs hk hc hv => ?_, fun k k' x x' T1 cs1 T2 cs2 h1 h2 h3 h4 h5 h6 h7 => ?_, fun k T' cs x hc hr hk => ?_, fun k T' fz' es' n' ρ' x hc hk => ?_, fun k T' f i st cs x hc hk => ?_⟩
  · obtain ⟨T1, cs1, g1, g2, rfl⟩ := live k T' cs hc x hv
    exact h.loc k x _ cs1 hk g1 g2
  · obtain ⟨_, _, g1, g2, _⟩ := live k T1 cs1 h3 x h5
    obtain ⟨_, _, g3, g4, _⟩ := live k' T2 cs2 h4 x' h6
    exact h.inj k k' x x' _ _ _ _ h1 h2 g1 g3 g2 g4 h7
  · rcases key k T' cs hc with ⟨rfl, rfl, rfl⟩ | ⟨_, hk'⟩
    · simp [isRowL] at hr
    · exact h.cont k T' cs x hk' hr hk
  · rcases key k T' _ hc with ⟨rfl, rfl, hcs⟩ | ⟨_, hk'⟩
    · simp only [List.cons.injEq, CV.row.injEq, and_true] at hcs
      obtain ⟨rfl, rfl, rfl, rfl⟩ := hcs
      have := h.row k T' fz' _ _ ρ x hb hk
      refine ⟨this.len, this.le, this.mx, fun h0 => ?_, this.frz⟩
      obtain ⟨arr, a1, a2, val, a3, a4⟩ := this.blk h0
      exact ⟨arr, a1, a2, val, a3, fun i f s hi hs => he i f s hi hs ▸ a4 i f s hi hs⟩
    · exact h.row k T' fz' es' n' ρ' x hk' hk
  · rcases key k T' _ hc with ⟨_, _, hcs⟩ | ⟨_, hk'⟩
    · simp at hcs
    · exact h.lp k T' f i st cs x hk' hk

/-- what holds of the one state holds of the other -/
def StWk (s1 s2 : St) : Prop := ∀ (P : Program) D F w bs a, StRel P D F w bs s1 a → StRel P D F w bs s2 a

theorem StWk.refl {s : St} : StWk s s := fun _ _ _ _ _ _ h => h

theorem StWk.row {tmps : List Slot} {mem : Mem} {b : Nat} {T : TypeId} {fz : Bool} {es : List Sh} {n : Nat} {ρ σ : Val} (hb : nth mem b = some (some (T, [.row fz es n ρ])))
    (he : ∀ i f s, i < n → nth es f = some s → cellOf s ((ρ.at i).at f) = cellOf s ((σ.at i).at f)) : StWk ⟨tmps, mem⟩ ⟨tmps, setN mem b (some (T, [.row fz es n σ]))⟩ :=
  fun _ _ _ _ _ _ h => ⟨h.defers, h.len, h.slots, h.mem.rowEq hb he⟩

/-- a loop's summary, told more simply -/
theorem LoopOk.wk {b : Code} {h h' : Nat → St → Tree (XE × St)} (hh : LoopOk P b h) (hw : ∀ K s x, (h' K s).sel = some x → ∃ s1, (h K s).sel = some (x.1, s1) ∧ StWk s1 x.2) : LoopOk P b h' := by
  intro K s x hx lr nn D F w bs a hK hs Q hQ
  obtain ⟨s1, h1, h2⟩ := hw K s x hx
  exact hh K s (x.1, s1) h1 lr nn D F w bs a hK hs Q fun F' w' bs' a' he hs' => hQ F' w' bs' a' he (h2 _ _ _ _ _ _ hs')

end Go.Sx
/-
  The evaluator in use: loops told in closed form.
-/
namespace Go.Sx
open Go Go.RowKit Classical

variable {P : Program}

theorem outT_mem {X : Type} {S : X → St} {y : XE × X} : ∀ {es : List XE}, y.1 ∈ es → (outT S y es).sel = some (y.1, S y.2)
  | [], h => by cases h
  | [e], h => by
    have h : y.1 = e := by simpa using h
    simp only [outT, Tree.sel, h]
    rw [eqXE_iff.2 rfl]; rfl
  | e :: e' :: r, h => by
    simp only [outT, Tree.sel]
    cases he : eqXE y.1 e
    · simp only [cond_false]
      refine outT_mem ?_
      rcases List.mem_cons.1 h with h | h
      · rw [eqXE_iff.2 h] at he; cases he
      · exact h
    · simp only [cond_true]
      rw [eqXE_iff.1 he]

/-- a loop that looks for something: where it stands at first; whether it finds; how it ends -/
noncomputable def lqT {V : Type} (S : V → St) (ok : Prop) (b : Bool) (e1 e0 : XE) (v1 v0 : V) : Tree (XE × St) := .need (dec ok) (.br b (.leaf (e1, S v1)) (.leaf (e0, S v0)))
/-- a loop that runs to its end -/
noncomputable def lq1 {V : Type} (S : V → St) (ok : Prop) (e0 : XE) (v0 : V) : Tree (XE × St) := .need (dec ok) (.leaf (e0, S v0))

/-- a loop's summary -/
def lqH {C V : Type} (keep : List Nat) (k0 nt : Nat) (get : List (Nat × AV) → Mem → Option (C × V)) (T : C → V → Tree (XE × St)) (K : Nat) (s : St) : Tree (XE × St) :=
  if s.tmps.length == nt && Nat.ble K k0 then
    match s.gc keep k0 with
    | some s' => match getKept s' keep with
      | some l => match get l s'.mem with
        | some (c, v) => T c v
        | none => .fail
      | none => .fail
    | none => .fail
  else .fail

theorem lq_gen {H : Hd} (hH : HdOk P H) (d f i : Nat) {fn : Func} {c b : Code} (hf : P.funcs[f]? = some fn) (hc : fn.body = some c) (hb : nthLoop c i = some b) {C V : Type} (keep : List Nat) (k0 nt : Nat) (S : C → V → St) (TX : C → V → Tree (XE × V))
    (hT : ∀ c v, ((evCode P H (evFn P H d) f k0 (i + 1) (loopBody P f i) (S c v)).bind fun y => gcT keep k0 y) = (TX c v).bind fun y => .leaf (y.1, S c y.2))
    (get : List (Nat × AV) → Mem → Option (C × V)) (hget : ∀ l m c v, get l m = some (c, v) → mkS nt l m = S c v)
    (good : C → Prop) (μ : C → V → Nat) (st sb : C → Nat → V) (n : C → Nat) (bad : C → Nat → Bool) (e1 e0 : XE)
    (hsq : ∀ c, good c → Sq (TX c) (μ c) (st c) (sb c) (n c) (bad c) e1 e0) (T : C → V → Tree (XE × St))
    (hw : ∀ c v x, (T c v).sel = some x → good c ∧ v = st c 0 ∧ ∃ s1, (x.1, s1) = (bif anyB (bad c) (n c) then (e1, S c (sb c (firstB (bad c) (n c)))) else (e0, S c (st c (n c)))) ∧ StWk s1 x.2) :
    LoopOk P b (lqH keep k0 nt get T) := by
  have hl := loopOk_of hH d f i hf hc hb keep k0 nt S TX hT get (fun c v => dec (good c ∧ ∃ i, i ≤ n c ∧ v = st c i)) μ [e1, e0] (Q := fun c y => (∃ i, i < n c ∧ bad c i = true ∧ y = (e1, sb c i)) ∨ y = (e0, st c (n c))) hget
    (fun c v hv => by
      have hg := (dec_iff.1 hv).1
      exact (hsq c hg).rounds (inv := fun v => dec (good c ∧ ∃ i, i ≤ n c ∧ v = st c i) = true) (fun x => by rw [dec_iff]; exact ⟨fun h => h.2, fun k => ⟨hg, k⟩⟩) v hv)
  refine hl.wk fun K s x hx => ?_
  unfold lqH at hx
  unfold loopH
  split at hx
  · rename_i hlen
    rw [if_pos hlen]
    cases hg : s.gc keep k0 with
    | none => rw [hg] at hx; simp [Tree.sel] at hx
    | some s' =>
      rw [hg] at hx
      simp only at hx ⊢
      cases hl : getKept s' keep with
      | none => rw [hl] at hx; simp [Tree.sel] at hx
      | some l =>
        rw [hl] at hx
        simp only at hx ⊢
        cases hgt : get l s'.mem with
        | none => rw [hgt] at hx; simp [Tree.sel] at hx
        | some p =>
          obtain ⟨cc, v⟩ := p
          rw [hgt] at hx
          simp only at hx ⊢
          obtain ⟨hgood, rfl, s1, h1, h2⟩ := hw cc v x hx
          have hfin := (hsq cc hgood).fin0
          refine ⟨s1, ?_, h2⟩
          simp only [Tree.sel, dec_iff.2 (show good cc ∧ ∃ i, i ≤ n cc ∧ st cc 0 = st cc i from ⟨hgood, 0, Nat.zero_le _, rfl⟩), cond_true]
          rw [hfin]
          cases hany : anyB (bad cc) (n cc)
          · rw [hany] at h1
            simp only [cond_false, Prod.mk.injEq] at h1 ⊢
            rw [outT_mem (by simp), h1.1, h1.2]
          · rw [hany] at h1
            simp only [cond_true, Prod.mk.injEq] at h1 ⊢
            rw [outT_mem (by simp), h1.1, h1.2]
  · simp [Tree.sel] at hx

/-- a loop that looks for something -/
theorem lq_ok {H : Hd} (hH : HdOk P H) (d f i : Nat) {fn : Func} {c b : Code} (hf : P.funcs[f]? = some fn) (hc : fn.body = some c) (hb : nthLoop c i = some b) {C V : Type} (keep : List Nat) (k0 nt : Nat) (S : C → V → St) (TX : C → V → Tree (XE × V))
    (hT : ∀ c v, ((evCode P H (evFn P H d) f k0 (i + 1) (loopBody P f i) (S c v)).bind fun y => gcT keep k0 y) = (TX c v).bind fun y => .leaf (y.1, S c y.2))
    (get : List (Nat × AV) → Mem → Option (C × V)) (hget : ∀ l m c v, get l m = some (c, v) → mkS nt l m = S c v)
    (good : C → Prop) (μ : C → V → Nat) (st sb : C → Nat → V) (n : C → Nat) (bad : C → Nat → Bool) (e1 e0 : XE)
    (hsq : ∀ c, good c → Sq (TX c) (μ c) (st c) (sb c) (n c) (bad c) e1 e0) (v1 v0 : C → V)
    (h1 : ∀ c, good c → anyB (bad c) (n c) = true → StWk (S c (sb c (firstB (bad c) (n c)))) (S c (v1 c))) (h0 : ∀ c, good c → anyB (bad c) (n c) = false → StWk (S c (st c (n c))) (S c (v0 c))) :
    LoopOk P b (lqH keep k0 nt get fun c v => lqT (S c) (good c ∧ v = st c 0) (anyB (bad c) (n c)) e1 e0 (v1 c) (v0 c)) :=
  lq_gen hH d f i hf hc hb keep k0 nt S TX hT get hget good μ st sb n bad e1 e0 hsq _ fun c v x hx => by
    unfold lqT at hx
    simp only [Tree.sel] at hx
    cases hd : dec (good c ∧ v = st c 0)
    · rw [hd] at hx; simp at hx
    · rw [hd] at hx
      obtain ⟨hg, hv⟩ := dec_iff.1 hd
      refine ⟨hg, hv, ?_⟩
      cases hany : anyB (bad c) (n c)
      · rw [hany] at hx
        simp only [cond_true, cond_false, Option.some.injEq] at hx
        subst hx
        exact ⟨_, rfl, h0 c hg hany⟩
      · rw [hany] at hx
        simp only [cond_true, Option.some.injEq] at hx
        subst hx
        exact ⟨_, rfl, h1 c hg hany⟩

/-- a loop that runs to its end -/
theorem lq1_ok {H : Hd} (hH : HdOk P H) (d f i : Nat) {fn : Func} {c b : Code} (hf : P.funcs[f]? = some fn) (hc : fn.body = some c) (hb : nthLoop c i = some b) {C V : Type} (keep : List Nat) (k0 nt : Nat) (S : C → V → St) (TX : C → V → Tree (XE × V))
    (hT : ∀ c v, ((evCode P H (evFn P H d) f k0 (i + 1) (loopBody P f i) (S c v)).bind fun y => gcT keep k0 y) = (TX c v).bind fun y => .leaf (y.1, S c y.2))
    (get : List (Nat × AV) → Mem → Option (C × V)) (hget : ∀ l m c v, get l m = some (c, v) → mkS nt l m = S c v)
    (good : C → Prop) (μ : C → V → Nat) (st : C → Nat → V) (n : C → Nat) (e0 : XE)
    (hsq : ∀ c, good c → Sq (TX c) (μ c) (st c) (st c) (n c) (fun _ => false) .ret e0) (v0 : C → V)
    (h0 : ∀ c, good c → StWk (S c (st c (n c))) (S c (v0 c))) :
    LoopOk P b (lqH keep k0 nt get fun c v => lq1 (S c) (good c ∧ v = st c 0) e0 (v0 c)) :=
  lq_gen hH d f i hf hc hb keep k0 nt S TX hT get hget good μ st st n (fun _ _ => false) .ret e0 hsq _ fun c v x hx => by
    unfold lq1 at hx
    simp only [Tree.sel] at hx
    cases hd : dec (good c ∧ v = st c 0)
    · rw [hd] at hx; simp at hx
    · rw [hd] at hx
      obtain ⟨hg, hv⟩ := dec_iff.1 hd
      simp only [cond_true, Option.some.injEq] at hx
      subst hx
      have hno : anyB (fun _ => false) (n c) = false := anyB_none fun _ _ => rfl
      exact ⟨hg, hv, _, by rw [hno]; rfl, h0 c hg⟩

end Go.Sx
/-
  The evaluator with panics: functions that read a slice of one's own, and point into it.
-/
namespace Go.Sx
open Go Go.RowKit

variable {P : Program}

/-- a row that nobody writes for a while, alone in the memory -/
theorem MemRel.alone {F w bs mem} (hm : MemRel P F w bs mem) {b : Nat} {T : TypeId} {fz : Bool} {es : List Sh} {n : Nat} {ρ : Val} (hb : nth mem b = some (some (T, [.row fz es n ρ]))) {x : BI} (hx : nth bs b = some x) :
    MemRel P (fun p => F p ∧ p ≠ x.p) w [x] [some (T, [.row true es n ρ])] := by
  have key : ∀ k T' cs, nth [some (T, [CV.row true es n ρ])] k = some (some (T', cs)) → k = 0 ∧ T' = T ∧ cs = [.row true es n ρ] := by
    intro k T' cs hk
    match k, hk with
    | 0, hk => simp [nth] at hk; exact ⟨rfl, hk.1.symm, hk.2.symm⟩
    | k + 1, hk => simp [nth] at hk
  have hr := hm.row b T fz es n ρ x hb hx
  refine ⟨rfl, fun k y T' cs hk hc hv => ?_, fun k k' y y' T1 cs1 T2 cs2 _ _ h3 h4 _ _ _ => ?_, fun k T' cs y hc hrr _ => ?_, fun k T' fz' es' n' ρ' y hc hk => ?_, fun k T' f i st cs y hc _ => by have := (key k T' _ hc).2.2; simp at this⟩
  · obtain ⟨rfl, rfl, rfl⟩ := key k T' cs hc
    exact (by cases hv.1)
  · rw [(key k T1 cs1 h3).1, (key k' T2 cs2 h4).1]
  · obtain ⟨rfl, rfl, rfl⟩ := key k T' cs hc
    simp [isRowL] at hrr
  · obtain ⟨rfl, rfl, hcs⟩ := key k T' _ hc
    simp only [List.cons.injEq, CV.row.injEq, and_true] at hcs
    obtain ⟨rfl, rfl, rfl, rfl⟩ := hcs
    simp only [nth, Option.some.injEq] at hk
    subst hk
    refine ⟨hr.len, hr.le, hr.mx, fun h0 => ?_, fun h0 _ => ⟨fun h => h.2 rfl, ?_⟩⟩
    · obtain ⟨arr, a1, a2, val, a3, a4⟩ := hr.blk h0
      exact ⟨arr, a1, a2, val, a3, fun i f s hi hs => (a4 i f s hi hs).grow ⟨Nat.le_refl _, fun p _ h => h.1, fun _ _ _ => rfl, fun _ _ h => h⟩⟩
    · obtain ⟨arr, a1, _⟩ := hr.blk h0
      rcases Nat.lt_or_ge x.p w.heap.size with h | h
      · exact h
      · rw [Array.getElem?_eq_none h] at a1; cases a1

/-- **a function that reads a slice of one's own, told by what it does where that slice is all there is** -/
theorem rx_calls {H : Hd} (hH : HdOk P H) {X : HdP} (hX : XOk P X) (k f : Nat) {F w bs mem} (hm : MemRel P F w bs mem) {b sz : Nat} {T : TypeId} {fz : Bool} {es : List Sh} {n : Nat} {ρ : Val} (hb : nth mem b = some (some (T, [.row fz es n ρ])))
    {rest : List A1} (hrest : rest.all closedA = true) {v0 : Value} {vs : List Value} (hv : CV.Rel F w bs (.os b sz) v0) (hvs : All2 (A1.Rel F w bs) rest vs) {r : Out} {m : Mem}
    (h : (evFnP P H X k f (.c (.os 0 sz) :: rest) [some (T, [.row true es n ρ])]).sel = some (r, m)) :
    Calls P f (v0 :: vs).toArray w (fun e w' => Below w.heap.size w w' ∧ ∃ F' bs' x, nth bs b = some x ∧ x.n = n ∧ nth bs' 0 = some x ∧ r.Ends F' w' bs' e) := by
  cases hv with
  | os hx hbase =>
    rename_i x base
    have hm1 := hm.alone hb hx
    have hn : x.n = n := (hm.row b T fz es n ρ x hb hx).len
    have g : Grow F (fun p => F p ∧ p ≠ x.p) bs bs w w := ⟨Nat.le_refl _, fun p _ h => h.1, fun _ _ _ => rfl, fun _ _ h => h⟩
    have hargs : All2 (A1.Rel (fun p => F p ∧ p ≠ x.p) w [x]) (.c (.os 0 sz) :: rest) (.slice base x.n x.cap :: vs) := by
      refine .cons (CV.Rel.os (b := 0) rfl hbase) ?_
      clear h
      induction hvs with
      | nil => exact .nil
      | cons ha _ ih =>
        simp only [List.all_cons, Bool.and_eq_true] at hrest
        exact .cons ((ha.grow g).closed hrest.1) (ih hrest.2)
    refine (evFnP_ok hH hX k f _ _ r m h _ w [x] _ hm1 hargs).mono fun e w' ⟨F', bs', hext, _, hr⟩ => ⟨⟨hext.os, hext.tape, hext.output, hext.size, fun p hp => hext.same p hp ?_⟩, F', bs', x, hx, hn, hext.pre 0 x (by simp) rfl, hr⟩
    by_cases hpx : p = x.p
    · exact .inl fun h => h.2 hpx
    · exact .inr fun y hy e => by
        simp only [List.mem_cons, List.not_mem_nil, or_false] at hy
        subst hy
        exact hpx e.symm

end Go.Sx
/-
  The evaluator in use: functions that lay memory of their own, out of the evaluator.
-/
namespace Go.Sx
open Go Go.RowKit

variable {P : Program}

theorem ncOne_of_tree {H : Hd} (hH : HdOk P H) (n f : Nat) {G : List A1 → Tree (AV × Mem)}
    (h : ∀ args r m, (G args).sel = some (r, m) → ∃ u, evFn P H n f args [] = u ∧ u.All (fun y => WkO (.ret y.1, y.2) (.ret r, m))) : NcOne P f G := by
  intro args r m hG _ F w vs hargs
  obtain ⟨u, hu, ha⟩ := h args r m hG
  rw [← hu] at ha
  obtain ⟨y, hsel, hw⟩ := all_sel ha
  refine (evFn_ok0 hH n f args y.1 y.2 hsel F w [] vs MemRel.nil hargs).mono fun e w2 ⟨v, F', bs', he, hext, hm', hr⟩ => ?_
  obtain ⟨F2, bs2, e2, m2, v2, hv2, r2⟩ := hw P F' w2 bs' (.returned v) hm' ⟨v, rfl, hr⟩
  simp only [Ending.returned.injEq] at hv2
  subst hv2
  exact ⟨v, F2, bs2, he, hext.trans e2 (Nat.le_refl _), m2, r2⟩

end Go.Sx
/-
  The evaluator in use: loops in whose rounds several blocks are laid in an open order.
-/
namespace Go.Sx
open Go Go.RowKit Classical

variable {P : Program} {D : List Deferred}

/-- code, as evCode; a drawn region may lay several blocks in an open order -/
def evCodeL (P : Program) (H : Hd) (X : HdP) (call : CallH) (f K : Nat) : Nat → Code → St → Tree (XE × St)
  | _, .skip, s => .leaf (.normal, s)
  | _, .region _ ops draw, s => if !ops.toList.all (fun o => notDefer o.op) then .fail else if draw then
      (if openAllocs X ops.toList then (evRegL P H X call ops.toList ⟨s, []⟩).bind fun y => .leaf (.normal, y.2.s)
      else if P.follows .mixedOrders then (evDraw P H call ops.toList ops.toList { s with tmps := s.tmps.map unkey }).bind fun y =>
        if drawOk ops.toList y.2 then .leaf (.normal, { y.1 with tmps := y.1.tmps.map unkey }) else .fail
      else .fail)
    else (evOps P H call false ops.toList ops.toList s).bind fun s' => .leaf (.normal, { s' with tmps := s'.tmps.map unkey })
  | n, .seq a b, s => (evCodeL P H X call f K n a s).bind fun x => match x.1 with
    | .normal => evCodeL P H X call f K (n + nloops a) b x.2
    | e => .leaf (e, x.2)
  | n, .cond c a b, s => match opnd s [] c with
    | some (.one (.c (.bool t))) => joinC (joinI H f) t s.mem.length (evCodeL P H X call f K n a s) (evCodeL P H X call f K (n + nloops a) b s)
    | _ => .fail
  | n, .block id b, s => (evCodeL P H X call f K n b s).bind fun x => match x.1 with
    | .exit k => .leaf (if k = id then .normal else .exit k, x.2)
    | e => .leaf (e, x.2)
  | n, .loop _, s => match lookLh H.lh f n with
    | some h => h K s
    | none => .fail
  | _, .exit id, s => .leaf (.exit id, s)
  | _, .ret, s => .leaf (.ret, s)
  | _, _, _ => .fail

theorem evRegL_okIn {H : Hd} (hpc : SumOk P H) {X : HdP} (hnc : NcsOk P X.nc) {call : CallH} (hcall : CallOk P call) {l : Option Nat} {n id : Nat} {ops : Array Oper} (hd0 : ops.toList.all (fun o => notDefer o.op) = true) {s : St} {s' : StP} {x : XP} (h : (evRegL P H X call ops.toList ⟨s, []⟩).sel = some (x, s'))
    {F : Nat → Prop} {w : World} {bs : List BI} {a : Act} (hs : StRel P D F w bs s a) {Q : Exit → Act → World → Prop}
    (hQ : ∀ F' w' bs' a', Ext bs.length F w bs F' w' bs' → StRel P D F' w' bs' s'.s a' → Q .normal a' w') : (Code.region id ops true).wpIn (FW l) n P Q a w := by
  unfold evRegL at h
  split at h
  · rename_i hc
    rw [Bool.and_eq_true, Bool.and_eq_true] at hc
    obtain ⟨⟨hm, hmu⟩, hsu⟩ := hc
    obtain ⟨⟨y, is⟩, h1, h2⟩ := sel_bind h
    simp only at h2
    split at h2
    · rename_i hd
      simp only [Tree.sel, Option.some.injEq, Prod.mk.injEq] at h2
      obtain ⟨rfl, rfl⟩ := h2
      have hlen : bs.length = s.mem.length := hs.mem.len
      have hs0 : StRel P D F w bs { s with tmps := s.tmps.map unkey } a := hs.unkey
      have h0 : ∀ sl ∈ s.tmps.map unkey, sl.keys = [] := by
        intro sl hsl
        simp only [List.mem_map] at hsl
        obtain ⟨sl0, _, rfl⟩ := hsl
        unfold unkey
        split
        · rename_i he; exact List.isEmpty_iff.1 he
        · rfl
      obtain ⟨p, e0, en, hanc, hstep⟩ := lplan_of h1 hd h0
      have hb : Below w.heap.size w { w with drawn := w.drawn + 1 } := Below.drew (Below.refl _ _)
      -- the places that are kept
      have hwk : MemWk s.mem (s.mem ++ ops.toList.map fun _ => none) := by
        refine ⟨by simp, fun k T cs' hk => ⟨cs', ?_, fun _ => rfl, fun hr => ⟨hr, fun _ _ _ _ h => h⟩⟩⟩
        rw [nth_eq, List.getElem?_append] at hk
        split at hk
        · rw [nth_eq]; exact hk
        · rw [List.getElem?_map] at hk
          simp only [Option.map_eq_some_iff] at hk
          obtain ⟨_, _, hk⟩ := hk
          cases hk
      have hs1 := (hs0.below hb)
      have hm1 := hs1.mem.weak hwk
      have hx1 := Ext.dummies (K := bs.length) (F := F) (w := { w with drawn := w.drawn + 1 }) (bs := bs) ((s.mem ++ ops.toList.map fun _ => none).length - s.mem.length)
      have hs2 := hs1.ext hx1 hm1
      have hext := (Ext.of_below hb (K := bs.length) (F := F) (bs := bs)).trans hx1 (Nat.le_refl _)
      refine wpIn_mono (Q := calm Q) (wpIn_region_any hm (wpAnyIn_of_wpAny hd0 calm_out _ _ _ _ (drawL_any (Q := calm Q) (F0 := F) (w0 := w) (bs0 := bs) (D := D) hpc hnc hcall rfl p hanc hstep ?_ ?_ hlen (fun F' w' bs' a' he hs' => ?_) _ _ _ _ _ F _ (by simp) ?_ ?_ ?_ hext (by simp) hs2))) fun _ _ _ => calm_le
      · rw [e0, List.all_append, hmu, Bool.true_and, List.all_map]
        exact List.all_eq_true.2 fun _ _ => rfl
      · rw [e0]
        intro sl hsl
        obtain ⟨sl0, h3, rfl⟩ := List.mem_map.1 hsl
        exact List.all_eq_true.1 hsu sl0 h3
      · exact hQ F' w' bs' a' he (StRel.unkey (en ▸ hs'))
      · simpa using List.countP_le_length (p := fun b => !b) (l := List.replicate ops.size false)
      · intro j o _ hl
        unfold Lof at hl
        simp [Array.getElem?_replicate] at hl
        split at hl <;> simp at hl
      · have := text_JA p 0 (Nat.zero_le _)
        rw [e0] at this
        refine this.congr fun k hk => ⟨fun h => by omega, fun hl => ?_⟩
        unfold Lof at hl
        simp [Array.getElem?_replicate] at hl
        split at hl <;> simp at hl
    · simp [Tree.sel] at h2
  · simp [Tree.sel] at h


theorem evCodeL_ok {H : Hd} (hpc : SumOk P H) {X : HdP} (hnc : NcsOk P X.nc) {call : CallH} (hcall : CallOk P call) {lr : Option Nat} {nn : Nat} (f K : Nat) : ∀ (c : Code) (n : Nat) (s : St) {x : XE × St},
    (evCodeL P H X call f K n c s).sel = some x → (∀ i b h, nthLoop c i = some b → lookLh H.lh f (n + i) = some h → LoopOk P b h) → ∀ {F : Nat → Prop} {w : World} {bs : List BI} {a : Act}, K ≤ bs.length → StRel P D F w bs s a → ∀ {Q : Exit → Act → World → Prop},
    (∀ F' w' bs' a', Ext K F w bs F' w' bs' → StRel P D F' w' bs' x.2 a' → Q (xe x.1) a' w') → c.wpIn (FW lr) nn P Q a w := by
  intro c
  induction c with
  | skip =>
    intro n s x h _ F w bs a hK hs Q hQ
    simp only [evCodeL, Tree.sel, Option.some.injEq] at h
    subst h
    exact wpIn_skip (hQ F w bs a Ext.refl hs)
  | region id ops draw =>
    intro n s x h _ F w bs a hK hs Q hQ
    simp only [evCodeL] at h
    split at h
    · simp [Tree.sel] at h
    rename_i hnd
    have hnd : ops.toList.all (fun o => notDefer o.op) = true := by
      cases hb : ops.toList.all (fun o => notDefer o.op)
      · rw [hb] at hnd; simp at hnd
      · rfl
    cases draw
    · simp only [Bool.false_eq_true, if_false] at h
      obtain ⟨s', h1, h2⟩ := sel_bind h
      simp only [Tree.sel, Option.some.injEq] at h2
      subst h2
      exact wpIn_region_list (evOps_ok hpc hcall _ _ hnd h1 hs fun F' w' bs' a' he hs' => hQ F' w' bs' a' (he.weak hK) hs'.unkey)
    · simp only [if_true] at h
      split at h
      · obtain ⟨⟨y, s'⟩, h1, h2⟩ := sel_bind h
        simp only [Tree.sel, Option.some.injEq] at h2
        subst h2
        exact evRegL_okIn hpc hnc hcall hnd h1 hs fun F' w' bs' a' he hs' => hQ F' w' bs' a' (he.weak hK) hs'
      split at h
      · rename_i hm
        obtain ⟨⟨s', is⟩, h1, h2⟩ := sel_bind h
        simp only at h2
        split at h2
        · rename_i hd
          simp only [Tree.sel, Option.some.injEq] at h2
          subst h2
          refine draw_okIn hpc hcall hnd hm h1 hd (fun sl hsl => ?_) hs.unkey fun F' w' bs' a' he hs' => hQ F' w' bs' a' (he.weak hK) hs'.unkey
          simp only [List.mem_map] at hsl
          obtain ⟨s0, _, rfl⟩ := hsl
          unfold Sx.unkey
          split
          · rename_i hk; simpa using hk
          · rfl
        · simp [Tree.sel] at h2
      · simp [Tree.sel] at h
  | seq a b iha ihb =>
    intro n s x h hl F w bs a' hK hs Q hQ
    simp only [evCodeL] at h
    obtain ⟨y, h1, h2⟩ := sel_bind h
    refine wpIn_seq (iha n s h1 (fun i bb hh hi hk => hl i bb hh (by
      simp only [nthLoop]
      have : i < nloops a := by
        rcases Nat.lt_or_ge i (nloops a) with h' | h'
        · exact h'
        · exact absurd hi (by rw [evCode_ok.nthLoop_none a i h']; simp)
      rw [if_pos this]; exact hi) hk) hK hs fun F' w' bs' a'' he hs' => ?_)
    obtain ⟨e, s'⟩ := y
    cases e with
    | normal =>
      simp only [xe, Exit.then]
      refine ihb (n + nloops a) s' h2 (fun i bb hh hi hk => hl (nloops a + i) bb hh (by
        simp only [nthLoop]
        rw [if_neg (by omega)]
        rw [show nloops a + i - nloops a = i by omega]; exact hi) (by rw [← Nat.add_assoc]; exact hk)) (he.le hK) hs' fun F'' w'' bs'' a3 he' hs'' => hQ _ _ _ _ (he.trans he' (Nat.le_refl _)) hs''
    | exit k =>
      simp only [Tree.sel, Option.some.injEq] at h2
      subst h2
      exact hQ _ _ _ _ he hs'
    | ret =>
      simp only [Tree.sel, Option.some.injEq] at h2
      subst h2
      exact hQ _ _ _ _ he hs'
  | cond c a b iha ihb =>
    intro n s x h hl F w bs a' hK hs Q hQ
    simp only [evCodeL] at h
    split at h
    · rename_i t ht
      have hr := opnd_ok hs KH_nil ht
      have hc : a'.eval c = .bool t := by
        generalize a'.eval c = z at hr ⊢
        cases hr; rfl
      obtain ⟨y, hy, hxe, hwk⟩ := joinC_ok h
      have hQ' : ∀ F' w' bs' a', Ext K F w bs F' w' bs' → StRel P D F' w' bs' y.2 a' → Q (xe y.1) a' w' := fun F' w' bs' a' he hs' => by
        obtain ⟨d, hd⟩ := hwk hs'
        rw [← hxe]
        exact hQ F' w' _ a' (he.trans (Ext.dummies (K := K) d) (Nat.le_refl _)) hd
      cases t
      · simp only [cond_false] at hy
        refine wpIn_cond_false hc (ihb (n + nloops a) s hy (fun i bb hh hi hk => hl (nloops a + i) bb hh (by
          simp only [nthLoop]
          rw [if_neg (by omega)]
          rw [show nloops a + i - nloops a = i by omega]; exact hi) (by rw [← Nat.add_assoc]; exact hk)) hK hs hQ')
      · simp only [cond_true] at hy
        refine wpIn_cond_true hc (iha n s hy (fun i bb hh hi hk => hl i bb hh (by
          simp only [nthLoop]
          have : i < nloops a := by
            rcases Nat.lt_or_ge i (nloops a) with h' | h'
            · exact h'
            · exact absurd hi (by rw [evCode_ok.nthLoop_none a i h']; simp)
          rw [if_pos this]; exact hi) hk) hK hs hQ')
    · simp [Tree.sel] at h
  | block id b ih =>
    intro n s x h hl F w bs a' hK hs Q hQ
    simp only [evCodeL] at h
    obtain ⟨y, h1, h2⟩ := sel_bind h
    refine wpIn_block (ih n s h1 (fun i bb hh hi hk => hl i bb hh hi hk) hK hs fun F' w' bs' a'' he hs' => ?_)
    obtain ⟨e, s'⟩ := y
    cases e with
    | normal =>
      simp only [Tree.sel, Option.some.injEq] at h2
      subst h2
      exact hQ _ _ _ _ he hs'
    | exit k =>
      simp only [Tree.sel, Option.some.injEq] at h2
      subst h2
      simp only [xe, Exit.inBlock]
      have := hQ _ _ _ _ he hs'
      by_cases hk : k = id
      · simpa [hk, xe] using this
      · simpa [hk, xe] using this
    | ret =>
      simp only [Tree.sel, Option.some.injEq] at h2
      subst h2
      exact hQ _ _ _ _ he hs'
  | loop b _ =>
    intro n s x h hl F w bs a' hK hs Q hQ
    simp only [evCodeL] at h
    split at h
    · rename_i hh hk
      exact hl 0 b hh rfl (by simpa using hk) K s x h lr nn D F w bs a' hK hs Q hQ
    · simp [Tree.sel] at h
  | exit id =>
    intro n s x h _ F w bs a hK hs Q hQ
    simp only [evCodeL, Tree.sel, Option.some.injEq] at h
    subst h
    exact wpIn_exit (hQ F w bs a Ext.refl hs)
  | ret =>
    intro n s x h _ F w bs a hK hs Q hQ
    simp only [evCodeL, Tree.sel, Option.some.injEq] at h
    subst h
    exact wpIn_ret (hQ F w bs a Ext.refl hs)
  | rangeFunc _ _ _ _ _ _ => intro n s x h; simp [evCodeL, Tree.sel] at h
  | scope _ _ => intro n s x h; simp [evCodeL, Tree.sel] at h
  | label _ => intro n s x h; simp [evCodeL, Tree.sel] at h
  | goto _ => intro n s x h; simp [evCodeL, Tree.sel] at h
  | refuse _ => intro n s x h; simp [evCodeL, Tree.sel] at h

/-- a loop, entered in the states of a family -/
theorem loopL_at {P : Program} {H : Hd} (hH : HdOk P H) {X : HdP} (hX : XOk P X) (d f i : Nat) {fn : Func} {c b : Code} (hf : P.funcs[f]? = some fn) (hc : fn.body = some c) (hb : nthLoop c i = some b) {Y : Type} (keep : List Nat) (k0 : Nat) (S : Y → St) (T : Y → Tree (XE × St))
    (hT : ∀ x, ((evCodeL P H X (evFn P H d) f k0 (i + 1) b (S x)).bind fun y => gcT keep k0 y) = T x)
    (Inv : Y → Prop) (μ : Y → Nat) (fin : Y → XE × St)
    (step : ∀ x, Inv x → ∃ e s, (T x).sel = some (e, s) ∧ ((e = .normal ∧ ∃ x', s = S x' ∧ Inv x' ∧ μ x' < μ x ∧ fin x' = fin x) ∨ (e ≠ .normal ∧ fin x = (e, s)))) :
    ∀ (lr : Option Nat) (nn : Nat) x, Inv x → ∀ F w bs a, k0 ≤ bs.length → StRel P D F w bs (S x) a → ∀ Q : Exit → Act → World → Prop,
      (∀ F' w' bs' a', Ext k0 F w bs F' w' bs' → StRel P D F' w' bs' (fin x).2 a' → Q (xe (fin x).1) a' w') → (Code.loop b).wpIn (FW lr) nn P Q a w := by
  intro lr nn x0 h0 F w bs a hlen hs Q hQ
  refine wpIn_loop_ghost (fun n a' w' => ∃ x F' bs', Inv x ∧ μ x = n ∧ fin x = fin x0 ∧ k0 ≤ bs'.length ∧ Ext k0 F w bs F' w' bs' ∧ StRel P D F' w' bs' (S x) a') (μ x0) ⟨x0, F, bs, h0, rfl, rfl, hlen, Ext.refl, hs⟩ ?_
  rintro n a' w' ⟨x, F', bs', hI, rfl, hfin, hlen', hext, hs'⟩
  obtain ⟨e, s, hsel, hcase⟩ := step x hI
  rw [← hT] at hsel
  obtain ⟨⟨e1, s1⟩, h1, h2⟩ := sel_bind hsel
  unfold gcT at h2
  simp only at h2
  split at h2
  · rename_i s2 hg
    simp only [Tree.sel, Option.some.injEq, Prod.mk.injEq] at h2
    obtain ⟨rfl, rfl⟩ := h2
    refine evCodeL_ok hH.pc hX.nc (evFn_ok hH d) f k0 b (i + 1) (S x) h1 (fun j b' h hj hk => hH.lh f fn c (i + 1 + j) b' h hf hc (nthLoop_in hb hj) hk) hlen' hs' fun F'' w'' bs'' a'' he hs'' => ?_
    obtain ⟨bs3, e3, hl3, hs3⟩ := hs''.gc hg
    have het := (hext.trans he (Nat.le_refl _)).trans e3 (Nat.le_refl _)
    rcases hcase with ⟨he1, x', hx', hI', hlt, hf'⟩ | ⟨he1, hf'⟩
    · subst he1
      simp only [xe, Exit.then]
      exact ⟨μ x', hlt, x', F'', bs3, hI', rfl, hf'.trans hfin, hl3, het, hx' ▸ hs3⟩
    · have hq := hQ F'' w'' bs3 a'' het (by rw [← hfin, hf']; exact hs3)
      rw [← hfin, hf'] at hq
      cases e1 with
      | normal => exact (he1 rfl).elim
      | exit k => exact hq
      | ret => exact hq
  · simp [Tree.sel] at h2


theorem loopLOk_of {P : Program} {H : Hd} (hH : HdOk P H) {X : HdP} (hX : XOk P X) (d f i : Nat) {fn : Func} {c b : Code} (hf : P.funcs[f]? = some fn) (hc : fn.body = some c) (hb : nthLoop c i = some b) {C V : Type} (keep : List Nat) (k0 n : Nat) (S : C → V → St) (TX : C → V → Tree (XE × V))
    (hT : ∀ c v, ((evCodeL P H X (evFn P H d) f k0 (i + 1) (loopBody P f i) (S c v)).bind fun y => gcT keep k0 y) = (TX c v).bind fun y => .leaf (y.1, S c y.2))
    (get : List (Nat × AV) → Mem → Option (C × V)) (inv : C → V → Bool) (μ : C → V → Nat) (es : List XE) {Q : C → XE × V → Prop}
    (hget : ∀ l m c v, get l m = some (c, v) → mkS n l m = S c v)
    (step : ∀ c, Rounds (TX c) (fun v => inv c v = true) (μ c) (Q c)) :
    LoopOk P b (loopH keep k0 n get inv S (fun c => fin (TX c) (μ c)) es) := by
  have hlb : loopBody P f i = b := by
    unfold loopBody
    rw [nth_eq]
    simp only [Array.getElem?_toList, hf, hc, hb]
  rw [hlb] at hT
  intro K s y hy lr nn D F w bs a _ hs Q' hQ
  unfold loopH at hy
  split at hy
  · rename_i hlen
    rw [Bool.and_eq_true] at hlen
    have hKk := Nat.ble_eq.mp hlen.2
    have hlen : s.tmps.length = n := by simpa using hlen.1
    split at hy
    · rename_i s' hg
      split at hy
      · rename_i l hl
        split at hy
        · rename_i cc x hx
          simp only [Tree.sel] at hy
          cases hi : inv cc x <;> simp [hi] at hy
          have hy2 := outT_sel hy
          subst hy2
          have e := gc_eq hg hl
          rw [hlen, hget l _ cc x hx] at e
          obtain ⟨bs1, he1, hl1, hs2⟩ := hs.gc hg
          rw [e] at hs2
          refine loopL_at hH hX d f i hf hc hb keep k0 (S cc) (fun x => (TX cc x).bind fun y => .leaf (y.1, S cc y.2)) (hT cc) (fun x => inv cc x = true) (μ cc) (fun x => ((fin (TX cc) (μ cc) x).1, S cc (fin (TX cc) (μ cc) x).2)) (fun x hx => ?_) lr nn x hi F w bs1 a hl1 hs2 Q' fun F' w' bs' a' he hs' => hQ F' w' bs' a' ((he1.trans he (Nat.le_refl _)).weak hKk) hs'
          obtain ⟨y, h1, h2⟩ := all_sel (fin_step (step cc) hx)
          refine ⟨y.1, S cc y.2, ?_, ?_⟩
          · have gen : ∀ t : Tree (XE × V), t.sel = some y → (t.bind fun y => Tree.leaf (y.1, S cc y.2)).sel = some (y.1, S cc y.2) := by
              intro t
              induction t with
              | leaf z => intro h; simp [Tree.sel] at h; subst h; rfl
              | br c t e iht ihe =>
                intro h
                simp only [Tree.bind, Tree.sel] at h ⊢
                cases c
                · exact ihe h
                · exact iht h
              | need c t ih =>
                intro h
                simp only [Tree.bind, Tree.sel] at h ⊢
                cases c
                · simp at h
                · exact ih h
              | fail => intro h; simp [Tree.sel] at h
            exact gen (TX cc x) h1
          · rcases h2 with ⟨he, hi2, hlt, hfe⟩ | ⟨he, hfe⟩
            · exact .inl ⟨he, y.2, rfl, hi2, hlt, by rw [hfe]⟩
            · exact .inr ⟨he, by rw [hfe]⟩
        · simp [Tree.sel] at hy
      · simp [Tree.sel] at hy
    · simp [Tree.sel] at hy
  · simp [Tree.sel] at hy

theorem lqL_gen {H : Hd} (hH : HdOk P H) {X : HdP} (hX : XOk P X) (d f i : Nat) {fn : Func} {c b : Code} (hf : P.funcs[f]? = some fn) (hc : fn.body = some c) (hb : nthLoop c i = some b) {C V : Type} (keep : List Nat) (k0 nt : Nat) (S : C → V → St) (TX : C → V → Tree (XE × V))
    (hT : ∀ c v, ((evCodeL P H X (evFn P H d) f k0 (i + 1) (loopBody P f i) (S c v)).bind fun y => gcT keep k0 y) = (TX c v).bind fun y => .leaf (y.1, S c y.2))
    (get : List (Nat × AV) → Mem → Option (C × V)) (hget : ∀ l m c v, get l m = some (c, v) → mkS nt l m = S c v)
    (good : C → Prop) (μ : C → V → Nat) (st sb : C → Nat → V) (n : C → Nat) (bad : C → Nat → Bool) (e1 e0 : XE)
    (hsq : ∀ c, good c → Sq (TX c) (μ c) (st c) (sb c) (n c) (bad c) e1 e0) (T : C → V → Tree (XE × St))
    (hw : ∀ c v x, (T c v).sel = some x → good c ∧ v = st c 0 ∧ ∃ s1, (x.1, s1) = (bif anyB (bad c) (n c) then (e1, S c (sb c (firstB (bad c) (n c)))) else (e0, S c (st c (n c)))) ∧ StWk s1 x.2) :
    LoopOk P b (lqH keep k0 nt get T) := by
  have hl := loopLOk_of hH hX d f i hf hc hb keep k0 nt S TX hT get (fun c v => dec (good c ∧ ∃ i, i ≤ n c ∧ v = st c i)) μ [e1, e0] (Q := fun c y => (∃ i, i < n c ∧ bad c i = true ∧ y = (e1, sb c i)) ∨ y = (e0, st c (n c))) hget
    (fun c v hv => by
      have hg := (dec_iff.1 hv).1
      exact (hsq c hg).rounds (inv := fun v => dec (good c ∧ ∃ i, i ≤ n c ∧ v = st c i) = true) (fun x => by rw [dec_iff]; exact ⟨fun h => h.2, fun k => ⟨hg, k⟩⟩) v hv)
  refine hl.wk fun K s x hx => ?_
  unfold lqH at hx
  unfold loopH
  split at hx
  · rename_i hlen
    rw [if_pos hlen]
    cases hg : s.gc keep k0 with
    | none => rw [hg] at hx; simp [Tree.sel] at hx
    | some s' =>
      rw [hg] at hx
      simp only at hx ⊢
      cases hl : getKept s' keep with
      | none => rw [hl] at hx; simp [Tree.sel] at hx
      | some l =>
        rw [hl] at hx
        simp only at hx ⊢
        cases hgt : get l s'.mem with
        | none => rw [hgt] at hx; simp [Tree.sel] at hx
        | some p =>
          obtain ⟨cc, v⟩ := p
          rw [hgt] at hx
          simp only at hx ⊢
          obtain ⟨hgood, rfl, s1, h1, h2⟩ := hw cc v x hx
          have hfin := (hsq cc hgood).fin0
          refine ⟨s1, ?_, h2⟩
          simp only [Tree.sel, dec_iff.2 (show good cc ∧ ∃ i, i ≤ n cc ∧ st cc 0 = st cc i from ⟨hgood, 0, Nat.zero_le _, rfl⟩), cond_true]
          rw [hfin]
          cases hany : anyB (bad cc) (n cc)
          · rw [hany] at h1
            simp only [cond_false, Prod.mk.injEq] at h1 ⊢
            rw [outT_mem (by simp), h1.1, h1.2]
          · rw [hany] at h1
            simp only [cond_true, Prod.mk.injEq] at h1 ⊢
            rw [outT_mem (by simp), h1.1, h1.2]
  · simp [Tree.sel] at hx

/-- a loop that looks for something -/
theorem lqL_ok {H : Hd} (hH : HdOk P H) {X : HdP} (hX : XOk P X) (d f i : Nat) {fn : Func} {c b : Code} (hf : P.funcs[f]? = some fn) (hc : fn.body = some c) (hb : nthLoop c i = some b) {C V : Type} (keep : List Nat) (k0 nt : Nat) (S : C → V → St) (TX : C → V → Tree (XE × V))
    (hT : ∀ c v, ((evCodeL P H X (evFn P H d) f k0 (i + 1) (loopBody P f i) (S c v)).bind fun y => gcT keep k0 y) = (TX c v).bind fun y => .leaf (y.1, S c y.2))
    (get : List (Nat × AV) → Mem → Option (C × V)) (hget : ∀ l m c v, get l m = some (c, v) → mkS nt l m = S c v)
    (good : C → Prop) (μ : C → V → Nat) (st sb : C → Nat → V) (n : C → Nat) (bad : C → Nat → Bool) (e1 e0 : XE)
    (hsq : ∀ c, good c → Sq (TX c) (μ c) (st c) (sb c) (n c) (bad c) e1 e0) (v1 v0 : C → V)
    (h1 : ∀ c, good c → anyB (bad c) (n c) = true → StWk (S c (sb c (firstB (bad c) (n c)))) (S c (v1 c))) (h0 : ∀ c, good c → anyB (bad c) (n c) = false → StWk (S c (st c (n c))) (S c (v0 c))) :
    LoopOk P b (lqH keep k0 nt get fun c v => lqT (S c) (good c ∧ v = st c 0) (anyB (bad c) (n c)) e1 e0 (v1 c) (v0 c)) :=
  lqL_gen hH hX d f i hf hc hb keep k0 nt S TX hT get hget good μ st sb n bad e1 e0 hsq _ fun c v x hx => by
    unfold lqT at hx
    simp only [Tree.sel] at hx
    cases hd : dec (good c ∧ v = st c 0)
    · rw [hd] at hx; simp at hx
    · rw [hd] at hx
      obtain ⟨hg, hv⟩ := dec_iff.1 hd
      refine ⟨hg, hv, ?_⟩
      cases hany : anyB (bad c) (n c)
      · rw [hany] at hx
        simp only [cond_true, cond_false, Option.some.injEq] at hx
        subst hx
        exact ⟨_, rfl, h0 c hg hany⟩
      · rw [hany] at hx
        simp only [cond_true, Option.some.injEq] at hx
        subst hx
        exact ⟨_, rfl, h1 c hg hany⟩

/-- a loop that runs to its end -/
theorem lqL1_ok {H : Hd} (hH : HdOk P H) {X : HdP} (hX : XOk P X) (d f i : Nat) {fn : Func} {c b : Code} (hf : P.funcs[f]? = some fn) (hc : fn.body = some c) (hb : nthLoop c i = some b) {C V : Type} (keep : List Nat) (k0 nt : Nat) (S : C → V → St) (TX : C → V → Tree (XE × V))
    (hT : ∀ c v, ((evCodeL P H X (evFn P H d) f k0 (i + 1) (loopBody P f i) (S c v)).bind fun y => gcT keep k0 y) = (TX c v).bind fun y => .leaf (y.1, S c y.2))
    (get : List (Nat × AV) → Mem → Option (C × V)) (hget : ∀ l m c v, get l m = some (c, v) → mkS nt l m = S c v)
    (good : C → Prop) (μ : C → V → Nat) (st : C → Nat → V) (n : C → Nat) (e0 : XE)
    (hsq : ∀ c, good c → Sq (TX c) (μ c) (st c) (st c) (n c) (fun _ => false) .ret e0) (v0 : C → V)
    (h0 : ∀ c, good c → StWk (S c (st c (n c))) (S c (v0 c))) :
    LoopOk P b (lqH keep k0 nt get fun c v => lq1 (S c) (good c ∧ v = st c 0) e0 (v0 c)) :=
  lqL_gen hH hX d f i hf hc hb keep k0 nt S TX hT get hget good μ st st n (fun _ _ => false) .ret e0 hsq _ fun c v x hx => by
    unfold lq1 at hx
    simp only [Tree.sel] at hx
    cases hd : dec (good c ∧ v = st c 0)
    · rw [hd] at hx; simp at hx
    · rw [hd] at hx
      obtain ⟨hg, hv⟩ := dec_iff.1 hd
      simp only [cond_true, Option.some.injEq] at hx
      subst hx
      have hno : anyB (fun _ => false) (n c) = false := anyB_none fun _ _ => rfl
      exact ⟨hg, hv, _, by rw [hno]; rfl, h0 c hg⟩


end Go.Sx
