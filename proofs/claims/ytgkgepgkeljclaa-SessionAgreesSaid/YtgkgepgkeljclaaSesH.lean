/-
  The session: numbers and epochs never decrease: the test behind each step.
-/
import Derived.Test.YtgkgepgkeljclaaSesG
import Derived.Test.YtgkgepgkeljclaaEngX
namespace Go.Proofs.Ytgkgepgkeljclaa
open Go Go.Sx Classical

set_option maxRecDepth 100000
set_option maxHeartbeats 4000000

abbrev stSh : List Sh := [.int .u8, .bool, .int .u8]

structure K6 where
  n : Nat
  σ : Val
structure V6 where
  s0 : Ses
  s1 : Ses
  t : Sent
  o0 : Int
  o1 : Int
  i : Int

def S6 (k : K6) (v : V6) : St := mkS 111 [(1, .one (.c (.sl stSh k.n k.σ))), (4, .one (.c (.bool false))), (5, .one (.c (.ptr 0 0))), (7, .one (.c (.os 1 8))), (8, .one (.c (.ptr 2 0))), (9, .one (.c (I v.i)))]
  [some (54, v.s0.cells ++ v.s1.cells), some (27, [.row false msgSh v.t.n v.t.ρ]), some (57, [I v.o0, I v.o1])]

/-- the inner loop's state: before, now -/
structure X6 where
  k : K6
  b0 : Ses
  b1 : Ses
  v : V6
  j : Int

def S61 (x : X6) : St := mkS 111 [(1, .one (.c (.sl stSh x.k.n x.k.σ))), (4, .one (.c (.bool false))), (5, .one (.c (.ptr 0 0))), (7, .one (.c (.os 1 8))), (8, .one (.c (.ptr 2 0))), (9, .one (.c (I x.v.i))), (10, .one (.c (.ptr 3 0))), (11, .one (.c (I x.j)))]
  [some (54, x.v.s0.cells ++ x.v.s1.cells), some (27, [.row false msgSh x.v.t.n x.v.t.ρ]), some (57, [I x.v.o0, I x.v.o1]), some (54, x.b0.cells ++ x.b1.cells)]

def S610 (x : X6) : St := S61 { x with j := 0 }

def full6 (x : X6) : Tree (XE × St) :=
  .br true (testT x.b0 x.v.s0 x.v.o0 (.leaf (.ret, S61 { x with j := 0 })) fun p0 =>
    .br true (testT x.b1 x.v.s1 x.v.o1 (.leaf (.ret, S61 { x with j := 1, v := { x.v with o0 := p0 } })) fun p1 => .br false .fail (.leaf (.exit 2, S61 { x with j := 2, v := { x.v with o0 := p0, o1 := p1 } })))
      (.leaf (.exit 2, S61 { x with j := 1, v := { x.v with o0 := p0 } })))
    (.leaf (.exit 2, S61 { x with j := 0 }))

theorem full6_eq (x : X6) : ((unrollH Try.prog HC 10 6 1 3 0 (S610 x)).bind fun y => gcT [1, 4, 5, 7, 8, 9, 10, 11] 0 y) = full6 x := by kernel_rfl

def dec6 (s t : Ses) : Bool := (lt t.d s.d || lt t.c s.c) || chk t.a t.b t.c t.d t.e t.f != 0
def opn6 (s t : Ses) : Bool := t.e == 2 && (s.e != 2 || t.d != s.d)
def bad6 (s t : Ses) (o : Int) : Bool := dec6 s t || (opn6 s t && le t.d o)
def new6 (s t : Ses) (o : Int) : Int := bif opn6 s t then t.d else o

def T6 (x : X6) : Tree (XE × St) :=
  .br (bad6 x.b0 x.v.s0 x.v.o0) (.leaf (.ret, S61 { x with j := 0 }))
    (.br (bad6 x.b1 x.v.s1 x.v.o1) (.leaf (.ret, S61 { x with j := 1, v := { x.v with o0 := new6 x.b0 x.v.s0 x.v.o0 } }))
      (.leaf (.exit 2, S61 { x with j := 2, v := { x.v with o0 := new6 x.b0 x.v.s0 x.v.o0, o1 := new6 x.b1 x.v.s1 x.v.o1 } })))

theorem test_sel {α : Type} (s t : Ses) (o : Int) (bad : Tree α) (go : Int → Tree α) : (testT s t o bad go).sel = (Tree.br (bad6 s t o) bad (go (new6 s t o))).sel := by
  unfold testT bad6 new6 dec6 opn6
  simp only [Tree.sel]
  cases ((lt t.d s.d || lt t.c s.c) || chk t.a t.b t.c t.d t.e t.f != 0) <;> cases (t.e == 2 && (s.e != 2 || t.d != s.d)) <;> cases (le t.d o) <;> rfl

theorem T6_sel (x : X6) (z : XE × St) (h : (T6 x).sel = some z) : ((unrollH Try.prog HC 10 6 1 3 0 (S610 x)).bind fun y => gcT [1, 4, 5, 7, 8, 9, 10, 11] 0 y).sel = some z := by
  rw [full6_eq, ← h]
  unfold full6 T6
  simp only [Tree.sel, test_sel, cond_true, cond_false]

def get61 : List (Nat × AV) → Mem → Option X6
  | [(1, .one (.c (.sl [.int .u8, .bool, .int .u8] n σ))), (4, .one (.c (.bool false))), (5, .one (.c (.ptr 0 0))), (7, .one (.c (.os 1 8))), (8, .one (.c (.ptr 2 0))), (9, .one (.c (.int .i64 i))), (10, .one (.c (.ptr 3 0))), (11, .one (.c (.int .i64 0)))],
    [some (54, [.int .i64 a0, .int .i64 b0, .int .i64 c0, .int .i64 d0, .int .i64 e0, .int .i64 f0, .int .i64 a1, .int .i64 b1, .int .i64 c1, .int .i64 d1, .int .i64 e1, .int .i64 f1]),
      some (27, [.row false [.int .i64, .int .i64, .int .i64, .int .i64, .int .i64, .int .i64, .sl [.int .i64], .sl [.int .u8]] m ρ]), some (57, [.int .i64 o0, .int .i64 o1]),
      some (54, [.int .i64 g0, .int .i64 h0, .int .i64 i0, .int .i64 j0, .int .i64 k0, .int .i64 l0, .int .i64 g1, .int .i64 h1, .int .i64 i1, .int .i64 j1, .int .i64 k1, .int .i64 l1])] =>
    some ⟨⟨n, σ⟩, ⟨g0, h0, i0, j0, k0, l0⟩, ⟨g1, h1, i1, j1, k1, l1⟩, ⟨⟨a0, b0, c0, d0, e0, f0⟩, ⟨a1, b1, c1, d1, e1, f1⟩, ⟨m, ρ⟩, o0, o1, i⟩, 0⟩
  | _, _ => none

def L61 : Nat → St → Tree (XE × St) := unrollG [1, 4, 5, 7, 8, 9, 10, 11] 0 111 get61 T6

theorem l61 (fn : Func) (c b : Code) (hf : Try.prog.funcs[6]? = some fn) (hc' : fn.body = some c) (hb : nthLoop c 1 = some b) : LoopOk Try.prog b L61 :=
  unrollG_ok hc 10 6 1 3 hf hc' hb [1, 4, 5, 7, 8, 9, 10, 11] 0 111 S610 T6 T6_sel get61
    (fun l m x h => by unfold get61 at h; split at h <;> simp at h; subst h; rfl)

noncomputable abbrev HK : Hd := ⟨HC.pc, HC.hc, [((6, 1), L61)]⟩
theorem hk : HdOk Try.prog HK := HdOk.lhCons hc l61

end Go.Proofs.Ytgkgepgkeljclaa
