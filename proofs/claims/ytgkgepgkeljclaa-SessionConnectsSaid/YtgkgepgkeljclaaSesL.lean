/-
  The session: an end that is open stays as it is.
-/
import Derived.Test.YtgkgepgkeljclaaSesK
namespace Go.Proofs.Ytgkgepgkeljclaa
open Go Go.Sx Classical

set_option maxRecDepth 100000
set_option maxHeartbeats 4000000

structure V7 where
  s0 : Ses
  s1 : Ses
  t : Sent
  i : Int

structure K72 where
  k : K6
  v : V7
  q : Bool

def K72.e (c : K72) : Ses := match c.q with | true => c.v.s1 | false => c.v.s0

def S72 (c : K72) (j : Int) : St := mkS 114 [(1, .one (.c (.sl stSh c.k.n c.k.σ))), (4, .one (.c (.bool false))), (5, .one (.c (.ptr 0 0))), (7, .one (.c (.os 1 8))), (8, .one (.c (I c.v.i))), (9, .one (.c (I (match c.q with | true => 1 | false => 0)))), (10, .one (.c (I j)))]
  [some (54, c.v.s0.cells ++ c.v.s1.cells), some (27, [.row false msgSh c.v.t.n c.v.t.ρ])]

def old72 (e : Ses) (x : Ms) : Bool := lt x.c e.c || (x.c == e.c && lt x.d e.d)
def neq72 (r e : Ses) : Bool := !((r.a == e.a) && ((r.b == e.b) && ((r.c == e.c) && ((r.d == e.d) && ((r.e == e.e) && ((r.f == e.f) && true))))))

def TX72 (c : K72) (j : Int) : Tree (XE × Int) :=
  .br (lt j (toInt64 c.v.t.n) && c.e.e == 2)
    (.need (inRange j c.v.t.n) (.need (!((lt (elt c.v.t.ρ j.toNat).c c.e.c == false) && true) || inRange j c.v.t.n) (.need (!(((elt c.v.t.ρ j.toNat).c == c.e.c) == true && ((lt (elt c.v.t.ρ j.toNat).c c.e.c == false) && true)) || inRange j c.v.t.n)
      (.need (inRange j c.v.t.n) (.br (old72 c.e (elt c.v.t.ρ j.toNat) && neq72 (recvE c.e (elt c.v.t.ρ j.toNat)) c.e) (.leaf (.ret, j)) (.leaf (.normal, IntKind.i64.wrap (j + 1))))))))
    (.leaf (.exit 4, j))

theorem t72 (c : K72) (j : Int) : ((evCode Try.prog HC (evFn Try.prog HC 10) 7 0 3 (loopBody Try.prog 7 2) (S72 c j)).bind fun y => gcT [1, 4, 5, 7, 8, 9, 10] 0 y) = (TX72 c j).bind fun y => .leaf (y.1, S72 c y.2) := by
  obtain ⟨k, v, q⟩ := c
  cases q
  · kernel_rfl
  · kernel_rfl

theorem stays {e : Ses} (he : e.e = 2) {x : Ms} (h : old72 e x = true) : recvE e x = e := by
  obtain ⟨a, b, c, d, e2, f⟩ := e
  simp only at he
  subst he
  unfold recvE recvS rcS rcP
  simp only
  unfold old72 at h
  simp only [Bool.or_eq_true, lt_iff, Bool.and_eq_true, beq_iff_eq] at h
  unfold recv
  cases rjP a b c d 2 f x.k x.a x.b x.d x.c
  · simp only [cond_false]
    cases h1 : lt x.c c
    · have h1' : ¬ x.c < c := fun hh => by rw [(lt_iff _ _).2 hh] at h1; cases h1
      have h2 : lt c x.c = false := by rw [← Bool.not_eq_true, lt_iff]; omega
      have h3 : lt d x.d = false := by rw [← Bool.not_eq_true, lt_iff]; omega
      have h4 : (x.d == d) = false := by simp; omega
      have h5 : (x.d != d) = true := by simp; omega
      have h6 : le d x.d = false := by rw [← Bool.not_eq_true, le_iff]; omega
      rw [h2, h3, h4, h5, h6]
      simp only [cond_false, cond_true, Bool.false_or, Bool.false_and]
      cases (IntKind.i64.wrap (x.k - 5) == 0)
      · cases (IntKind.i64.wrap (x.k - 5) == 0 + 1) <;> rfl
      · rfl
    · rfl
  · rfl

theorem neq_refl (e : Ses) : neq72 e e = false := by simp [neq72]

structure Inv72 (c : K72) (j : Int) : Prop where
  n : c.v.t.n ≤ 1000000
  j : 0 ≤ j ∧ j ≤ c.v.t.n

noncomputable def inv72 (c : K72) (j : Int) : Bool := dec (Inv72 c j)
def μ72 (c : K72) (j : Int) : Nat := (c.v.t.n - j).toNat

theorem rounds72 (c : K72) : Rounds (TX72 c) (fun j => inv72 c j = true) (μ72 c) (fun y => y.1 = .exit 4) := by
  intro j h
  have h := dec_iff.1 h
  have hn := h.n
  have hj := h.j
  refine ⟨fun hlt => ?_, fun _ => rfl⟩
  rw [Bool.and_eq_true, beq_iff_eq] at hlt
  have hlt' : j < (c.v.t.n : Int) := (lt_iff _ _).1 hlt.1
  have hr : inRange j c.v.t.n = true := inRange_iff.2 ⟨hj.1, hlt'⟩
  refine ⟨hr, by rw [hr, Bool.or_true], by rw [hr, Bool.or_true], hr, fun hb => ?_, fun _ => ?_⟩
  · rw [Bool.and_eq_true] at hb
    rw [stays hlt.2 hb.1, neq_refl] at hb
    cases hb.2
  · have hw1 : IntKind.i64.wrap (j + 1) = j + 1 := w64_id (by omega) (by omega)
    refine ⟨dec_iff.2 ⟨hn, ?_⟩, ?_⟩
    · simp only [hw1]; omega
    · unfold μ72; simp only [hw1]; omega

def run72 (c : K72) (j : Int) : XE × Int := fin (TX72 c) (μ72 c) j
def get72 : List (Nat × AV) → Mem → Option (K72 × Int)
  | [(1, .one (.c (.sl [.int .u8, .bool, .int .u8] n σ))), (4, .one (.c (.bool false))), (5, .one (.c (.ptr 0 0))), (7, .one (.c (.os 1 8))), (8, .one (.c (.int .i64 i))), (9, .one (.c (.int .i64 0))), (10, .one (.c (.int .i64 j)))],
    [some (54, [.int .i64 a0, .int .i64 b0, .int .i64 c0, .int .i64 d0, .int .i64 e0, .int .i64 f0, .int .i64 a1, .int .i64 b1, .int .i64 c1, .int .i64 d1, .int .i64 e1, .int .i64 f1]),
      some (27, [.row false [.int .i64, .int .i64, .int .i64, .int .i64, .int .i64, .int .i64, .sl [.int .i64], .sl [.int .u8]] m ρ])] =>
    some (⟨⟨n, σ⟩, ⟨⟨a0, b0, c0, d0, e0, f0⟩, ⟨a1, b1, c1, d1, e1, f1⟩, ⟨m, ρ⟩, i⟩, false⟩, j)
  | [(1, .one (.c (.sl [.int .u8, .bool, .int .u8] n σ))), (4, .one (.c (.bool false))), (5, .one (.c (.ptr 0 0))), (7, .one (.c (.os 1 8))), (8, .one (.c (.int .i64 i))), (9, .one (.c (.int .i64 1))), (10, .one (.c (.int .i64 j)))],
    [some (54, [.int .i64 a0, .int .i64 b0, .int .i64 c0, .int .i64 d0, .int .i64 e0, .int .i64 f0, .int .i64 a1, .int .i64 b1, .int .i64 c1, .int .i64 d1, .int .i64 e1, .int .i64 f1]),
      some (27, [.row false [.int .i64, .int .i64, .int .i64, .int .i64, .int .i64, .int .i64, .sl [.int .i64], .sl [.int .u8]] m ρ])] =>
    some (⟨⟨n, σ⟩, ⟨⟨a0, b0, c0, d0, e0, f0⟩, ⟨a1, b1, c1, d1, e1, f1⟩, ⟨m, ρ⟩, i⟩, true⟩, j)
  | _, _ => none

noncomputable def L72 : Nat → St → Tree (XE × St) := loopH [1, 4, 5, 7, 8, 9, 10] 0 114 get72 inv72 S72 run72 [.exit 4]

theorem l72 (fn : Func) (c b : Code) (hf : Try.prog.funcs[7]? = some fn) (hc' : fn.body = some c) (hb : nthLoop c 2 = some b) : LoopOk Try.prog b L72 :=
  loopOk_of hc 10 7 2 hf hc' hb [1, 4, 5, 7, 8, 9, 10] 0 114 S72 TX72 t72 get72 inv72 μ72 [.exit 4]
    (fun l m c v h => by unfold get72 at h; split at h <;> simp at h <;> (obtain ⟨rfl, rfl⟩ := h; rfl)) rounds72

noncomputable abbrev H72 : Hd := ⟨HC.pc, HC.hc, [((7, 2), L72)]⟩
theorem h72 : HdOk Try.prog H72 := HdOk.lhCons hc l72
noncomputable abbrev H71 : Hd := ⟨HC.pc, HC.hc, [((7, 1), unrollH Try.prog H72 10 7 1 3), ((7, 2), L72)]⟩
theorem h71 : HdOk Try.prog H71 := HdOk.lhCons h72 fun _ _ _ hf hc' hb => unroll_ok h72 10 7 1 hf hc' hb 3

/-! ### the steps -/

def S7 (k : K6) (v : V7) : St := mkS 114 [(1, .one (.c (.sl stSh k.n k.σ))), (4, .one (.c (.bool false))), (5, .one (.c (.ptr 0 0))), (7, .one (.c (.os 1 8))), (8, .one (.c (I v.i)))]
  [some (54, v.s0.cells ++ v.s1.cells), some (27, [.row false msgSh v.t.n v.t.ρ])]

noncomputable def TX7 (k : K6) (v : V7) : Tree (XE × V7) :=
  .br (lt v.i (toInt64 k.n))
    (.need (inRange v.i k.n) ((stepT (stp k.σ v.i.toNat) v.i v.s0 v.s1 v.t).bind fun y =>
      .br true (.need (inv72 ⟨k, ⟨y.1, y.2.1, y.2.2, v.i⟩, false⟩ 0) (.need (eqXE (run72 ⟨k, ⟨y.1, y.2.1, y.2.2, v.i⟩, false⟩ 0).1 (.exit 4))
        (.br true (.need (inv72 ⟨k, ⟨y.1, y.2.1, y.2.2, v.i⟩, true⟩ 0) (.need (eqXE (run72 ⟨k, ⟨y.1, y.2.1, y.2.2, v.i⟩, true⟩ 0).1 (.exit 4))
          (.br false .fail (.leaf (.normal, ⟨y.1, y.2.1, y.2.2, IntKind.i64.wrap (v.i + 1)⟩)))))
          (.leaf (.normal, ⟨y.1, y.2.1, y.2.2, IntKind.i64.wrap (v.i + 1)⟩)))))
        (.leaf (.normal, ⟨y.1, y.2.1, y.2.2, IntKind.i64.wrap (v.i + 1)⟩))))
    (.leaf (.exit 0, v))

theorem t7 (k : K6) (v : V7) : ((evCode Try.prog H71 (evFn Try.prog H71 10) 7 0 1 (loopBody Try.prog 7 0) (S7 k v)).bind fun y => gcT [1, 4, 5, 7, 8] 0 y) = (TX7 k v).bind fun y => .leaf (y.1, S7 k y.2) := by
  kernel_rfl

structure Inv7 (k : K6) (v : V7) : Prop where
  i : 0 ≤ v.i ∧ v.i ≤ k.n
  n : k.n ≤ 60
  w : ∀ j, j < k.n → 0 ≤ (stp k.σ j).which ∧ (stp k.σ j).which ≤ 255
  t : v.t.n ≤ v.i
  s0 : v.s0.Ok
  s1 : v.s1.Ok

noncomputable def inv7 (k : K6) (v : V7) : Bool := dec (Inv7 k v)
def μ7 (k : K6) (v : V7) : Nat := (k.n - v.i).toNat

theorem rounds7 (k : K6) : Rounds (TX7 k) (fun v => inv7 k v = true) (μ7 k) (fun y => y.1 = .exit 0) := by
  intro v h
  have h := dec_iff.1 h
  have hn := h.n
  have hi := h.i
  have ht := h.t
  refine ⟨fun hlt => ?_, fun _ => rfl⟩
  have hlt' : v.i < (k.n : Int) := (lt_iff _ _).1 hlt
  refine ⟨inRange_iff.2 ⟨hi.1, hlt'⟩, all_bind.2 (All.imp (fun y hy => ?_) (step_goes h.s0 h.s1 (by omega) _ (h.w _ (by omega)) _))⟩
  obtain ⟨g0, g1, gn⟩ := hy
  have hin : ∀ q, inv72 ⟨k, ⟨y.1, y.2.1, y.2.2, v.i⟩, q⟩ 0 = true := fun q => dec_iff.2 ⟨by simp only; omega, by simp only; omega⟩
  have hw1 : IntKind.i64.wrap (v.i + 1) = v.i + 1 := w64_id (by omega) (by omega)
  refine ⟨fun _ => ⟨hin _, eqXE_iff.2 (fin_of (rounds72 _) (hin _)), fun _ => ⟨hin _, eqXE_iff.2 (fin_of (rounds72 _) (hin _)), fun h => (by cases h), fun _ => ?_⟩, fun h => (by cases h)⟩, fun h => (by cases h)⟩
  refine ⟨dec_iff.2 ⟨?_, hn, h.w, ?_, g0.ok, g1.ok⟩, ?_⟩
  · simp only [hw1]; omega
  · simp only [hw1]; omega
  · unfold μ7; simp only [hw1]; omega

noncomputable def run7 (k : K6) (v : V7) : XE × V7 := fin (TX7 k) (μ7 k) v
def get7 : List (Nat × AV) → Mem → Option (K6 × V7)
  | [(1, .one (.c (.sl [.int .u8, .bool, .int .u8] n σ))), (4, .one (.c (.bool false))), (5, .one (.c (.ptr 0 0))), (7, .one (.c (.os 1 8))), (8, .one (.c (.int .i64 i)))],
    [some (54, [.int .i64 a0, .int .i64 b0, .int .i64 c0, .int .i64 d0, .int .i64 e0, .int .i64 f0, .int .i64 a1, .int .i64 b1, .int .i64 c1, .int .i64 d1, .int .i64 e1, .int .i64 f1]),
      some (27, [.row false [.int .i64, .int .i64, .int .i64, .int .i64, .int .i64, .int .i64, .sl [.int .i64], .sl [.int .u8]] m ρ])] =>
    some (⟨n, σ⟩, ⟨⟨a0, b0, c0, d0, e0, f0⟩, ⟨a1, b1, c1, d1, e1, f1⟩, ⟨m, ρ⟩, i⟩)
  | _, _ => none

noncomputable def L70 : Nat → St → Tree (XE × St) := ownH [.own 7 27 msgSh] (loopH [1, 4, 5, 7, 8] 0 114 get7 inv7 S7 run7 [.exit 0])

theorem l70 (fn : Func) (c b : Code) (hf : Try.prog.funcs[7]? = some fn) (hc' : fn.body = some c) (hb : nthLoop c 0 = some b) : LoopOk Try.prog b L70 :=
  ownH_ok _ (loopOk_of h71 10 7 0 hf hc' hb [1, 4, 5, 7, 8] 0 114 S7 TX7 t7 get7 inv7 μ7 [.exit 0]
    (fun l m c v h => by unfold get7 at h; split at h <;> simp at h; obtain ⟨rfl, rfl⟩ := h; rfl) rounds7)

noncomputable abbrev H7' : Hd := ⟨HC.pc, HC.hc, [((7, 0), L70)]⟩
theorem h7' : HdOk Try.prog H7' := HdOk.lhCons hc l70

end Go.Proofs.Ytgkgepgkeljclaa
