/-
  The session: the steps alone; what an open end accepts.
-/
import Derived.Test.YtgkgepgkeljclaaSesL
namespace Go.Proofs.Ytgkgepgkeljclaa
open Go Go.Sx Classical

set_option maxRecDepth 100000
set_option maxHeartbeats 4000000

/-- the steps alone -/
def TXs (k : K6) (v : V7) : Tree (XE × V7) :=
  .br (lt v.i (toInt64 k.n))
    (.need (inRange v.i k.n) ((stepT (stp k.σ v.i.toNat) v.i v.s0 v.s1 v.t).bind fun y => .leaf (.normal, ⟨y.1, y.2.1, y.2.2, IntKind.i64.wrap (v.i + 1)⟩)))
    (.leaf (.exit 0, v))

theorem roundsS (k : K6) : Rounds (TXs k) (fun v => inv7 k v = true) (μ7 k) (fun y => y.1 = .exit 0 ∧ Inv7 k y.2) := by
  intro v h
  have h := dec_iff.1 h
  have hn := h.n
  have hi := h.i
  have ht := h.t
  refine ⟨fun hlt => ?_, fun _ => ⟨rfl, h⟩⟩
  have hlt' : v.i < (k.n : Int) := (lt_iff _ _).1 hlt
  refine ⟨inRange_iff.2 ⟨hi.1, hlt'⟩, all_bind.2 (All.imp (fun y hy => ?_) (step_goes h.s0 h.s1 (by omega) _ (h.w _ (by omega)) _))⟩
  obtain ⟨g0, g1, gn⟩ := hy
  have hw1 : IntKind.i64.wrap (v.i + 1) = v.i + 1 := w64_id (by omega) (by omega)
  refine ⟨dec_iff.2 ⟨?_, hn, h.w, ?_, g0.ok, g1.ok⟩, ?_⟩
  · simp only [hw1]; omega
  · simp only [hw1]; omega
  · unfold μ7; simp only [hw1]; omega

def runS (k : K6) (v : V7) : XE × V7 := fin (TXs k) (μ7 k) v

structure C9 where
  k : K6
  m0 : Int
  m1 : Int

def S9 (c : C9) (v : V7) : St := mkS 79 [(1, .one (.c (.sl stSh c.k.n c.k.σ))), (5, .one (.c (.ptr 0 0))), (6, .one (.c (.bool false))), (7, .one (.c (.ptr 1 0))), (9, .one (.c (.os 2 8))), (10, .one (.c (I v.i)))]
  [some (66, [.int .i8 c.m0, .int .i8 c.m1]), some (54, v.s0.cells ++ v.s1.cells), some (27, [.row false msgSh v.t.n v.t.ρ])]

theorem t9 (c : C9) (v : V7) : ((evCode Try.prog HC (evFn Try.prog HC 10) 9 0 1 (loopBody Try.prog 9 0) (S9 c v)).bind fun y => gcT [1, 5, 6, 7, 9, 10] 0 y) = (TXs c.k v).bind fun y => .leaf (y.1, S9 c y.2) := by
  kernel_rfl

def get9 : List (Nat × AV) → Mem → Option (C9 × V7)
  | [(1, .one (.c (.sl [.int .u8, .bool, .int .u8] n σ))), (5, .one (.c (.ptr 0 0))), (6, .one (.c (.bool false))), (7, .one (.c (.ptr 1 0))), (9, .one (.c (.os 2 8))), (10, .one (.c (.int .i64 i)))],
    [some (66, [.int .i8 m0, .int .i8 m1]), some (54, [.int .i64 a0, .int .i64 b0, .int .i64 c0, .int .i64 d0, .int .i64 e0, .int .i64 f0, .int .i64 a1, .int .i64 b1, .int .i64 c1, .int .i64 d1, .int .i64 e1, .int .i64 f1]),
      some (27, [.row false [.int .i64, .int .i64, .int .i64, .int .i64, .int .i64, .int .i64, .sl [.int .i64], .sl [.int .u8]] m ρ])] =>
    some (⟨⟨n, σ⟩, m0, m1⟩, ⟨⟨a0, b0, c0, d0, e0, f0⟩, ⟨a1, b1, c1, d1, e1, f1⟩, ⟨m, ρ⟩, i⟩)
  | _, _ => none

noncomputable def L90 : Nat → St → Tree (XE × St) := ownH [.own 9 27 msgSh] (loopH [1, 5, 6, 7, 9, 10] 0 79 get9 (fun c => inv7 c.k) S9 (fun c => runS c.k) [.exit 0])

theorem l90 (fn : Func) (c b : Code) (hf : Try.prog.funcs[9]? = some fn) (hc' : fn.body = some c) (hb : nthLoop c 0 = some b) : LoopOk Try.prog b L90 :=
  ownH_ok _ (loopOk_of hc 10 9 0 hf hc' hb [1, 5, 6, 7, 9, 10] 0 79 S9 (fun c => TXs c.k) t9 get9 (fun c => inv7 c.k) (fun c => μ7 c.k) [.exit 0]
    (fun l m c v h => by unfold get9 at h; split at h <;> simp at h; obtain ⟨rfl, rfl⟩ := h; rfl) (fun c => roundsS c.k))

noncomputable abbrev H90 : Hd := ⟨HC.pc, HC.hc, [((9, 0), L90)]⟩
theorem h90 : HdOk Try.prog H90 := HdOk.lhCons hc l90
noncomputable abbrev H91 : Hd := ⟨HC.pc, HC.hc, [((9, 1), unrollH Try.prog H90 10 9 1 3), ((9, 0), L90)]⟩
theorem h91 : HdOk Try.prog H91 := HdOk.lhCons h90 fun _ _ _ hf hc' hb => unroll_ok h90 10 9 1 hf hc' hb 3

def v70 (a b c d : Int) : V7 := ⟨ns 0 1 a c, ns 1 0 b d, ⟨0, Val.zero⟩, 0⟩

theorem v70_inv {a b c d : Int} (ha : 0 ≤ a) (hb : 0 ≤ b) (hc : 0 ≤ c) (hd : 0 ≤ d) {n : Nat} {σ : Val} (hw : ∀ i, i < n → 0 ≤ (stp σ i).which ∧ (stp σ i).which ≤ 255) (hn : lt 60 (toInt64 n) = false) : inv7 ⟨n, σ⟩ (v70 a b c d) = true := by
  obtain ⟨e1, q1, o1⟩ := ns_eq (l := 0) (r := 1) (by simp) (by simp) (by simp) ha hc
  obtain ⟨e2, q2, o2⟩ := ns_eq (l := 1) (r := 0) (by simp) (by simp) (by simp) hb hd
  exact dec_iff.2 {
      i := by simp [v70]
      n := by have := few_of hn; simp only; omega
      w := hw
      t := by simp [v70]
      s0 := o1
      s1 := o2 }

/-- what an end accepts -/
theorem acc_iff {s : Ses} (h : s.Ok) {m0 m1 : Int} (h0 : -128 ≤ m0 ∧ m0 ≤ 127) (h1 : -128 ≤ m1 ∧ m1 ≤ 127) :
    (acc s.a s.b s.c s.d s.e s.f (IntKind.i64.wrap (s.d + IntKind.i64.wrap m0)) (IntKind.i64.wrap (s.c + IntKind.i64.wrap m1)) == 0) = (s.e == 2 && ((m0 == 0) && ((m1 == 0) && true))) := by
  have hd := h.d
  have hc := h.c
  rw [w64_id (x := m0) (by omega) (by omega), w64_id (x := m1) (by omega) (by omega), w64_id (by omega) (by omega), w64_id (by omega) (by omega)]
  have hk : chk s.a s.b s.c s.d s.e s.f = 0 := chk_iff.2 h
  unfold acc
  rw [hk]
  rw [Bool.eq_iff_iff]
  simp only [bne_self_eq_false, cond_false, Bool.and_eq_true, beq_iff_eq, and_true]
  cases he : (s.e != 2)
  · have he' : s.e = 2 := by simpa using he
    simp only [cond_false]
    cases hq : (lt (s.c + m1) s.c || lt (s.d + m0) s.d)
    · have hq' := hq
      rw [Bool.or_eq_false_iff, ← Bool.not_eq_true, ← Bool.not_eq_true, lt_iff, lt_iff] at hq'
      simp only [cond_false]
      cases hr : (lt s.c (s.c + m1) || lt s.d (s.d + m0))
      · have hr' := hr
        rw [Bool.or_eq_false_iff, ← Bool.not_eq_true, ← Bool.not_eq_true, lt_iff, lt_iff] at hr'
        simp only [cond_false, true_iff]
        exact ⟨he', by omega, by omega⟩
      · rw [Bool.or_eq_true, lt_iff, lt_iff] at hr
        simp only [cond_true]
        constructor
        · intro h; cases h
        · rintro ⟨_, h2, h3⟩; omega
    · rw [Bool.or_eq_true, lt_iff, lt_iff] at hq
      simp only [cond_true]
      constructor
      · intro h; cases h
      · rintro ⟨_, h2, h3⟩; omega
  · have he' : ¬ s.e = 2 := by simpa using he
    simp only [cond_true]
    constructor
    · intro h; cases h
    · rintro ⟨h1, _⟩; exact (he' h1).elim

theorem i8_bd {n : Int} (h : (Lit.int .i8 n).wf = true) : -128 ≤ n ∧ n ≤ 127 := by
  simpa [Lit.wf, IntKind.min, IntKind.max, IntKind.signed, IntKind.bits] using h

end Go.Proofs.Ytgkgepgkeljclaa
