/-
  The session: the steps with bounds; two closed ends become open.
-/
import Derived.Test.YtgkgepgkeljclaaSesO
namespace Go.Proofs.Ytgkgepgkeljclaa
open Go Go.Sx Classical

set_option maxRecDepth 100000
set_option maxHeartbeats 4000000

structure Inv8 (k : K6) (v : V7) : Prop where
  i7 : Inv7 k v
  b0 : SesB v.s0 (5 + v.i)
  b1 : SesB v.s1 (5 + v.i)
  bt : SentB v.t (5 + v.i)
  i0 : v.s0.a = 0 ∧ v.s0.b = 1
  i1 : v.s1.a = 1 ∧ v.s1.b = 0

noncomputable def inv8 (k : K6) (v : V7) : Bool := dec (Inv8 k v)

theorem rounds8 (k : K6) : Rounds (TXs k) (fun v => inv8 k v = true) (μ7 k) (fun y => y.1 = .exit 0 ∧ Inv8 k y.2) := by
  intro v h
  have h8 := dec_iff.1 h
  have h := h8.i7
  have hn := h.n
  have hi := h.i
  have ht := h.t
  refine ⟨fun hlt => ?_, fun _ => ⟨rfl, h8⟩⟩
  have hlt' : v.i < (k.n : Int) := (lt_iff _ _).1 hlt
  refine ⟨inRange_iff.2 ⟨hi.1, hlt'⟩, all_bind.2 (All.imp (fun y hy => ?_) (step_B h.s0 h.s1 (by omega) _ (h.w _ (by omega)) _ (N := 5 + v.i) (by omega) h8.b0 h8.b1 h8.bt))⟩
  obtain ⟨⟨g0, g1, gn⟩, c0, c1, ct⟩ := hy
  have hw1 : IntKind.i64.wrap (v.i + 1) = v.i + 1 := w64_id (by omega) (by omega)
  have e5 : 5 + (v.i + 1) = 5 + v.i + 1 := by omega
  refine ⟨dec_iff.2 ⟨⟨?_, hn, h.w, ?_, g0.ok, g1.ok⟩, ?_, ?_, ?_, ⟨by rw [g0.a]; exact h8.i0.1, by rw [g0.b]; exact h8.i0.2⟩, ⟨by rw [g1.a]; exact h8.i1.1, by rw [g1.b]; exact h8.i1.2⟩⟩, ?_⟩
  · simp only [hw1]; omega
  · simp only [hw1]; omega
  · simp only [hw1, e5]; exact c0
  · simp only [hw1, e5]; exact c1
  · simp only [hw1, e5]; exact ct
  · unfold μ7; simp only [hw1]; omega

structure C8 where
  k : K6
  o : Bool

def S8 (c : C8) (v : V7) : St := mkS 128 [(1, .one (.c (.sl stSh c.k.n c.k.σ))), (2, .one (.c (.bool c.o))), (6, .one (.c (.bool false))), (7, .one (.c (.ptr 0 0))), (9, .one (.c (.os 1 8))), (10, .one (.c (I v.i)))]
  [some (54, v.s0.cells ++ v.s1.cells), some (27, [.row false msgSh v.t.n v.t.ρ])]

theorem t8 (c : C8) (v : V7) : ((evCode Try.prog HD (evFn Try.prog HD 10) 8 0 1 (loopBody Try.prog 8 0) (S8 c v)).bind fun y => gcT [1, 2, 6, 7, 9, 10] 0 y) = (TXs c.k v).bind fun y => .leaf (y.1, S8 c y.2) := by
  kernel_rfl

def get8 : List (Nat × AV) → Mem → Option (C8 × V7)
  | [(1, .one (.c (.sl [.int .u8, .bool, .int .u8] n σ))), (2, .one (.c (.bool o))), (6, .one (.c (.bool false))), (7, .one (.c (.ptr 0 0))), (9, .one (.c (.os 1 8))), (10, .one (.c (.int .i64 i)))],
    [some (54, [.int .i64 a0, .int .i64 b0, .int .i64 c0, .int .i64 d0, .int .i64 e0, .int .i64 f0, .int .i64 a1, .int .i64 b1, .int .i64 c1, .int .i64 d1, .int .i64 e1, .int .i64 f1]),
      some (27, [.row false [.int .i64, .int .i64, .int .i64, .int .i64, .int .i64, .int .i64, .sl [.int .i64], .sl [.int .u8]] m ρ])] =>
    some (⟨⟨n, σ⟩, o⟩, ⟨⟨a0, b0, c0, d0, e0, f0⟩, ⟨a1, b1, c1, d1, e1, f1⟩, ⟨m, ρ⟩, i⟩)
  | _, _ => none

noncomputable def L80 : Nat → St → Tree (XE × St) := ownH [.own 9 27 msgSh] (loopH [1, 2, 6, 7, 9, 10] 0 128 get8 (fun c => inv8 c.k) S8 (fun c => runS c.k) [.exit 0])

theorem l80 (fn : Func) (c b : Code) (hf : Try.prog.funcs[8]? = some fn) (hc' : fn.body = some c) (hb : nthLoop c 0 = some b) : LoopOk Try.prog b L80 :=
  ownH_ok _ (loopOk_of hd 10 8 0 hf hc' hb [1, 2, 6, 7, 9, 10] 0 128 S8 (fun c => TXs c.k) t8 get8 (fun c => inv8 c.k) (fun c => μ7 c.k) [.exit 0]
    (fun l m c v h => by unfold get8 at h; split at h <;> simp at h; obtain ⟨rfl, rfl⟩ := h; rfl) (fun c => rounds8 c.k))

noncomputable abbrev H80 : Hd := ⟨HD.pc, HD.hc, [((8, 0), L80)]⟩
theorem h80 : HdOk Try.prog H80 := HdOk.lhCons hd l80
noncomputable abbrev H81 : Hd := ⟨HD.pc, HD.hc, [((8, 1), unrollH Try.prog H80 10 8 1 4), ((8, 0), L80)]⟩
theorem h81 : HdOk Try.prog H81 := HdOk.lhCons h80 fun _ _ _ hf hc' hb => unroll_ok h80 10 8 1 hf hc' hb 4

/-! ### the dials -/

def goodC (A B : Ses) : Bool := ((B.e == 2 && A.d == B.d) && A.c == B.c) && (acc A.a A.b A.c A.d A.e A.f B.d B.c == 0)

noncomputable def roundC (A B : Ses) (next : Ses → Ses → Tree AV) : Tree AV :=
  .br (dlE A.a A.b A.c A.d A.e A.f 100 5 != 0) (.leaf (.one (.c (.bool false))))
    (.need (dec ((outDial A 100 5).1 ≤ 1000)) (.need (dec ((rdB A B).t.n ≤ 1000))
      (.br ((rdA A B).s.e == 2) (.leaf (.one (.c (.bool (goodC (rdA A B).s (rdB A B).s))))) (next (rdA A B).s (rdB A B).s))))

noncomputable def loopC : Nat → Int → Ses → Ses → Tree AV
  | 0, _, _, _ => .fail
  | m + 1, j, A, B => .br (lt j 3) (roundC A B fun A' B' => loopC m (IntKind.i64.wrap (j + 1)) A' B') (.leaf (.one (.c (.bool false))))

theorem good_open {l r c d : Int} (hl : 0 ≤ l ∧ l < 4) (hr : 0 ≤ r ∧ r < 4) (hlr : l ≠ r) (hc : 0 ≤ c ∧ c ≤ 3) (hd : 0 ≤ d ∧ d ≤ 100000) : goodC ⟨l, r, c, d, 2, 0⟩ ⟨r, l, c, d, 2, 0⟩ = true := by
  have ok : Ses.Ok ⟨l, r, c, d, 2, 0⟩ := ⟨hl, hr, hlr, by simp only; omega, by simp only; omega, by simp, by simp, .inr rfl⟩
  have l1 : lt c c = false := by rw [← Bool.not_eq_true, lt_iff]; omega
  have l2 : lt d d = false := by rw [← Bool.not_eq_true, lt_iff]; omega
  unfold goodC acc
  simp only [chk_iff.2 ok, l1, l2, beq_self_eq_true, bne_self_eq_false, cond_false, Bool.or_self, Bool.and_self]

theorem loop_good {l r ca da cb db : Int} (hl : 0 ≤ l ∧ l < 4) (hr : 0 ≤ r ∧ r < 4) (hlr : l ≠ r) (hca : 0 ≤ ca ∧ ca ≤ 3) (hda : 0 ≤ da ∧ da ≤ 100) (hcb : 0 ≤ cb ∧ cb ≤ 3) (hdb : 0 ≤ db ∧ db ≤ 100) :
    (loopC 4 0 ⟨l, r, ca, da, 0, 0⟩ ⟨r, l, cb, db, 0, 0⟩).All (fun z => z = .one (.c (.bool true))) := by
  have e0 : lt 0 3 = true := rfl
  have e1 : lt (IntKind.i64.wrap (0 + 1)) 3 = true := rfl
  obtain ⟨k1, k2, k3, k4⟩ := round_eq hl hr hlr hca (show 0 ≤ da ∧ da ≤ 1000 by omega) hcb (show 0 ≤ db ∧ db ≤ 1000 by omega)
  refine ⟨fun _ => ⟨fun h => ?_, fun _ => ⟨dec_iff.2 k2, dec_iff.2 k3, fun he => ?_, fun he => ?_⟩⟩, fun h => (by rw [e0] at h; cases h)⟩
  · simp only [k1] at h; cases h
  · rcases k4 with ⟨q1, q2⟩ | ⟨_, c', d', d'', _, _, _, _, q1, q2⟩
    · show AV.one (.c (.bool (goodC (rdA ⟨l, r, ca, da, 0, 0⟩ ⟨r, l, cb, db, 0, 0⟩).s (rdB ⟨l, r, ca, da, 0, 0⟩ ⟨r, l, cb, db, 0, 0⟩).s))) = _
      rw [q1, q2, good_open hl hr hlr hca (show 0 ≤ da + 1 ∧ da + 1 ≤ 100000 by omega)]
    · simp only [q1] at he
      cases he
  · rcases k4 with ⟨q1, q2⟩ | ⟨_, c', d', d'', b1, b2, b3, b4, q1, q2⟩
    · simp only [q1] at he
      cases he
    · show (loopC 3 (IntKind.i64.wrap (0 + 1)) (rdA ⟨l, r, ca, da, 0, 0⟩ ⟨r, l, cb, db, 0, 0⟩).s (rdB ⟨l, r, ca, da, 0, 0⟩ ⟨r, l, cb, db, 0, 0⟩).s).All _
      rw [q1, q2]
      obtain ⟨m1, m2, m3, m4⟩ := round_eq hl hr hlr b1 (show 0 ≤ d' ∧ d' ≤ 1000 by omega) b1 (show 0 ≤ d'' ∧ d'' ≤ 1000 by omega)
      refine ⟨fun _ => ⟨fun h => ?_, fun _ => ⟨dec_iff.2 m2, dec_iff.2 m3, fun _ => ?_, fun he => ?_⟩⟩, fun h => (by rw [e1] at h; cases h)⟩
      · simp only [m1] at h; cases h
      · rcases m4 with ⟨q1, q2⟩ | ⟨hno, _⟩
        · show AV.one (.c (.bool (goodC (rdA ⟨l, r, c', d', 0, 0⟩ ⟨r, l, c', d'', 0, 0⟩).s (rdB ⟨l, r, c', d', 0, 0⟩ ⟨r, l, c', d'', 0, 0⟩).s))) = _
          rw [q1, q2, good_open hl hr hlr b1 (show 0 ≤ d' + 1 ∧ d' + 1 ≤ 100000 by omega)]
        · exact (hno ⟨rfl, b4⟩).elim
      · rcases m4 with ⟨q1, q2⟩ | ⟨hno, _⟩
        · simp only [q1] at he
          cases he
        · exact (hno ⟨rfl, b4⟩).elim

theorem close_val {s : Ses} (h : s.Ok) : closeS s = ⟨s.a, s.b, s.c, s.d, 0, 0⟩ := by
  unfold closeS clN
  rw [chk_iff.2 h]
  cases he : (s.e == 0)
  · rfl
  · have he' : s.e = 0 := by simpa using he
    have hf : s.f = 0 := by have := h.ef; omega
    rw [he', hf]
    rfl

end Go.Proofs.Ytgkgepgkeljclaa
