/-
  The session: a step of two ends keeps them in order.
-/
import Derived.Test.YtgkgepgkeljclaaSesI
namespace Go.Proofs.Ytgkgepgkeljclaa
open Go Go.Sx Classical

def Out.n : Out → Nat
  | none => 0
  | some (c, _) => c

theorem recv_n (rj h5 h w : Bool) (c d e f nu ep : Int) : (recv rj h5 h w c d e f nu ep).n ≤ 1 := by
  unfold recv
  have hb : ∀ (p : Bool) (x y : R), x.n ≤ 1 → y.n ≤ 1 → (bif p then x else y).n ≤ 1 := fun p x y h1 h2 => by cases p <;> assumption
  have h1 : (bif h5 then 1 else 0 : Nat) ≤ 1 := by cases h5 <;> simp
  refine hb _ _ _ (Nat.zero_le _) (hb _ _ _ h1 (hb _ _ _ (hb _ _ _ (Nat.le_refl _) (hb _ _ _ (Nat.le_refl _) (Nat.zero_le _))) (hb _ _ _ (hb _ _ _ (Nat.zero_le _) (hb _ _ _ (Nat.le_refl _) (Nat.zero_le _))) (hb _ _ _ (Nat.zero_le _) (Nat.zero_le _)))))

theorem b01 (p : Bool) : (bif p then 1 else 0 : Nat) ≤ 1 := by cases p <;> simp
theorem b10 (p : Bool) : (bif p then 0 else 1 : Nat) ≤ 1 := by cases p <;> simp

/-- what an end does, whatever it is -/
theorem act_all {s : Ses} {t : Sent} (ht : t.n ≤ 4611686018427387904) (kt now : Int) {w : Int} (hw : 0 ≤ w ∧ w ≤ 255) {Q : Ses × Out → Prop}
    (h1 : dlE s.a s.b s.c s.d s.e s.f now 3 = 0 → Q (dialS s now 3, some (outDial s now 3))) (h2 : Q (s, none)) (h3 : Q (expS s now 3, some (outExp s now 3))) (h4 : Q (closeS s, some (outClose s)))
    (h5 : ∀ i, i < t.n → Q (recvE s (elt t.ρ i), some (outRecv s (elt t.ρ i)))) : (actT s kt w now t).All Q := by
  refine ⟨fun _ => ⟨fun h => h1 (by simpa using h), fun _ => h2⟩, fun _ => ⟨fun _ => h3, fun _ => ⟨fun _ => h4, fun _ => ⟨fun hn => ?_, fun _ => h2⟩⟩⟩⟩
  have hn' : (0 : Int) < (t.n : Int) := (lt_iff _ _).1 hn
  have hp : 0 ≤ pos t w ∧ pos t w < (t.n : Int) := by
    unfold pos
    rw [w64_id (by omega) (by omega)]
    show 0 ≤ w.tmod (t.n : Int) ∧ w.tmod (t.n : Int) < (t.n : Int)
    rw [Int.tmod_eq_emod_of_nonneg hw.1]
    exact ⟨Int.emod_nonneg _ (by omega), Int.emod_lt_of_pos _ hn'⟩
  refine ⟨?_, inRange_iff.2 hp, h5 _ (by omega)⟩
  have : ¬ (t.n : Int) = 0 := by omega
  show (!((t.n : Int) == 0)) = true
  simp only [Bool.not_eq_true', beq_eq_false_iff_ne, ne_eq]
  exact this

theorem keep_all {t : Sent} {o : Out} (ht : t.n ≤ 1000000) (ho : o.n ≤ 1) {Q : Sent → Prop} (h : Q (t.add o)) : (keepT t o).All Q := by
  cases o with
  | none => exact h
  | some p =>
    obtain ⟨c, m⟩ := p
    refine ⟨?_, h⟩
    rw [Nat.ble_eq]
    simp only [Out.n] at ho
    omega

theorem add_n {t : Sent} {o : Out} (ho : o.n ≤ 1) : (t.add o).n ≤ t.n + 1 := by
  cases o with
  | none => simp [Sent.add]
  | some p => obtain ⟨c, m⟩ := p; simp only [Sent.add, Out.n] at *; omega

/-- a step keeps both ends in order -/
theorem step_goes {s0 s1 : Ses} (h0 : s0.Ok) (h1 : s1.Ok) {t : Sent} (ht : t.n ≤ 1000000) (x : Stp) (hw : 0 ≤ x.which ∧ x.which ≤ 255) (now : Int) :
    (stepT x now s0 s1 t).All fun y => Goes s0 y.1 ∧ Goes s1 y.2.1 ∧ y.2.2.n ≤ t.n + 1 := by
  have key : ∀ s : Ses, s.Ok → (actT s (x.kind.tmod 7) x.which now t).All fun y => Goes s y.1 ∧ Out.n y.2 ≤ 1 := fun s hs =>
    act_all (by omega) _ _ hw (fun h => ⟨dial_goes h, b01 _⟩) ⟨Goes.refl hs, Nat.zero_le _⟩ ⟨exp_goes hs _ _, by
      simp only [Out.n, outExp]
      cases xpN s.a s.b s.c s.d s.e s.f now <;> cases dln now 3 <;> simp⟩ ⟨close_goes hs, b10 _⟩ fun i _ => ⟨recv_goes hs _ _ _ _ _, recv_n _ _ _ _ _ _ _ _ _ _⟩
  refine ⟨fun _ => ⟨rfl, all_bind.2 (All.imp (fun y hy => all_bind.2 (keep_all ht hy.2 ?_)) (key s1 h1))⟩, fun _ => ⟨rfl, all_bind.2 (All.imp (fun y hy => all_bind.2 (keep_all ht hy.2 ?_)) (key s0 h0))⟩⟩
  · exact ⟨Goes.refl h0, hy.1, add_n hy.2⟩
  · exact ⟨hy.1, Goes.refl h1, add_n hy.2⟩

/-- the number with which an end was opened last is behind it -/
def Beh (s : Ses) (o : Int) : Prop := o ≤ s.d ∧ (s.e = 1 → o < s.d)

theorem good6 {s t : Ses} {o : Int} (h : Goes s t) (ho : Beh s o) : bad6 s t o = false ∧ Beh t (new6 s t o) := by
  unfold Beh at *
  have hk : chk t.a t.b t.c t.d t.e t.f = 0 := chk_iff.2 h.ok
  have e1 : dec6 s t = false := by
    unfold dec6
    rw [Bool.or_eq_false_iff, Bool.or_eq_false_iff, ← Bool.not_eq_true, ← Bool.not_eq_true, lt_iff, lt_iff, hk]
    have := h.c; have := h.d
    exact ⟨⟨by omega, by omega⟩, rfl⟩
  have hopn := h.opn
  have hdial := h.dial
  have hd := h.d
  unfold bad6 new6
  rw [e1, Bool.false_or]
  cases hq : opn6 s t
  · simp only [Bool.false_and, cond_false, true_and]
    refine ⟨by omega, fun h1 => ?_⟩
    have := hdial h1
    omega
  · unfold opn6 at hq
    simp only [Bool.and_eq_true, beq_iff_eq, Bool.or_eq_true, bne_iff_ne, ne_eq] at hq
    have := hopn hq.1
    have hlt : o < t.d := by omega
    simp only [Bool.true_and, cond_true]
    refine ⟨?_, by omega, fun h1 => by omega⟩
    rw [← Bool.not_eq_true, le_iff]; omega

/-- the invariant -/
structure Inv6 (k : K6) (v : V6) : Prop where
  i : 0 ≤ v.i ∧ v.i ≤ k.n
  n : k.n ≤ 60
  w : ∀ j, j < k.n → 0 ≤ (stp k.σ j).which ∧ (stp k.σ j).which ≤ 255
  t : v.t.n ≤ v.i
  s0 : v.s0.Ok
  s1 : v.s1.Ok
  o0 : Beh v.s0 v.o0
  o1 : Beh v.s1 v.o1

noncomputable def inv6 (k : K6) (v : V6) : Bool := dec (Inv6 k v)
def μ6 (k : K6) (v : V6) : Nat := (k.n - v.i).toNat

theorem rounds6 (k : K6) : Rounds (TX6 k) (fun v => inv6 k v = true) (μ6 k) (fun y => y.1 = .exit 0) := by
  intro v h
  have h := dec_iff.1 h
  have hn := h.n
  have hi := h.i
  have ht := h.t
  refine ⟨fun hlt => ?_, fun _ => rfl⟩
  have hlt' : v.i < (k.n : Int) := (lt_iff _ _).1 hlt
  refine ⟨inRange_iff.2 ⟨hi.1, hlt'⟩, all_bind.2 (All.imp (fun y hy => ?_) (step_goes h.s0 h.s1 (by omega) _ (h.w _ (by omega)) _))⟩
  obtain ⟨g0, g1, gn⟩ := hy
  obtain ⟨b0, o0⟩ := good6 g0 h.o0
  obtain ⟨b1, o1⟩ := good6 g1 h.o1
  refine ⟨fun hb => (by rw [b0] at hb; cases hb), fun _ => ⟨fun hb => (by rw [b1] at hb; cases hb), fun _ => ?_⟩⟩
  have hw1 : IntKind.i64.wrap (v.i + 1) = v.i + 1 := w64_id (by omega) (by omega)
  refine ⟨dec_iff.2 ⟨?_, hn, h.w, ?_, g0.ok, g1.ok, o0, o1⟩, ?_⟩
  · simp only [hw1]; omega
  · simp only [hw1]; omega
  · unfold μ6; simp only [hw1]; omega

def run6 (k : K6) (v : V6) : XE × V6 := fin (TX6 k) (μ6 k) v
def get6 : List (Nat × AV) → Mem → Option (K6 × V6)
  | [(1, .one (.c (.sl [.int .u8, .bool, .int .u8] n σ))), (4, .one (.c (.bool false))), (5, .one (.c (.ptr 0 0))), (7, .one (.c (.os 1 8))), (8, .one (.c (.ptr 2 0))), (9, .one (.c (.int .i64 i)))],
    [some (54, [.int .i64 a0, .int .i64 b0, .int .i64 c0, .int .i64 d0, .int .i64 e0, .int .i64 f0, .int .i64 a1, .int .i64 b1, .int .i64 c1, .int .i64 d1, .int .i64 e1, .int .i64 f1]),
      some (27, [.row false [.int .i64, .int .i64, .int .i64, .int .i64, .int .i64, .int .i64, .sl [.int .i64], .sl [.int .u8]] m ρ]), some (57, [.int .i64 o0, .int .i64 o1])] =>
    some (⟨n, σ⟩, ⟨⟨a0, b0, c0, d0, e0, f0⟩, ⟨a1, b1, c1, d1, e1, f1⟩, ⟨m, ρ⟩, o0, o1, i⟩)
  | _, _ => none

noncomputable def L60 : Nat → St → Tree (XE × St) := ownH [.own 7 27 msgSh] (loopH [1, 4, 5, 7, 8, 9] 0 111 get6 inv6 S6 run6 [.exit 0])

theorem l60 (fn : Func) (c b : Code) (hf : Try.prog.funcs[6]? = some fn) (hc' : fn.body = some c) (hb : nthLoop c 0 = some b) : LoopOk Try.prog b L60 :=
  ownH_ok _ (loopOk_of hk 10 6 0 hf hc' hb [1, 4, 5, 7, 8, 9] 0 111 S6 TX6 t6 get6 inv6 μ6 [.exit 0]
    (fun l m c v h => by unfold get6 at h; split at h <;> simp at h; obtain ⟨rfl, rfl⟩ := h; rfl) rounds6)

noncomputable abbrev H6' : Hd := ⟨HC.pc, HC.hc, [((6, 0), L60)]⟩
theorem h6' : HdOk Try.prog H6' := HdOk.lhCons hc l60

end Go.Proofs.Ytgkgepgkeljclaa
