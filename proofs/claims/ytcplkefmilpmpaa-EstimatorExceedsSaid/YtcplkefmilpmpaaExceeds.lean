/-
  Proved: for every list of steps (samples and time-outs), Timeout is always greater than Mean, never becomes less by Expired, and doubles until it would exceed 65536 (EstimatorExceeds returns true for every input). No condition.
-/
import Derived.Test.YtcplkefmilpmpaaEstE
import Derived.Test.YtcplkefmilpmpaaRows
import Derived.ProofKit
import Derived.OpenShut
import Derived.ChangeOld
import Derived.Below
namespace Go.Proofs.Ytcplkefmilpmpaa.estimatorExceeds
open Go Go.Sx Go.ChangeShapes Go.WideShapes Go.ChangeAt Go.RowKit


structure K where
  n : Nat
  ρ : Val
structure V where
  i : Int
  a : Int
  b : Int
  c : Int
  d : Int

def S (k : K) (v : V) : St := mkS 81 [(0, .one (.c (.sl stepSh k.n k.ρ))), (3, .one (.c (.ptr 0 0))), (4, .one (.c (I v.i)))] [some (23, [I v.a, I v.b, I v.c, I v.d])]

/-- what the law looks for -/
def bad (a b c d : Int) (l : Bool) : Bool :=
  le (tmo a b c d) (mean a b c d) || lt (tmo a b c (expd a b c d)) (tmo a b c d) || l && le (IntKind.i64.wrap (2 * tmo a b c d)) 65536 && tmo a b c (expd a b c d) != IntKind.i64.wrap (2 * tmo a b c d) ||
    lt (tmo a b c d) (tmo a b c (expd a b c d)) && lt 65536 (tmo a b c (expd a b c d))

def TX (k : K) (v : V) : Tree (XE × V) :=
  let t := IntKind.i64.wrap (tmT k.ρ v.i.toNat)
  let a := bif ok v.a v.b v.c v.d t then sA v.a else 0
  let b := bif ok v.a v.b v.c v.d t then sB v.a v.b t else 0
  let c := bif ok v.a v.b v.c v.d t then sC v.a v.b v.c t else 0
  let d := expd v.a v.b v.c v.d
  .br (lt v.i (toInt64 k.n))
    (.need (inRange v.i k.n)
      (.br (exB k.ρ v.i.toNat) (.br (bad v.a v.b v.c d (lt d 12)) (.leaf (.ret, { v with d := d })) (.leaf (.normal, { v with i := IntKind.i64.wrap (v.i + 1), d := d })))
        (.need (inRange v.i k.n)
          (.br (sE v.a v.b v.c v.d t == 0) (.br (bad a b c 0 true) (.leaf (.ret, ⟨v.i, a, b, c, 0⟩)) (.leaf (.normal, ⟨IntKind.i64.wrap (v.i + 1), a, b, c, 0⟩)))
            (.leaf (.ret, v))))))
    (.leaf (.exit 0, v))

def get : List (Nat × AV) → Mem → Option (K × V)
  | [(0, .one (.c (.sl [.bool, .int .u16] n ρ))), (3, .one (.c (.ptr 0 0))), (4, .one (.c (.int .i64 i)))], [some (23, [.int .i64 a, .int .i64 b, .int .i64 c, .int .i64 d])] => some (⟨n, ρ⟩, ⟨i, a, b, c, d⟩)
  | _, _ => none

def Inv (k : K) (v : V) : Prop := 0 ≤ v.i ∧ v.i ≤ k.n ∧ k.n ≤ 200 ∧ (∀ j, j < k.n → 0 ≤ tmT k.ρ j ∧ tmT k.ρ j ≤ 65535) ∧ small v.a v.b v.c v.d ∧ v.a ≤ v.i
noncomputable def inv (k : K) (v : V) : Bool := dec (Inv k v)
def μ (k : K) (v : V) : Nat := (k.n - v.i).toNat

theorem not_bad {a b c d : Int} (h : small a b c d) (l : Bool) (hl : l = true → d < 12) : bad a b c d l = false := by
  have hv := small_vld h
  obtain ⟨he, hd⟩ := small_exp h
  have hv2 := small_vld he
  have hm := small_mean h
  unfold small at h
  have hb : 1 ≤ base a b c ∧ b / 8 < base a b c ∧ base a b c ≤ 400000 := by
    unfold base
    by_cases h0 : a = 0
    · subst h0
      have : lt 0 0 = false := rfl
      rw [this]
      simp only [cond_false]; omega
    · have : lt 0 a = true := (lt_iff 0 a).2 (by omega)
      rw [this]
      simp only [cond_true]; omega
  have hp := pow_bd (d := d) (by omega)
  have hmul := mul_bd (x := base a b c) (d := d) (by omega) (by omega) (by omega)
  have hge : base a b c ≤ base a b c * 2 ^ d.toNat := by
    have := Int.mul_le_mul (Int.le_refl (base a b c)) hp.2 (by omega) (by omega)
    omega
  have ht : tmo a b c d = min (base a b c * 2 ^ d.toNat) (max (base a b c) 65536) := by
    unfold tmo; rw [hv]; rfl
  have hu : tmo a b c (expd a b c d) = min (base a b c * 2 ^ (expd a b c d).toNat) (max (base a b c) 65536) := by
    unfold tmo; rw [hv2]; rfl
  have hstep : (d = 12 ∧ (expd a b c d).toNat = d.toNat) ∨ (d < 12 ∧ base a b c * 2 ^ (expd a b c d).toNat = 2 * (base a b c * 2 ^ d.toNat)) := by
    rw [hd]
    by_cases h12 : d = 12
    · left; exact ⟨h12, by omega⟩
    · right
      refine ⟨by omega, ?_⟩
      rw [show (min (d + 1) 12).toNat = d.toNat + 1 by omega, Int.pow_succ, ← Int.mul_assoc, Int.mul_comm _ 2]
  unfold bad
  rw [hm, ht, hu]
  generalize hP : base a b c * 2 ^ d.toNat = P at *
  rw [w64_id (x := 2 * _) (by omega) (by omega)]
  rw [Bool.eq_false_iff]
  intro hbad
  simp only [Bool.or_eq_true, Bool.and_eq_true, bne_iff_ne, ne_eq, lt_iff, le_iff] at hbad
  rcases hstep with ⟨h12, e⟩ | ⟨h12, e⟩
  · rw [e, hP] at hbad
    rcases hbad with ((hbad | hbad) | ⟨⟨hbad, _⟩, _⟩) | hbad
    · omega
    · omega
    · have := hl hbad; omega
    · omega
  · rw [e] at hbad
    rcases hbad with ((hbad | hbad) | ⟨⟨_, hbad⟩, _⟩) | hbad <;> omega

theorem rounds (k : K) : Rounds (TX k) (fun v => inv k v = true) (μ k) (fun y => y.1 = .exit 0) := by
  intro v h
  have h := dec_iff.1 h
  obtain ⟨i, a, b, c, d⟩ := v
  obtain ⟨h1, h2, h3, h4, h5, h6⟩ := h
  simp only at h1 h2 h5 h6
  refine ⟨fun hlt => ?_, fun _ => rfl⟩
  have hi : i < k.n := (lt_iff _ _).1 hlt
  have hr : inRange i k.n = true := inRange_iff.2 ⟨h1, hi⟩
  have ht := h4 i.toNat (by omega)
  have hw1 : IntKind.i64.wrap (i + 1) = i + 1 := w64_id (by omega) (by omega)
  have hso := small_ok h5 ht
  have hsn := small_next h5 (by omega) ht
  refine ⟨hr, fun _ => ⟨fun hbad => ?_, fun _ => ?_⟩, fun _ => ⟨hr, fun _ => ⟨fun hbad => ?_, fun _ => ?_⟩, fun hne => ?_⟩⟩
  · simp only at hbad
    rw [not_bad (small_exp h5).1 _ (fun h => (lt_iff _ _).1 h)] at hbad
    cases hbad
  · simp only [hw1]
    exact ⟨dec_iff.2 ⟨by simp only; omega, by simp only; omega, h3, h4, (small_exp h5).1, by simp only; omega⟩, by unfold μ; simp only; omega⟩
  · simp only [w_small ht, hso.1, cond_true, hsn.1] at hbad
    rw [not_bad hsn.2 _ (fun _ => by omega)] at hbad
    cases hbad
  · simp only [w_small ht, hso.1, cond_true, hsn.1, hw1]
    exact ⟨dec_iff.2 ⟨by simp only; omega, by simp only; omega, h3, h4, hsn.2, by simp only; omega⟩, by unfold μ; simp only; omega⟩
  · simp only [w_small ht, hso.2] at hne
    cases hne

def run (k : K) (v : V) : XE × V := fin (TX k) (μ k) v
noncomputable def L : St → Tree (XE × St) := loopH [0, 3, 4] 1 81 get inv S run [.exit 0]

set_option maxRecDepth 100000

theorem lok (fn : Func) (c b : Code) (hf : Try.prog.funcs[6]? = some fn) (hc : fn.body = some c) (hb : nthLoop c 0 = some b) : LoopOk Try.prog b L :=
  loopOk_of h5 10 6 0 hf hc hb [0, 3, 4] 1 81 S TX (fun k v => by kernel_rfl) get inv μ [.exit 0]
    (fun l m c v h => by unfold get at h; split at h <;> simp at h; obtain ⟨rfl, rfl⟩ := h; rfl) rounds

noncomputable abbrev H : Hd := ⟨H5.pc, [((6, 0), L)]⟩
theorem hok : HdOk Try.prog H := HdOk.lhCons h5 lok

theorem walk (ρ0 : Val) (w0 : wfL [.sl [.bool, .int .u16]] 0 ρ0) (W : World) (vs : List Value) (h : All2 (A1.Rel (fun _ => False) W []) [argOf Try.prog 36 [.sl [.bool, .int .u16]] ρ0] vs) :
    Calls Try.prog 6 vs.toArray W (fun e W' => e = .returned (.bool true) ∧ Below W.heap.size W W') := by
  obtain ⟨n, ρ, ha, ht⟩ := steps_arg ρ0 w0
  rw [ha] at h
  have hc : (evFn Try.prog H 10 6 [.c (.sl stepSh n ρ)] []).conds = .br (lt 200 (toInt64 n)) (Tree.leaf PUnit.unit) (.need (inv ⟨n, ρ⟩ ⟨0, 0, 0, 0, 0⟩) (.need (eqXE (run ⟨n, ρ⟩ ⟨0, 0, 0, 0, 0⟩).1 (XE.exit 0)) (.leaf PUnit.unit))) := by kernel_rfl
  have hr : (evFn Try.prog H 10 6 [.c (.sl stepSh n ρ)] []).res = .one (.c (.bool (bif lt 200 (toInt64 n) then true else true))) := by kernel_rfl
  have start : lt 200 (toInt64 n) = false → inv ⟨n, ρ⟩ ⟨0, 0, 0, 0, 0⟩ = true := fun hn =>
    dec_iff.2 ⟨by simp, by simp, few_of (m := 200) hn, ht, small_zero, by simp⟩
  exact law_of_ev hok 10 6 (needs_of_conds hc ⟨fun _ => trivial, fun hn => ⟨start hn, eqXE_iff.2 (fin_of (rounds _) (start hn)), trivial⟩⟩) hr (Bool.cond_self _ _) h

theorem own : ownKnob Try.prog.godebug = none := by kernel_rfl
theorem laidOut : laidOutB Try.prog = true := by kernel_rfl
set_option maxRecDepth 100000 in
theorem lifted (os : Os) (started : os.Started) (H : Type) (enc : TypeId × Value → H) :
    ReturnsInHanded {} Try.checked os 6 .any (Rows.estimatorExceedsSpec.pre6 enc Try.prog Try.f6 Rows.estimatorExceedsRow.domain false) (Rows.estimatorExceedsSpec.post enc Try.prog Try.f6 false true false false) := by
  refine returnsInHanded_of_change (C := Try.checked) own started (by kernel_rfl) Try.func6
    (ChangeSpec.witness6 (enc := enc) (C := Try.checked) false ⟨#[], #[.slice none 0 0], []⟩ 8 (by kernel_rfl) (by kernel_rfl) (by kernel_rfl) (by kernel_rfl)) ?_
  intro W base args ds gs before hval0 hW _ _
  have hval : ∀ (j : Nat) t v, Try.f6.params[j]? = some t → args[j]? = some v → Value.okWide Try.prog W .any base t v := hval0
  have hW' := hW
  obtain ⟨p, q, hA0, hV, rfl, _, _⟩ := hW
  have hA : DataW.TrodAll enc Try.prog W 0 (fun _ => true) true Try.f6.params.toList args.toList ds p := hA0
  rw [Try.params6] at hA hval
  obtain ⟨v0, vs0, d0, ds0, p0, q0, hargs, rfl, rfl, h0, r0⟩ := trodAll_cons hA
  obtain ⟨rfl, rfl, rfl⟩ := trodAll_nil r0
  obtain rfl : args = #[v0] := by cases args; simp_all
  obtain ⟨rfl, rfl⟩ := trodVars_none hV
  obtain ⟨ρ0, rel0, wf0⟩ := read_arg (m := 12) (es := [.sl [.bool, .int .u16]]) (hval 0 36 v0 rfl rfl) h0 (by kernel_rfl)
  clear hA0 hval0
  refine (walk ρ0 wf0 W [v0] (.cons rel0 (.nil))).mono fun e W' ⟨he, bel⟩ => ?_
  subst he
  exact ⟨_, rfl, _, _, _, [], _, [], hW', trodAll_mk1 (shut_bool Try.underlying4 _), (trodAll_cons_mk (trod_keep laidOut (by kernel_rfl) (of_decide_eq_true (by kernel_rfl)) h0 bel) trodAll_mk0), rfl, bel.frame _, fun h => by cases h⟩

/-- The given statement. -/
theorem proved : Rows.EstimatorExceedsSaid :=
  OpenClaim.holds_of_wide 6 Try.f6 rfl rfl rfl rfl rfl rfl rfl ⟨rfl, rfl, rfl, rfl, rfl⟩ rfl rfl rfl rfl rfl (by kernel_rfl) Try.func6 (by kernel_rfl)
    (of_decide_eq_true (by kernel_rfl)) (by unfold Func.isWrapper; rw [if_neg (of_decide_eq_false (by kernel_rfl))]; exact ⟨rfl, rfl⟩)
    (fun os started H enc _ => lifted os started H enc)

#print axioms proved
end Go.Proofs.Ytcplkefmilpmpaa.estimatorExceeds
