/-
  Proved: for every list of steps and every two times, a longer sample never makes Mean less (EstimatorOrders returns true for every input). No condition.
-/
import Derived.Test.YtcplkefmilpmpaaEstE
import Derived.Test.YtcplkefmilpmpaaRows
import Derived.ProofKit
import Derived.OpenShut
import Derived.ChangeOld
import Derived.Below
namespace Go.Proofs.Ytcplkefmilpmpaa.estimatorOrders
open Go Go.Sx Go.ChangeShapes Go.WideShapes Go.ChangeAt Go.RowKit


structure K where
  n : Nat
  ρ : Val
  t : Int
  u : Int
structure V where
  i : Int
  a : Int
  b : Int
  c : Int
  d : Int

def S (k : K) (v : V) : St := mkS 82 [(0, .one (.c (.sl stepSh k.n k.ρ))), (1, .one (.c (.int .u16 k.t))), (2, .one (.c (.int .u16 k.u))), (7, .one (.c (.ptr 0 0))), (8, .one (.c (I v.i)))] [some (23, [I v.a, I v.b, I v.c, I v.d])]

def TX (k : K) (v : V) : Tree (XE × V) :=
  let t := IntKind.i64.wrap (tmT k.ρ v.i.toNat)
  let a := bif ok v.a v.b v.c v.d t then sA v.a else 0
  let b := bif ok v.a v.b v.c v.d t then sB v.a v.b t else 0
  let c := bif ok v.a v.b v.c v.d t then sC v.a v.b v.c t else 0
  .br (lt v.i (toInt64 k.n))
    (.need (inRange v.i k.n)
      (.br (sE v.a v.b v.c v.d t != 0) (.leaf (.ret, v)) (.leaf (.normal, ⟨IntKind.i64.wrap (v.i + 1), a, b, c, 0⟩))))
    (.leaf (.exit 0, v))

def get : List (Nat × AV) → Mem → Option (K × V)
  | [(0, .one (.c (.sl [.bool, .int .u16] n ρ))), (1, .one (.c (.int .u16 t))), (2, .one (.c (.int .u16 u))), (7, .one (.c (.ptr 0 0))), (8, .one (.c (.int .i64 i)))],
    [some (23, [.int .i64 a, .int .i64 b, .int .i64 c, .int .i64 d])] => some (⟨n, ρ, t, u⟩, ⟨i, a, b, c, d⟩)
  | _, _ => none

def Inv (k : K) (v : V) : Prop := 0 ≤ v.i ∧ v.i ≤ k.n ∧ k.n ≤ 100 ∧ (∀ j, j < k.n → 0 ≤ tmT k.ρ j ∧ tmT k.ρ j ≤ 65535) ∧ small v.a v.b v.c v.d ∧ v.a ≤ v.i
noncomputable def inv (k : K) (v : V) : Bool := dec (Inv k v)
def μ (k : K) (v : V) : Nat := (k.n - v.i).toNat

theorem rounds (k : K) : Rounds (TX k) (fun v => inv k v = true) (μ k) (fun y => y.1 = .exit 0 ∧ small y.2.a y.2.b y.2.c y.2.d ∧ y.2.a ≤ 100) := by
  intro v h
  have h := dec_iff.1 h
  obtain ⟨i, a, b, c, d⟩ := v
  obtain ⟨h1, h2, h3, h4, h5, h6⟩ := h
  simp only at h1 h2 h5 h6
  refine ⟨fun hlt => ?_, fun _ => ⟨rfl, h5, by simp only; omega⟩⟩
  have hi : i < k.n := (lt_iff _ _).1 hlt
  have hr : inRange i k.n = true := inRange_iff.2 ⟨h1, hi⟩
  have ht := h4 i.toNat (by omega)
  have hw1 : IntKind.i64.wrap (i + 1) = i + 1 := w64_id (by omega) (by omega)
  have hso := small_ok h5 ht
  have hsn := small_next h5 (by omega) ht
  refine ⟨hr, fun hne => ?_, fun _ => ?_⟩
  · simp only [w_small ht, hso.2] at hne
    cases hne
  · simp only [w_small ht, hso.1, cond_true, hsn.1, hw1]
    exact ⟨dec_iff.2 ⟨by simp only; omega, by simp only; omega, h3, h4, hsn.2, by simp only; omega⟩, by unfold μ; simp only; omega⟩

def run (k : K) (v : V) : XE × V := fin (TX k) (μ k) v
noncomputable def L : St → Tree (XE × St) := loopH [0, 1, 2, 7, 8] 1 82 get inv S run [.exit 0]

set_option maxRecDepth 100000

theorem lok (fn : Func) (c b : Code) (hf : Try.prog.funcs[9]? = some fn) (hc : fn.body = some c) (hb : nthLoop c 0 = some b) : LoopOk Try.prog b L :=
  loopOk_of h5 10 9 0 hf hc hb [0, 1, 2, 7, 8] 1 82 S TX (fun k v => by kernel_rfl) get inv μ [.exit 0]
    (fun l m c v h => by unfold get at h; split at h <;> simp at h; obtain ⟨rfl, rfl⟩ := h; rfl) rounds

noncomputable abbrev H : Hd := ⟨H5.pc, [((9, 0), L)]⟩
theorem hok : HdOk Try.prog H := HdOk.lhCons h5 lok

/-- the law's answer, out of the loop's last state -/
def ans (v : V) (t u : Int) : Bool :=
  let a := bif ok v.a v.b v.c v.d t then sA v.a else 0
  let b := bif ok v.a v.b v.c v.d t then sB v.a v.b t else 0
  let c := bif ok v.a v.b v.c v.d t then sC v.a v.b v.c t else 0
  let a' := bif ok v.a v.b v.c v.d u then sA v.a else 0
  let b' := bif ok v.a v.b v.c v.d u then sB v.a v.b u else 0
  let c' := bif ok v.a v.b v.c v.d u then sC v.a v.b v.c u else 0
  true && sE v.a v.b v.c v.d t == 0 && sE v.a v.b v.c v.d u == 0 && le (mean a b c 0) (mean a' b' c' 0) && a == IntKind.i64.wrap (v.a + 1)

theorem ans_true {v : V} {t u : Int} (h5 : small v.a v.b v.c v.d) (h6 : v.a ≤ 100) (ht : 0 ≤ t ∧ t ≤ 65535) (hu : 0 ≤ u ∧ u ≤ 65535) (htu : t ≤ u) : ans v t u = true := by
  obtain ⟨i, a, b, c, d⟩ := v
  simp only at h5 h6
  have hso := small_ok h5 ht
  have hso' := small_ok h5 hu
  have hsn := small_next h5 (by omega) ht
  have hsn' := small_next h5 (by omega) hu
  have hm := small_mean hsn.2
  have hm' := small_mean hsn'.2
  unfold ans
  simp only [hso.1, hso.2, hso'.1, hso'.2, cond_true, hsn.1, hm, hm']
  have h5' := h5
  unfold small at h5'
  have hle : le (sB a b t / 8) (sB a b u / 8) = true := by
    rw [le_iff]
    unfold sB
    by_cases h0 : a = 0
    · subst h0
      simp only [BEq.rfl, cond_true]; omega
    · have e : (a == 0) = false := by simpa using h0
      rw [e]
      simp only [cond_false]; omega
  rw [hle, w64_id (x := a + 1) (by omega) (by omega)]
  simp

theorem walk (ρ0 : Val) (w0 : wfL [.sl [.bool, .int .u16]] 0 ρ0) (ρ1 : Val) (w1 : wfL [.int .u16] 0 ρ1) (ρ2 : Val) (w2 : wfL [.int .u16] 0 ρ2) (W : World) (vs : List Value)
    (h : All2 (A1.Rel (fun _ => False) W []) [argOf Try.prog 36 [.sl [.bool, .int .u16]] ρ0, argOf Try.prog 37 [.int .u16] ρ1, argOf Try.prog 37 [.int .u16] ρ2] vs) :
    Calls Try.prog 9 vs.toArray W (fun e W' => e = .returned (.bool true) ∧ Below W.heap.size W W') := by
  obtain ⟨n, ρ, ha, ht⟩ := steps_arg ρ0 w0
  obtain ⟨t, hb, hb'⟩ : ∃ t, argOf Try.prog 37 [.int .u16] ρ1 = .c (.int .u16 t) ∧ 0 ≤ t ∧ t ≤ 65535 := ⟨(ρ1.at 0).N [], by kernel_rfl, u16_bd w1.1⟩
  obtain ⟨u, hd, hd'⟩ : ∃ t, argOf Try.prog 37 [.int .u16] ρ2 = .c (.int .u16 t) ∧ 0 ≤ t ∧ t ≤ 65535 := ⟨(ρ2.at 0).N [], by kernel_rfl, u16_bd w2.1⟩
  rw [ha, hb, hd] at h
  have hc : (evFn Try.prog H 10 9 [.c (.sl stepSh n ρ), .c (.int .u16 t), .c (.int .u16 u)] []).conds = .br (lt 100 (toInt64 n)) (Tree.leaf PUnit.unit) (.need (inv ⟨n, ρ, t, u⟩ ⟨0, 0, 0, 0, 0⟩) (.need (eqXE (run ⟨n, ρ, t, u⟩ ⟨0, 0, 0, 0, 0⟩).1 (XE.exit 0)) (.leaf PUnit.unit))) := by kernel_rfl
  have hr : (evFn Try.prog H 10 9 [.c (.sl stepSh n ρ), .c (.int .u16 t), .c (.int .u16 u)] []).res = .one (.c (.bool (lt 100 (toInt64 n) || ans (run ⟨n, ρ, t, u⟩ ⟨0, 0, 0, 0, 0⟩).2 (IntKind.i64.wrap (imin t u)) (IntKind.i64.wrap (imax t u))))) := by kernel_rfl
  have start : lt 100 (toInt64 n) = false → inv ⟨n, ρ, t, u⟩ ⟨0, 0, 0, 0, 0⟩ = true := fun hn =>
    dec_iff.2 ⟨by simp, by simp, few_of (m := 100) hn, ht, small_zero, by simp⟩
  refine law_of_ev hok 10 9 (needs_of_conds hc ⟨fun _ => trivial, fun hn => ⟨start hn, eqXE_iff.2 (fin_of (rounds _) (start hn)).1, trivial⟩⟩) hr ?_ h
  cases hn : lt 100 (toInt64 n)
  · obtain ⟨_, g1, g2⟩ := fin_of (rounds ⟨n, ρ, t, u⟩) (start hn)
    rw [imin_eq, imax_eq, w_small (t := min t u) (by omega), w_small (t := max t u) (by omega)]
    exact ans_true g1 g2 (by omega) (by omega) (by omega)
  · rfl

theorem own : ownKnob Try.prog.godebug = none := by kernel_rfl
theorem laidOut : laidOutB Try.prog = true := by kernel_rfl
set_option maxRecDepth 100000 in
theorem lifted (os : Os) (started : os.Started) (H : Type) (enc : TypeId × Value → H) :
    ReturnsInHanded {} Try.checked os 9 .any (Rows.estimatorOrdersSpec.pre6 enc Try.prog Try.f9 Rows.estimatorOrdersRow.domain false) (Rows.estimatorOrdersSpec.post enc Try.prog Try.f9 false true false false) := by
  refine returnsInHanded_of_change (C := Try.checked) own started (by kernel_rfl) Try.func9
    (ChangeSpec.witness6 (enc := enc) (C := Try.checked) false ⟨#[], #[.slice none 0 0, .int .u16 0, .int .u16 0], []⟩ 8 (by kernel_rfl) (by kernel_rfl) (by kernel_rfl) (by kernel_rfl)) ?_
  intro W base args ds gs before hval0 hW _ _
  have hval : ∀ (j : Nat) t v, Try.f9.params[j]? = some t → args[j]? = some v → Value.okWide Try.prog W .any base t v := hval0
  have hW' := hW
  obtain ⟨p, q, hA0, hV, rfl, _, _⟩ := hW
  have hA : DataW.TrodAll enc Try.prog W 0 (fun _ => true) true Try.f9.params.toList args.toList ds p := hA0
  rw [Try.params9] at hA hval
  obtain ⟨v0, vs0, d0, ds0, p0, q0, hargs, rfl, rfl, h0, r0⟩ := trodAll_cons hA
  obtain ⟨v1, vs1, d1, ds1, p1, q1, rfl, rfl, rfl, h1, r1⟩ := trodAll_cons r0
  obtain ⟨v2, vs2, d2, ds2, p2, q2, rfl, rfl, rfl, h2, r2⟩ := trodAll_cons r1
  obtain ⟨rfl, rfl, rfl⟩ := trodAll_nil r2
  obtain rfl : args = #[v0, v1, v2] := by cases args; simp_all
  obtain ⟨rfl, rfl⟩ := trodVars_none hV
  obtain ⟨ρ0, rel0, wf0⟩ := read_arg (m := 12) (es := [.sl [.bool, .int .u16]]) (hval 0 36 v0 rfl rfl) h0 (by kernel_rfl)
  obtain ⟨ρ1, rel1, wf1⟩ := read_arg (m := 12) (es := [.int .u16]) (hval 1 37 v1 rfl rfl) h1 (by kernel_rfl)
  obtain ⟨ρ2, rel2, wf2⟩ := read_arg (m := 12) (es := [.int .u16]) (hval 2 37 v2 rfl rfl) h2 (by kernel_rfl)
  clear hA0 hval0
  refine (walk ρ0 wf0 ρ1 wf1 ρ2 wf2 W [v0, v1, v2] (.cons rel0 ( .cons rel1 ( .cons rel2 (.nil))))).mono fun e W' ⟨he, bel⟩ => ?_
  subst he
  exact ⟨_, rfl, _, _, _, [], _, [], hW', trodAll_mk1 (shut_bool Try.underlying4 _), (trodAll_cons_mk (trod_keep laidOut (by kernel_rfl) (of_decide_eq_true (by kernel_rfl)) h0 bel) (trodAll_cons_mk (trod_keep laidOut (by kernel_rfl) (of_decide_eq_true (by kernel_rfl)) h1 bel) (trodAll_cons_mk (trod_keep laidOut (by kernel_rfl) (of_decide_eq_true (by kernel_rfl)) h2 bel) trodAll_mk0))), rfl, bel.frame _, fun h => by cases h⟩

/-- The given statement. -/
theorem proved : Rows.EstimatorOrdersSaid :=
  OpenClaim.holds_of_wide 9 Try.f9 rfl rfl rfl rfl rfl rfl rfl ⟨rfl, rfl, rfl, rfl, rfl⟩ rfl rfl rfl rfl rfl (by kernel_rfl) Try.func9 (by kernel_rfl)
    (of_decide_eq_true (by kernel_rfl)) (by unfold Func.isWrapper; rw [if_neg (of_decide_eq_false (by kernel_rfl))]; exact ⟨rfl, rfl⟩)
    (fun os started H enc _ => lifted os started H enc)

#print axioms proved
end Go.Proofs.Ytcplkefmilpmpaa.estimatorOrders
