/-
  Proved: for every list of steps (samples and time-outs), Mean is never less than the least sample and never greater than the greatest one (EstimatorBounds returns true for every input). No condition.
-/
import Derived.Test.YtcplkefmilpmpaaEstE
import Derived.Test.YtcplkefmilpmpaaRows
import Derived.ProofKit
import Derived.OpenShut
import Derived.ChangeOld
import Derived.Below
namespace Go.Proofs.Ytcplkefmilpmpaa.estimatorBounds
open Go Go.Sx Go.ChangeShapes Go.WideShapes Go.ChangeAt Go.RowKit


structure K where
  n : Nat
  ρ : Val
structure V where
  low : Int
  high : Int
  any : Bool
  i : Int
  a : Int
  b : Int
  c : Int
  d : Int

def S (k : K) (v : V) : St := mkS 71 [(0, .one (.c (.sl stepSh k.n k.ρ))), (3, .one (.c (.ptr 0 0))), (4, .one (.c (I v.low))), (5, .one (.c (I v.high))), (6, .one (.c (.bool v.any))), (7, .one (.c (I v.i)))] [some (23, [I v.a, I v.b, I v.c, I v.d])]

def TX (k : K) (v : V) : Tree (XE × V) :=
  let t := IntKind.i64.wrap (tmT k.ρ v.i.toNat)
  let a := bif ok v.a v.b v.c v.d t then sA v.a else 0
  let b := bif ok v.a v.b v.c v.d t then sB v.a v.b t else 0
  let c := bif ok v.a v.b v.c v.d t then sC v.a v.b v.c t else 0
  let m := mean a b c 0
  .br (lt v.i (toInt64 k.n))
    (.need (inRange v.i k.n)
      (.br (exB k.ρ v.i.toNat) (.leaf (.normal, { v with i := IntKind.i64.wrap (v.i + 1), d := expd v.a v.b v.c v.d }))
        (.need (inRange v.i k.n)
          (.br (sE v.a v.b v.c v.d t != 0) (.leaf (.ret, v))
            (.br (!v.any)
              (.br (lt m (imin t t) || lt (imax t t) m) (.leaf (.ret, ⟨imin t t, imax t t, true, v.i, a, b, c, 0⟩)) (.leaf (.normal, ⟨imin t t, imax t t, true, IntKind.i64.wrap (v.i + 1), a, b, c, 0⟩)))
              (.br (lt m (imin v.low t) || lt (imax v.high t) m) (.leaf (.ret, ⟨imin v.low t, imax v.high t, v.any, v.i, a, b, c, 0⟩)) (.leaf (.normal, ⟨imin v.low t, imax v.high t, v.any, IntKind.i64.wrap (v.i + 1), a, b, c, 0⟩))))))))
    (.leaf (.exit 0, v))

def get : List (Nat × AV) → Mem → Option (K × V)
  | [(0, .one (.c (.sl [.bool, .int .u16] n ρ))), (3, .one (.c (.ptr 0 0))), (4, .one (.c (.int .i64 low))), (5, .one (.c (.int .i64 high))), (6, .one (.c (.bool any))), (7, .one (.c (.int .i64 i)))], [some (23, [.int .i64 a, .int .i64 b, .int .i64 c, .int .i64 d])] => some (⟨n, ρ⟩, ⟨low, high, any, i, a, b, c, d⟩)
  | _, _ => none

def Inv (k : K) (v : V) : Prop := 0 ≤ v.i ∧ v.i ≤ k.n ∧ k.n ≤ 200 ∧ (∀ j, j < k.n → 0 ≤ tmT k.ρ j ∧ tmT k.ρ j ≤ 65535) ∧ small v.a v.b v.c v.d ∧ v.a ≤ v.i ∧
  (v.any = true → 0 < v.a ∧ 8 * v.low ≤ v.b ∧ v.b ≤ 8 * v.high + 7) ∧ (v.any = false → v.a = 0)
noncomputable def inv (k : K) (v : V) : Bool := dec (Inv k v)
def μ (k : K) (v : V) : Nat := (k.n - v.i).toNat

theorem rounds (k : K) : Rounds (TX k) (fun v => inv k v = true) (μ k) (fun y => y.1 = .exit 0 ∧ small y.2.a y.2.b y.2.c y.2.d) := by
  intro v h
  have h := dec_iff.1 h
  obtain ⟨low, high, any, i, a, b, c, d⟩ := v
  obtain ⟨h1, h2, h3, h4, h5, h6, h7, h8⟩ := h
  simp only at h1 h2 h5 h6 h7 h8
  refine ⟨fun hlt => ?_, fun _ => ⟨rfl, h5⟩⟩
  have hi : i < k.n := (lt_iff _ _).1 hlt
  have hr : inRange i k.n = true := inRange_iff.2 ⟨h1, hi⟩
  have ht := h4 i.toNat (by omega)
  have hw1 : IntKind.i64.wrap (i + 1) = i + 1 := w64_id (by omega) (by omega)
  have hso := small_ok h5 ht
  have hsn := small_next h5 (by omega) ht
  have hm := small_mean hsn.2
  have h5' := h5
  unfold small at h5'
  refine ⟨hr, fun _ => ?_, fun _ => ⟨hr, fun hne => ?_, fun _ => ⟨fun hany => ⟨fun hbad => ?_, fun hgood => ?_⟩, fun hany => ⟨fun hbad => ?_, fun hgood => ?_⟩⟩⟩⟩
  · simp only [hw1]
    exact ⟨dec_iff.2 ⟨by simp only; omega, by simp only; omega, h3, h4, (small_exp h5).1, by simp only; omega, h7, h8⟩, by unfold μ; simp only; omega⟩
  · simp only [w_small ht, hso.2] at hne
    cases hne
  · have ha : any = false := by cases any <;> first | rfl | cases hany
    have ha0 := h8 ha
    subst ha0
    exfalso
    simp only [w_small ht, hso.1, cond_true, hsn.1, hm, imin_eq, imax_eq, Bool.or_eq_true, lt_iff] at hbad
    simp only [sB, BEq.rfl, cond_true] at hbad
    omega
  · have ha : any = false := by cases any <;> first | rfl | cases hany
    have ha0 := h8 ha
    subst ha0
    simp only [w_small ht, hso.1, cond_true, hsn.1, hw1, imin_eq, imax_eq]
    refine ⟨dec_iff.2 ⟨by simp only; omega, by simp only; omega, h3, h4, hsn.2, by simp only; omega, fun _ => ?_, fun h => by cases h⟩, by unfold μ; simp only; omega⟩
    simp only [sB, BEq.rfl, cond_true]
    omega
  · have ha : any = true := by cases any <;> first | rfl | cases hany
    obtain ⟨g1, g2, g3⟩ := h7 ha
    exfalso
    simp only [w_small ht, hso.1, cond_true, hsn.1, hm, imin_eq, imax_eq, Bool.or_eq_true, lt_iff] at hbad
    have : (a == 0) = false := by simp; omega
    simp only [sB, this, cond_false] at hbad
    omega
  · have ha : any = true := by cases any <;> first | rfl | cases hany
    obtain ⟨g1, g2, g3⟩ := h7 ha
    simp only [w_small ht, hso.1, cond_true, hsn.1, hw1, imin_eq, imax_eq]
    refine ⟨dec_iff.2 ⟨by simp only; omega, by simp only; omega, h3, h4, hsn.2, by simp only; omega, fun _ => ?_, fun h => by rw [ha] at h; cases h⟩, by unfold μ; simp only; omega⟩
    have : (a == 0) = false := by simp; omega
    simp only [sB, this, cond_false]
    omega

def run (k : K) (v : V) : XE × V := fin (TX k) (μ k) v
noncomputable def L : St → Tree (XE × St) := loopH [0, 3, 4, 5, 6, 7] 1 71 get inv S run [.exit 0]

set_option maxRecDepth 100000

theorem lok (fn : Func) (c b : Code) (hf : Try.prog.funcs[5]? = some fn) (hc : fn.body = some c) (hb : nthLoop c 0 = some b) : LoopOk Try.prog b L :=
  loopOk_of h5 10 5 0 hf hc hb [0, 3, 4, 5, 6, 7] 1 71 S TX (fun k v => by kernel_rfl) get inv μ [.exit 0]
    (fun l m c v h => by unfold get at h; split at h <;> simp at h; obtain ⟨rfl, rfl⟩ := h; rfl) rounds

noncomputable abbrev H : Hd := ⟨H5.pc, [((5, 0), L)]⟩
theorem hok : HdOk Try.prog H := HdOk.lhCons h5 lok

theorem walk (ρ0 : Val) (w0 : wfL [.sl [.bool, .int .u16]] 0 ρ0) (W : World) (vs : List Value) (h : All2 (A1.Rel (fun _ => False) W []) [argOf Try.prog 36 [.sl [.bool, .int .u16]] ρ0] vs) :
    Calls Try.prog 5 vs.toArray W (fun e W' => e = .returned (.bool true) ∧ Below W.heap.size W W') := by
  obtain ⟨n, ρ, ha, ht⟩ := steps_arg ρ0 w0
  rw [ha] at h
  have hc : (evFn Try.prog H 10 5 [.c (.sl stepSh n ρ)] []).conds = .br (lt 200 (toInt64 n)) (Tree.leaf PUnit.unit) (.need (inv ⟨n, ρ⟩ ⟨0, 0, false, 0, 0, 0, 0, 0⟩) (.need (eqXE (run ⟨n, ρ⟩ ⟨0, 0, false, 0, 0, 0, 0, 0⟩).1 (XE.exit 0)) (.leaf PUnit.unit))) := by kernel_rfl
  have hr : (evFn Try.prog H 10 5 [.c (.sl stepSh n ρ)] []).res = .one (.c (.bool (lt 200 (toInt64 n) || true && chk (run ⟨n, ρ⟩ ⟨0, 0, false, 0, 0, 0, 0, 0⟩).2.a (run ⟨n, ρ⟩ ⟨0, 0, false, 0, 0, 0, 0, 0⟩).2.b (run ⟨n, ρ⟩ ⟨0, 0, false, 0, 0, 0, 0, 0⟩).2.c (run ⟨n, ρ⟩ ⟨0, 0, false, 0, 0, 0, 0, 0⟩).2.d == 0))) := by kernel_rfl
  have start : lt 200 (toInt64 n) = false → inv ⟨n, ρ⟩ ⟨0, 0, false, 0, 0, 0, 0, 0⟩ = true := fun hn => by
    exact dec_iff.2 ⟨by simp, by simp, few_of (m := 200) hn, ht, small_zero, by simp, (fun h => by cases h), fun _ => rfl⟩
  refine law_of_ev hok 10 5 (needs_of_conds hc ⟨fun _ => trivial, fun hn => ⟨start hn, eqXE_iff.2 (fin_of (rounds _) (start hn)).1, trivial⟩⟩) hr ?_ h
  cases hn : lt 200 (toInt64 n)
  · have := small_vld (fin_of (rounds ⟨n, ρ⟩) (start hn)).2
    have e : chk (run ⟨n, ρ⟩ ⟨0, 0, false, 0, 0, 0, 0, 0⟩).2.a (run ⟨n, ρ⟩ ⟨0, 0, false, 0, 0, 0, 0, 0⟩).2.b (run ⟨n, ρ⟩ ⟨0, 0, false, 0, 0, 0, 0, 0⟩).2.c (run ⟨n, ρ⟩ ⟨0, 0, false, 0, 0, 0, 0, 0⟩).2.d = 0 := by
      unfold chk run; rw [this]; rfl
    rw [e]; rfl
  · rfl

theorem own : ownKnob Try.prog.godebug = none := by kernel_rfl
theorem laidOut : laidOutB Try.prog = true := by kernel_rfl
set_option maxRecDepth 100000 in
theorem lifted (os : Os) (started : os.Started) (H : Type) (enc : TypeId × Value → H) :
    ReturnsInHanded {} Try.checked os 5 .any (Rows.estimatorBoundsSpec.pre6 enc Try.prog Try.f5 Rows.estimatorBoundsRow.domain false) (Rows.estimatorBoundsSpec.post enc Try.prog Try.f5 false true false false) := by
  refine returnsInHanded_of_change (C := Try.checked) own started (by kernel_rfl) Try.func5
    (ChangeSpec.witness6 (enc := enc) (C := Try.checked) false ⟨#[], #[.slice none 0 0], []⟩ 8 (by kernel_rfl) (by kernel_rfl) (by kernel_rfl) (by kernel_rfl)) ?_
  intro W base args ds gs before hval0 hW _ _
  have hval : ∀ (j : Nat) t v, Try.f5.params[j]? = some t → args[j]? = some v → Value.okWide Try.prog W .any base t v := hval0
  have hW' := hW
  obtain ⟨p, q, hA0, hV, rfl, _, _⟩ := hW
  have hA : DataW.TrodAll enc Try.prog W 0 (fun _ => true) true Try.f5.params.toList args.toList ds p := hA0
  rw [Try.params5] at hA hval
  obtain ⟨v0, vs0, d0, ds0, p0, q0, hargs, rfl, rfl, h0, r0⟩ := trodAll_cons hA
  obtain ⟨rfl, rfl, rfl⟩ := trodAll_nil r0
  obtain rfl : args = #[v0] := by cases args; simp_all
  obtain ⟨rfl, rfl⟩ := trodVars_none hV
  obtain ⟨ρ0, rel0, wf0⟩ := read_arg (m := 12) (es := [.sl [.bool, .int .u16]]) (hval 0 36 v0 rfl rfl) h0 (by kernel_rfl)
  clear hA0 hval0
  refine (walk ρ0 wf0 W [v0] (.cons rel0 (.nil))).mono fun e W' ⟨he, bel⟩ => ?_
  subst he
  exact ⟨_, rfl, _, _, _, [], _, [], hW', trodAll_mk1 (shut_bool Try.underlying4 _), (trodAll_cons_mk (trod_keep laidOut (by kernel_rfl) (of_decide_eq_true (by kernel_rfl)) h0 bel) trodAll_mk0), rfl, bel.frame _, fun h => by cases h⟩

/-- The given statement. -/
theorem proved : Rows.EstimatorBoundsSaid :=
  OpenClaim.holds_of_wide 5 Try.f5 rfl rfl rfl rfl rfl rfl rfl ⟨rfl, rfl, rfl, rfl, rfl⟩ rfl rfl rfl rfl rfl (by kernel_rfl) Try.func5 (by kernel_rfl)
    (of_decide_eq_true (by kernel_rfl)) (by unfold Func.isWrapper; rw [if_neg (of_decide_eq_false (by kernel_rfl))]; exact ⟨rfl, rfl⟩)
    (fun os started H enc _ => lifted os started H enc)

#print axioms proved
end Go.Proofs.Ytcplkefmilpmpaa.estimatorBounds
