/-
  Proved: for every time, if all samples are equal, Mean is the sample and Timeout never grows from one sample to the next; after 100 samples of at most 10000 it is greater than the sample by at most 3 (EstimatorSettles returns true for every input). No condition.
-/
import Derived.Test.YtcplkefmilpmpaaEstE
import Derived.Test.YtcplkefmilpmpaaRows
import Derived.ProofKit
import Derived.OpenShut
import Derived.ChangeOld
import Derived.Below
namespace Go.Proofs.Ytcplkefmilpmpaa.estimatorSettles
open Go Go.Sx Go.ChangeShapes Go.WideShapes Go.ChangeAt Go.RowKit


structure K where
  t : Int
structure V where
  last : Int
  i : Int
  a : Int
  b : Int
  c : Int
  d : Int

def S (k : K) (v : V) : St := mkS 51 [(3, .one (.c (I k.t))), (4, .one (.c (.ptr 0 0))), (5, .one (.c (I v.last))), (6, .one (.c (I v.i)))] [some (23, [I v.a, I v.b, I v.c, I v.d])]

def TX (k : K) (v : V) : Tree (XE × V) :=
  let a := bif ok v.a v.b v.c v.d k.t then sA v.a else 0
  let b := bif ok v.a v.b v.c v.d k.t then sB v.a v.b k.t else 0
  let c := bif ok v.a v.b v.c v.d k.t then sC v.a v.b v.c k.t else 0
  .br (lt v.i 100)
    (.br (sE v.a v.b v.c v.d k.t != 0 || mean a b c 0 != k.t || lt v.last (tmo a b c 0)) (.leaf (.ret, ⟨v.last, v.i, a, b, c, 0⟩))
      (.leaf (.normal, ⟨tmo a b c 0, IntKind.i64.wrap (v.i + 1), a, b, c, 0⟩)))
    (.leaf (.exit 0, v))

def get : List (Nat × AV) → Mem → Option (K × V)
  | [(3, .one (.c (.int .i64 t))), (4, .one (.c (.ptr 0 0))), (5, .one (.c (.int .i64 last))), (6, .one (.c (.int .i64 i)))], [some (23, [.int .i64 a, .int .i64 b, .int .i64 c, .int .i64 d])] => some (⟨t⟩, ⟨last, i, a, b, c, d⟩)
  | _, _ => none

/-- what is left of the variation -/
def U : Nat → Int
  | 0 => 20000
  | n + 1 => U n - U n / 4

def Inv (k : K) (v : V) : Prop := 0 ≤ k.t ∧ k.t ≤ 65535 ∧ 0 ≤ v.i ∧ v.i ≤ 100 ∧ v.a = v.i ∧ v.d = 0 ∧ small v.a v.b v.c v.d ∧
  (v.i = 0 → v.last = 1099511627776) ∧ (0 < v.i → v.b = 8 * k.t ∧ v.last = max (max (k.t + v.c) (k.t + 1)) 2 ∧ (k.t ≤ 10000 → v.c ≤ U (v.i.toNat - 1)))
noncomputable def inv (k : K) (v : V) : Bool := dec (Inv k v)
def μ (_ : K) (v : V) : Nat := (100 - v.i).toNat

theorem small_tmo {a b c d : Int} (h : small a b c d) (ha : 0 < a) (hd : d = 0) : tmo a b c d = max (max (b / 8 + c) (b / 8 + 1)) 2 := by
  unfold tmo base
  rw [small_vld h, (lt_iff 0 a).2 ha, hd]
  unfold small at h
  simp only [cond_true, Int.toNat_zero, Int.pow_zero, Int.mul_one]
  omega

theorem rounds (k : K) : Rounds (TX k) (fun v => inv k v = true) (μ k) (fun y => y.1 = .exit 0 ∧ (k.t ≤ 10000 → y.2.last ≤ max (k.t + 3) 2)) := by
  intro v h
  have h := dec_iff.1 h
  obtain ⟨last, i, a, b, c, d⟩ := v
  obtain ⟨t⟩ := k
  obtain ⟨h1, h2, h3, h4, h5, h6, h7, h8, h9⟩ := h
  simp only at h1 h2 h3 h4 h5 h6 h7 h8 h9
  refine ⟨fun hlt => ?_, fun hge => ⟨rfl, fun ht => ?_⟩⟩
  · have hi : i < 100 := (lt_iff _ _).1 hlt
    have hw1 : IntKind.i64.wrap (i + 1) = i + 1 := w64_id (by omega) (by omega)
    have hso := small_ok h7 ⟨h1, h2⟩
    have hsn := small_next (t := t) h7 (by omega) ⟨h1, h2⟩
    have hm := small_mean hsn.2
    have ht := small_tmo hsn.2 (by omega) rfl
    have hbt : sB a b t = 8 * t := by
      unfold sB
      by_cases h0 : a = 0
      · subst h0; rfl
      · have e : (a == 0) = false := by simpa using h0
        rw [e, (h9 (by omega)).1]
        simp only [cond_false]; omega
    rw [hbt] at hm ht
    have hct : (a = 0 → sC a b c t = 2 * t) ∧ (0 < a → sC a b c t = c - c / 4) := by
      unfold sC
      refine ⟨fun h0 => by subst h0; rfl, fun h0 => ?_⟩
      have e : (a == 0) = false := by simp; omega
      rw [e, (h9 (by omega)).1]
      simp only [cond_false]; omega
    have hc7 : 0 ≤ c ∧ c ≤ 262143 := by unfold small at h7; omega
    refine ⟨fun hbad => ?_, fun _ => ?_⟩
    · exfalso
      simp only [hso.1, hso.2, cond_true, hsn.1, hm, ht, hbt, Bool.or_eq_true, bne_iff_ne, ne_eq, lt_iff, not_true_eq_false, false_or] at hbad
      by_cases h0 : i = 0
      · have := h8 h0
        have := hct.1 (by omega)
        omega
      · have := h9 (by omega)
        have := hct.2 (by omega)
        omega
    · simp only [hso.1, cond_true, hsn.1, hbt, ht, hw1]
      refine ⟨dec_iff.2 ⟨h1, h2, by simp only; omega, by simp only; omega, by simp only; omega, rfl, hbt ▸ hsn.2, fun h => by simp only at h; omega, fun _ => ⟨rfl, ?_, fun htt => ?_⟩⟩, by unfold μ; simp only; omega⟩
      · simp only; omega
      · simp only at htt ⊢
        by_cases h0 : i = 0
        · subst h0
          have := hct.1 (by omega)
          show _ ≤ (20000 : Int)
          omega
        · have h99 := (h9 (by omega)).2.2 htt
          have := hct.2 (by omega)
          have e : (i + 1).toNat - 1 = (i.toNat - 1) + 1 := by omega
          rw [e]
          simp only [U]
          omega
  · simp only at ht ⊢
    have := lt_false hge
    simp only at this
    have hi : i = 100 := by omega
    subst hi
    have h99 := h9 (by omega)
    have hc := h99.2.2 ht
    have hu : U ((100 : Int).toNat - 1) = 3 := by decide +kernel
    rw [hu] at hc
    omega

def run (k : K) (v : V) : XE × V := fin (TX k) (μ k) v
noncomputable def L : St → Tree (XE × St) := loopH [3, 4, 5, 6] 1 51 get inv S run [.exit 0]

set_option maxRecDepth 100000

theorem lok (fn : Func) (c b : Code) (hf : Try.prog.funcs[7]? = some fn) (hc : fn.body = some c) (hb : nthLoop c 0 = some b) : LoopOk Try.prog b L :=
  loopOk_of h5 10 7 0 hf hc hb [3, 4, 5, 6] 1 51 S TX (fun k v => by kernel_rfl) get inv μ [.exit 0]
    (fun l m c v h => by unfold get at h; split at h <;> simp at h; obtain ⟨rfl, rfl⟩ := h; rfl) rounds

noncomputable abbrev H : Hd := ⟨H5.pc, [((7, 0), L)]⟩
theorem hok : HdOk Try.prog H := HdOk.lhCons h5 lok

theorem walk (ρ0 : Val) (w0 : wfL [.int .u16] 0 ρ0) (W : World) (vs : List Value) (h : All2 (A1.Rel (fun _ => False) W []) [argOf Try.prog 37 [.int .u16] ρ0] vs) :
    Calls Try.prog 7 vs.toArray W (fun e W' => e = .returned (.bool true) ∧ Below W.heap.size W W') := by
  obtain ⟨t, ha, ht⟩ : ∃ t, argOf Try.prog 37 [.int .u16] ρ0 = .c (.int .u16 t) ∧ 0 ≤ t ∧ t ≤ 65535 := ⟨(ρ0.at 0).N [], by kernel_rfl, u16_bd w0.1⟩
  rw [ha] at h
  have hw := w_small ht
  have hinv : inv ⟨IntKind.i64.wrap t⟩ ⟨1099511627776, 0, 0, 0, 0, 0⟩ = true := by
    rw [hw]
    exact dec_iff.2 ⟨ht.1, ht.2, by simp, by simp, rfl, rfl, small_zero, fun _ => rfl, fun h => by simp at h⟩
  have hf := fin_of (rounds _) hinv
  have hc : (evFn Try.prog H 10 7 [.c (.int .u16 t)] []).conds = .need (inv ⟨IntKind.i64.wrap t⟩ ⟨1099511627776, 0, 0, 0, 0, 0⟩) (.need (eqXE (run ⟨IntKind.i64.wrap t⟩ ⟨1099511627776, 0, 0, 0, 0, 0⟩).1 (XE.exit 0)) (.leaf PUnit.unit)) := by kernel_rfl
  have hr : (evFn Try.prog H 10 7 [.c (.int .u16 t)] []).res = .one (.c (.bool (true && (lt 10000 (IntKind.i64.wrap t) || le (run ⟨IntKind.i64.wrap t⟩ ⟨1099511627776, 0, 0, 0, 0, 0⟩).2.last (imax (IntKind.i64.wrap (IntKind.i64.wrap t + 3)) 2))))) := by kernel_rfl
  refine law_of_ev hok 10 7 (needs_of_conds hc ⟨hinv, eqXE_iff.2 hf.1, trivial⟩) hr ?_ h
  rw [Bool.true_and]
  have hl := hf.2
  simp only [hw] at hl ⊢
  rw [imax_eq, w64_id (x := t + 3) (by omega) (by omega)]
  rw [Bool.or_eq_true, lt_iff, le_iff]
  rcases Int.lt_or_le 10000 t with h1 | h1
  · exact .inl h1
  · exact .inr (hl h1)

theorem own : ownKnob Try.prog.godebug = none := by kernel_rfl
theorem laidOut : laidOutB Try.prog = true := by kernel_rfl
set_option maxRecDepth 100000 in
theorem lifted (os : Os) (started : os.Started) (H : Type) (enc : TypeId × Value → H) :
    ReturnsInHanded {} Try.checked os 7 .any (Rows.estimatorSettlesSpec.pre6 enc Try.prog Try.f7 Rows.estimatorSettlesRow.domain false) (Rows.estimatorSettlesSpec.post enc Try.prog Try.f7 false true false false) := by
  refine returnsInHanded_of_change (C := Try.checked) own started (by kernel_rfl) Try.func7
    (ChangeSpec.witness6 (enc := enc) (C := Try.checked) false ⟨#[], #[.int .u16 0], []⟩ 8 (by kernel_rfl) (by kernel_rfl) (by kernel_rfl) (by kernel_rfl)) ?_
  intro W base args ds gs before hval0 hW _ _
  have hval : ∀ (j : Nat) t v, Try.f7.params[j]? = some t → args[j]? = some v → Value.okWide Try.prog W .any base t v := hval0
  have hW' := hW
  obtain ⟨p, q, hA0, hV, rfl, _, _⟩ := hW
  have hA : DataW.TrodAll enc Try.prog W 0 (fun _ => true) true Try.f7.params.toList args.toList ds p := hA0
  rw [Try.params7] at hA hval
  obtain ⟨v0, vs0, d0, ds0, p0, q0, hargs, rfl, rfl, h0, r0⟩ := trodAll_cons hA
  obtain ⟨rfl, rfl, rfl⟩ := trodAll_nil r0
  obtain rfl : args = #[v0] := by cases args; simp_all
  obtain ⟨rfl, rfl⟩ := trodVars_none hV
  obtain ⟨ρ0, rel0, wf0⟩ := read_arg (m := 12) (es := [.int .u16]) (hval 0 37 v0 rfl rfl) h0 (by kernel_rfl)
  clear hA0 hval0
  refine (walk ρ0 wf0 W [v0] (.cons rel0 (.nil))).mono fun e W' ⟨he, bel⟩ => ?_
  subst he
  exact ⟨_, rfl, _, _, _, [], _, [], hW', trodAll_mk1 (shut_bool Try.underlying4 _), (trodAll_cons_mk (trod_keep laidOut (by kernel_rfl) (of_decide_eq_true (by kernel_rfl)) h0 bel) trodAll_mk0), rfl, bel.frame _, fun h => by cases h⟩

/-- The given statement. -/
theorem proved : Rows.EstimatorSettlesSaid :=
  OpenClaim.holds_of_wide 7 Try.f7 rfl rfl rfl rfl rfl rfl rfl ⟨rfl, rfl, rfl, rfl, rfl⟩ rfl rfl rfl rfl rfl (by kernel_rfl) Try.func7 (by kernel_rfl)
    (of_decide_eq_true (by kernel_rfl)) (by unfold Func.isWrapper; rw [if_neg (of_decide_eq_false (by kernel_rfl))]; exact ⟨rfl, rfl⟩)
    (fun os started H enc _ => lifted os started H enc)

#print axioms proved
end Go.Proofs.Ytcplkefmilpmpaa.estimatorSettles
