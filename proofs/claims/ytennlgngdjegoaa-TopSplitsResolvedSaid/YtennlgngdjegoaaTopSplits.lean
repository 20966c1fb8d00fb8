/-
  Proved: for all numbers of cycles, when one of both primaries is declared the winner, it is the only primary, and when the loser was resynchronized from it, nothing has diverged any more (TopSplitsResolved returns true for every input). No condition.
-/
import Derived.Test.YtennlgngdjegoaaTsB
import Derived.Test.YtennlgngdjegoaaRows
import Derived.ProofKit
import Derived.OpenShut
import Derived.ChangeOld
import Derived.Below
namespace Go.Proofs.Ytennlgngdjegoaa.topSplitsResolved
open Go Go.Sx Go.ChangeShapes Go.WideShapes Go.ChangeAt Go.RowKit


set_option maxRecDepth 100000 in
theorem walk (ρ0 : Val) (hw0 : wfL [.int .u8] 0 ρ0) (ρ1 : Val) (hw1 : wfL [.int .u8] 0 ρ1) (ρ2 : Val) (hw2 : wfL [.int .u8, .int .u8, .int .u8] 0 ρ2) (W : World) (vs : List Value)
    (h : All2 (A1.Rel (fun _ => False) W []) [argOf Try.prog 5 [.int .u8] ρ0, argOf Try.prog 5 [.int .u8] ρ1, argOf Try.prog 22 [.int .u8, .int .u8, .int .u8] ρ2] vs) :
    Calls Try.prog 3 vs.toArray W (fun e W' => e = .returned (.bool true) ∧ Below W.heap.size W W') := by
  rw [Ts.argB_eq, Ts.argB_eq, Ts.argT_eq] at h
  obtain ⟨h0, h1, h2⟩ := Ts.byts3 hw2
  exact Ts.lawSplit _ _ _ _ _ (Ts.byt_of hw0) (Ts.byt_of hw1) h0 h1 h2 h

theorem own : ownKnob Try.prog.godebug = none := by kernel_rfl
theorem laidOut : laidOutB Try.prog = true := by kernel_rfl
set_option maxRecDepth 100000 in
theorem lifted (os : Os) (started : os.Started) (H : Type) (enc : TypeId × Value → H) :
    ReturnsInHanded {} Try.checked os 3 .any (Rows.topSplitsResolvedSpec.pre6 enc Try.prog Try.f3 Rows.topSplitsResolvedRow.domain false) (Rows.topSplitsResolvedSpec.post enc Try.prog Try.f3 false true false false) := by
  refine returnsInHanded_of_change (C := Try.checked) own started (by kernel_rfl) Try.func3
    (ChangeSpec.witness6 (enc := enc) (C := Try.checked) false ⟨#[], #[.int .u8 0, .int .u8 0, .agg #[.int .u8 0, .int .u8 0, .int .u8 0]], []⟩ 8 (by kernel_rfl) (by kernel_rfl) (by kernel_rfl) (by kernel_rfl)) ?_
  intro W base args ds gs before hval0 hW _ _
  have hval : ∀ (j : Nat) t v, Try.f3.params[j]? = some t → args[j]? = some v → Value.okWide Try.prog W .any base t v := hval0
  have hW' := hW
  obtain ⟨p, q, hA0, hV, rfl, _, _⟩ := hW
  have hA : DataW.TrodAll enc Try.prog W 0 (fun _ => true) true Try.f3.params.toList args.toList ds p := hA0
  rw [Try.params3] at hA hval
  obtain ⟨v0, vs0, d0, ds0, p0, q0, hargs, rfl, rfl, h0, r0⟩ := trodAll_cons hA
  obtain ⟨v1, vs1, d1, ds1, p1, q1, rfl, rfl, rfl, h1, r1⟩ := trodAll_cons r0
  obtain ⟨v2, vs2, d2, ds2, p2, q2, rfl, rfl, rfl, h2, r2⟩ := trodAll_cons r1
  obtain ⟨rfl, rfl, rfl⟩ := trodAll_nil r2
  obtain rfl : args = #[v0, v1, v2] := by cases args; simp_all
  obtain ⟨rfl, rfl⟩ := trodVars_none hV
  obtain ⟨ρ0, rel0, wf0⟩ := read_arg (m := 12) (es := [.int .u8]) (hval 0 5 v0 rfl rfl) h0 (by kernel_rfl)
  obtain ⟨ρ1, rel1, wf1⟩ := read_arg (m := 12) (es := [.int .u8]) (hval 1 5 v1 rfl rfl) h1 (by kernel_rfl)
  obtain ⟨ρ2, rel2, wf2⟩ := read_arg (m := 12) (es := [.int .u8, .int .u8, .int .u8]) (hval 2 22 v2 rfl rfl) h2 (by kernel_rfl)
  clear hA0 hval0
  refine (walk ρ0 wf0 ρ1 wf1 ρ2 wf2 W [v0, v1, v2] (.cons rel0 ( .cons rel1 ( .cons rel2 (.nil))))).mono fun e W' ⟨he, bel⟩ => ?_
  subst he
  exact ⟨_, rfl, _, _, _, [], _, [], hW', trodAll_mk1 (shut_bool Try.underlying4 _), (trodAll_cons_mk (trod_keep laidOut (by kernel_rfl) (of_decide_eq_true (by kernel_rfl)) h0 bel) (trodAll_cons_mk (trod_keep laidOut (by kernel_rfl) (of_decide_eq_true (by kernel_rfl)) h1 bel) (trodAll_cons_mk (trod_keep laidOut (by kernel_rfl) (of_decide_eq_true (by kernel_rfl)) h2 bel) trodAll_mk0))), rfl, bel.frame _, fun h => by cases h⟩

/-- The given statement. -/
theorem proved : Rows.TopSplitsResolvedSaid :=
  OpenClaim.holds_of_wide 3 Try.f3 rfl rfl rfl rfl rfl rfl rfl ⟨rfl, rfl, rfl, rfl, rfl⟩ rfl rfl rfl rfl rfl (by kernel_rfl) Try.func3 (by kernel_rfl)
    (of_decide_eq_true (by kernel_rfl)) (by unfold Func.isWrapper; rw [if_neg (of_decide_eq_false (by kernel_rfl))]; exact ⟨rfl, rfl⟩)
    (fun os started H enc _ => lifted os started H enc)

#print axioms proved
end Go.Proofs.Ytennlgngdjegoaa.topSplitsResolved
