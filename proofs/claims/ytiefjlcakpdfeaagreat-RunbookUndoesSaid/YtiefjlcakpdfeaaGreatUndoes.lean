/-
  Proved: for all few sites, all steps that set flags and every decision, a runbook that fails at some step leaves the sites as they were, and its protocol contains the steps before, the failure, and the undoing in reverse; one that does not fail carries all steps out (RunbookUndoes returns true for every input). No condition.
-/
import Derived.Test.YtiefjlcakpdfeaaGreatRuZE
import Derived.Test.YtiefjlcakpdfeaaGreatRows
import Derived.ProofKit
import Derived.OpenShut
import Derived.ChangeOld
import Derived.Below
namespace Go.Proofs.YtiefjlcakpdfeaaGreat.runbookUndoes
open Go Go.Sx Go.ChangeShapes Go.WideShapes Go.ChangeAt Go.RowKit
set_option maxRecDepth 100000 in
theorem walk (ρ0 : Val) (_ : wfL [.sl Ro.siSh] 0 ρ0) (ρ1 : Val) (w1 : wfL [.sl [.int .u8, .int .u8]] 0 ρ1) (ρ2 : Val) (w2 : wfL [.int .u8] 0 ρ2) (W : World) (vs : List Value)
    (h : All2 (A1.Rel (fun _ => False) W []) [argOf Tryz.prog 34 [.sl Ro.siSh] ρ0, argOf Tryz.prog 35 [.sl [.int .u8, .int .u8]] ρ1, argOf Tryz.prog 5 [.int .u8] ρ2] vs) :
    Calls Tryz.prog 4 vs.toArray W (fun e W' => e = .returned (.bool true) ∧ Below W.heap.size W W') := by
  rw [argS_eq, argT_eq, argB_eq] at h
  obtain ⟨h1, h2⟩ := u8_two w2.1
  exact law4 h1 h2 (fun j hj => u8_two (w1.1.2 j hj 0)) h
theorem own : ownKnob Tryz.prog.godebug = none := by kernel_rfl
theorem laidOut : laidOutB Tryz.prog = true := by kernel_rfl
set_option maxRecDepth 100000 in
theorem lifted (os : Os) (started : os.Started) (H : Type) (enc : TypeId × Value → H) :
    ReturnsInHanded {} Tryz.checked os 4 .any (Rows.runbookUndoesSpec.pre6 enc Tryz.prog Tryz.f4 Rows.runbookUndoesRow.domain false) (Rows.runbookUndoesSpec.post enc Tryz.prog Tryz.f4 false true false false) := by
  refine returnsInHanded_of_change (C := Tryz.checked) own started (by kernel_rfl) Tryz.func4
    (ChangeSpec.witness6 (enc := enc) (C := Tryz.checked) false ⟨#[], #[.slice none 0 0, .slice none 0 0, .int .u8 0], []⟩ 8 (by kernel_rfl) (by kernel_rfl) (by kernel_rfl) (by kernel_rfl)) ?_
  intro W base args ds gs before hval0 hW _ _
  have hval : ∀ (j : Nat) t v, Tryz.f4.params[j]? = some t → args[j]? = some v → Value.okWide Tryz.prog W .any base t v := hval0
  have hW' := hW
  obtain ⟨p, q, hA0, hV, rfl, _, _⟩ := hW
  have hA : DataW.TrodAll enc Tryz.prog W 0 (fun _ => true) true Tryz.f4.params.toList args.toList ds p := hA0
  rw [Tryz.params4] at hA hval
  obtain ⟨v0, vs0, d0, ds0, p0, q0, hargs, rfl, rfl, h0, r0⟩ := trodAll_cons hA
  obtain ⟨v1, vs1, d1, ds1, p1, q1, rfl, rfl, rfl, h1, r1⟩ := trodAll_cons r0
  obtain ⟨v2, vs2, d2, ds2, p2, q2, rfl, rfl, rfl, h2, r2⟩ := trodAll_cons r1
  obtain ⟨rfl, rfl, rfl⟩ := trodAll_nil r2
  obtain rfl : args = #[v0, v1, v2] := by cases args; simp_all
  obtain ⟨rfl, rfl⟩ := trodVars_none hV
  obtain ⟨ρ0, rel0, wf0⟩ := read_arg (m := 12) (es := [.sl [.int .i64, .int .i64, .int .i64, .int .i64, .sl [.int .i64, .int .i64, .int .i64], .int .i64, .bool, .bool]]) (hval 0 34 v0 rfl rfl) h0 (by kernel_rfl)
  obtain ⟨ρ1, rel1, wf1⟩ := read_arg (m := 12) (es := [.sl [.int .u8, .int .u8]]) (hval 1 35 v1 rfl rfl) h1 (by kernel_rfl)
  obtain ⟨ρ2, rel2, wf2⟩ := read_arg (m := 12) (es := [.int .u8]) (hval 2 5 v2 rfl rfl) h2 (by kernel_rfl)
  clear hA0 hval0
  refine (walk ρ0 wf0 ρ1 wf1 ρ2 wf2 W [v0, v1, v2] (.cons rel0 ( .cons rel1 ( .cons rel2 (.nil))))).mono fun e W' ⟨he, bel⟩ => ?_
  subst he
  exact ⟨_, rfl, _, _, _, [], _, [], hW', trodAll_mk1 (shut_bool Tryz.underlying4 _), (trodAll_cons_mk (trod_keep laidOut (by kernel_rfl) (of_decide_eq_true (by kernel_rfl)) h0 bel) (trodAll_cons_mk (trod_keep laidOut (by kernel_rfl) (of_decide_eq_true (by kernel_rfl)) h1 bel) (trodAll_cons_mk (trod_keep laidOut (by kernel_rfl) (of_decide_eq_true (by kernel_rfl)) h2 bel) trodAll_mk0))), rfl, bel.frame _, fun h => by cases h⟩
/-- The given statement. -/
theorem proved : Rows.RunbookUndoesSaid :=
  OpenClaim.holds_of_wide 4 Tryz.f4 rfl rfl rfl rfl rfl rfl rfl ⟨rfl, rfl, rfl, rfl, rfl⟩ rfl rfl rfl rfl rfl (by kernel_rfl) Tryz.func4 (by kernel_rfl)
    (of_decide_eq_true (by kernel_rfl)) (by unfold Func.isWrapper; rw [if_neg (of_decide_eq_false (by kernel_rfl))]; exact ⟨rfl, rfl⟩)
    (fun os started H enc _ => lifted os started H enc)

#print axioms proved
end Go.Proofs.YtiefjlcakpdfeaaGreat.runbookUndoes
