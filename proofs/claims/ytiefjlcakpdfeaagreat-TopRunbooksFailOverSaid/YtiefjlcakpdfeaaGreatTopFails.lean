/-
  Proved: for all fleets of three sites, a runbook that fails over to a site does what the procedure does step by step, and an error of the procedure leaves all sites as they are; a condition that is not satisfied prevents both (TopRunbooksFailOver returns true for every input). No condition.
-/
import Derived.Test.YtiefjlcakpdfeaaGreatTrZE
import Derived.Test.YtiefjlcakpdfeaaGreatRows
import Derived.ProofKit
import Derived.OpenShut
import Derived.ChangeOld
import Derived.Below
namespace Go.Proofs.YtiefjlcakpdfeaaGreat.topRunbooksFailOver
open Go Go.Sx Go.ChangeShapes Go.WideShapes Go.ChangeAt Go.RowKit
set_option maxRecDepth 100000 in
theorem walk (ρ0 : Val) (_ : wfL [.int .u8] 0 ρ0) (ρ1 : Val) (w1 : wfL [.int .u8] 0 ρ1) (ρ2 : Val) (w2 : wfL [.int .u8] 0 ρ2) (W : World) (vs : List Value)
    (h : All2 (A1.Rel (fun _ => False) W []) [argOf Tryz.prog 5 [.int .u8] ρ0, argOf Tryz.prog 5 [.int .u8] ρ1, argOf Tryz.prog 5 [.int .u8] ρ2] vs) :
    Calls Tryz.prog 6 vs.toArray W (fun e W' => e = .returned (.bool true) ∧ Below W.heap.size W W') := by
  rw [argU_eq, argU_eq, argU_eq] at h
  exact law6 (u8_of w1) (u8_of w2) h
theorem own : ownKnob Tryz.prog.godebug = none := by kernel_rfl
theorem laidOut : laidOutB Tryz.prog = true := by kernel_rfl
set_option maxRecDepth 100000 in
theorem lifted (os : Os) (started : os.Started) (H : Type) (enc : TypeId × Value → H) :
    ReturnsInHanded {} Tryz.checked os 6 .any (Rows.topRunbooksFailOverSpec.pre6 enc Tryz.prog Tryz.f6 Rows.topRunbooksFailOverRow.domain false) (Rows.topRunbooksFailOverSpec.post enc Tryz.prog Tryz.f6 false true false false) := by
  refine returnsInHanded_of_change (C := Tryz.checked) own started (by kernel_rfl) Tryz.func6
    (ChangeSpec.witness6 (enc := enc) (C := Tryz.checked) false ⟨#[], #[.int .u8 0, .int .u8 0, .int .u8 0], []⟩ 8 (by kernel_rfl) (by kernel_rfl) (by kernel_rfl) (by kernel_rfl)) ?_
  intro W base args ds gs before hval0 hW _ _
  have hval : ∀ (j : Nat) t v, Tryz.f6.params[j]? = some t → args[j]? = some v → Value.okWide Tryz.prog W .any base t v := hval0
  have hW' := hW
  obtain ⟨p, q, hA0, hV, rfl, _, _⟩ := hW
  have hA : DataW.TrodAll enc Tryz.prog W 0 (fun _ => true) true Tryz.f6.params.toList args.toList ds p := hA0
  rw [Tryz.params6] at hA hval
  obtain ⟨v0, vs0, d0, ds0, p0, q0, hargs, rfl, rfl, h0, r0⟩ := trodAll_cons hA
  obtain ⟨v1, vs1, d1, ds1, p1, q1, rfl, rfl, rfl, h1, r1⟩ := trodAll_cons r0
  obtain ⟨v2, vs2, d2, ds2, p2, q2, rfl, rfl, rfl, h2, r2⟩ := trodAll_cons r1
  obtain ⟨rfl, rfl, rfl⟩ := trodAll_nil r2
  obtain rfl : args = #[v0, v1, v2] := by cases args; simp_all
  obtain ⟨rfl, rfl⟩ := trodVars_none hV
  obtain ⟨ρ0, rel0, wf0⟩ := read_arg (m := 12) (es := [.int .u8]) (hval 0 5 v0 rfl rfl) h0 (by kernel_rfl)
  obtain ⟨ρ1, rel1, wf1⟩ := read_arg (m := 12) (es := [.int .u8]) (hval 1 5 v1 rfl rfl) h1 (by kernel_rfl)
  obtain ⟨ρ2, rel2, wf2⟩ := read_arg (m := 12) (es := [.int .u8]) (hval 2 5 v2 rfl rfl) h2 (by kernel_rfl)
  clear hA0 hval0
  refine (walk ρ0 wf0 ρ1 wf1 ρ2 wf2 W [v0, v1, v2] (.cons rel0 ( .cons rel1 ( .cons rel2 (.nil))))).mono fun e W' ⟨he, bel⟩ => ?_
  subst he
  exact ⟨_, rfl, _, _, _, [], _, [], hW', trodAll_mk1 (shut_bool Tryz.underlying4 _), (trodAll_cons_mk (trod_keep laidOut (by kernel_rfl) (of_decide_eq_true (by kernel_rfl)) h0 bel) (trodAll_cons_mk (trod_keep laidOut (by kernel_rfl) (of_decide_eq_true (by kernel_rfl)) h1 bel) (trodAll_cons_mk (trod_keep laidOut (by kernel_rfl) (of_decide_eq_true (by kernel_rfl)) h2 bel) trodAll_mk0))), rfl, bel.frame _, fun h => by cases h⟩
/-- The given statement. -/
theorem proved : Rows.TopRunbooksFailOverSaid :=
  OpenClaim.holds_of_wide 6 Tryz.f6 rfl rfl rfl rfl rfl rfl rfl ⟨rfl, rfl, rfl, rfl, rfl⟩ rfl rfl rfl rfl rfl (by kernel_rfl) Tryz.func6 (by kernel_rfl)
    (of_decide_eq_true (by kernel_rfl)) (by unfold Func.isWrapper; rw [if_neg (of_decide_eq_false (by kernel_rfl))]; exact ⟨rfl, rfl⟩)
    (fun os started H enc _ => lifted os started H enc)

#print axioms proved
end Go.Proofs.YtiefjlcakpdfeaaGreat.topRunbooksFailOver
