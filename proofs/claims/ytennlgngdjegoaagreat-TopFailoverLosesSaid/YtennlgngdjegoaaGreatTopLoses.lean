/-
  Proved: for all histories, pairs of cuts and times of writes, a failover to a site with a cut loses exactly the writes that the cut does not contain, what remains is a history with the image of the cut, and a greater cut loses no more and reaches a point no older (TopFailoverLoses returns true for every input). No condition.
-/
import Derived.Test.YtennlgngdjegoaaGreatTlZF
import Derived.Test.YtennlgngdjegoaaGreatRows
import Derived.ProofKit
import Derived.OpenShut
import Derived.ChangeOld
import Derived.Below
namespace Go.Proofs.YtennlgngdjegoaaGreat.topFailoverLoses
open Go Go.Sx Go.ChangeShapes Go.WideShapes Go.ChangeAt Go.RowKit
set_option maxRecDepth 100000 in
theorem walk (ρ0 : Val) (_ : wfL [.sl [.int .i64], .sl [.int .i64, .int .i64, .sl [.int .u8, .int .u8, .int .u8, .int .u8, .int .u8, .int .u8, .int .u8, .int .u8]], .sl [.int .i64, .int .i64]] 0 ρ0) (ρ1 : Val) (_ : wfL [.sl [.int .i64], .sl [.int .i64]] 0 ρ1) (ρ2 : Val) (hw2 : wfL [.sl [.int .u8]] 0 ρ2) (W : World) (vs : List Value)
    (h : All2 (A1.Rel (fun _ => False) W []) [argOf Tryz.prog 53 [.sl [.int .i64], .sl [.int .i64, .int .i64, .sl [.int .u8, .int .u8, .int .u8, .int .u8, .int .u8, .int .u8, .int .u8, .int .u8]], .sl [.int .i64, .int .i64]] ρ0, argOf Tryz.prog 74 [.sl [.int .i64], .sl [.int .i64]] ρ1, argOf Tryz.prog 75 [.sl [.int .u8]] ρ2] vs) :
    Calls Tryz.prog 8 vs.toArray W (fun e W' => e = .returned (.bool true) ∧ Below W.heap.size W W') := by
  rw [Hs.argH_eq, Hs.argD_eq, Hs.argV_eq] at h
  exact Hs.law8z _ _ _ _ _ _ _ _ _ _ _ _ (Hs.byts_of hw2) h
theorem own : ownKnob Tryz.prog.godebug = none := by kernel_rfl
theorem laidOut : laidOutB Tryz.prog = true := by kernel_rfl
set_option maxRecDepth 100000 in
theorem lifted (os : Os) (started : os.Started) (H : Type) (enc : TypeId × Value → H) :
    ReturnsInHanded {} Tryz.checked os 8 .any (Rows.topFailoverLosesSpec.pre6 enc Tryz.prog Tryz.f8 Rows.topFailoverLosesRow.domain false) (Rows.topFailoverLosesSpec.post enc Tryz.prog Tryz.f8 false true false false) := by
  refine returnsInHanded_of_change (C := Tryz.checked) own started (by kernel_rfl) Tryz.func8
    (ChangeSpec.witness6 (enc := enc) (C := Tryz.checked) false ⟨#[], #[.agg #[.slice none 0 0, .slice none 0 0, .slice none 0 0], .agg #[.slice none 0 0, .slice none 0 0], .slice none 0 0], []⟩ 8 (by kernel_rfl) (by kernel_rfl) (by kernel_rfl) (by kernel_rfl)) ?_
  intro W base args ds gs before hval0 hW _ _
  have hval : ∀ (j : Nat) t v, Tryz.f8.params[j]? = some t → args[j]? = some v → Value.okWide Tryz.prog W .any base t v := hval0
  have hW' := hW
  obtain ⟨p, q, hA0, hV, rfl, _, _⟩ := hW
  have hA : DataW.TrodAll enc Tryz.prog W 0 (fun _ => true) true Tryz.f8.params.toList args.toList ds p := hA0
  rw [Tryz.params8] at hA hval
  obtain ⟨v0, vs0, d0, ds0, p0, q0, hargs, rfl, rfl, h0, r0⟩ := trodAll_cons hA
  obtain ⟨v1, vs1, d1, ds1, p1, q1, rfl, rfl, rfl, h1, r1⟩ := trodAll_cons r0
  obtain ⟨v2, vs2, d2, ds2, p2, q2, rfl, rfl, rfl, h2, r2⟩ := trodAll_cons r1
  obtain ⟨rfl, rfl, rfl⟩ := trodAll_nil r2
  obtain rfl : args = #[v0, v1, v2] := by cases args; simp_all
  obtain ⟨rfl, rfl⟩ := trodVars_none hV
  obtain ⟨ρ0, rel0, wf0⟩ := read_arg (m := 12) (es := [.sl [.int .i64], .sl [.int .i64, .int .i64, .sl [.int .u8, .int .u8, .int .u8, .int .u8, .int .u8, .int .u8, .int .u8, .int .u8]], .sl [.int .i64, .int .i64]]) (hval 0 53 v0 rfl rfl) h0 (by kernel_rfl)
  obtain ⟨ρ1, rel1, wf1⟩ := read_arg (m := 12) (es := [.sl [.int .i64], .sl [.int .i64]]) (hval 1 74 v1 rfl rfl) h1 (by kernel_rfl)
  obtain ⟨ρ2, rel2, wf2⟩ := read_arg (m := 12) (es := [.sl [.int .u8]]) (hval 2 75 v2 rfl rfl) h2 (by kernel_rfl)
  clear hA0 hval0
  refine (walk ρ0 wf0 ρ1 wf1 ρ2 wf2 W [v0, v1, v2] (.cons rel0 ( .cons rel1 ( .cons rel2 (.nil))))).mono fun e W' ⟨he, bel⟩ => ?_
  subst he
  exact ⟨_, rfl, _, _, _, [], _, [], hW', trodAll_mk1 (shut_bool Tryz.underlying4 _), (trodAll_cons_mk (trod_keep laidOut (by kernel_rfl) (of_decide_eq_true (by kernel_rfl)) h0 bel) (trodAll_cons_mk (trod_keep laidOut (by kernel_rfl) (of_decide_eq_true (by kernel_rfl)) h1 bel) (trodAll_cons_mk (trod_keep laidOut (by kernel_rfl) (of_decide_eq_true (by kernel_rfl)) h2 bel) trodAll_mk0))), rfl, bel.frame _, fun h => by cases h⟩
/-- The given statement. -/
theorem proved : Rows.TopFailoverLosesSaid :=
  OpenClaim.holds_of_wide 8 Tryz.f8 rfl rfl rfl rfl rfl rfl rfl ⟨rfl, rfl, rfl, rfl, rfl⟩ rfl rfl rfl rfl rfl (by kernel_rfl) Tryz.func8 (by kernel_rfl)
    (of_decide_eq_true (by kernel_rfl)) (by unfold Func.isWrapper; rw [if_neg (of_decide_eq_false (by kernel_rfl))]; exact ⟨rfl, rfl⟩)
    (fun os started H enc _ => lifted os started H enc)

#print axioms proved
end Go.Proofs.YtennlgngdjegoaaGreat.topFailoverLoses
