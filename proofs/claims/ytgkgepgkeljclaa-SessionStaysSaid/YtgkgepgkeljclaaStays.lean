/-
  Proved: whatever happened before, an end that is open is not changed by a message with a smaller number or epoch (SessionStays returns true for every input). No condition.
-/
import Derived.Test.YtgkgepgkeljclaaSesL
import Derived.Test.YtgkgepgkeljclaaRows
import Derived.ProofKit
import Derived.OpenShut
import Derived.ChangeOld
import Derived.Below
namespace Go.Proofs.Ytgkgepgkeljclaa.sessionStays
open Go Go.Sx Go.ChangeShapes Go.WideShapes Go.ChangeAt Go.RowKit


def v70 (a b c d : Int) : V7 := ⟨ns 0 1 a c, ns 1 0 b d, ⟨0, Val.zero⟩, 0⟩

noncomputable def treeS (a b c d : Int) (n : Nat) (σ : Val) : Tree AV :=
  .br (lt 60 (toInt64 n)) (.leaf (.one (.c (.bool true))))
    (.need true (.need true (.need true (.need true
      (.br (!(nsE 0 1 a c == 0 && nsE 1 0 b d == 0)) (.leaf (.one (.c (.bool false))))
        (.need (inv7 ⟨n, σ⟩ (v70 a b c d)) (.need (eqXE (run7 ⟨n, σ⟩ (v70 a b c d)).1 (.exit 0)) (.leaf (.one (.c (.bool true)))))))))))

theorem treeS_all {a b c d : Int} (ha : 0 ≤ a) (hb : 0 ≤ b) (hc : 0 ≤ c) (hd : 0 ≤ d) {n : Nat} {σ : Val} (hw : ∀ i, i < n → 0 ≤ (stp σ i).which ∧ (stp σ i).which ≤ 255) : (treeS a b c d n σ).All (fun z => z = .one (.c (.bool true))) := by
  obtain ⟨e1, q1, o1⟩ := ns_eq (l := 0) (r := 1) (by simp) (by simp) (by simp) ha hc
  obtain ⟨e2, q2, o2⟩ := ns_eq (l := 1) (r := 0) (by simp) (by simp) (by simp) hb hd
  refine ⟨fun _ => rfl, fun hn => ⟨rfl, rfl, rfl, rfl, fun h => ?_, fun _ => ?_⟩⟩
  · rw [e1, e2] at h; simp at h
  · have hinv : inv7 ⟨n, σ⟩ (v70 a b c d) = true := dec_iff.2 {
      i := by simp [v70]
      n := by have := few_of hn; simp only; omega
      w := hw
      t := by simp [v70]
      s0 := o1
      s1 := o2 }
    exact ⟨hinv, eqXE_iff.2 (fin_of (rounds7 ⟨n, σ⟩) hinv), rfl⟩

set_option maxRecDepth 100000 in
theorem walk (ρ0 : Val) (w0 : wfL [.int .u8, .int .u8, .int .u8, .int .u8] 0 ρ0) (ρ1 : Val) (w1 : wfL [.sl [.int .u8, .bool, .int .u8]] 0 ρ1) (W : World) (vs : List Value)
    (h : All2 (A1.Rel (fun _ => False) W []) [argOf Try.prog 52 [.int .u8, .int .u8, .int .u8, .int .u8] ρ0, argOf Try.prog 53 [.sl [.int .u8, .bool, .int .u8]] ρ1] vs) :
    Calls Try.prog 7 vs.toArray W (fun e W' => e = .returned (.bool true) ∧ Below W.heap.size W W') := by
  obtain ⟨a, b, c, d, ha, h1, h2, h3, h4⟩ := start_arg ρ0 w0
  obtain ⟨n, σ, hs, hw⟩ := steps_arg ρ1 w1
  rw [ha, hs] at h
  exact law_of_tree h7' 10 7 (u := treeS a b c d n σ) (by kernel_rfl) (treeS_all h1 h2 h3 h4 hw) h

theorem own : ownKnob Try.prog.godebug = none := by kernel_rfl
theorem laidOut : laidOutB Try.prog = true := by kernel_rfl
set_option maxRecDepth 100000 in
theorem lifted (os : Os) (started : os.Started) (H : Type) (enc : TypeId × Value → H) :
    ReturnsInHanded {} Try.checked os 7 .any (Rows.sessionStaysSpec.pre6 enc Try.prog Try.f7 Rows.sessionStaysRow.domain false) (Rows.sessionStaysSpec.post enc Try.prog Try.f7 false true false false) := by
  refine returnsInHanded_of_change (C := Try.checked) own started (by kernel_rfl) Try.func7
    (ChangeSpec.witness6 (enc := enc) (C := Try.checked) false ⟨#[], #[.agg #[.int .u8 0, .int .u8 0, .int .u8 0, .int .u8 0], .slice none 0 0], []⟩ 8 (by kernel_rfl) (by kernel_rfl) (by kernel_rfl) (by kernel_rfl)) ?_
  intro W base args ds gs before hval0 hW _ _
  have hval : ∀ (j : Nat) t v, Try.f7.params[j]? = some t → args[j]? = some v → Value.okWide Try.prog W .any base t v := hval0
  have hW' := hW
  obtain ⟨p, q, hA0, hV, rfl, _, _⟩ := hW
  have hA : DataW.TrodAll enc Try.prog W 0 (fun _ => true) true Try.f7.params.toList args.toList ds p := hA0
  rw [Try.params7] at hA hval
  obtain ⟨v0, vs0, d0, ds0, p0, q0, hargs, rfl, rfl, h0, r0⟩ := trodAll_cons hA
  obtain ⟨v1, vs1, d1, ds1, p1, q1, rfl, rfl, rfl, h1, r1⟩ := trodAll_cons r0
  obtain ⟨rfl, rfl, rfl⟩ := trodAll_nil r1
  obtain rfl : args = #[v0, v1] := by cases args; simp_all
  obtain ⟨rfl, rfl⟩ := trodVars_none hV
  obtain ⟨ρ0, rel0, wf0⟩ := read_arg (m := 12) (es := [.int .u8, .int .u8, .int .u8, .int .u8]) (hval 0 52 v0 rfl rfl) h0 (by kernel_rfl)
  obtain ⟨ρ1, rel1, wf1⟩ := read_arg (m := 12) (es := [.sl [.int .u8, .bool, .int .u8]]) (hval 1 53 v1 rfl rfl) h1 (by kernel_rfl)
  clear hA0 hval0
  refine (walk ρ0 wf0 ρ1 wf1 W [v0, v1] (.cons rel0 ( .cons rel1 (.nil)))).mono fun e W' ⟨he, bel⟩ => ?_
  subst he
  exact ⟨_, rfl, _, _, _, [], _, [], hW', trodAll_mk1 (shut_bool Try.underlying4 _), (trodAll_cons_mk (trod_keep laidOut (by kernel_rfl) (of_decide_eq_true (by kernel_rfl)) h0 bel) (trodAll_cons_mk (trod_keep laidOut (by kernel_rfl) (of_decide_eq_true (by kernel_rfl)) h1 bel) trodAll_mk0)), rfl, bel.frame _, fun h => by cases h⟩

/-- The given statement. -/
theorem proved : Rows.SessionStaysSaid :=
  OpenClaim.holds_of_wide 7 Try.f7 rfl rfl rfl rfl rfl rfl rfl ⟨rfl, rfl, rfl, rfl, rfl⟩ rfl rfl rfl rfl rfl (by kernel_rfl) Try.func7 (by kernel_rfl)
    (of_decide_eq_true (by kernel_rfl)) (by unfold Func.isWrapper; rw [if_neg (of_decide_eq_false (by kernel_rfl))]; exact ⟨rfl, rfl⟩)
    (fun os started H enc _ => lifted os started H enc)

#print axioms proved
end Go.Proofs.Ytgkgepgkeljclaa.sessionStays
