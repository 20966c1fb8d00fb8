/-
  Proved: after any steps, if both ends are closed, and one of them dials as often as it is refused, and its messages and the answers arrive, both ends become open with the same number (SessionConnects returns true for every input). No condition.
-/
import Derived.Test.YtgkgepgkeljclaaSesP
import Derived.Test.YtgkgepgkeljclaaRows
import Derived.ProofKit
import Derived.OpenShut
import Derived.ChangeOld
import Derived.Below
namespace Go.Proofs.Ytgkgepgkeljclaa.sessionConnects
open Go Go.Sx Go.ChangeShapes Go.WideShapes Go.ChangeAt Go.RowKit


noncomputable def treeC (a b c d : Int) (o : Bool) (n : Nat) (σ : Val) : Tree AV :=
  .br (lt 60 (toInt64 n)) (.leaf (.one (.c (.bool true))))
    (.need true (.need true (.need true (.need true
      (.br (!(nsE 0 1 a c == 0 && nsE 1 0 b d == 0)) (.leaf (.one (.c (.bool false))))
        (.need (inv8 ⟨n, σ⟩ (v70 a b c d)) (.need (eqXE (runS ⟨n, σ⟩ (v70 a b c d)).1 (.exit 0))
          (.br o (loopC 4 0 (closeS (runS ⟨n, σ⟩ (v70 a b c d)).2.s1) (closeS (runS ⟨n, σ⟩ (v70 a b c d)).2.s0))
            (loopC 4 0 (closeS (runS ⟨n, σ⟩ (v70 a b c d)).2.s0) (closeS (runS ⟨n, σ⟩ (v70 a b c d)).2.s1))))))))))

theorem treeC_all {a b c d : Int} {o : Bool} (ha : 0 ≤ a) (hb : 0 ≤ b) (hc : 0 ≤ c) (hd : 0 ≤ d) {n : Nat} {σ : Val} (hw : ∀ i, i < n → 0 ≤ (stp σ i).which ∧ (stp σ i).which ≤ 255) :
    (treeC a b c d o n σ).All (fun z => z = .one (.c (.bool true))) := by
  obtain ⟨e1, q1, o1⟩ := ns_eq (l := 0) (r := 1) (by simp) (by simp) (by simp) ha hc
  obtain ⟨e2, q2, o2⟩ := ns_eq (l := 1) (r := 0) (by simp) (by simp) (by simp) hb hd
  refine ⟨fun _ => rfl, fun hn => ⟨rfl, rfl, rfl, rfl, fun h => ?_, fun _ => ?_⟩⟩
  · rw [e1, e2] at h; simp at h
  · have hinv : inv8 ⟨n, σ⟩ (v70 a b c d) = true := dec_iff.2 {
      i7 := dec_iff.1 (v70_inv ha hb hc hd hw hn)
      b0 := by show SesB (ns 0 1 a c) (5 + 0); rw [q1]; unfold SesB; simp only; omega
      b1 := by show SesB (ns 1 0 b d) (5 + 0); rw [q2]; unfold SesB; simp only; omega
      bt := fun j hj => by simp [v70] at hj
      i0 := by show (ns 0 1 a c).a = 0 ∧ (ns 0 1 a c).b = 1; rw [q1]; exact ⟨rfl, rfl⟩
      i1 := by show (ns 1 0 b d).a = 1 ∧ (ns 1 0 b d).b = 0; rw [q2]; exact ⟨rfl, rfl⟩ }
    obtain ⟨hx, hI⟩ := fin_of (rounds8 ⟨n, σ⟩) hinv
    refine ⟨hinv, eqXE_iff.2 hx, ?_⟩
    have hI : Inv8 ⟨n, σ⟩ (runS ⟨n, σ⟩ (v70 a b c d)).2 := hI
    have hn60 := hI.i7.n
    have hi := hI.i7.i
    have d0 := hI.i7.s0.d
    have d1 := hI.i7.s1.d
    have c0 := hI.i7.s0.c
    have c1 := hI.i7.s1.c
    have b0 := hI.b0
    have b1 := hI.b1
    have i0 := hI.i0
    have i1 := hI.i1
    simp only at hn60 hi
    rw [close_val hI.i7.s0, close_val hI.i7.s1, i0.1, i0.2, i1.1, i1.2]
    unfold SesB at b0 b1
    refine ⟨fun _ => loop_good (by simp) (by simp) (by simp) ⟨c1.1, b1.2⟩ (by omega) ⟨c0.1, b0.2⟩ (by omega), fun _ => loop_good (by simp) (by simp) (by simp) ⟨c0.1, b0.2⟩ (by omega) ⟨c1.1, b1.2⟩ (by omega)⟩

set_option maxRecDepth 100000 in
theorem walk (ρ0 : Val) (w0 : wfL [.int .u8, .int .u8, .int .u8, .int .u8] 0 ρ0) (ρ1 : Val) (w1 : wfL [.sl [.int .u8, .bool, .int .u8]] 0 ρ1) (ρ2 : Val) (_ : wfL [.bool] 0 ρ2) (W : World) (vs : List Value)
    (h : All2 (A1.Rel (fun _ => False) W []) [argOf Try.prog 52 [.int .u8, .int .u8, .int .u8, .int .u8] ρ0, argOf Try.prog 53 [.sl [.int .u8, .bool, .int .u8]] ρ1, argOf Try.prog 4 [.bool] ρ2] vs) :
    Calls Try.prog 8 vs.toArray W (fun e W' => e = .returned (.bool true) ∧ Below W.heap.size W W') := by
  obtain ⟨a, b, c, d, ha, h1, h2, h3, h4⟩ := start_arg ρ0 w0
  obtain ⟨n, σ, hs, hw⟩ := steps_arg ρ1 w1
  obtain ⟨o, ho⟩ : ∃ o : Bool, argOf Try.prog 4 [.bool] ρ2 = .c (.bool o) := ⟨(ρ2.at 0).B [], by kernel_rfl⟩
  rw [ha, hs, ho] at h
  exact law_of_tree h81 10 8 (u := treeC a b c d o n σ) (by kernel_rfl) (treeC_all h1 h2 h3 h4 hw) h

theorem own : ownKnob Try.prog.godebug = none := by kernel_rfl
theorem laidOut : laidOutB Try.prog = true := by kernel_rfl
set_option maxRecDepth 100000 in
theorem lifted (os : Os) (started : os.Started) (H : Type) (enc : TypeId × Value → H) :
    ReturnsInHanded {} Try.checked os 8 .any (Rows.sessionConnectsSpec.pre6 enc Try.prog Try.f8 Rows.sessionConnectsRow.domain false) (Rows.sessionConnectsSpec.post enc Try.prog Try.f8 false true false false) := by
  refine returnsInHanded_of_change (C := Try.checked) own started (by kernel_rfl) Try.func8
    (ChangeSpec.witness6 (enc := enc) (C := Try.checked) false ⟨#[], #[.agg #[.int .u8 0, .int .u8 0, .int .u8 0, .int .u8 0], .slice none 0 0, .bool false], []⟩ 8 (by kernel_rfl) (by kernel_rfl) (by kernel_rfl) (by kernel_rfl)) ?_
  intro W base args ds gs before hval0 hW _ _
  have hval : ∀ (j : Nat) t v, Try.f8.params[j]? = some t → args[j]? = some v → Value.okWide Try.prog W .any base t v := hval0
  have hW' := hW
  obtain ⟨p, q, hA0, hV, rfl, _, _⟩ := hW
  have hA : DataW.TrodAll enc Try.prog W 0 (fun _ => true) true Try.f8.params.toList args.toList ds p := hA0
  rw [Try.params8] at hA hval
  obtain ⟨v0, vs0, d0, ds0, p0, q0, hargs, rfl, rfl, h0, r0⟩ := trodAll_cons hA
  obtain ⟨v1, vs1, d1, ds1, p1, q1, rfl, rfl, rfl, h1, r1⟩ := trodAll_cons r0
  obtain ⟨v2, vs2, d2, ds2, p2, q2, rfl, rfl, rfl, h2, r2⟩ := trodAll_cons r1
  obtain ⟨rfl, rfl, rfl⟩ := trodAll_nil r2
  obtain rfl : args = #[v0, v1, v2] := by cases args; simp_all
  obtain ⟨rfl, rfl⟩ := trodVars_none hV
  obtain ⟨ρ0, rel0, wf0⟩ := read_arg (m := 12) (es := [.int .u8, .int .u8, .int .u8, .int .u8]) (hval 0 52 v0 rfl rfl) h0 (by kernel_rfl)
  obtain ⟨ρ1, rel1, wf1⟩ := read_arg (m := 12) (es := [.sl [.int .u8, .bool, .int .u8]]) (hval 1 53 v1 rfl rfl) h1 (by kernel_rfl)
  obtain ⟨ρ2, rel2, wf2⟩ := read_arg (m := 12) (es := [.bool]) (hval 2 4 v2 rfl rfl) h2 (by kernel_rfl)
  clear hA0 hval0
  refine (walk ρ0 wf0 ρ1 wf1 ρ2 wf2 W [v0, v1, v2] (.cons rel0 ( .cons rel1 ( .cons rel2 (.nil))))).mono fun e W' ⟨he, bel⟩ => ?_
  subst he
  exact ⟨_, rfl, _, _, _, [], _, [], hW', trodAll_mk1 (shut_bool Try.underlying4 _), (trodAll_cons_mk (trod_keep laidOut (by kernel_rfl) (of_decide_eq_true (by kernel_rfl)) h0 bel) (trodAll_cons_mk (trod_keep laidOut (by kernel_rfl) (of_decide_eq_true (by kernel_rfl)) h1 bel) (trodAll_cons_mk (trod_keep laidOut (by kernel_rfl) (of_decide_eq_true (by kernel_rfl)) h2 bel) trodAll_mk0))), rfl, bel.frame _, fun h => by cases h⟩

/-- The given statement. -/
theorem proved : Rows.SessionConnectsSaid :=
  OpenClaim.holds_of_wide 8 Try.f8 rfl rfl rfl rfl rfl rfl rfl ⟨rfl, rfl, rfl, rfl, rfl⟩ rfl rfl rfl rfl rfl (by kernel_rfl) Try.func8 (by kernel_rfl)
    (of_decide_eq_true (by kernel_rfl)) (by unfold Func.isWrapper; rw [if_neg (of_decide_eq_false (by kernel_rfl))]; exact ⟨rfl, rfl⟩)
    (fun os started H enc _ => lifted os started H enc)

#print axioms proved
end Go.Proofs.Ytgkgepgkeljclaa.sessionConnects
