/-
  Proved: after any steps, an end that is open accepts its own number and epoch alone, and an end that is not open accepts nothing (SessionAgrees returns true for every input). No condition.
-/
import Derived.Test.YtgkgepgkeljclaaSesM
import Derived.Test.YtgkgepgkeljclaaRows
import Derived.ProofKit
import Derived.OpenShut
import Derived.ChangeOld
import Derived.Below
namespace Go.Proofs.Ytgkgepgkeljclaa.sessionAgrees
open Go Go.Sx Go.ChangeShapes Go.WideShapes Go.ChangeAt Go.RowKit


def t1A (s : Ses) (m0 m1 : Int) : Bool :=
  !((acc s.a s.b s.c s.d s.e s.f (IntKind.i64.wrap (s.d + IntKind.i64.wrap m0)) (IntKind.i64.wrap (s.c + IntKind.i64.wrap m1)) == 0) == (s.e == 2 && ((m0 == 0) && ((m1 == 0) && true))))

noncomputable def treeA (a b c d m0 m1 : Int) (n : Nat) (σ : Val) : Tree AV :=
  .br (lt 60 (toInt64 n)) (.leaf (.one (.c (.bool true))))
    (.need true (.need true (.need true (.need true
      (.br (!(nsE 0 1 a c == 0 && nsE 1 0 b d == 0)) (.leaf (.one (.c (.bool false))))
        (.need (inv7 ⟨n, σ⟩ (v70 a b c d)) (.need (eqXE (runS ⟨n, σ⟩ (v70 a b c d)).1 (.exit 0))
          (.br true (.br (t1A (runS ⟨n, σ⟩ (v70 a b c d)).2.s0 m0 m1) (.leaf (.one (.c (.bool false))))
              (.br true (.br (t1A (runS ⟨n, σ⟩ (v70 a b c d)).2.s1 m0 m1) (.leaf (.one (.c (.bool false)))) (.br false .fail (.leaf (.one (.c (.bool true))))))
                (.leaf (.one (.c (.bool true))))))
            (.leaf (.one (.c (.bool true))))))))))))

theorem treeA_all {a b c d m0 m1 : Int} (ha : 0 ≤ a) (hb : 0 ≤ b) (hc : 0 ≤ c) (hd : 0 ≤ d) (h0 : -128 ≤ m0 ∧ m0 ≤ 127) (h1 : -128 ≤ m1 ∧ m1 ≤ 127) {n : Nat} {σ : Val} (hw : ∀ i, i < n → 0 ≤ (stp σ i).which ∧ (stp σ i).which ≤ 255) :
    (treeA a b c d m0 m1 n σ).All (fun z => z = .one (.c (.bool true))) := by
  obtain ⟨e1, q1, o1⟩ := ns_eq (l := 0) (r := 1) (by simp) (by simp) (by simp) ha hc
  obtain ⟨e2, q2, o2⟩ := ns_eq (l := 1) (r := 0) (by simp) (by simp) (by simp) hb hd
  refine ⟨fun _ => rfl, fun hn => ⟨rfl, rfl, rfl, rfl, fun h => ?_, fun _ => ?_⟩⟩
  · rw [e1, e2] at h; simp at h
  · have hinv := v70_inv ha hb hc hd hw hn
    obtain ⟨hx, hI⟩ := fin_of (roundsS ⟨n, σ⟩) hinv
    have hI : Inv7 ⟨n, σ⟩ (runS ⟨n, σ⟩ (v70 a b c d)).2 := hI
    have k0 : t1A (runS ⟨n, σ⟩ (v70 a b c d)).2.s0 m0 m1 = false := by
      unfold t1A; rw [acc_iff hI.s0 h0 h1]; simp
    have k1 : t1A (runS ⟨n, σ⟩ (v70 a b c d)).2.s1 m0 m1 = false := by
      unfold t1A; rw [acc_iff hI.s1 h0 h1]; simp
    refine ⟨hinv, eqXE_iff.2 hx, fun _ => ⟨fun h => (by rw [k0] at h; cases h), fun _ => ⟨fun _ => ⟨fun h => (by rw [k1] at h; cases h), fun _ => ⟨fun h => (by cases h), fun _ => rfl⟩⟩, fun _ => rfl⟩⟩, fun _ => rfl⟩

set_option maxRecDepth 100000 in
theorem walk (ρ0 : Val) (w0 : wfL [.int .u8, .int .u8, .int .u8, .int .u8] 0 ρ0) (ρ1 : Val) (w1 : wfL [.sl [.int .u8, .bool, .int .u8]] 0 ρ1) (ρ2 : Val) (w2 : wfL [.int .i8, .int .i8] 0 ρ2) (W : World) (vs : List Value)
    (h : All2 (A1.Rel (fun _ => False) W []) [argOf Try.prog 52 [.int .u8, .int .u8, .int .u8, .int .u8] ρ0, argOf Try.prog 53 [.sl [.int .u8, .bool, .int .u8]] ρ1, argOf Try.prog 66 [.int .i8, .int .i8] ρ2] vs) :
    Calls Try.prog 9 vs.toArray W (fun e W' => e = .returned (.bool true) ∧ Below W.heap.size W W') := by
  obtain ⟨a, b, c, d, ha, h1, h2, h3, h4⟩ := start_arg ρ0 w0
  obtain ⟨n, σ, hs, hw⟩ := steps_arg ρ1 w1
  have hb0 := i8_bd ((wfL_nth _ _ _).1 w2 0 (.int .i8) rfl)
  have hb1 := i8_bd ((wfL_nth _ _ _).1 w2 1 (.int .i8) rfl)
  obtain ⟨m0, m1, hm, hb0, hb1⟩ : ∃ m0 m1 : Int, argOf Try.prog 66 [.int .i8, .int .i8] ρ2 = .agg [.int .i8 m0, .int .i8 m1] ∧ (-128 ≤ m0 ∧ m0 ≤ 127) ∧ (-128 ≤ m1 ∧ m1 ≤ 127) := ⟨(ρ2.at (0 + 0)).N [], (ρ2.at (0 + 1)).N [], by kernel_rfl, hb0, hb1⟩
  rw [ha, hs, hm] at h
  exact law_of_tree h91 10 9 (u := treeA a b c d m0 m1 n σ) (by kernel_rfl) (treeA_all h1 h2 h3 h4 hb0 hb1 hw) h

theorem own : ownKnob Try.prog.godebug = none := by kernel_rfl
theorem laidOut : laidOutB Try.prog = true := by kernel_rfl
set_option maxRecDepth 100000 in
theorem lifted (os : Os) (started : os.Started) (H : Type) (enc : TypeId × Value → H) :
    ReturnsInHanded {} Try.checked os 9 .any (Rows.sessionAgreesSpec.pre6 enc Try.prog Try.f9 Rows.sessionAgreesRow.domain false) (Rows.sessionAgreesSpec.post enc Try.prog Try.f9 false true false false) := by
  refine returnsInHanded_of_change (C := Try.checked) own started (by kernel_rfl) Try.func9
    (ChangeSpec.witness6 (enc := enc) (C := Try.checked) false ⟨#[], #[.agg #[.int .u8 0, .int .u8 0, .int .u8 0, .int .u8 0], .slice none 0 0, .agg #[.int .i8 0, .int .i8 0]], []⟩ 8 (by kernel_rfl) (by kernel_rfl) (by kernel_rfl) (by kernel_rfl)) ?_
  intro W base args ds gs before hval0 hW _ _
  have hval : ∀ (j : Nat) t v, Try.f9.params[j]? = some t → args[j]? = some v → Value.okWide Try.prog W .any base t v := hval0
  have hW' := hW
  obtain ⟨p, q, hA0, hV, rfl, _, _⟩ := hW
  have hA : DataW.TrodAll enc Try.prog W 0 (fun _ => true) true Try.f9.params.toList args.toList ds p := hA0
  rw [Try.params9] at hA hval
  obtain ⟨v0, vs0, d0, ds0, p0, q0, hargs, rfl, rfl, h0, r0⟩ := trodAll_cons hA
  obtain ⟨v1, vs1, d1, ds1, p1, q1, rfl, rfl, rfl, h1, r1⟩ := trodAll_cons r0
  obtain ⟨v2, vs2, d2, ds2, p2, q2, rfl, rfl, rfl, h2, r2⟩ := trodAll_cons r1
  obtain ⟨rfl, rfl, rfl⟩ := trodAll_nil r2
  obtain rfl : args = #[v0, v1, v2] := by cases args; simp_all
  obtain ⟨rfl, rfl⟩ := trodVars_none hV
  obtain ⟨ρ0, rel0, wf0⟩ := read_arg (m := 12) (es := [.int .u8, .int .u8, .int .u8, .int .u8]) (hval 0 52 v0 rfl rfl) h0 (by kernel_rfl)
  obtain ⟨ρ1, rel1, wf1⟩ := read_arg (m := 12) (es := [.sl [.int .u8, .bool, .int .u8]]) (hval 1 53 v1 rfl rfl) h1 (by kernel_rfl)
  obtain ⟨ρ2, rel2, wf2⟩ := read_arg (m := 12) (es := [.int .i8, .int .i8]) (hval 2 66 v2 rfl rfl) h2 (by kernel_rfl)
  clear hA0 hval0
  refine (walk ρ0 wf0 ρ1 wf1 ρ2 wf2 W [v0, v1, v2] (.cons rel0 ( .cons rel1 ( .cons rel2 (.nil))))).mono fun e W' ⟨he, bel⟩ => ?_
  subst he
  exact ⟨_, rfl, _, _, _, [], _, [], hW', trodAll_mk1 (shut_bool Try.underlying4 _), (trodAll_cons_mk (trod_keep laidOut (by kernel_rfl) (of_decide_eq_true (by kernel_rfl)) h0 bel) (trodAll_cons_mk (trod_keep laidOut (by kernel_rfl) (of_decide_eq_true (by kernel_rfl)) h1 bel) (trodAll_cons_mk (trod_keep laidOut (by kernel_rfl) (of_decide_eq_true (by kernel_rfl)) h2 bel) trodAll_mk0))), rfl, bel.frame _, fun h => by cases h⟩

/-- The given statement. -/
theorem proved : Rows.SessionAgreesSaid :=
  OpenClaim.holds_of_wide 9 Try.f9 rfl rfl rfl rfl rfl rfl rfl ⟨rfl, rfl, rfl, rfl, rfl⟩ rfl rfl rfl rfl rfl (by kernel_rfl) Try.func9 (by kernel_rfl)
    (of_decide_eq_true (by kernel_rfl)) (by unfold Func.isWrapper; rw [if_neg (of_decide_eq_false (by kernel_rfl))]; exact ⟨rfl, rfl⟩)
    (fun os started H enc _ => lifted os started H enc)

#print axioms proved
end Go.Proofs.Ytgkgepgkeljclaa.sessionAgrees
