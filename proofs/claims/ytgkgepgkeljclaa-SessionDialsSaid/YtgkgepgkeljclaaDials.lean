/-
  Proved: for every session and all times, Dial, Expire and Close return the sessions, messages and errors of the reference (SessionDials returns true for every input). No condition.
-/
import Derived.Test.YtgkgepgkeljclaaSesE
import Derived.Test.YtgkgepgkeljclaaRows
import Derived.ProofKit
import Derived.OpenShut
import Derived.ChangeOld
import Derived.Below
namespace Go.Proofs.Ytgkgepgkeljclaa.sessionDials
open Go Go.Sx Go.ChangeShapes Go.WideShapes Go.ChangeAt Go.RowKit


theorem pre_msg {n : Nat} (hn : n ≤ 1) (k a b c d : Int) : Pre13 ⟨n, msgV k a b c d⟩ := by
  refine ⟨by simp only; omega, fun i hi => ?_⟩
  have : i = 0 := by simp only at hi; omega
  subst this
  have : (elt (msgV k a b c d) 0).n = 0 := by kernel_rfl
  simp only [this]; omega

def eq6 (x0 x1 x2 x3 x4 x5 : Int) : Bool := (x0 == x0) && ((x1 == x1) && ((x2 == x2) && ((x3 == x3) && ((x4 == x4) && ((x5 == x5) && true)))))

theorem eq6_true (x0 x1 x2 x3 x4 x5 : Int) : eq6 x0 x1 x2 x3 x4 x5 = true := by simp [eq6]

noncomputable def treeD (a b c d e f n m : Int) : Tree AV :=
  .need (!(((!(eq6 (bif dlO a b c d e f n m then a else 0) (bif dlO a b c d e f n m then b else 0) (bif dlO a b c d e f n m then c else 0) (bif dlO a b c d e f n m then IntKind.i64.wrap (d + 1) else 0) (bif dlO a b c d e f n m then 1 else 0) (bif dlO a b c d e f n m then IntKind.i64.wrap (n + m) else 0))) == false) && true) || dec (Pre13 ⟨bif dlO a b c d e f n m then 1 else 0, msgV 5 a b c (IntKind.i64.wrap (d + 1))⟩))
    (.br ((!(eq6 (bif dlO a b c d e f n m then a else 0) (bif dlO a b c d e f n m then b else 0) (bif dlO a b c d e f n m then c else 0) (bif dlO a b c d e f n m then IntKind.i64.wrap (d + 1) else 0) (bif dlO a b c d e f n m then 1 else 0) (bif dlO a b c d e f n m then IntKind.i64.wrap (n + m) else 0)) ||
        !(sameL ⟨bif dlO a b c d e f n m then 1 else 0, msgV 5 a b c (IntKind.i64.wrap (d + 1))⟩ ⟨bif dlO a b c d e f n m then 1 else 0, msgV 5 a b c (IntKind.i64.wrap (d + 1))⟩)) || dlE a b c d e f n m != dlE a b c d e f n m)
      (.leaf (.one (.c (.bool false))))
      (.need (!(((!(eq6 a b c d (bif xpN a b c d e f n then e else bif dln n m then e else 0) (bif xpN a b c d e f n then f else bif dln n m then IntKind.i64.wrap (n + m) else 0))) == false) && true) || dec (Pre13 ⟨bif xpN a b c d e f n then 0 else bif dln n m then 1 else 0, msgV 5 a b c d⟩))
        (.br (!(eq6 a b c d (bif xpN a b c d e f n then e else bif dln n m then e else 0) (bif xpN a b c d e f n then f else bif dln n m then IntKind.i64.wrap (n + m) else 0)) || !(sameL ⟨bif xpN a b c d e f n then 0 else bif dln n m then 1 else 0, msgV 5 a b c d⟩ ⟨bif xpN a b c d e f n then 0 else bif dln n m then 1 else 0, msgV 5 a b c d⟩))
          (.leaf (.one (.c (.bool false))))
          (.need (!(((eq6 a b c d (bif clN a b c d e f then e else 0) (bif clN a b c d e f then f else 0)) == true) && true) || dec (Pre13 ⟨bif clN a b c d e f then 0 else 1, msgV 7 a b c d⟩))
            (.leaf (.one (.c (.bool (eq6 a b c d (bif clN a b c d e f then e else 0) (bif clN a b c d e f then f else 0) && sameL ⟨bif clN a b c d e f then 0 else 1, msgV 7 a b c d⟩ ⟨bif clN a b c d e f then 0 else 1, msgV 7 a b c d⟩)))))))))

theorem treeD_all (a b c d e f n m : Int) : (treeD a b c d e f n m).All (fun z => z = .one (.c (.bool true))) := by
  have b1 : ∀ p : Bool, (bif p then 1 else 0 : Nat) ≤ 1 := fun p => by cases p <;> simp
  have b2 : ∀ p : Bool, (bif p then 0 else 1 : Nat) ≤ 1 := fun p => by cases p <;> simp
  have b3 : ∀ p q : Bool, (bif p then 0 else bif q then 1 else 0 : Nat) ≤ 1 := fun p q => by cases p <;> cases q <;> simp
  unfold treeD
  simp only [eq6_true, sameL_refl, Tree.All, dec_iff.2 (pre_msg (b1 _) _ _ _ _ _), dec_iff.2 (pre_msg (b2 _) _ _ _ _ _), dec_iff.2 (pre_msg (b3 _ _) _ _ _ _ _), Bool.or_true, bne_self_eq_false, Bool.not_true, Bool.or_self, Bool.and_self, true_and, implies_true, reduceCtorEq, false_implies]

set_option maxRecDepth 100000 in
theorem walk (ρ0 : Val) (_ : wfL [.int .i64, .int .i64, .int .i64, .int .i64, .int .i64, .int .i64] 0 ρ0) (ρ1 : Val) (_ : wfL [.int .i64] 0 ρ1) (ρ2 : Val) (_ : wfL [.int .i64] 0 ρ2) (W : World) (vs : List Value)
    (h : All2 (A1.Rel (fun _ => False) W []) [argOf Try.prog 23 [.int .i64, .int .i64, .int .i64, .int .i64, .int .i64, .int .i64] ρ0, argOf Try.prog 3 [.int .i64] ρ1, argOf Try.prog 3 [.int .i64] ρ2] vs) :
    Calls Try.prog 5 vs.toArray W (fun e W' => e = .returned (.bool true) ∧ Below W.heap.size W W') := by
  obtain ⟨a, b, c, d, e, f, ha⟩ : ∃ a b c d e f, argOf Try.prog 23 [.int .i64, .int .i64, .int .i64, .int .i64, .int .i64, .int .i64] ρ0 = .agg [I a, I b, I c, I d, I e, I f] := ⟨(ρ0.at 0).N [], (ρ0.at 1).N [], (ρ0.at 2).N [], (ρ0.at 3).N [], (ρ0.at 4).N [], (ρ0.at 5).N [], by kernel_rfl⟩
  obtain ⟨n, hn⟩ : ∃ n, argOf Try.prog 3 [.int .i64] ρ1 = .c (I n) := ⟨(ρ1.at 0).N [], by kernel_rfl⟩
  obtain ⟨m, hm⟩ : ∃ m, argOf Try.prog 3 [.int .i64] ρ2 = .c (I m) := ⟨(ρ2.at 0).N [], by kernel_rfl⟩
  rw [ha, hn, hm] at h
  exact law_of_tree h10 10 5 (u := treeD a b c d e f n m) (by kernel_rfl) (treeD_all a b c d e f n m) h

theorem own : ownKnob Try.prog.godebug = none := by kernel_rfl
theorem laidOut : laidOutB Try.prog = true := by kernel_rfl
set_option maxRecDepth 100000 in
theorem lifted (os : Os) (started : os.Started) (H : Type) (enc : TypeId × Value → H) :
    ReturnsInHanded {} Try.checked os 5 .any (Rows.sessionDialsSpec.pre6 enc Try.prog Try.f5 Rows.sessionDialsRow.domain false) (Rows.sessionDialsSpec.post enc Try.prog Try.f5 false true false false) := by
  refine returnsInHanded_of_change (C := Try.checked) own started (by kernel_rfl) Try.func5
    (ChangeSpec.witness6 (enc := enc) (C := Try.checked) false ⟨#[], #[.agg #[.int .i64 0, .int .i64 0, .int .i64 0, .int .i64 0, .int .i64 0, .int .i64 0], .int .i64 0, .int .i64 0], []⟩ 8 (by kernel_rfl) (by kernel_rfl) (by kernel_rfl) (by kernel_rfl)) ?_
  intro W base args ds gs before hval0 hW _ _
  have hval : ∀ (j : Nat) t v, Try.f5.params[j]? = some t → args[j]? = some v → Value.okWide Try.prog W .any base t v := hval0
  have hW' := hW
  obtain ⟨p, q, hA0, hV, rfl, _, _⟩ := hW
  have hA : DataW.TrodAll enc Try.prog W 0 (fun _ => true) true Try.f5.params.toList args.toList ds p := hA0
  rw [Try.params5] at hA hval
  obtain ⟨v0, vs0, d0, ds0, p0, q0, hargs, rfl, rfl, h0, r0⟩ := trodAll_cons hA
  obtain ⟨v1, vs1, d1, ds1, p1, q1, rfl, rfl, rfl, h1, r1⟩ := trodAll_cons r0
  obtain ⟨v2, vs2, d2, ds2, p2, q2, rfl, rfl, rfl, h2, r2⟩ := trodAll_cons r1
  obtain ⟨rfl, rfl, rfl⟩ := trodAll_nil r2
  obtain rfl : args = #[v0, v1, v2] := by cases args; simp_all
  obtain ⟨rfl, rfl⟩ := trodVars_none hV
  obtain ⟨ρ0, rel0, wf0⟩ := read_arg (m := 12) (es := [.int .i64, .int .i64, .int .i64, .int .i64, .int .i64, .int .i64]) (hval 0 23 v0 rfl rfl) h0 (by kernel_rfl)
  obtain ⟨ρ1, rel1, wf1⟩ := read_arg (m := 12) (es := [.int .i64]) (hval 1 3 v1 rfl rfl) h1 (by kernel_rfl)
  obtain ⟨ρ2, rel2, wf2⟩ := read_arg (m := 12) (es := [.int .i64]) (hval 2 3 v2 rfl rfl) h2 (by kernel_rfl)
  clear hA0 hval0
  refine (walk ρ0 wf0 ρ1 wf1 ρ2 wf2 W [v0, v1, v2] (.cons rel0 ( .cons rel1 ( .cons rel2 (.nil))))).mono fun e W' ⟨he, bel⟩ => ?_
  subst he
  exact ⟨_, rfl, _, _, _, [], _, [], hW', trodAll_mk1 (shut_bool Try.underlying4 _), (trodAll_cons_mk (trod_keep laidOut (by kernel_rfl) (of_decide_eq_true (by kernel_rfl)) h0 bel) (trodAll_cons_mk (trod_keep laidOut (by kernel_rfl) (of_decide_eq_true (by kernel_rfl)) h1 bel) (trodAll_cons_mk (trod_keep laidOut (by kernel_rfl) (of_decide_eq_true (by kernel_rfl)) h2 bel) trodAll_mk0))), rfl, bel.frame _, fun h => by cases h⟩

/-- The given statement. -/
theorem proved : Rows.SessionDialsSaid :=
  OpenClaim.holds_of_wide 5 Try.f5 rfl rfl rfl rfl rfl rfl rfl ⟨rfl, rfl, rfl, rfl, rfl⟩ rfl rfl rfl rfl rfl (by kernel_rfl) Try.func5 (by kernel_rfl)
    (of_decide_eq_true (by kernel_rfl)) (by unfold Func.isWrapper; rw [if_neg (of_decide_eq_false (by kernel_rfl))]; exact ⟨rfl, rfl⟩)
    (fun os started H enc _ => lifted os started H enc)

#print axioms proved
end Go.Proofs.Ytgkgepgkeljclaa.sessionDials
