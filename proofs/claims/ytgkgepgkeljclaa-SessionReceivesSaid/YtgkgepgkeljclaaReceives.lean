/-
  Proved: for every session, time and message, Receive returns the session and the messages of the reference (SessionReceives returns true for every input). No condition.
-/
import Derived.Test.YtgkgepgkeljclaaSesE
import Derived.Test.YtgkgepgkeljclaaRows
import Derived.ProofKit
import Derived.OpenShut
import Derived.ChangeOld
import Derived.Below
namespace Go.Proofs.Ytgkgepgkeljclaa.sessionReceives
open Go Go.Sx Go.ChangeShapes Go.WideShapes Go.ChangeAt Go.RowKit


theorem pre_msg {n : Nat} (hn : n ≤ 1) (k a b c d : Int) : Pre13 ⟨n, msgV k a b c d⟩ := by
  refine ⟨by simp only; omega, fun i hi => ?_⟩
  have : i = 0 := by simp only at hi; omega
  subst this
  have : (elt (msgV k a b c d) 0).n = 0 := by kernel_rfl
  simp only [this]; omega

theorem recv_n (rj h5 h w : Bool) (c d e f nu ep : Int) : (recv rj h5 h w c d e f nu ep).n ≤ 1 := by
  unfold recv
  have hb : ∀ (p : Bool) (x y : R), x.n ≤ 1 → y.n ≤ 1 → (bif p then x else y).n ≤ 1 := fun p x y h1 h2 => by cases p <;> assumption
  have h1 : (bif h5 then 1 else 0 : Nat) ≤ 1 := by cases h5 <;> simp
  refine hb _ _ _ (Nat.zero_le _) (hb _ _ _ h1 (hb _ _ _ (hb _ _ _ (Nat.le_refl _) (hb _ _ _ (Nat.le_refl _) (Nat.zero_le _))) (hb _ _ _ (hb _ _ _ (Nat.zero_le _) (hb _ _ _ (Nat.le_refl _) (Nat.zero_le _))) (hb _ _ _ (Nat.zero_le _) (Nat.zero_le _)))))

theorem wrap5 {k : Int} (h1 : -9223372036854775808 ≤ k) (h2 : k < 9223372036854775808) : (lt (IntKind.i64.wrap (k - 5)) 0 || lt 2 (IntKind.i64.wrap (k - 5))) = (k != 5 && k != 6 && k != 7) ∧
    ((k != 5 && k != 6 && k != 7) = false → (IntKind.i64.wrap (k - 5) == 0) = (k == 5) ∧ (IntKind.i64.wrap (k - 5) == 0 + 1) = (k == 6)) := by
  by_cases hs : -9223372036854775803 ≤ k
  · rw [w64_id (by omega) (by omega)]
    refine ⟨?_, fun _ => ⟨?_, ?_⟩⟩
    · rw [Bool.eq_iff_iff]
      simp only [Bool.or_eq_true, lt_iff, Bool.and_eq_true, bne_iff_ne, ne_eq]
      omega
    · rw [Bool.eq_iff_iff]
      simp only [beq_iff_eq]
      omega
    · rw [Bool.eq_iff_iff]
      simp only [beq_iff_eq]
      omega
  · have e : IntKind.i64.wrap (k - 5) = k - 5 + 18446744073709551616 := by
      unfold IntKind.wrap IntKind.bits IntKind.signed
      simp only [Bool.true_and]
      split <;> rename_i h <;> simp at h <;> omega
    rw [e]
    refine ⟨?_, fun hh => ?_⟩
    · rw [Bool.eq_iff_iff]
      simp only [Bool.or_eq_true, lt_iff, Bool.and_eq_true, bne_iff_ne, ne_eq]
      omega
    · exfalso
      have : (k != 5 && k != 6 && k != 7) = true := by
        simp only [Bool.and_eq_true, bne_iff_ne, ne_eq]
        omega
      rw [this] at hh
      cases hh

theorem rc_eq {k : Int} (h1 : -9223372036854775808 ≤ k) (h2 : k < 9223372036854775808) (a b c d e f fr to nu ep : Int) : rcR a b c d e f k fr to nu ep = rcP a b c d e f k fr to nu ep := by
  obtain ⟨hr, hk⟩ := wrap5 h1 h2
  have hrj : rjR a b c d e f k fr to nu ep = rjP a b c d e f k fr to nu ep := by
    unfold rjR rjP
    rw [Bool.or_assoc (chk a b c d e f != 0 || fr != b || to != a || !tim ep || !tim nu), hr]
    congr 1
    unfold tim
    rw [nle ep 0, nle 1073741824 ep, nle nu 0, nle 1073741824 nu]
    simp only [Bool.not_and, Bool.or_assoc]
  unfold rcR rcP
  rw [hrj]
  cases hj : rjP a b c d e f k fr to nu ep
  · have h0 : (k != 5 && k != 6 && k != 7) = false := by
      rw [← hr]
      unfold rjP at hj
      rw [Bool.or_assoc (chk a b c d e f != 0 || fr != b || to != a || !tim ep || !tim nu)] at hj
      exact (Bool.or_eq_false_iff.1 hj).2
    obtain ⟨e1, e2⟩ := hk h0
    rw [e1, e2]
  · rfl

noncomputable def treeR (a b : Int) (i j : Nat) (x y : R) : Tree AV :=
  .br (lt 20 (toInt64 i) || lt 100 (toInt64 j)) (.leaf (.one (.c (.bool true))))
    (.need (!((((a == a) && ((b == b) && ((x.c == y.c) && ((x.d == y.d) && ((x.e == y.e) && ((x.f == y.f) && true)))))) == true) && true) || dec (Pre13 ⟨x.n, msgV x.k a b x.mc x.md⟩))
      (.leaf (.one (.c (.bool (((a == a) && ((b == b) && ((x.c == y.c) && ((x.d == y.d) && ((x.e == y.e) && ((x.f == y.f) && true)))))) && sameL ⟨x.n, msgV x.k a b x.mc x.md⟩ ⟨y.n, msgV y.k a b y.mc y.md⟩))))))

theorem treeR_all (a b : Int) (i j : Nat) {x y : R} (h : y = x) (hn : x.n ≤ 1) : (treeR a b i j x y).All (fun z => z = .one (.c (.bool true))) := by
  subst h
  unfold treeR
  simp only [sameL_refl, Tree.All, dec_iff.2 (pre_msg hn _ _ _ _ _), Bool.or_true, beq_self_eq_true, Bool.and_self, implies_true, and_self]

set_option maxRecDepth 100000 in
theorem walk (ρ0 : Val) (_ : wfL [.int .i64, .int .i64, .int .i64, .int .i64, .int .i64, .int .i64] 0 ρ0) (ρ1 : Val) (_ : wfL [.int .i64] 0 ρ1)
    (ρ2 : Val) (w2 : wfL [.int .i64, .int .i64, .int .i64, .int .i64, .int .i64, .int .i64, .sl [.int .i64], .sl [.int .u8]] 0 ρ2) (W : World) (vs : List Value)
    (h : All2 (A1.Rel (fun _ => False) W []) [argOf Try.prog 23 [.int .i64, .int .i64, .int .i64, .int .i64, .int .i64, .int .i64] ρ0, argOf Try.prog 3 [.int .i64] ρ1, argOf Try.prog 27 [.int .i64, .int .i64, .int .i64, .int .i64, .int .i64, .int .i64, .sl [.int .i64], .sl [.int .u8]] ρ2] vs) :
    Calls Try.prog 3 vs.toArray W (fun e W' => e = .returned (.bool true) ∧ Below W.heap.size W W') := by
  obtain ⟨a, b, c, d, e, f, ha⟩ : ∃ a b c d e f, argOf Try.prog 23 [.int .i64, .int .i64, .int .i64, .int .i64, .int .i64, .int .i64] ρ0 = .agg [I a, I b, I c, I d, I e, I f] := ⟨(ρ0.at 0).N [], (ρ0.at 1).N [], (ρ0.at 2).N [], (ρ0.at 3).N [], (ρ0.at 4).N [], (ρ0.at 5).N [], by kernel_rfl⟩
  obtain ⟨n, hn⟩ : ∃ n, argOf Try.prog 3 [.int .i64] ρ1 = .c (I n) := ⟨(ρ1.at 0).N [], by kernel_rfl⟩
  obtain ⟨k, fr, to, nu, va, ep, i, σ, j, τ, hk, hm⟩ : ∃ k fr to nu va ep i σ j τ, k = (ρ2.at 0).N [] ∧ argOf Try.prog 27 [.int .i64, .int .i64, .int .i64, .int .i64, .int .i64, .int .i64, .sl [.int .i64], .sl [.int .u8]] ρ2 = .agg [I k, I fr, I to, I nu, I va, I ep, .sl [.int .i64] i σ, .sl [.int .u8] j τ] :=
    ⟨(ρ2.at 0).N [], (ρ2.at 1).N [], (ρ2.at 2).N [], (ρ2.at 3).N [], (ρ2.at 4).N [], (ρ2.at 5).N [], (ρ2.at 6).L [], ρ2.at 6, (ρ2.at 7).L [], ρ2.at 7, rfl, by kernel_rfl⟩
  have hw : (Lit.int .i64 k).wf = true := by
    rw [hk]
    exact (wfL_nth _ _ _).1 w2 0 (.int .i64) rfl
  have hb : -9223372036854775808 ≤ k ∧ k < 9223372036854775808 := by
    have := hw; simp [Lit.wf, IntKind.min, IntKind.max, IntKind.signed, IntKind.bits] at this; omega
  rw [ha, hn, hm] at h
  exact law_of_tree h10 10 3 (u := treeR a b i j (rcP a b c d e f k fr to nu ep) (rcR a b c d e f k fr to nu ep)) (by kernel_rfl) (treeR_all a b i j (rc_eq hb.1 hb.2 _ _ _ _ _ _ _ _ _ _) (recv_n _ _ _ _ _ _ _ _ _ _)) h

theorem own : ownKnob Try.prog.godebug = none := by kernel_rfl
theorem laidOut : laidOutB Try.prog = true := by kernel_rfl
set_option maxRecDepth 100000 in
theorem lifted (os : Os) (started : os.Started) (H : Type) (enc : TypeId × Value → H) :
    ReturnsInHanded {} Try.checked os 3 .any (Rows.sessionReceivesSpec.pre6 enc Try.prog Try.f3 Rows.sessionReceivesRow.domain false) (Rows.sessionReceivesSpec.post enc Try.prog Try.f3 false true false false) := by
  refine returnsInHanded_of_change (C := Try.checked) own started (by kernel_rfl) Try.func3
    (ChangeSpec.witness6 (enc := enc) (C := Try.checked) false ⟨#[], #[.agg #[.int .i64 0, .int .i64 0, .int .i64 0, .int .i64 0, .int .i64 0, .int .i64 0], .int .i64 0, .agg #[.int .i64 0, .int .i64 0, .int .i64 0, .int .i64 0, .int .i64 0, .int .i64 0, .slice none 0 0, .slice none 0 0]], []⟩ 8 (by kernel_rfl) (by kernel_rfl) (by kernel_rfl) (by kernel_rfl)) ?_
  intro W base args ds gs before hval0 hW _ _
  have hval : ∀ (j : Nat) t v, Try.f3.params[j]? = some t → args[j]? = some v → Value.okWide Try.prog W .any base t v := hval0
  have hW' := hW
  obtain ⟨p, q, hA0, hV, rfl, _, _⟩ := hW
  have hA : DataW.TrodAll enc Try.prog W 0 (fun _ => true) true Try.f3.params.toList args.toList ds p := hA0
  rw [Try.params3] at hA hval
  obtain ⟨v0, vs0, d0, ds0, p0, q0, hargs, rfl, rfl, h0, r0⟩ := trodAll_cons hA
  obtain ⟨v1, vs1, d1, ds1, p1, q1, rfl, rfl, rfl, h1, r1⟩ := trodAll_cons r0
  obtain ⟨v2, vs2, d2, ds2, p2, q2, rfl, rfl, rfl, h2, r2⟩ := trodAll_cons r1
  obtain ⟨rfl, rfl, rfl⟩ := trodAll_nil r2
  obtain rfl : args = #[v0, v1, v2] := by cases args; simp_all
  obtain ⟨rfl, rfl⟩ := trodVars_none hV
  obtain ⟨ρ0, rel0, wf0⟩ := read_arg (m := 12) (es := [.int .i64, .int .i64, .int .i64, .int .i64, .int .i64, .int .i64]) (hval 0 23 v0 rfl rfl) h0 (by kernel_rfl)
  obtain ⟨ρ1, rel1, wf1⟩ := read_arg (m := 12) (es := [.int .i64]) (hval 1 3 v1 rfl rfl) h1 (by kernel_rfl)
  obtain ⟨ρ2, rel2, wf2⟩ := read_arg (m := 12) (es := [.int .i64, .int .i64, .int .i64, .int .i64, .int .i64, .int .i64, .sl [.int .i64], .sl [.int .u8]]) (hval 2 27 v2 rfl rfl) h2 (by kernel_rfl)
  clear hA0 hval0
  refine (walk ρ0 wf0 ρ1 wf1 ρ2 wf2 W [v0, v1, v2] (.cons rel0 ( .cons rel1 ( .cons rel2 (.nil))))).mono fun e W' ⟨he, bel⟩ => ?_
  subst he
  exact ⟨_, rfl, _, _, _, [], _, [], hW', trodAll_mk1 (shut_bool Try.underlying4 _), (trodAll_cons_mk (trod_keep laidOut (by kernel_rfl) (of_decide_eq_true (by kernel_rfl)) h0 bel) (trodAll_cons_mk (trod_keep laidOut (by kernel_rfl) (of_decide_eq_true (by kernel_rfl)) h1 bel) (trodAll_cons_mk (trod_keep laidOut (by kernel_rfl) (of_decide_eq_true (by kernel_rfl)) h2 bel) trodAll_mk0))), rfl, bel.frame _, fun h => by cases h⟩

/-- The given statement. -/
theorem proved : Rows.SessionReceivesSaid :=
  OpenClaim.holds_of_wide 3 Try.f3 rfl rfl rfl rfl rfl rfl rfl ⟨rfl, rfl, rfl, rfl, rfl⟩ rfl rfl rfl rfl rfl (by kernel_rfl) Try.func3 (by kernel_rfl)
    (of_decide_eq_true (by kernel_rfl)) (by unfold Func.isWrapper; rw [if_neg (of_decide_eq_false (by kernel_rfl))]; exact ⟨rfl, rfl⟩)
    (fun os started H enc _ => lifted os started H enc)

#print axioms proved
end Go.Proofs.Ytgkgepgkeljclaa.sessionReceives
