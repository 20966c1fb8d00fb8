/-
  The session: how two ends begin.
-/
import Derived.Test.YtgkgepgkeljclaaSesJ
namespace Go.Proofs.Ytgkgepgkeljclaa
open Go Go.Sx Classical

/-- the error of a new end -/
def nsE (l r a c : Int) : Int := bif chk l r (IntKind.i64.wrap (a.tmod 4)) (IntKind.i64.wrap (c.tmod 6)) 0 0 != 0 then chk l r (IntKind.i64.wrap (a.tmod 4)) (IntKind.i64.wrap (c.tmod 6)) 0 0 else 0
/-- a new end -/
def ns (l r a c : Int) : Ses :=
  ⟨bif chk l r (IntKind.i64.wrap (a.tmod 4)) (IntKind.i64.wrap (c.tmod 6)) 0 0 != 0 then 0 else l, bif chk l r (IntKind.i64.wrap (a.tmod 4)) (IntKind.i64.wrap (c.tmod 6)) 0 0 != 0 then 0 else r,
    bif chk l r (IntKind.i64.wrap (a.tmod 4)) (IntKind.i64.wrap (c.tmod 6)) 0 0 != 0 then 0 else IntKind.i64.wrap (a.tmod 4), bif chk l r (IntKind.i64.wrap (a.tmod 4)) (IntKind.i64.wrap (c.tmod 6)) 0 0 != 0 then 0 else IntKind.i64.wrap (c.tmod 6),
    bif chk l r (IntKind.i64.wrap (a.tmod 4)) (IntKind.i64.wrap (c.tmod 6)) 0 0 != 0 then 0 else 0, bif chk l r (IntKind.i64.wrap (a.tmod 4)) (IntKind.i64.wrap (c.tmod 6)) 0 0 != 0 then 0 else 0⟩

theorem ns_eq {l r a c : Int} (hl : 0 ≤ l ∧ l < 4) (hr : 0 ≤ r ∧ r < 4) (hlr : l ≠ r) (ha : 0 ≤ a) (hc : 0 ≤ c) : nsE l r a c = 0 ∧ ns l r a c = ⟨l, r, a % 4, c % 6, 0, 0⟩ ∧ (ns l r a c).Ok := by
  have e1 : IntKind.i64.wrap (a.tmod 4) = a % 4 := by
    rw [Int.tmod_eq_emod_of_nonneg ha]
    exact w64_id (by omega) (by omega)
  have e2 : IntKind.i64.wrap (c.tmod 6) = c % 6 := by
    rw [Int.tmod_eq_emod_of_nonneg hc]
    exact w64_id (by omega) (by omega)
  have hok : Ses.Ok ⟨l, r, a % 4, c % 6, 0, 0⟩ := ⟨hl, hr, hlr, by simp only; omega, by simp only; omega, by simp, by simp, .inr rfl⟩
  have hk : chk l r (a % 4) (c % 6) 0 0 = 0 := chk_iff.2 hok
  have e3 : ns l r a c = ⟨l, r, a % 4, c % 6, 0, 0⟩ := by
    unfold ns
    rw [e1, e2, hk]
    rfl
  refine ⟨?_, e3, e3 ▸ hok⟩
  unfold nsE
  rw [e1, e2, hk]
  rfl

theorem few_of {m : Int} {n : Nat} (h : lt m (toInt64 n) = false) : (n : Int) ≤ m := by
  have : ¬ m < (n : Int) := fun hh => by
    have : lt m (toInt64 n) = true := (lt_iff _ _).2 hh
    rw [h] at this; cases this
  omega

theorem u8_bd {n : Int} (h : (Lit.int .u8 n).wf = true) : 0 ≤ n ∧ n ≤ 255 := by
  simpa [Lit.wf, IntKind.min, IntKind.max, IntKind.signed, IntKind.bits] using h

/-- what is known of the arguments -/
theorem start_arg (ρ : Val) (hw : wfL [.int .u8, .int .u8, .int .u8, .int .u8] 0 ρ) : ∃ a b c d : Int, argOf Try.prog 52 [.int .u8, .int .u8, .int .u8, .int .u8] ρ = .agg [.int .u8 a, .int .u8 b, .int .u8 c, .int .u8 d] ∧ 0 ≤ a ∧ 0 ≤ b ∧ 0 ≤ c ∧ 0 ≤ d := by
  have h := fun k hk => (wfL_nth _ _ _).1 hw k (.int .u8) hk
  simp only [wfC, Nat.zero_add] at h
  exact ⟨(ρ.at 0).N [], (ρ.at 1).N [], (ρ.at 2).N [], (ρ.at 3).N [], by kernel_rfl, (u8_bd (h 0 rfl)).1, (u8_bd (h 1 rfl)).1, (u8_bd (h 2 rfl)).1, (u8_bd (h 3 rfl)).1⟩

theorem steps_arg (ρ : Val) (hw : wfL [.sl stSh] 0 ρ) : ∃ (n : Nat) (σ : Val), argOf Try.prog 53 [.sl stSh] ρ = .c (.sl stSh n σ) ∧ ∀ i, i < n → 0 ≤ (stp σ i).which ∧ (stp σ i).which ≤ 255 := by
  refine ⟨(ρ.at 0).L [], ρ.at 0, by kernel_rfl, fun i hi => ?_⟩
  have h := (wfL_nth _ _ _).1 hw 0 (.sl stSh) rfl
  simp only [wfC] at h
  have := h.2 i hi 2
  simp only [wfAt, wfC] at this
  exact u8_bd this

end Go.Proofs.Ytgkgepgkeljclaa
