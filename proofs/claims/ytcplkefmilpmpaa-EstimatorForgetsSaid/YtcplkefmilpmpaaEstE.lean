/-
  The estimator: a row of samples (the states that the laws' loops go through).
-/
import Derived.Test.YtcplkefmilpmpaaEstD
namespace Go.Proofs.Ytcplkefmilpmpaa
open Go Go.Sx

/-- a state that small samples lead to -/
def small (a b c d : Int) : Prop := 0 ≤ a ∧ a ≤ 1000 ∧ 0 ≤ b ∧ b ≤ 524287 ∧ 0 ≤ c ∧ c ≤ 262143 ∧ 0 ≤ d ∧ d ≤ 12 ∧ (a = 0 → b = 0 ∧ c = 0)

theorem small_vld {a b c d : Int} (h : small a b c d) : vld a b c d = true := by
  unfold small at h
  exact vld_iff.2 (by omega)

theorem small_ok {a b c d t : Int} (h : small a b c d) (ht : 0 ≤ t ∧ t ≤ 65535) : ok a b c d t = true ∧ sE a b c d t = 0 := by
  have hv := small_vld h
  have : okT t = true := okT_iff.2 (by omega)
  unfold ok sE
  rw [hv, this]
  exact ⟨rfl, rfl⟩

theorem small_next {a b c d t : Int} (h : small a b c d) (ha : a ≤ 999) (ht : 0 ≤ t ∧ t ≤ 65535) : sA a = a + 1 ∧ small (a + 1) (sB a b t) (sC a b c t) 0 := by
  unfold small at h ⊢
  unfold sA sB sC
  by_cases h0 : a = 0
  · subst h0
    simp only [BEq.rfl, cond_true]
    omega
  · have : (a == 0) = false := by simpa using h0
    simp only [this, cond_false]
    omega

theorem small_exp {a b c d : Int} (h : small a b c d) : small a b c (expd a b c d) ∧ expd a b c d = min (d + 1) 12 := by
  have hv := small_vld h
  unfold expd
  rw [hv]
  unfold small at h ⊢
  simp only [cond_true]
  exact ⟨by omega, trivial⟩

theorem small_mean {a b c d : Int} (h : small a b c d) : mean a b c d = b / 8 := by
  unfold mean; rw [small_vld h]; rfl

theorem small_zero : small 0 0 0 0 := by unfold small; omega

/-- the steps of a law: which ones are time-outs; the times -/
def exB (ρ : Val) (i : Nat) : Bool := ((ρ.at i).at 0).B []
def tmT (ρ : Val) (i : Nat) : Int := ((ρ.at i).at 1).N []

theorem u16_bd {n : Int} (h : (Lit.int .u16 n).wf = true) : 0 ≤ n ∧ n ≤ 65535 := by
  simpa [Lit.wf, IntKind.min, IntKind.max, IntKind.signed, IntKind.bits] using h

abbrev stepSh : List Sh := [.bool, .int .u16]

/-- the argument 'steps' -/
theorem steps_arg (ρ : Val) (hw : wfL [.sl stepSh] 0 ρ) : ∃ n ρ', argOf Try.prog 36 [.sl stepSh] ρ = .c (.sl stepSh n ρ') ∧ ∀ i, i < n → 0 ≤ tmT ρ' i ∧ tmT ρ' i ≤ 65535 := by
  refine ⟨(ρ.at 0).L [], ρ.at 0, by kernel_rfl, fun i hi => ?_⟩
  have h := hw.1
  simp only [wfC] at h
  have := h.2 i hi 1
  simp only [wfAt, wfC] at this
  exact u16_bd this

theorem w_small {t : Int} (h : 0 ≤ t ∧ t ≤ 65535) : IntKind.i64.wrap t = t := w64_id (by omega) (by omega)

theorem few_of {n m : Nat} (h : lt (m : Int) (toInt64 n) = false) : n ≤ m := by
  have : ¬ (m : Int) < (n : Int) := fun h2 => by
    have h3 : lt (m : Int) (toInt64 n) = true := (lt_iff _ _).2 h2
    rw [h3] at h; cases h
  omega

theorem lt_false {a b : Int} (h : lt a b = false) : b ≤ a := by
  have : ¬ a < b := fun h2 => by rw [(lt_iff a b).2 h2] at h; cases h
  omega

end Go.Proofs.Ytcplkefmilpmpaa
