/-
  The evaluator in use (part U): rounds that follow one another.
-/
import Derived.Test.YtjiennnkbompkaaEngZ
namespace Go.Sx
open Go Go.RowKit

/-- the first one -/
def firstB (bad : Nat → Bool) : Nat → Nat
  | 0 => 0
  | n + 1 => bif anyB bad n then firstB bad n else n

theorem firstB_ok {bad : Nat → Bool} : ∀ {n : Nat}, anyB bad n = true → firstB bad n < n ∧ bad (firstB bad n) = true ∧ ∀ j, j < firstB bad n → bad j = false
  | 0, h => by simp [anyB] at h
  | n + 1, h => by
    unfold firstB
    cases hb : anyB bad n
    · simp only [anyB, hb, Bool.false_or] at h
      refine ⟨by simp, h, fun j hj => ?_⟩
      simp only [cond_false] at hj
      rw [← Bool.not_eq_true]
      intro hh
      have := anyB_iff.2 ⟨j, hj, hh⟩
      rw [hb] at this; cases this
    · obtain ⟨h1, h2, h3⟩ := firstB_ok hb
      exact ⟨by simp only [cond_true]; omega, h2, h3⟩

theorem firstB_eq {bad : Nat → Bool} {n i : Nat} (hi : i < n) (hb : bad i = true) (h : ∀ j, j < i → bad j = false) : anyB bad n = true ∧ firstB bad n = i := by
  have ha : anyB bad n = true := anyB_iff.2 ⟨i, hi, hb⟩
  obtain ⟨h1, h2, h3⟩ := firstB_ok ha
  refine ⟨ha, ?_⟩
  rcases Nat.lt_trichotomy (firstB bad n) i with hlt | heq | hgt
  · rw [h _ hlt] at h2; cases h2
  · exact heq
  · rw [h3 _ hgt] at hb; cases hb

/-- rounds that follow one another: the states 'st', the ways out at 'bad' ones 'sb' -/
structure Sq {X : Type} (TX : X → Tree (XE × X)) (μ : X → Nat) (st sb : Nat → X) (n : Nat) (bad : Nat → Bool) (e1 e0 : XE) : Prop where
  out : e0 ≠ .normal
  hit : e1 ≠ .normal
  meas : ∀ i, i ≤ n → μ (st i) = n - i
  round : ∀ i, i < n → (TX (st i)).All fun y => if bad i then y = (e1, sb i) else y = (.normal, st (i + 1))
  stop : (TX (st n)).All fun y => y = (e0, st n)

variable {X : Type} {TX : X → Tree (XE × X)} {μ : X → Nat} {st sb : Nat → X} {n : Nat} {bad : Nat → Bool} {e1 e0 : XE}

theorem Sq.rounds (h : Sq TX μ st sb n bad e1 e0) {inv : X → Prop} (hinv : ∀ x, inv x ↔ ∃ i, i ≤ n ∧ x = st i) : Rounds TX inv μ (fun y => (∃ i, i < n ∧ bad i = true ∧ y = (e1, sb i)) ∨ y = (e0, st n)) := by
  intro x hx
  obtain ⟨i, hi, rfl⟩ := (hinv x).1 hx
  rcases Nat.lt_or_eq_of_le hi with hlt | rfl
  · refine All.imp (fun y hy => ?_) (h.round i hlt)
    obtain ⟨e, z⟩ := y
    cases hb : bad i
    · rw [hb] at hy
      simp only [Bool.false_eq_true, if_false, Prod.mk.injEq] at hy
      obtain ⟨rfl, rfl⟩ := hy
      simp only
      rw [h.meas i hi, h.meas (i + 1) (by omega)]
      exact ⟨(hinv _).2 ⟨i + 1, by omega, rfl⟩, by omega⟩
    · rw [hb] at hy
      simp only [if_true, Prod.mk.injEq] at hy
      obtain ⟨rfl, rfl⟩ := hy
      cases hn : e with
      | normal => exact (h.hit hn).elim
      | exit k => subst hn; exact .inl ⟨i, hlt, hb, rfl⟩
      | ret => subst hn; exact .inl ⟨i, hlt, hb, rfl⟩
  · refine All.imp (fun y hy => ?_) h.stop
    obtain ⟨e, z⟩ := y
    simp only [Prod.mk.injEq] at hy
    obtain ⟨rfl, rfl⟩ := hy
    cases hn : e with
    | normal => exact (h.out hn).elim
    | exit k => subst hn; exact .inr rfl
    | ret => subst hn; exact .inr rfl

theorem Sq.fin_from (h : Sq TX μ st sb n bad e1 e0) : ∀ (d i : Nat), i + d = n → (∀ j, j < i → bad j = false) → fin TX μ (st i) = bif anyB bad n then (e1, sb (firstB bad n)) else (e0, st n) := by
  have hr := h.rounds (inv := fun x => ∃ i, i ≤ n ∧ x = st i) (fun _ => Iff.rfl)
  intro d
  induction d with
  | zero =>
    intro i hi hb
    have hi : i = n := by omega
    subst hi
    obtain ⟨y, hs, hy⟩ := all_sel (fin_step hr (x := st i) ⟨i, Nat.le_refl _, rfl⟩)
    obtain ⟨y', hs', hy'⟩ := all_sel h.stop
    rw [hs] at hs'
    simp at hs'; subst hs'
    rw [anyB_none hb]
    rcases hy with ⟨hn, _⟩ | ⟨_, hf⟩
    · rw [hy'] at hn; exact (h.out hn).elim
    · rw [hf, hy']; rfl
  | succ d ih =>
    intro i hi hb
    obtain ⟨y, hs, hy⟩ := all_sel (fin_step hr (x := st i) ⟨i, by omega, rfl⟩)
    obtain ⟨y', hs', hy'⟩ := all_sel (h.round i (by omega))
    rw [hs] at hs'
    simp at hs'; subst hs'
    cases hbi : bad i
    · rw [hbi] at hy'
      simp only [Bool.false_eq_true, if_false] at hy'
      rcases hy with ⟨_, _, _, hf⟩ | ⟨hn, _⟩
      · rw [← hf, hy']
        refine ih (i + 1) (by omega) fun j hj => ?_
        rcases Nat.lt_or_eq_of_le (Nat.le_of_lt_succ hj) with h1 | rfl
        · exact hb j h1
        · exact hbi
      · rw [hy'] at hn; exact (hn rfl).elim
    · rw [hbi] at hy'
      simp only [if_true] at hy'
      obtain ⟨ha, hf1⟩ := firstB_eq (show i < n by omega) hbi hb
      rw [ha, hf1]
      rcases hy with ⟨hn, _⟩ | ⟨_, hf⟩
      · rw [hy'] at hn; exact (h.hit hn).elim
      · rw [hf, hy']; rfl

theorem Sq.fin0 (h : Sq TX μ st sb n bad e1 e0) : fin TX μ (st 0) = bif anyB bad n then (e1, sb (firstB bad n)) else (e0, st n) := h.fin_from n 0 (by omega) fun j hj => by omega

/-- two ways to look for the same thing: they find it at the same place -/
theorem anyB_congr {b1 b2 : Nat → Bool} {n : Nat} (h : ∀ i, i < n → (∀ j, j < i → b1 j = false) → b1 i = b2 i) : anyB b1 n = anyB b2 n := by
  induction n with
  | zero => rfl
  | succ n ih =>
    have ih := ih fun i hi => h i (by omega)
    simp only [anyB]
    cases hb : anyB b1 n
    · rw [hb] at ih
      rw [← ih]
      simp only [Bool.false_or]
      refine h n (by omega) fun j hj => ?_
      rw [← Bool.not_eq_true]
      intro hh
      have := anyB_iff.2 ⟨j, hj, hh⟩
      rw [hb] at this; cases this
    · rw [hb] at ih
      rw [← ih]
      simp

end Go.Sx
