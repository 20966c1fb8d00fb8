/-
  The roles of sites: lineages that are extended or cut.
-/
import Derived.Test.YtjiennnkbompkaaRolO
namespace Go.Proofs.Ytjiennnkbompkaa
open Go Go.Sx Go.RowKit Classical

set_option maxRecDepth 100000

/-- what a correct lineage has at each span -/
structure SpOk (p x : Sp) : Prop where
  f : x.f = p.t + 1
  ft : x.f ≤ x.t
  t : x.t ≤ 1073741824
  e1 : 1 ≤ x.e
  e2 : x.e ≤ 1073741824
  ee : p.e < x.e
  p0 : 0 ≤ p.t

theorem corr_iff {l : Ln} : corr l = true ↔ ∀ i, i < l.n → badC l i = false := by
  unfold corr
  rw [Bool.not_eq_true', ← Bool.not_eq_true, anyB_iff]
  constructor
  · intro h i hi
    rw [← Bool.not_eq_true]
    exact fun hb => h ⟨i, hi, hb⟩
  · rintro h ⟨i, hi, hb⟩
    rw [h i hi] at hb; cases hb

theorem spOk_of {l : Ln} {i : Nat} (h : ∀ j, j ≤ i → badC l j = false) : SpOk (prv l.ρ i) (spn l.ρ i) := by
  obtain ⟨i1, i2, i3, i4⟩ := prv_ok (l := l) (i := i) fun j hj => h j (by omega)
  have hb := h i (Nat.le_refl _)
  have hge : 0 ≤ (prv l.ρ i).t := by
    cases i with
    | zero => simp [prv]
    | succ i => have := (i4 (by omega)).1; omega
  unfold badC badS at hb
  simp only [Bool.or_eq_false_iff, Bool.not_eq_false', Bool.and_eq_true, le_iff, bne_eq_false_iff_eq] at hb
  obtain ⟨⟨⟨⟨h1, h2⟩, h3⟩, h4⟩, h5⟩ := hb
  rw [← Bool.not_eq_true, lt_iff] at h2 h3
  rw [← Bool.not_eq_true, le_iff] at h5
  rw [w64_id (by omega) (by omega)] at h1
  exact ⟨h1, by omega, by omega, h4.1, h4.2, by omega, hge⟩

theorem corr_sp {l : Ln} (h : corr l = true) {i : Nat} (hi : i < l.n) : SpOk (prv l.ρ i) (spn l.ρ i) := spOk_of fun j hj => corr_iff.1 h j (by omega)

theorem bad_of {p x : Sp} (h : SpOk p x) : badS p x = false := by
  unfold badS
  simp only [Bool.or_eq_false_iff, Bool.not_eq_false', Bool.and_eq_true, le_iff, bne_eq_false_iff_eq]
  rw [w64_id (by have := h.p0; omega) (by have := h.f; have := h.ft; have := h.t; omega)]
  refine ⟨⟨⟨⟨h.f, ?_⟩, ?_⟩, h.e1, h.e2⟩, ?_⟩
  · rw [← Bool.not_eq_true, lt_iff]; have := h.ft; omega
  · rw [← Bool.not_eq_true, lt_iff]; have := h.t; omega
  · rw [← Bool.not_eq_true, le_iff]; have := h.ee; omega

theorem corr_of {l : Ln} (h : ∀ i, i < l.n → SpOk (prv l.ρ i) (spn l.ρ i)) : corr l = true := corr_iff.2 fun i hi => bad_of (h i hi)

/-- spans lie one behind the other -/
theorem sp_sorted {l : Ln} (h : corr l = true) : ∀ (d i : Nat), i + d + 1 < l.n → (spn l.ρ i).t < (spn l.ρ (i + d + 1)).f
  | 0, i, hi => by
    have := (corr_sp h hi).f
    show (spn l.ρ i).t < _
    rw [this]
    show _ < (spn l.ρ i).t + 1
    omega
  | d + 1, i, hi => by
    have h1 := sp_sorted h d i (by omega)
    have h2 := corr_sp h (i := i + d + 1) (by omega)
    have h3 := (corr_sp h hi).f
    have h4 : prv l.ρ (i + (d + 1) + 1) = spn l.ρ (i + d + 1) := rfl
    rw [h4] at h3
    have := h2.ft
    rw [h3]
    omega

theorem sp_lt {l : Ln} (h : corr l = true) {i j : Nat} (hij : i < j) (hj : j < l.n) : (spn l.ρ i).t < (spn l.ρ j).f := by
  obtain ⟨d, rfl⟩ : ∃ d, j = i + d + 1 := ⟨j - i - 1, by omega⟩
  exact sp_sorted h d i hj

/-! ### spans of rows that are made -/

theorem spn_congr {ρ σ : Val} {i : Nat} (h : ρ.at i = σ.at i) : spn ρ i = spn σ i := by unfold spn; rw [h]

theorem upds1_at (ρ : Val) (k i : Nat) (x : CV) : (ρ.upds k 2 [x]).at i = if i = k then .byFst fun g => pickV (Nat.beq g 2) (.ofC x) ((ρ.at i).at g) else ρ.at i := by
  show (Val.upd ρ k 2 x).at i = _
  unfold Val.upd
  rw [byFst_at]
  by_cases h : i = k
  · subst h
    rw [if_pos rfl]
    have : Nat.beq i i = true := Nat.beq_refl i
    rw [this]; rfl
  · rw [if_neg h]
    have : Nat.beq i k = false := by rw [beq_nat]; simpa using h
    rw [this]; rfl

theorem spn_upds (ρ : Val) (k i : Nat) (y : Int) : spn (ρ.upds k 2 [I y]) i = if i = k then { spn ρ i with t := y } else spn ρ i := by
  unfold spn
  rw [upds1_at]
  by_cases h : i = k
  · rw [if_pos h, if_pos h]
    rfl
  · rw [if_neg h, if_neg h]

theorem cat_at (n : Nat) (a b : Val) (i : Nat) : (Val.cat n a b).at i = if i < n then a.at i else b.at (i - n) := by
  unfold Val.cat
  rw [byFst_at]
  by_cases h : i < n
  · have : Nat.blt i n = true := by simpa using h
    rw [if_pos h, this]; rfl
  · have : Nat.blt i n = false := by rw [← Bool.not_eq_true]; simpa using h
    rw [if_neg h, this]; rfl

theorem spn_cat (n : Nat) (a b : Val) (i : Nat) : spn (Val.cat n a b) i = if i < n then spn a i else spn b (i - n) := by
  unfold spn
  rw [cat_at]
  split <;> rfl

theorem spn_flat (e f t : Int) : spn (Val.ofFlat 3 [I e, I f, I t]) 0 = ⟨e, f, t⟩ := rfl

/-- rows of the same spans -/
theorem leC_spn {n : Nat} {ρ σ : Val} (h : ∀ i, i < n → spn ρ i = spn σ i) : leC (.sl spSh n ρ) (.sl spSh n σ) := leC_ext fun i f s hi hf => by
  have h := h i hi
  unfold spn at h
  injection h with h1 h2 h3
  match f, hf with
  | 0, hf => simp [nth] at hf; subst hf; simp only [cellOf, h1]
  | 1, hf => simp [nth] at hf; subst hf; simp only [cellOf, h2]
  | 2, hf => simp [nth] at hf; subst hf; simp only [cellOf, h3]
  | k + 3, hf => simp [nth] at hf

/-- the number of the last span -/
def lastI (n : Nat) : Nat := (IntKind.i64.wrap (toInt64 n - 1)).toNat
theorem lastI_eq {n : Nat} (hn : fewN n) (h0 : 0 < n) : lastI n = n - 1 := by
  unfold fewN at hn
  unfold lastI
  show (IntKind.i64.wrap ((n : Int) - 1)).toNat = _
  rw [w64_id (by omega) (by omega)]; omega
theorem lastR {n : Nat} (hn : fewN n) (h0 : 0 < n) : inRange (IntKind.i64.wrap (toInt64 n - 1)) n = true := by
  unfold fewN at hn
  have e : IntKind.i64.wrap (toInt64 n - 1) = ((n - 1 : Nat) : Int) := by
    show IntKind.i64.wrap ((n : Int) - 1) = _
    rw [w64_id (by omega) (by omega)]; omega
  rw [e]
  exact inR (by omega)
theorem hd_last {l : Ln} (hn : fewN l.n) (h0 : 0 < l.n) : spn l.ρ (lastI l.n) = hd l := by
  rw [lastI_eq hn h0]
  unfold hd
  obtain ⟨k, hk⟩ : ∃ k, l.n = k + 1 := ⟨l.n - 1, by omega⟩
  rw [hk]; rfl

/-- a lineage with the cycles up to a number -/
def extL (l : Ln) (ep behind nu : Int) : Ln := bif lt 0 (toInt64 l.n) && (spn l.ρ (lastI l.n)).e == ep then ⟨l.n, l.ρ.upds (lastI l.n) 2 [I nu]⟩ else ⟨l.n + 1, Val.cat l.n l.ρ (Val.ofFlat 3 [I ep, I (IntKind.i64.wrap (behind + 1)), I nu])⟩

theorem pos_iff {n : Nat} : lt 0 (toInt64 n) = true ↔ 0 < n := by
  rw [lt_iff]
  show (0 : Int) < (n : Int) ↔ _
  omega

theorem extL_corr {l : Ln} (hn : fewN l.n) (hc : corr l = true) {ep behind nu : Int} (hb : behind = (hd l).t) (hnu : behind < nu) (hnu2 : nu ≤ 1073741824) (he1 : 1 ≤ ep) (he2 : ep ≤ 1073741824) (he : (hd l).e ≤ ep) :
    corr (extL l ep behind nu) = true ∧ (hd (extL l ep behind nu)).e = ep ∧ (hd (extL l ep behind nu)).t = nu := by
  have hd0 : 0 ≤ (hd l).t := by
    unfold hd
    rcases Nat.eq_zero_or_pos l.n with h0 | h0
    · rw [h0]; simp [prv]
    · obtain ⟨k, hk⟩ : ∃ k, l.n = k + 1 := ⟨l.n - 1, by omega⟩
      rw [hk]
      show 0 ≤ (spn l.ρ k).t
      have h5 := (corr_sp hc (i := k) (by omega)).p0
      have h6 := (corr_sp hc (i := k) (by omega)).f
      have h7 := (corr_sp hc (i := k) (by omega)).ft
      omega
  unfold extL
  cases hcond : (lt 0 (toInt64 l.n) && (spn l.ρ (lastI l.n)).e == ep)
  · simp only [cond_false]
    have hne : 0 < l.n → (hd l).e ≠ ep := by
      intro h0 h1
      rw [pos_iff.2 h0, hd_last hn h0, h1] at hcond
      simp at hcond
    have hlt : (hd l).e < ep := by
      rcases Nat.eq_zero_or_pos l.n with h0 | h0
      · have : hd l = ⟨0, 0, 0⟩ := by unfold hd; rw [h0]; rfl
        rw [this]; show (0 : Int) < ep; omega
      · have := hne h0; omega
    have hsp : ∀ i, spn (Val.cat l.n l.ρ (Val.ofFlat 3 [I ep, I (IntKind.i64.wrap (behind + 1)), I nu])) i = if i < l.n then spn l.ρ i else spn (Val.ofFlat 3 [I ep, I (IntKind.i64.wrap (behind + 1)), I nu]) (i - l.n) := fun i => spn_cat _ _ _ _
    have hw : IntKind.i64.wrap (behind + 1) = behind + 1 := w64_id (by omega) (by omega)
    have hprv : ∀ i, i ≤ l.n → prv (Val.cat l.n l.ρ (Val.ofFlat 3 [I ep, I (IntKind.i64.wrap (behind + 1)), I nu])) i = prv l.ρ i := by
      intro i hi
      cases i with
      | zero => rfl
      | succ i => show spn _ i = spn _ i; rw [hsp, if_pos (by omega)]
    have hlast : spn (Val.cat l.n l.ρ (Val.ofFlat 3 [I ep, I (IntKind.i64.wrap (behind + 1)), I nu])) l.n = ⟨ep, behind + 1, nu⟩ := by
      rw [hsp, if_neg (by omega), Nat.sub_self, spn_flat, hw]
    refine ⟨corr_of fun i hi => ?_, ?_, ?_⟩
    · have hi : i < l.n + 1 := hi
      rcases Nat.lt_or_ge i l.n with h | h
      · show SpOk (prv _ i) (spn _ i)
        rw [hprv i (by omega), hsp, if_pos h]
        exact corr_sp hc h
      · obtain rfl : i = l.n := by omega
        show SpOk (prv _ l.n) (spn _ l.n)
        rw [hprv _ (Nat.le_refl _), hlast]
        have e : prv l.ρ l.n = hd l := rfl
        rw [e]
        exact ⟨by show behind + 1 = _; omega, by show behind + 1 ≤ nu; omega, hnu2, he1, he2, hlt, hd0⟩
    · show (spn _ l.n).e = _
      rw [hlast]
    · show (spn _ l.n).t = _
      rw [hlast]
  · simp only [cond_true]
    rw [Bool.and_eq_true, pos_iff, beq_iff_eq] at hcond
    obtain ⟨h0, hep⟩ := hcond
    rw [lastI_eq hn h0] at hep ⊢
    have hsp := fun i => spn_upds l.ρ (l.n - 1) i nu
    have hprv : ∀ i, i < l.n → prv (l.ρ.upds (l.n - 1) 2 [I nu]) i = prv l.ρ i := by
      intro i hi
      cases i with
      | zero => rfl
      | succ i => show spn _ i = spn _ i; rw [hsp, if_neg (by omega)]
    have hdl : hd l = spn l.ρ (l.n - 1) := by
      unfold hd
      obtain ⟨k, hk⟩ : ∃ k, l.n = k + 1 := ⟨l.n - 1, by omega⟩
      rw [hk]; rfl
    have hdn : hd ⟨l.n, l.ρ.upds (l.n - 1) 2 [I nu]⟩ = { spn l.ρ (l.n - 1) with t := nu } := by
      unfold hd
      obtain ⟨k, hk⟩ : ∃ k, l.n = k + 1 := ⟨l.n - 1, by omega⟩
      simp only [hk]
      show spn _ k = _
      rw [spn_upds, if_pos (by omega)]
      rfl
    refine ⟨corr_of fun i hi => ?_, ?_, ?_⟩
    · have hi : i < l.n := hi
      show SpOk (prv _ i) (spn _ i)
      rw [hprv i hi, hsp]
      have h := corr_sp hc hi
      by_cases hk : i = l.n - 1
      · rw [if_pos hk]
        have : (spn l.ρ i).t < nu := by rw [hk, ← hdl]; omega
        exact ⟨h.f, by show (spn l.ρ i).f ≤ nu; have := h.ft; omega, hnu2, h.e1, h.e2, h.ee, h.p0⟩
      · rw [if_neg hk]; exact h
    · rw [hdn]; exact hep
    · rw [hdn]

end Go.Proofs.Ytjiennnkbompkaa
