/-
  The roles of sites: steps.
-/
import Derived.Test.YtjiennnkbompkaaRolU
namespace Go.Proofs.Ytjiennnkbompkaa
open Go Go.Sx Go.RowKit Classical

set_option maxRecDepth 100000

/-! ### correct sites -/

structure SiteOk (x : Sit) : Prop where
  corr : corr x.ln = true
  ht : (hd x.ln).t = x.p
  he : (hd x.ln).e ≤ x.e
  e0 : 0 ≤ x.e
  e1 : x.e ≤ 1073741824
  p0 : 0 ≤ x.p
  p1 : x.p ≤ 1073741824
  num : sit x.a = true
  r0 : 0 ≤ x.r
  r1 : x.r ≤ 5
  er : x.e = 0 → x.r = 0
  src : rcv x.r = true → oth x.s x.a = true
  nsrc : rcv x.r = false → x.s = -1

theorem ok_of_chk {x : Sit} (h : chkS x = 0) : SiteOk x := by
  obtain ⟨a, b, c, d, e, f, g, h, i, j, k, l⟩ := chk_zero h
  exact ⟨a, b, c, d, e, f, g, h, i.1, i.2, j, k, l⟩

theorem tim_iff {a : Int} : tim a = true ↔ 0 ≤ a ∧ a ≤ 1073741824 := by
  unfold tim
  rw [Bool.and_eq_true, le_iff, le_iff]

theorem chk_of_ok {x : Sit} (h : SiteOk x) : chkS x = 0 := by
  unfold chkS chk
  have h1 := h.num
  have h2 : (le 0 x.r && le x.r 5) = true := by rw [Bool.and_eq_true, le_iff, le_iff]; exact ⟨h.r0, h.r1⟩
  have h3 : tim x.e = true := tim_iff.2 ⟨h.e0, h.e1⟩
  have h4 : tim x.p = true := tim_iff.2 ⟨h.p0, h.p1⟩
  have h5 : (x.e == 0 && x.r != 0) = false := by
    cases he : (x.e == 0)
    · rfl
    · have := h.er (by simpa using he)
      simp [this]
  have h6 : Proofs.Ytjiennnkbompkaa.corr ⟨x.n, x.ρ⟩ = true := h.corr
  have h7 : lt x.e (hd ⟨x.n, x.ρ⟩).e = false := by
    rw [← Bool.not_eq_true, lt_iff]
    have : (hd ⟨x.n, x.ρ⟩).e ≤ x.e := h.he
    omega
  have h8 : ((hd ⟨x.n, x.ρ⟩).t != x.p) = false := by
    have : (hd ⟨x.n, x.ρ⟩).t = x.p := h.ht
    simp [bne, this]
  rw [h1, h2, h3, h4, h5, h6, h7, h8]
  cases hr : rcv x.r
  · have := h.nsrc hr
    simp [this, bne]
  · have := h.src hr
    simp [this]

theorem chain0 {e : Int} {l : List (Bool × Int)} (hk : l.all (fun q => q.2 != 0) = true) (h : chain e l = 0) : e = 0 ∧ l.all Prod.fst = true := by
  rw [List.all_eq_true] at hk
  obtain ⟨a, b⟩ := le_chain0 (fun q hq => by have := hk q hq; simpa [bne] using this) h
  exact ⟨a, List.all_eq_true.2 b⟩

def Conj : List (Bool × Int) → Prop
  | [] => True
  | [q] => q.1 = true
  | q :: r => q.1 = true ∧ Conj r
theorem allL : ∀ {l : List (Bool × Int)}, l.all Prod.fst = true → Conj l
  | [], _ => trivial
  | [q], h => by
    have h : q.1 = true := by simpa using h
    exact h
  | q :: q' :: r, h => by
    rw [List.all_cons, Bool.and_eq_true] at h
    exact ⟨h.1, allL h.2⟩

/-! ### steps -/

/-- what a step asks for: kind, epoch, source, number -/
structure Stp where
  k : Int
  e : Int
  s : Int
  n : Int

def stepE (x : Sit) (t : Stp) : Int :=
  bif t.k == 0 then proE x t.e else bif t.k == 1 then demoE x t.e t.s else bif t.k == 2 then isoE x else bif t.k == 3 then rejE x t.e t.s else bif t.k == 4 then synE x t.n else bif t.k == 5 then appE x t.e t.n else 0
def flags (x : Sit) (t : Stp) : Sit := { x with l := t.n.tmod 2 != 0, c := t.e.tmod 2 != 0 }
def stepX (x : Sit) (t : Stp) : Sit :=
  bif t.k == 0 then pro x t.e else bif t.k == 1 then demo x t.e t.s else bif t.k == 2 then iso x else bif t.k == 3 then rej x t.e t.s else bif t.k == 4 then syn x t.n else bif t.k == 5 then app x t.e t.n else flags x t
def nxt (x : Sit) (t : Stp) : Sit := bif stepE x t == 0 then stepX x t else x

theorem hd_ge {l : Ln} (h : corr l = true) : 0 ≤ (hd l).t ∧ 0 ≤ (hd l).e ∧ (hd l).t ≤ 1073741824 ∧ (hd l).e ≤ 1073741824 := by
  unfold hd
  rcases Nat.eq_zero_or_pos l.n with h0 | h0
  · rw [h0]; exact ⟨by simp [prv], by simp [prv], by simp [prv], by simp [prv]⟩
  · obtain ⟨k, hk⟩ : ∃ k, l.n = k + 1 := ⟨l.n - 1, by omega⟩
    rw [hk]
    have := corr_sp h (i := k) (by omega)
    show 0 ≤ (spn l.ρ k).t ∧ 0 ≤ (spn l.ρ k).e ∧ (spn l.ρ k).t ≤ _ ∧ (spn l.ρ k).e ≤ _
    exact ⟨by have a := this.p0; have b := this.f; have c := this.ft; omega, by have := this.e1; omega, this.t, this.e2⟩

theorem pro_ok {x : Sit} {y : Int} (h : proE x y = 0) : SiteOk (pro x y) ∧ SiteOk x ∧ x.l = true ∧ x.e < y ∧ (x.r = 0 ∨ x.r = 2 ∨ x.r = 3) := by
  obtain ⟨hc, hok⟩ := chain0 rfl h
  have o := ok_of_chk hc
  have hok := allL hok
  obtain ⟨b1, b2, b3, b4⟩ := hok
  have a1 : x.l = true := b1
  have a2 : ((x.r == 0 && toInt64 x.n == 0) || x.r == 2 || x.r == 3) = true := b2
  have a3 : lt x.e y = true := b3
  have a4 : le y 1073741824 = true := b4
  rw [lt_iff] at a3
  rw [le_iff] at a4
  have := o.e0
  have := o.he
  refine ⟨⟨o.corr, o.ht, by show (hd x.ln).e ≤ y; omega, by show 0 ≤ y; omega, a4, o.p0, o.p1, o.num, by show (0 : Int) ≤ 1; omega, by show (1 : Int) ≤ 5; omega, fun h => by have : y = 0 := h; omega, (fun h => by cases h), fun _ => rfl⟩, o, a1, a3, ?_⟩
  simp only [Bool.or_eq_true, Bool.and_eq_true, beq_iff_eq] at a2
  rcases a2 with (a | a) | a
  · exact .inl a.1
  · exact .inr (.inl a)
  · exact .inr (.inr a)

theorem demo_ok {x : Sit} {y src : Int} (h : demoE x y src = 0) : SiteOk (demo x y src) ∧ SiteOk x ∧ x.r = 1 ∧ x.e ≤ y ∧ ((demo x y src).r = 2 ∨ (demo x y src).r = 5) := by
  obtain ⟨hc, hok⟩ := chain0 rfl h
  have o := ok_of_chk hc
  have hok := allL hok
  obtain ⟨b1, b2, b3, b4⟩ := hok
  have a1 : (x.r == 1) = true := b1
  have a2 : le x.e y = true := b2
  have a3 : le y 1073741824 = true := b3
  have a4 : (src == -1 || oth src x.a) = true := b4
  have a1 : x.r = 1 := by simpa using a1
  rw [le_iff] at a2 a3
  have := o.e0
  have := o.he
  have hy : y ≠ 0 := fun h0 => by
    have := o.er (by omega)
    omega
  cases hs : (src == -1)
  · rw [hs] at a4
    have e : demo x y src = { x with r := 2, e := y, s := src } := by unfold demo; rw [hs]; rfl
    rw [e]
    exact ⟨⟨o.corr, o.ht, by show (hd x.ln).e ≤ y; omega, by show 0 ≤ y; omega, a3, o.p0, o.p1, o.num, by show (0 : Int) ≤ 2; omega, by show (2 : Int) ≤ 5; omega, fun h => (hy h).elim, fun _ => a4, (fun h => by cases h)⟩, o, a1, a2, .inl rfl⟩
  · have hs' : src = -1 := by simpa using hs
    have e : demo x y src = { x with r := 5, e := y, s := src } := by unfold demo; rw [hs]; rfl
    rw [e]
    exact ⟨⟨o.corr, o.ht, by show (hd x.ln).e ≤ y; omega, by show 0 ≤ y; omega, a3, o.p0, o.p1, o.num, by show (0 : Int) ≤ 5; omega, by show (5 : Int) ≤ 5; omega, fun h => (hy h).elim, (fun h => by cases h), fun _ => hs'⟩, o, a1, a2, .inr rfl⟩

theorem iso_ok {x : Sit} (h : isoE x = 0) : SiteOk (iso x) ∧ SiteOk x ∧ x.r = 2 := by
  obtain ⟨hc, hok⟩ := chain0 rfl h
  have o := ok_of_chk hc
  have hok := allL hok
  have a1 : (x.r == 2) = true := hok
  have a1 : x.r = 2 := by simpa using a1
  exact ⟨⟨o.corr, o.ht, o.he, o.e0, o.e1, o.p0, o.p1, o.num, by show (0 : Int) ≤ 3; omega, by show (3 : Int) ≤ 5; omega, fun h => by have := o.er h; omega, (fun h => by cases h), fun _ => rfl⟩, o, a1⟩

theorem rej_ok {x : Sit} {y src : Int} (h : rejE x y src = 0) : SiteOk (rej x y src) ∧ SiteOk x ∧ x.r ≠ 1 ∧ x.r ≠ 2 ∧ x.e ≤ y ∧ ((rej x y src).r = 4 ∨ ((rej x y src).r = 2 ∧ x.r = 3)) := by
  obtain ⟨hc, hok⟩ := chain0 rfl h
  have o := ok_of_chk hc
  have hok := allL hok
  obtain ⟨b1, b2, b3, b4⟩ := hok
  have a1 : (x.r != 1 && x.r != 2) = true := b1
  have a2 : (le x.e y && y != 0) = true := b2
  have a3 : le y 1073741824 = true := b3
  have a4 : oth src x.a = true := b4
  simp only [Bool.and_eq_true, bne_iff_ne, ne_eq, le_iff] at a1 a2
  rw [le_iff] at a3
  have := o.e0
  have := o.he
  cases hs : (x.r == 3 && y == x.e)
  · have e : rej x y src = { x with r := 4, e := y, s := src } := by unfold rej; rw [hs]; rfl
    rw [e]
    exact ⟨⟨o.corr, o.ht, by show (hd x.ln).e ≤ y; omega, by show 0 ≤ y; omega, a3, o.p0, o.p1, o.num, by show (0 : Int) ≤ 4; omega, by show (4 : Int) ≤ 5; omega, fun h => (a2.2 h).elim, fun _ => a4, (fun h => by cases h)⟩, o, a1.1, a1.2, a2.1, .inl rfl⟩
  · have e : rej x y src = { x with r := 2, e := y, s := src } := by unfold rej; rw [hs]; rfl
    rw [e]
    rw [Bool.and_eq_true] at hs
    exact ⟨⟨o.corr, o.ht, by show (hd x.ln).e ≤ y; omega, by show 0 ≤ y; omega, a3, o.p0, o.p1, o.num, by show (0 : Int) ≤ 2; omega, by show (2 : Int) ≤ 5; omega, fun h => (a2.2 h).elim, fun _ => a4, (fun h => by cases h)⟩, o, a1.1, a1.2, a2.1, .inr ⟨rfl, by simpa using hs.1⟩⟩

theorem app_ok {x : Sit} {ep nu : Int} (hf : fewN x.n) (h : appE x ep nu = 0) : SiteOk (app x ep nu) ∧ SiteOk x ∧ (x.r = 1 ∨ x.r = 2) ∧ x.e ≤ ep ∧ x.p < nu := by
  obtain ⟨hc, hok⟩ := chain0 rfl h
  have o := ok_of_chk hc
  have hok := allL hok
  obtain ⟨b1, b2, b3, b4⟩ := hok
  have a1 : (x.r == 1 || x.r == 2) = true := b1
  have a2 : ((le x.e ep && ep != 0) && (x.r != 1 || ep == x.e)) = true := b2
  have a3 : le (imax ep nu) 1073741824 = true := b3
  have a4 : lt x.p nu = true := b4
  rw [imax_le, Bool.and_eq_true, le_iff, le_iff] at a3
  rw [lt_iff] at a4
  simp only [Bool.or_eq_true, beq_iff_eq] at a1
  rw [Bool.and_eq_true, Bool.and_eq_true, le_iff] at a2
  have a5 : ep ≠ 0 := by have := a2.1.2; simpa using this
  have := o.e0
  have := o.he
  have hp := o.ht
  obtain ⟨c1, c2, c3⟩ := extL_corr (l := x.ln) hf o.corr (ep := ep) (behind := x.p) (nu := nu) hp.symm a4 a3.2 (by omega) a3.1 (by omega)
  have hl : (app x ep nu).ln = extL x.ln ep x.p nu := rfl
  refine ⟨⟨by rw [hl]; exact c1, by rw [hl]; exact c3, by rw [hl, c2]; exact Int.le_refl _, by show 0 ≤ ep; omega, a3.1, by have := o.p0; show 0 ≤ nu; omega, a3.2, o.num, o.r0, o.r1, fun h => (a5 h).elim, o.src, o.nsrc⟩, o, a1, a2.1.1, a4⟩

theorem corr_prefix {l : Ln} (h : corr l = true) {k : Nat} (hk : k ≤ l.n) : corr ⟨k, l.ρ⟩ = true := corr_of fun i hi => corr_sp h (i := i) (by have hi : i < k := hi; omega)

theorem min_ok {l : Ln} (hf : fewN l.n) (h : corr l = true) (h0 : 0 < l.n) {nu : Int} (hnu : (hd l).f ≤ nu) : corr (minL nu l) = true ∧ hd (minL nu l) = { hd l with t := imin (hd l).t nu } := by
  have hl := lastI_eq hf h0
  have hdl : hd l = spn l.ρ (l.n - 1) := by
    unfold hd
    obtain ⟨k, hk⟩ : ∃ k, l.n = k + 1 := ⟨l.n - 1, by omega⟩
    rw [hk]; rfl
  have hsp : ∀ i, spn (minL nu l).ρ i = if i = l.n - 1 then { spn l.ρ i with t := imin (spn l.ρ (l.n - 1)).t nu } else spn l.ρ i := fun i => by
    show spn (l.ρ.upds (lastI l.n) 2 [I _]) i = _
    rw [hl, spn_upds]
  have hprv : ∀ i, i < l.n → prv (minL nu l).ρ i = prv l.ρ i := by
    intro i hi
    cases i with
    | zero => rfl
    | succ i => show spn _ i = spn _ i; rw [hsp, if_neg (by omega)]
  have him : imin (hd l).t nu ≤ (hd l).t ∧ (hd l).f ≤ imin (hd l).t nu := by
    have := (corr_sp h (i := l.n - 1) (by omega)).ft
    rw [← hdl] at this
    unfold imin
    cases hc : lt nu (hd l).t
    · exact ⟨Int.le_refl _, this⟩
    · rw [lt_iff] at hc
      exact ⟨by show nu ≤ _; omega, hnu⟩
  refine ⟨corr_of fun i hi => ?_, ?_⟩
  · have hi : i < l.n := hi
    rw [hprv i hi, hsp]
    have o := corr_sp h hi
    by_cases hk : i = l.n - 1
    · rw [if_pos hk, ← hdl]
      rw [hk, ← hdl] at o
      rw [hk, ← hdl]
      exact ⟨o.f, him.2, by have := o.t; show imin (hd l).t nu ≤ _; omega, o.e1, o.e2, o.ee, o.p0⟩
    · rw [if_neg hk]; exact o
  · unfold hd
    obtain ⟨k, hk⟩ : ∃ k, l.n = k + 1 := ⟨l.n - 1, by omega⟩
    have : (minL nu l).n = k + 1 := hk
    rw [this, hk]
    show spn (minL nu l).ρ k = _
    rw [hsp, if_pos (by omega)]
    have : l.n - 1 = k := by omega
    rw [this]
    rfl

theorem syn_ok {x : Sit} {nu : Int} (hf : fewN x.n) (h : synE x nu = 0) : SiteOk (syn x nu) ∧ SiteOk x ∧ x.r = 4 := by
  obtain ⟨hc, hok⟩ := chain0 rfl h
  have o := ok_of_chk hc
  have hok := allL hok
  obtain ⟨b1, b2⟩ := hok
  have a1 : (x.r == 4) = true := b1
  have a2 : (le 1 nu && le nu 1073741824) = true := b2
  have a1 : x.r = 4 := by simpa using a1
  rw [Bool.and_eq_true, le_iff, le_iff] at a2
  have he0 : x.e ≠ 0 := fun h0 => by have := o.er h0; omega
  have he1 : 1 ≤ x.e := by have := o.e0; omega
  have hk := cutN_le nu x.ln
  have hk : cutN nu x.ln ≤ x.n := hk
  have hfk : fewN (cutN nu x.ln) := by unfold fewN at hf ⊢; omega
  have c0 : Proofs.Ytjiennnkbompkaa.corr ⟨cutN nu x.ln, x.ρ⟩ = true := corr_prefix o.corr hk
  -- the last span that stays
  have key : ∃ l1 : Ln, resL x nu ⟨cutN nu x.ln, x.ρ⟩ = tailL x nu l1 ∧ fewN l1.n ∧ Proofs.Ytjiennnkbompkaa.corr l1 = true ∧ (hd l1).e ≤ x.e ∧ (hd l1).t ≤ nu := by
    cases h0 : lt 0 (toInt64 (cutN nu x.ln))
    · refine ⟨⟨cutN nu x.ln, x.ρ⟩, by unfold resL; rw [h0]; rfl, hfk, c0, ?_⟩
      have hz : cutN nu x.ln = 0 := by
        rcases Nat.eq_zero_or_pos (cutN nu x.ln) with h1 | h1
        · exact h1
        · rw [pos_iff.2 h1] at h0; cases h0
      have : hd ⟨cutN nu x.ln, x.ρ⟩ = ⟨0, 0, 0⟩ := by unfold hd; rw [hz]; rfl
      rw [this]
      exact ⟨by show (0 : Int) ≤ _; omega, by show (0 : Int) ≤ _; omega⟩
    · have hp := pos_iff.1 h0
      obtain ⟨k, hkk⟩ : ∃ k, cutN nu x.ln = k + 1 := ⟨cutN nu x.ln - 1, by omega⟩
      have hdk : hd ⟨cutN nu x.ln, x.ρ⟩ = spn x.ρ k := by unfold hd; rw [hkk]; rfl
      have hb := beh_lt (nu := nu) (l := x.ln) (i := k) (by omega)
      unfold beh at hb
      rw [← Bool.not_eq_true, lt_iff] at hb
      have hb : ¬ nu < (spn x.ρ k).f := hb
      obtain ⟨m1, m2⟩ := min_ok (l := ⟨cutN nu x.ln, x.ρ⟩) hfk c0 hp (nu := nu) (by rw [hdk]; omega)
      refine ⟨minL nu ⟨cutN nu x.ln, x.ρ⟩, by unfold resL; rw [h0]; rfl, hfk, m1, ?_, ?_⟩
      · rw [m2, hdk]
        show (spn x.ρ k).e ≤ x.e
        have hh := o.he
        rcases Nat.lt_or_eq_of_le hk with hlt | heq
        · -- an earlier span has an earlier epoch
          have : ∀ d i, i + d < x.n → (spn x.ρ i).e ≤ (spn x.ρ (i + d)).e := by
            intro d
            induction d with
            | zero => intro i _; exact Int.le_refl _
            | succ d ih =>
              intro i hi
              have h1 := ih i (by omega)
              have h2 := (corr_sp o.corr (i := i + d + 1) hi).ee
              have h2 : (spn x.ρ (i + d)).e < (spn x.ρ (i + d + 1)).e := h2
              show _ ≤ (spn x.ρ (i + d + 1)).e
              omega
          have h1 := this (x.n - 1 - k) k (by omega)
          have h2 : hd x.ln = spn x.ρ (x.n - 1) := by
            unfold hd
            obtain ⟨m, hm⟩ : ∃ m, x.n = m + 1 := ⟨x.n - 1, by omega⟩
            have : x.ln.n = m + 1 := hm
            rw [this, hm]; rfl
          rw [h2] at hh
          have e : k + (x.n - 1 - k) = x.n - 1 := by omega
          rw [e] at h1
          omega
        · have h2 : hd x.ln = spn x.ρ k := by
            unfold hd
            have : x.ln.n = k + 1 := by show x.n = _; omega
            rw [this]; rfl
          rw [h2] at hh; exact hh
      · rw [m2]
        show imin _ nu ≤ nu
        unfold imin
        cases hc : lt nu (hd ⟨cutN nu x.ln, x.ρ⟩).t
        · rw [← Bool.not_eq_true, lt_iff] at hc
          show (hd ⟨cutN nu x.ln, x.ρ⟩).t ≤ nu
          omega
        · exact Int.le_refl _
  obtain ⟨l1, r1, f1, c1, e1, t1⟩ := key
  have fin : Proofs.Ytjiennnkbompkaa.corr (resL x nu ⟨cutN nu x.ln, x.ρ⟩) = true ∧ (hd (resL x nu ⟨cutN nu x.ln, x.ρ⟩)).t = nu ∧ (hd (resL x nu ⟨cutN nu x.ln, x.ρ⟩)).e ≤ x.e := by
    rw [r1]
    unfold tailL
    cases hc : lt (hd l1).t nu
    · rw [← Bool.not_eq_true, lt_iff] at hc
      exact ⟨c1, by show (hd l1).t = nu; omega, e1⟩
    · rw [lt_iff] at hc
      obtain ⟨b1, b2, b3⟩ := extL_corr f1 c1 (ep := x.e) (behind := (hd l1).t) (nu := nu) rfl hc a2.2 he1 o.e1 e1
      exact ⟨b1, b3, by simp only [cond_true]; rw [b2]; exact Int.le_refl _⟩
  refine ⟨⟨fin.1, fin.2.1, fin.2.2, o.e0, o.e1, by show 0 ≤ nu; omega, a2.2, o.num, by show (0 : Int) ≤ 2; omega, by show (2 : Int) ≤ 5; omega, fun h => (he0 h).elim, fun _ => o.src (by rw [a1]; rfl), (fun h => by cases h)⟩, o, a1⟩

/-- what a step keeps -/
theorem nxt_ok {x : Sit} {t : Stp} (hf : fewN x.n) (h : SiteOk x) : SiteOk (nxt x t) ∧ (nxt x t).a = x.a ∧ x.e ≤ (nxt x t).e ∧ (t.k ≠ 4 → x.p ≤ (nxt x t).p) ∧ (nxt x t).n ≤ x.n + 1 := by
  unfold nxt
  cases he : (stepE x t == 0)
  · exact ⟨h, rfl, Int.le_refl _, fun _ => Int.le_refl _, Nat.le_succ _⟩
  · have he : stepE x t = 0 := by simpa using he
    simp only [cond_true]
    unfold stepE at he
    unfold stepX
    cases h0 : (t.k == 0)
    · rw [h0] at he
      cases h1 : (t.k == 1)
      · rw [h1] at he
        cases h2 : (t.k == 2)
        · rw [h2] at he
          cases h3 : (t.k == 3)
          · rw [h3] at he
            cases h4 : (t.k == 4)
            · rw [h4] at he
              cases h5 : (t.k == 5)
              · exact ⟨⟨h.corr, h.ht, h.he, h.e0, h.e1, h.p0, h.p1, h.num, h.r0, h.r1, h.er, h.src, h.nsrc⟩, rfl, Int.le_refl _, fun _ => Int.le_refl _, Nat.le_succ _⟩
              · rw [h5] at he
                obtain ⟨a, b, c, d, e⟩ := app_ok hf he
                exact ⟨a, rfl, d, fun _ => by show x.p ≤ t.n; omega, app_small _ _ _⟩
            · rw [h4] at he
              obtain ⟨a, b, c⟩ := syn_ok hf he
              exact ⟨a, rfl, Int.le_refl _, fun h => (h (by simpa using h4)).elim, cutN_small⟩
          · rw [h3] at he
            obtain ⟨a, b, c, d, e, f⟩ := rej_ok he
            exact ⟨a, rfl, e, fun _ => Int.le_refl _, Nat.le_succ _⟩
        · rw [h2] at he
          obtain ⟨a, b, c⟩ := iso_ok he
          exact ⟨a, rfl, Int.le_refl _, fun _ => Int.le_refl _, Nat.le_succ _⟩
      · rw [h1] at he
        obtain ⟨a, b, c, d, e⟩ := demo_ok he
        exact ⟨a, rfl, d, fun _ => Int.le_refl _, Nat.le_succ _⟩
    · rw [h0] at he
      obtain ⟨a, b, c, d, e⟩ := pro_ok he
      exact ⟨a, rfl, by show x.e ≤ t.e; omega, fun _ => Int.le_refl _, Nat.le_succ _⟩

end Go.Proofs.Ytjiennnkbompkaa
/-
  The roles of sites: a step, carried out; the law that sites stay correct.
-/
namespace Go.Proofs.Ytjiennnkbompkaa
open Go Go.Sx Go.RowKit Classical

set_option maxRecDepth 100000

def okC (k : Int) (x : Sit) : A1 := .agg [I (bif k == 0 then x.a else 0), I (bif k == 0 then x.r else 0), I (bif k == 0 then x.e else 0), I (bif k == 0 then x.p else 0), .sl spSh (bif k == 0 then x.n else 0) x.ρ, I (bif k == 0 then x.s else 0), .bool (k == 0 && x.l), .bool (k == 0 && x.c)]
noncomputable def one28 (k : Int) (x y : Sit) : Tree AV := .need (dec (small x.n)) (.br (k != 0) (.leaf (.tup [x.cv, .c (.bool false)])) (.leaf (.tup [okC k y, .c (.bool true)])))
noncomputable def tree28 (x : Sit) (t : Stp) : Tree AV :=
  .br (t.k == 0) (one28 (proE x t.e) x (pro x t.e)) (.br (t.k == 1) (one28 (demoE x t.e t.s) x (demo x t.e t.s)) (.br (t.k == 2) (one28 (isoE x) x (iso x)) (.br (t.k == 3) (one28 (rejE x t.e t.s) x (rej x t.e t.s))
    (.br (t.k == 4) (one28 (synE x t.n) x (syn x t.n)) (.br (t.k == 5) (one28 (appE x t.e t.n) x (app x t.e t.n)) (.need true (.need true (.leaf (.tup [(flags x t).cv, .c (.bool true)])))))))))

theorem t28 (x : Sit) (t : Stp) : hcTree Try.prog H19 12 28 [x.cv, .agg [I t.k, I t.e, I t.s, I t.n]] = tree28 x t := by kernel_rfl

theorem okC_0 (x : Sit) : okC 0 x = x.cv := rfl

theorem one28_all {k : Int} {x y : Sit} {r : AV} (hs : small x.n) (h1 : (k == 0) = false → r = .tup [x.cv, .c (.bool false)]) (h2 : k = 0 → r = .tup [y.cv, .c (.bool true)]) : (one28 k x y).All (fun z => leA z r) := by
  refine ⟨dec_iff.2 hs, fun h => ?_, fun h => ?_⟩
  · rw [h1 (by simpa [bne] using h)]
    exact leA.refl
  · have h : k = 0 := by simpa [bne] using h
    subst h
    rw [h2 rfl, okC_0]
    exact leA.refl

noncomputable def Grun : List A1 → Option (Bool × AV)
  | [.agg [.int .i64 a, .int .i64 r, .int .i64 e, .int .i64 p, .sl [.int .i64, .int .i64, .int .i64] n ρ, .int .i64 s, .bool l, .bool c], .agg [.int .i64 k, .int .i64 ep, .int .i64 src, .int .i64 nu]] =>
    some (dec (small n), .tup [(nxt ⟨a, r, e, p, n, ρ, s, l, c⟩ ⟨k, ep, src, nu⟩).cv, .c (.bool (stepE ⟨a, r, e, p, n, ρ, s, l, c⟩ ⟨k, ep, src, nu⟩ == 0))])
  | _ => none

theorem nxt_f {x : Sit} {t : Stp} (h : (stepE x t == 0) = false) : nxt x t = x := by unfold nxt; rw [h]; rfl
theorem nxt_t {x : Sit} {t : Stp} (h : stepE x t = 0) : nxt x t = stepX x t := by unfold nxt; rw [h]; rfl

theorem tree28_all (x : Sit) (t : Stp) (hs : small x.n) : (tree28 x t).All (fun z => leA z (.tup [(nxt x t).cv, .c (.bool (stepE x t == 0))])) := by
  have key : ∀ {k : Int} {y : Sit}, stepE x t = k → stepX x t = y → (one28 k x y).All (fun z => leA z (.tup [(nxt x t).cv, .c (.bool (stepE x t == 0))])) := fun {k y} hk hy => one28_all hs
    (fun h => by rw [nxt_f (by rw [hk]; exact h), hk, h]) (fun h => by rw [nxt_t (by rw [hk]; exact h), hk, h, hy]; rfl)
  refine ⟨fun h0 => key (by unfold stepE; rw [h0]; rfl) (by unfold stepX; rw [h0]; rfl), fun h0 => ⟨fun h1 => key (by unfold stepE; rw [h0, h1]; rfl) (by unfold stepX; rw [h0, h1]; rfl), fun h1 => ⟨fun h2 => key (by unfold stepE; rw [h0, h1, h2]; rfl) (by unfold stepX; rw [h0, h1, h2]; rfl), fun h2 =>
    ⟨fun h3 => key (by unfold stepE; rw [h0, h1, h2, h3]; rfl) (by unfold stepX; rw [h0, h1, h2, h3]; rfl), fun h3 => ⟨fun h4 => key (by unfold stepE; rw [h0, h1, h2, h3, h4]; rfl) (by unfold stepX; rw [h0, h1, h2, h3, h4]; rfl), fun h4 =>
      ⟨fun h5 => key (by unfold stepE; rw [h0, h1, h2, h3, h4, h5]; rfl) (by unfold stepX; rw [h0, h1, h2, h3, h4, h5]; rfl), fun h5 => ⟨rfl, rfl, ?_⟩⟩⟩⟩⟩⟩⟩
  have he : stepE x t = 0 := by unfold stepE; rw [h0, h1, h2, h3, h4, h5]; rfl
  have hx : stepX x t = flags x t := by unfold stepX; rw [h0, h1, h2, h3, h4, h5]; rfl
  rw [nxt_t he, he, hx]
  exact leA.refl

theorem u28 : UcOne Try.prog 28 (nG Grun) := ucOne_of_tree h19 12 28 fun args r h => by
  unfold Grun at h; split at h
  · rename_i a ro e p n ρ s l c k ep src nu
    obtain ⟨hp, rfl⟩ := Prod.mk.inj (Option.some.inj h)
    exact ⟨_, t28 ⟨a, ro, e, p, n, ρ, s, l, c⟩ ⟨k, ep, src, nu⟩, tree28_all _ _ (dec_iff.1 hp)⟩
  · cases h

noncomputable abbrev H20 : Hd := ⟨H19.pc, (28, nG Grun) :: H19.hc, [], H19.mc⟩
theorem h20 : HdOk Try.prog H20 := h19.ucCons u28

end Go.Proofs.Ytjiennnkbompkaa
/-
  The roles of sites: whatever happens to a site, it remains correct.
-/
namespace Go.Proofs.Ytjiennnkbompkaa
open Go Go.Sx Go.RowKit Classical

set_option maxRecDepth 100000

abbrev stSh : List Sh := [.int .i64, .int .i64, .int .i64, .int .i64]
/-- a list of steps -/
structure Sts where
  n : Nat
  σ : Val
def Sts.at (l : Sts) (i : Nat) : Stp := ⟨((l.σ.at i).at 0).N [], ((l.σ.at i).at 1).N [], ((l.σ.at i).at 2).N [], ((l.σ.at i).at 3).N []⟩

structure C7 where
  l : Sts
  m : Int
structure V7 where
  x : Sit
  i : Int

def S7 (c : C7) (v : V7) : St := mkS 80 [(4, .one (.c (.bool false))), (5, .one (.c (.ptr 0 0))), (20, .one (.c (.sl stSh c.l.n c.l.σ))), (21, .one (.c (I c.m))), (22, .one (.c (I v.i)))] [some (24, [I v.x.a, I v.x.r, I v.x.e, I v.x.p, .sl spSh v.x.n v.x.ρ, I v.x.s, .bool v.x.l, .bool v.x.c])]

def bad7a (x y : Sit) (t : Stp) : Bool := ((chkS y != 0 || y.a != x.a) || lt y.e x.e) || (lt y.p x.p && t.k != 4)
def bad7b (y : Sit) : Bool := (hd y.ln).t != y.p || lt y.e (hd y.ln).e
noncomputable def TX7 (c : C7) (v : V7) : Tree (XE × V7) :=
  let t := c.l.at v.i.toNat
  let y := nxt v.x t
  .br (lt v.i c.m) (.need (inRange v.i c.l.n) (.need (dec (small v.x.n)) (.need (dec (fewN y.n)) (.br (bad7a v.x y t) (.leaf (.ret, v)) (.need (dec (fewN y.n)) (.br (bad7b y) (.leaf (.ret, v)) (.leaf (.normal, ⟨y, IntKind.i64.wrap (v.i + 1)⟩)))))))) (.leaf (.exit 0, v))

theorem t7 (c : C7) (v : V7) : ((evCode Try.prog H20 (evFn Try.prog H20 10) 7 0 1 (loopBody Try.prog 7 0) (S7 c v)).bind fun y => gcT [4, 5, 20, 21, 22] 0 y) = (TX7 c v).bind fun y => .leaf (y.1, S7 c y.2) := by kernel_rfl

def μ7 (c : C7) (v : V7) : Nat := (c.l.n - v.i).toNat
structure Inv7 (c : C7) (v : V7) : Prop where
  m : c.m = toInt64 c.l.n
  n : c.l.n ≤ 40
  i : ∃ k : Nat, k ≤ c.l.n ∧ v.i = k ∧ v.x.n ≤ k
  ok : SiteOk v.x
noncomputable def inv7 (c : C7) (v : V7) : Bool := dec (Inv7 c v)

theorem rounds7 (c : C7) : Rounds (TX7 c) (fun v => inv7 c v = true) (μ7 c) (fun y => y.1 = .exit 0) := by
  intro v hv
  obtain ⟨hm, hn, ⟨k, hk, hi, hx⟩, ok⟩ := dec_iff.1 hv
  have hsm : small v.x.n := by unfold small; omega
  have hf : fewN v.x.n := dec_iff.1 (small_few hsm)
  rcases Nat.lt_or_eq_of_le hk with hlt | rfl
  · obtain ⟨b1, b2, b3, b4, b5⟩ := nxt_ok (x := v.x) (t := c.l.at v.i.toNat) hf ok
    have hfy : dec (fewN (nxt v.x (c.l.at v.i.toNat)).n) = true := dec_iff.2 (by unfold fewN; omega)
    have hw : IntKind.i64.wrap (v.i + 1) = ((k + 1 : Nat) : Int) := by rw [hi, w64_id (by omega) (by omega)]; omega
    have n1 : bad7a v.x (nxt v.x (c.l.at v.i.toNat)) (c.l.at v.i.toNat) = false := by
      unfold bad7a
      rw [chk_of_ok b1, b2]
      have h1 : lt (nxt v.x (c.l.at v.i.toNat)).e v.x.e = false := by rw [← Bool.not_eq_true, lt_iff]; omega
      rw [h1]
      cases h4 : ((c.l.at v.i.toNat).k != 4)
      · simp [bne]
      · have := b4 (by simpa [bne] using h4)
        have h2 : lt (nxt v.x (c.l.at v.i.toNat)).p v.x.p = false := by rw [← Bool.not_eq_true, lt_iff]; omega
        rw [h2]
        simp [bne]
    have n2 : bad7b (nxt v.x (c.l.at v.i.toNat)) = false := by
      unfold bad7b
      rw [b1.ht]
      have h1 : lt (nxt v.x (c.l.at v.i.toNat)).e (hd (nxt v.x (c.l.at v.i.toNat)).ln).e = false := by rw [← Bool.not_eq_true, lt_iff]; have := b1.he; omega
      rw [h1]
      simp [bne]
    refine ⟨fun _ => ⟨by rw [hi]; exact inR hlt, dec_iff.2 hsm, hfy, fun h => ?_, fun _ => ⟨hfy, fun h => ?_, fun _ => ⟨dec_iff.2 ⟨hm, hn, ⟨k + 1, hlt, hw, ?_⟩, b1⟩, ?_⟩⟩⟩, fun h => ?_⟩
    · rw [n1] at h; cases h
    · rw [n2] at h; cases h
    · show (nxt v.x (c.l.at v.i.toNat)).n ≤ k + 1
      omega
    · show ((c.l.n : Int) - IntKind.i64.wrap (v.i + 1)).toNat < ((c.l.n : Int) - v.i).toNat
      rw [hw, hi]; omega
    · rw [hi, hm, ltF hlt] at h; cases h
  · refine ⟨fun h => ?_, fun _ => rfl⟩
    rw [hi, hm, ltS] at h; cases h

noncomputable def run7 (c : C7) (v : V7) : XE × V7 := fin (TX7 c) (μ7 c) v
def get7 : List (Nat × AV) → Mem → Option (C7 × V7)
  | [(4, .one (.c (.bool false))), (5, .one (.c (.ptr 0 0))), (20, .one (.c (.sl [.int .i64, .int .i64, .int .i64, .int .i64] n σ))), (21, .one (.c (.int .i64 m))), (22, .one (.c (.int .i64 i)))], [some (24, [.int .i64 a, .int .i64 ro, .int .i64 e, .int .i64 p, .sl [.int .i64, .int .i64, .int .i64] k ρ, .int .i64 s, .bool l, .bool c])] => some (⟨⟨n, σ⟩, m⟩, ⟨⟨a, ro, e, p, k, ρ, s, l, c⟩, i⟩)
  | _, _ => none
noncomputable def L7 : Nat → St → Tree (XE × St) := flatMH 0 4 spSh (loopH [4, 5, 20, 21, 22] 0 80 get7 inv7 S7 run7 [.ret, .exit 0])

theorem l7 (fn : Func) (c b : Code) (hf : Try.prog.funcs[7]? = some fn) (hc : fn.body = some c) (hb : nthLoop c 0 = some b) : LoopOk Try.prog b L7 :=
  flatMH_ok _ _ _ (loopOk_of h20 10 7 0 hf hc hb [4, 5, 20, 21, 22] 0 80 S7 TX7 t7 get7 inv7 μ7 [.ret, .exit 0]
    (fun l m c v h => by unfold get7 at h; split at h <;> simp at h; obtain ⟨rfl, rfl⟩ := h; rfl) rounds7)

noncomputable abbrev H7' : Hd := ⟨H20.pc, H20.hc, [((7, 0), L7)], H20.mc⟩
theorem h7' : HdOk Try.prog H7' := HdOk.lhCons h20 l7

/-- the site that steps begin with -/
def x0 (a : Int) : Sit := ⟨a, 0, 0, 0, 0, Val.zero, -1, true, false⟩
theorem x0_ok {a : Int} (h : sit a = true) : SiteOk (x0 a) := ⟨rfl, rfl, by show (0 : Int) ≤ 0; omega, by show (0 : Int) ≤ 0; omega, by show (0 : Int) ≤ _; omega, by show (0 : Int) ≤ 0; omega, by show (0 : Int) ≤ _; omega, h, by show (0 : Int) ≤ 0; omega, by show (0 : Int) ≤ 5; omega, fun _ => rfl, (fun h => by cases h), fun _ => rfl⟩

theorem num_ok {u : Int} (h0 : 0 ≤ u) : sit (IntKind.i64.wrap (u.tmod 4)) = true := by
  have h1 : u.tmod 4 = u % 4 := Int.tmod_eq_emod_of_nonneg h0
  rw [h1, w64_id (by omega) (by omega)]
  unfold sit
  rw [Bool.and_eq_true, le_iff, lt_iff]
  omega

theorem law7 (u : Int) (h0 : 0 ≤ u) (l : Sts) {F : Nat → Prop} {W : World} {vs : List Value} (h : All2 (A1.Rel F W []) [.c (.int .u8 u), .c (.sl stSh l.n l.σ)] vs) :
    Calls Try.prog 7 vs.toArray W (fun e W' => e = .returned (.bool true) ∧ Below W.heap.size W W') := by
  let c : C7 := ⟨l, toInt64 l.n⟩
  let v : V7 := ⟨x0 (IntKind.i64.wrap (u.tmod 4)), 0⟩
  refine law_of_tree h7' 12 7 (u := .need true (.br (lt 40 (toInt64 l.n)) (.leaf tT) (.need (inv7 c v) (.br (eqXE (run7 c v).1 .ret) (.leaf (.one (.c (.bool false)))) (.need (eqXE (run7 c v).1 (.exit 0)) (.leaf tT)))))) (by kernel_rfl) ⟨rfl, fun _ => rfl, fun hn => ?_⟩ h
  have hn : l.n ≤ 40 := by
    rw [← Bool.not_eq_true, lt_iff] at hn
    have : ¬ (40 : Int) < (l.n : Int) := hn
    omega
  have hi : inv7 c v = true := dec_iff.2 ⟨rfl, hn, ⟨0, Nat.zero_le _, rfl, Nat.le_refl _⟩, x0_ok (num_ok h0)⟩
  have hr : (run7 c v).1 = .exit 0 := fin_of (rounds7 c) hi
  refine ⟨hi, fun h => ?_, fun _ => ⟨?_, rfl⟩⟩
  · rw [hr] at h; cases h
  · rw [hr]; rfl

end Go.Proofs.Ytjiennnkbompkaa
