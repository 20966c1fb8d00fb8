/-
  Part TlZ of the proof: TfQ TfR TfS SwiA SwiB SwiC SwiD SwiE SwiG.
-/
import Derived.Test.YtennlgngdjegoaaGreatTlY
import Derived.Test.YtennlgngdjegoaaGreatTlN
import Derived.Test.YtennlgngdjegoaaGreatTlR
namespace Go.Proofs.YtennlgngdjegoaaGreat
open Go Go.Sx Go.RowKit Classical
set_option maxRecDepth 100000
namespace Hs
open Fo (inSh scSh evSh)
theorem cpW_at (ω : Val) : ∀ n j, j < n → (cpW ω n).at j = (Val.ofFlat 3 (selC ω j)).at 0
  | 0, j, h => by omega
  | n + 1, j, h => by
    show (Val.cat n (cpW ω n) (Val.ofFlat 3 (selC ω n))).at j = _
    rw [cat_at]
    by_cases hj : j < n
    · rw [if_pos hj]; exact cpW_at ω n j hj
    · have : j = n := by omega
      subst this
      rw [if_neg hj, Nat.sub_self]
section
variable {ω : Val} {n j : Nat} (h : j < n)
include h
theorem cp_I : vI (cpW ω n) j = vI ω j := by
  show (((cpW ω n).at j).at 0).N [] = _
  rw [cpW_at ω n j h]; rfl
theorem cp_J : vJ (cpW ω n) j = vJ ω j := by
  show (((cpW ω n).at j).at 1).N [] = _
  rw [cpW_at ω n j h]; rfl
theorem cp_L : vL (cpW ω n) 2 j = vL ω 2 j := by
  show (((cpW ω n).at j).at 2).L [] = _
  rw [cpW_at ω n j h]; rfl
theorem cp_D : ((cpW ω n).at j).at 2 = Val.ofC (.sl scSh (vL ω 2 j) ((ω.at j).at 2)) := by
  rw [cpW_at ω n j h]; rfl
end
theorem rs_his {h : Hi} {k : Nat} {κ : Val} (ho : ImOk h k κ) : hisE (rsX h k κ) = 0 ∧ fewH (rsX h k κ) ∧ datOk (rsX h k κ) := by
  obtain ⟨s0, w0, e0, k0⟩ := his0 ho.his
  obtain ⟨rng, mono⟩ := set_mono (l := ⟨k, κ⟩) (by show fewN k; have := ho.k1; unfold fewN; omega) ho.set
  have rng : ∀ j, j < k → 0 ≤ vI κ j ∧ vI κ j < (h.w.n : Int) := rng
  have mono : ∀ i j, i < j → j < k → vI κ i < vI κ j := mono
  have hk := ho.k1
  have hq := ho.few.2.2
  have hr := reE_le h.e.ρ ⟨k, κ⟩ h.e.n
  have inv := inv_all (nw := h.w.n) h.e.n hq e0
  have hX : EvP h.e.ρ κ k h.e.n := evP_all (nw := h.w.n) mono (fun j hj => (rng j hj).1) h.e.n hq fun i hi => by
    rw [← eQ_eq]
    have := inv_same (nw := h.w.n) (inv_all (nw := h.w.n) i (by omega) fun j hj => e0 j (by omega))
    rw [← this]
    exact e0 i hi
  have few : fewH (rsX h k κ) := ⟨ho.few.1, by show fewN k; unfold fewN; omega, by show (reE h.e.ρ ⟨k, κ⟩ h.e.n).1 ≤ 1000; omega⟩
  have dat : datOk (rsX h k κ) := fun i hi => by
    have hi : i < k := hi
    have := rng i hi
    show fewN (vL (cpW (selW h.w.ρ κ k) k) 2 i)
    rw [cp_L hi, sel_L hi]
    exact ho.dat _ (by omega)
  refine ⟨?_, few, dat⟩
  rw [← his_same few dat]
  have a1 : (szE (rsX h k κ).s != 0) = false := by
    show (szE h.s != 0) = false
    rw [s0]; rfl
  have a2 : lt 4096 (toInt64 (rsX h k κ).w.n) = false := by
    rw [← Bool.not_eq_true, lt_iff]
    show ¬ ((4096 : Int) < (k : Int))
    omega
  have a3 : anyB (Gj.bad ⟨rsX h k κ⟩) (rsX h k κ).w.n = false := anyB_none fun i hi => by
    have hi' : i < k := hi
    show (wR (rsX h k κ) i != 0) = false
    rw [← wr_same (h := rsX h k κ) s0 dat hi]
    have hi := rng i hi'
    have : wE (rsX h k κ) i = wE h (vI κ i).toNat := by
      show fitE h.s.n (vI h.s.ρ) (vI (cpW (selW h.w.ρ κ k) k) i) (vJ (cpW (selW h.w.ρ κ k) k) i) (vL (cpW (selW h.w.ρ κ k) k) 2 i) = _
      rw [cp_I hi', cp_J hi', cp_L hi', sel_I hi', sel_J hi', sel_L hi']
      rfl
    rw [this, w0 _ (by omega)]; rfl
  have a4 : anyB (Gk.bad ⟨rsX h k κ⟩) (rsX h k κ).e.n = false := anyB_none fun i hi => by
    show (eR k (reE h.e.ρ ⟨k, κ⟩ h.e.n).2 i != 0) = false
    rw [eQ_eq, hX.ok i hi]; rfl
  have a5 : lt (ik (rsX h k κ).e.ρ (rsX h k κ).e.n) (toInt64 (rsX h k κ).w.n) = false := by
    rw [← Bool.not_eq_true, lt_iff]
    show ¬ (ik (reE h.e.ρ ⟨k, κ⟩ h.e.n).2 (reE h.e.ρ ⟨k, κ⟩ h.e.n).1 < (k : Int))
    rcases Nat.eq_zero_or_pos k with hz | hz
    · have := hX.top.1
      omega
    · have := (hX.cnt (k - 1) (by omega)).1 (by
        have := rng (k - 1) (by omega)
        have e : ik h.e.ρ h.e.n = ((evS h.e.ρ h.e.n).k : Int) := inv.k
        omega)
      omega
  unfold rfE
  rw [a1, a2, a3, a4, a5]
  rfl
theorem ofC_sl (es : List Sh) (σ : Val) : Val.ofC (.sl es (σ.L []) σ) = σ := by
  show (⟨σ.B, σ.N, σ.S, fun p => match p with | [] => σ.L [] | i :: q => σ.L (i :: q)⟩ : Val) = σ
  have : (fun p => match p with | [] => σ.L [] | i :: q => σ.L (i :: q)) = σ.L := by
    funext p
    cases p <;> rfl
  rw [this]
theorem rs_ap (ρ ω κ : Val) (k : Nat) : ∀ i, i ≤ k → apG ρ (selW (cpW (selW ω κ k) k) (idV k) k) i = apG ρ (selW ω κ k) i
  | 0, _ => rfl
  | i + 1, hi => by
    have ih := rs_ap ρ ω κ k i (by omega)
    have hi : i < k := by omega
    have hx : (vI (idV k) i).toNat = i := by rw [idV_at k i hi]; rfl
    have e1 : vI (selW (cpW (selW ω κ k) k) (idV k) k) i = vI (selW ω κ k) i := by rw [sel_I hi, hx, cp_I hi]
    have e2 : vJ (selW (cpW (selW ω κ k) k) (idV k) k) i = vJ (selW ω κ k) i := by rw [sel_J hi, hx, cp_J hi]
    have e3 : vL (selW (cpW (selW ω κ k) k) (idV k) k) 2 i = vL (selW ω κ k) 2 i := by rw [sel_L hi, hx, cp_L hi]
    have e4 : ((selW (cpW (selW ω κ k) k) (idV k) k).at i).at 2 = ((selW ω κ k).at i).at 2 := by
      rw [sel_D hi, hx, cp_L hi, cp_D hi]
      have : vL (selW ω κ k) 2 i = (((selW ω κ k).at i).at 2).L [] := rfl
      rw [this, ofC_sl, ofC_sl]
    show (fun j => bif Nat.beq j (vI (selW (cpW (selW ω κ k) k) (idV k) k) i).toNat then _ else _) = _
    rw [e1, e2, e3, e4, ih]
    rfl
 where
  ofC_sl' {es : List Sh} {σ : Val} : Val.ofC (.sl es (σ.L []) σ) = σ := ofC_sl es σ
theorem secEq_refl (ρ : Val) (i : Nat) : secEq ρ ρ i = true := by
  unfold secEq
  simp
theorem sameI_refl {n : Nat} {ρ : Val} (h : ∀ j, j < n → fewN (vL ρ 0 j)) : sameI ⟨n, ρ⟩ ⟨n, ρ⟩ := ⟨rfl, fun j hj => ⟨h j hj, rfl, fun _ _ => secEq_refl _ _⟩⟩
theorem apV_len {n m : Nat} {ρ ω : Val} {j : Nat} (hj : j < n) : vL (apV n ρ m ω) 0 j = vL ρ 0 j := by
  unfold apV; exact Ia.view_len hj
theorem at_J {n : Nat} {ε : Val} {x y : Int} : atI n ε x y = atJ (-1) n ε x y := rfl
theorem ev_at {nw : Nat} {ε : Val} : ∀ n, n ≤ 1000 → (∀ i, i < n → evE nw ε i (evS ε i) = 0) → ∀ b : Nat, b < (evS ε n).k → vI (evS ε n).σ b = atI n ε 0 b ∧ vI (evS ε n).τ b = atI n ε 1 b
  | 0, _, _, b, hb => by
    have hb : b < 0 := hb
    omega
  | n + 1, hn, h, b, hb => by
    have ih := ev_at n (by omega) fun i hi => h i (by omega)
    have hv := inv_all (nw := nw) n (by omega) fun i hi => h i (by omega)
    have h0 := h n (by omega)
    have nev : ∀ {x y : Int}, ¬ (vI ε n = x ∧ vJ ε n = y) → evQ ε x y n = false := fun hh => by rw [← Bool.not_eq_true, evQ_iff]; exact hh
    have hS : evS ε (n + 1) = evN ε n (evS ε n) := rfl
    unfold evE at h0
    rw [at_J, at_J]
    cases c0 : vI ε n == 0
    · rw [c0] at h0
      have n0 : vI ε n ≠ 0 := by simpa using c0
      have eS : evS ε (n + 1) = ⟨(evS ε n).k, (evS ε n).σ, (evS ε n).τ.upds (vJ ε n).toNat 0 [I n]⟩ := by rw [hS]; unfold evN; rw [c0]; rfl
      rw [eS] at hb ⊢
      have hb : b < (evS ε n).k := hb
      obtain ⟨i1, i2⟩ := ih b hb
      rw [at_J] at i1 i2
      cases c1 : vI ε n == 1
      · rw [c1] at h0; cases h0
      · rw [c1] at h0
        have n1 : vI ε n = 1 := by simpa using c1
        cases c7 : lt (vJ ε n) 0 || le (toInt64 (evS ε n).k) (vJ ε n)
        · rw [c7] at h0
          rw [Bool.or_eq_false_iff, ← Bool.not_eq_true, ← Bool.not_eq_true, lt_iff, le_iff] at c7
          have c7b : ¬ ((evS ε n).k : Int) ≤ vJ ε n := c7.2
          refine ⟨?_, ?_⟩
          · show vI (evS ε n).σ b = _
            rw [i1, atJ_old (nev fun hh => n0 hh.1)]
          · show vI ((evS ε n).τ.upds (vJ ε n).toNat 0 [I n]) b = _
            rw [vI_upds]
            by_cases hx : b = (vJ ε n).toNat
            · rw [if_pos hx]
              symm
              refine atJ_new (evQ_iff.2 ⟨n1, by omega⟩) ?_
              rw [← Bool.not_eq_true, ← hv.ack b (by omega), hx]
              intro hh
              cases c8 : le 0 (vI (evS ε n).τ (vJ ε n).toNat)
              · rw [← Bool.not_eq_true, le_iff] at c8; exact c8 hh
              · rw [c8] at h0; cases h0
            · rw [if_neg hx, i2, atJ_old (nev fun hh => hx (by omega))]
        · rw [c7] at h0; cases h0
    · rw [c0] at h0
      have n0 : vI ε n = 0 := by simpa using c0
      have eS : evS ε (n + 1) = ⟨(evS ε n).k + 1, Val.cat (evS ε n).k (evS ε n).σ (Val.ofFlat 1 [I n]), Val.cat (evS ε n).k (evS ε n).τ (Val.ofFlat 1 [I (-1)])⟩ := by rw [hS]; unfold evN; rw [c0]; rfl
      rw [eS] at hb ⊢
      have hb : b < (evS ε n).k + 1 := hb
      cases c3 : vJ ε n != toInt64 (evS ε n).k || le (toInt64 nw) (vJ ε n)
      · rw [Bool.or_eq_false_iff] at c3
        have e3 : vJ ε n = toInt64 (evS ε n).k := by simpa [bne] using c3.1
        have e3 : vJ ε n = ((evS ε n).k : Int) := e3
        by_cases hx : b < (evS ε n).k
        · obtain ⟨i1, i2⟩ := ih b hx
          rw [at_J] at i1 i2
          refine ⟨?_, ?_⟩
          · show vI (Val.cat (evS ε n).k (evS ε n).σ (Val.ofFlat 1 [I n])) b = _
            rw [vI_cat, if_pos hx, i1, atJ_old (nev fun hh => by omega)]
          · show vI (Val.cat (evS ε n).k (evS ε n).τ (Val.ofFlat 1 [I (-1)])) b = _
            rw [vI_cat, if_pos hx, i2, atJ_old (nev fun hh => by omega)]
        · have hx : b = (evS ε n).k := by omega
          subst hx
          refine ⟨?_, ?_⟩
          · show vI (Val.cat (evS ε n).k (evS ε n).σ (Val.ofFlat 1 [I n])) (evS ε n).k = _
            rw [vI_cat, if_neg (by omega), Nat.sub_self]
            symm
            refine atJ_new (evQ_iff.2 ⟨n0, e3⟩) ?_
            rw [← Bool.not_eq_true, hv.iss]
            omega
          · show vI (Val.cat (evS ε n).k (evS ε n).τ (Val.ofFlat 1 [I (-1)])) (evS ε n).k = _
            rw [vI_cat, if_neg (by omega), Nat.sub_self, atJ_old (nev fun hh => by omega)]
            have : anyB (evQ ε 1 ((evS ε n).k : Int)) n = false := by
              rw [← Bool.not_eq_true]
              intro hh
              have := hv.old _ hh
              omega
            unfold atJ
            rw [this]; rfl
      · rw [c3] at h0; cases h0
theorem icl_of {h : Hi} {k : Nat} {κ : Val} (ho : ImOk h k κ) (hm : h.w.n ≤ 1000) (hc : rclB h ⟨k, κ⟩ = true) : IclOk h.w.n k (evS h.e.ρ h.e.n).k (evS h.e.ρ h.e.n).k κ (evS h.e.ρ h.e.n).σ (evS h.e.ρ h.e.n).τ := by
  obtain ⟨_, _, e0, k0⟩ := his0 ho.his
  have rng := im_in ho
  have hk0 : h.w.n ≤ (evS h.e.ρ h.e.n).k := by omega
  have hev := ev_at (nw := h.w.n) h.e.n ho.few.2.2 e0
  refine ⟨hm, ho.k1, rng, hk0, hk0, fun j hj i hi h1 h2 => ?_⟩
  obtain ⟨x0, x1⟩ := rng j hj
  have g1 := (hev i (by omega)).2
  have g2 := (hev (vI κ j).toNat (by omega)).1
  have hx : (((vI κ j).toNat : Nat) : Int) = vI κ j := by omega
  rw [hx] at g2
  rw [g1, g2] at h2
  rw [g1] at h1
  have hb : befB h (i : Int) (vI κ j) = true := by
    have c1 : le 0 (atI h.e.n h.e.ρ 1 (i : Int)) = true := by rw [le_iff]; exact h1
    unfold befB
    rw [c1]
    show lt _ _ = true
    rw [lt_iff]; exact h2
  unfold rclB at hc
  rw [Bool.not_eq_true', ← Bool.not_eq_true, anyB_iff] at hc
  apply Classical.byContradiction
  intro hno
  refine hc ⟨j, hj, ?_⟩
  show anyB (fun a => befB h a (vI κ j) && !(anyB (fun l => vI κ l == (a : Int)) k)) h.w.n = true
  refine anyB_iff.2 ⟨i, hi, ?_⟩
  have hn : anyB (fun l => vI κ l == (i : Int)) k = false := anyB_none fun l hl => by
    rw [beq_eq_false_iff_ne]
    exact fun e => hno ⟨l, hl, e⟩
  show (befB h (i : Int) (vI κ j) && !(anyB (fun l => vI κ l == (i : Int)) k)) = true
  rw [hb, hn]; rfl
def fl (P : Nat → Bool) : Nat → Nat × Val
  | 0 => (0, .zero)
  | i + 1 => bif P i then ((fl P i).1 + 1, Val.cat (fl P i).1 (fl P i).2 (Val.ofFlat 1 [I (i : Int)])) else fl P i
structure FlOk (P : Nat → Bool) (n : Nat) : Prop where
  mem : ∀ p, p < (fl P n).1 → ∃ x : Nat, x < n ∧ vI (fl P n).2 p = (x : Int) ∧ P x = true
  all : ∀ x : Nat, x < n → P x = true → ∃ p, p < (fl P n).1 ∧ vI (fl P n).2 p = (x : Int)
  asc : ∀ p r, p < r → r < (fl P n).1 → vI (fl P n).2 p < vI (fl P n).2 r
theorem fl_ok (P : Nat → Bool) : ∀ n, FlOk P n
  | 0 => ⟨fun p hp => by
      have hp : p < 0 := hp
      omega, fun x hx => by omega, fun p r _ hr => by
      have hr : r < 0 := hr
      omega⟩
  | n + 1 => by
    obtain ⟨h1, h2, h3⟩ := fl_ok P n
    have e : fl P (n + 1) = bif P n then ((fl P n).1 + 1, Val.cat (fl P n).1 (fl P n).2 (Val.ofFlat 1 [I (n : Int)])) else fl P n := rfl
    cases hb : P n
    · rw [hb] at e
      have e : fl P (n + 1) = fl P n := e
      refine ⟨fun p hp => ?_, fun x hx hP => ?_, fun p r hp hr => ?_⟩
      · rw [e] at hp ⊢
        obtain ⟨x, a, b, c⟩ := h1 p hp
        exact ⟨x, by omega, b, c⟩
      · rw [e]
        have : x ≠ n := fun hh => by subst hh; rw [hb] at hP; cases hP
        exact h2 x (by omega) hP
      · rw [e] at hr ⊢; exact h3 p r hp hr
    · rw [hb] at e
      obtain ⟨k, σ, hkσ⟩ : ∃ k σ, fl P n = (k, σ) := ⟨_, _, rfl⟩
      rw [hkσ] at e h1 h2 h3
      have e : fl P (n + 1) = (k + 1, Val.cat k σ (Val.ofFlat 1 [I (n : Int)])) := e
      have h1 : ∀ p, p < k → ∃ x : Nat, x < n ∧ vI σ p = (x : Int) ∧ P x = true := h1
      have h2 : ∀ x : Nat, x < n → P x = true → ∃ p, p < k ∧ vI σ p = (x : Int) := h2
      have h3 : ∀ p r, p < r → r < k → vI σ p < vI σ r := h3
      have old : ∀ p, p < k → vI (Val.cat k σ (Val.ofFlat 1 [I (n : Int)])) p = vI σ p := fun p hp => by rw [vI_cat, if_pos hp]
      have new : vI (Val.cat k σ (Val.ofFlat 1 [I (n : Int)])) k = (n : Int) := by rw [vI_cat, if_neg (by omega), Nat.sub_self]; rfl
      refine ⟨fun p hp => ?_, fun x hx hP => ?_, fun p r hp hr => ?_⟩
      · rw [e] at hp ⊢
        have hp : p < k + 1 := hp
        show ∃ x : Nat, x < n + 1 ∧ vI (Val.cat k σ (Val.ofFlat 1 [I (n : Int)])) p = (x : Int) ∧ P x = true
        by_cases hk : p < k
        · obtain ⟨x, a, b, c⟩ := h1 p hk
          exact ⟨x, by omega, by rw [old p hk]; exact b, c⟩
        · have : p = k := by omega
          subst this
          exact ⟨n, by omega, new, hb⟩
      · rw [e]
        show ∃ p, p < k + 1 ∧ vI (Val.cat k σ (Val.ofFlat 1 [I (n : Int)])) p = (x : Int)
        by_cases hk : x < n
        · obtain ⟨p, a, b⟩ := h2 x hk hP
          exact ⟨p, by omega, by rw [old p a]; exact b⟩
        · have : x = n := by omega
          subst this
          exact ⟨k, by omega, new⟩
      · rw [e] at hr ⊢
        have hr : r < k + 1 := hr
        show vI (Val.cat k σ (Val.ofFlat 1 [I (n : Int)])) p < vI (Val.cat k σ (Val.ofFlat 1 [I (n : Int)])) r
        by_cases hk : r < k
        · rw [old p (by omega), old r hk]; exact h3 p r hp hk
        · have : r = k := by omega
          subst this
          rw [old p hp, new]
          obtain ⟨x, a, b, _⟩ := h1 p hp
          rw [b]; omega
theorem ls_fl (l : Il) : ∀ n, ls l n = fl (fun i => !(inB l (i : Nat))) n
  | 0 => rfl
  | n + 1 => by
    show (bif !(inB l n) then ((ls l n).1 + 1, Val.cat (ls l n).1 (ls l n).2 (Val.ofFlat 1 [I (n : Int)])) else ls l n) = _
    rw [ls_fl l n]; rfl
theorem unS_fl (a b : Il) : ∀ n, unS a b n = fl (fun i => unB a b (i : Nat)) n
  | 0 => rfl
  | n + 1 => by
    show (bif unB a b n then ((unS a b n).1 + 1, Val.cat (unS a b n).1 (unS a b n).2 (Val.ofFlat 1 [I (n : Int)])) else unS a b n) = _
    rw [unS_fl a b n]; rfl
theorem fl_in {P : Nat → Bool} {n x : Nat} (hx : x < n) : inB ⟨(fl P n).1, (fl P n).2⟩ (x : Nat) = P x := by
  have h := fl_ok P n
  rw [Bool.eq_iff_iff, inB_iff]
  constructor
  · rintro ⟨p, hp, hv⟩
    obtain ⟨y, _, hy, hP⟩ := h.mem p hp
    have : x = y := by
      have hv : vI (fl P n).2 p = (x : Int) := hv
      rw [hy] at hv; omega
    rw [this]; exact hP
  · intro hP
    exact h.all x hx hP
def unI (a b : Il) (n : Nat) : Il := ⟨(unS a b n).1, (unS a b n).2⟩
section
variable {h : Hi} {A B : Il} (f1 : fewH h) (f2 : h.w.n ≤ 40) (fd : datOk h) (hA : rcsB h A = true) (hB : rcsB h B = true)
theorem rcs_parts {l : Il} (hl : rcsB h l = true) : rfE h = 0 ∧ anyB (setB (toInt64 h.w.n) l.ρ) l.n = false ∧ rclB h l = true := by
  unfold rcsB at hl
  rw [Bool.and_eq_true, Bool.and_eq_true, beq_iff_eq, Bool.not_eq_true'] at hl
  exact ⟨hl.1.1, hl.1.2, hl.2⟩
theorem rcl_iff {l : Il} : rclB h l = true ↔ ∀ i, i < l.n → ∀ a : Nat, a < h.w.n → befB h (a : Int) (vI l.ρ i) = true → ∃ p, p < l.n ∧ vI l.ρ p = (a : Int) := by
  unfold rclB
  rw [Bool.not_eq_true', ← Bool.not_eq_true, anyB_iff]
  constructor
  · intro hh i hi a ha hb
    apply Classical.byContradiction
    intro hno
    refine hh ⟨i, hi, ?_⟩
    show anyB (fun a => befB h a (vI l.ρ i) && !(anyB (fun p => vI l.ρ p == (a : Int)) l.n)) h.w.n = true
    refine anyB_iff.2 ⟨a, ha, ?_⟩
    have hn : anyB (fun p => vI l.ρ p == (a : Int)) l.n = false := anyB_none fun p hp => by
      rw [beq_eq_false_iff_ne]
      exact fun e => hno ⟨p, hp, e⟩
    show (befB h (a : Int) (vI l.ρ i) && !(anyB (fun p => vI l.ρ p == (a : Int)) l.n)) = true
    rw [hb, hn]; rfl
  · rintro hh ⟨i, hi, hb⟩
    obtain ⟨a, ha, hb⟩ := anyB_iff.1 (show anyB (fun a => befB h a (vI l.ρ i) && !(anyB (fun p => vI l.ρ p == (a : Int)) l.n)) h.w.n = true from hb)
    rw [Bool.and_eq_true, Bool.not_eq_true'] at hb
    obtain ⟨p, hp, hv⟩ := hh i hi a ha hb.1
    have : anyB (fun p => vI l.ρ p == (a : Int)) l.n = true := anyB_iff.2 ⟨p, hp, by rw [beq_iff_eq]; exact hv⟩
    rw [hb.2] at this; cases this
include f1 fd in
theorem rcs_cut {l : Il} (hl : rcsB h l = true) : cutE h l = 0 := by
  obtain ⟨a, b, _⟩ := rcs_parts hl
  rw [← cut_same f1 fd l]
  unfold rctE
  rw [a, b, hl]
  rfl
include f2 hA hB in
theorem un_rcs : rcsB h (unI A B h.w.n) = true := by
  obtain ⟨a0, a1, a2⟩ := rcs_parts hA
  obtain ⟨_, _, b2⟩ := rcs_parts hB
  have hU : unI A B h.w.n = ⟨(fl (fun i => unB A B (i : Nat)) h.w.n).1, (fl (fun i => unB A B (i : Nat)) h.w.n).2⟩ := by
    unfold unI; rw [unS_fl]
  have hf := fl_ok (fun i => unB A B (i : Nat)) h.w.n
  rw [hU]
  unfold rcsB
  have s1 : anyB (setB (toInt64 h.w.n) (fl (fun i => unB A B (i : Nat)) h.w.n).2) (fl (fun i => unB A B (i : Nat)) h.w.n).1 = false := anyB_none fun i hi => by
    obtain ⟨x, x1, x2, _⟩ := hf.mem i hi
    have hle : (fl (fun i => unB A B (i : Nat)) h.w.n).1 ≤ h.w.n := by rw [← unS_fl]; exact unS_le A B _
    unfold setB
    rw [x2]
    have c1 : (lt (x : Int) 0 || le (toInt64 h.w.n) (x : Int)) = false := by
      rw [Bool.or_eq_false_iff, ← Bool.not_eq_true, ← Bool.not_eq_true, lt_iff, le_iff]
      refine ⟨by omega, ?_⟩
      show ¬ ((h.w.n : Int) ≤ (x : Int))
      omega
    rw [c1, Bool.false_or, Bool.and_eq_false_iff]
    rcases Nat.eq_zero_or_pos i with hz | hz
    · left; rw [← Bool.not_eq_true, lt_iff]; omega
    · right
      have e : (w64 ((i : Int) - 1)).toNat = i - 1 := by
        unfold w64
        rw [w64_id (by omega) (by omega)]; omega
      have := hf.asc (i - 1) i (by omega) hi
      rw [e, ← Bool.not_eq_true, le_iff]
      omega
  have s2 : rclB h ⟨(fl (fun i => unB A B (i : Nat)) h.w.n).1, (fl (fun i => unB A B (i : Nat)) h.w.n).2⟩ = true := rcl_iff.2 fun i hi a ha hb => by
    obtain ⟨x, x1, x2, x3⟩ := hf.mem i hi
    have hb : befB h (a : Int) (vI (fl (fun i => unB A B (i : Nat)) h.w.n).2 i) = true := hb
    rw [x2] at hb
    have x3 : (inB A (x : Nat) || inB B (x : Nat)) = true := x3
    rw [Bool.or_eq_true, inB_iff, inB_iff] at x3
    refine hf.all a ha ?_
    show (inB A (a : Nat) || inB B (a : Nat)) = true
    rw [Bool.or_eq_true, inB_iff, inB_iff]
    rcases x3 with ⟨p, hp, hv⟩ | ⟨p, hp, hv⟩
    · exact .inl (rcl_iff.1 a2 p hp a ha (by rw [hv]; exact hb))
    · exact .inr (rcl_iff.1 b2 p hp a ha (by rw [hv]; exact hb))
  rw [s1, s2, a0]
  rfl
include hA in
theorem un_in {n : Nat} (hn : inB A (n : Nat) = true) : inB (unI A B h.w.n) (n : Nat) = true := by
  obtain ⟨_, a1, _⟩ := rcs_parts hA
  obtain ⟨p, hp, hv⟩ := (inB_iff n).1 hn
  have hj : ¬ (setB (toInt64 h.w.n) A.ρ p = true) := fun hh => by
    have := anyB_iff.2 ⟨p, hp, hh⟩
    rw [a1] at this; cases this
  have hlt : n < h.w.n := by
    unfold setB at hj
    rw [hv, Bool.or_eq_true, Bool.or_eq_true, lt_iff, le_iff] at hj
    have : ¬ ((h.w.n : Int) ≤ (n : Int)) := fun hh => hj (.inl (.inr hh))
    omega
  unfold unI
  rw [unS_fl, fl_in hlt]
  show (inB A (n : Nat) || inB B (n : Nat)) = true
  rw [hn, Bool.true_or]
end
section
variable {τ : Val} {m : Nat} (hm : m ≤ 40) (ht : ∀ i, i < m → 0 ≤ vI τ i ∧ vI τ i ≤ 255)
include hm ht
theorem nw_step : ∀ i, i < m → (0 ≤ nwS τ i ∧ nwS τ i ≤ 255 * i) ∧ nwS τ (i + 1) = nwS τ i + vI τ i
  | 0, h => by
    have h0 := ht 0 h
    refine ⟨⟨Int.le_refl _, by show (0 : Int) ≤ 255 * 0; omega⟩, ?_⟩
    show w64 (0 + w64 (vI τ 0)) = 0 + vI τ 0
    have e : w64 (vI τ 0) = vI τ 0 := by unfold w64; exact w64_id (by omega) (by omega)
    rw [e]
    unfold w64
    exact w64_id (by omega) (by omega)
  | i + 1, h => by
    obtain ⟨⟨a, b⟩, c⟩ := nw_step i (by omega)
    have h0 := ht i (by omega)
    have h1 := ht (i + 1) h
    refine ⟨⟨by omega, by omega⟩, ?_⟩
    show w64 (nwS τ (i + 1) + w64 (vI τ (i + 1))) = _
    have e : w64 (vI τ (i + 1)) = vI τ (i + 1) := by unfold w64; exact w64_id (by omega) (by omega)
    rw [e]
    unfold w64
    exact w64_id (by omega) (by omega)
theorem nw_rng : ∀ i, i ≤ m → 0 ≤ nwS τ i ∧ nwS τ i ≤ 255 * i
  | 0, _ => ⟨Int.le_refl _, by show (0 : Int) ≤ 255 * 0; omega⟩
  | i + 1, h => by
    obtain ⟨⟨a, b⟩, c⟩ := nw_step hm ht i (by omega)
    have h0 := ht i (by omega)
    rw [c]; omega
theorem nw_mono : ∀ (d i : Nat), i + d ≤ m → nwS τ i ≤ nwS τ (i + d)
  | 0, i, _ => Int.le_refl _
  | d + 1, i, h => by
    have ih := nw_mono d i (by omega)
    obtain ⟨_, c⟩ := nw_step hm ht (i + d) (by omega)
    have h0 := ht (i + d) (by omega)
    show nwS τ i ≤ nwS τ (i + d + 1)
    rw [c]; omega
theorem nw_le {i j : Nat} (hij : i ≤ j) (hj : j ≤ m) : nwS τ i ≤ nwS τ j := by
  have := nw_mono hm ht (j - i) i (by omega)
  rwa [show i + (j - i) = j by omega] at this
theorem nw_end : w64 (nwS τ m + 5) = nwS τ m + 5 := by
  have := nw_rng hm ht m (Nat.le_refl _)
  unfold w64
  exact w64_id (by omega) (by omega)
end
theorem atS_at (τ : Val) : ∀ n j, j < n → vI (atS τ n) j = nwS τ (j + 1)
  | 0, j, h => by omega
  | n + 1, j, h => by
    show vI (Val.cat n (atS τ n) (Val.ofFlat 1 [I (nwS τ (n + 1))])) j = _
    rw [vI_cat]
    by_cases hj : j < n
    · rw [if_pos hj]; exact atS_at τ n j hj
    · have : j = n := by omega
      subst this
      rw [if_neg hj, Nat.sub_self]; rfl
end Hs
end Go.Proofs.YtennlgngdjegoaaGreat
namespace Go.Proofs.YtennlgngdjegoaaGreat
open Go Go.Sx Go.RowKit Classical
set_option maxRecDepth 100000
structure Prc where
  k : Int
  f : Int
  t : Int
  s : Int
  e : Int
  c : Int
  d : Bool
  x : Bool
def Prc.cv (p : Prc) : A1 := .agg [I p.k, I p.f, I p.t, I p.s, I p.e, I p.c, .bool p.d, .bool p.x]
def G37 : List A1 → Option AV
  | [.c (.int .i64 a)] => some (.one (.c (.bool (le 0 a && lt a 4))))
  | _ => none
def G38 : List A1 → Option AV
  | [.c (.int .i64 a)] => some (.one (.c (.bool (tim a))))
  | _ => none
theorem pSite : PcOne Tryz.prog 176 G37 := pcOne_of_ev h37 10 176 fun args r h => by
  unfold G37 at h; split at h
  · obtain rfl := Option.some.inj h
    exact ⟨rfl, by kernel_rfl, by kernel_rfl⟩
  · cases h
theorem pTime : PcOne Tryz.prog 177 G38 := pcOne_of_ev h37 10 177 fun args r h => by
  unfold G38 at h; split at h
  · obtain rfl := Option.some.inj h
    exact ⟨rfl, by kernel_rfl, by kernel_rfl⟩
  · cases h
noncomputable abbrev HA : Hd := ⟨(176, oG G37) :: (177, oG G38) :: H37.pc, H37.hc, [], H37.mc⟩
theorem hA : HdOk Tryz.prog HA := (h37.pcCons pTime).pcCons pSite
def fmd (p : Prc) : Bool := p.k == 1 && (le 0 p.f && lt p.f 4) && (le 0 p.t && lt p.t 4) && p.f != p.t && le 0 p.s && le p.s 5 && tim p.e && tim p.c && (p.d == (p.s == 5)) && !(p.x && lt 3 p.s)
def chkP (p : Prc) : Int := bif fmd p then 0 else 3
def GchkP : List A1 → Option AV
  | [.agg [.int .i64 k, .int .i64 f, .int .i64 t, .int .i64 s, .int .i64 e, .int .i64 c, .bool d, .bool x]] => some (.one (.c (I (chkP ⟨k, f, t, s, e, c, d, x⟩))))
  | _ => none
theorem all_chkP {p : Prc} {b : Bool} (h : b = !fmd p) : (Tree.br b (.leaf (AV.one (.c (I 3)))) (.leaf (.one (.c (I 0))))).All (fun z => z = .one (.c (I (chkP p)))) := by
  subst h
  unfold chkP
  exact ⟨fun h => by have h : fmd p = false := by simpa using h
                     rw [h]; rfl, fun h => by have h : fmd p = true := by simpa using h
                                              rw [h]; rfl⟩
theorem pCheck : PcOne Tryz.prog 162 GchkP := pcOne_of_tree hA 10 162 fun args r h => by
  unfold GchkP at h; split at h
  · rename_i k f t s e c d x
    obtain rfl := Option.some.inj h
    exact ⟨rfl, _, by kernel_rfl, all_chkP (p := ⟨k, f, t, s, e, c, d, x⟩) rfl⟩
  · cases h
theorem fmd_step {p : Prc} (h : fmd p = true) : p.s = 0 ∨ p.s = 1 ∨ p.s = 2 ∨ p.s = 3 ∨ p.s = 4 ∨ p.s = 5 := by
  unfold fmd at h
  simp only [Bool.and_eq_true, le_iff] at h
  omega
theorem fmd_of {p : Prc} (h : (chkP p != 0) = false) : fmd p = true := by
  unfold chkP at h
  cases hf : fmd p
  · rw [hf] at h; cases h
  · rfl
def fndN (l : Ses) (x : Int) (i : Nat) : Bool := (l.at i).a == x
structure CF where
  T : TypeId
  l : Ses
  m : Int
  x : Int
def SF (c : CF) (v : VI) : St := mkS 19 [(0, .one (.c (.os 0 8))), (1, .one (.c (.fn (.func 175) [] [.ptr 1 0]))), (4, .one (.c (I v.r))), (7, .one (.c (I c.m))), (8, .one (.c (I v.i)))] [some (c.T, [.row true siSh c.l.n c.l.ρ]), some (3, [I c.x])]
theorem tF (c : CF) (v : VI) : ((evCode Tryz.prog HA (evFn Tryz.prog HA 10) 119 2 1 (loopBody Tryz.prog 119 0) (SF c v)).bind fun y => gcT [0, 1, 4, 7, 8] 2 y) = (TXi c.m c.l.n (fndN c.l c.x) v).bind fun y => .leaf (y.1, SF c y.2) := by kernel_rfl
def getF : List (Nat × AV) → Mem → Option (CF × VI)
  | [(0, .one (.c (.os 0 8))), (1, .one (.c (.fn (.func 175) [] [.ptr 1 0]))), (4, .one (.c (.int .i64 r))), (7, .one (.c (.int .i64 m))), (8, .one (.c (.int .i64 i)))],
    [some (T, [.row true [.int .i64, .int .i64, .int .i64, .int .i64, .sl [.int .i64, .int .i64, .int .i64], .int .i64, .bool, .bool] n ρ]), some (3, [.int .i64 x])] => some (⟨T, ⟨n, ρ⟩, m, x⟩, ⟨r, i⟩)
  | _, _ => none
def goodF (c : CF) : Prop := c.m = toInt64 c.l.n ∧ fewN c.l.n
noncomputable def LF : Nat → St → Tree (XE × St) := lqH [0, 1, 4, 7, 8] 2 19 getF fun c v => lqT (SF c) (goodF c ∧ v = stI 0) (anyB (fndN c.l c.x) c.l.n) .ret (.exit 0) (sbI (firstB (fndN c.l c.x) c.l.n)) (stI c.l.n)
theorem lF (fn : Func) (c b : Code) (hf : Tryz.prog.funcs[119]? = some fn) (hc : fn.body = some c) (hb : nthLoop c 0 = some b) : LoopOk Tryz.prog b LF :=
  lq_ok hA 10 119 0 hf hc hb [0, 1, 4, 7, 8] 2 19 SF (fun c => TXi c.m c.l.n (fndN c.l c.x)) tF getF
    (fun l m c v h => by unfold getF at h; split at h <;> simp at h; obtain ⟨rfl, rfl⟩ := h; rfl)
    goodF (fun c => μI c.l.n) (fun _ => stI) (fun _ => sbI) (fun c => c.l.n) (fun c => fndN c.l c.x) .ret (.exit 0)
    (fun c hg => sqI (fndN c.l c.x) hg.1 hg.2) (fun c => sbI (firstB (fndN c.l c.x) c.l.n)) (fun c => stI c.l.n) (fun _ _ _ => StWk.refl) (fun _ _ _ => StWk.refl)
noncomputable abbrev HF : Hd := ⟨pF 159 :: HA.pc, HA.hc, [((119, 0), LF)], HA.mc⟩
theorem hF : HdOk Tryz.prog HF := (HdOk.lhCons hA lF).pF 159
def noneC : CV := .iface 233 (I 7)
noncomputable def Gfind : List A1 → List A1 → Tree Out
  | [.c (.os b 8), .c (.int .i64 x)], [.c (.sl [.int .i64, .int .i64, .int .i64, .int .i64, .sl [.int .i64, .int .i64, .int .i64], .int .i64, .bool, .bool] n ρ), _] =>
    .need (dec (fewN n)) (.br (anyB (fndN ⟨n, ρ⟩ x) n) (.leaf (.ret (.one (.c (.rowp b 8 (firstB (fndN ⟨n, ρ⟩ x) n) 0))))) (.leaf (.pan noneC)))
  | _, _ => .fail
theorem findT (T : TypeId) (n : Nat) (ρ : Val) (x : Int) : evFnP Tryz.prog HF ⟨[], [], []⟩ 10 158 [.c (.os 0 8), .c (I x)] [some (T, [.row true siSh n ρ])] =
    .need (dec (goodF ⟨T, ⟨n, ρ⟩, toInt64 n, x⟩ ∧ (⟨0, 0⟩ : VI) = stI 0)) (.br (anyB (fndN ⟨n, ρ⟩ x) n)
      (.br (!le 0 ((firstB (fndN ⟨n, ρ⟩ x) n : Nat) : Int)) (.leaf (.pan noneC, [some (T, [.row true siSh n ρ]), some (3, [I x])]))
        (.need (inRange ((firstB (fndN ⟨n, ρ⟩ x) n : Nat) : Int) n) (.leaf (.ret (.one (.c (.rowp 0 8 (firstB (fndN ⟨n, ρ⟩ x) n) 0))), [some (T, [.row true siSh n ρ]), some (3, [I x])]))))
      (.br true (.leaf (.pan noneC, [some (T, [.row true siSh n ρ]), some (3, [I x])])) (.need (inRange (-1) n) (.leaf (.ret (.one (.c (.rowp 0 8 0 0))), [some (T, [.row true siSh n ρ]), some (3, [I x])]))))) := by kernel_rfl
theorem rFind : RxOne Tryz.prog 158 Gfind := by
  intro args mem r hcl hs F w bs vs hm hargs
  unfold Gfind at hs
  split at hs
  · rename_i b x n ρ y he
    simp only [List.map_cons, List.map_nil, List.cons.injEq, and_true] at he
    obtain ⟨h1, _⟩ := he
    simp only [view1, A1.c.injEq] at h1
    unfold viewC at h1
    split at h1
    · rename_i b' sz' e
      cases e
      split at h1
      · rename_i T fz es m σ hrow
        split at h1
        · rename_i hes
          simp only [CV.sl.injEq] at h1
          obtain ⟨rfl, rfl, rfl⟩ := h1
          have hb : nth mem b = some (some (T, [.row fz siSh m σ])) := Sx.rowAt_some hrow
          cases hargs with
          | cons ha hr =>
            simp only [Tree.sel] at hs
            cases hf : dec (fewN m)
            · rw [hf] at hs; simp at hs
            rw [hf] at hs
            simp only [cond_true] at hs
            have hgd : dec (goodF ⟨T, ⟨m, σ⟩, toInt64 m, x⟩ ∧ (⟨0, 0⟩ : VI) = stI 0) = true := dec_iff.2 ⟨⟨rfl, dec_iff.1 hf⟩, rfl⟩
            have hT := findT T m σ x
            cases hany : anyB (fndN ⟨m, σ⟩ x) m
            · rw [hany] at hs
              simp only [cond_false, Option.some.injEq] at hs
              subst hs
              have hsel : (evFnP Tryz.prog HF ⟨[], [], []⟩ 10 158 [.c (.os 0 8), .c (I x)] [some (T, [.row true siSh m σ])]).sel = some (.pan noneC, [some (T, [.row true siSh m σ]), some (3, [I x])]) := by
                rw [hT]; simp only [Tree.sel, hgd, hany, cond_true, cond_false]
              refine (rx_calls hF XOk.nil 10 158 hm hb (rest := [.c (I x)]) rfl ha hr hsel).mono fun e w' ⟨h1, F', bs', y, _, _, _, v, h3, h4⟩ => ⟨h1, v, h3, ?_⟩
              cases h4 with
              | iface h => cases h; exact .iface (.int _ _)
            · rw [hany] at hs
              simp only [cond_true, Option.some.injEq] at hs
              subst hs
              obtain ⟨hlt, _, _⟩ := firstB_ok hany
              have hle : le 0 ((firstB (fndN ⟨m, σ⟩ x) m : Nat) : Int) = true := (le_iff _ _).2 (by omega)
              have hsel : (evFnP Tryz.prog HF ⟨[], [], []⟩ 10 158 [.c (.os 0 8), .c (I x)] [some (T, [.row true siSh m σ])]).sel = some (.ret (.one (.c (.rowp 0 8 (firstB (fndN ⟨m, σ⟩ x) m) 0))), [some (T, [.row true siSh m σ]), some (3, [I x])]) := by
                rw [hT]; simp only [Tree.sel, hgd, hany, hle, inR hlt, cond_true, Bool.not_true, cond_false]
              refine (rx_calls hF XOk.nil 10 158 hm hb (rest := [.c (I x)]) rfl ha hr hsel).mono fun e w' ⟨h1, F', bs', y, h2, h2n, h3, v, h4, h5⟩ => ⟨h1, v, h4, ?_⟩
              have h5 : CV.Rel F' w' bs' (.rowp 0 8 (firstB (fndN ⟨m, σ⟩ x) m) 0) v := h5
              cases h5 with
              | rowp h6 hi =>
                rw [h3] at h6
                cases h6
                exact CV.Rel.rowp h2 hi
        · cases h1
      · cases h1
    · rename_i e; cases e
    · rename_i hno _
      exact (hno _ _ rfl).elim
  · simp [Tree.sel] at hs
theorem nSites : NcOne Tryz.prog 174 (cloneG 69 siSh 8 72) := clone_nc Tryz.func174 rfl rfl rfl rfl rfl rfl rfl rfl (by kernel_rfl) rfl (fun n ρ => by kernel_rfl)
  (fun n ρ => stC siSh n ρ true) (fun n ρ => mkS 8 [(0, .one (.c (.sl siSh n ρ))), (2, .one (.c (.os 1 8))), (3, .one (.c (.sl siSh n ρ))), (4, .one (.c (.bool false))), (5, .one (.c (.os 0 8))), (6, .one (.c (.sl siSh n ρ))), (7, .one (.c (.os 1 8)))] [none, some (69, [.row false siSh (0 + n) (Val.cat 0 (Val.ofFlat 8 []) ρ)])])
  (fun n ρ => by kernel_rfl) (fun n ρ => by kernel_rfl) (fun n ρ => rfl) (fun n ρ => by kernel_rfl) (fun n ρ => by kernel_rfl) (fun n ρ => rfl)
noncomputable abbrev HC : Hd := ⟨HA.pc, HA.hc, [], (174, ncG (cloneG 69 siSh 8 72)) :: HA.mc⟩
theorem hC : HdOk Tryz.prog HC := hA.mcCons nSites.mc
theorem at_upd (ρ : Val) (i f : Nat) (x : CV) (k g : Nat) : ((ρ.upd i f x).at k).at g = if k = i ∧ g = f then .ofC x else (ρ.at k).at g := by
  have e : ((ρ.upd i f x).at k).at g = (pickV (Nat.beq k i) (.byFst fun g => pickV (Nat.beq g f) (.ofC x) ((ρ.at k).at g)) (ρ.at k)).at g := rfl
  rw [e]
  by_cases hk : k = i
  · subst hk
    rw [Nat.beq_refl]
    have e2 : (pickV true (.byFst fun g => pickV (Nat.beq g f) (.ofC x) ((ρ.at k).at g)) (ρ.at k)).at g = pickV (Nat.beq g f) (.ofC x) ((ρ.at k).at g) := rfl
    rw [e2]
    by_cases hg : g = f
    · subst hg
      rw [Nat.beq_refl, if_pos ⟨rfl, rfl⟩]; rfl
    · rw [if_neg (fun h => hg h.2)]
      have : Nat.beq g f = false := by
        cases h : Nat.beq g f
        · rfl
        · exact (hg (Nat.eq_of_beq_eq_true h)).elim
      rw [this]; rfl
  · rw [if_neg (fun h => hk h.1)]
    have : Nat.beq k i = false := by
      cases h : Nat.beq k i
      · rfl
      · exact (hk (Nat.eq_of_beq_eq_true h)).elim
    rw [this]; rfl
def sameV (es : List Sh) (n : Nat) (ρ σ : Val) : Prop := ∀ i f s, i < n → nth es f = some s → cellOf s ((ρ.at i).at f) = cellOf s ((σ.at i).at f)
theorem cellOf_ofSl {es : List Sh} (v : Val) : cellOf (.sl es) (.ofC (.sl es (v.L []) v)) = cellOf (.sl es) v := by
  have e : Val.ofC (.sl es (v.L []) v) = v := by
    obtain ⟨B, N, S, L⟩ := v
    show (⟨B, N, S, _⟩ : Val) = ⟨B, N, S, L⟩
    congr 1
    funext p
    cases p <;> rfl
  rw [e]
theorem sameV_upd {n : Nat} {ρ σ : Val} (h : sameV siSh n ρ σ) (j : Nat) : sameV siSh n (ρ.upds j 4 [.sl spSh (((ρ.at j).at 4).L []) ((ρ.at j).at 4)]) σ := by
  intro i f s hi hf
  rw [← h i f s hi hf]
  show cellOf s (((ρ.upd j 4 _).at i).at f) = _
  rw [at_upd]
  split
  · rename_i hh
    obtain ⟨rfl, rfl⟩ := hh
    simp only [nth, Option.some.injEq] at hf
    subst hf
    exact cellOf_ofSl _
  · rfl
theorem sameV_at {n : Nat} {ρ σ : Val} (h : sameV siSh n ρ σ) {i : Nat} (hi : i < n) : ((ρ.at i).at 4).L [] = ((σ.at i).at 4).L [] := by
  have := h i 4 (.sl spSh) hi rfl
  simp only [cellOf, CV.sl.injEq] at this
  exact this.2.1
structure CK where
  l : Ses
  m : Int
structure VK where
  ρ : Val
  i : Int
def SK (c : CK) (v : VK) : St := mkS 33 [(5, .one (.c (.os 0 8))), (17, .one (.c (I c.m))), (18, .one (.c (I v.i)))] [some (69, [.row false siSh c.l.n v.ρ])]
def up4 (ρ : Val) (i : Nat) : Val := ρ.upds i 4 [.sl spSh (((ρ.at i).at 4).L []) ((ρ.at i).at 4)]
def TXK (c : CK) (v : VK) : Tree (XE × VK) :=
  .br (lt v.i c.m) (.need (inRange v.i c.l.n) (.need (Nat.ble ((0 + ((v.ρ.at v.i.toNat).at 4).L []) * 24) 140737488355328) (.need (inRange v.i c.l.n) (.leaf (.normal, ⟨up4 v.ρ v.i.toNat, IntKind.i64.wrap (v.i + 1)⟩))))) (.leaf (.exit 0, v))
theorem tK (c : CK) (v : VK) : ((evCode Tryz.prog HC (evFn Tryz.prog HC 10) 157 0 1 (loopBody Tryz.prog 157 0) (SK c v)).bind fun y => gcT [5, 17, 18] 0 y) = (TXK c v).bind fun y => .leaf (y.1, SK c y.2) := by kernel_rfl
def ups (ρ : Val) : Nat → Val
  | 0 => ρ
  | i + 1 => up4 (ups ρ i) i
theorem ups_same (ρ : Val) (n : Nat) : ∀ i, sameV siSh n (ups ρ i) ρ
  | 0 => fun _ _ _ _ _ => rfl
  | i + 1 => sameV_upd (ups_same ρ n i) i
def stK (c : CK) (i : Nat) : VK := ⟨ups c.l.ρ i, i⟩
def smallS (l : Ses) : Prop := fewN l.n ∧ ∀ i, i < l.n → small (l.at i).n
def goodK (c : CK) : Prop := c.m = toInt64 c.l.n ∧ smallS c.l
theorem sqK (c : CK) (h : goodK c) : Sq (TXK c) (fun v => (c.l.n - v.i).toNat) (stK c) (stK c) c.l.n (fun _ => false) .ret (.exit 0) where
  out := by simp
  hit := by simp
  meas i hi := by show ((c.l.n : Int) - (i : Int)).toNat = _; omega
  round i hi := by
    obtain ⟨hm, hn, hs⟩ := h
    have hsi := hs i hi
    unfold fewN at hn
    have hw : IntKind.i64.wrap ((i : Int) + 1) = ((i + 1 : Nat) : Int) := by rw [w64_id (by omega) (by omega)]; omega
    refine ⟨fun _ => ⟨inR hi, ?_, inR hi, ?_⟩, fun hlt => ?_⟩
    · show Nat.ble ((0 + (((ups c.l.ρ i).at i).at 4).L []) * 24) 140737488355328 = true
      rw [sameV_at (ups_same c.l.ρ c.l.n i) hi]
      exact small_ble hsi
    · show (XE.normal, (⟨up4 (ups c.l.ρ i) i, IntKind.i64.wrap ((i : Int) + 1)⟩ : VK)) = (.normal, stK c (i + 1))
      rw [hw]; rfl
    · have : lt (i : Int) c.m = false := hlt
      rw [hm, ltF hi] at this; cases this
  stop := by
    refine ⟨fun hlt => ?_, fun _ => rfl⟩
    have : lt (c.l.n : Int) c.m = true := hlt
    rw [h.1, ltS] at this; cases this
def getK : List (Nat × AV) → Mem → Option (CK × VK)
  | [(5, .one (.c (.os 0 8))), (17, .one (.c (.int .i64 m))), (18, .one (.c (.int .i64 i)))], [some (69, [.row false [.int .i64, .int .i64, .int .i64, .int .i64, .sl [.int .i64, .int .i64, .int .i64], .int .i64, .bool, .bool] n ρ])] => some (⟨⟨n, ρ⟩, m⟩, ⟨ρ, i⟩)
  | _, _ => none
noncomputable def LK : Nat → St → Tree (XE × St) := lqH [5, 17, 18] 0 33 getK fun c v => lq1 (SK c) (goodK c ∧ v = stK c 0) (.exit 0) ⟨c.l.ρ, c.l.n⟩
theorem lK (fn : Func) (c b : Code) (hf : Tryz.prog.funcs[157]? = some fn) (hc : fn.body = some c) (hb : nthLoop c 0 = some b) : LoopOk Tryz.prog b LK :=
  lq1_ok hC 10 157 0 hf hc hb [5, 17, 18] 0 33 SK TXK tK getK (fun l m c v h => by unfold getK at h; split at h <;> simp at h; obtain ⟨rfl, rfl⟩ := h; rfl)
    goodK (fun c v => (c.l.n - v.i).toNat) stK (fun c => c.l.n) (.exit 0) sqK (fun c => ⟨c.l.ρ, c.l.n⟩)
    (fun c _ => StWk.row (tmps := mkL [(5, .one (.c (.os 0 8))), (17, .one (.c (I c.m))), (18, .one (.c (I c.l.n)))] 33 0) (b := 0) rfl (ups_same c.l.ρ c.l.n c.l.n))
theorem small_fewS {l : Ses} (h : smallS l) : fewS l := ⟨h.1, fun i hi => dec_iff.1 (small_few (h.2 i hi))⟩
noncomputable abbrev HK2 : Hd := ⟨pF 161 :: pF 159 :: HC.pc, HC.hc, [((157, 0), LK)], HC.mc⟩
theorem hK2 : HdOk Tryz.prog HK2 := ((HdOk.lhCons hC lK).pF 159).pF 161
def pnC (e : Int) : CV := .iface 233 (I e)
noncomputable def Gcked : List A1 → Tree (Out × Mem)
  | [.c (.sl [.int .i64, .int .i64, .int .i64, .int .i64, .sl [.int .i64, .int .i64, .int .i64], .int .i64, .bool, .bool] n ρ)] =>
    .need (dec (smallS ⟨n, ρ⟩)) (.br (ckE ⟨n, ρ⟩ == 0) (.leaf (.ret (.one (.c (.os 0 8))), [some (69, [.row false siSh n ρ])])) (.leaf (.pan (pnC (ckE ⟨n, ρ⟩)), [])))
  | _ => .fail
theorem ck_four {l : Ses} (h : (ckE l == 0) = true) : l.n ≤ 4 := by
  unfold ckE at h
  cases h4 : lt 4 (toInt64 l.n)
  · have h4 : ¬ lt 4 (toInt64 l.n) = true := by rw [h4]; simp
    rw [lt_iff] at h4
    have : ¬ (4 : Int) < (l.n : Int) := h4
    omega
  · rw [h4] at h; cases h
theorem ncCked : NcPOne Tryz.prog 157 Gcked := ncPOne_of_tree hK2 XOk.nil 10 157 fun args r m h => by
  unfold Gcked at h; split at h
  · rename_i n ρ
    simp only [Tree.sel] at h
    cases hs : dec (smallS ⟨n, ρ⟩)
    · rw [hs] at h; simp at h
    rw [hs] at h
    simp only [cond_true] at h
    have hsm := dec_iff.1 hs
    refine ⟨.need (dec (fewS ⟨n, ρ⟩)) (.br (!(ckE ⟨n, ρ⟩ == 0)) (.leaf (.pan (pnC (ckE ⟨n, ρ⟩)), [])) (.need (Nat.ble ((0 + n) * 72) 140737488355328) (.need (dec (goodK ⟨⟨n, ρ⟩, toInt64 n⟩ ∧ (⟨ρ, 0⟩ : VK) = stK ⟨⟨n, ρ⟩, toInt64 n⟩ 0)) (.leaf (.ret (.one (.c (.os 0 8))), [some (69, [.row false siSh n ρ])]))))), by kernel_rfl, dec_iff.2 (small_fewS hsm), fun h1 => ?_, fun h1 => ⟨?_, dec_iff.2 ⟨⟨rfl, hsm⟩, rfl⟩, ?_⟩⟩
    · have h1 : (ckE ⟨n, ρ⟩ == 0) = false := by simpa using h1
      rw [h1] at h
      simp only [cond_false, Option.some.injEq, Prod.mk.injEq] at h
      obtain ⟨rfl, rfl⟩ := h
      exact WkO.refl
    · have h1 : (ckE ⟨n, ρ⟩ == 0) = true := by simpa using h1
      have := ck_four h1
      exact Nat.ble_eq_true_of_le (by simp only at this; omega)
    · have h1 : (ckE ⟨n, ρ⟩ == 0) = true := by simpa using h1
      rw [h1] at h
      simp only [cond_true, Option.some.injEq, Prod.mk.injEq] at h
      obtain ⟨rfl, rfl⟩ := h
      exact WkO.refl
  · simp [Tree.sel] at h
noncomputable abbrev XS : HdP := ⟨[(157, ncPG Gcked)], [(158, Gfind)], []⟩
theorem xS : XOk Tryz.prog XS := (XOk.nil.rxCons rFind).pxCons ncCked.px
noncomputable abbrev HB : Hd := ⟨pF 156 :: pF 157 :: pF 159 :: pF 161 :: (162, oG GchkP) :: HA.pc, HA.hc, [], HA.mc⟩
theorem hB : HdOk Tryz.prog HB := (((((hA).pcCons pCheck).pF 161).pF 159).pF 157).pF 156
def hasN (l : Ses) (k : Int) : Bool := anyB (fndN l k) l.n
def idxN (l : Ses) (k : Int) : Nat := firstB (fndN l k) l.n
def Ses.by (l : Ses) (k : Int) : Sit := l.at (idxN l k)
def p0 : Prc := ⟨0, 0, 0, 0, 0, 0, false, false⟩
def ok18 (l : Ses) (f t : Int) : Bool := ((l.by f).r == 1 && (l.by t).r == 2) && (l.by t).s == f
def ok12 (l : Ses) (f t : Int) : Bool := ((l.by f).l && (l.by t).l) && (l.by t).c
def begE (l : Ses) (f t : Int) : Int := bif !(ckE l == 0) then ckE l else bif !(hasN l f && hasN l t) then 7 else bif f == t then 1 else bif !ok18 l f t then 18 else bif !ok12 l f t then 12 else 0
def begP (l : Ses) (f t : Int) : Prc := bif begE l f t == 0 then ⟨1, f, t, 0, 0, (l.by f).p, false, false⟩ else p0
def prE (p : Prc) (e : Int) : AV := .tup [p.cv, .c (I e)]
def erT (k : Int) : Tree AV := .br true (.br false .fail (.leaf (prE p0 k))) (.leaf (prE p0 0))
theorem erT_sel (k : Int) : (erT k).sel = some (prE p0 k) := rfl
noncomputable def Gbeg : List A1 → Option (Bool × AV)
  | [.c (.sl [.int .i64, .int .i64, .int .i64, .int .i64, .sl [.int .i64, .int .i64, .int .i64], .int .i64, .bool, .bool] n ρ), .c (.int .i64 f), .c (.int .i64 t)] => some (dec (smallS ⟨n, ρ⟩), prE (begP ⟨n, ρ⟩ f t) (begE ⟨n, ρ⟩ f t))
  | _ => none
theorem all_sel_le {r : AV} {t : Tree AV} (h : t.sel = some r) : t.All (fun z => leA z r) := All.imp (fun _ h => h ▸ leA.refl) (all_of_sel h)
theorem fewN_dec {l : Ses} (h : smallS l) : dec (fewN l.n) = true := dec_iff.2 h.1
theorem uBegin : UcOne Tryz.prog 124 (nG Gbeg) := ucOneP_of_tree hB xS 10 124 fun args r h => by
  unfold Gbeg at h; split at h
  · rename_i n ρ f t
    obtain ⟨hp, rfl⟩ := Prod.mk.inj (Option.some.inj h)
    let l : Ses := ⟨n, ρ⟩
    refine ⟨.need (dec (smallS l)) (.br (ckE l == 0) (.need (dec (fewN n)) (.br (hasN l f) (.need (dec (fewN n)) (.br (hasN l t) (.br (!(f != t)) (erT 1) (.br (!ok18 l f t) (erT 18) (.br (!ok12 l f t) (erT 12) (.br false .fail (.leaf (prE ⟨1, f, t, 0, 0, (l.by f).p, false, false⟩ 0))))))
      (erT 7))) (erT 7))) (erT (ckE l))), by kernel_rfl, all_sel_le ?_⟩
    have hp : dec (smallS l) = true := hp
    have hf : dec (fewN n) = true := fewN_dec (dec_iff.1 hp)
    simp only [Tree.sel, hp, hf, erT_sel, cond_true, cond_false]
    show _ = some (prE (begP l f t) (begE l f t))
    unfold begP begE
    cases h1 : ckE l == 0
    · simp only [cond_false, Bool.not_false, cond_true, h1]
    · simp only [cond_true, Bool.not_true, cond_false]
      cases h2 : hasN l f
      · rfl
      · cases h3 : hasN l t
        · rfl
        · simp only [bne, Bool.not_not, Bool.and_self, Bool.not_true, cond_true, cond_false]
          cases h4 : f == t
          · cases h5 : ok18 l f t
            · rfl
            · cases h6 : ok12 l f t <;> rfl
          · rfl
  · cases h
def sameS (x y : Sit) : Bool := ((((((x.a == y.a && x.r == y.r) && x.e == y.e) && x.p == y.p) && eqL ⟨⟨x.n, x.ρ⟩, ⟨y.n, y.ρ⟩⟩) && x.s == y.s) && x.l == y.l) && x.c == y.c
structure C21 where
  l : Ses
  j : Ses
def S21 (c : C21) (v : Int) : St := mkS 27 [(0, .one (.c (.sl siSh c.l.n c.l.ρ))), (1, .one (.c (.sl siSh c.j.n c.j.ρ))), (4, .one (.c (.bool false))), (5, .one (.c (I v)))] []
noncomputable def TX21 (c : C21) (v : Int) : Tree (XE × Int) :=
  .br (lt v (toInt64 c.l.n)) (.need (inRange v c.l.n) (.need (inRange v c.j.n) (.need (dec (fewN (c.l.at v.toNat).n)) (.br (!sameS (c.l.at v.toNat) (c.j.at v.toNat)) (.leaf (.ret, v)) (.leaf (.normal, IntKind.i64.wrap (v + 1))))))) (.leaf (.exit 0, v))
theorem t21 (c : C21) (v : Int) : ((evCode Tryz.prog HA (evFn Tryz.prog HA 10) 19 0 1 (loopBody Tryz.prog 19 0) (S21 c v)).bind fun y => gcT [0, 1, 4, 5] 0 y) = (TX21 c v).bind fun y => .leaf (y.1, S21 c y.2) := by kernel_rfl
def difS (l j : Ses) (i : Nat) : Bool := !sameS (l.at i) (j.at i)
def good21 (c : C21) : Prop := fewS c.l ∧ c.l.n = c.j.n
theorem sq21 (c : C21) (h : good21 c) : Sq (TX21 c) (fun v => (c.l.n - v).toNat) (fun i => (i : Int)) (fun i => (i : Int)) c.l.n (difS c.l c.j) .ret (.exit 0) where
  out := by simp
  hit := by simp
  meas i hi := by show ((c.l.n : Int) - (i : Int)).toNat = _; omega
  round i hi := by
    obtain ⟨⟨hn, hs⟩, hj⟩ := h
    have hsi := hs i hi
    unfold fewN at hn
    have hw : IntKind.i64.wrap ((i : Int) + 1) = ((i + 1 : Nat) : Int) := by rw [w64_id (by omega) (by omega)]; omega
    refine ⟨fun _ => ⟨inR hi, inR (hj ▸ hi), dec_iff.2 hsi, fun hb => ?_, fun hb => ?_⟩, fun hlt => ?_⟩
    · have : difS c.l c.j i = true := hb
      simp only [Tree.All, this, if_true]
    · have : difS c.l c.j i = false := hb
      simp only [Tree.All, this, Bool.false_eq_true, if_false]
      rw [hw]
    · rw [ltF hi] at hlt; cases hlt
  stop := by
    refine ⟨fun hlt => ?_, fun _ => rfl⟩
    rw [ltS] at hlt; cases hlt
def get21 : List (Nat × AV) → Mem → Option (C21 × Int)
  | [(0, .one (.c (.sl [.int .i64, .int .i64, .int .i64, .int .i64, .sl [.int .i64, .int .i64, .int .i64], .int .i64, .bool, .bool] n ρ))), (1, .one (.c (.sl [.int .i64, .int .i64, .int .i64, .int .i64, .sl [.int .i64, .int .i64, .int .i64], .int .i64, .bool, .bool] m σ))), (4, .one (.c (.bool false))), (5, .one (.c (.int .i64 i)))], [] => some (⟨⟨n, ρ⟩, ⟨m, σ⟩⟩, i)
  | _, _ => none
noncomputable def L21 : Nat → St → Tree (XE × St) := lqH [0, 1, 4, 5] 0 27 get21 fun c v => lqT (S21 c) (good21 c ∧ v = ((0 : Nat) : Int)) (anyB (difS c.l c.j) c.l.n) .ret (.exit 0) (firstB (difS c.l c.j) c.l.n : Nat) (c.l.n : Int)
theorem l21 (fn : Func) (c b : Code) (hf : Tryz.prog.funcs[19]? = some fn) (hc : fn.body = some c) (hb : nthLoop c 0 = some b) : LoopOk Tryz.prog b L21 :=
  lq_ok hA 10 19 0 hf hc hb [0, 1, 4, 5] 0 27 S21 TX21 t21 get21
    (fun l m c v h => by unfold get21 at h; split at h <;> simp at h; obtain ⟨rfl, rfl⟩ := h; rfl)
    good21 (fun c v => (c.l.n - v).toNat) (fun _ i => (i : Int)) (fun _ i => (i : Int)) (fun c => c.l.n) (fun c => difS c.l c.j) .ret (.exit 0)
    sq21 (fun c => (firstB (difS c.l c.j) c.l.n : Nat)) (fun c => (c.l.n : Int)) (fun _ _ _ => StWk.refl) (fun _ _ _ => StWk.refl)
noncomputable abbrev H21 : Hd := ⟨HA.pc, HA.hc, [((19, 0), L21)], HA.mc⟩
theorem h21 : HdOk Tryz.prog H21 := HdOk.lhCons hA l21
def sameAll (l j : Ses) : Bool := bif l.n == j.n then !anyB (difS l j) l.n else false
noncomputable def Gsame : List A1 → Option (Bool × AV)
  | [.c (.sl [.int .i64, .int .i64, .int .i64, .int .i64, .sl [.int .i64, .int .i64, .int .i64], .int .i64, .bool, .bool] n ρ), .c (.sl [.int .i64, .int .i64, .int .i64, .int .i64, .sl [.int .i64, .int .i64, .int .i64], .int .i64, .bool, .bool] m σ)] => some (dec (fewS ⟨n, ρ⟩), .one (.c (.bool (sameAll ⟨n, ρ⟩ ⟨m, σ⟩))))
  | _ => none
theorem pSame : TcOne Tryz.prog 19 (nG Gsame) := tcOne_of_tree h21 10 19 fun args r h => by
  unfold Gsame at h; split at h
  · rename_i n ρ m σ
    obtain ⟨hp, rfl⟩ := Prod.mk.inj (Option.some.inj h)
    have hf := dec_iff.1 hp
    refine ⟨rfl, .br (toInt64 n != toInt64 m) (.leaf (.one (.c (.bool false)))) (.need (dec (good21 ⟨⟨n, ρ⟩, ⟨m, σ⟩⟩ ∧ (0 : Int) = ((0 : Nat) : Int))) (.br (anyB (difS ⟨n, ρ⟩ ⟨m, σ⟩) n) (.leaf (.one (.c (.bool false)))) (.leaf (.one (.c (.bool true)))))), by kernel_rfl, all_of_sel ?_⟩
    unfold sameAll
    simp only [Tree.sel]
    by_cases hnm : n = m
    · subst hnm
      have h1 : (toInt64 n != toInt64 n) = false := by simp
      have h2 : dec (good21 ⟨⟨n, ρ⟩, ⟨n, σ⟩⟩ ∧ (0 : Int) = ((0 : Nat) : Int)) = true := dec_iff.2 ⟨⟨hf, rfl⟩, rfl⟩
      have h3 : (n == n) = true := by simp
      rw [h1, h2, h3]
      cases anyB (difS ⟨n, ρ⟩ ⟨n, σ⟩) n <;> rfl
    · have h1 : (toInt64 n != toInt64 m) = true := by
        have : (n : Int) ≠ (m : Int) := by omega
        simpa [toInt64, bne] using this
      have h3 : (n == m) = false := by simpa using hnm
      rw [h1, h3]; rfl
  · cases h
noncomputable abbrev HE : Hd := ⟨(19, nG Gsame) :: HB.pc, HB.hc, [], HB.mc⟩
theorem hE : HdOk Tryz.prog HE := ((((hB))).tcCons pSame)
def fnC (f : Nat) : CV := .fn (.func f) [] []
def fnV (f : Nat) : Value := .func (.func f) #[] #[]
theorem fnC_mk {F w bs} (f : Nat) : CV.Rel F w bs (fnC f) (fnV f) := CV.Rel.fn (vf := []) (vc := []) rfl rfl (fun i x v h => by simp [nth] at h) (fun i x v h => by simp [nth] at h)
theorem fnC_eq {F w bs} {f : Nat} {v : Value} (h : CV.Rel F w bs (fnC f) v) : v = fnV f := by
  unfold fnC at h
  cases h with
  | fn l1 l2 r1 r2 =>
    rename_i vf vc
    have h1 : vf = [] := List.length_eq_zero_iff.1 l1.symm
    have h2 : vc = [] := List.length_eq_zero_iff.1 l2.symm
    subst h1; subst h2; rfl
theorem fnCs_mk {F w bs} : ∀ fs : List Nat, All2 (CV.Rel F w bs) (fs.map fnC) (fs.map fnV)
  | [] => .nil
  | f :: r => .cons (fnC_mk f) (fnCs_mk r)
theorem fnCs_eq {F w bs} : ∀ {fs : List Nat} {vs : List Value}, All2 (CV.Rel F w bs) (fs.map fnC) vs → vs = fs.map fnV
  | [], _, h => by cases h; rfl
  | f :: r, _, h => by
    cases h with
    | cons a b => rw [fnC_eq a, fnCs_eq b]; rfl
theorem pcOne_fns {P : Program} {H : Hd} (hH : HdOk P H) (n f : Nat) (fs : List Nat) {m : Mem} (h : evFn P H n f [] [] = .leaf (.one (.agg (fs.map fnC)), m)) : PcOne P f (fun args => match args with | [] => some (.one (.agg (fs.map fnC))) | _ => none) := by
  intro args r hG _ F w vs hargs
  simp only at hG
  split at hG
  · simp only [Option.some.injEq] at hG
    subst hG
    cases hargs
    refine ⟨.agg (fs.map fnV).toArray, ⟨_, rfl, fnCs_mk fs⟩, fun w1 _ => ?_⟩
    refine (evFn_ok0 hH n f [] (.one (.agg (fs.map fnC))) m (by rw [h]; rfl) F w1 [] [] MemRel.nil .nil).mono fun e w2 ⟨u, F', bs', he, hext, _, hu⟩ => ?_
    obtain ⟨us, hus, hu⟩ := hu
    rw [fnCs_eq hu] at hus
    subst hus
    exact ⟨he, hext.below⟩
  · cases hG
def Gsteps : List A1 → Option AV := fun args => match args with | [] => some (.one (.agg ([178, 179, 180, 181, 182].map fnC))) | _ => none
theorem pSteps : PcOne Tryz.prog 163 Gsteps := pcOne_fns hE 10 163 [178, 179, 180, 181, 182] (m := [some (219, [178, 179, 180, 181, 182].map fnC)]) (by kernel_rfl)
structure C77 where
  l : Ln
  j : Ln
  m : Int
def S77 (c : C77) (v : Int) : St := mkS 26 [(0, .one (.c (.sl spSh c.l.n c.l.ρ))), (1, .one (.c (.sl spSh c.j.n c.j.ρ))), (4, .one (.c (.bool false))), (12, .one (.c (I c.m))), (13, .one (.c (I v)))] []
def TX77 (c : C77) (v : Int) : Tree (XE × Int) := .br (lt v c.m) (.need (inRange v c.l.n) (.need (inRange v c.j.n) (.br (dif c.l.ρ c.j.ρ v.toNat) (.leaf (.ret, v)) (.leaf (.normal, IntKind.i64.wrap (v + 1)))))) (.leaf (.exit 0, v))
theorem t77 (c : C77) (v : Int) : ((evCode Tryz.prog HA (evFn Tryz.prog HA 10) 188 0 1 (loopBody Tryz.prog 188 0) (S77 c v)).bind fun y => gcT [0, 1, 4, 12, 13] 0 y) = (TX77 c v).bind fun y => .leaf (y.1, S77 c y.2) := by kernel_rfl
def good77 (c : C77) : Prop := c.m = toInt64 c.l.n ∧ c.l.n = c.j.n ∧ fewN c.l.n
theorem sq77 (c : C77) (h : good77 c) : Sq (TX77 c) (fun v => (c.l.n - v).toNat) (fun i => (i : Int)) (fun i => (i : Int)) c.l.n (difL ⟨c.l, c.j⟩) .ret (.exit 0) where
  out := by simp
  hit := by simp
  meas i hi := by show ((c.l.n : Int) - (i : Int)).toNat = _; omega
  round i hi := by
    obtain ⟨hm, hj, hn⟩ := h
    unfold fewN at hn
    have hw : IntKind.i64.wrap ((i : Int) + 1) = ((i + 1 : Nat) : Int) := by rw [w64_id (by omega) (by omega)]; omega
    refine ⟨fun _ => ⟨inR hi, inR (hj ▸ hi), fun hb => ?_, fun hb => ?_⟩, fun hlt => ?_⟩
    · have : difL ⟨c.l, c.j⟩ i = true := hb
      simp only [Tree.All, this, if_true]
    · have : difL ⟨c.l, c.j⟩ i = false := hb
      simp only [Tree.All, this, Bool.false_eq_true, if_false]
      rw [hw]
    · rw [hm, ltF hi] at hlt; cases hlt
  stop := by
    refine ⟨fun hlt => ?_, fun _ => rfl⟩
    rw [h.1, ltS] at hlt; cases hlt
def get77 : List (Nat × AV) → Mem → Option (C77 × Int)
  | [(0, .one (.c (.sl [.int .i64, .int .i64, .int .i64] n ρ))), (1, .one (.c (.sl [.int .i64, .int .i64, .int .i64] k σ))), (4, .one (.c (.bool false))), (12, .one (.c (.int .i64 m))), (13, .one (.c (.int .i64 i)))], [] => some (⟨⟨n, ρ⟩, ⟨k, σ⟩, m⟩, i)
  | _, _ => none
noncomputable def L77 : Nat → St → Tree (XE × St) := lqH [0, 1, 4, 12, 13] 0 26 get77 fun c v => lqT (S77 c) (good77 c ∧ v = ((0 : Nat) : Int)) (anyB (difL ⟨c.l, c.j⟩) c.l.n) .ret (.exit 0) (firstB (difL ⟨c.l, c.j⟩) c.l.n : Nat) (c.l.n : Int)
theorem l77 (fn : Func) (c b : Code) (hf : Tryz.prog.funcs[188]? = some fn) (hc : fn.body = some c) (hb : nthLoop c 0 = some b) : LoopOk Tryz.prog b L77 :=
  lq_ok hA 10 188 0 hf hc hb [0, 1, 4, 12, 13] 0 26 S77 TX77 t77 get77
    (fun l m c v h => by unfold get77 at h; split at h <;> simp at h; obtain ⟨rfl, rfl⟩ := h; rfl)
    good77 (fun c v => (c.l.n - v).toNat) (fun _ i => (i : Int)) (fun _ i => (i : Int)) (fun c => c.l.n) (fun c => difL ⟨c.l, c.j⟩) .ret (.exit 0)
    sq77 (fun c => (firstB (difL ⟨c.l, c.j⟩) c.l.n : Nat)) (fun c => (c.l.n : Int)) (fun _ _ _ => StWk.refl) (fun _ _ _ => StWk.refl)
noncomputable abbrev H77 : Hd := ⟨HA.pc, HA.hc, [((188, 0), L77)], HA.mc⟩
theorem h77 : HdOk Tryz.prog H77 := HdOk.lhCons hA l77
theorem pEqual : TcOne Tryz.prog 188 (nG GE) := tcOne_of_tree h77 10 188 fun args r h => by
  unfold GE at h; split at h
  · rename_i n ρ k σ
    obtain ⟨hp, rfl⟩ := Prod.mk.inj (Option.some.inj h)
    refine ⟨rfl, .br (toInt64 n != toInt64 k) (.leaf (.one (.c (.bool false)))) (.need (dec (good77 ⟨⟨n, ρ⟩, ⟨k, σ⟩, toInt64 n⟩ ∧ (0 : Int) = ((0 : Nat) : Int))) (.br (anyB (difL ⟨⟨n, ρ⟩, ⟨k, σ⟩⟩) n) (.leaf (.one (.c (.bool false)))) (.leaf (.one (.c (.bool true)))))), by kernel_rfl, all_of_sel ?_⟩
    unfold eqL
    simp only [Tree.sel]
    by_cases hnm : n = k
    · subst hnm
      have h1 : (toInt64 n != toInt64 n) = false := by simp
      have h2 : dec (good77 ⟨⟨n, ρ⟩, ⟨n, σ⟩, toInt64 n⟩ ∧ (0 : Int) = ((0 : Nat) : Int)) = true := dec_iff.2 ⟨⟨rfl, rfl, dec_iff.1 hp⟩, rfl⟩
      have h3 : (n == n) = true := by simp
      rw [h1, h2, h3]
      cases anyB (difL ⟨⟨n, ρ⟩, ⟨n, σ⟩⟩) n <;> rfl
    · have h1 : (toInt64 n != toInt64 k) = true := by
        have : (n : Int) ≠ (k : Int) := by omega
        simpa [toInt64, bne] using this
      have h3 : (n == k) = false := by simpa using hnm
      rw [h1, h3]; rfl
  · cases h
noncomputable abbrev HS : Hd := ⟨pF 178 :: pF 179 :: pF 180 :: pF 181 :: pF 182 :: (163, oG Gsteps) :: (188, nG GE) :: HE.pc, HE.hc, [], HE.mc⟩
theorem hS : HdOk Tryz.prog HS := ((((((hE.tcCons pEqual).pcCons pSteps).pF 182).pF 181).pF 180).pF 179).pF 178
end Go.Proofs.YtennlgngdjegoaaGreat
