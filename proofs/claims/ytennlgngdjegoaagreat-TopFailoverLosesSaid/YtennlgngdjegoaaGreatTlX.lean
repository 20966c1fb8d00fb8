/-
  Part TlX of the proof: LosO LosP LosS LosT LosU TfD EngDr TfE TfF TfG TfH.
-/
import Derived.Test.YtennlgngdjegoaaGreatTlW
import Derived.Test.YtennlgngdjegoaaGreatTlT
import Derived.Test.YtennlgngdjegoaaGreatTlR
namespace Go.Proofs.YtennlgngdjegoaaGreat
open Go Go.Sx Go.RowKit Classical
set_option maxRecDepth 100000
namespace Hs
open Fo (inSh)
theorem his_ok {h : Hi} (h0 : hisE h = 0) : (∀ i, i < h.e.n → eE h i = 0) ∧ h.w.n ≤ (evS h.e.ρ h.e.n).k := by
  have hb : anyB (eB h) h.e.n = false ∧ h.w.n ≤ (evS h.e.ρ h.e.n).k := by
    unfold hisE at h0
    cases a1 : szE h.s != 0
    · rw [a1] at h0
      cases a2 : lt 4096 (toInt64 h.w.n)
      · rw [a2] at h0
        cases a3 : anyB (wB h) h.w.n
        · rw [a3] at h0
          cases a4 : anyB (eB h) h.e.n
          · rw [a4] at h0
            refine ⟨rfl, ?_⟩
            cases a5 : lt (toInt64 (evS h.e.ρ h.e.n).k) (toInt64 h.w.n)
            · rw [← Bool.not_eq_true, lt_iff] at a5
              have a5 : ¬ ((evS h.e.ρ h.e.n).k : Int) < (h.w.n : Int) := a5
              omega
            · rw [a5] at h0; cases h0
          · rw [a4] at h0
            exact (first_ne a4 h0).elim
        · rw [a3] at h0
          exact (first_ne a3 h0).elim
      · rw [a2] at h0; cases h0
    · rw [a1] at h0
      have : szE h.s = 0 := h0
      rw [this] at a1; cases a1
  refine ⟨fun i hi => ?_, hb.2⟩
  cases hh : eB h i
  · unfold eB at hh; simpa [bne] using hh
  · rw [anyB_iff.2 ⟨i, hi, hh⟩] at hb; cases hb.1
def atJ (N : Int) (n : Nat) (ε : Val) (x y : Int) : Int := bif anyB (evQ ε x y) n then ((firstB (evQ ε x y) n : Nat) : Int) else N
theorem atJ_old {N : Int} {n : Nat} {ε : Val} {x y : Int} (h : evQ ε x y n = false) : atJ N (n + 1) ε x y = atJ N n ε x y := by
  unfold atJ
  have e : anyB (evQ ε x y) (n + 1) = anyB (evQ ε x y) n := by show (anyB _ n || evQ ε x y n) = _; rw [h, Bool.or_false]
  rw [e]
  cases ha : anyB (evQ ε x y) n
  · rfl
  · show ((firstB (evQ ε x y) (n + 1) : Nat) : Int) = _
    show (((bif anyB (evQ ε x y) n then firstB (evQ ε x y) n else n) : Nat) : Int) = _
    rw [ha]; rfl
theorem atJ_new {N : Int} {n : Nat} {ε : Val} {x y : Int} (h : evQ ε x y n = true) (ha : anyB (evQ ε x y) n = false) : atJ N (n + 1) ε x y = n := by
  unfold atJ
  have e : anyB (evQ ε x y) (n + 1) = true := by show (anyB _ n || evQ ε x y n) = _; rw [h, Bool.or_true]
  rw [e]
  show (((bif anyB (evQ ε x y) n then firstB (evQ ε x y) n else n) : Nat) : Int) = _
  rw [ha]; rfl
theorem rl_at {nw : Nat} {ε : Val} {N : Int} : ∀ n, n ≤ 1000 → (∀ i, i < n → evE nw ε i (evS ε i) = 0) → ∀ b : Nat,
    vI (Fh.rl ε (Fg.cst N) (Fg.cst N) n).1 b = atJ N n ε 0 b ∧ vI (Fh.rl ε (Fg.cst N) (Fg.cst N) n).2 b = atJ N n ε 1 b
  | 0, _, _, b => ⟨rfl, rfl⟩
  | n + 1, hn, h, b => by
    obtain ⟨i1, i2⟩ := rl_at n (by omega) (fun i hi => h i (by omega)) b
    have hv := inv_all (nw := nw) n (by omega) fun i hi => h i (by omega)
    have h0 := h n (by omega)
    unfold evE at h0
    have hS : Fh.rl ε (Fg.cst N) (Fg.cst N) (n + 1) = bif vI ε n == 0 then ((Fh.rl ε (Fg.cst N) (Fg.cst N) n).1.upds (vJ ε n).toNat 0 [I n], (Fh.rl ε (Fg.cst N) (Fg.cst N) n).2) else ((Fh.rl ε (Fg.cst N) (Fg.cst N) n).1, (Fh.rl ε (Fg.cst N) (Fg.cst N) n).2.upds (vJ ε n).toNat 0 [I n]) := rfl
    have nev : ∀ {x y : Int}, ¬ (vI ε n = x ∧ vJ ε n = y) → evQ ε x y n = false := fun hh => by rw [← Bool.not_eq_true, evQ_iff]; exact hh
    rw [hS]
    cases c0 : vI ε n == 0
    · rw [c0] at h0
      have n0 : vI ε n ≠ 0 := by simpa using c0
      cases c1 : vI ε n == 1
      · rw [c1] at h0; cases h0
      · rw [c1] at h0
        have n1 : vI ε n = 1 := by simpa using c1
        cases c7 : lt (vJ ε n) 0 || le (toInt64 (evS ε n).k) (vJ ε n)
        · rw [c7] at h0
          rw [Bool.or_eq_false_iff, ← Bool.not_eq_true, ← Bool.not_eq_true, lt_iff, le_iff] at c7
          have c7b : ¬ ((evS ε n).k : Int) ≤ vJ ε n := c7.2
          refine ⟨?_, ?_⟩
          · show vI (Fh.rl ε (Fg.cst N) (Fg.cst N) n).1 b = _
            rw [i1, atJ_old (nev fun hh => n0 hh.1)]
          · show vI ((Fh.rl ε (Fg.cst N) (Fg.cst N) n).2.upds (vJ ε n).toNat 0 [I n]) b = _
            rw [vI_upds]
            by_cases hb : b = (vJ ε n).toNat
            · rw [if_pos hb]
              symm
              refine atJ_new (evQ_iff.2 ⟨n1, by omega⟩) ?_
              rw [← Bool.not_eq_true, ← hv.ack b (by omega), hb]
              intro hh
              cases c8 : le 0 (vI (evS ε n).τ (vJ ε n).toNat)
              · rw [← Bool.not_eq_true, le_iff] at c8; exact c8 hh
              · rw [c8] at h0; cases h0
            · rw [if_neg hb, i2, atJ_old (nev fun hh => hb (by omega))]
        · rw [c7] at h0; cases h0
    · rw [c0] at h0
      have n0 : vI ε n = 0 := by simpa using c0
      cases c3 : vJ ε n != toInt64 (evS ε n).k || le (toInt64 nw) (vJ ε n)
      · rw [Bool.or_eq_false_iff] at c3
        have e3 : vJ ε n = toInt64 (evS ε n).k := by simpa [bne] using c3.1
        have e3 : vJ ε n = ((evS ε n).k : Int) := e3
        refine ⟨?_, ?_⟩
        · show vI ((Fh.rl ε (Fg.cst N) (Fg.cst N) n).1.upds (vJ ε n).toNat 0 [I n]) b = _
          rw [vI_upds]
          by_cases hb : b = (vJ ε n).toNat
          · rw [if_pos hb]
            symm
            refine atJ_new (evQ_iff.2 ⟨n0, by omega⟩) ?_
            rw [← Bool.not_eq_true, hv.iss]
            omega
          · rw [if_neg hb, i1, atJ_old (nev fun hh => hb (by omega))]
        · show vI (Fh.rl ε (Fg.cst N) (Fg.cst N) n).2 b = _
          rw [i2, atJ_old (nev fun hh => by omega)]
      · rw [c3] at h0; cases h0
theorem bef_same {h : Hi} (h0 : hisE h = 0) (hn : h.e.n ≤ 1000) (a b : Nat) (hb : b < h.w.n) : lt (vI (relA h) a) (vI (relI h) b) = befB h a b := by
  obtain ⟨o1, o2⟩ := his_ok h0
  obtain ⟨rI, -⟩ := rl_at (nw := h.w.n) (N := toInt64 h.e.n) h.e.n hn o1 b
  obtain ⟨-, rA⟩ := rl_at (nw := h.w.n) (N := toInt64 h.e.n) h.e.n hn o1 a
  have hv := inv_all (nw := h.w.n) h.e.n hn o1
  have hi : anyB (evQ h.e.ρ 0 b) h.e.n = true := (hv.iss _).2 ⟨by omega, by omega⟩
  have hf := (firstB_ok hi).1
  have eI : vI (relI h) b = ((firstB (evQ h.e.ρ 0 b) h.e.n : Nat) : Int) := by
    show vI (Fh.rl h.e.ρ (Fg.cst (toInt64 h.e.n)) (Fg.cst (toInt64 h.e.n)) h.e.n).1 b = _
    rw [rI]; unfold atJ; rw [hi]; rfl
  have eA : vI (relA h) a = atJ (toInt64 h.e.n) h.e.n h.e.ρ 1 a := rA
  rw [eI, eA]
  unfold befB atI atJ
  rw [hi]
  cases ha : anyB (evQ h.e.ρ 1 a) h.e.n
  · show lt (toInt64 h.e.n) _ = (bif le 0 (-1 : Int) then _ else false)
    show lt (h.e.n : Int) _ = false
    rw [← Bool.not_eq_true, lt_iff]; omega
  · show _ = (bif le 0 ((firstB (evQ h.e.ρ 1 a) h.e.n : Nat) : Int) then _ else false)
    rw [le0_nat]; rfl
theorem vB_upds (σ : Val) (k : Nat) (y : Bool) (j : Nat) : vB (σ.upds k 0 [.bool y]) j = if j = k then y else vB σ j := by
  show (((Val.upd σ k 0 (.bool y)).at j).at 0).B [] = _
  by_cases h : j = k
  · subst h
    rw [if_pos rfl]
    show ((pickV (Nat.beq j j) (.byFst fun g => pickV (Nat.beq g 0) (.ofC (.bool y)) ((σ.at j).at g)) (σ.at j)).at 0).B [] = y
    have : Nat.beq j j = true := by simp
    rw [this]; rfl
  · rw [if_neg h]
    show ((pickV (Nat.beq j k) (.byFst fun g => pickV (Nat.beq g 0) (.ofC (.bool y)) ((σ.at k).at g)) (σ.at j)).at 0).B [] = _
    have : Nat.beq j k = false := by rw [← Bool.not_eq_true]; intro hh; exact h (Nat.eq_of_beq_eq_true hh)
    rw [this]; rfl
theorem mark_at {κ : Val} : ∀ k, (∀ j, j < k → 0 ≤ vI κ j) → ∀ i : Nat, vB (mkS' κ zB k) i = anyB (fun j => vI κ j == (i : Int)) k
  | 0, _, i => rfl
  | k + 1, h, i => by
    have ih := mark_at k (fun j hj => h j (by omega)) i
    have h0 := h k (by omega)
    show vB ((mkS' κ zB k).upds (vI κ k).toNat 0 [.bool true]) i = (anyB (fun j => vI κ j == (i : Int)) k || vI κ k == (i : Int))
    rw [vB_upds]
    by_cases hi : i = (vI κ k).toNat
    · rw [if_pos hi]
      have : (vI κ k == (i : Int)) = true := by rw [beq_iff_eq]; omega
      rw [this, Bool.or_true]
    · rw [if_neg hi, ih]
      have : (vI κ k == (i : Int)) = false := by rw [beq_eq_false_iff_ne]; omega
      rw [this, Bool.or_false]
theorem cut_same {h : Hi} (hf : fewH h) (hd : datOk h) (l : Il) : rctE h l = cutE h l := by
  unfold rctE cutE
  rw [his_same hf hd]
  cases a1 : hisE h != 0
  · have h0 : hisE h = 0 := by simpa [bne] using a1
    have eS : anyB (Fi.bad (iC h l.n l.ρ)) l.n = anyB (setB (toInt64 h.w.n) l.ρ) l.n := rfl
    rw [eS]
    cases a2 : anyB (setB (toInt64 h.w.n) l.ρ) l.n
    · have hin : ∀ j, j < l.n → 0 ≤ vI l.ρ j ∧ vI l.ρ j < h.w.n := fun j hj => by
        have : setB (toInt64 h.w.n) l.ρ j = false := by
          cases hc : setB (toInt64 h.w.n) l.ρ j
          · rfl
          · rw [anyB_iff.2 ⟨j, hj, hc⟩] at a2; cases a2
        unfold setB at this
        rw [Bool.or_eq_false_iff, Bool.or_eq_false_iff, ← Bool.not_eq_true, ← Bool.not_eq_true, lt_iff, le_iff] at this
        have h2 : ¬ (h.w.n : Int) ≤ vI l.ρ j := this.1.2
        omega
      have hm := mark_at (κ := l.ρ) l.n fun j hj => (hin j hj).1
      have hmk : ∀ i : Nat, vB (mP h l.n l.ρ).ρ i = anyB (fun j => vI l.ρ j == (i : Int)) l.n := fun i => by
        rw [← hm i]
        have e : ∀ k, mkS' (KV l.n l.ρ) zB k = mkS' l.ρ zB k := fun k => by
          induction k with
          | zero => rfl
          | succ k ih =>
            show (mkS' (KV l.n l.ρ) zB k).upds (vI (KV l.n l.ρ) k).toNat 0 [.bool true] = _
            rw [ih]; rfl
        show vB (mkS' (KV l.n l.ρ) zB l.n) i = _
        rw [e]
      have hb : anyB (Fk.bad (kC h l.n l.ρ)) h.w.n = !(rclB h l) := by
        unfold rclB
        rw [Bool.not_not, Bool.eq_iff_iff, anyB_iff, anyB_iff]
        have am : (kC h l.n l.ρ).a.toNat = h.w.n := Int.toNat_natCast _
        constructor
        · rintro ⟨i, hi, hb⟩
          have hb : (vB (mP h l.n l.ρ).ρ i && anyB (fun a => lt (vI (relA h) a) (vI (relI h) i) && !(vB (mP h l.n l.ρ).ρ a)) (kC h l.n l.ρ).a.toNat) = true := hb
          rw [am, Bool.and_eq_true, hmk, anyB_iff, anyB_iff] at hb
          obtain ⟨⟨j, hj, e1⟩, a, ha, e2⟩ := hb
          have e1 : vI l.ρ j = (i : Int) := by simpa using e1
          have e2 : (lt (vI (relA h) a) (vI (relI h) i) && !(vB (mP h l.n l.ρ).ρ a)) = true := e2
          rw [bef_same h0 hf.2.2 a i hi, hmk] at e2
          refine ⟨j, hj, ?_⟩
          show anyB (fun a => befB h a (vI l.ρ j) && !(anyB (fun k => vI l.ρ k == (a : Int)) l.n)) h.w.n = true
          rw [e1]
          exact anyB_iff.2 ⟨a, ha, e2⟩
        · rintro ⟨j, hj, hb⟩
          have hb : anyB (fun a => befB h a (vI l.ρ j) && !(anyB (fun k => vI l.ρ k == (a : Int)) l.n)) h.w.n = true := hb
          obtain ⟨a, ha, e2⟩ := anyB_iff.1 hb
          obtain ⟨b1, b2⟩ := hin j hj
          have ei : vI l.ρ j = (((vI l.ρ j).toNat : Nat) : Int) := by omega
          refine ⟨(vI l.ρ j).toNat, by omega, ?_⟩
          show (vB (mP h l.n l.ρ).ρ (vI l.ρ j).toNat && anyB (fun a => lt (vI (relA h) a) (vI (relI h) (vI l.ρ j).toNat) && !(vB (mP h l.n l.ρ).ρ a)) (kC h l.n l.ρ).a.toNat) = true
          rw [am, Bool.and_eq_true, hmk, anyB_iff, anyB_iff]
          refine ⟨⟨j, hj, by rw [beq_iff_eq]; exact ei⟩, a, ha, ?_⟩
          rw [bef_same h0 hf.2.2 a _ (by omega), hmk, ← ei]
          exact e2
      have hr : rcsB h l = rclB h l := by
        unfold rcsB
        rw [his_same hf hd, h0, a2]; rfl
      rw [hb, hr]
    · rfl
  · rfl
end Hs
end Go.Proofs.YtennlgngdjegoaaGreat
namespace Go.Proofs.YtennlgngdjegoaaGreat
open Go Go.Sx Go.RowKit Classical
set_option maxRecDepth 100000
set_option maxHeartbeats 4000000
namespace Hs
open Fo (inSh scSh evSh pcH litK headK)
theorem fw_ok {h : Hi} (hf : fwB h = true) : (fewH h ∧ h.w.n ≤ 64) ∧ datOk h := by
  unfold fwB at hf
  rw [Bool.and_eq_true, Bool.and_eq_true, Bool.not_eq_true', Bool.or_eq_false_iff, Bool.or_eq_false_iff, ← Bool.not_eq_true, ← Bool.not_eq_true, ← Bool.not_eq_true, lt_iff, lt_iff, lt_iff] at hf
  obtain ⟨⟨⟨a1, a2⟩, a3⟩, a4, a5⟩ := hf
  have a1 : ¬ (9 : Int) < (h.s.n : Int) := a1
  have a2 : ¬ (40 : Int) < (h.w.n : Int) := a2
  have a3 : ¬ (90 : Int) < (h.e.n : Int) := a3
  refine ⟨⟨⟨by unfold fewN; omega, by unfold fewN; omega, by omega⟩, by omega⟩, fun i hi => ?_⟩
  rw [Bool.not_eq_true', ← Bool.not_eq_true, anyB_iff] at a5
  have hb : ¬ (lt 30 (toInt64 (vL h.w.ρ 2 i)) = true) := fun hh => a5 ⟨i, hi, hh⟩
  rw [lt_iff] at hb
  have hb : ¬ (30 : Int) < ((vL h.w.ρ 2 i : Nat) : Int) := hb
  unfold fewN; omega
end Hs
end Go.Proofs.YtennlgngdjegoaaGreat
namespace Go.Proofs.YtennlgngdjegoaaGreat
open Go Go.Sx Go.RowKit Classical
namespace Hs
theorem ls_few {l : Il} (hs : ∀ i j, i < j → j < l.n → vI l.ρ i < vI l.ρ j) (h0 : ∀ j, j < l.n → 0 ≤ vI l.ρ j) (hin : ∀ (n : Nat), inB l n = true ↔ ∃ j, j < l.n ∧ vI l.ρ j = (n : Int)) :
    ∀ n : Nat, ∃ p, p ≤ l.n ∧ (ls l n).1 + p = n ∧ (∀ j, j < p → vI l.ρ j < (n : Int)) ∧ ∀ j, p ≤ j → j < l.n → (n : Int) ≤ vI l.ρ j
  | 0 => ⟨0, by omega, rfl, fun j hj => by omega, fun j _ hj => h0 j hj⟩
  | n + 1 => by
    obtain ⟨p, p1, p2, p3, p4⟩ := ls_few hs h0 hin n
    have e : ls l (n + 1) = bif !(inB l n) then ((ls l n).1 + 1, Val.cat (ls l n).1 (ls l n).2 (Val.ofFlat 1 [I n])) else ls l n := rfl
    cases hb : inB l n
    · rw [hb] at e
      have e1 : (ls l (n + 1)).1 = (ls l n).1 + 1 := by rw [e]; rfl
      have hno : ∀ j, j < l.n → vI l.ρ j ≠ (n : Int) := fun j hj hh => by
        have := (hin n).2 ⟨j, hj, hh⟩
        rw [hb] at this; cases this
      refine ⟨p, p1, by omega, fun j hj => ?_, fun j hj hl => ?_⟩
      · have := p3 j hj; omega
      · have := p4 j hj hl
        have := hno j hl
        omega
    · rw [hb] at e
      have e1 : (ls l (n + 1)).1 = (ls l n).1 := by rw [e]; rfl
      obtain ⟨j, hj, hv⟩ := (hin n).1 hb
      have hp : p ≤ j := by
        apply Classical.byContradiction
        intro hh
        have := p3 j (by omega)
        omega
      have hjp : j = p := by
        apply Classical.byContradiction
        intro hh
        have := hs p j (by omega) hj
        have := p4 p (Nat.le_refl _) (by omega)
        omega
      subst hjp
      refine ⟨j + 1, by omega, by omega, fun i hi => ?_, fun i hi hl => ?_⟩
      · by_cases hij : i = j
        · subst hij; omega
        · have := p3 i (by omega); omega
      · have := hs j i (by omega) hl
        omega
theorem ls_count {l : Il} {n : Nat} (hs : ∀ i j, i < j → j < l.n → vI l.ρ i < vI l.ρ j) (h0 : ∀ j, j < l.n → 0 ≤ vI l.ρ j ∧ vI l.ρ j < (n : Int)) (hin : ∀ (n : Nat), inB l n = true ↔ ∃ j, j < l.n ∧ vI l.ρ j = (n : Int)) : (ls l n).1 + l.n = n := by
  obtain ⟨p, p1, p2, _, p4⟩ := ls_few hs (fun j hj => (h0 j hj).1) hin n
  by_cases h : p < l.n
  · have := p4 p (Nat.le_refl _) h
    have := (h0 p h).2
    omega
  · omega
theorem ls_len {a b : Il} (h : ∀ n : Nat, inB a n = true → inB b n = true) : ∀ n, (ls b n).1 ≤ (ls a n).1
  | 0 => Nat.le_refl _
  | n + 1 => by
    have ih := ls_len h n
    have ea : ls a (n + 1) = bif !(inB a n) then ((ls a n).1 + 1, Val.cat (ls a n).1 (ls a n).2 (Val.ofFlat 1 [I n])) else ls a n := rfl
    have eb : ls b (n + 1) = bif !(inB b n) then ((ls b n).1 + 1, Val.cat (ls b n).1 (ls b n).2 (Val.ofFlat 1 [I n])) else ls b n := rfl
    rw [ea, eb]
    cases hb : inB b n
    · cases ha : inB a n
      · show (ls b n).1 + 1 ≤ (ls a n).1 + 1; omega
      · rw [h n ha] at hb; cases hb
    · cases inB a n
      · show (ls b n).1 ≤ (ls a n).1 + 1; omega
      · exact ih
theorem ls_first (l : Il) : ∀ n, 0 < (ls l n).1 → ∃ f : Nat, f < n ∧ vI (ls l n).2 0 = (f : Int) ∧ inB l f = false ∧ ∀ i, i < f → inB l (i : Nat) = true
  | 0, h => by
    have h : 0 < 0 := h
    omega
  | n + 1, h => by
    have e : ls l (n + 1) = bif !(inB l n) then ((ls l n).1 + 1, Val.cat (ls l n).1 (ls l n).2 (Val.ofFlat 1 [I n])) else ls l n := rfl
    rw [e] at h ⊢
    cases hb : inB l n
    · rw [hb] at h
      show ∃ f : Nat, f < n + 1 ∧ vI (Val.cat (ls l n).1 (ls l n).2 (Val.ofFlat 1 [I n])) 0 = (f : Int) ∧ _
      rw [vI_cat]
      by_cases h0 : 0 < (ls l n).1
      · obtain ⟨f, f1, f2, f3, f4⟩ := ls_first l n h0
        rw [if_pos h0]
        exact ⟨f, by omega, f2, f3, f4⟩
      · rw [if_neg h0]
        refine ⟨n, by omega, ?_, hb, fun i hi => ?_⟩
        · have : 0 - (ls l n).1 = 0 := by omega
          rw [this]; rfl
        · exact ls_none l n (by omega) i hi
    · rw [hb] at h
      obtain ⟨f, f1, f2, f3, f4⟩ := ls_first l n h
      exact ⟨f, by omega, f2, f3, f4⟩
 where
  ls_none (l : Il) : ∀ n, (ls l n).1 = 0 → ∀ i, i < n → inB l (i : Nat) = true
  | 0, _, i, hi => by omega
  | n + 1, h, i, hi => by
    have e : ls l (n + 1) = bif !(inB l n) then ((ls l n).1 + 1, Val.cat (ls l n).1 (ls l n).2 (Val.ofFlat 1 [I n])) else ls l n := rfl
    rw [e] at h
    cases hb : inB l n
    · rw [hb] at h
      have h : (ls l n).1 + 1 = 0 := h
      omega
    · rw [hb] at h
      by_cases hin : i = n
      · subst hin; exact hb
      · exact ls_none l n h i (by omega)
theorem first_le {a b : Il} {n : Nat} (h : ∀ n : Nat, inB a n = true → inB b n = true) (hb : 0 < (ls b n).1) : vI (ls a n).2 0 ≤ vI (ls b n).2 0 := by
  have := ls_len h n
  obtain ⟨f, _, f2, f3, f4⟩ := ls_first a n (by omega)
  obtain ⟨g, _, g2, g3, _⟩ := ls_first b n hb
  rw [f2, g2]
  apply Classical.byContradiction
  intro hh
  have := h g (f4 g (by omega))
  rw [g3] at this; cases this
end Hs
end Go.Proofs.YtennlgngdjegoaaGreat
namespace Go.Proofs.YtennlgngdjegoaaGreat
open Go Go.Sx Go.RowKit Classical
set_option maxRecDepth 100000
namespace Hs
theorem set_mono {a : Int} {l : Il} (hn : fewN l.n) (h : anyB (setB a l.ρ) l.n = false) : (∀ j, j < l.n → 0 ≤ vI l.ρ j ∧ vI l.ρ j < a) ∧ ∀ i j, i < j → j < l.n → vI l.ρ i < vI l.ρ j := by
  have hj : ∀ j, j < l.n → ¬ (setB a l.ρ j = true) := fun j hj hh => by
    have := anyB_iff.2 ⟨j, hj, hh⟩
    rw [h] at this; cases this
  have hb : ∀ j, j < l.n → (0 ≤ vI l.ρ j ∧ vI l.ρ j < a) ∧ ∀ k, j = k + 1 → vI l.ρ k < vI l.ρ j := fun j hjn => by
    have := hj j hjn
    unfold setB at this
    rw [Bool.or_eq_true, Bool.or_eq_true, Bool.and_eq_true, lt_iff, le_iff, lt_iff, le_iff] at this
    refine ⟨by omega, fun k hk => ?_⟩
    have e : (w64 ((j : Int) - 1)).toNat = k := by
      unfold fewN at hn
      unfold w64
      rw [w64_id (by omega) (by omega)]; omega
    rw [e] at this
    omega
  refine ⟨fun j hjn => (hb j hjn).1, fun i j => ?_⟩
  induction j with
  | zero => intro hij; omega
  | succ j ih =>
    intro hij hjn
    have h1 := (hb (j + 1) hjn).2 j rfl
    by_cases he : i = j
    · subst he; exact h1
    · have := ih (by omega) (by omega)
      omega
theorem inB_iff {l : Il} (n : Nat) : inB l n = true ↔ ∃ j, j < l.n ∧ vI l.ρ j = (n : Int) := by
  unfold inB
  rw [anyB_iff]
  constructor
  · rintro ⟨j, hj, hh⟩
    have hh : ((n : Int) == vI l.ρ j) = true := hh
    rw [beq_iff_eq] at hh
    exact ⟨j, hj, hh.symm⟩
  · rintro ⟨j, hj, hh⟩
    exact ⟨j, hj, by show ((n : Int) == vI l.ρ j) = true; rw [beq_iff_eq]; exact hh.symm⟩
theorem cut_set {h : Hi} {l : Il} (h0 : cutE h l = 0) : anyB (setB (toInt64 h.w.n) l.ρ) l.n = false := by
  have eS : anyB (Fi.bad (iC h l.n l.ρ)) l.n = anyB (setB (toInt64 h.w.n) l.ρ) l.n := rfl
  unfold cutE at h0
  cases a1 : hisE h != 0
  · rw [a1, eS] at h0
    cases a2 : anyB (setB (toInt64 h.w.n) l.ρ) l.n
    · rfl
    · rw [a2] at h0; cases h0
  · rw [a1] at h0
    have : hisE h = 0 := h0
    rw [this] at a1; cases a1
theorem cut_count {h : Hi} {l : Il} (hn : fewN l.n) (h0 : cutE h l = 0) : (ls l h.w.n).1 + l.n = h.w.n := by
  obtain ⟨b1, b2⟩ := set_mono hn (cut_set h0)
  exact ls_count b2 b1 inB_iff
end Hs
end Go.Proofs.YtennlgngdjegoaaGreat
namespace Go.Proofs.YtennlgngdjegoaaGreat
open Go Go.Sx Go.RowKit Classical
set_option maxRecDepth 100000
set_option maxHeartbeats 4000000
namespace Hs
open Fo (inSh scSh evSh pcH litK headK allB allB_ok lhsOf lhs_ok)
namespace Id
structure C where
  l : Il
  k : Il
  h : Hi
  p : Il
  q : Il
  m : Int
structure V where
  f : Bool
  i : Int
def S (c : C) (v : V) : St := mkS 38 [(1, .one (.c (.sl inSh c.k.n c.k.ρ))), (2, .one (.c (.ptr 0 0))), (4, .one (.c (.bool v.f))), (7, .one (.c (.sl inSh c.l.n c.l.ρ))), (8, .one (.c (I c.m))), (9, .one (.c (I v.i)))] [some (149, [.sl inSh c.h.s.n c.h.s.ρ, .sl wrSh c.h.w.n c.h.w.ρ, .sl evSh c.h.e.n c.h.e.ρ, .sl inSh c.p.n c.p.ρ, .sl inSh c.q.n c.q.ρ])]
def bad (c : C) (i : Nat) : Bool := setB (toInt64 c.h.w.n) c.l.ρ i
def TX (c : C) (v : V) : Tree (XE × V) := .br (lt v.i c.m) (.need (inRange v.i c.l.n) (.need (!(lt 0 v.i == true && ((lt (vI c.l.ρ v.i.toNat) 0 || le (toInt64 c.h.w.n) (vI c.l.ρ v.i.toNat)) == false && true)) || inRange (w64 (v.i - 1)) c.k.n) (.br ((lt (vI c.l.ρ v.i.toNat) 0 || le (toInt64 c.h.w.n) (vI c.l.ρ v.i.toNat)) || (lt 0 v.i && le (vI c.l.ρ v.i.toNat) (vI c.k.ρ (w64 (v.i - 1)).toNat))) (.leaf (.ret, ⟨false, v.i⟩)) (.leaf (.normal, ⟨v.f, w64 (v.i + 1)⟩))))) (.leaf (.exit 0, v))
theorem t (c : C) (v : V) : ((evCode Tryz.prog HI (evFn Tryz.prog HI 10) 84 0 1 (loopBody Tryz.prog 84 0) (S c v)).bind fun y => gcT [1, 2, 4, 7, 8, 9] 0 y) = (TX c v).bind fun y => .leaf (y.1, S c y.2) := by kernel_rfl
def st (_ : C) (i : Nat) : V := ⟨false, i⟩
def sb (_ : C) (i : Nat) : V := ⟨false, i⟩
def nn (c : C) : Nat := c.l.n
def good (c : C) : Prop := c.k = c.l ∧ c.m = toInt64 c.l.n ∧ fewN c.l.n
def μ (c : C) (v : V) : Nat := (c.l.n - v.i).toNat
theorem sq (c : C) (h : good c) : Sq (TX c) (μ c) (st c) (sb c) (nn c) (bad c) .ret (.exit 0) := by
  obtain ⟨hk, hm, h⟩ := h
  have hn' : c.l.n ≤ 4611686018427387904 := h
  refine sqF (sn := fun i => ⟨false, w64 ((i : Int) + 1)⟩) (by simp) (by simp) (fun i hi => by show ((c.l.n : Int) - (i : Int)).toNat = c.l.n - i; omega) (fun i hi => ?_) (fun i hi => by rw [wS h hi]; rfl) ?_
  · have hi : i < c.l.n := hi
    refine ⟨fun _ => ⟨inR hi, ?_, fun hb => ?_, fun hb => ?_⟩, fun h' => ?_⟩
    · show (_ || inRange (w64 ((i : Int) - 1)) c.k.n) = true
      rw [hk]
      cases h0 : lt 0 (i : Int)
      · have e : (!(lt 0 (i : Int) == true && ((lt (vI c.l.ρ i) 0 || le (toInt64 c.h.w.n) (vI c.l.ρ i)) == false && true))) = true := by rw [h0]; rfl
        show (!(lt 0 (i : Int) == true && ((lt (vI c.l.ρ i) 0 || le (toInt64 c.h.w.n) (vI c.l.ρ i)) == false && true)) || _) = true
        rw [e]; rfl
      · rw [lt_iff] at h0
        have e : w64 ((i : Int) - 1) = ((i - 1 : Nat) : Int) := by
          show IntKind.i64.wrap _ = _
          rw [w64_id (by omega) (by omega)]
          omega
        rw [e, inR (by omega), Bool.or_true]
    · have : bad c i = true := by rw [hk] at hb; exact hb
      rw [this]; rfl
    · have : bad c i = false := by rw [hk] at hb; exact hb
      rw [this]; rfl
    · have h' : lt (i : Int) c.m = false := h'
      rw [hm, ltT hi] at h'; cases h'
  · refine ⟨fun h' => ?_, fun _ => rfl⟩
    have h' : lt (c.l.n : Int) c.m = true := h'
    rw [hm, lt_iff] at h'
    have h' : (c.l.n : Int) < (c.l.n : Int) := h'
    omega
def get : List (Nat × AV) → Mem → Option (C × V)
  | [(1, .one (.c (.sl [.int .i64] c_k_n c_k_ρ))), (2, .one (.c (.ptr 0 0))), (4, .one (.c (.bool v_f))), (7, .one (.c (.sl [.int .i64] c_l_n c_l_ρ))), (8, .one (.c (.int .i64 c_m))), (9, .one (.c (.int .i64 v_i)))], [some (149, [.sl [.int .i64] c_h_s_n c_h_s_ρ, .sl [.int .i64, .int .i64, .sl [.int .u8, .int .u8, .int .u8, .int .u8, .int .u8, .int .u8, .int .u8, .int .u8]] c_h_w_n c_h_w_ρ, .sl [.int .i64, .int .i64] c_h_e_n c_h_e_ρ, .sl [.int .i64] c_p_n c_p_ρ, .sl [.int .i64] c_q_n c_q_ρ])] =>
    some (⟨⟨c_l_n, c_l_ρ⟩, ⟨c_k_n, c_k_ρ⟩, ⟨⟨c_h_s_n, c_h_s_ρ⟩, ⟨c_h_w_n, c_h_w_ρ⟩, ⟨c_h_e_n, c_h_e_ρ⟩⟩, ⟨c_p_n, c_p_ρ⟩, ⟨c_q_n, c_q_ρ⟩, c_m⟩, ⟨v_f, v_i⟩)
  | _, _ => none
noncomputable def L : Nat → St → Tree (XE × St) := lqH [1, 2, 4, 7, 8, 9] 0 38 get fun c v => lqT (S c) (good c ∧ v = st c 0) (anyB (bad c) (nn c)) .ret (.exit 0) (sb c (firstB (bad c) (nn c))) (st c (nn c))
theorem ok (fn : Func) (c b : Code) (hf : Tryz.prog.funcs[84]? = some fn) (hc : fn.body = some c) (hb : nthLoop c 0 = some b) : LoopOk Tryz.prog b L :=
  lq_ok hI 10 84 0 hf hc hb [1, 2, 4, 7, 8, 9] 0 38 S TX t get (fun l m c v h => by unfold get at h; split at h <;> simp at h; obtain ⟨rfl, rfl⟩ := h; rfl)
    good μ st sb nn bad .ret (.exit 0) sq (fun c => (sb c (firstB (bad c) (nn c)))) (fun c => (st c (nn c))) (fun _ _ _ => StWk.refl) (fun _ _ _ => StWk.refl)
end Id
noncomputable abbrev HLa : Hd := ⟨HI.pc, HI.hc, [((84, 0), Id.L)], []⟩
theorem hLa : HdOk Tryz.prog HLa := HdOk.lhCons hI Id.ok
noncomputable def Giset : List A1 → Option (Bool × AV)
  | [.agg [.sl [.int .i64] _ _, .sl [.int .i64, .int .i64, .sl [.int .u8, .int .u8, .int .u8, .int .u8, .int .u8, .int .u8, .int .u8, .int .u8]] m _, .sl [.int .i64, .int .i64] _ _, .sl [.int .i64] _ _, .sl [.int .i64] _ _], .c (.sl [.int .i64] k κ)] =>
    some (dec (fewN k), bo (!(anyB (setB (toInt64 m) κ) k)))
  | _ => none
theorem p84 : TcOne Tryz.prog 84 (nG Giset) := tcOne_of_tree hLa 10 84 fun args r h => by
  unfold Giset at h; split at h
  · rename_i n ρ m ω q ε a α b β k κ
    obtain ⟨hp, rfl⟩ := Prod.mk.inj (Option.some.inj h)
    have hp := dec_iff.1 hp
    refine ⟨rfl, .need (dec (Id.good ⟨⟨k, κ⟩, ⟨k, κ⟩, ⟨⟨n, ρ⟩, ⟨m, ω⟩, ⟨q, ε⟩⟩, ⟨a, α⟩, ⟨b, β⟩, toInt64 k⟩ ∧ (⟨false, 0⟩ : Id.V) = Id.st ⟨⟨k, κ⟩, ⟨k, κ⟩, ⟨⟨n, ρ⟩, ⟨m, ω⟩, ⟨q, ε⟩⟩, ⟨a, α⟩, ⟨b, β⟩, toInt64 k⟩ 0)) (.br (anyB (setB (toInt64 m) κ) k) (.leaf (bo false)) (.leaf (bo true))), by kernel_rfl,
      find_all (dec_iff.2 ⟨⟨rfl, rfl, hp⟩, rfl⟩) (fun h => by rw [h]; rfl) (fun h => by rw [h]; rfl)⟩
  · cases h
end Hs
end Go.Proofs.YtennlgngdjegoaaGreat
namespace Go.Sx
open Go Go.RowKit
variable {P : Program} {D : List Deferred}
def killL (mem : Mem) : List Nat → Mem
  | [] => mem
  | b :: r => killL (setN mem b none) r
def anyBut (keep : List Nat) : Nat → List CV → List CV
  | _, [] => []
  | j, c :: r => (if anyN j keep then c else .any) :: anyBut keep (j + 1) r
def anyLp (mem : Mem) (b : Nat) (keep : List Nat) : Mem :=
  match nth mem b with
  | some (some (T, .lp f i st :: cs)) => setN mem b (some (T, .lp f i st :: anyBut keep 0 cs))
  | _ => mem
theorem killL_ok {F w bs} : ∀ {l : List Nat} {mem : Mem}, MemRel P F w bs mem → MemRel P F w bs (killL mem l)
  | [], _, h => h
  | b :: r, _, h => killL_ok (l := r) (h.kill b)
theorem anyBut_length (keep : List Nat) : ∀ (l : List CV) (j : Nat), (anyBut keep j l).length = l.length
  | [], _ => rfl
  | _ :: r, j => by simp [anyBut, anyBut_length keep r (j + 1)]
theorem anyBut_nth (keep : List Nat) : ∀ (l : List CV) (j k : Nat) (c : CV), nth (anyBut keep j l) k = some c → isAny c = false → nth l k = some c
  | [], _, _, _, h, _ => by simp [anyBut, nth] at h
  | x :: r, j, 0, c, h, ha => by
    simp only [anyBut, nth, Option.some.injEq] at h ⊢
    split at h
    · exact h
    · subst h; simp [isAny] at ha
  | x :: r, j, k + 1, c, h, ha => by
    simp only [anyBut, nth] at h ⊢
    exact anyBut_nth keep r (j + 1) k c h ha
theorem anyLp_ok {F w bs mem} (hm : MemRel P F w bs mem) (b : Nat) (keep : List Nat) : MemRel P F w bs (anyLp mem b keep) := by
  unfold anyLp
  split
  · rename_i T f i st cs hb
    obtain ⟨x, hx⟩ : ∃ x, nth bs b = some x := by
      have hlt := nth_lt hb
      rw [← hm.len] at hlt
      exact ⟨bs[b], by rw [nth_eq]; exact List.getElem?_eq_getElem hlt⟩
    have hl : liveL x (.lp f i st :: cs) := liveL_lp
    have hF := hm.loc b x T _ hx hb hl
    have := (hm.kill b).put hx (T := T) (cs := .lp f i st :: anyBut keep 0 cs) killed_no (fun _ => hF) (fun _ => hm.rewrite_inj hx hb hl) (fun h => by simp [isRowL] at h) (fun fz es n ρ h => by simp at h) (fun f' i' st' cs' h => by
      simp only [List.cons.injEq, CV.lp.injEq] at h
      obtain ⟨⟨rfl, rfl, rfl⟩, rfl⟩ := h
      obtain ⟨R, h1, h2, h4, h5, h6⟩ := hm.lp b T f i st cs x hb hx
      exact ⟨R, h1, h2, h4, by rw [anyBut_length]; exact h5, fun j c v hc hv ha => h6 j c v (anyBut_nth keep cs 0 j c hc ha) hv ha⟩)
    rwa [setN_setN] at this
  · exact hm
theorem anyBut_rel {F w bs} (keep : List Nat) : ∀ {l : List CV} {vs : List Value} (j : Nat), All2 (CV.Rel F w bs) l vs → All2 (CV.Rel F w bs) (anyBut keep j l) vs
  | _, _, _, .nil => .nil
  | _, _, j, .cons h r => by
    refine .cons ?_ (anyBut_rel keep (j + 1) r)
    split
    · exact h
    · exact .any h.one
def anyBk (mem : Mem) (b : Nat) (keep : List Nat) : Mem :=
  match nth mem b with
  | some (some (T, cs)) => if isRowL cs then anyLp mem b keep else setN mem b (some (T, anyBut keep 0 cs))
  | _ => mem
theorem anyBk_ok {F w bs mem} (hm : MemRel P F w bs mem) (b : Nat) (keep : List Nat) : MemRel P F w bs (anyBk mem b keep) := by
  unfold anyBk
  split
  · rename_i T cs hb
    split
    · exact anyLp_ok hm b keep
    · rename_i hrow
      have hrow : isRowL cs = false := by simpa using hrow
      obtain ⟨x, hx⟩ : ∃ x, nth bs b = some x := by
        have hlt := nth_lt hb
        rw [← hm.len] at hlt
        exact ⟨bs[b], by rw [nth_eq]; exact List.getElem?_eq_getElem hlt⟩
      obtain ⟨vs, hv, hr⟩ := hm.cont b T cs x hb hrow hx
      have hr' := anyBut_rel keep 0 hr
      have hrow' := hr'.noRow
      have hF := hm.loc b x T _ hx hb (liveL_of hrow)
      have := (hm.kill b).put hx (T := T) (cs := anyBut keep 0 cs) killed_no (fun _ => hF) (fun _ => hm.rewrite_inj hx hb (liveL_of hrow)) (fun _ => ⟨vs, hv, hr'⟩) (fun fz es n ρ h => by rw [h] at hrow'; simp [isRowL] at hrow') (fun f' i' st' cs' h => by rw [h] at hrow'; simp [isRowL] at hrow')
      rwa [setN_setN] at this
  · exact hm
def anyAll (mem : Mem) : List (Nat × List Nat) → Mem
  | [] => mem
  | p :: r => anyAll (anyBk mem p.1 p.2) r
theorem anyAll_ok {F w bs} : ∀ {l : List (Nat × List Nat)} {mem : Mem}, MemRel P F w bs mem → MemRel P F w bs (anyAll mem l)
  | [], _, h => h
  | p :: r, _, h => anyAll_ok (l := r) (anyBk_ok h p.1 p.2)
def dropH (l : List Nat) (q : List (Nat × List Nat)) (h : Nat → St → Tree (XE × St)) (K : Nat) (s : St) : Tree (XE × St) := h K { s with mem := anyAll (killL s.mem l) q }
theorem dropH_ok {c : Code} {h : Nat → St → Tree (XE × St)} (l : List Nat) (q : List (Nat × List Nat)) (hh : LoopOk P c h) : LoopOk P c (dropH l q h) := by
  intro K s x hx lr nn D F w bs a hK hs Q hQ
  exact hh K _ x hx lr nn D F w bs a hK ⟨hs.defers, hs.len, hs.slots, anyAll_ok (killL_ok hs.mem)⟩ Q hQ
def orH (a b : Nat → St → Tree (XE × St)) (K : Nat) (s : St) : Tree (XE × St) :=
  match a K s with
  | .fail => b K s
  | t => t
theorem orH_ok {c : Code} {a b : Nat → St → Tree (XE × St)} (ha : LoopOk P c a) (hb : LoopOk P c b) : LoopOk P c (orH a b) := by
  intro K s x hx
  unfold orH at hx
  split at hx
  · exact hb K s x hx
  · exact ha K s x hx
def allAny : List CV → Nat → Bool
  | [], 0 => true
  | .any :: r, n + 1 => allAny r n
  | _, _ => false
def anyN' : Nat → List CV
  | 0 => []
  | n + 1 => .any :: anyN' n
theorem allAny_ok : ∀ {l : List CV} {n : Nat}, allAny l n = true → l = anyN' n
  | [], 0, _ => rfl
  | [], n + 1, h => by simp [allAny] at h
  | x :: r, 0, h => by cases x <;> simp [allAny] at h
  | x :: r, n + 1, h => by
    cases x <;> first | (simp [allAny] at h; done) | (have := allAny_ok (l := r) (n := n) h; subst this; rfl)
theorem bif_some {α : Type} {b : Bool} {x y : α} (h : (bif b then some x else none) = some y) : b = true ∧ x = y := by
  cases b
  · cases h
  · exact ⟨rfl, by simpa using h⟩
end Go.Sx
namespace Go.Proofs.YtennlgngdjegoaaGreat
open Go Go.Sx Go.RowKit Classical
set_option maxRecDepth 100000
set_option maxHeartbeats 4000000
namespace Hs
open Fo (inSh scSh evSh pcH litK headK allB allB_ok lhsOf lhs_ok)
noncomputable abbrev HM : Hd := ⟨(84, nG Giset) :: H3.pc, (83, nG Gck) :: (89, nG Gapp) :: H3.hc, [], []⟩
theorem hM : HdOk Tryz.prog HM := ((h3.ucCons u89).ucCons u83).tcCons p84
def selC (ω : Val) (x : Nat) : List CV := [I (vI ω x), I (vJ ω x), .sl scSh (vL ω 2 x) ((ω.at x).at 2)]
def selW (ω : Val) (κ : Val) : Nat → Val
  | 0 => .zero
  | i + 1 => Val.cat i (selW ω κ i) (Val.ofFlat 3 (selC ω (vI κ i).toNat))
namespace Ie
structure C where
  d : Il
  i8 : Il
  l : Il
  m : Int
structure V where
  k : Nat
  σ : Val
  i : Int
def S (c : C) (v : V) : St := mkS 23 [(0, .one (.c (.yld 5))), (1, .one (.c (.ptr 4 0))), (2, .one (.c (.ptr 3 0))), (6, .one (.c (.sl inSh c.l.n c.l.ρ))), (7, .one (.c (I c.m))), (8, .one (.c (I v.i)))] [none, none, some (50, [.os 6 3]), some (149, [.any, .sl wrSh c.d.n c.d.ρ, .any, .any, .any]), some (49, [.any]), some (0, .lp 36 0 LpS.ready :: .any :: .any :: .any :: .any :: .any :: .any :: .any :: .any :: .sl imSh c.i8.n c.i8.ρ :: .any :: .ptr 2 0 :: anyN' 40), some (96, [.row false wrSh v.k v.σ])]
def TX (c : C) (v : V) : Tree (XE × V) := .br (lt v.i c.m) (.need (inRange v.i c.l.n) (.need (inRange (vI c.l.ρ v.i.toNat) c.d.n) (.need (Nat.ble (((v.k + 1).mul 39).add v.k) 140737488355327) (.br false (.leaf (.ret, ⟨v.k + 1, Val.cat v.k v.σ (Val.ofFlat 3 (selC c.d.ρ (vI c.l.ρ v.i.toNat).toNat)), v.i⟩)) (.leaf (.normal, ⟨v.k + 1, Val.cat v.k v.σ (Val.ofFlat 3 (selC c.d.ρ (vI c.l.ρ v.i.toNat).toNat)), w64 (v.i + 1)⟩)))))) (.leaf (.exit 0, v))
theorem t (c : C) (v : V) : ((evCode Tryz.prog HM (evFn Tryz.prog HM 10) 129 6 1 (loopBody Tryz.prog 129 0) (S c v)).bind fun y => gcT [0, 1, 2, 6, 7, 8] 6 y) = (TX c v).bind fun y => .leaf (y.1, S c y.2) := by kernel_rfl
def st (c : C) (i : Nat) : V := ⟨i, selW c.d.ρ c.l.ρ i, i⟩
def nn (c : C) : Nat := c.l.n
def good (c : C) : Prop := c.m = toInt64 c.l.n ∧ c.l.n ≤ 1000 ∧ ∀ i, i < c.l.n → inRange (vI c.l.ρ i) c.d.n = true
def μ (c : C) (v : V) : Nat := (c.l.n - v.i).toNat
theorem sq (c : C) (h : good c) : Sq (TX c) (μ c) (st c) (st c) (nn c) (fun _ => false) .ret (.exit 0) := by
  obtain ⟨hm, h, hr⟩ := h
  refine sqF (sn := fun i => { st c (i + 1) with i := w64 ((i : Int) + 1) }) (by simp) (by simp) (fun i hi => by show ((c.l.n : Int) - (i : Int)).toNat = c.l.n - i; omega) (fun i hi => ?_) (fun i hi => by rw [wS (n := c.l.n) (by unfold fewN; omega) hi]; rfl) ?_
  · have hi : i < c.l.n := hi
    refine ⟨fun _ => ⟨inR hi, hr i hi, Nat.ble_eq_true_of_le (by show ((i + 1) * 39 + i) ≤ _; omega), fun h => (by cases h), fun _ => rfl⟩, fun h' => ?_⟩
    have h' : lt (i : Int) c.m = false := h'
    rw [hm, ltT hi] at h'; cases h'
  · refine ⟨fun h' => ?_, fun _ => rfl⟩
    have h' : lt (c.l.n : Int) c.m = true := h'
    rw [hm, lt_iff] at h'
    have h' : (c.l.n : Int) < (c.l.n : Int) := h'
    omega
def get : List (Nat × AV) → Mem → Option (C × V)
  | [(0, .one (.c (.yld 5))), (1, .one (.c (.ptr 4 0))), (2, .one (.c (.ptr 3 0))), (6, .one (.c (.sl [.int .i64] c_l_n c_l_ρ))), (7, .one (.c (.int .i64 c_m))), (8, .one (.c (.int .i64 v_i)))], [none, none, some (50, [.os 6 3]), some (149, [.any, .sl [.int .i64, .int .i64, .sl [.int .u8, .int .u8, .int .u8, .int .u8, .int .u8, .int .u8, .int .u8, .int .u8]] c_d_n c_d_ρ, .any, .any, .any]), some (49, [.any]), some (0, .lp 36 0 LpS.ready :: .any :: .any :: .any :: .any :: .any :: .any :: .any :: .any :: .sl [.sl [.int .u8, .int .u8, .int .u8, .int .u8, .int .u8, .int .u8, .int .u8, .int .u8]] c_i8_n c_i8_ρ :: .any :: .ptr 2 0 :: t_5), some (96, [.row false [.int .i64, .int .i64, .sl [.int .u8, .int .u8, .int .u8, .int .u8, .int .u8, .int .u8, .int .u8, .int .u8]] v_k v_σ])] =>
    bif allAny t_5 40 then some (⟨⟨c_d_n, c_d_ρ⟩, ⟨c_i8_n, c_i8_ρ⟩, ⟨c_l_n, c_l_ρ⟩, c_m⟩, ⟨v_k, v_σ, v_i⟩) else none
  | _, _ => none
theorem get_ok {l : List (Nat × AV)} {m : Mem} {c : C} {v : V} (h : get l m = some (c, v)) : mkS 23 l m = S c v := by
  unfold get at h
  split at h
  · obtain ⟨ha, h⟩ := bif_some h
    have := allAny_ok ha
    subst this
    cases h
    rfl
  · cases h
noncomputable def L : Nat → St → Tree (XE × St) := dropH [0, 1] [(3, [1]), (4, []), (5, [8, 10])] (ownH [.ownM 2 0 96 wrSh] (lqH [0, 1, 2, 6, 7, 8] 6 23 get fun c v => lq1 (S c) (good c ∧ v = st c 0) (.exit 0) (st c (nn c))))
theorem ok (fn : Func) (c b : Code) (hf : Tryz.prog.funcs[129]? = some fn) (hc : fn.body = some c) (hb : nthLoop c 0 = some b) : LoopOk Tryz.prog b L :=
  dropH_ok [0, 1] [(3, [1]), (4, []), (5, [8, 10])] (ownH_ok [.ownM 2 0 96 wrSh] (lq1_ok hM 10 129 0 hf hc hb [0, 1, 2, 6, 7, 8] 6 23 S TX t get (fun _ _ _ _ h => get_ok h)
    good μ st nn (.exit 0) sq (fun c => (st c (nn c))) (fun _ _ => StWk.refl)))
end Ie
noncomputable abbrev HN36 : Hd := ⟨HM.pc, HM.hc, [((129, 0), Ie.L)], []⟩
theorem hN36 : HdOk Tryz.prog HN36 := HdOk.lhCons hM Ie.ok
theorem selW_at (ω κ : Val) : ∀ n j, j < n → (selW ω κ n).at j = (Val.ofFlat 3 (selC ω (vI κ j).toNat)).at 0
  | 0, j, h => by omega
  | n + 1, j, h => by
    show (Val.cat n (selW ω κ n) (Val.ofFlat 3 (selC ω (vI κ n).toNat))).at j = _
    rw [cat_at]
    by_cases hj : j < n
    · rw [if_pos hj]; exact selW_at ω κ n j hj
    · have : j = n := by omega
      subst this
      rw [if_neg hj, Nat.sub_self]
section
variable {ω κ : Val} {n j : Nat} (h : j < n)
include h
theorem sel_I : vI (selW ω κ n) j = vI ω (vI κ j).toNat := by
  show (((selW ω κ n).at j).at 0).N [] = _
  rw [selW_at ω κ n j h]; rfl
theorem sel_J : vJ (selW ω κ n) j = vJ ω (vI κ j).toNat := by
  show (((selW ω κ n).at j).at 1).N [] = _
  rw [selW_at ω κ n j h]; rfl
theorem sel_L : vL (selW ω κ n) 2 j = vL ω 2 (vI κ j).toNat := by
  show (((selW ω κ n).at j).at 2).L [] = _
  rw [selW_at ω κ n j h]; rfl
theorem sel_D : ((selW ω κ n).at j).at 2 = Val.ofC (.sl scSh (vL ω 2 (vI κ j).toNat) ((ω.at (vI κ j).toNat).at 2)) := by
  rw [selW_at ω κ n j h]; rfl
end
theorem his0 {h : Hi} (h0 : hisE h = 0) : szE h.s = 0 ∧ (∀ i, i < h.w.n → wE h i = 0) ∧ (∀ i, i < h.e.n → eE h i = 0) ∧ (h.w.n : Int) ≤ ((evS h.e.ρ h.e.n).k : Nat) := by
  unfold hisE at h0
  cases a1 : szE h.s != 0
  · rw [a1] at h0
    cases a2 : lt 4096 (toInt64 h.w.n)
    · rw [a2] at h0
      cases a3 : anyB (wB h) h.w.n
      · rw [a3] at h0
        cases a4 : anyB (eB h) h.e.n
        · rw [a4] at h0
          cases a5 : lt (toInt64 (evS h.e.ρ h.e.n).k) (toInt64 h.w.n)
          · rw [← Bool.not_eq_true, lt_iff] at a5
            have a5 : ¬ (((evS h.e.ρ h.e.n).k : Nat) : Int) < (h.w.n : Int) := a5
            refine ⟨by simpa [bne] using a1, fun i hi => ?_, fun i hi => ?_, by omega⟩
            · cases hb : wB h i
              · simpa [wB, bne] using hb
              · rw [anyB_iff.2 ⟨i, hi, hb⟩] at a3; cases a3
            · cases hb : eB h i
              · simpa [eB, bne] using hb
              · rw [anyB_iff.2 ⟨i, hi, hb⟩] at a4; cases a4
          · rw [a5] at h0; cases h0
        · rw [a4] at h0
          have := first_ne (f := eE h) a4
          exact (this h0).elim
      · rw [a3] at h0
        have := first_ne (f := wE h) a3
        exact (this h0).elim
    · rw [a2] at h0; cases h0
  · rw [a1] at h0
    have : szE h.s = 0 := h0
    rw [this] at a1; cases a1
structure ImOk (h : Hi) (k : Nat) (κ : Val) : Prop where
  few : fewH h
  his : hisE h = 0
  k1 : k ≤ 1000
  set : anyB (setB (toInt64 h.w.n) κ) k = false
  dat : datOk h
section
variable {h : Hi} {k : Nat} {κ : Val} (ho : ImOk h k κ)
include ho
theorem im_in : ∀ j, j < k → 0 ≤ vI κ j ∧ vI κ j < (h.w.n : Int) := (set_mono (l := ⟨k, κ⟩) (by show fewN k; have := ho.k1; unfold fewN; omega) ho.set).1
theorem im_app : AppOk h.s.n (Fc.im h.s.ρ h.s.n) k (selW h.w.ρ κ k) := by
  obtain ⟨h1, h2, _, _⟩ := his0 ho.his
  obtain ⟨a, b, c⟩ := szE_few (n := h.s.n) (ρ := h.s.ρ) h1
  refine ⟨a, b, ho.k1, fun j hj => ?_, fun i hi => ?_, fun i hi => ?_⟩
  · have e := im_len hj (c j hj)
    have e : ((vL (Fc.im h.s.ρ h.s.n) 0 j : Nat) : Int) = vI h.s.ρ j := e
    have hb := c j hj
    unfold bsz at hb
    rw [Bool.or_eq_false_iff, ← Bool.not_eq_true, ← Bool.not_eq_true, lt_iff, lt_iff] at hb
    omega
  · obtain ⟨x0, x1⟩ := im_in ho i hi
    rw [sel_L hi]
    exact ho.dat _ (by omega)
  · obtain ⟨x0, x1⟩ := im_in ho i hi
    rw [sel_I hi, sel_J hi, sel_L hi]
    have := h2 (vI κ i).toNat (by omega)
    rw [← this]
    exact fit_congr (fun j hj => im_len hj (c j hj)) _ _ _
end
noncomputable def imC (h : Hi) (k : Nat) (κ : Val) : Ie.C := ⟨⟨okN (hisE h) h.w.n, h.w.ρ⟩, ⟨newN h.s, Fc.im h.s.ρ h.s.n⟩, ⟨k, κ⟩, toInt64 k⟩
noncomputable def imP (h : Hi) (k : Nat) (κ : Val) : List (Bool × Bool) :=
  [(dec (fewH h), true), (hisE h != 0, false), (dec (fewN k), true), (!(!(anyB (setB (toInt64 (okN (hisE h) h.w.n)) κ) k)), false), (dec (fewN h.s.n), true),
   (dec (Ie.good (imC h k κ) ∧ (⟨0, .zero, 0⟩ : Ie.V) = Ie.st (imC h k κ) 0), true), (dec (AppOk (newN h.s) (Fc.im h.s.ρ h.s.n) k (selW h.w.ρ κ k)), true)]
theorem path36 (h : Hi) (k : Nat) (κ : Val) : (hcTree Tryz.prog HN36 10 36 [.agg [.sl inSh h.s.n h.s.ρ, .sl wrSh h.w.n h.w.ρ, .sl evSh h.e.n h.e.ρ], .c (.sl inSh k κ)]).follow [false, false] =
    some (imP h k κ, .tup [.c (.sl imSh (newN h.s) (apV (newN h.s) (Fc.im h.s.ρ h.s.n) k (selW h.w.ρ κ k))), .c (I 0)]) := by kernel_rfl
noncomputable def Gimg : List A1 → Option (Bool × AV)
  | [.agg [.sl [.int .i64] n ρ, .sl [.int .i64, .int .i64, .sl [.int .u8, .int .u8, .int .u8, .int .u8, .int .u8, .int .u8, .int .u8, .int .u8]] m ω, .sl [.int .i64, .int .i64] q ε], .c (.sl [.int .i64] k κ)] => some (dec (ImOk ⟨⟨n, ρ⟩, ⟨m, ω⟩, ⟨q, ε⟩⟩ k κ), .tup [.c (.sl imSh n (apV n (Fc.im ρ n) k (selW ω κ k))), .c (I 0)])
  | _ => none
theorem u36 : UcOne Tryz.prog 36 (nG Gimg) := ucOne_of_follow hN36 10 36 fun args r hr => by
  unfold Gimg at hr; split at hr
  · rename_i n ρ m ω q ε k κ
    obtain ⟨hp, rfl⟩ := Prod.mk.inj (Option.some.inj hr)
    have ho := dec_iff.1 hp
    obtain ⟨h, hh⟩ : ∃ h : Hi, (⟨⟨n, ρ⟩, ⟨m, ω⟩, ⟨q, ε⟩⟩ : Hi) = h := ⟨_, rfl⟩
    refine ⟨_, _, _, path36 ⟨⟨n, ρ⟩, ⟨m, ω⟩, ⟨q, ε⟩⟩ k κ, ?_, ?_⟩
    · rw [hh] at ho ⊢
      obtain ⟨h1, h2, _, _⟩ := his0 ho.his
      obtain ⟨a, b, c⟩ := szE_few (n := h.s.n) (ρ := h.s.ρ) h1
      have hn : newN h.s = h.s.n := by unfold newN; rw [h1]; rfl
      have hw : okN (hisE h) h.w.n = h.w.n := by unfold okN; rw [ho.his]; rfl
      have hk := ho.k1
      have e1 : dec (fewH h) = true := dec_iff.2 ho.few
      have e2 : (hisE h != 0) = false := by rw [ho.his]; rfl
      have e3 : dec (fewN k) = true := dec_iff.2 (by unfold fewN; omega)
      have e5 : dec (fewN h.s.n) = true := dec_iff.2 (by unfold fewN; omega)
      have e6 : dec (Ie.good (imC h k κ) ∧ (⟨0, .zero, 0⟩ : Ie.V) = Ie.st (imC h k κ) 0) = true := dec_iff.2 ⟨⟨rfl, hk, fun i hi => by
        obtain ⟨x0, x1⟩ := im_in ho i hi
        show inRange (vI κ i) (okN (hisE h) h.w.n) = true
        rw [hw]
        unfold inRange
        rw [Bool.and_eq_true, le_iff, lt_iff]
        exact ⟨x0, x1⟩⟩, rfl⟩
      have e7 : dec (AppOk (newN h.s) (Fc.im h.s.ρ h.s.n) k (selW h.w.ρ κ k)) = true := dec_iff.2 (by rw [hn]; exact im_app ho)
      unfold imP
      rw [e1, e2, e3, e5, e6, e7, hw, ho.set]
      rfl
    · have hn : newN ⟨n, ρ⟩ = n := by
        obtain ⟨h1, _⟩ := his0 ho.his
        have h1 : szE ⟨n, ρ⟩ = 0 := h1
        unfold newN; rw [h1]; rfl
      show leA (.tup [.c (.sl imSh (newN ⟨n, ρ⟩) (apV (newN ⟨n, ρ⟩) (Fc.im ρ n) k (selW ω κ k))), .c (I 0)]) _
      rw [hn]
      exact leA.refl
  · cases hr
end Hs
end Go.Proofs.YtennlgngdjegoaaGreat
namespace Go.Proofs.YtennlgngdjegoaaGreat
open Go Go.Sx Go.RowKit Classical
set_option maxRecDepth 100000
set_option maxHeartbeats 4000000
namespace Hs
open Fo (inSh scSh evSh pcH litK headK allB allB_ok lhsOf lhs_ok)
noncomputable def Gtb : List A1 → Option (Bool × AV)
  | [.agg [.sl [.int .i64] n ρ, .sl [.int .i64] m σ], .c (.int .i64 a), .c (.int .i64 b)] => some (dec (inRange a m = true ∧ inRange b n = true), bo (le 0 (vI σ a.toNat) && lt (vI σ a.toNat) (vI ρ b.toNat)))
  | _ => none
theorem p128 : TcOne Tryz.prog 128 (nG Gtb) := tcOne_of_tree hI 10 128 fun args r h => by
  unfold Gtb at h; split at h
  · rename_i n ρ m σ a b
    obtain ⟨hp, rfl⟩ := Prod.mk.inj (Option.some.inj h)
    obtain ⟨h1, h2⟩ := dec_iff.1 hp
    refine ⟨rfl, .need (inRange a m) (.need (!(le 0 (vI σ a.toNat) == true && true) || inRange a m) (.need (!(le 0 (vI σ a.toNat) == true && true) || inRange b n) (.leaf (bo (le 0 (vI σ a.toNat) && lt (vI σ a.toNat) (vI ρ b.toNat)))))), by kernel_rfl, h1, by rw [h1, Bool.or_true], by rw [h2, Bool.or_true], rfl⟩
  · cases h
noncomputable abbrev HO : Hd := ⟨(128, nG Gtb) :: HI.pc, HI.hc, [], []⟩
theorem hO : HdOk Tryz.prog HO := hI.tcCons p128
namespace If
structure C where
  h : Hi
  p : Il
  q : Il
  d : Il
  s : Il
  B : Nat
  z0 : Val
  l : Il
  m : Int
structure V where
  z : Val
  i : Int
def S (c : C) (v : V) : St := mkS 23 [(0, .one (.c (.yld 6))), (1, .one (.c (.ptr 5 0))), (2, .one (.c (.ptr 4 0))), (6, .one (.c (.sl inSh c.l.n c.l.ρ))), (7, .one (.c (I c.m))), (8, .one (.c (I v.i)))] [some (149, [.sl inSh c.h.s.n c.h.s.ρ, .sl wrSh c.h.w.n c.h.w.ρ, .sl evSh c.h.e.n c.h.e.ρ, .sl inSh c.p.n c.p.ρ, .sl inSh c.q.n c.q.ρ]), some (4, [.bool false]), some (4, [.row false boSh c.B v.z]), some (23, [.os 2 1]), some (149, [.any, .sl wrSh c.d.n c.d.ρ, .any, .any, .any]), some (49, [.any]), some (0, .lp 85 0 LpS.ready :: .any :: .sl inSh c.s.n c.s.ρ :: .ptr 0 0 :: .any :: .ptr 1 0 :: .ptr 3 0 :: anyN' 41)]
def x (c : C) (v : V) : Int := vI c.l.ρ v.i.toNat
def TX (c : C) (v : V) : Tree (XE × V) := .br (lt v.i c.m) (.need (inRange v.i c.l.n) (.need (inRange (x c v) c.d.n) (.need (inRange (x c v) c.B) (.br false (.leaf (.ret, ⟨v.z.upds (x c v).toNat 0 [.bool true], v.i⟩)) (.leaf (.normal, ⟨v.z.upds (x c v).toNat 0 [.bool true], w64 (v.i + 1)⟩)))))) (.leaf (.exit 0, v))
theorem t (c : C) (v : V) : ((evCode Tryz.prog HI (evFn Tryz.prog HI 10) 129 7 1 (loopBody Tryz.prog 129 0) (S c v)).bind fun y => gcT [0, 1, 2, 6, 7, 8] 7 y) = (TX c v).bind fun y => .leaf (y.1, S c y.2) := by kernel_rfl
def st (c : C) (i : Nat) : V := ⟨mkS' c.l.ρ c.z0 i, i⟩
def nn (c : C) : Nat := c.l.n
def good (c : C) : Prop := c.m = toInt64 c.l.n ∧ c.l.n ≤ 1000 ∧ ∀ i, i < c.l.n → inRange (vI c.l.ρ i) c.d.n = true ∧ inRange (vI c.l.ρ i) c.B = true
def μ (c : C) (v : V) : Nat := (c.l.n - v.i).toNat
theorem sq (c : C) (h : good c) : Sq (TX c) (μ c) (st c) (st c) (nn c) (fun _ => false) .ret (.exit 0) := by
  obtain ⟨hm, h, hr⟩ := h
  refine sqF (sn := fun i => { st c (i + 1) with i := w64 ((i : Int) + 1) }) (by simp) (by simp) (fun i hi => by show ((c.l.n : Int) - (i : Int)).toNat = c.l.n - i; omega) (fun i hi => ?_) (fun i hi => by rw [wS (n := c.l.n) (by unfold fewN; omega) hi]; rfl) ?_
  · have hi : i < c.l.n := hi
    refine ⟨fun _ => ⟨inR hi, (hr i hi).1, (hr i hi).2, fun h => (by cases h), fun _ => rfl⟩, fun h' => ?_⟩
    have h' : lt (i : Int) c.m = false := h'
    rw [hm, ltT hi] at h'; cases h'
  · refine ⟨fun h' => ?_, fun _ => rfl⟩
    have h' : lt (c.l.n : Int) c.m = true := h'
    rw [hm, lt_iff] at h'
    have h' : (c.l.n : Int) < (c.l.n : Int) := h'
    omega
def get : List (Nat × AV) → Mem → Option (C × V)
  | [(0, .one (.c (.yld 6))), (1, .one (.c (.ptr 5 0))), (2, .one (.c (.ptr 4 0))), (6, .one (.c (.sl [.int .i64] c_l_n c_l_ρ))), (7, .one (.c (.int .i64 c_m))), (8, .one (.c (.int .i64 v_i)))], [some (149, [.sl [.int .i64] c_h_s_n c_h_s_ρ, .sl [.int .i64, .int .i64, .sl [.int .u8, .int .u8, .int .u8, .int .u8, .int .u8, .int .u8, .int .u8, .int .u8]] c_h_w_n c_h_w_ρ, .sl [.int .i64, .int .i64] c_h_e_n c_h_e_ρ, .sl [.int .i64] c_p_n c_p_ρ, .sl [.int .i64] c_q_n c_q_ρ]), some (4, [.bool false]), some (4, [.row false [.bool] c_B v_z]), some (23, [.os 2 1]), some (149, [.any, .sl [.int .i64, .int .i64, .sl [.int .u8, .int .u8, .int .u8, .int .u8, .int .u8, .int .u8, .int .u8, .int .u8]] c_d_n c_d_ρ, .any, .any, .any]), some (49, [.any]), some (0, .lp 85 0 LpS.ready :: .any :: .sl [.int .i64] c_s_n c_s_ρ :: .ptr 0 0 :: .any :: .ptr 1 0 :: .ptr 3 0 :: t_6)] =>
    bif allAny t_6 41 then some (⟨⟨⟨c_h_s_n, c_h_s_ρ⟩, ⟨c_h_w_n, c_h_w_ρ⟩, ⟨c_h_e_n, c_h_e_ρ⟩⟩, ⟨c_p_n, c_p_ρ⟩, ⟨c_q_n, c_q_ρ⟩, ⟨c_d_n, c_d_ρ⟩, ⟨c_s_n, c_s_ρ⟩, c_B, v_z, ⟨c_l_n, c_l_ρ⟩, c_m⟩, ⟨v_z, v_i⟩) else none
  | _, _ => none
theorem get_ok {l : List (Nat × AV)} {m : Mem} {c : C} {v : V} (h : get l m = some (c, v)) : mkS 23 l m = S c v := by
  unfold get at h
  split at h
  · obtain ⟨ha, h⟩ := bif_some h
    have := allAny_ok ha
    subst this
    cases h
    rfl
  · cases h
noncomputable def L : Nat → St → Tree (XE × St) := dropH [] [(4, [1]), (5, []), (6, [1, 2, 4, 5])] (lqH [0, 1, 2, 6, 7, 8] 7 23 get fun c v => lq1 (S c) (good c ∧ v = st c 0) (.exit 0) (st c (nn c)))
theorem ok (fn : Func) (c b : Code) (hf : Tryz.prog.funcs[129]? = some fn) (hc : fn.body = some c) (hb : nthLoop c 0 = some b) : LoopOk Tryz.prog b L :=
  dropH_ok [] [(4, [1]), (5, []), (6, [1, 2, 4, 5])] (lq1_ok hI 10 129 0 hf hc hb [0, 1, 2, 6, 7, 8] 7 23 S TX t get (fun _ _ _ _ h => get_ok h)
    good μ st nn (.exit 0) sq (fun c => (st c (nn c))) (fun _ _ => StWk.refl))
end If
end Hs
end Go.Proofs.YtennlgngdjegoaaGreat
namespace Go.Proofs.YtennlgngdjegoaaGreat
open Go Go.Sx Go.RowKit Classical
set_option maxRecDepth 100000
set_option maxHeartbeats 4000000
namespace Hs
open Fo (inSh scSh evSh pcH litK headK allB allB_ok lhsOf lhs_ok)
namespace Ih
structure C where
  w : Il
  p : Il
  q : Il
  B : Nat
  z : Val
  d : Il
  b : Int
  m : Int
  r0 : Bool
structure V where
  a : Int
  r : Bool
def S (c : C) (v : V) : St := mkS 47 [(2, .one (.c (.ptr 0 0))), (4, .one (.c (.ptr 1 0))), (5, .one (.c (.ptr 3 0))), (7, .one (.c (I c.b))), (30, .one (.c (I c.m))), (31, .one (.c (I v.a)))] [some (149, [.any, .sl wrSh c.w.n c.w.ρ, .any, .sl inSh c.p.n c.p.ρ, .sl inSh c.q.n c.q.ρ]), some (4, [.bool v.r]), some (4, [.row false boSh c.B c.z]), some (23, [.os 2 1]), none, none, none, some (149, [.any, .sl wrSh c.d.n c.d.ρ, .any, .any, .any]), some (49, [.any]), some (0, .lp 85 1 LpS.busy :: .any :: .any :: .ptr 0 0 :: .any :: .ptr 1 0 :: .ptr 3 0 :: anyN' 41)]
def bad (c : C) (i : Nat) : Bool := !(vB c.z i) && (le 0 (vI c.q.ρ i) && lt (vI c.q.ρ i) (vI c.p.ρ c.b.toNat))
noncomputable def TX (c : C) (v : V) : Tree (XE × V) := .br (lt v.a c.m) (.need (inRange v.a c.B) (.need (!((!(vB c.z v.a.toNat)) == true && true) || dec (inRange v.a c.q.n = true ∧ inRange c.b c.p.n = true)) (.br (bad c v.a.toNat) (.leaf (.ret, ⟨v.a, false⟩)) (.leaf (.normal, ⟨w64 (v.a + 1), v.r⟩))))) (.leaf (.exit 4, v))
theorem t (c : C) (v : V) : ((evCode Tryz.prog HO (evFn Tryz.prog HO 10) 85 10 1 (loopBody Tryz.prog 85 0) (S c v)).bind fun y => gcT [2, 4, 5, 7, 30, 31] 10 y) = (TX c v).bind fun y => .leaf (y.1, S c y.2) := by kernel_rfl
def st (c : C) (i : Nat) : V := ⟨i, c.r0⟩
def nn (c : C) : Nat := c.m.toNat
structure good (c : C) : Prop where
  m0 : 0 ≤ c.m
  m1 : c.m ≤ 1000
  B : c.m.toNat ≤ c.B
  q : c.m.toNat ≤ c.q.n
  b : inRange c.b c.p.n = true
  no : anyB (bad c) c.m.toNat = false
def μ (c : C) (v : V) : Nat := (c.m - v.a).toNat
theorem sq (c : C) (h : good c) : Sq (TX c) (μ c) (st c) (st c) (nn c) (fun _ => false) .ret (.exit 4) := by
  have m0 := h.m0
  have m1 := h.m1
  have hB := h.B
  have hq := h.q
  have em : c.m = toInt64 c.m.toNat := by show c.m = ((c.m.toNat : Nat) : Int); omega
  refine sqF (sn := fun i => { st c (i + 1) with a := w64 ((i : Int) + 1) }) (by simp) (by simp) (fun i hi => by show (c.m - (i : Int)).toNat = c.m.toNat - i; omega) (fun i hi => ?_) (fun i hi => by rw [wS (n := c.m.toNat) (by unfold fewN; omega) hi]; rfl) ?_
  · have hi : i < c.m.toNat := hi
    refine ⟨fun _ => ⟨inR (by omega), ?_, fun hb => ?_, fun _ => rfl⟩, fun h' => ?_⟩
    · show (_ || dec (inRange (i : Int) c.q.n = true ∧ inRange c.b c.p.n = true)) = true
      rw [dec_iff.2 ⟨inR (by omega), h.b⟩, Bool.or_true]
    · have hb : bad c i = true := hb
      have := anyB_iff.2 ⟨i, hi, hb⟩
      rw [h.no] at this; cases this
    · have h' : lt (i : Int) c.m = false := h'
      rw [em, ltT hi] at h'; cases h'
  · refine ⟨fun h' => ?_, fun _ => rfl⟩
    have h' : lt (c.m.toNat : Int) c.m = true := h'
    rw [lt_iff] at h'; omega
def get : List (Nat × AV) → Mem → Option (C × V)
  | [(2, .one (.c (.ptr 0 0))), (4, .one (.c (.ptr 1 0))), (5, .one (.c (.ptr 3 0))), (7, .one (.c (.int .i64 c_b))), (30, .one (.c (.int .i64 c_m))), (31, .one (.c (.int .i64 v_a)))], [some (149, [.any, .sl [.int .i64, .int .i64, .sl [.int .u8, .int .u8, .int .u8, .int .u8, .int .u8, .int .u8, .int .u8, .int .u8]] c_w_n c_w_ρ, .any, .sl [.int .i64] c_p_n c_p_ρ, .sl [.int .i64] c_q_n c_q_ρ]), some (4, [.bool v_r]), some (4, [.row false [.bool] c_B c_z]), some (23, [.os 2 1]), none, none, none, some (149, [.any, .sl [.int .i64, .int .i64, .sl [.int .u8, .int .u8, .int .u8, .int .u8, .int .u8, .int .u8, .int .u8, .int .u8]] c_d_n c_d_ρ, .any, .any, .any]), some (49, [.any]), some (0, .lp 85 1 LpS.busy :: .any :: .any :: .ptr 0 0 :: .any :: .ptr 1 0 :: .ptr 3 0 :: t_9)] =>
    bif allAny t_9 41 then some (⟨⟨c_w_n, c_w_ρ⟩, ⟨c_p_n, c_p_ρ⟩, ⟨c_q_n, c_q_ρ⟩, c_B, c_z, ⟨c_d_n, c_d_ρ⟩, c_b, c_m, v_r⟩, ⟨v_a, v_r⟩) else none
  | _, _ => none
theorem get_ok {l : List (Nat × AV)} {m : Mem} {c : C} {v : V} (h : get l m = some (c, v)) : mkS 47 l m = S c v := by
  unfold get at h
  split at h
  · obtain ⟨ha, h⟩ := bif_some h
    have := allAny_ok ha
    subst this
    cases h
    rfl
  · cases h
noncomputable def L : Nat → St → Tree (XE × St) := lqH [2, 4, 5, 7, 30, 31] 10 47 get fun c v => lq1 (S c) (good c ∧ v = st c 0) (.exit 4) (st c (nn c))
theorem ok (fn : Func) (c b : Code) (hf : Tryz.prog.funcs[85]? = some fn) (hc : fn.body = some c) (hb : nthLoop c 0 = some b) : LoopOk Tryz.prog b L :=
  lq1_ok hO 10 85 0 hf hc hb [2, 4, 5, 7, 30, 31] 10 47 S TX t get (fun _ _ _ _ h => get_ok h)
    good μ st nn (.exit 4) sq (fun c => (st c (nn c))) (fun _ _ => StWk.refl)
end Ih
noncomputable abbrev HR : Hd := ⟨HO.pc, HO.hc, [((85, 0), Ih.L)], []⟩
theorem hR : HdOk Tryz.prog HR := HdOk.lhCons hO Ih.ok
namespace Ig
structure C where
  w : Il
  p : Il
  q : Il
  B : Nat
  z : Val
  d : Il
  l : Il
  m : Int
  r0 : Bool
structure V where
  i : Int
  r : Bool
def S (c : C) (v : V) : St := mkS 23 [(0, .one (.c (.yld 9))), (1, .one (.c (.ptr 8 0))), (2, .one (.c (.ptr 7 0))), (6, .one (.c (.sl inSh c.l.n c.l.ρ))), (7, .one (.c (I c.m))), (8, .one (.c (I v.i)))] [some (149, [.any, .sl wrSh c.w.n c.w.ρ, .any, .sl inSh c.p.n c.p.ρ, .sl inSh c.q.n c.q.ρ]), some (4, [.bool v.r]), some (4, [.row false boSh c.B c.z]), some (23, [.os 2 1]), none, none, none, some (149, [.any, .sl wrSh c.d.n c.d.ρ, .any, .any, .any]), some (49, [.any]), some (0, .lp 85 1 LpS.ready :: .any :: .any :: .ptr 0 0 :: .any :: .ptr 1 0 :: .ptr 3 0 :: anyN' 41)]
def jc (c : C) (v : V) : Ih.C := ⟨c.w, c.p, c.q, c.B, c.z, c.d, vI c.l.ρ v.i.toNat, toInt64 c.w.n, v.r⟩
noncomputable def TX (c : C) (v : V) : Tree (XE × V) := .br (lt v.i c.m) (.need (inRange v.i c.l.n) (.need (inRange (vI c.l.ρ v.i.toNat) c.d.n) (.need (dec (Ih.good (jc c v) ∧ (⟨0, v.r⟩ : Ih.V) = Ih.st (jc c v) 0)) (.br false (.leaf (.ret, v)) (.leaf (.normal, ⟨w64 (v.i + 1), v.r⟩)))))) (.leaf (.exit 0, v))
theorem t (c : C) (v : V) : ((evCode Tryz.prog HR (evFn Tryz.prog HR 10) 129 10 1 (loopBody Tryz.prog 129 0) (S c v)).bind fun y => gcT [0, 1, 2, 6, 7, 8] 10 y) = (TX c v).bind fun y => .leaf (y.1, S c y.2) := by kernel_rfl
def st (c : C) (i : Nat) : V := ⟨i, c.r0⟩
def nn (c : C) : Nat := c.l.n
def good (c : C) : Prop := c.m = toInt64 c.l.n ∧ c.l.n ≤ 1000 ∧ ∀ i, i < c.l.n → inRange (vI c.l.ρ i) c.d.n = true ∧ Ih.good (jc c ⟨i, c.r0⟩)
def μ (c : C) (v : V) : Nat := (c.l.n - v.i).toNat
theorem sq (c : C) (h : good c) : Sq (TX c) (μ c) (st c) (st c) (nn c) (fun _ => false) .ret (.exit 0) := by
  obtain ⟨hm, h, hr⟩ := h
  refine sqF (sn := fun i => { st c (i + 1) with i := w64 ((i : Int) + 1) }) (by simp) (by simp) (fun i hi => by show ((c.l.n : Int) - (i : Int)).toNat = c.l.n - i; omega) (fun i hi => ?_) (fun i hi => by rw [wS (n := c.l.n) (by unfold fewN; omega) hi]; rfl) ?_
  · have hi : i < c.l.n := hi
    refine ⟨fun _ => ⟨inR hi, (hr i hi).1, dec_iff.2 ⟨(hr i hi).2, rfl⟩, fun h => (by cases h), fun _ => rfl⟩, fun h' => ?_⟩
    have h' : lt (i : Int) c.m = false := h'
    rw [hm, ltT hi] at h'; cases h'
  · refine ⟨fun h' => ?_, fun _ => rfl⟩
    have h' : lt (c.l.n : Int) c.m = true := h'
    rw [hm, lt_iff] at h'
    have h' : (c.l.n : Int) < (c.l.n : Int) := h'
    omega
def get : List (Nat × AV) → Mem → Option (C × V)
  | [(0, .one (.c (.yld 9))), (1, .one (.c (.ptr 8 0))), (2, .one (.c (.ptr 7 0))), (6, .one (.c (.sl [.int .i64] c_l_n c_l_ρ))), (7, .one (.c (.int .i64 c_m))), (8, .one (.c (.int .i64 v_i)))], [some (149, [.any, .sl [.int .i64, .int .i64, .sl [.int .u8, .int .u8, .int .u8, .int .u8, .int .u8, .int .u8, .int .u8, .int .u8]] c_w_n c_w_ρ, .any, .sl [.int .i64] c_p_n c_p_ρ, .sl [.int .i64] c_q_n c_q_ρ]), some (4, [.bool v_r]), some (4, [.row false [.bool] c_B c_z]), some (23, [.os 2 1]), none, none, none, some (149, [.any, .sl [.int .i64, .int .i64, .sl [.int .u8, .int .u8, .int .u8, .int .u8, .int .u8, .int .u8, .int .u8, .int .u8]] c_d_n c_d_ρ, .any, .any, .any]), some (49, [.any]), some (0, .lp 85 1 LpS.ready :: .any :: .any :: .ptr 0 0 :: .any :: .ptr 1 0 :: .ptr 3 0 :: t_9)] =>
    bif allAny t_9 41 then some (⟨⟨c_w_n, c_w_ρ⟩, ⟨c_p_n, c_p_ρ⟩, ⟨c_q_n, c_q_ρ⟩, c_B, c_z, ⟨c_d_n, c_d_ρ⟩, ⟨c_l_n, c_l_ρ⟩, c_m, v_r⟩, ⟨v_i, v_r⟩) else none
  | _, _ => none
theorem get_ok {l : List (Nat × AV)} {m : Mem} {c : C} {v : V} (h : get l m = some (c, v)) : mkS 23 l m = S c v := by
  unfold get at h
  split at h
  · obtain ⟨ha, h⟩ := bif_some h
    have := allAny_ok ha
    subst this
    cases h
    rfl
  · cases h
noncomputable def L : Nat → St → Tree (XE × St) := dropH [4, 5, 6] [(0, [1, 3, 4]), (7, [1]), (8, []), (9, [2, 4, 5])] (lqH [0, 1, 2, 6, 7, 8] 10 23 get fun c v => lq1 (S c) (good c ∧ v = st c 0) (.exit 0) (st c (nn c)))
theorem ok (fn : Func) (c b : Code) (hf : Tryz.prog.funcs[129]? = some fn) (hc : fn.body = some c) (hb : nthLoop c 0 = some b) : LoopOk Tryz.prog b L :=
  dropH_ok [4, 5, 6] [(0, [1, 3, 4]), (7, [1]), (8, []), (9, [2, 4, 5])] (lq1_ok hR 10 129 0 hf hc hb [0, 1, 2, 6, 7, 8] 10 23 S TX t get (fun _ _ _ _ h => get_ok h)
    good μ st nn (.exit 0) sq (fun c => (st c (nn c))) (fun _ _ => StWk.refl))
end Ig
noncomputable abbrev HS : Hd := ⟨HO.pc, HO.hc, [((129, 0), orH If.L Ig.L)], []⟩
theorem hS : HdOk Tryz.prog HS := HdOk.lhCons hO fun fn c b hf hc hb => orH_ok (If.ok fn c b hf hc hb) (Ig.ok fn c b hf hc hb)
end Hs
end Go.Proofs.YtennlgngdjegoaaGreat
