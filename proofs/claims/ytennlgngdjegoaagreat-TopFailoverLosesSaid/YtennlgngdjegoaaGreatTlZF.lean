/-
  Part TlZF of the proof: TfT TfU TfV.
-/
import Derived.Test.YtennlgngdjegoaaGreatTlZ
import Derived.Test.YtennlgngdjegoaaGreatTlZE
namespace Go.Proofs.YtennlgngdjegoaaGreat
open Go Go.Sx Go.RowKit Classical
set_option maxRecDepth 100000
set_option maxHeartbeats 4000000
namespace Hs
open Fo (inSh scSh evSh pcH litK headK)
noncomputable abbrev HZ : Hd := ⟨(33, oG Gtru) :: HZ0.pc, HZ0.hc, [((8, 2), Ir.L), ((8, 1), Iq.L), ((8, 0), Ip.L)], []⟩
theorem hZ : HdOk Tryz.prog HZ := HdOk.lhCons (HdOk.lhCons (HdOk.lhCons (hZ0.pcCons pSwd) Ip.ok) Iq.ok) Ir.ok
def cU (A B : Il) (m : Nat) : Il := unI A B m
def tT (τ : Val) (m : Nat) : Il := ⟨m, atS τ m⟩
def nT (τ : Val) (m : Nat) : Int := w64 (nwS τ m + 5)
noncomputable def lossI (h : Hi) (l : Il) : Il := ⟨okN (cutE h l) (ls l h.w.n).1, (ls l h.w.n).2⟩
noncomputable def ptA (h : Hi) (l : Il) (τ : Val) : Int := ptX (cutE h l) (tmB h (tT τ h.w.n) (nT τ h.w.n)) h l (tT τ h.w.n) (nT τ h.w.n)
noncomputable def ptB (h : Hi) (l : Il) (τ : Val) : Int := ptY (cutE h l) (tmB h (tT τ h.w.n) (nT τ h.w.n)) h (tT τ h.w.n)
noncomputable def g1 (h : Hi) : Bool := !(fwB h)
noncomputable def g2 (h : Hi) (A B : Il) (t : Nat) : Bool := (((g1 h || rfE h != 0) || lt 50 (toInt64 A.n)) || lt 50 (toInt64 B.n)) || toInt64 t != toInt64 h.w.n
noncomputable def g3 (h : Hi) (A B : Il) (t : Nat) : Bool := g2 h A B t || !(rcsB h A)
noncomputable def g4 (h : Hi) (A B : Il) (t : Nat) : Bool := g3 h A B t || !(rcsB h B)
noncomputable def ahead (h : Hi) (A B : Il) (t : Nat) (b : Bool) : List (Bool × Bool) :=
  [(true, true), (!((g1 h == false) && true) || dec (fewH h), true), (!((g2 h A B t == false) && true) || dec (fewH h ∧ fewN A.n), true), (!((g3 h A B t == false) && true) || dec (fewH h ∧ fewN B.n), true), (g4 h A B t, b)]
noncomputable def c2 (h : Hi) (A B : Il) (τ : Val) : Bool :=
  (((w64 (w64 (w64 (cutE h (cU A B h.w.n) + cutE h A) + ptB h (cU A B h.w.n) τ) + ptB h A τ) != 0) || lt (ptA h A τ) (ptA h (cU A B h.w.n) τ)) || lt (toInt64 (lossI h A).n) (toInt64 (lossI h (cU A B h.w.n)).n)) || w64 (toInt64 (lossI h A).n + toInt64 A.n) != toInt64 h.w.n
def ipC (h : Hi) (A B : Il) (t : Nat) (τ : Val) : Ip.C := ⟨A, B, h, ⟨t, τ⟩, toInt64 h.w.n⟩
noncomputable def iqC (h : Hi) (A B : Il) (τ : Val) : Iq.C := ⟨A, B, h, tT τ h.w.n, nT τ h.w.n, lossI h (cU A B h.w.n), lossI h A, ptA h A τ, lossI h A, toInt64 (lossI h A).n⟩
noncomputable def irC (h : Hi) (A B : Il) : Ir.C := ⟨A, B, h, lossI h A, lossI h (cU A B h.w.n), toInt64 (lossI h (cU A B h.w.n)).n⟩
noncomputable def behind (h : Hi) (A B : Il) (t : Nat) (τ : Val) : List (Bool × Bool) :=
  [(dec (Ip.good (ipC h A B t τ) ∧ (⟨0, .zero, 0, .zero, 0, 0⟩ : Ip.V) = Ip.st (ipC h A B t τ) 0), true),
   (dec ((fewH h ∧ h.w.n ≤ 64) ∧ fewN (cU A B h.w.n).n), true), (dec ((fewH h ∧ h.w.n ≤ 64) ∧ fewN A.n), true), (dec ((fewH h ∧ h.w.n ≤ 64) ∧ fewN (cU A B h.w.n).n), true), (dec ((fewH h ∧ h.w.n ≤ 64) ∧ fewN A.n), true),
   (c2 h A B τ, false), (dec (Iq.good (iqC h A B τ) ∧ (⟨0⟩ : Iq.V) = Iq.st (iqC h A B τ) 0), true), (dec (Ir.good (irC h A B) ∧ (⟨0⟩ : Ir.V) = Ir.st (irC h A B) 0), true),
   (dec (RsOk h A.n A.ρ), true), (dec (0 ≤ toInt64 A.n ∧ toInt64 A.n ≤ 1000), true), (dec (ImOk (rsX h A.n A.ρ) (toInt64 A.n).toNat (idV (toInt64 A.n).toNat)), true), (dec (ImOk h A.n A.ρ), true),
   (!(true && true) || dec (fewN h.s.n ∧ sameI ⟨h.s.n, apV h.s.n (Fc.im h.s.ρ h.s.n) (toInt64 A.n).toNat (selW (cpW (selW h.w.ρ A.ρ A.n) A.n) (idV (toInt64 A.n).toNat) (toInt64 A.n).toNat)⟩ ⟨h.s.n, apV h.s.n (Fc.im h.s.ρ h.s.n) A.n (selW h.w.ρ A.ρ A.n)⟩), true)]
theorem path8a (h : Hi) (A B : Il) (t : Nat) (τ : Val) : (evFn Tryz.prog HZ 10 8 [.agg [.sl inSh h.s.n h.s.ρ, .sl wrSh h.w.n h.w.ρ, .sl evSh h.e.n h.e.ρ], .agg [.sl inSh A.n A.ρ, .sl inSh B.n B.ρ], .c (.sl [.int .u8] t τ)] []).vals.follow [true] = some (ahead h A B t true, .one (.c (.bool true))) := by kernel_rfl
theorem path8b (h : Hi) (A B : Il) (t : Nat) (τ : Val) : (evFn Tryz.prog HZ 10 8 [.agg [.sl inSh h.s.n h.s.ρ, .sl wrSh h.w.n h.w.ρ, .sl evSh h.e.n h.e.ρ], .agg [.sl inSh A.n A.ρ, .sl inSh B.n B.ρ], .c (.sl [.int .u8] t τ)] []).vals.follow [false, false] = some (ahead h A B t false ++ behind h A B t τ, .one (.c (.bool true))) := by kernel_rfl
theorem guard_ok {g : Bool} {p : Prop} (h : g = false → p) : (!((g == false) && true) || dec p) = true := by
  cases hg : g
  · rw [dec_iff.2 (h hg), Bool.or_true]
  · rfl
theorem g1_few {h : Hi} (hg : g1 h = false) : (fewH h ∧ h.w.n ≤ 40 ∧ h.s.n ≤ 9) ∧ datOk h ∧ ∀ i, i < h.w.n → vL h.w.ρ 2 i ≤ 30 := by
  have hf : fwB h = true := by
    unfold g1 at hg
    rwa [Bool.not_eq_false'] at hg
  obtain ⟨⟨f1, _⟩, f3⟩ := fw_ok hf
  unfold fwB at hf
  rw [Bool.and_eq_true, Bool.and_eq_true, Bool.not_eq_true', Bool.or_eq_false_iff, Bool.or_eq_false_iff, ← Bool.not_eq_true, ← Bool.not_eq_true, ← Bool.not_eq_true, lt_iff, lt_iff, lt_iff] at hf
  obtain ⟨⟨⟨a1, a2⟩, a3⟩, a4, a5⟩ := hf
  have a1 : ¬ (9 : Int) < (h.s.n : Int) := a1
  have a2 : ¬ (40 : Int) < (h.w.n : Int) := a2
  refine ⟨⟨f1, by omega, by omega⟩, f3, fun i hi => ?_⟩
  rw [Bool.not_eq_true', ← Bool.not_eq_true, anyB_iff] at a5
  have hb : ¬ (lt 30 (toInt64 (vL h.w.ρ 2 i)) = true) := fun hh => a5 ⟨i, hi, hh⟩
  rw [lt_iff] at hb
  have hb : ¬ (30 : Int) < ((vL h.w.ρ 2 i : Nat) : Int) := hb
  omega
theorem g2_parts {h : Hi} {A B : Il} {t : Nat} (hg : g2 h A B t = false) : g1 h = false ∧ rfE h = 0 ∧ A.n ≤ 50 ∧ B.n ≤ 50 ∧ t = h.w.n := by
  unfold g2 at hg
  rw [Bool.or_eq_false_iff, Bool.or_eq_false_iff, Bool.or_eq_false_iff, Bool.or_eq_false_iff, ← Bool.not_eq_true (lt _ _), ← Bool.not_eq_true (lt _ _), lt_iff, lt_iff] at hg
  obtain ⟨⟨⟨⟨a1, a2⟩, a3⟩, a4⟩, a5⟩ := hg
  have a3 : ¬ (50 : Int) < (A.n : Int) := a3
  have a4 : ¬ (50 : Int) < (B.n : Int) := a4
  refine ⟨a1, by simpa [bne] using a2, by omega, by omega, ?_⟩
  have a5 : toInt64 t = toInt64 h.w.n := by simpa [bne] using a5
  exact Int.ofNat.inj a5
theorem g3_parts {h : Hi} {A B : Il} {t : Nat} (hg : g3 h A B t = false) : g2 h A B t = false ∧ rcsB h A = true := by
  unfold g3 at hg
  rw [Bool.or_eq_false_iff, Bool.not_eq_false'] at hg
  exact hg
theorem g4_parts {h : Hi} {A B : Il} {t : Nat} (hg : g4 h A B t = false) : g3 h A B t = false ∧ rcsB h B = true := by
  unfold g4 at hg
  rw [Bool.or_eq_false_iff, Bool.not_eq_false'] at hg
  exact hg
theorem few50 {n : Nat} (h : n ≤ 50) : fewN n := by unfold fewN; omega
theorem ahead_ok {h : Hi} {A B : Il} {t : Nat} {b : Bool} (hb : g4 h A B t = b) : okB (ahead h A B t b) = true := by
  have e1 : (!((g1 h == false) && true) || dec (fewH h)) = true := guard_ok fun hg => (g1_few hg).1.1
  have e2 : (!((g2 h A B t == false) && true) || dec (fewH h ∧ fewN A.n)) = true := guard_ok fun hg => by
    obtain ⟨a, _, c, _⟩ := g2_parts hg
    exact ⟨(g1_few a).1.1, few50 c⟩
  have e3 : (!((g3 h A B t == false) && true) || dec (fewH h ∧ fewN B.n)) = true := guard_ok fun hg => by
    obtain ⟨a, _, _, c, _⟩ := g2_parts (g3_parts hg).1
    exact ⟨(g1_few a).1.1, few50 c⟩
  unfold ahead
  rw [e1, e2, e3, hb]
  cases b <;> rfl
section
variable {h : Hi} {A B : Il} {τ : Val} (hm : h.w.n ≤ 40) (ht : ∀ i, i < h.w.n → 0 ≤ vI τ i ∧ vI τ i ≤ 255)
include hm ht
theorem tm_false : tmB h (tT τ h.w.n) (nT τ h.w.n) = false := by
  have hN : nT τ h.w.n = nwS τ h.w.n + 5 := nw_end hm ht
  have hr := nw_rng hm ht h.w.n (Nat.le_refl _)
  rw [hN]
  unfold tmB
  have e1 : lt 1073741824 (nwS τ h.w.n + 5) = false := by rw [← Bool.not_eq_true, lt_iff]; omega
  have e2 : anyB (Gb.bad ⟨tT τ h.w.n⟩) ((tT τ h.w.n).n - 1) = false := anyB_none fun i hi => by
    have hi : i < h.w.n - 1 := hi
    show lt (vI (atS τ h.w.n) (h.w.n - 1 - i)) (vI (atS τ h.w.n) (h.w.n - 1 - i - 1)) = false
    rw [atS_at τ _ _ (by omega), atS_at τ _ _ (by omega), ← Bool.not_eq_true, lt_iff]
    have := nw_le hm ht (i := h.w.n - 1 - i - 1 + 1) (j := h.w.n - 1 - i + 1) (by omega) (by omega)
    omega
  have e3 : anyB (Gc.bad ⟨tT τ h.w.n, h, nwS τ h.w.n + 5, toInt64 (tT τ h.w.n).n⟩) (tT τ h.w.n).n = false := anyB_none fun i hi => by
    have hi : i < h.w.n := hi
    show (lt (vI (atS τ h.w.n) i) 0 || lt (nwS τ h.w.n + 5) (vI (atS τ h.w.n) i)) = false
    rw [atS_at τ _ _ hi, Bool.or_eq_false_iff, ← Bool.not_eq_true, ← Bool.not_eq_true, lt_iff, lt_iff]
    have a := nw_rng hm ht (i + 1) (by omega)
    have b := nw_le hm ht (i := i + 1) (j := h.w.n) (by omega) (Nat.le_refl _)
    omega
  unfold srtB
  rw [e1, e2, e3]; rfl
theorem ptV_at {l : Il} : ptV h l (tT τ h.w.n) (nT τ h.w.n) = if (ls l h.w.n).1 = 0 then 0 else nwS τ h.w.n + 5 - nwS τ ((vI (ls l h.w.n).2 0).toNat + 1) := by
  have hN : nT τ h.w.n = nwS τ h.w.n + 5 := nw_end hm ht
  have hr := nw_rng hm ht h.w.n (Nat.le_refl _)
  unfold ptV
  by_cases h0 : (ls l h.w.n).1 = 0
  · rw [if_pos h0, h0]; rfl
  · rw [if_neg h0]
    have : (toInt64 (ls l h.w.n).1 == 0) = false := by
      rw [beq_eq_false_iff_ne]
      show ((ls l h.w.n).1 : Int) ≠ 0
      omega
    rw [this]
    obtain ⟨b1, b2⟩ := ls_in l h.w.n 0 (by omega)
    show w64 (nT τ h.w.n - vI (atS τ h.w.n) (vI (ls l h.w.n).2 0).toNat) = _
    rw [hN, atS_at τ _ _ (by omega)]
    have a := nw_rng hm ht ((vI (ls l h.w.n).2 0).toNat + 1) (by omega)
    unfold w64
    exact w64_id (by omega) (by omega)
theorem pt_vals {l : Il} (h0 : cutE h l = 0) : ptB h l τ = 0 ∧ ptA h l τ = ptV h l (tT τ h.w.n) (nT τ h.w.n) := by
  have tm := tm_false hm ht
  have e : (toInt64 (tT τ h.w.n).n != toInt64 h.w.n) = false := by simp [tT]
  have n0 : ((0 : Int) != 0) = false := rfl
  refine ⟨?_, ?_⟩
  · unfold ptB ptY; rw [h0, tm, e, n0]; rfl
  · unfold ptA ptX; rw [h0, tm, e, n0]; rfl
end
theorem lost_n {h : Hi} {l : Il} (h0 : cutE h l = 0) : (lossI h l).n = (ls l h.w.n).1 := by
  unfold lossI okN
  rw [h0]; rfl
section
variable {h : Hi} {A B : Il} {t : Nat} {τ : Val} (hg : g4 h A B t = false) (ht : ∀ i, i < t → 0 ≤ vI τ i ∧ vI τ i ≤ 255)
include hg ht
theorem behind_ok : okB (behind h A B t τ) = true := by
  obtain ⟨hg3, hB⟩ := g4_parts hg
  obtain ⟨hg2, hA⟩ := g3_parts hg3
  obtain ⟨hg1, hr0, hA50, hB50, rfl⟩ := g2_parts hg2
  obtain ⟨⟨f1, hm, hs9⟩, fd, hd⟩ := g1_few hg1
  have hU := un_rcs (A := A) (B := B) hm hA hB
  have cA := rcs_cut f1 fd hA
  have cUU : cutE h (cU A B h.w.n) = 0 := rcs_cut f1 fd hU
  have hab : ∀ n : Nat, inB A n = true → inB (cU A B h.w.n) n = true := fun n hn => un_in hA hn
  have hle : (cU A B h.w.n).n ≤ h.w.n := unS_le A B h.w.n
  have hlen := ls_len hab h.w.n
  have fA : fewN A.n := few50 hA50
  have fU : fewN (cU A B h.w.n).n := few50 (by omega)
  obtain ⟨pA1, pA2⟩ := pt_vals hm ht cA
  obtain ⟨pU1, pU2⟩ := pt_vals hm ht cUU
  have hN := nw_end hm ht
  have lA := lost_n cA
  have lU := lost_n cUU
  have lsA := ls_le A h.w.n
  have lsU := ls_le (cU A B h.w.n) h.w.n
  have hpt : ptA h (cU A B h.w.n) τ ≤ ptA h A τ := by
    rw [pA2, pU2, ptV_at hm ht, ptV_at hm ht]
    by_cases hb0 : (ls (cU A B h.w.n) h.w.n).1 = 0
    · rw [if_pos hb0]
      by_cases ha0 : (ls A h.w.n).1 = 0
      · rw [if_pos ha0]; omega
      · rw [if_neg ha0]
        obtain ⟨b1, b2⟩ := ls_in A h.w.n 0 (by omega)
        have := nw_le hm ht (i := (vI (ls A h.w.n).2 0).toNat + 1) (j := h.w.n) (by omega) (Nat.le_refl _)
        omega
    · rw [if_neg hb0, if_neg (by omega)]
      have hf := first_le (n := h.w.n) hab (by omega)
      obtain ⟨b1, b2⟩ := ls_in (cU A B h.w.n) h.w.n 0 (by omega)
      obtain ⟨b3, b4⟩ := ls_in A h.w.n 0 (by omega)
      have := nw_le hm ht (i := (vI (ls A h.w.n).2 0).toNat + 1) (j := (vI (ls (cU A B h.w.n) h.w.n).2 0).toNat + 1) (by omega) (by omega)
      omega
  have hcount := cut_count fA cA
  have oI : ImOk h A.n A.ρ := ⟨f1, by rw [← his_same f1 fd]; exact hr0, by omega, (rcs_parts hA).2.1, fd⟩
  obtain ⟨r1, r2, r3⟩ := rs_his oI
  obtain ⟨s0, _⟩ := his0 oI.his
  obtain ⟨s1, s2, s3⟩ := szE_few (n := h.s.n) (ρ := h.s.ρ) s0
  have e1 : dec (Ip.good (ipC h A B h.w.n τ) ∧ (⟨0, .zero, 0, .zero, 0, 0⟩ : Ip.V) = Ip.st (ipC h A B h.w.n τ) 0) = true := dec_iff.2 ⟨{
    m0 := by show (0 : Int) ≤ (h.w.n : Int); omega
    m1 := by show (h.w.n : Int) ≤ 1000; omega
    a := fA
    b := few50 hB50
    t := Nat.le_refl _ }, rfl⟩
  have e2 : dec ((fewH h ∧ h.w.n ≤ 64) ∧ fewN (cU A B h.w.n).n) = true := dec_iff.2 ⟨⟨f1, by omega⟩, fU⟩
  have e3 : dec ((fewH h ∧ h.w.n ≤ 64) ∧ fewN A.n) = true := dec_iff.2 ⟨⟨f1, by omega⟩, fA⟩
  have e4 : c2 h A B τ = false := by
    unfold c2
    rw [cA, cUU, pA1, pU1, Bool.or_eq_false_iff, Bool.or_eq_false_iff, Bool.or_eq_false_iff, ← Bool.not_eq_true (lt _ _), ← Bool.not_eq_true (lt _ _), lt_iff, lt_iff, lA, lU]
    refine ⟨⟨⟨rfl, by omega⟩, ?_⟩, ?_⟩
    · show ¬ (((ls A h.w.n).1 : Int) < ((ls (cU A B h.w.n) h.w.n).1 : Int))
      omega
    · show (w64 (((ls A h.w.n).1 : Int) + (A.n : Int)) != (h.w.n : Int)) = false
      unfold w64
      rw [w64_id (by omega) (by omega)]
      have : ((ls A h.w.n).1 : Int) + (A.n : Int) = (h.w.n : Int) := by omega
      rw [this]; simp
  have e5 : dec (Iq.good (iqC h A B τ) ∧ (⟨0⟩ : Iq.V) = Iq.st (iqC h A B τ) 0) = true := dec_iff.2 ⟨{
    m := rfl
    f := by show fewN (lossI h A).n; rw [lA]; exact few50 (by omega)
    a := fA
    r := fun i hi => by
      have hi : i < (lossI h A).n := hi
      rw [lA] at hi
      obtain ⟨b1, b2⟩ := ls_in A h.w.n i hi
      show inRange (vI (ls A h.w.n).2 i) h.w.n = true
      unfold inRange
      rw [Bool.and_eq_true, le_iff, lt_iff]
      exact ⟨b1, b2⟩
    no := anyB_none fun i hi => by
      have hi : i < (lossI h A).n := hi
      rw [lA] at hi
      have hmem := fl_ok (fun i => !(inB A (i : Nat))) h.w.n
      obtain ⟨x, x1, x2, x3⟩ := hmem.mem i (by rw [← ls_fl]; exact hi)
      rw [← ls_fl] at x2
      have x3 : (!(inB A (x : Nat))) = true := x3
      rw [Bool.not_eq_true'] at x3
      show (inB A (vI (ls A h.w.n).2 i) || lt (ptA h A τ) (w64 (nT τ h.w.n - vI (atS τ h.w.n) (vI (ls A h.w.n).2 i).toNat))) = false
      rw [x2, x3, Bool.false_or, ← Bool.not_eq_true, lt_iff]
      have hxn : (((x : Nat) : Int)).toNat = x := rfl
      rw [hxn, atS_at τ _ _ x1, pA2, ptV_at hm ht, if_neg (by omega)]
      have hN' : nT τ h.w.n = nwS τ h.w.n + 5 := hN
      rw [hN']
      have a := nw_rng hm ht (x + 1) (by omega)
      have b := nw_rng hm ht h.w.n (Nat.le_refl _)
      have ew : w64 (nwS τ h.w.n + 5 - nwS τ (x + 1)) = nwS τ h.w.n + 5 - nwS τ (x + 1) := by unfold w64; exact w64_id (by omega) (by omega)
      rw [ew]
      obtain ⟨b1, b2⟩ := ls_in A h.w.n 0 (by omega)
      have hfx : vI (ls A h.w.n).2 0 ≤ (x : Int) := by
        rcases Nat.eq_zero_or_pos i with hz | hz
        · subst hz; omega
        · have := hmem.asc 0 i hz (by rw [← ls_fl]; exact hi)
          rw [← ls_fl] at this
          omega
      have := nw_le hm ht (i := (vI (ls A h.w.n).2 0).toNat + 1) (j := x + 1) (by omega) (by omega)
      omega }, rfl⟩
  have e6 : dec (Ir.good (irC h A B) ∧ (⟨0⟩ : Ir.V) = Ir.st (irC h A B) 0) = true := dec_iff.2 ⟨{
    m := rfl
    f := by show fewN (lossI h (cU A B h.w.n)).n; rw [lU]; exact few50 (by omega)
    o := by show fewN (lossI h A).n; rw [lA]; exact few50 (by omega)
    no := anyB_none fun i hi => by
      have hi : i < (lossI h (cU A B h.w.n)).n := hi
      rw [lU] at hi
      have hmem := fl_ok (fun i => !(inB (cU A B h.w.n) (i : Nat))) h.w.n
      obtain ⟨x, x1, x2, x3⟩ := hmem.mem i (by rw [← ls_fl]; exact hi)
      rw [← ls_fl] at x2
      have x3 : (!(inB (cU A B h.w.n) (x : Nat))) = true := x3
      rw [Bool.not_eq_true'] at x3
      have hxA : inB A (x : Nat) = false := by
        cases hh : inB A (x : Nat)
        · rfl
        · rw [hab x hh] at x3; cases x3
      show (!(inB (lossI h A) (vI (ls (cU A B h.w.n) h.w.n).2 i))) = false
      rw [x2, Bool.not_eq_false', inB_iff, lA]
      have hmA := fl_ok (fun i => !(inB A (i : Nat))) h.w.n
      obtain ⟨p, p1, p2⟩ := hmA.all x x1 (by show (!(inB A (x : Nat))) = true; rw [hxA]; rfl)
      rw [← ls_fl] at p1 p2
      exact ⟨p, p1, p2⟩ }, rfl⟩
  have e7 : dec (RsOk h A.n A.ρ) = true := dec_iff.2 ⟨oI, by omega, icl_of oI (by omega) (rcs_parts hA).2.2, fun i hi => by have := hd i hi; omega⟩
  have e8 : dec (0 ≤ toInt64 A.n ∧ toInt64 A.n ≤ 1000) = true := dec_iff.2 ⟨by show (0 : Int) ≤ (A.n : Int); omega, by show (A.n : Int) ≤ 1000; omega⟩
  have e9 : dec (ImOk (rsX h A.n A.ρ) (toInt64 A.n).toNat (idV (toInt64 A.n).toNat)) = true := dec_iff.2 {
    few := r2
    his := r1
    k1 := by show A.n ≤ 1000; omega
    set := anyB_none fun i hi => by
      have hi : i < A.n := hi
      show setB (A.n : Int) (idV A.n) i = false
      unfold setB
      rw [idV_at A.n i hi]
      have c1 : (lt (i : Int) 0 || le (A.n : Int) (i : Int)) = false := by
        rw [Bool.or_eq_false_iff, ← Bool.not_eq_true, ← Bool.not_eq_true, lt_iff, le_iff]
        omega
      rw [c1, Bool.false_or, Bool.and_eq_false_iff]
      rcases Nat.eq_zero_or_pos i with hz | hz
      · left; rw [← Bool.not_eq_true, lt_iff]; omega
      · right
        have e : (w64 ((i : Int) - 1)).toNat = i - 1 := by
          unfold w64
          rw [w64_id (by omega) (by omega)]; omega
        rw [e, idV_at A.n (i - 1) (by omega), ← Bool.not_eq_true, le_iff]
        omega
    dat := r3 }
  have e10 : dec (ImOk h A.n A.ρ) = true := dec_iff.2 oI
  have e11 : dec (fewN h.s.n ∧ sameI ⟨h.s.n, apV h.s.n (Fc.im h.s.ρ h.s.n) (toInt64 A.n).toNat (selW (cpW (selW h.w.ρ A.ρ A.n) A.n) (idV (toInt64 A.n).toNat) (toInt64 A.n).toNat)⟩ ⟨h.s.n, apV h.s.n (Fc.im h.s.ρ h.s.n) A.n (selW h.w.ρ A.ρ A.n)⟩) = true := dec_iff.2 (by
    refine ⟨few50 (by omega), ?_⟩
    have e : apV h.s.n (Fc.im h.s.ρ h.s.n) A.n (selW (cpW (selW h.w.ρ A.ρ A.n) A.n) (idV A.n) A.n) = apV h.s.n (Fc.im h.s.ρ h.s.n) A.n (selW h.w.ρ A.ρ A.n) := by
      unfold apV
      rw [rs_ap _ _ _ _ A.n (Nat.le_refl _)]
    show sameI ⟨h.s.n, apV h.s.n (Fc.im h.s.ρ h.s.n) A.n (selW (cpW (selW h.w.ρ A.ρ A.n) A.n) (idV A.n) A.n)⟩ _
    rw [e]
    refine sameI_refl fun j hj => ?_
    rw [apV_len hj]
    have := (im_app oI).len j hj
    unfold fewN; omega)
  unfold behind
  rw [e1, e2, e3, e4, e5, e6, e7, e8, e9, e10, e11]
  rfl
end
theorem law8z (n : Nat) (ρ : Val) (m : Nat) (ω : Val) (q : Nat) (ε : Val) (k : Nat) (κ : Val) (j : Nat) (ι : Val) (t : Nat) (τ : Val) (ht : ∀ i, i < t → 0 ≤ vI τ i ∧ vI τ i ≤ 255) {F : Nat → Prop} {W : World} {vs : List Value}
    (h : All2 (A1.Rel F W []) [.agg [.sl inSh n ρ, .sl wrSh m ω, .sl evSh q ε], .agg [.sl inSh k κ, .sl inSh j ι], .c (.sl [.int .u8] t τ)] vs) :
    Calls Tryz.prog 8 vs.toArray W (fun e W' => e = .returned (.bool true) ∧ Below W.heap.size W W') := by
  cases hg : g4 ⟨⟨n, ρ⟩, ⟨m, ω⟩, ⟨q, ε⟩⟩ ⟨k, κ⟩ ⟨j, ι⟩ t
  · refine law_of_follow hZ 10 8 (path8b ⟨⟨n, ρ⟩, ⟨m, ω⟩, ⟨q, ε⟩⟩ ⟨k, κ⟩ ⟨j, ι⟩ t τ) ?_ rfl h
    rw [okB_app, ahead_ok hg, behind_ok hg ht]; rfl
  · exact law_of_follow hZ 10 8 (path8a ⟨⟨n, ρ⟩, ⟨m, ω⟩, ⟨q, ε⟩⟩ ⟨k, κ⟩ ⟨j, ι⟩ t τ) (ahead_ok hg) rfl h
theorem byts_of {ρ : Val} (h : wfL [.sl [.int .u8]] 0 ρ) : ∀ i, i < (ρ.at 0).L [] → 0 ≤ vI (ρ.at 0) i ∧ vI (ρ.at 0) i ≤ 255 := fun i hi => by
  have h := h.1
  simp only [wfC] at h
  have := h.2 i hi 0
  simp only [wfAt, wfC] at this
  simpa [vI, Lit.wf, IntKind.min, IntKind.max, IntKind.signed, IntKind.bits] using this
theorem argH_eq (ρ : Val) : argOf Tryz.prog 53 [.sl inSh, .sl wrSh, .sl evSh] ρ = .agg [.sl inSh ((ρ.at 0).L []) (ρ.at 0), .sl wrSh ((ρ.at 1).L []) (ρ.at 1), .sl evSh ((ρ.at 2).L []) (ρ.at 2)] := by kernel_rfl
theorem argD_eq (ρ : Val) : argOf Tryz.prog 74 [.sl inSh, .sl inSh] ρ = .agg [.sl inSh ((ρ.at 0).L []) (ρ.at 0), .sl inSh ((ρ.at 1).L []) (ρ.at 1)] := by kernel_rfl
theorem argV_eq (ρ : Val) : argOf Tryz.prog 75 [.sl [.int .u8]] ρ = .c (.sl [.int .u8] ((ρ.at 0).L []) (ρ.at 0)) := by kernel_rfl
end Hs
end Go.Proofs.YtennlgngdjegoaaGreat
