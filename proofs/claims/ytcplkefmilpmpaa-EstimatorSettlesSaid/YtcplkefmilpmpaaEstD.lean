/-
  The estimator: the chapter's examples; the two laws that hold the program against the reference.
-/
import Derived.Test.YtcplkefmilpmpaaEstC
namespace Go.Proofs.Ytcplkefmilpmpaa
open Go Go.Sx

theorem ref_tmo (x p : Int) (h0 : 1 ≤ x) (hp : 1 ≤ p) : max (min (x * p) 65536) x = min (x * p) (max x 65536) := by
  have : x ≤ x * p := by
    have := Int.mul_le_mul (Int.le_refl x) hp (by omega) (by omega)
    omega
  omega

theorem run18_eq {a b c d x : Int} (hd : 0 ≤ d ∧ d ≤ 12) (hx : 0 ≤ x ∧ x ≤ 9663676416) : (run18 ⟨a, b, c, d, x⟩ ⟨x, 0⟩).1 = .exit 0 ∧ (run18 ⟨a, b, c, d, x⟩ ⟨x, 0⟩).2.out = x * 2 ^ d.toNat :=
  fin_of (step18 ⟨a, b, c, d, x⟩) (decide_eq_true ⟨by simp, hd.1, hd.2, hx.1, hx.2, by simp⟩)

/-- the reference's base -/
def rbase (b c : Int) : Int := imax (imax (IntKind.i64.wrap (IntKind.i64.wrap (b.tdiv 8) + c)) 2) (IntKind.i64.wrap (IntKind.i64.wrap (b.tdiv 8) + 1))

theorem rbase_eq {a b c d : Int} (h : vld a b c d = true) (ha : lt 0 a = true) : rbase b c = base a b c := by
  have h := vld_iff.1 h
  unfold rbase base
  rw [ha, Int.tdiv_eq_ediv_of_nonneg (by omega), w64_id (x := b / 8) (by omega) (by omega), w64_id (x := b / 8 + c) (by omega) (by omega), w64_id (x := b / 8 + 1) (by omega) (by omega), imax_eq, imax_eq]
  simp only [cond_true]; omega

theorem t18 (a b c d : Int) : (bif chk a b c d != 0 then 0
      else
        bif lt 0 a then imax (imin (run18 ⟨a, b, c, d, rbase b c⟩ ⟨rbase b c, 0⟩).2.out 65536) (rbase b c)
        else imax (imin (run18 ⟨a, b, c, d, 64⟩ ⟨64, 0⟩).2.out 65536) 64) = tmo a b c d := by
  unfold chk tmo
  cases hv : vld a b c d
  · rfl
  · have h := vld_iff.1 hv
    have hb := base_bd hv
    have hp := (pow_bd (d := d) (by omega)).2
    simp only [cond_true, bne_self_eq_false, cond_false]
    cases ha : lt 0 a
    · simp only [cond_false, imax_eq, imin_eq, base, ha]
      rw [(run18_eq (by omega) (by omega)).2, ref_tmo 64 _ (by omega) hp]
    · simp only [cond_true, imax_eq, imin_eq]
      rw [rbase_eq hv ha, (run18_eq (by omega) (by omega)).2]
      exact ref_tmo _ _ hb.1 hp

theorem t18n (a b c d : Int) : Tree.Safe (Tree.br (chk a b c d != 0) (Tree.leaf PUnit.unit)
  (Tree.br (lt 0 a)
    (Tree.need true
      (Tree.need true
        (Tree.need (inv18 ⟨a, b, c, d, rbase b c⟩ ⟨rbase b c, 0⟩)
          (Tree.need (eqXE (run18 ⟨a, b, c, d, rbase b c⟩ ⟨rbase b c, 0⟩).1 (XE.exit 0)) (Tree.leaf PUnit.unit)))))
    (Tree.need (inv18 ⟨a, b, c, d, 64⟩ ⟨64, 0⟩)
      (Tree.need (eqXE (run18 ⟨a, b, c, d, 64⟩ ⟨64, 0⟩).1 (XE.exit 0)) (Tree.leaf PUnit.unit))))) := by
  refine ⟨fun _ => trivial, fun h => ?_⟩
  have hv : vld a b c d = true := by
    unfold chk at h
    cases hv : vld a b c d
    · rw [hv] at h; cases h
    · rfl
  have h := vld_iff.1 hv
  have hb := base_bd hv
  refine ⟨fun ha => ⟨rfl, rfl, ?_⟩, fun _ => ⟨decide_eq_true ⟨by simp, by simp only; omega, by simp only; omega, by simp, by simp, by simp⟩, eqXE_iff.2 (run18_eq (by omega) (by omega)).1, trivial⟩⟩
  rw [rbase_eq hv ha]
  exact ⟨decide_eq_true ⟨by simp, by simp only; omega, by simp only; omega, by simp only; omega, by simp only; omega, by simp⟩, eqXE_iff.2 (run18_eq (by omega) (by omega)).1, trivial⟩

set_option maxRecDepth 100000

theorem p18 : PcOne Try.prog 18 Gtmo := pcOne_of_ev h3 10 18 fun args r h => by
  unfold Gtmo at h; split at h <;> simp at h; subst h
  rename_i a b c d
  exact ⟨rfl, needs_of_conds (by kernel_rfl) (t18n a b c d), Eq.trans (by kernel_rfl) (T1 (t18 a b c d))⟩

abbrev H4 : Hd := ⟨[(10, Gsample), (11, Gsample), (15, Gnew), (16, Gnew), (17, Gtmo), (18, Gtmo), (19, Gmean), (20, Gmean), (21, Gexp), (22, Gexp), (13, Gchk), (23, G23), (14, Gchk)], []⟩
theorem h4 : HdOk Try.prog H4 := (((((((((h2.pcCons p22).pcCons p21).pcCons p20).pcCons p19).pcCons p18).pcCons p17).pcCons p16).pcCons p15).pcCons p11).pcCons p10

def Gawake : List A1 → Option AV
  | [] => some (.one (.c (.bool true)))
  | _ => none
theorem p12 : PcOne Try.prog 12 Gawake := pcOne_of_ev h4 10 12 fun args r h => by
  unfold Gawake at h; split at h <;> simp at h; subst h
  exact ⟨rfl, by kernel_rfl, by kernel_rfl⟩

abbrev H5 : Hd := ⟨(12, Gawake) :: [(10, Gsample), (11, Gsample), (15, Gnew), (16, Gnew), (17, Gtmo), (18, Gtmo), (19, Gmean), (20, Gmean), (21, Gexp), (22, Gexp), (13, Gchk), (23, G23), (14, Gchk)], []⟩
theorem h5 : HdOk Try.prog H5 := h4.pcCons p12

end Go.Proofs.Ytcplkefmilpmpaa
